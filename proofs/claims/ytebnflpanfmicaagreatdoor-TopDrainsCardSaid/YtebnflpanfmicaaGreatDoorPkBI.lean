/-
  Part 35 of the proof: TopAcc, TopAccs.
-/
import Derived.Test.YtebnflpanfmicaaGreatDoorPkBH
import Derived.Test.YtebnflpanfmicaaGreatDoorPkAR
import Derived.Test.YtebnflpanfmicaaGreatDoorPkAU
import Derived.Lib.QuietBelow
set_option linter.unusedVariables false
set_option linter.unusedSimpArgs false
set_option linter.unusedSectionVars false
namespace Go.Proofs.YtebnflpanfmicaaGreatDoor
open Go.RowKit Go.Sort
def portN (t:List Nat) (v x:Nat):Nat:=(nb t v).idxOf x+1
theorem portN_ok {t:List Nat} {v x:Nat} (h:x∈nb t v):portI t v x=(portN t v x:Int)∧1≤portN t v x∧portN t v x < (nb t v).length+1:=by
 have h1:=List.idxOf_lt_length_of_mem h
 unfold portI idxI portN
 rw[if_pos h,if_neg (by omega)]
 omega
def flyF (g:Geo) (s:FabS) (h k:Nat):Int:=
 let x:=(hopsOf g.t).getD h (0,0)
 ((seenL (k:Int) ((s.nd x.2).next (portN g.t x.2 x.1) k) ((s.nd x.1).sent (portN g.t x.1 x.2) k) (s.ln h)).length:Int)
section
variable {σ:Sig} {w:World} {o:Nat→Option Cmp} {f:Nat} {fa:FabA} {g:Geo} {s:FabS} {c:Nat}
set_option maxRecDepth 100000 in
set_option maxHeartbeats 16000000 in
theorem account_runs (h:SysF σ w o) (hF:FabAt σ f fa g s) (hok:FabOk g s c) (i k:Nat) (hi:i < (hopsOf g.t).length) (hk:k < g.ws.length):
  Calls Tryz.prog 59 #[.pointer (some ⟨fa.fb,0,none⟩), .int .i64 i, .int .i64 k] w fun e w'=>(∃a b c d:Int,e= .returned (.tuple #[.agg #[.int .i64 a, .int .i64 b, .int .i64 (flyF g s i k), .int .i64 c, .int .i64 d], .bool true]))∧Keeps (fun _=>False) w w':=by
 have hp:=h.planS hF.geo
 have hln:=hp.lanes
 have hl3:=hp.nums.lanes.2
 obtain⟨x,hx⟩:∃x,(hopsOf g.t)[i]? =some x:=⟨_,List.getElem?_eq_getElem hi⟩
 have hgd:(hopsOf g.t).getD i (0,0)=x:=by rw[List.getD_eq_getElem?_getD,hx];rfl
 have hcnt:=(hops_in hp.tree hp.t5).2
 have ht5:=hp.t5
 obtain⟨hx1,hx2,hx3,hx4⟩:=(hops_in hp.tree hp.t5).1 x (List.mem_of_getElem? hx)
 obtain⟨y,z⟩:=x
 simp only at hx1 hx2 hx3 hx4
 obtain⟨py1,py2,py3⟩:=portN_ok hx4
 obtain⟨pz1,pz2,pz3⟩:=portN_ok hx3
 have hny:=hF.node y hx1
 have hnz:=hF.node z hx2
 have hrows:=hok.rows i hi
 have hroom:(s.ln i).length≤64:=by have:=hok.room i hi;have:=hp.nums.bag.2;omega
 obtain⟨r,hr⟩:∃r,flyF g s i k=r:=⟨_,rfl⟩
 rw[hr]
 unfold flyF at hr
 rw[hgd]at hr
 simp only at hr
 obtain⟨L,hL⟩:∃L,g.ws.length=L:=⟨_,rfl⟩
 generalize portN g.t y z=py at*
 generalize portN g.t z y=pz at*
 have HPL:=Lib.hid (p:=∀U,Keeps (fun _=>False) w U→Calls Tryz.prog 33 #[.pointer (some ⟨fa.fb,0,none⟩)] U fun e w'=>∃e1 wt1 nx1,e= .returned (.agg #[.int .i64 ((g.t.length:Int)+1),e1, .int .i64 (L:Int), .int .i64 g.p.room, .int .i64 g.p.queue, .int .i64 g.p.rounds, .int .i64 g.p.every, .int .i64 g.p.bag,wt1, .int .u16 g.p.start,nx1])∧
  (∃A1 c1,e1= .slice A1 g.t.length c1)∧(∃A1 c1,wt1= .slice A1 L c1)∧(∃A1 c1,nx1= .slice A1 (g.t.length+1) c1)∧
  (∀V,Keeps (fun _=>False) w' V→Calls Tryz.prog 107 #[.agg #[.int .i64 ((g.t.length:Int)+1),e1, .int .i64 (L:Int), .int .i64 g.p.room, .int .i64 g.p.queue, .int .i64 g.p.rounds, .int .i64 g.p.every, .int .i64 g.p.bag,wt1, .int .u16 g.p.start,nx1], .int .i64 y, .int .i64 z] V fun e w''=>e= .returned (.int .i64 (py:Int))∧Keeps (fun _=>False) V w'')∧
  (∀V,Keeps (fun _=>False) w' V→Calls Tryz.prog 107 #[.agg #[.int .i64 ((g.t.length:Int)+1),e1, .int .i64 (L:Int), .int .i64 g.p.room, .int .i64 g.p.queue, .int .i64 g.p.rounds, .int .i64 g.p.every, .int .i64 g.p.bag,wt1, .int .u16 g.p.start,nx1], .int .i64 z, .int .i64 y] V fun e w''=>e= .returned (.int .i64 (pz:Int))∧Keeps (fun _=>False) V w'')∧Keeps (fun _=>False) U w') fun U hU=>by
   have hS:=SysF.calm' h hU
   refine(fplan_runs (hS.fabR hF) (hS.planS hF.geo)).mono ?_
   rintro e w' ⟨e1,wt1,nx1,rfl,hq,hk⟩
   have hB:=fun V hV=>port_runs (hq.keeps (w':=V) (F:=fun _=>False) hV (fun _ _ h=>h)) y z hx1
   have hC:=fun V hV=>port_runs (hq.keeps (w':=V) (F:=fun _=>False) hV (fun _ _ h=>h)) z y hx2
   obtain⟨s1,s2,s3⟩:=hq.shapes
   unfold planV Nums.plan at hB hC ⊢
   rw[hln,hL]at hB hC ⊢
   rw[hL]at s2
   rw[py1]at hB
   rw[pz1]at hC
   exact⟨e1,wt1,nx1,rfl,s1,s2,s3,hB,hC,hk⟩
 have HLK:=Lib.hid (p:=∀U,Keeps (fun _=>False) w U→_) fun U hU=>flink_ok ((SysF.calm' h hU).fabR hF) i hi
 have HHP:=Lib.hid (p:=∀U,Keeps (fun _=>False) w U→_) fun U hU=>fhops_runs ((SysF.calm' h hU).fabR hF) (by omega)
 have HNY:=Lib.hid (p:=∀U,Keeps (fun _=>False) w U→_) fun U hU=>fnode_ok ((SysF.calm' h hU).fabR hF) y hx1
 have HNZ:=Lib.hid (p:=∀U,Keeps (fun _=>False) w U→_) fun U hU=>fnode_ok ((SysF.calm' h hU).fabR hF) z hx2
 have HSN:=Lib.hid (p:=∀U,Keeps (fun _=>False) w U→_) fun U hU=>sender_ok ((SysF.calm' h hU).nodeR hF.geo hny) hln py k py2 py3 hk
 have HRC:=Lib.hid (p:=∀U,Keeps (fun _=>False) w U→_) fun U hU=>receiver_ok ((SysF.calm' h hU).nodeR hF.geo hnz) hln pz k pz2 pz3 hk
 have HSA:=Lib.hid (p:=∀U,Keeps (fun _=>False) w U→_) fun U hU=>((SysF.calm' h hU).sendAt hF.geo hny py2 py3 hk).1
 have HRA:=Lib.hid (p:=∀U,Keeps (fun _=>False) w U→_) fun U hU=>((SysF.calm' h hU).recvAt hF.geo hnz pz2 pz3 hk).1
 have HAL:=Lib.hid (p:=∀U,Keeps (fun _=>False) w U→_) fun U hU=>all_runs (fa.lb i) _ _ _ U ((SysF.calm' h hU).linkV hF hi)
 have HRW:=Lib.hid hrows
 have HR:=Lib.hid hr
 rw[hL]at hk
 have hcnt10:(hopsOf g.t).length≤10:=by omega
 have HX:=Lib.hid hx
 have hkL:(k:Int) < (L:Int):=by omega
 have hk0:¬(k:Int) < 0:=by omega
 have hkL':¬(L:Int)≤(k:Int):=by omega
 have hil:(i:Int) < ((hopsOf g.t).length:Int):=by omega
 have hi0:(0:Int)≤(i:Int):=by omega
 clear h hF hok hp hln hx hgd hcnt hx1 hx2 hx3 hx4 py1 py2 py3 pz1 pz2 pz3 hny hnz hrows hr hL
 generalize (s.nd y)=ny at*
 generalize (s.nd z)=nz at*
 generalize fa.na y=ay at*
 generalize fa.na z=az at*
 generalize s.ln i=rows at*
 obtain⟨nh,hnh⟩:∃nh,(hopsOf g.t).length=nh:=⟨_,rfl⟩
 rw[hnh]at HHP hi hcnt10 hil
 clear hnh
 go_enter Tryz.func59,Tryz.ntmps59
 go_wp2_with fail
 have hkX:Keeps (fun _=>False) w (w.alloc (.cells #[.int .i64 0, .int .i64 0, .int .i64 0, .int .i64 0, .int .i64 0] 79)):=Keeps.alloc _ _ _
 have hbX:=blk_new w (.cells #[.int .i64 0, .int .i64 0, .int .i64 0, .int .i64 0, .int .i64 0] 79)
 have HKX:=Lib.hid hkX
 have HBX:=Lib.hid hbX
 clear hkX hbX
 generalize w.alloc (.cells #[.int .i64 0, .int .i64 0, .int .i64 0, .int .i64 0, .int .i64 0] 79)=X at*
 obtain⟨ab,hab⟩:∃ab,w.heap.size=ab:=⟨_,rfl⟩
 have HAB:=Lib.hid hab
 rw[hab]at HBX ⊢
 clear hab
 refine(HPL.out X HKX.out).mono ?_
 rintro e U ⟨_,_,_,rfl,⟨A1,c1,rfl⟩,⟨A2,c2,rfl⟩,⟨A3,c3,rfl⟩,hp1,hp2,hU⟩
 have hkA:Keeps (fun _=>False) U (U.alloc (.cells #[.int .i64 ((g.t.length:Int)+1), .slice A1 g.t.length c1, .int .i64 (L:Int), .int .i64 g.p.room, .int .i64 g.p.queue, .int .i64 g.p.rounds, .int .i64 g.p.every, .int .i64 g.p.bag, .slice A2 L c2, .int .u16 g.p.start, .slice A3 (g.t.length+1) c3] 38)):=Keeps.alloc _ _ _
 have hbA:PBox (U.alloc (.cells #[.int .i64 ((g.t.length:Int)+1), .slice A1 g.t.length c1, .int .i64 (L:Int), .int .i64 g.p.room, .int .i64 g.p.queue, .int .i64 g.p.rounds, .int .i64 g.p.every, .int .i64 g.p.bag, .slice A2 L c2, .int .u16 g.p.start, .slice A3 (g.t.length+1) c3] 38)) U.heap.size #[.int .i64 ((g.t.length:Int)+1), .slice A1 g.t.length c1, .int .i64 (L:Int), .int .i64 g.p.room, .int .i64 g.p.queue, .int .i64 g.p.rounds, .int .i64 g.p.every, .int .i64 g.p.bag, .slice A2 L c2, .int .u16 g.p.start, .slice A3 (g.t.length+1) c3]:=blk_new U _
 have HKU:=Lib.hid ((HKX.out.trans hU).trans hkA)
 have HBU:=Lib.hid (blk_keeps (hU.trans hkA) HBX.out (fun h=>h))
 have HP1:=Lib.hid (p:=∀V,Keeps (fun _=>False) (U.alloc (.cells #[.int .i64 ((g.t.length:Int)+1), .slice A1 g.t.length c1, .int .i64 (L:Int), .int .i64 g.p.room, .int .i64 g.p.queue, .int .i64 g.p.rounds, .int .i64 g.p.every, .int .i64 g.p.bag, .slice A2 L c2, .int .u16 g.p.start, .slice A3 (g.t.length+1) c3] 38)) V→_) fun V hV=>hp1 V (hkA.trans hV)
 have HP2:=Lib.hid (p:=∀V,Keeps (fun _=>False) (U.alloc (.cells #[.int .i64 ((g.t.length:Int)+1), .slice A1 g.t.length c1, .int .i64 (L:Int), .int .i64 g.p.room, .int .i64 g.p.queue, .int .i64 g.p.rounds, .int .i64 g.p.every, .int .i64 g.p.bag, .slice A2 L c2, .int .u16 g.p.start, .slice A3 (g.t.length+1) c3] 38)) V→_) fun V hV=>hp2 V (hkA.trans hV)
 have HPB:=Lib.hid hbA
 clear hU hkA hbA hp1 hp2 HKX HBX HPL
 go_wp2_with fail
 generalize U.alloc (.cells #[.int .i64 ((g.t.length:Int)+1), .slice A1 g.t.length c1, .int .i64 (L:Int), .int .i64 g.p.room, .int .i64 g.p.queue, .int .i64 g.p.rounds, .int .i64 g.p.every, .int .i64 g.p.bag, .slice A2 L c2, .int .u16 g.p.start, .slice A3 (g.t.length+1) c3] 38)=Y at*
 generalize U.heap.size=pb at*
 refine(HLK.out Y HKU.out).mono ?_
 rintro e V ⟨rfl,hV⟩
 have hpV:PBox V pb _:=blk_keeps hV HPB.out (fun h=>h)
 obtain⟨_,_,z2,_⟩:=PBox.all hpV
 have HKV:=Lib.hid (HKU.out.trans hV)
 have HBV:=Lib.hid (blk_keeps hV HBU.out (fun h=>h))
 have HPV:=Lib.hid hpV
 have HP1V:=Lib.hid (p:=∀Z,Keeps (fun _=>False) V Z→_) fun Z hZ=>HP1.out Z (hV.trans hZ)
 have HP2V:=Lib.hid (p:=∀Z,Keeps (fun _=>False) V Z→_) fun Z hZ=>HP2.out Z (hV.trans hZ)
 clear hV hpV HKU HBU HPB HP1 HP2 HLK
 go_wp2_with fail
 clear z2
 refine(HHP.out V HKV.out).mono ?_
 rintro e W ⟨Ah,ch,rfl,hQ,hW,_⟩
 obtain⟨gp,op,cp,e1,_,hc,_⟩:=hQ.cell (by omega)
 injection e1 with ea _ ec
 subst ea ec
 obtain⟨u1,u2⟩:=flat2_at _ _ _ HX.out
 have p1:=hc _ _ u1
 have p2:=hc _ _ u2
 unfold encI at p1 p2
 simp only at p1 p2
 rw[←Nat.add_assoc]at p2
 have hkH:Keeps (fun _=>False) W (W.alloc (.cells #[.int .i64 (y:Int), .int .i64 (z:Int)] 95)):=Keeps.alloc _ _ _
 have hbH:=blk_new W (.cells #[.int .i64 (y:Int), .int .i64 (z:Int)] 95)
 have HKW:=Lib.hid ((HKV.out.trans hW).trans hkH)
 have HBW:=Lib.hid (blk_keeps (hW.trans hkH) HBV.out (fun h=>h))
 have HPW:=Lib.hid (show PBox _ pb _ from blk_keeps (hW.trans hkH) HPV.out (fun h=>h))
 have HHW:=Lib.hid hbH
 have HP1W:=Lib.hid (p:=∀Z,Keeps (fun _=>False) (W.alloc (.cells #[.int .i64 (y:Int), .int .i64 (z:Int)] 95)) Z→_) fun Z hZ=>HP1V.out Z ((hW.trans hkH).trans hZ)
 have HP2W:=Lib.hid (p:=∀Z,Keeps (fun _=>False) (W.alloc (.cells #[.int .i64 (y:Int), .int .i64 (z:Int)] 95)) Z→_) fun Z hZ=>HP2V.out Z ((hW.trans hkH).trans hZ)
 clear hW hQ hc u1 u2 hkH hbH HKV HBV HPV HP1V HP2V HHP HX
 go_wp2_with fail
 clear p1 p2
 generalize W.alloc (.cells #[.int .i64 (y:Int), .int .i64 (z:Int)] 95)=T at*
 generalize W.heap.size=hb at*
 have t0:T.cell? ⟨hb,0,none⟩=some (.int .i64 (y:Int)):=by rw[blk_cell HHW.out];rfl
 have t1:T.cell? ⟨hb,1,none⟩=some (.int .i64 (z:Int)):=by rw[blk_cell HHW.out];rfl
 have r0:=cell_regrown t0
 have r1:=cell_regrown t1
 obtain⟨x0,x1,x2,x3,x4,x5,x6,x7,x8,x9,x10,_⟩:=PBox.all HPW.out
 have X0:=cell_regrown x0
 have X1:=cell_regrown x1
 have X2:=cell_regrown x2
 have X3:=cell_regrown x3
 have X4:=cell_regrown x4
 have X5:=cell_regrown x5
 have X6:=cell_regrown x6
 have X7:=cell_regrown x7
 have X8:=cell_regrown x8
 have X9:=cell_regrown x9
 have X10:=cell_regrown x10
 have Q1:=Lib.hid (p:=∀d os,_) fun d os=>quietF (W:=T) d os (fun A hA=>HNY.out A (HKW.out.trans hA))
 have Q2:=Lib.hid (p:=∀d os,_) fun d os=>quietF (W:=T) d os (fun A hA=>HP1W.out A hA)
 have Q3:=Lib.hid (p:=∀d os,_) fun d os=>quietF (W:=T) d os (fun A hA=>HSN.out A (HKW.out.trans hA))
 clear t0 t1 x0 x1 x2 x3 x4 x5 x6 x7 x8 x9 x10
 refine wp_region_quiet_below (by kernel_rfl) (by kernel_rfl) ?_
 repeat (go_big_quiet_step ((first | (go_at_call 19;exact Q1.out _ _) | (go_at_call 107;exact Q2.out _ _) | (go_at_call 106;exact Q3.out _ _))))
 refine wpQuiet_nil ?_
 intro w' hw'
 obtain⟨⟨nq,osq⟩,hw''⟩:=hw'
 have hkM:Keeps (fun _=>False) T (grow (redrawn T nq) osq):=Keeps.of_below (below_regrown T nq osq)
 subst hw''
 clear Q1 Q2 Q3 r0 r1 X0 X1 X2 X3 X4 X5 X6 X7 X8 X9 X10
 generalize grow (redrawn T nq) osq=M at*
 have HKM:=Lib.hid (HKW.out.trans hkM)
 have HBM:=Lib.hid (blk_keeps hkM HBW.out (fun h=>h))
 have HPM:=Lib.hid (show PBox M pb _ from blk_keeps hkM HPW.out (fun h=>h))
 have HHM:=Lib.hid (blk_keeps hkM HHW.out (fun h=>h))
 have HP2M:=Lib.hid (p:=∀Z,Keeps (fun _=>False) M Z→_) fun Z hZ=>HP2W.out Z (hkM.trans hZ)
 clear hkM HKW HBW HPW HHW HP1W HP2W HNY HSN
 go_wp2_with fail
 have t0:M.cell? ⟨hb,0,none⟩=some (.int .i64 (y:Int)):=by rw[blk_cell HHM.out];rfl
 have t1:M.cell? ⟨hb,1,none⟩=some (.int .i64 (z:Int)):=by rw[blk_cell HHM.out];rfl
 have r0:=cell_regrown t0
 have r1:=cell_regrown t1
 obtain⟨x0,x1,x2,x3,x4,x5,x6,x7,x8,x9,x10,_⟩:=PBox.all HPM.out
 have X0:=cell_regrown x0
 have X1:=cell_regrown x1
 have X2:=cell_regrown x2
 have X3:=cell_regrown x3
 have X4:=cell_regrown x4
 have X5:=cell_regrown x5
 have X6:=cell_regrown x6
 have X7:=cell_regrown x7
 have X8:=cell_regrown x8
 have X9:=cell_regrown x9
 have X10:=cell_regrown x10
 have Q1:=Lib.hid (p:=∀d os,_) fun d os=>quietF (W:=M) d os (fun A hA=>HNZ.out A (HKM.out.trans hA))
 have Q2:=Lib.hid (p:=∀d os,_) fun d os=>quietF (W:=M) d os (fun A hA=>HP2M.out A hA)
 have Q3:=Lib.hid (p:=∀d os,_) fun d os=>quietF (W:=M) d os (fun A hA=>HRC.out A (HKM.out.trans hA))
 clear t0 t1 x0 x1 x2 x3 x4 x5 x6 x7 x8 x9 x10
 refine wp_region_quiet_below (by kernel_rfl) (by kernel_rfl) ?_
 repeat (go_big_quiet_step ((first | (go_at_call 19;exact Q1.out _ _) | (go_at_call 107;exact Q2.out _ _) | (go_at_call 108;exact Q3.out _ _))))
 refine wpQuiet_nil ?_
 intro w' hw'
 obtain⟨⟨nq,osq⟩,hw''⟩:=hw'
 have hkN:Keeps (fun _=>False) M (grow (redrawn M nq) osq):=Keeps.of_below (below_regrown M nq osq)
 subst hw''
 clear Q1 Q2 Q3 r0 r1 X0 X1 X2 X3 X4 X5 X6 X7 X8 X9 X10
 generalize grow (redrawn M nq) osq=N at*
 have HKN:=Lib.hid (HKM.out.trans hkN)
 have HBN:=Lib.hid (blk_keeps hkN HBM.out (fun h=>h))
 clear hkN HKM HBM HPM HHM HP2M HNZ HRC
 have HUS:=Lib.hid (usable_runs _ _ _ N (HSA.out N HKN.out))
 go_wp2_with fail
 refine HUS.out.mono ?_
 rintro e U ⟨rfl,hU⟩
 have HKU:=Lib.hid (HKN.out.trans hU)
 have HBU:=Lib.hid (blk_keeps hU HBN.out (fun h=>h))
 have HRL:=Lib.hid (rlimit_runs _ _ _ _ U (HRA.out U HKU.out))
 clear hU HKN HBN HUS
 go_wp2_with fail
 refine HRL.out.mono ?_
 rintro e V ⟨rfl,hV⟩
 have HKV:=Lib.hid (HKU.out.trans hV)
 have HBV:=Lib.hid (blk_keeps hV HBU.out (fun h=>h))
 have HSL:=Lib.hid (slimit_runs _ _ _ V (HSA.out V HKV.out))
 have HHE:=Lib.hid (held_runs _ _ _ _ V (HRA.out V HKV.out))
 clear hV HKU HBU HRL
 go_wp2_with fail
 refine HSL.out.mono ?_
 rintro e _ ⟨rfl,rfl⟩
 go_wp2_with fail
 refine HHE.out.mono ?_
 rintro e _ ⟨rfl,rfl⟩
 clear HSL HHE
 generalize opn (ny.sent py k) (ny.limit py k)=va at*
 generalize nz.held pz k=vc at*
 go_wp2_with fail
 obtain⟨vb,hvb⟩:∃vb,wrap64 (IntKind.u64.wrap (rlim (nz.next pz k) vc g.p.room - ny.limit py k))=vb:=⟨_,rfl⟩
 rw[hvb]
 clear hvb
 have hkA:Keeps (fun _=>False) V (V.alloc (.cells #[.int .i64 va, .int .i64 vb, .int .i64 0, .int .i64 vc, .int .i64 0] 79)):=Keeps.alloc _ _ _
 have hbA:=blk_new V (.cells #[.int .i64 va, .int .i64 vb, .int .i64 0, .int .i64 vc, .int .i64 0] 79)
 have HKA:=Lib.hid (HKV.out.trans hkA)
 have HBA:=Lib.hid (blk_keeps hkA HBV.out (fun h=>h))
 have HAQ:=Lib.hid hbA
 have HLT:=Lib.hid HKV.out.size
 have HNE:=Lib.hid (Nat.ne_of_lt (blk_lt HBV.out))
 clear hkA hbA HKV HBV
 generalize V.alloc (.cells #[.int .i64 va, .int .i64 vb, .int .i64 0, .int .i64 vc, .int .i64 0] 79)=A at*
 obtain⟨aq,haq⟩:∃aq,V.heap.size=aq:=⟨_,rfl⟩
 rw[haq]at HAQ HLT HNE ⊢
 clear haq
 refine(HAL.out A HKA.out).mono ?_
 rintro e W1 ⟨AR,cR,us,rfl,hRows,hW1⟩
 have HK1:=Lib.hid (HKA.out.trans hW1)
 have HB1:=Lib.hid (blk_keeps hW1 HBA.out (fun h=>h))
 have HQ1:=Lib.hid (blk_keeps hW1 HAQ.out (fun h=>h))
 have HEX:=Lib.hid (expects_runs _ _ _ _ W1 (HRA.out W1 HK1.out))
 have HSE:=Lib.hid (sent_runs _ _ _ W1 (HSA.out W1 HK1.out))
 have HFL:=Lib.hid (flying_runs (k:Int) (nz.next pz k) (ny.sent py k) W1 _ AR cR us rows hRows (fun l hl=>(HRW.out l hl).2) hroom)
 rw[HR.out]at HFL
 clear hW1 hRows HKA HBA HAQ HAL
 go_wp2_with fail
 refine HEX.out.mono ?_
 rintro e _ ⟨rfl,rfl⟩
 go_wp2_with fail
 refine HSE.out.mono ?_
 rintro e _ ⟨rfl,rfl⟩
 clear HEX HSE
 go_wp2_with fail
 refine HFL.out.mono ?_
 rintro e W2 ⟨rfl,hW2⟩
 have hq2:=blk_keeps hW2 HQ1.out (fun h=>h)
 have q:=fun j=>blk_cell hq2 j
 have z2:=q 2
 have f2:W2.frozen? ⟨aq,2,none⟩=false:=blk_frozen hq2 2
 simp only[List.getElem?_toArray,List.getElem?_cons_zero,List.getElem?_cons_succ]at z2
 have HK2:=Lib.hid (HK1.out.trans hW2)
 have HB2:=Lib.hid (blk_keeps hW2 HB1.out (fun h=>h))
 have HQ2:=Lib.hid hq2
 clear hW2 hq2 q HK1 HB1 HQ1 HFL
 go_wp2_with fail
 have hk3:Keeps (fun b=>b=aq) W2 (W2.setCell ⟨aq,2,none⟩ (.int .i64 r)):=Keeps.setCell _ _ _ _ rfl
 have hq3:=blk_set HQ2.out 2 (.int .i64 r)
 have HK3:=Lib.hid (HK2.out.then hk3 (fun i hi e=>by have:=HLT.out;omega))
 have HB3:=Lib.hid (blk_keeps hk3 HB2.out HNE.out)
 have HQ3:=Lib.hid hq3
 clear hk3 hq3 f2 z2 HK2 HB2 HQ2
 generalize W2.setCell ⟨aq,2,none⟩ (.int .i64 r)=W3 at*
 have y2:W3.cell? ⟨aq,2,none⟩=some (.int .i64 r):=by rw[blk_cell HQ3.out];rfl
 have y4:W3.cell? ⟨aq,4,none⟩=some (.int .i64 0):=by rw[blk_cell HQ3.out];rfl
 have f4:W3.frozen? ⟨aq,4,none⟩=false:=blk_frozen HQ3.out 4
 have HDK:Keeps (fun _=>False) W3 W3.drew:=Keeps.drew _ _
 have HEX:=Lib.hid (expects_runs _ _ _ _ W3.drew (HRA.out W3.drew (HK3.out.trans HDK)))
 have HSE:=Lib.hid (sent_runs _ _ _ W3.drew (HSA.out W3.drew (HK3.out.trans HDK)))
 have y2d:=HDK.cell y2 (fun h=>h)
 have y4d:=HDK.cell y4 (fun h=>h)
 clear HDK
 go_region_law (first | (go_simp;go_at_call 115;refine HSE.out.mono ?_;rintro e _ ⟨rfl,rfl⟩) | (go_simp;go_at_call 114;refine HEX.out.mono ?_;rintro e _ ⟨rfl,rfl⟩))
 all_goals
  obtain⟨d,hd⟩:∃d,IntKind.i64.wrap (IntKind.i64.wrap (IntKind.u64.wrap (ny.sent py k - nz.next pz k)) - r)=d:=⟨_,rfl⟩
  rw[hd]
  clear hd y2 y4 f4 y2d y4d HEX HSE
  have hk4:Keeps (fun b=>b=aq) W3 (W3.setCell ⟨aq,4,none⟩ (.int .i64 d)).drew:=(Keeps.setCell (fun b=>b=aq) W3 _ _ rfl).trans (Keeps.drew _ _)
  have hq4:(W3.setCell ⟨aq,4,none⟩ (.int .i64 d)).drew.heap[aq]? =some (.cells #[.int .i64 va, .int .i64 vb, .int .i64 r, .int .i64 vc, .int .i64 d] 79 (0,0)):=blk_set HQ3.out 4 (.int .i64 d)
  have hb4:=blk_keeps hk4 HB3.out HNE.out
  have HK4:=Lib.hid (HK3.out.then hk4 (fun i hi e=>by have:=HLT.out;omega))
  clear hk4 HK3 HB3 HQ3
  generalize (W3.setCell ⟨aq,4,none⟩ (.int .i64 d)).drew=W4 at*
  have q:=fun j=>blk_cell hq4 j
  have x0:=q 0;have x1:=q 1;have x2:=q 2;have x3:=q 3;have x4:=q 4
  simp only[List.getElem?_toArray,List.getElem?_cons_zero,List.getElem?_cons_succ]at x0 x1 x2 x3 x4
  have q':=fun j=>blk_cell hb4 j
  have z0:=q' 0;have z1:=q' 1;have z2:=q' 2;have z3:=q' 3;have z4:=q' 4
  simp only[List.getElem?_toArray,List.getElem?_cons_zero,List.getElem?_cons_succ]at z0 z1 z2 z3 z4
  have zf:∀i,W4.frozen? ⟨ab,i,none⟩=false:=fun i=>blk_frozen hb4 i
  have HB4:=Lib.hid hb4
  clear q q' hq4 hb4
  go_wp2_with fail
  have hz5:=blk_set (blk_set (blk_set (blk_set (blk_set HB4.out 0 (.int .i64 va)) 1 (.int .i64 vb)) 2 (.int .i64 r)) 3 (.int .i64 vc)) 4 (.int .i64 d)
  have ks:=fun(W:World) (j:Nat) (u:Value)=>Keeps.setCell (fun b=>b=ab) W ⟨ab,j,none⟩ u rfl
  have hk5:=((((ks W4 0 (.int .i64 va)).trans (ks _ 1 (.int .i64 vb))).trans (ks _ 2 (.int .i64 r))).trans (ks _ 3 (.int .i64 vc))).trans (ks _ 4 (.int .i64 d))
  clear x0 x1 x2 x3 x4 z0 z1 z2 z3 z4 zf ks
  generalize (((((W4.setCell ⟨ab,0,none⟩ (.int .i64 va)).setCell ⟨ab,1,none⟩ (.int .i64 vb)).setCell ⟨ab,2,none⟩ (.int .i64 r)).setCell ⟨ab,3,none⟩ (.int .i64 vc)).setCell ⟨ab,4,none⟩ (.int .i64 d))=W5 at*
  have q:=fun j=>blk_cell hz5 j
  have x0:=q 0;have x1:=q 1;have x2:=q 2;have x3:=q 3;have x4:=q 4
  simp at x0 x1 x2 x3 x4
  refine bodyPost_ret (v:= .tuple #[.agg #[.int .i64 va, .int .i64 vb, .int .i64 r, .int .i64 vc, .int .i64 d], .bool true]) (by simp[results,Tryz.results59,go_sem,x0,x1,x2,x3,x4]) rfl ⟨⟨va,vb,vc,d,rfl⟩,HK4.out.then hk5 (fun i hi e=>by have:=HAB.out;omega)⟩
end
end Go.Proofs.YtebnflpanfmicaaGreatDoor
namespace Go.Proofs.YtebnflpanfmicaaGreatDoor
open Go.RowKit
theorem info_acc:(Tryz.prog.info? 79).map (fun i=>(i.zero,i.size,i.bytes))=some (some (.agg #[.int .i64 0, .int .i64 0, .int .i64 0, .int .i64 0, .int .i64 0]),5,40):=by kernel_rfl
structure AccR where
 a:Int
 b:Int
 fly:Int
 c:Int
 d:Int
def AccR.cells (x:AccR):List Value:=[.int .i64 x.a, .int .i64 x.b, .int .i64 x.fly, .int .i64 x.c, .int .i64 x.d]
abbrev acells (l:List AccR):List Value:=l.flatMap AccR.cells
theorem acells_at:∀(l:List AccR) (j:Nat) (x:AccR),l[j]? =some x→∀i,i < 5→(acells l)[j*5+i]? =x.cells[i]?
 | [],j,x,h,_,_=>by simp at h
 | y :: l,0,x,h,i,hi=>by
   simp at h;subst h
   simp only[acells,List.flatMap_cons]
   rw[List.getElem?_append_left (by simp[AccR.cells];omega)]
   simp
 | y :: l,j+1,x,h,i,hi=>by
   have:=acells_at l j x (by simpa using h) i hi
   simp only[acells,List.flatMap_cons]
   rw[List.getElem?_append_right (by simp[AccR.cells];omega),←this]
   congr 1
   simp[AccR.cells];omega
def flyTo (g:Geo) (s:FabS) (L:Nat):Nat→List Int
 | 0=>[]
 | h+1=>flyTo g s L h ++ (List.range L).map (flyF g s h)
theorem flyTo_length (g:Geo) (s:FabS) (L:Nat):∀h,(flyTo g s L h).length=h*L
 | 0=>by simp[flyTo]
 | h+1=>by simp[flyTo,flyTo_length g s L h,Nat.succ_mul]
def Accs (w:World) (B:Nat) (v:Value) (n:Nat) (fl:List Int):Prop:=
 ∃rows:List AccR,rows.map (·.fly)=fl∧rows.length=n∧QS w 79 5 v n (acells rows)∧∀k,v.ownBlock=some k→B≤k
theorem Accs.keeps {w w':World} {B:Nat} {v:Value} {n:Nat} {fl:List Int} {F:Nat→Prop} (h:Accs w B v n fl) (hk:Keeps F w w') (hF:∀k,B≤k→¬F k):Accs w' B v n fl:=by
 obtain⟨rows,h1,h2,h3,h4⟩:=h
 exact⟨rows,h1,h2,h3.keeps hk (fun k e=>hF k (h4 k e)),h4⟩
def sumL:List Int→Int
 | []=>0
 | x :: l=>x+sumL l
theorem sumL_snoc:∀(l:List Int) (x:Int),sumL (l ++ [x])=sumL l+x
 | [],x=>by simp[sumL]
 | y :: l,x=>by rw[List.cons_append,sumL,sumL_snoc l x,sumL];omega
def insideF (g:Geo) (s:FabS):Int:=sumI (fun v=>insV g v (s.nd v)) (g.t.length+1)+sumL (flyTo g s g.ws.length (hopsOf g.t).length)
section
variable {σ:Sig} {w:World} {o:Nat→Option Cmp} {f:Nat} {fa:FabA} {g:Geo} {s:FabS} {c:Nat}
set_option maxRecDepth 100000 in
set_option maxHeartbeats 16000000 in
theorem accs_runs (h:SysF σ w o) (hF:FabAt σ f fa g s) (hok:FabOk g s c):
  Calls Tryz.prog 24 #[.pointer (some ⟨fa.fb,0,none⟩)] w fun e w'=>∃A c,e= .returned (.slice A ((hopsOf g.t).length*g.ws.length) c)∧Accs w' w.heap.size (.slice A ((hopsOf g.t).length*g.ws.length) c) ((hopsOf g.t).length*g.ws.length) (flyTo g s g.ws.length (hopsOf g.t).length)∧Keeps (fun _=>False) w w':=by
 have hp:=h.planS hF.geo
 have hln:=hp.lanes
 have hl3:g.ws.length≤3:=by have:=hp.nums.lanes.2;omega
 have ht5:=hp.t5
 have hcnt:=(hops_in hp.tree hp.t5).2
 have HHP:=Lib.hid (fhops_runs (h.fabR hF) (by omega))
 obtain⟨L,hL⟩:∃L,g.ws.length=L:=⟨_,rfl⟩
 have HPL:=Lib.hid (p:=∀U,Keeps (fun _=>False) w U→Calls Tryz.prog 33 #[.pointer (some ⟨fa.fb,0,none⟩)] U fun e w'=>∃e1 wt1 nx1,e= .returned (.agg #[.int .i64 ((g.t.length:Int)+1),e1, .int .i64 (L:Int), .int .i64 g.p.room, .int .i64 g.p.queue, .int .i64 g.p.rounds, .int .i64 g.p.every, .int .i64 g.p.bag,wt1, .int .u16 g.p.start,nx1])∧Keeps (fun _=>False) U w') fun U hU=>by
   have hS:=SysF.calm' h hU
   refine(fplan_runs (hS.fabR hF) (hS.planS hF.geo)).mono ?_
   rintro e w' ⟨e1,wt1,nx1,rfl,hq,hk⟩
   unfold planV Nums.plan
   rw[hln,hL]
   exact⟨e1,wt1,nx1,rfl,hk⟩
 have HAC:=Lib.hid (p:=∀U,Keeps (fun _=>False) w U→∀i k:Nat,i < (hopsOf g.t).length→k < g.ws.length→_) fun U hU i k hi hk=>account_runs (SysF.calm' h hU) hF hok i k hi hk
 rw[hL]at HAC hl3 ⊢
 obtain⟨H,hH⟩:∃H,(hopsOf g.t).length=H:=⟨_,rfl⟩
 have hH10:H≤10:=by omega
 rw[hH]at HHP HAC ⊢
 have hHL:H*L≤10*3:=Nat.mul_le_mul hH10 hl3
 clear h hF hok hp hln ht5 hcnt hL hH
 go_enter Tryz.func24,Tryz.ntmps24
 go_wp2_with fail
 refine HHP.out.mono ?_
 rintro e U ⟨Ah,ch,rfl,_,hU,_⟩
 have HU:=Lib.hid hU
 clear hU HHP
 go_wp2_with fail
 go_loopw [3,11] (fun l c wr=>∃(i:Nat) (A:Option Addr) (cp:Nat),i≤H∧c= .int .i64 (i:Int)∧l= .slice A (i*L) cp∧Accs wr w.heap.size (.slice A (i*L) cp) (i*L) (flyTo g s L i)∧Keeps (fun _=>False) w wr) (fun _ c _=>H - (intOf c).toNat)
 case atStart=>exact⟨0,none,0,Nat.zero_le _,rfl,by rw[Nat.zero_mul],by rw[Nat.zero_mul];exact⟨[],rfl,rfl,QS.nil _ _ _,fun k e=>by cases e⟩,HU.out⟩
 case round=>
  clear HU
  obtain⟨i,A,cp,hi,rfl,rfl,hA,hk⟩:=hrel
  by_cases hil:i < H
  ·have hii:(i:Int) < (H:Int):=by omega
   have HPW:=Lib.hid (HPL.out wr hk)
   have HA:=Lib.hid hA
   have HK:=Lib.hid hk
   have hft:flyTo g s L (i+1)=flyTo g s L i ++ (List.range L).map (flyF g s i):=rfl
   have HFT:=Lib.hid hft
   have hfl:=run_plan_lanes
   clear hA hk hft
   go_wp2_with fail
   refine HPW.out.mono ?_
   rintro e V ⟨e1,wt1,nx1,rfl,hV⟩
   have HAV:=Lib.hid (HA.out.keeps hV (fun _ _ h=>h))
   have HKV:=Lib.hid (HK.out.trans hV)
   clear hV HA HK HPW
   go_wp2_with fail
   clear hfl
   have hsm:(i+1)*L=i*L+L:=Nat.succ_mul i L
   have hsm2:i*L+L≤30:=by have:(i+1)*L≤H*L:=Nat.mul_le_mul_right L (by omega);omega
   generalize i*L=n at*
   generalize flyTo g s L i=fl at*
   go_loopw [3,17] (fun l c wr=>∃(k:Nat) (A:Option Addr) (cp:Nat),k≤L∧c= .int .i64 (k:Int)∧l= .slice A (n+k) cp∧Accs wr w.heap.size (.slice A (n+k) cp) (n+k) (fl ++ (List.range k).map (flyF g s i))∧Keeps (fun _=>False) w wr) (fun _ c _=>L - (intOf c).toNat)
   case atStart=>exact⟨0,A,cp,Nat.zero_le _,rfl,rfl,by simpa using HAV.out,HKV.out⟩
   case round=>
    clear HAV HKV
    obtain⟨k,B,bp,hk,rfl,rfl,hA,hK⟩:=hrel
    by_cases hkl:k < L
    ·have hkk:(k:Int) < (L:Int):=by omega
     have HAW:=Lib.hid (HAC.out wr hK i k hil hkl)
     have HA:=Lib.hid hA
     have HK:=Lib.hid hK
     clear hA hK
     go_wp2_with fail
     refine HAW.out.mono ?_
     rintro e W ⟨⟨a,b,c1,d,rfl⟩,hW⟩
     obtain⟨z,hz⟩:∃z,flyF g s i k=z:=⟨_,rfl⟩
     have HZ:=Lib.hid hz
     rw[hz]
     clear hz HAW
     have HKW:=Lib.hid (HK.out.trans hW)
     obtain⟨rows,hr1,hr2,hr3,hr4⟩:=HA.out.keeps hW (fun _ _ h=>h)
     have HR1:=Lib.hid hr1
     have HR4:=Lib.hid hr4
     have hk2:Keeps (fun _=>False) W ((W.alloc (.cells #[.int .i64 a, .int .i64 b, .int .i64 z, .int .i64 c1, .int .i64 d] 79)).alloc (.cells #[.int .i64 a, .int .i64 b, .int .i64 z, .int .i64 c1, .int .i64 d] 79)):=(Keeps.alloc _ _ _).trans (Keeps.alloc _ _ _)
     have hs2:((W.alloc (.cells #[.int .i64 a, .int .i64 b, .int .i64 z, .int .i64 c1, .int .i64 d] 79)).alloc (.cells #[.int .i64 a, .int .i64 b, .int .i64 z, .int .i64 c1, .int .i64 d] 79)).heap.size=W.heap.size+2:=by simp
     have hq0:QS ((W.alloc (.cells #[.int .i64 a, .int .i64 b, .int .i64 z, .int .i64 c1, .int .i64 d] 79)).alloc (.cells #[.int .i64 a, .int .i64 b, .int .i64 z, .int .i64 c1, .int .i64 d] 79)) 79 5 (.slice B (n+k) bp) (n+k) (acells rows):=(hr3.alloc _).alloc _
     have hsrc:Src Tryz.prog 5 65 (.slice (some ⟨(W.alloc (.cells #[.int .i64 a, .int .i64 b, .int .i64 z, .int .i64 c1, .int .i64 d] 79)).heap.size,0,none⟩) 1 1) 1 [.int .i64 a, .int .i64 b, .int .i64 z, .int .i64 c1, .int .i64 d] ((W.alloc (.cells #[.int .i64 a, .int .i64 b, .int .i64 z, .int .i64 c1, .int .i64 d] 79)).alloc (.cells #[.int .i64 a, .int .i64 b, .int .i64 z, .int .i64 c1, .int .i64 d] 79)):=
      src_blk Tryz.underlying65 (e:=79) (cur:= #[.int .i64 a, .int .i64 b, .int .i64 z, .int .i64 c1, .int .i64 d]) (blk_new (W.alloc (.cells #[.int .i64 a, .int .i64 b, .int .i64 z, .int .i64 c1, .int .i64 d] 79)) (.cells #[.int .i64 a, .int .i64 b, .int .i64 z, .int .i64 c1, .int .i64 d] 79)) rfl (by intro jj hjj';match jj,hjj' with | 0,_=>rfl | 1,_=>rfl | 2,_=>rfl | 3,_=>rfl | 4,_=>rfl) (by intro u hu;simp at hu;rcases hu with rfl | rfl | rfl | rfl | rfl <;>rfl)
     rw[World.size_alloc]at hsrc
     have hbA:=blk_new W (.cells #[.int .i64 a, .int .i64 b, .int .i64 z, .int .i64 c1, .int .i64 d] 79)
     have q:=fun j=>blk_cell hbA j
     have x0:=q 0;have x1:=q 1;have x2:=q 2;have x3:=q 3;have x4:=q 4
     simp only[List.getElem?_toArray,List.getElem?_cons_zero,List.getElem?_cons_succ]at x0 x1 x2 x3 x4
     have HK2:=Lib.hid hk2
     have HS2:=Lib.hid hs2
     have hnk:(n+k+1)*40≤140737488355328:=by omega
     have hrk:(List.range (k+1)).map (flyF g s i)=(List.range k).map (flyF g s i) ++ [z]:=by rw[List.range_succ,List.map_append,←HZ.out];rfl
     have HRK:=Lib.hid hrk
     have HRL:=Lib.hid hr2
     clear hW HA HK hr1 hr2 hr3 hr4 hk2 hs2 hbA q hrk
     go_wp2_with (at_builtin;refine wpList_append_QS rfl _ _ 65 65 rfl 79 _ 5 40 Tryz.underlying65 info_acc rfl (.slice B (n+k) bp) (n+k) (acells rows) rfl hq0 _ 1 [.int .i64 a, .int .i64 b, .int .i64 z, .int .i64 c1, .int .i64 d] rfl hsrc (by decide) hnk ?_;intro A1 c2 w1 hq1 hg1 ho1)
     have hkg:Keeps (fun k'=>(Value.slice B (n+k) bp).ownBlock=some k') W w1:=(HK2.out.mono (fun _ _ h=>h.elim)).trans (Keeps.grown hg1 (fun i h=>h))
     have hkw:Keeps (fun _=>False) w w1:=HKW.out.then hkg (fun i hi e=>by have:=HR4.out i e;omega)
     have hacc:Accs w1 w.heap.size (.slice A1 (n+(k+1)) c2) (n+(k+1)) (fl ++ (List.range (k+1)).map (flyF g s i)):=by
      refine⟨rows ++ [⟨a,b,z,c1,d⟩], ?_, ?_, ?_,fun k' e=> ?_⟩
      ·rw[List.map_append,HR1.out,HRK.out,List.append_assoc];rfl
      ·rw[List.length_append,HRL.out];rfl
      ·rw[show acells (rows ++ [⟨a,b,z,c1,d⟩])=acells rows ++ [.int .i64 a, .int .i64 b, .int .i64 z, .int .i64 c1, .int .i64 d] by simp[acells,AccR.cells]]
       exact hq1
      ·rcases ho1 with h | ⟨k2,h,hle⟩
       ·exact HR4.out k' (h▸e)
       ·have e':(Value.slice A1 (n+k+1) c2).ownBlock=some k':=e
        rw[e']at h;cases h
        have:=HS2.out
        have:=HKW.out.size
        omega
     have HACC:=Lib.hid hacc
     have HKF:=Lib.hid hkw
     clear hq1 hg1 ho1 hkg hkw hacc hq0 hsrc x0 x1 x2 x3 x4
     go_wp2_with fail
     go_roundw
     case rel=>exact⟨k+1,A1,c2,by omega,by go_num,rfl,HACC.out,HKF.out⟩
     case measure=>simp[intOf];omega
    ·obtain rfl:k=L:=by omega
     have hkk:¬((k:Int) < (k:Int)):=by omega
     have HA:=Lib.hid hA
     have HK:=Lib.hid hK
     clear hA hK
     go_wp2_with fail
     go_roundw
     case rel=>exact⟨i+1,B,bp,by omega,by go_num,by rw[hsm],by rw[hsm,HFT.out];exact HA.out,HK.out⟩
     case measure=>simp[intOf];omega
  ·obtain rfl:i=H:=by omega
   have hii:¬((i:Int) < (i:Int)):=by omega
   have HA:=Lib.hid hA
   have HK:=Lib.hid hk
   clear hA hk
   go_wp2_with fail
   go_ret
   exact⟨A,cp,rfl,HA.out,HK.out⟩
set_option maxRecDepth 100000 in
set_option maxHeartbeats 16000000 in
theorem insides_runs (h:SysF σ w o) (hF:FabAt σ f fa g s) (hok:FabOk g s c):
  Calls Tryz.prog 9 #[.pointer (some ⟨fa.fb,0,none⟩)] w fun e w'=>e= .returned (.int .i64 (wrap64 (insideF g s)))∧Keeps (fun _=>False) w w':=by
 have hp:=h.planS hF.geo
 have hl3:g.ws.length≤3:=by have:=hp.nums.lanes.2;have:=hp.lanes;omega
 have ht5:=hp.t5
 have hcnt:=(hops_in hp.tree hp.t5).2
 have HPL:=Lib.hid (p:=∀U,Keeps (fun _=>False) w U→Calls Tryz.prog 33 #[.pointer (some ⟨fa.fb,0,none⟩)] U fun e w'=>∃e1 wt1 nx1,e= .returned (.agg #[.int .i64 ((g.t.length:Int)+1),e1, .int .i64 g.p.lanes, .int .i64 g.p.room, .int .i64 g.p.queue, .int .i64 g.p.rounds, .int .i64 g.p.every, .int .i64 g.p.bag,wt1, .int .u16 g.p.start,nx1])∧Keeps (fun _=>False) U w') fun U hU=>by
   have hS:=SysF.calm' h hU
   refine(fplan_runs (hS.fabR hF) (hS.planS hF.geo)).mono ?_
   rintro e w' ⟨e1,wt1,nx1,rfl,hq,hk⟩
   exact⟨e1,wt1,nx1,rfl,hk⟩
 have HIN:=Lib.hid (p:=∀U,Keeps (fun _=>False) w U→∀v:Nat,v≤g.t.length→_) fun U hU v hv=>inside_runs (SysF.calm' h hU) hF v hv _ rfl
 have HAC:=Lib.hid (p:=∀U,Keeps (fun _=>False) w U→_) fun U hU=>accs_runs (SysF.calm' h hU) hF hok
 obtain⟨r,hr⟩:∃r,insideF g s=r:=⟨_,rfl⟩
 rw[hr]
 unfold insideF at hr
 have HR:=Lib.hid hr
 have hm:(hopsOf g.t).length*g.ws.length≤10*3:=Nat.mul_le_mul (by omega) hl3
 have hfl:=flyTo_length g s g.ws.length (hopsOf g.t).length
 generalize flyTo g s g.ws.length (hopsOf g.t).length=fl at*
 obtain⟨m,hm2⟩:∃m,(hopsOf g.t).length*g.ws.length=m:=⟨_,rfl⟩
 rw[hm2]at HAC hm hfl
 have HFL:=Lib.hid hfl
 obtain⟨T,hT⟩:∃T,g.t.length+1=T:=⟨_,rfl⟩
 have hT2:(g.t.length:Int)+1=(T:Int):=by omega
 have hT3:∀v:Nat,v < T→v≤g.t.length:=fun v hv=>by omega
 have HT3:=Lib.hid hT3
 rw[hT2]at HPL
 rw[hT]at HR
 have hT6:T≤6:=by omega
 have hfn:=run_plan_nodes
 clear h hF hok hp hl3 ht5 hcnt hr hfl hm2 hT hT2 hT3
 go_enter Tryz.func9,Tryz.ntmps9
 go_wp2_with fail
 refine(HPL.out w (Keeps.refl _ _)).mono ?_
 rintro e U ⟨e1,wt1,nx1,rfl,hU⟩
 have HU:=Lib.hid hU
 clear hU HPL
 go_wp2_with fail
 clear hfn
 go_loopw [3,10] (fun m c wr=>∃v:Nat,v≤T∧c= .int .i64 (v:Int)∧m= .int .i64 (wrap64 (sumI (fun v=>insV g v (s.nd v)) v))∧Keeps (fun _=>False) w wr) (fun _ c _=>T - (intOf c).toNat)
 case atStart=>exact⟨0,Nat.zero_le _,rfl,by rw[sumI,wrap64_zero],HU.out⟩
 case round=>
  clear HU
  obtain⟨v,hv,rfl,rfl,hK⟩:=hrel
  have hs1:sumI (fun v=>insV g v (s.nd v)) (v+1)=sumI (fun v=>insV g v (s.nd v)) v+insV g v (s.nd v):=rfl
  have HS1:=Lib.hid hs1
  clear hs1
  by_cases hvT:v < T
  ·have hvi:(v:Int) < (T:Int):=by omega
   have HI:=Lib.hid (HIN.out wr hK v (HT3.out v hvT))
   have HK:=Lib.hid hK
   generalize sumI (fun v=>insV g v (s.nd v)) v=x at*
   obtain⟨m0,hm0⟩:∃m0,wrap64 x=m0:=⟨_,rfl⟩
   have HM0:=Lib.hid hm0
   rw[hm0]
   clear hm0 hK
   generalize insV g v (s.nd v)=y at*
   obtain⟨y0,hy0⟩:∃y0,wrap64 y=y0:=⟨_,rfl⟩
   have HY0:=Lib.hid hy0
   rw[hy0]at HI
   clear hy0
   go_wp2_with fail
   refine HI.out.mono ?_
   rintro e V ⟨rfl,hV⟩
   have HKV:=Lib.hid (HK.out.trans hV)
   clear hV HK HI
   go_wp2_with fail
   go_roundw
   case rel=>exact⟨v+1,by omega,by go_num,by rw[HS1.out,←HM0.out,←HY0.out,wrap64_add2],HKV.out⟩
   case measure=>simp[intOf];omega
  ·obtain rfl:v=T:=by omega
   have hvi:¬((v:Int) < (v:Int)):=by omega
   have HA:=Lib.hid (HAC.out wr hK)
   have HK:=Lib.hid hK
   generalize sumI (fun v=>insV g v (s.nd v)) v=x at*
   obtain⟨m0,hm0⟩:∃m0,wrap64 x=m0:=⟨_,rfl⟩
   have HM0:=Lib.hid hm0
   rw[hm0]
   clear hm0 hK HS1
   go_wp2_with fail
   refine HA.out.mono ?_
   rintro e V ⟨A,cp,rfl,hacc,hV⟩
   have HACC:=Lib.hid hacc
   have HKV:=Lib.hid (HK.out.trans hV)
   have HSZ:=Lib.hid hV.size
   clear hacc hV HK HA
   go_wp2_with fail
   go_loopw [3,22] (fun m1 c wr2=>∃j:Nat,j≤m∧c= .int .i64 (j:Int)∧m1= .int .i64 (wrap64 (x+sumL (fl.take j)))∧Keeps (fun _=>False) V wr2) (fun _ c _=>m - (intOf c).toNat)
   case atStart=>exact⟨0,Nat.zero_le _,rfl,by rw[←HM0.out];simp[sumL],Keeps.refl _ _⟩
   case round=>
    obtain⟨j,hj,rfl,rfl,hK⟩:=hrel
    by_cases hjm:j < m
    ·have hjj:(j:Int) < (m:Int):=by omega
     have hj0:(0:Int)≤(j:Int):=by omega
     obtain⟨rows,h1,h2,h3,h4⟩:=HACC.out.keeps hK (fun _ _ h=>h)
     obtain⟨gp,op,cp',e1,_,hcc,_⟩:=h3.cell (by omega)
     injection e1 with ea _ ec
     subst ea ec
     obtain⟨q,hq⟩:∃q,rows[j]? =some q:=⟨_,List.getElem?_eq_getElem (by omega)⟩
     have at5:=acells_at rows j q hq
     have x0:=hcc _ _ (by rw[at5 0 (by decide)];rfl)
     have x1:=hcc _ _ (by rw[at5 1 (by decide)];rfl)
     have x2:=hcc _ _ (by rw[at5 2 (by decide)];rfl)
     have x3:=hcc _ _ (by rw[at5 3 (by decide)];rfl)
     have x4:=hcc _ _ (by rw[at5 4 (by decide)];rfl)
     rw[←Nat.add_assoc]at x1 x2 x3 x4
     simp only[Nat.add_zero]at x0
     have hfj:fl[j]? =some q.fly:=by rw[←h1,List.getElem?_map,hq];rfl
     have htk:sumL (fl.take (j+1))=sumL (fl.take j)+q.fly:=by rw[List.take_add_one,hfj];exact sumL_snoc _ _
     have HTK:=Lib.hid htk
     have HK:=Lib.hid hK
     obtain⟨qa,qb,qf,qc,qd⟩:=q
     simp only at x0 x1 x2 x3 x4 HTK
     generalize sumL (fl.take j)=u at*
     obtain⟨m1,hm1⟩:∃m1,wrap64 (x+u)=m1:=⟨_,rfl⟩
     have HM1:=Lib.hid hm1
     rw[hm1]
     clear h1 h2 h3 h4 hcc hq at5 hfj htk hK hm1
     have hbA:=blk_new wr (.cells #[.int .i64 qa, .int .i64 qb, .int .i64 qf, .int .i64 qc, .int .i64 qd] 79)
     have z2:=blk_cell hbA 2
     simp only[List.getElem?_toArray,List.getElem?_cons_zero,List.getElem?_cons_succ]at z2
     have HKA:=Lib.hid (HK.out.trans (Keeps.alloc (fun _=>False) wr (.cells #[.int .i64 qa, .int .i64 qb, .int .i64 qf, .int .i64 qc, .int .i64 qd] 79)))
     clear hbA HK
     go_wp2_with fail
     go_roundw
     case rel=>exact⟨j+1,by omega,by go_num,by rw[HTK.out,←HM1.out,wrap64_add];congr 2;omega,HKA.out⟩
     case measure=>simp[intOf];omega
    ·obtain rfl:j=m:=by omega
     have hjj:¬((j:Int) < (j:Int)):=by omega
     have htk:fl.take j=fl:=List.take_of_length_le (by have:=HFL.out;omega)
     rw[htk]
     have HK:=Lib.hid hK
     clear hK htk
     have hrr:x+sumL fl=r:=HR.out
     rw[hrr]
     clear hrr
     go_wp2_with fail
     go_ret
     exact⟨rfl,HKV.out.trans HK.out⟩
end
end Go.Proofs.YtebnflpanfmicaaGreatDoor
