/-
  Part 22 of the proof: TopDecL.
-/
import Derived.Test.YtebnflpanfmicaaGreatDoorPkAU
set_option linter.unusedVariables false
set_option linter.unusedSimpArgs false
set_option linter.unusedSectionVars false
namespace Go.Proofs.YtebnflpanfmicaaGreatDoor
open Go.RowKit Go.Sort
set_option maxHeartbeats 4000000 in
theorem dec_twelve (g off cap:Nat) (b0 b1 b2 b3 b4 b5 b6 b7 b8 b9 b10 b11:Int) (w:World) (h:Byt w (.slice (some ⟨g,off,none⟩) 12 cap) [b0,b1,b2,b3,b4,b5,b6,b7,b8,b9,b10,b11]) (hcase:(sumC [b0,b1,b2,b3,b4,b5,b6,b7,b8,b9] % 4294967296 != readC [b10,b11])=true∨((sumC [b0,b1,b2,b3,b4,b5,b6,b7,b8,b9] % 4294967296 != readC [b10,b11])=false∧(b0 == 1)=false)):
  Calls Tryz.prog 118 #[.slice (some ⟨g,off,none⟩) 12 cap] w fun e w'=>e=decBad∧Keeps (fun _=>False) w w':=by
 have hcap:12≤cap∧cap≤9223372036854775807:=by
  obtain⟨A,c',e,h1,h2,h3⟩:=h
  injection e with e1 e2 e3
  subst e3
  simp at h1
  unfold maxLen at h2
  omega
 obtain⟨hc12,hcm⟩:=hcap
 have hc12':(12:Int)≤(cap:Int):=by omega
 have p4:=h.part 0 10 10 (by decide) (by simp) (by decide) (by decide)
 have p2:=h.part 10 12 (cap - 10) (by decide) (by simp) (by omega) (by unfold maxLen;omega)
 rw[show [b0,b1,b2,b3,b4,b5,b6,b7,b8,b9,b10,b11].take 10=[b0,b1,b2,b3,b4,b5,b6,b7,b8,b9]from rfl]at p4
 have CS:=Lib.hid (p:=∀W,Keeps (fun _=>False) w W→∀d os,_) fun W hk d os=>quietF (W:=W) d os (fun A hA=>sum_runs _ _ A (p4.keeps (hk.trans hA) (fun _ _ h=>h)))
 have CR:=Lib.hid (p:=∀W,Keeps (fun _=>False) w W→∀d os,_) fun W hk d os=>quietF (W:=W) d os (fun A hA=>(read_runs _ _ A (p2.keeps (hk.trans hA) (fun _ _ h=>h))).mono (fun e w' h=>⟨h.1,h.2▸Keeps.refl _ _⟩))
 obtain⟨o,ho⟩:∃o:Obj,o= .cells Frm.zero.cells 210:=⟨_,rfl⟩
 have hk2:Keeps (fun _=>False) w ((w.alloc o).alloc o):=(Keeps.alloc _ _ _).trans (Keeps.alloc _ _ _)
 subst ho
 go_enter Tryz.func118,Tryz.ntmps118
 go_wp2_with fail
 refine wp_region_quiet_below (by kernel_rfl) (by kernel_rfl) ?_
 repeat (go_big_quiet_step ((first | (go_at_call 166;exact CS.out _ hk2 _ _) | (go_at_call 167;exact CR.out _ hk2 _ _))))
 refine wpQuiet_nil ?_
 intro w' hw'
 obtain⟨⟨nq,osq⟩,hw''⟩:=hw'
 have hkV:Keeps (fun _=>False) w (grow (redrawn ((w.alloc (.cells Frm.zero.cells 210)).alloc (.cells Frm.zero.cells 210)) nq) osq):=hk2.trans (Keeps.of_below (below_regrown _ nq osq))
 have hz1:=blk_keeps (Keeps.of_below (F:=fun _=>False) (below_regrown ((w.alloc (.cells Frm.zero.cells 210)).alloc (.cells Frm.zero.cells 210)) nq osq)) (blk_alloc (blk_new w (.cells Frm.zero.cells 210)) (.cells Frm.zero.cells 210)) (fun h=>h)
 have hz2:=blk_keeps (Keeps.of_below (F:=fun _=>False) (below_regrown ((w.alloc (.cells Frm.zero.cells 210)).alloc (.cells Frm.zero.cells 210)) nq osq)) (blk_new (w.alloc (.cells Frm.zero.cells 210)) (.cells Frm.zero.cells 210)) (fun h=>h)
 rw[World.size_alloc]at hz2
 subst hw''
 clear CS CR hk2
 generalize grow (redrawn ((w.alloc (.cells Frm.zero.cells 210)).alloc (.cells Frm.zero.cells 210)) nq) osq=V at*
 obtain⟨x0,x1,x2,x3,x4,x5,fx0,fx1,fx2,fx3,fx4,fx5⟩:=FBox.all (f:=Frm.zero) hz1
 obtain⟨y0,y1,y2,y3,y4,y5,fy0,fy1,fy2,fy3,fy4,fy5⟩:=FBox.all (f:=Frm.zero) hz2
 have c0:=(h.keeps hkV (fun _ _ h=>h)).at 0 b0 rfl
 rw[Nat.add_zero]at c0
 rcases hcase with h0 | ⟨h0,h1⟩
 ·go_wp2_with fail
  have hzb':=set6_box (f:=Frm.zero) hz1 Frm.zero
  have hkZ':=hkV.then (set6_keeps V w.heap.size Frm.zero) (fun i hi h=>by omega)
  obtain⟨z0,z1,z2,z3,z4,z5,_⟩:=hzb'.all
  unfold set6 at z0 z1 z2 z3 z4 z5 hkZ'
  clear hzb' hz1 hz2
  clear x0 x1 x2 x3 x4 x5 fx0 fx1 fx2 fx3 fx4 fx5 y0 y1 y2 y3 y4 y5 fy0 fy1 fy2 fy3 fy4 fy5
  exact bodyPost_ret (v:= .tuple #[Frm.zero.val, .int .u16 30]) (by simp[results,Tryz.results118,go_sem,z0,z1,z2,z3,z4,z5]) rfl ⟨rfl,hkZ'⟩
 ·go_wp2_with fail
  have hzb':=set6_box (f:=Frm.zero) hz1 Frm.zero
  have hkZ':=hkV.then (set6_keeps V w.heap.size Frm.zero) (fun i hi h=>by omega)
  obtain⟨z0,z1,z2,z3,z4,z5,_⟩:=hzb'.all
  unfold set6 at z0 z1 z2 z3 z4 z5 hkZ'
  clear hzb' hz1 hz2
  clear x0 x1 x2 x3 x4 x5 fx0 fx1 fx2 fx3 fx4 fx5 y0 y1 y2 y3 y4 y5 fy0 fy1 fy2 fy3 fy4 fy5
  exact bodyPost_ret (v:= .tuple #[Frm.zero.val, .int .u16 30]) (by simp[results,Tryz.results118,go_sem,z0,z1,z2,z3,z4,z5]) rfl ⟨rfl,hkZ'⟩
set_option maxRecDepth 100000 in
set_option maxHeartbeats 4000000 in
theorem dec_twelve_ok (g off cap:Nat) (b0 b1 b2 b3 b4 b5 b6 b7 b8 b9 b10 b11:Int) (w:World) (h:Byt w (.slice (some ⟨g,off,none⟩) 12 cap) [b0,b1,b2,b3,b4,b5,b6,b7,b8,b9,b10,b11]) (h0:(sumC [b0,b1,b2,b3,b4,b5,b6,b7,b8,b9] % 4294967296 != readC [b10,b11])=false) (h1:(b0 == 1)=true) (f:Frm) (hf:f=⟨b0,b1,IntKind.u16.wrap (readC [b2,b3]),b4,b5,readC [b6,b7,b8,b9]⟩):
  Calls Tryz.prog 118 #[.slice (some ⟨g,off,none⟩) 12 cap] w fun e w'=>e= .returned (.tuple #[(decV f).val, .int .u16 (decE f)])∧Keeps (fun _=>False) w w':=by
 have hcap:12≤cap∧cap≤9223372036854775807:=by
  obtain⟨A,c',e,h1,h2,h3⟩:=h
  injection e with e1 e2 e3
  subst e3
  simp at h1
  unfold maxLen at h2
  omega
 obtain⟨hc12,hcm⟩:=hcap
 have HFE:=Lib.hid hf
 clear hf
 have hc4':(4:Int)≤(cap:Int):=by omega
 have hcn2:¬cap=2:=by omega
 have hcn6:¬cap=6:=by omega
 have hc10':(10:Int)≤(cap:Int):=by omega
 have hc12':(12:Int)≤(cap:Int):=by omega
 have p4:=h.part 0 10 10 (by decide) (by simp) (by decide) (by decide)
 have p2:=h.part 10 12 (cap - 10) (by decide) (by simp) (by omega) (by unfold maxLen;omega)
 rw[show [b0,b1,b2,b3,b4,b5,b6,b7,b8,b9,b10,b11].take 10=[b0,b1,b2,b3,b4,b5,b6,b7,b8,b9]from rfl]at p4
 have CS:=Lib.hid (p:=∀W,Keeps (fun _=>False) w W→∀d os,_) fun W hk d os=>quietF (W:=W) d os (fun A hA=>sum_runs _ _ A (p4.keeps (hk.trans hA) (fun _ _ h=>h)))
 have CR:=Lib.hid (p:=∀W,Keeps (fun _=>False) w W→∀d os,_) fun W hk d os=>quietF (W:=W) d os (fun A hA=>(read_runs _ _ A (p2.keeps (hk.trans hA) (fun _ _ h=>h))).mono (fun e w' h=>⟨h.1,h.2▸Keeps.refl _ _⟩))
 have HB0:=Lib.hid h
 obtain⟨o,ho⟩:∃o:Obj,o= .cells Frm.zero.cells 210:=⟨_,rfl⟩
 have hk2:Keeps (fun _=>False) w ((w.alloc o).alloc o):=(Keeps.alloc _ _ _).trans (Keeps.alloc _ _ _)
 subst ho
 go_enter Tryz.func118,Tryz.ntmps118
 go_wp2_with fail
 refine wp_region_quiet_below (by kernel_rfl) (by kernel_rfl) ?_
 repeat (go_big_quiet_step ((first | (go_at_call 166;exact CS.out _ hk2 _ _) | (go_at_call 167;exact CR.out _ hk2 _ _))))
 refine wpQuiet_nil ?_
 intro w' hw'
 obtain⟨⟨nq,osq⟩,hw''⟩:=hw'
 have hkV:Keeps (fun _=>False) w (grow (redrawn ((w.alloc (.cells Frm.zero.cells 210)).alloc (.cells Frm.zero.cells 210)) nq) osq):=hk2.trans (Keeps.of_below (below_regrown _ nq osq))
 have hz1:=blk_keeps (Keeps.of_below (F:=fun _=>False) (below_regrown ((w.alloc (.cells Frm.zero.cells 210)).alloc (.cells Frm.zero.cells 210)) nq osq)) (blk_alloc (blk_new w (.cells Frm.zero.cells 210)) (.cells Frm.zero.cells 210)) (fun h=>h)
 have hz2:=blk_keeps (Keeps.of_below (F:=fun _=>False) (below_regrown ((w.alloc (.cells Frm.zero.cells 210)).alloc (.cells Frm.zero.cells 210)) nq osq)) (blk_new (w.alloc (.cells Frm.zero.cells 210)) (.cells Frm.zero.cells 210)) (fun h=>h)
 rw[World.size_alloc]at hz2
 subst hw''
 clear CS CR hk2
 generalize grow (redrawn ((w.alloc (.cells Frm.zero.cells 210)).alloc (.cells Frm.zero.cells 210)) nq) osq=V at*
 obtain⟨x0,x1,x2,x3,x4,x5,fx0,fx1,fx2,fx3,fx4,fx5⟩:=FBox.all (f:=Frm.zero) hz1
 obtain⟨y0,y1,y2,y3,y4,y5,fy0,fy1,fy2,fy3,fy4,fy5⟩:=FBox.all (f:=Frm.zero) hz2
 have c0:=(h.keeps hkV (fun _ _ h=>h)).at 0 b0 rfl
 rw[Nat.add_zero]at c0
 have hB:=(h.keeps hkV (fun _ _ h=>h))
 have c1:=hB.at 1 b1 rfl
 have c2:=hB.at 2 b2 rfl
 have c3:=hB.at 3 b3 rfl
 have HBV:=Lib.hid hB
 have hgw:g < w.heap.size:=World.block_lt_of_cell? w _ (h.at 0 b0 rfl)
 have hne:g≠w.heap.size+1:=by omega
 have hne':¬(w.heap.size+1=g):=by omega
 have CR:=Lib.hid (p:=∀W:World,(W.cell? ⟨g,off,none⟩=some (.int .u8 b0)∧W.cell? ⟨g,off+1,none⟩=some (.int .u8 b1)∧W.cell? ⟨g,off+2,none⟩=some (.int .u8 b2)∧W.cell? ⟨g,off+3,none⟩=some (.int .u8 b3))→_) fun W hW=>read_runs _ _ W (byt_two (c:=cap - 2) hW.2.2.1 hW.2.2.2 (by omega) (by unfold maxLen;omega))
 have hc2:4≤cap:=by omega
 have hz1':=Lib.hid hz1
 have hz2':=Lib.hid hz2
 clear hB h p4 p2 x0 x1 x2 x3 x4 x5 fx0 fx1 fx2 fx3 fx4 fx5 hz1
 have S8:=Lib.hid (p:=∀U,Keeps (fun k=>k=w.heap.size+1) V U→U.cell? ⟨g,off,none⟩=some (.int .u8 b0)∧U.cell? ⟨g,off+1,none⟩=some (.int .u8 b1)∧U.cell? ⟨g,off+2,none⟩=some (.int .u8 b2)∧U.cell? ⟨g,off+3,none⟩=some (.int .u8 b3)) fun U hU=>⟨hU.cell c0 hne,hU.cell c1 hne,hU.cell c2 hne,hU.cell c3 hne⟩
 have hd8:Keeps (fun k=>k=w.heap.size+1) V V.drew:=Keeps.drew _ _
 have K8:=Lib.hid (p:=Keeps (fun k=>k=w.heap.size+1) V (set6 V.drew (w.heap.size+1) ⟨b0,b1,IntKind.u16.wrap (readC [b2,b3]),0,0,0⟩)) (hd8.trans (set6_keeps _ _ _))
 dsimp only[set6]at K8
 go_wp2_with fail
 go_region_held3 (fun w'=>w'.cell? ⟨g,off,none⟩=some (.int .u8 b0)∧w'.cell? ⟨g,off+1,none⟩=some (.int .u8 b1)∧w'.cell? ⟨g,off+2,none⟩=some (.int .u8 b2)∧w'.cell? ⟨g,off+3,none⟩=some (.int .u8 b3)) (with_reducible first | exact S8.out _ hd8 | exact S8.out _ K8.out | go_keep) (first
  | (go_at_call 167;refine(CR.out _ (by assumption)).mono ?_;rintro e w' ⟨rfl,hw⟩;subst hw))
 have hzf:=set6_box hz2'.out ⟨b0,b1,IntKind.u16.wrap (readC [b2,b3]),0,0,0⟩
 have hkf:=set6_keeps V (w.heap.size+1) ⟨b0,b1,IntKind.u16.wrap (readC [b2,b3]),0,0,0⟩
 have hzr:=blk_keeps hkf hz1'.out (by omega)
 have hkX:=hkV.then hkf (fun i hi e=>by omega)
 obtain⟨X,hX⟩:∃X,set6 V (w.heap.size+1) ⟨b0,b1,IntKind.u16.wrap (readC [b2,b3]),0,0,0⟩=X:=⟨_,rfl⟩
 rw[hX]at hzf hkf hzr hkX
 dsimp only[set6]at hX
 rw[hX]
 clear hX hkf K8 S8 hd8 y0 y1 y2 y3 y4 y5 fy0 fy1 fy2 fy3 fy4 fy5 c0 c1 c2 c3 CR hkV hz1' hz2'
 have hkX2:=hkX.trans (Keeps.drew (fun _=>False) X)
 have hzf2:FBox X.drew (w.heap.size+1) ⟨b0,b1,IntKind.u16.wrap (readC [b2,b3]),0,0,0⟩:=hzf
 have hzr2:FBox X.drew w.heap.size Frm.zero:=hzr
 clear hzf hzr hkX
 generalize X.drew=Y at*
 have hBY:=HB0.out.keeps hkX2 (fun _ _ h=>h)
 have c4:=hBY.at 4 b4 rfl
 have c5:=hBY.at 5 b5 rfl
 have p6:=hBY.part 6 10 (cap - 6) (by decide) (by simp) (by omega) (by unfold maxLen;omega)
 have CR10:=Lib.hid (p:=∀U,Keeps (fun k=>k=w.heap.size+1) Y U→_) fun U hU=>read_runs (.slice (some ⟨g,off+6,none⟩) 4 (cap - 6)) [b6,b7,b8,b9] U (p6.keeps hU (fun k hk=>by simp[Value.ownBlock]at hk;omega))
 have S10:=Lib.hid (p:=∀U,Keeps (fun k=>k=w.heap.size+1) Y U→U.cell? ⟨g,off+4,none⟩=some (.int .u8 b4)∧U.cell? ⟨g,off+5,none⟩=some (.int .u8 b5)) fun U hU=>⟨hU.cell c4 hne,hU.cell c5 hne⟩
 have hd10:Keeps (fun k=>k=w.heap.size+1) Y Y.drew:=Keeps.drew _ _
 obtain⟨y0,y1,y2,y3,y4,y5,fy0,fy1,fy2,fy3,fy4,fy5⟩:=hzf2.all
 have HZF2:=Lib.hid hzf2
 have HZR2:=Lib.hid hzr2
 have HKX2:=Lib.hid hkX2
 clear hzf2 hzr2 hkX2 hBY p6
 go_wp2_with fail
 go_region_held3 (fun w'=>w'.cell? ⟨g,off+4,none⟩=some (.int .u8 b4)∧w'.cell? ⟨g,off+5,none⟩=some (.int .u8 b5)) (with_reducible first | exact S10.out _ hd10 | go_keep) (first
  | (go_at_call 167;refine(CR10.out _ hd10).mono ?_;rintro e w' ⟨rfl,hw⟩;subst hw))
 have hzf:FBox (((Y.setCell ⟨w.heap.size+1,3,none⟩ (.int .u8 b4)).setCell ⟨w.heap.size+1,4,none⟩ (.int .u8 b5)).setCell ⟨w.heap.size+1,5,none⟩ (.int .u32 (readC [b6,b7,b8,b9]))) (w.heap.size+1) ⟨b0,b1,IntKind.u16.wrap (readC [b2,b3]),b4,b5,readC [b6,b7,b8,b9]⟩:=by
  unfold FBox
  rw[blk_set (blk_set (blk_set HZF2.out _ _) _ _) _ _]
  rfl
 have hkf:Keeps (fun k=>k=w.heap.size+1) Y (((Y.setCell ⟨w.heap.size+1,3,none⟩ (.int .u8 b4)).setCell ⟨w.heap.size+1,4,none⟩ (.int .u8 b5)).setCell ⟨w.heap.size+1,5,none⟩ (.int .u32 (readC [b6,b7,b8,b9]))):=((Keeps.setCell (fun k=>k=w.heap.size+1) _ _ _ rfl).trans (Keeps.setCell (fun k=>k=w.heap.size+1) _ _ _ rfl)).trans (Keeps.setCell (fun k=>k=w.heap.size+1) _ _ _ rfl)
 have hzr:=blk_keeps hkf HZR2.out (by omega)
 have hkX:=HKX2.out.then hkf (fun i hi e=>by omega)
 generalize ((Y.setCell ⟨w.heap.size+1,3,none⟩ (.int .u8 b4)).setCell ⟨w.heap.size+1,4,none⟩ (.int .u8 b5)).setCell ⟨w.heap.size+1,5,none⟩ (.int .u32 (readC [b6,b7,b8,b9]))=X at*
 clear hkf CR10 S10 hd10 HZF2 HZR2 HKX2 y0 y1 y2 y3 y4 y5 fy0 fy1 fy2 fy3 fy4 fy5 c4 c5
 rw[←HFE.out]at hzf
 obtain⟨k,l,q,s,d,bo⟩:=f
 have hzfd:FBox X.drew (w.heap.size+1) ⟨k,l,q,s,d,bo⟩:=hzf
 have hzrd:FBox X.drew w.heap.size Frm.zero:=hzr
 have hkd:=hkX.trans (Keeps.drew (fun _=>False) X)
 clear hzf hzr hkX
 generalize X.drew=Y at*
 have CS:=Lib.hid (p:=∀b,decide (soundF ⟨k,l,q,s,d,bo⟩)=b→Calls Tryz.prog 168 #[.agg #[.int .u8 k, .int .u8 l, .int .u16 q, .int .u8 s, .int .u8 d, .int .u32 bo]] Y fun e w'=>e= .returned (.bool b)∧Keeps (fun _=>False) Y w') fun b hb=>by
  have:=sound_runs ⟨k,l,q,s,d,bo⟩ Y
  rw[hb]at this
  exact this
 obtain⟨y0,y1,y2,y3,y4,y5,_⟩:=hzfd.all
 simp only at y0 y1 y2 y3 y4 y5
 have HF:=Lib.hid hzfd
 have HR:=Lib.hid hzrd
 have HK:=Lib.hid hkd
 clear hzfd hzrd hkd
 by_cases hs:soundF ⟨k,l,q,s,d,bo⟩
 ·have hb:=decide_eq_true hs
  go_wp2_with fail
  refine(CS.out true hb).mono ?_
  rintro e Z ⟨rfl,hZ⟩
  have hfz:FBox Z (w.heap.size+1) ⟨k,l,q,s,d,bo⟩:=blk_keeps hZ HF.out (fun h=>h)
  obtain⟨z0,z1,z2,z3,z4,z5,_⟩:=hfz.all
  simp only at z0 z1 z2 z3 z4 z5
  have hrz:FBox Z w.heap.size Frm.zero:=blk_keeps hZ HR.out (fun h=>h)
  obtain⟨r0,r1,r2,r3,r4,r5,g0,g1,g2,g3,g4,g5⟩:=hrz.all
  have HRZ:=Lib.hid hrz
  clear CS y0 y1 y2 y3 y4 y5 hrz
  go_wp2_with fail
  have hbx:=set6_box HRZ.out ⟨k,l,q,s,d,bo⟩
  have hkx:=set6_keeps Z w.heap.size ⟨k,l,q,s,d,bo⟩
  obtain⟨t0,t1,t2,t3,t4,t5,_⟩:=hbx.all
  dsimp only[set6]at t0 t1 t2 t3 t4 t5 hkx
  clear hbx
  exact bodyPost_ret (v:= .tuple #[Frm.val ⟨k,l,q,s,d,bo⟩, .int .u16 0]) (by simp[results,Tryz.results118,go_sem,t0,t1,t2,t3,t4,t5]) rfl ⟨by rw[decV,decE,if_pos hs,if_pos hs],(HK.out.trans hZ).then hkx (fun i hi e=>by omega)⟩
 ·have hb:=decide_eq_false hs
  go_wp2_with fail
  refine(CS.out false hb).mono ?_
  rintro e Z ⟨rfl,hZ⟩
  have hrz:FBox Z w.heap.size Frm.zero:=blk_keeps hZ HR.out (fun h=>h)
  obtain⟨r0,r1,r2,r3,r4,r5,g0,g1,g2,g3,g4,g5⟩:=hrz.all
  have HRZ:=Lib.hid hrz
  clear CS y0 y1 y2 y3 y4 y5 hrz
  go_wp2_with fail
  have hbx:=set6_box HRZ.out Frm.zero
  have hkx:=set6_keeps Z w.heap.size Frm.zero
  obtain⟨t0,t1,t2,t3,t4,t5,_⟩:=hbx.all
  dsimp only[set6]at t0 t1 t2 t3 t4 t5 hkx
  clear hbx
  exact bodyPost_ret (v:= .tuple #[Frm.zero.val, .int .u16 30]) (by simp[results,Tryz.results118,go_sem,t0,t1,t2,t3,t4,t5]) rfl ⟨by rw[decV,decE,if_neg hs,if_neg hs],(HK.out.trans hZ).then hkx (fun i hi e=>by omega)⟩
def frameOf (l:List Int):Frm:=if l.length=12 then⟨l.getD 0 0,l.getD 1 0,IntKind.u16.wrap (readC ((l.drop 2).take 2)),l.getD 4 0,l.getD 5 0,readC ((l.drop 6).take 4)⟩else⟨l.getD 0 0,l.getD 1 0,IntKind.u16.wrap (readC ((l.drop 2).take 2)),0,0,0⟩
def goodF (l:List Int):Bool:=decide (l.length=6∨l.length=12) && !(sumC (l.take (l.length - 2)) % 4294967296 != readC (l.drop (l.length - 2))) && ((l.getD 0 0 == 1) == decide (l.length=12))
def decF (l:List Int):Frm×Int:=if goodF l=true then(decV (frameOf l),decE (frameOf l))else(Frm.zero,30)
theorem decode_runs (v:Value) (l:List Int) (w:World) (h:Byt w v l):
  Calls Tryz.prog 118 #[v] w fun e w'=>e= .returned (.tuple #[(decF l).1.val, .int .u16 (decF l).2])∧Keeps (fun _=>False) w w':=by
 by_cases h6:l.length=6
 ·obtain⟨b0,b1,b2,b3,b4,b5,rfl⟩:∃b0 b1 b2 b3 b4 b5,l=[b0,b1,b2,b3,b4,b5]:=by
   match l,h6 with
   | [b0,b1,b2,b3,b4,b5],_=>exact⟨b0,b1,b2,b3,b4,b5,rfl⟩
  obtain⟨A,c,hv,hc,hm,hg⟩:=id h
  obtain⟨g,off,hA,_⟩:=hg (by simp)
  subst hA
  simp only[List.length_cons,List.length_nil]at hv
  subst hv
  have eg:goodF [b0,b1,b2,b3,b4,b5]=(!(sumC [b0,b1,b2,b3] % 4294967296 != readC [b4,b5]) && !(b0 == 1)):=by
   simp[goodF]
  unfold decF
  rw[eg]
  cases hs:(sumC [b0,b1,b2,b3] % 4294967296 != readC [b4,b5])with
  | true=>
    simp only[Bool.not_true,Bool.false_and,Bool.false_eq_true,if_false]
    exact dec_six g off c b0 b1 b2 b3 b4 b5 w h (.inl hs)
  | false=>
    cases hb:(b0 == 1)with
    | true=>
      simp only[Bool.not_true,Bool.and_false,Bool.false_eq_true,if_false]
      exact dec_six g off c b0 b1 b2 b3 b4 b5 w h (.inr ⟨hs,hb⟩)
    | false=>
      simp only[Bool.not_false,Bool.and_true,if_true]
      exact dec_six_ok g off c b0 b1 b2 b3 b4 b5 w h hs hb _ rfl
 ·by_cases h12:l.length=12
  ·obtain⟨b0,b1,b2,b3,b4,b5,b6,b7,b8,b9,b10,b11,rfl⟩:∃b0 b1 b2 b3 b4 b5 b6 b7 b8 b9 b10 b11,l=[b0,b1,b2,b3,b4,b5,b6,b7,b8,b9,b10,b11]:=by
    match l,h12 with
    | [b0,b1,b2,b3,b4,b5,b6,b7,b8,b9,b10,b11],_=>exact⟨b0,b1,b2,b3,b4,b5,b6,b7,b8,b9,b10,b11,rfl⟩
   obtain⟨A,c,hv,hc,hm,hg⟩:=id h
   obtain⟨g,off,hA,_⟩:=hg (by simp)
   subst hA
   simp only[List.length_cons,List.length_nil]at hv
   subst hv
   have eg:goodF [b0,b1,b2,b3,b4,b5,b6,b7,b8,b9,b10,b11]=(!(sumC [b0,b1,b2,b3,b4,b5,b6,b7,b8,b9] % 4294967296 != readC [b10,b11]) && (b0 == 1)):=by
    simp[goodF]
   unfold decF
   rw[eg]
   cases hs:(sumC [b0,b1,b2,b3,b4,b5,b6,b7,b8,b9] % 4294967296 != readC [b10,b11])with
   | true=>
     simp only[Bool.not_true,Bool.false_and,Bool.false_eq_true,if_false]
     exact dec_twelve g off c b0 b1 b2 b3 b4 b5 b6 b7 b8 b9 b10 b11 w h (.inl hs)
   | false=>
     cases hb:(b0 == 1)with
     | false=>
       simp only[Bool.and_false,Bool.false_eq_true,if_false]
       exact dec_twelve g off c b0 b1 b2 b3 b4 b5 b6 b7 b8 b9 b10 b11 w h (.inr ⟨hs,hb⟩)
     | true=>
       simp only[Bool.not_false,Bool.and_true,if_true]
       exact dec_twelve_ok g off c b0 b1 b2 b3 b4 b5 b6 b7 b8 b9 b10 b11 w h hs hb _ rfl
  ·have eg:goodF l=false:=by simp[goodF,h6,h12]
   unfold decF
   rw[if_neg (by rw[eg];decide)]
   exact dec_len v l w h h6 h12
end Go.Proofs.YtebnflpanfmicaaGreatDoor
