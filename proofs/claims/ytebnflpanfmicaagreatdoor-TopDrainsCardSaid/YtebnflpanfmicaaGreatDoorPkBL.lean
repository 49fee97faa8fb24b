/-
  Part 38 of the proof: TopFNewW, TopBegan.
-/
import Derived.Test.YtebnflpanfmicaaGreatDoorPkBF
import Derived.Test.YtebnflpanfmicaaGreatDoorPkAO
import Derived.Test.YtebnflpanfmicaaGreatDoorPkAR
import Derived.Deep.RegionHeld3
import Derived.Deep.RegionLaw
import Derived.Test.YtebnflpanfmicaaGreatDoorPkBB
import Derived.Test.YtebnflpanfmicaaGreatDoorPkBD
import Derived.Test.YtebnflpanfmicaaGreatDoorPkBK
set_option linter.unusedVariables false
set_option linter.unusedSimpArgs false
set_option linter.unusedSectionVars false
namespace Go.Proofs.YtebnflpanfmicaaGreatDoor
open Go.RowKit
theorem info_node:(Tryz.prog.info? 58).map (fun i=>(i.zero,i.size,i.bytes))=some (some (.pointer none),1,8):=by kernel_rfl
section
variable {σ:Sig} {w:World} {o:Nat→Option Cmp} {f:Nat}
set_option maxRecDepth 100000 in
set_option maxHeartbeats 16000000 in
theorem fnew_runs (h:SysF σ w o) (hF:FreeF σ f) {S:Nat→Prop} {p:Nums} {t ws:List Nat} {e wt nx:Value} (hP:PlanS w S p t ws e wt nx) (hst:0≤p.start∧p.start < 65536):
  Calls Tryz.prog 14 #[planV p t e wt nx] w fun e' w'=>∃fa e1 wt1 nx1,e'= .returned (.tuple #[.pointer (some ⟨fa.fb,0,none⟩), .int .u16 0])∧∃σ' o',SysF σ' w' o'∧Ext o w o' w'∧FabAt σ' f fa ⟨p,t,ws,e1,wt1,nx1⟩ (newF ⟨p,t,ws,e1,wt1,nx1⟩)∧Agree σ σ' f:=by
 obtain⟨⟨Ea,ec,rfl⟩,⟨Wa,wc,rfl⟩,⟨Na,nc,rfl⟩⟩:=hP.shapes
 have hchk:=fun U hU=>rcheck_runs (hP.keeps (w':=U) (F:=fun _=>False) hU (fun _ _ h=>h))
 have hcl:=fun U hU=>pclone_runs (hP.keeps (w':=U) (F:=fun _=>False) hU (fun _ _ h=>h))
 have hho:=fun U hU=>hops_runs (hP.keeps (w':=U) (F:=fun _=>False) hU (fun _ _ h=>h))
 have H:=Lib.hid h
 have HP:=Lib.hid hP
 have HF:=Lib.hid hF
 have hbag:=hP.nums.bag
 have ht5:=hP.t5
 obtain⟨lanes,room,queue,rounds,every,bag,start⟩:=p
 simp only at hst hbag
 unfold planV Nums.plan at hchk hcl hho ⊢
 simp only at hchk hcl hho ⊢
 have HCHK:=Lib.hid hchk
 have HCL:=Lib.hid hcl
 have HHO:=Lib.hid hho
 have HST:=Lib.hid hst
 have HBAG:=Lib.hid hbag
 have HT5:=Lib.hid ht5
 have hk0:Keeps (fun _=>False) w (w.alloc (.cells #[.int .i64 ((t.length:Int)+1), .slice Ea t.length ec, .int .i64 lanes, .int .i64 room, .int .i64 queue, .int .i64 rounds, .int .i64 every, .int .i64 bag, .slice Wa ws.length wc, .int .u16 start, .slice Na (t.length+1) nc] 38)):=Keeps.alloc _ _ _
 have hb:PBox (w.alloc (.cells #[.int .i64 ((t.length:Int)+1), .slice Ea t.length ec, .int .i64 lanes, .int .i64 room, .int .i64 queue, .int .i64 rounds, .int .i64 every, .int .i64 bag, .slice Wa ws.length wc, .int .u16 start, .slice Na (t.length+1) nc] 38)) w.heap.size #[.int .i64 ((t.length:Int)+1), .slice Ea t.length ec, .int .i64 lanes, .int .i64 room, .int .i64 queue, .int .i64 rounds, .int .i64 every, .int .i64 bag, .slice Wa ws.length wc, .int .u16 start, .slice Na (t.length+1) nc]:=blk_new w _
 obtain⟨z0,z1,z2,z3,z4,z5,z6,z7,z8,z9,z10,zf⟩:=PBox.all hb
 have HB:=Lib.hid hb
 have HK0:=Lib.hid hk0
 clear h hP hF hchk hcl hho hst hbag ht5 hk0 hb zf
 go_enter Tryz.func14,Tryz.ntmps14
 go_wp2_with fail
 generalize w.alloc (.cells #[.int .i64 ((t.length:Int)+1), .slice Ea t.length ec, .int .i64 lanes, .int .i64 room, .int .i64 queue, .int .i64 rounds, .int .i64 every, .int .i64 bag, .slice Wa ws.length wc, .int .u16 start, .slice Na (t.length+1) nc] 38)=X at*
 obtain⟨pbx,hpbx⟩:∃pbx,w.heap.size=pbx:=⟨_,rfl⟩
 rw[hpbx]at HB z0 z1 z2 z3 z4 z5 z6 z7 z8 z9 z10 ⊢
 have HPB:=Lib.hid hpbx
 refine(HCHK.out X HK0.out).mono ?_
 rintro e U ⟨rfl,hU⟩
 have hbU:=blk_keeps hU HB.out (fun h=>h)
 have HKU:=Lib.hid (HK0.out.trans hU)
 have HBU:=Lib.hid hbU
 have b0:((0:Int) == 0)=true:=rfl
 have b0':((0:Int) != 0)=false:=rfl
 clear hU hbU HCHK HK0 HB z0 z1 z2 z3 z4 z5 z6 z7 z8 z9 z10 hpbx
 go_wp2_with fail
 have HPL:=Lib.hid (p:=∀Z,Keeps (fun _=>False) U Z→Z.cell? ⟨pbx,0,none⟩=some (.int .i64 ((t.length:Int)+1))∧Z.cell? ⟨pbx,1,none⟩=some (.slice Ea t.length ec)∧Z.cell? ⟨pbx,2,none⟩=some (.int .i64 lanes)∧Z.cell? ⟨pbx,3,none⟩=some (.int .i64 room)∧Z.cell? ⟨pbx,4,none⟩=some (.int .i64 queue)∧Z.cell? ⟨pbx,5,none⟩=some (.int .i64 rounds)∧Z.cell? ⟨pbx,6,none⟩=some (.int .i64 every)∧Z.cell? ⟨pbx,7,none⟩=some (.int .i64 bag)∧Z.cell? ⟨pbx,8,none⟩=some (.slice Wa ws.length wc)∧Z.cell? ⟨pbx,9,none⟩=some (.int .u16 start)∧Z.cell? ⟨pbx,10,none⟩=some (.slice Na (t.length+1) nc)) fun Z hZ=>by
  obtain⟨y0,y1,y2,y3,y4,y5,y6,y7,y8,y9,y10,yf⟩:=PBox.all (show PBox Z pbx _ from blk_keeps hZ HBU.out (fun h=>h))
  exact⟨y0,y1,y2,y3,y4,y5,y6,y7,y8,y9,y10⟩
 have hdU:Keeps (fun _=>False) U U.drew:=Keeps.drew _ _
 have hsd:=HPL.out _ hdU
 obtain⟨y0,y1,y2,y3,y4,y5,y6,y7,y8,y9,y10⟩:=HPL.out _ (Keeps.refl _ U)
 have hmm:= @run_makeMap Tryz.prog
 have hdA:Keeps (fun _=>False) U (U.alloc (.map #[] 0)).drew:=(Keeps.alloc _ _ _).trans (Keeps.drew _ _)
 have hsA:=HPL.out _ hdA
 obtain⟨PM,hPM⟩:∃PM:(Nat→Value)→World→Prop,PM=fun fr W=>∃fa e1 wt1 nx1 o',fr 0= .pointer (some ⟨fa.fb,0,none⟩)∧FN σ f ⟨⟨lanes,room,queue,rounds,every,bag,start⟩,t,ws,e1,wt1,nx1⟩ w o fa 0 0 o' W∧PBox W pbx #[.int .i64 ((t.length:Int)+1), .slice Ea t.length ec, .int .i64 lanes, .int .i64 room, .int .i64 queue, .int .i64 rounds, .int .i64 every, .int .i64 bag, .slice Wa ws.length wc, .int .u16 start, .slice Na (t.length+1) nc]∧o' pbx=none:=⟨_,rfl⟩
 have HPM:=Lib.hid hPM
 clear hPM
 refine wp_midP 5 16 PM ?_ ?_
 ·intro M hM
  have HMM:=Lib.hid hM
  clear hM
  go_region_held3 (fun Z=>Z.cell? ⟨pbx,0,none⟩=some (.int .i64 ((t.length:Int)+1))∧Z.cell? ⟨pbx,1,none⟩=some (.slice Ea t.length ec)∧Z.cell? ⟨pbx,2,none⟩=some (.int .i64 lanes)∧Z.cell? ⟨pbx,3,none⟩=some (.int .i64 room)∧Z.cell? ⟨pbx,4,none⟩=some (.int .i64 queue)∧Z.cell? ⟨pbx,5,none⟩=some (.int .i64 rounds)∧Z.cell? ⟨pbx,6,none⟩=some (.int .i64 every)∧Z.cell? ⟨pbx,7,none⟩=some (.int .i64 bag)∧Z.cell? ⟨pbx,8,none⟩=some (.slice Wa ws.length wc)∧Z.cell? ⟨pbx,9,none⟩=some (.int .u16 start)∧Z.cell? ⟨pbx,10,none⟩=some (.slice Na (t.length+1) nc))
   (with_reducible first | exact hsd | exact hsA | exact hs1 | exact hs2 | exact hs3 | exact hs4 | go_keep)
   (first
    | (go_at_call 41;refine(HCL.out U.drew (HKU.out.trans hdU)).mono ?_;rintro e' U1 ⟨e1,wt1,nx1,rfl,hP1,hk1'⟩;have hk1:=hdU.trans hk1';have hs1:=HPL.out _ hk1;have hs3:=HPL.out _ (hk1.trans (Keeps.alloc (fun _=>False) _ (.map #[] 0))))
    | (go_at_call 41;refine(HCL.out (U.alloc (.map #[] 0)).drew (HKU.out.trans hdA)).mono ?_;rintro e' U1 ⟨e1,wt1,nx1,rfl,hP1,hk1'⟩;have hk1:=hdA.trans hk1';have hs1:=HPL.out _ hk1)
    | (go_at_call 42;refine(HHO.out U1 (HKU.out.trans hk1)).mono ?_;rintro e' U2 ⟨hA,hc,rfl,hq2,hk2',ho2⟩;have hk2:=hk1.trans hk2';have hs2:=HPL.out _ hk2;have hs4:=HPL.out _ (hk2.trans (Keeps.alloc (fun _=>False) _ (.map #[] 0))))
    | (go_at_call 42;refine(HHO.out (U1.alloc (.map #[] 0)) (HKU.out.trans (hk1.trans (Keeps.alloc (fun _=>False) _ (.map #[] 0))))).mono ?_;rintro e' U2 ⟨hA,hc,rfl,hq2,hk2',ho2⟩;have hk2:=(hk1.trans (Keeps.alloc (fun _=>False) _ (.map #[] 0))).trans hk2';have hs2:=HPL.out _ hk2))
  all_goals
   clear hsd hsA hs1 hs2 y0 y1 y2 y3 y4 y5 y6 y7 y8 y9 y10
   show M _ _
   refine HMM.out _ _ rfl rfl rfl ?_
   rw[HPM.out]
  ·have hsU:=HKU.out.size
   have s1:=hdU.size
   have s2:=hk1'.size
   have s3:=hk2'.size
   have s4:(U2.alloc (.map #[] 0)).heap.size=U2.heap.size+1:=World.size_alloc _ _
   obtain⟨o',hN,hoo⟩:=FN.start (g:=⟨⟨lanes,room,queue,rounds,every,bag,start⟩,t,ws,e1,wt1,nx1⟩) (Z:=U2.alloc (.map #[] 0)) (lo:=U.drew.heap.size) (hi:=U1.heap.size) (mb:=U2.heap.size) (hv:= .slice hA (hopsOf t).length hc) H.out HF.out ((HKU.out.trans hk2).trans (Keeps.alloc _ _ _)) ((hP1.keeps hk2' (fun _ _ h=>h)).keeps (Keeps.alloc (fun _=>False) _ (.map #[] 0)) (fun _ _ h=>h)) (by omega) (by omega) (by omega) (blk_new U2 (.map #[] 0)) (by omega) (by omega) (hq2.alloc _) (fun k e=>by have:=ho2 k e;omega) rfl
   exact⟨_,e1,wt1,nx1,o',(by show Value.pointer (some ⟨U2.heap.size+1,0,none⟩)= .pointer (some ⟨(U2.alloc (.map #[] 0)).heap.size,0,none⟩);rw[s4]),hN,blk_keeps ((hk2.trans (Keeps.alloc _ _ _)).trans (Keeps.alloc _ _ _)) HBU.out (fun h=>h),(hoo pbx (by have:=blk_lt HBU.out;omega)).trans (SysF.fresh H.out (by rw[HPB.out];exact Nat.le_refl _))⟩
  ·have hsU:=HKU.out.size
   have s1:=hdU.size
   have s2:=hk1'.size
   have s3:=hk2'.size
   have s4:(U1.alloc (.map #[] 0)).heap.size=U1.heap.size+1:=World.size_alloc _ _
   obtain⟨o',hN,hoo⟩:=FN.start (g:=⟨⟨lanes,room,queue,rounds,every,bag,start⟩,t,ws,e1,wt1,nx1⟩) (Z:=U2) (lo:=U.drew.heap.size) (hi:=U1.heap.size) (mb:=U1.heap.size) (hv:= .slice hA (hopsOf t).length hc) H.out HF.out (HKU.out.trans hk2) ((hP1.keeps (Keeps.alloc (fun _=>False) _ (.map #[] 0)) (fun _ _ h=>h)).keeps hk2' (fun _ _ h=>h)) (by omega) (by omega) (by omega) (blk_keeps hk2' (blk_new U1 (.map #[] 0)) (fun h=>h)) (by omega) (by omega) (hq2) (fun k e=>by have:=ho2 k e;omega) rfl
   exact⟨_,e1,wt1,nx1,o',rfl,hN,blk_keeps ((hk2).trans (Keeps.alloc _ _ _)) HBU.out (fun h=>h),(hoo pbx (by have:=blk_lt HBU.out;omega)).trans (SysF.fresh H.out (by rw[HPB.out];exact Nat.le_refl _))⟩
  ·have hsU:=HKU.out.size
   have s1:=hdA.size
   have s2:=hk1'.size
   have s3:=hk2'.size
   have s4:(U.alloc (.map #[] 0)).drew.heap.size=U.heap.size+1:=World.size_alloc _ _
   obtain⟨o',hN,hoo⟩:=FN.start (g:=⟨⟨lanes,room,queue,rounds,every,bag,start⟩,t,ws,e1,wt1,nx1⟩) (Z:=U2) (lo:=(U.alloc (.map #[] 0)).drew.heap.size) (hi:=U1.heap.size) (mb:=U.heap.size) (hv:= .slice hA (hopsOf t).length hc) H.out HF.out (HKU.out.trans hk2) (hP1.keeps hk2' (fun _ _ h=>h)) (by omega) (by omega) (by omega) (blk_keeps hk2' (blk_keeps hk1' (show(U.alloc (.map #[] 0)).drew.heap[U.heap.size]? =_ from blk_new U (.map #[] 0)) (fun h=>h)) (fun h=>h)) (by omega) (by omega) (hq2) (fun k e=>by have:=ho2 k e;omega) rfl
   exact⟨_,e1,wt1,nx1,o',rfl,hN,blk_keeps ((hk2).trans (Keeps.alloc _ _ _)) HBU.out (fun h=>h),(hoo pbx (by have:=blk_lt HBU.out;omega)).trans (SysF.fresh H.out (by rw[HPB.out];exact Nat.le_refl _))⟩
 ·intro fr W hW
  rw[HPM.out]at hW
  obtain⟨fa,e1,wt1,nx1,o',hfr,hN,hbW,hoW⟩:=hW
  obtain⟨fb,hfb⟩:∃fb,fa.fb=fb:=⟨_,rfl⟩
  rw[hfb]at hfr
  simp only[List.take_succ_cons,List.take_zero,List.drop_succ_cons,List.drop_zero,List.cons_append,List.nil_append,List.range_succ,List.range_zero,List.map_append,List.map_cons,List.map_nil,hfr]
  have HN:=Lib.hid hN
  have HBW:=Lib.hid hbW
  have HOW:=Lib.hid hoW
  have HFB:=Lib.hid hfb
  clear hfr hN hbW hoW hfb hsd hsA hmm HPM y0 y1 y2 y3 y4 y5 y6 y7 y8 y9 y10 HPL hdU hdA
  have q0:=(PBox.all (show PBox W pbx _ from HBW.out)).1
  go_wp2_with fail
  clear q0
  go_loopw [23] (fun c wr=>∃(m:Nat) (fa':FabA) (o':Nat→Option Cmp),m≤t.length+1∧c= .int .i64 (m:Int)∧fa'.fb=fb∧FN σ f ⟨⟨lanes,room,queue,rounds,every,bag,start⟩,t,ws,e1,wt1,nx1⟩ w o fa' m 0 o' wr∧PBox wr pbx #[.int .i64 ((t.length:Int)+1), .slice Ea t.length ec, .int .i64 lanes, .int .i64 room, .int .i64 queue, .int .i64 rounds, .int .i64 every, .int .i64 bag, .slice Wa ws.length wc, .int .u16 start, .slice Na (t.length+1) nc]∧o' pbx=none) (fun c _=>t.length+1 - (intOf c).toNat)
  case atStart=>exact⟨0,fa,o',Nat.zero_le _,rfl,HFB.out,HN.out,HBW.out,HOW.out⟩
  case round=>
   obtain⟨m,fa',o'',hm,rfl,hfb',hN',hB',hO'⟩:=hrel
   by_cases hml:m≤t.length
   ·have hmi:(m:Int) < (t.length:Int)+1:=by omega
    obtain⟨pA,pc,hnv,_,_⟩:=hN'.nodes.shape
    have HNN:=Lib.hid hN'
    have HFB':=Lib.hid hfb'
    have HB':=Lib.hid hB'
    have HO':=Lib.hid hO'
    have HNV:=Lib.hid hnv
    have hd1:Keeps (fun _=>False) wr wr.drew:=Keeps.drew _ _
    have hbx:=hN'.box
    rw[hfb']at hbx
    have HBX:=Lib.hid hbx
    have HC:=Lib.hid (p:=∀Z,Keeps (fun k=>(o'' k).isSome=true) wr Z→Z.cell? ⟨fb,12,none⟩=some (.slice pA m pc)∧Z.cell? ⟨fb,0,none⟩=some (.int .i64 ((t.length:Int)+1))∧Z.cell? ⟨fb,1,none⟩=some e1∧Z.cell? ⟨fb,2,none⟩=some (.int .i64 lanes)∧Z.cell? ⟨fb,3,none⟩=some (.int .i64 room)∧Z.cell? ⟨fb,4,none⟩=some (.int .i64 queue)∧Z.cell? ⟨fb,5,none⟩=some (.int .i64 rounds)∧Z.cell? ⟨fb,6,none⟩=some (.int .i64 every)∧Z.cell? ⟨fb,7,none⟩=some (.int .i64 bag)∧Z.cell? ⟨fb,8,none⟩=some wt1∧Z.cell? ⟨fb,9,none⟩=some (.int .u16 start)∧Z.cell? ⟨fb,10,none⟩=some nx1) fun Z hZ=>by
     have:=fun j=>blk_cell (blk_keeps hZ HBX.out (fun e=>by have:=HNN.out.fbo.2;rw[HFB'.out]at this;rw[this]at e;cases e)) j
     refine⟨?_, ?_, ?_, ?_, ?_, ?_, ?_, ?_, ?_, ?_, ?_, ?_⟩ <;>rw[this]
     ·rw[←HNV.out];rfl
     all_goals rfl
    have hNC:=nnew_runs (g:=⟨⟨lanes,room,queue,rounds,every,bag,start⟩,t,ws,e1,wt1,nx1⟩) (v:=m) (f:=f) (hN'.calm hd1).sys (by simp[newSig]) (by simp[newSig,HF.out.node]) hml HST.out
    unfold planV Nums.plan at hNC
    simp only at hNC
    have HNC:=Lib.hid hNC
    have hnp:(Value.slice pA m pc).ownBlock≠some fb:=fun e=>by
     rw[←hnv]at e
     exact(hN'.apart.2.2 _ e).1 (by rw[hfb'])
    have HNP:=Lib.hid hnp
    have HQA:=Lib.hid (p:=∀U O,Keeps (fun k=>(o'' k).isSome=true) wr U→QS (U.alloc O) 58 1 (.slice pA m pc) m (nodePtrs fa' m)) fun U O hU=>by
     have h1:=HNN.out.nodes.keeps hU (fun k e e2=>by rw[(HNN.out.nown k e).2]at e2;cases e2)
     rw[HNV.out]at h1
     exact h1.alloc O
    have HSA:=Lib.hid (p:=∀(U:World) (b1:Nat),Src Tryz.prog 1 90 (.slice (some ⟨U.heap.size,0,none⟩) 1 1) 1 [.pointer (some ⟨b1,0,none⟩)] (U.alloc (.cells #[.pointer (some ⟨b1,0,none⟩)] 58))) fun U b1=>
     src_blk Tryz.underlying90 (blk_new U _) rfl (by intro jj hjj';match jj,hjj' with | 0,_=>rfl) (by intro y hy;simp at hy;rcases hy with rfl;rfl)
    have HST2:=Lib.hid (p:=∀U O U2 vv,Keeps (fun k=>(o'' k).isSome=true) wr U→(U.alloc O).grownBy U2 (Value.slice pA m pc).ownBlock→(U2.cell? ⟨fb,12,none⟩=some (.slice pA m pc)∧U2.frozen? ⟨fb,12,none⟩=false)∧(U2.cell? ⟨fb,0,none⟩=some (.int .i64 ((t.length:Int)+1))∧U2.cell? ⟨fb,1,none⟩=some e1∧U2.cell? ⟨fb,2,none⟩=some (.int .i64 lanes)∧U2.cell? ⟨fb,3,none⟩=some (.int .i64 room)∧U2.cell? ⟨fb,4,none⟩=some (.int .i64 queue)∧U2.cell? ⟨fb,5,none⟩=some (.int .i64 rounds)∧U2.cell? ⟨fb,6,none⟩=some (.int .i64 every)∧U2.cell? ⟨fb,7,none⟩=some (.int .i64 bag)∧U2.cell? ⟨fb,8,none⟩=some wt1∧U2.cell? ⟨fb,9,none⟩=some (.int .u16 start)∧U2.cell? ⟨fb,10,none⟩=some nx1)∧((U2.setCell ⟨fb,12,none⟩ vv).cell? ⟨fb,0,none⟩=some (.int .i64 ((t.length:Int)+1))∧(U2.setCell ⟨fb,12,none⟩ vv).cell? ⟨fb,1,none⟩=some e1∧(U2.setCell ⟨fb,12,none⟩ vv).cell? ⟨fb,2,none⟩=some (.int .i64 lanes)∧(U2.setCell ⟨fb,12,none⟩ vv).cell? ⟨fb,3,none⟩=some (.int .i64 room)∧(U2.setCell ⟨fb,12,none⟩ vv).cell? ⟨fb,4,none⟩=some (.int .i64 queue)∧(U2.setCell ⟨fb,12,none⟩ vv).cell? ⟨fb,5,none⟩=some (.int .i64 rounds)∧(U2.setCell ⟨fb,12,none⟩ vv).cell? ⟨fb,6,none⟩=some (.int .i64 every)∧(U2.setCell ⟨fb,12,none⟩ vv).cell? ⟨fb,7,none⟩=some (.int .i64 bag)∧(U2.setCell ⟨fb,12,none⟩ vv).cell? ⟨fb,8,none⟩=some wt1∧(U2.setCell ⟨fb,12,none⟩ vv).cell? ⟨fb,9,none⟩=some (.int .u16 start)∧(U2.setCell ⟨fb,12,none⟩ vv).cell? ⟨fb,10,none⟩=some nx1)) fun U O U2 vv hU hg=>by
     have hb1:=blk_keeps (hU.trans (Keeps.alloc _ _ O)) HBX.out (fun e=>by have:=HNN.out.fbo.2;rw[HFB'.out]at this;rw[this]at e;cases e)
     have hb2:=(hg.block fb (blk_lt hb1) (fun e=>HNP.out e.symm)).trans hb1
     have hb3:=blk_set hb2 12 vv
     have q2:=fun j=>blk_cell hb2 j
     have q3:=fun j=>blk_cell hb3 j
     refine⟨⟨?_,blk_frozen hb2 12⟩,⟨?_, ?_, ?_, ?_, ?_, ?_, ?_, ?_, ?_, ?_, ?_⟩,⟨?_, ?_, ?_, ?_, ?_, ?_, ?_, ?_, ?_, ?_, ?_⟩⟩
     ·rw[q2,←HNV.out];rfl
     all_goals first | (rw[q2];rfl) | (rw[q3];rfl)
    have hd1':Keeps (fun k=>(o'' k).isSome=true) wr wr.drew:=Keeps.drew _ _
    obtain⟨c12,c0,k1,k2,k3,k4,k5,k6,k7,k8,k9,k10⟩:=HC.out wr (Keeps.refl _ _)
    obtain⟨d12,hsd⟩:=HC.out _ hd1'
    have h8:0 < 8:=by decide
    have hb8:(m+1)*8≤140737488355328:=by have:=HT5.out;omega
    have hm0:¬((m:Int)) < 0:=by omega
    clear hN' hfb' hB' hO' hnv hbx hNC hnp
    go_wp2_with fail
    obtain⟨PM,hPM⟩:∃PM:World→Prop,PM=fun W=>∃(fa2:FabA) (o2:Nat→Option Cmp),fa2.fb=fb∧FN σ f ⟨⟨lanes,room,queue,rounds,every,bag,start⟩,t,ws,e1,wt1,nx1⟩ w o fa2 (m+1) 0 o2 W∧PBox W pbx #[.int .i64 ((t.length:Int)+1), .slice Ea t.length ec, .int .i64 lanes, .int .i64 room, .int .i64 queue, .int .i64 rounds, .int .i64 every, .int .i64 bag, .slice Wa ws.length wc, .int .u16 start, .slice Na (t.length+1) nc]∧o2 pbx=none:=⟨_,rfl⟩
    have HPM:=Lib.hid hPM
    clear hPM
    refine wp_mid 26 15 PM ?_ ?_
    ·intro M hM
     have HMM:=Lib.hid hM
     clear hM
     rw[show Op.load 90 (Operand.tmp 29)=lateLoad 90 29 from rfl]
     go_region_held3 (fun Z=>Z.cell? ⟨fb,0,none⟩=some (.int .i64 ((t.length:Int)+1))∧Z.cell? ⟨fb,1,none⟩=some e1∧Z.cell? ⟨fb,2,none⟩=some (.int .i64 lanes)∧Z.cell? ⟨fb,3,none⟩=some (.int .i64 room)∧Z.cell? ⟨fb,4,none⟩=some (.int .i64 queue)∧Z.cell? ⟨fb,5,none⟩=some (.int .i64 rounds)∧Z.cell? ⟨fb,6,none⟩=some (.int .i64 every)∧Z.cell? ⟨fb,7,none⟩=some (.int .i64 bag)∧Z.cell? ⟨fb,8,none⟩=some wt1∧Z.cell? ⟨fb,9,none⟩=some (.int .u16 start)∧Z.cell? ⟨fb,10,none⟩=some nx1)
      (with_reducible first | exact hsd | exact hs1' | exact hs3' _ | exact hs4' | exact hs5' | go_keep)
      (first
      | (refine step_append_QS rfl (.tmp 30) (.tmp 37) 90 90 rfl 58 _ 1 8 Tryz.underlying90 info_node rfl _ m _ rfl (HQA.out _ _ hk1) _ 1 _ rfl (HSA.out _ a.nb) h8 hb8 ?_;intro A2 c2_ U3 hq2 hg2 ho2;obtain⟨⟨hbU3,hfU3⟩,hs4',hs5'⟩:=HST2.out _ _ _ (.slice A2 (m+1) c2_) hk1 hg2)
      | (go_at_call 43;refine HNC.out.mono ?_;rintro e' U1 ⟨a,o3,rfl,hS1,hx1,hl1⟩;have hk1:=hd1'.trans hx1.1;obtain⟨e12,hs1'⟩:=HC.out _ hk1;have f12:∀O,(U1.alloc O).cell? ⟨fb,12,none⟩=some (.slice pA m pc):=fun O=>(HC.out _ (hk1.trans (Keeps.alloc _ _ O))).1;have hs3':=fun O=>(HC.out _ (hk1.trans (Keeps.alloc (fun k=>(o'' k).isSome=true) U1 O))).2))
     all_goals
      show M _ _
      refine HMM.out _ _ (mid_frame rfl rfl rfl) ?_
      rw[HPM.out]
      have hg:(U1.alloc (.cells #[.pointer (some ⟨a.nb,0,none⟩)] 58)).grownBy U3 (Value.slice pA m pc).ownBlock:=hg2
      have hq3:QS U3 58 1 (.slice A2 (m+1) c2_) (m+1) (nodePtrs fa' m ++ [.pointer (some ⟨a.nb,0,none⟩)]):=hq2
      have ho3:(Value.slice A2 (m+1) c2_).ownBlock=(Value.slice pA m pc).ownBlock∨∃c,(Value.slice A2 (m+1) c2_).ownBlock=some c∧(U1.alloc (.cells #[.pointer (some ⟨a.nb,0,none⟩)] 58)).heap.size≤c:=ho2
      have hkG:Keeps (fun q=>(Value.slice pA m pc).ownBlock=some q) U1 U3:=((Keeps.alloc _ _ _)).trans (Keeps.grown hg (fun q e=>e))
      have hkS:Keeps (fun q=>q=fb) U3 (U3.setCell ⟨fb,12,none⟩ (.slice A2 (m+1) c2_)):=Keeps.setCell _ _ _ _ rfl
      have hb1:=blk_keeps hk1 HB'.out (fun e=>by rw[HO'.out]at e;cases e)
      have hb2:=blk_keeps hkG hb1 (fun e=>by
       rw[←HNV.out]at e
       obtain⟨cur,hc⟩:=HNN.out.nodes.typed _ e
       exact absurd (ty_eq hc HB'.out) (by decide))
      have hb3:=blk_keeps hkS hb2 (fun e=>by
       have hc:=HBX.out
       rw[←e]at hc
       exact absurd (ty_eq hc HB'.out) (by decide))
      rw[←HNV.out]at hg ho3
      have hfin:=(HNN.out.calm hd1).node hS1 hx1 hl1 hg hq3 ho3
      rw[HFB'.out]at hfin
      refine⟨_,o3, ?_,hfin,hb3,(hx1.2 pbx (Nat.lt_of_lt_of_le (blk_lt HB'.out) hd1.size)).trans HO'.out⟩
      rfl
    ·intro fu W hP
     rw[HPM.out]at hP
     obtain⟨fa2,o2,hp1,hp2,hp3,hp4⟩:=hP
     simp only[List.take_succ_cons,List.take_zero,List.drop_succ_cons,List.drop_zero,List.cons_append,List.nil_append]
     have HP1:=Lib.hid hp1
     have HP2:=Lib.hid hp2
     have HP3:=Lib.hid hp3
     have HP4:=Lib.hid hp4
     clear hp1 hp2 hp3 hp4 c12 c0 k1 k2 k3 k4 k5 k6 k7 k8 k9 k10 d12 hsd HPM HST2 HSA HQA HNP HNC HC HBX hd1 hd1'
     go_wp2_with fail
     go_roundw
     case rel=>exact⟨m+1,fa2,o2,by omega,by go_num,HP1.out,HP2.out,HP3.out,HP4.out⟩
     case measure=>simp[intOf];omega
   ·obtain rfl:m=t.length+1:=by omega
    have hmi:¬(((t.length+1:Nat)):Int) < (t.length:Int)+1:=by omega
    have hbx:=hN'.box
    rw[hfb']at hbx
    obtain⟨hA,hc,hhv,_,_⟩:=hN'.hops.shape
    obtain⟨NH,hNH⟩:∃n,(hopsOf t).length=n:=⟨_,rfl⟩
    simp only[hNH]at hhv
    have c11:wr.cell? ⟨fb,11,none⟩=some (.slice hA NH hc):=by rw[blk_cell hbx,←hhv];rfl
    have HNN:=Lib.hid hN'
    have HFB':=Lib.hid hfb'
    have HB':=Lib.hid hB'
    have HO':=Lib.hid hO'
    have HHV:=Lib.hid hhv
    have HNH:=Lib.hid hNH
    have HFv:=Lib.hid (p:=fa'.hv=fa'.hv) rfl
    obtain⟨hv0,hhv0⟩:∃v,fa'.hv=v:=⟨_,rfl⟩
    obtain⟨mb,hmb⟩:∃v,fa'.mb=v:=⟨_,rfl⟩
    have HHV0:=Lib.hid hhv0
    have HMB:=Lib.hid hmb
    clear hN' hfb' hB' hO' hhv hbx hNH hhv0 hmb hml hm
    go_wp2_with fail
    clear c11
    go_loopw [47] (fun c wr2=>∃(j:Nat) (fa2:FabA) (o2:Nat→Option Cmp),j≤NH∧c= .int .i64 (j:Int)∧fa2.fb=fb∧fa2.hv= .slice hA NH hc∧fa2.mb=mb∧FN σ f ⟨⟨lanes,room,queue,rounds,every,bag,start⟩,t,ws,e1,wt1,nx1⟩ w o fa2 (t.length+1) j o2 wr2∧PBox wr2 pbx #[.int .i64 ((t.length:Int)+1), .slice Ea t.length ec, .int .i64 lanes, .int .i64 room, .int .i64 queue, .int .i64 rounds, .int .i64 every, .int .i64 bag, .slice Wa ws.length wc, .int .u16 start, .slice Na (t.length+1) nc]∧o2 pbx=none) (fun c _=>NH - (intOf c).toNat)
    case atStart=>exact⟨0,fa',o'',Nat.zero_le _,rfl,HFB'.out,HHV.out,HMB.out,HNN.out,HB'.out,HO'.out⟩
    case round=>
     obtain⟨j,fa2,o2,hj,rfl,k1,k2,k3,k4,k5,k6⟩:=hrel
     by_cases hjl:j < NH
     ·have hjl2:(j:Int) < (NH:Int):=by omega
      have hj0:(0:Int)≤(j:Int):=by omega
      have hj1:¬(j:Int) < 0:=by omega
      have hj2:¬(NH:Int)≤(j:Int):=by omega
      have hh:=k4.hops
      rw[k2]at hh
      simp only[HNH.out]at hh
      obtain⟨gp,op,cp,he1,_,hcell,_⟩:=hh.cell (by omega)
      obtain⟨x,hx⟩:∃x,(hopsOf t)[j]? =some x:=⟨_,List.getElem?_eq_getElem (by rw[HNH.out];exact hjl)⟩
      obtain⟨x1,x2⟩:=flat2_at _ _ _ hx
      have p1:=hcell _ _ x1
      have p2:=hcell _ _ x2
      obtain⟨y1,y2⟩:=x
      unfold encI at p1 p2
      simp only at p1 p2
      rw[←Nat.add_assoc]at p2
      cases he1
      have HJL:=Lib.hid hjl
      have HX:=Lib.hid hx
      have K1:=Lib.hid k1
      have K2:=Lib.hid k2
      have K3:=Lib.hid k3
      have K4:=Lib.hid k4
      have K5:=Lib.hid k5
      have K6:=Lib.hid k6
      clear hx x1 x2 hh hcell k1 k2 k3 k4 k5 k6
      go_wp2_with fail
      have hXa:Keeps (fun _=>False) wr (wr.alloc (.cells #[.int .i64 (y1:Int), .int .i64 (y2:Int)] 95)):=Keeps.alloc _ _ _
      have hXb:=blk_new wr (.cells #[.int .i64 (y1:Int), .int .i64 (y2:Int)] 95)
      have hX4:=K4.out.calm hXa
      have hX5:=blk_keeps hXa K5.out (fun h=>h)
      obtain⟨xb,hxb⟩:∃x,wr.heap.size=x:=⟨_,rfl⟩
      rw[hxb]at hXb ⊢
      generalize wr.alloc (.cells #[.int .i64 (y1:Int), .int .i64 (y2:Int)] 95)=X2 at*
      have HXA:=Lib.hid hXa
      have HXB:=Lib.hid hXb
      have HX4:=Lib.hid hX4
      have HX5:=Lib.hid hX5
      have hbx2:=hX4.box
      rw[K1.out]at hbx2
      have hmp:=hX4.map
      rw[K3.out]at hmp
      have HBX2:=Lib.hid hbx2
      have HMP:=Lib.hid hmp
      have hsz:=Lib.hid hxb
      clear hXa hXb hX4 hX5 hbx2 hmp hxb p1 p2
      have HC2:=Lib.hid (p:=∀Z,Keeps (fun k=>k=mb) X2 Z→Z.cell? ⟨fb,13,none⟩=some (.map (some mb))∧Z.cell? ⟨xb,0,none⟩=some (.int .i64 (y1:Int))∧Z.cell? ⟨xb,1,none⟩=some (.int .i64 (y2:Int))∧Z.cell? ⟨pbx,7,none⟩=some (.int .i64 bag)) fun Z hZ=>by
       have q1:=fun j=>blk_cell (blk_keeps hZ HBX2.out (fun e=>map_cells HBX2.out (e▸HMP.out))) j
       have q2:=fun j=>blk_cell (blk_keeps hZ HXB.out (fun e=>map_cells HXB.out (e▸HMP.out))) j
       have q3:=fun j=>blk_cell (blk_keeps hZ HX5.out (fun e=>map_cells HX5.out (e▸HMP.out))) j
       refine⟨?_, ?_, ?_, ?_⟩
       ·rw[q1,←K3.out];rfl
       ·rw[q2];rfl
       ·rw[q2];rfl
       ·rw[q3];rfl
      have hd2:Keeps (fun k=>k=mb) X2 X2.drew:=Keeps.drew _ _
      have HLN:=Lib.hid (p:=Calls Tryz.prog 44 #[.int .i64 bag] X2.drew fun e w'=>∃b,e= .returned (.pointer (some ⟨b,0,none⟩))∧X2.heap.size≤b∧Keeps (fun _=>False) X2.drew w'∧LinkV w' (fun k=>k=b) b bag [])
       ((lnew_runs bag HBAG.out.1 HBAG.out.2 X2.drew).mono (by rintro e w' ⟨rfl,h1,h2⟩;exact⟨_,rfl,Nat.le_refl _,h1,h2⟩))
      have hnd:=hops_nodup HP.out.tree HT5.out
      have hgx:(hopsOf t).getD j (0,0)=(y1,y2):=by rw[List.getD_eq_getElem?_getD,HX.out];rfl
      have HGX:=Lib.hid hgx
      have HUP:=Lib.hid (p:=∀(U:World) (b:Nat),Keeps (fun _=>False) X2 U→(Instr.mapUpdate 89 (.map (some mb)) (.agg #[.int .i64 (y1:Int), .int .i64 (y2:Int)]) (.pointer (some ⟨b,0,none⟩))).run Tryz.prog U= .ok () (U.putObj mb (entsObj Hop.val (linkEnts fa2 (hopsOf t) j ++ [⟨hopK ((hopsOf t).getD j (0,0)), .pointer (some ⟨b,0,none⟩),j⟩]) (j+1)))) fun U b hU=>by
       have:=run_update_at (P:=Tryz.prog) hop_ok Tryz.underlying89 U mb (linkEnts fa2 (hopsOf t) j) j (hopK ((hopsOf t).getD j (0,0))) (.pointer (some ⟨b,0,none⟩)) (linkEnts_keys fa2 (hops_nodup HP.out.tree HT5.out) (by rw[HNH.out];omega)) (blk_keeps hU HMP.out (fun h=>h))
       rw[linkEnts_absent fa2 (hops_nodup HP.out.tree HT5.out) (by rw[HNH.out];exact hjl)]at this
       rw[HGX.out]at this ⊢
       exact this
      have hsd2:=HC2.out _ hd2
      obtain⟨c13,c0,c1,c7⟩:=HC2.out _ (Keeps.refl _ X2)
      clear hnd hgx
      obtain⟨PM,hPM⟩:∃PM:World→Prop,PM=fun W=>∃(fa3:FabA) (o3:Nat→Option Cmp),fa3.fb=fb∧fa3.hv= .slice (some ⟨gp,op,none⟩) NH hc∧fa3.mb=mb∧FN σ f ⟨⟨lanes,room,queue,rounds,every,bag,start⟩,t,ws,e1,wt1,nx1⟩ w o fa3 (t.length+1) (j+1) o3 W∧PBox W pbx #[.int .i64 ((t.length:Int)+1), .slice Ea t.length ec, .int .i64 lanes, .int .i64 room, .int .i64 queue, .int .i64 rounds, .int .i64 every, .int .i64 bag, .slice Wa ws.length wc, .int .u16 start, .slice Na (t.length+1) nc]∧o3 pbx=none:=⟨_,rfl⟩
      have HPM:=Lib.hid hPM
      clear hPM
      refine wp_mid 51 8 PM ?_ ?_
      ·intro M hM
       have HMM:=Lib.hid hM
       clear hM
       go_region_held3 (fun Z=>Z.cell? ⟨fb,13,none⟩=some (.map (some mb))∧Z.cell? ⟨xb,0,none⟩=some (.int .i64 (y1:Int))∧Z.cell? ⟨xb,1,none⟩=some (.int .i64 (y2:Int))∧Z.cell? ⟨pbx,7,none⟩=some (.int .i64 bag))
        (with_reducible first | exact hsd2 | exact hs1' | exact hs2' | go_keep)
        (first
        | (go_at_call 44;refine HLN.out.mono ?_;rintro e' U1 ⟨b,rfl,hb,hkU',hL⟩;have hkU:=(Keeps.drew (fun _=>False) X2).trans hkU';have hup:=HUP.out U1 b hkU;obtain⟨ob,hob⟩:∃ob,entsObj Hop.val (linkEnts fa2 (hopsOf t) j ++ [⟨hopK ((hopsOf t).getD j (0,0)), .pointer (some ⟨b,0,none⟩),j⟩]) (j+1)=ob:=⟨_,rfl⟩;rw[hob]at hup;have HOB:=Lib.hid hob;clear hob;have hs1':=HC2.out _ (hkU.mono (fun _ _ h=>h.elim));have hs2':=HC2.out _ ((hkU.mono (fun _ _ h=>h.elim)).trans (Keeps.putM (F:=fun k=>k=mb) U1 mb ob rfl))))
       all_goals
        show M _ _
        refine HMM.out _ _ (mid_frame rfl rfl rfl) ?_
        rw[HPM.out]
        have hkm:Keeps (fun k=>k=mb) U1 (U1.putObj mb ob):=Keeps.putM _ _ _ rfl
        obtain⟨o3,hfin,hoo⟩:=HX4.out.link HF.out (by show j < (hopsOf t).length;rw[HNH.out];exact HJL.out) hkU hb hL
        rw[HOB.out,K3.out]at hfin
        refine⟨_,o3, ?_, ?_, ?_,hfin,blk_keeps hkm (blk_keeps hkU HX5.out (fun h=>h)) (fun e=>map_cells HX5.out (e▸HMP.out)),(hoo pbx (blk_lt HX5.out)).trans K6.out⟩
        ·exact K1.out
        ·exact K2.out
        ·rfl
      ·intro fu W hP
       rw[HPM.out]at hP
       obtain⟨fa3,o3,hp1,hp2,hp3,hp4,hp5,hp6⟩:=hP
       simp only[List.take_succ_cons,List.take_zero,List.drop_succ_cons,List.drop_zero,List.cons_append,List.nil_append]
       have HP1:=Lib.hid hp1
       have HP2:=Lib.hid hp2
       have HP3:=Lib.hid hp3
       have HP4:=Lib.hid hp4
       have HP5:=Lib.hid hp5
       have HP6:=Lib.hid hp6
       have hjl3:=HJL.out
       have hnh3:NH≤30:=by
        have h1:=hopsTo_length HP.out.tree HT5.out (t.length+1) (Nat.le_refl _)
        have h2:=HNH.out
        have h3:=HT5.out
        unfold hopsOf at h2
        omega
       have hjw:(j:Int)+1 < 9223372036854775808:=by omega
       clear hp1 hp2 hp3 hp4 hp5 hp6 c13 c0 c1 c7 hsd2 hd2 HUP HLN HC2 HPM
       go_wp2_with fail
       go_roundw
       case rel=>exact⟨j+1,fa3,o3,by omega,by go_num,HP1.out,HP2.out,HP3.out,HP4.out,HP5.out,HP6.out⟩
       case measure=>simp[intOf];omega
     ·obtain rfl:j=NH:=by omega
      have hjn:¬((j:Nat):Int) < (j:Int):=by omega
      have HK4:=Lib.hid k4
      have HK1:=Lib.hid k1
      clear k1 k2 k3 k4 k5 k6
      go_wp2_with fail
      go_ret2
      have hfin:=HK4.out
      rw[←HNH.out]at hfin
      obtain⟨σ',o3,f1,f2,f3,f4⟩:=hfin.finish HF.out HP.out.tree HT5.out
      exact⟨fa2,by rw[HK1.out];rfl,e1,wt1,nx1,σ',o3,f1,f2,f3,f4⟩
end
end Go.Proofs.YtebnflpanfmicaaGreatDoor
namespace Go.Proofs.YtebnflpanfmicaaGreatDoor
open Go.RowKit
section
variable {σ:Sig} {w:World} {o:Nat→Option Cmp} {f pf:Nat}
set_option maxRecDepth 100000 in
set_option maxHeartbeats 16000000 in
theorem began_runs (h:SysF σ w o) (hFr:FreeF σ f) (hfp:σ.fab pf=Part.none) (hne:pf≠f) (v0:Value) (zs:List Nat) (hz:∀x∈zs,x≤255) (rm mr:Nat) (hrm:rm≤255) (hmr:mr≤255) (st:Int) (hst:0≤st∧st < 65536) (hR:Reads w w.heap.size 1 v0 zs.length (zs.map encU8)):
  Calls Tryz.prog 7 #[v0, .int .u8 rm, .int .u8 mr, .int .u16 st] w fun e w'=>∃P:PlayA,(P.g.p=makeNumsS rm mr st∧P.g.t=ofL zs∧P.g.ws=makeW mr (1+mr % 3))∧e= .returned (.pointer (some ⟨P.b,0,none⟩))∧PNext σ w o f pf P w' ⟨newF P.g,[],0⟩:=by
 have HP16:=Lib.hid (plan16_runs v0 zs hz rm mr hrm hmr st hst w hR)
 have HST:=Lib.hid hst
 obtain⟨ht,ht0,ht5⟩:=ofL_tree zs
 have H:=Lib.hid h
 have HFR:=Lib.hid hFr
 have hps:(makeNumsS rm mr st).start=st:=rfl
 generalize makeNumsS rm mr st=p at*
 generalize makeW mr (1+mr % 3)=ws at*
 generalize ofL zs=t at*
 obtain⟨lanes,room,queue,rounds,every,bag,start⟩:=p
 dsimp only at hps
 subst hps
 unfold planV Nums.plan at HP16
 clear h hFr hz hst hR ht
 go_enter Tryz.func7,Tryz.ntmps7
 go_wp2_with fail
 refine HP16.out.mono ?_
 rintro e U ⟨e1,wt1,nx1,rfl,hP,hU⟩
 obtain⟨⟨Ea,ec,rfl⟩,⟨Wa,wc,rfl⟩,⟨Na,nc,rfl⟩⟩:=hP.shapes
 have hkA:Keeps (fun _=>False) U (U.alloc (.cells #[.int .i64 ((t.length:Int)+1), .slice Ea t.length ec, .int .i64 lanes, .int .i64 room, .int .i64 queue, .int .i64 rounds, .int .i64 every, .int .i64 bag, .slice Wa ws.length wc, .int .u16 start, .slice Na (t.length+1) nc] 38)):=Keeps.alloc _ _ _
 have hbA:PBox (U.alloc (.cells #[.int .i64 ((t.length:Int)+1), .slice Ea t.length ec, .int .i64 lanes, .int .i64 room, .int .i64 queue, .int .i64 rounds, .int .i64 every, .int .i64 bag, .slice Wa ws.length wc, .int .u16 start, .slice Na (t.length+1) nc] 38)) U.heap.size #[.int .i64 ((t.length:Int)+1), .slice Ea t.length ec, .int .i64 lanes, .int .i64 room, .int .i64 queue, .int .i64 rounds, .int .i64 every, .int .i64 bag, .slice Wa ws.length wc, .int .u16 start, .slice Na (t.length+1) nc]:=blk_new U _
 have HKA:=Lib.hid (hU.trans hkA)
 have HBA:=Lib.hid hbA
 have HPA:=Lib.hid (hP.keeps hkA (fun _ _ h=>h))
 have HUS:=Lib.hid hU.size
 obtain⟨z0,z1,z2,z3,z4,z5,z6,z7,z8,z9,z10,_⟩:=PBox.all hbA
 have hNW:=fnew_runs (SysF.calm' H.out HKA.out) HFR.out HPA.out HST.out
 unfold planV Nums.plan at hNW
 dsimp only at hNW
 have HNW:=Lib.hid hNW
 clear hP hU hkA hbA HP16 hNW
 go_wp2_with fail
 clear z0 z1 z2 z3 z4 z5 z6 z7 z8 z9 z10
 generalize U.alloc (.cells #[.int .i64 ((t.length:Int)+1), .slice Ea t.length ec, .int .i64 lanes, .int .i64 room, .int .i64 queue, .int .i64 rounds, .int .i64 every, .int .i64 bag, .slice Wa ws.length wc, .int .u16 start, .slice Na (t.length+1) nc] 38)=Y at*
 obtain⟨pb,hpb⟩:∃pb,U.heap.size=pb:=⟨_,rfl⟩
 rw[hpb]at HBA HUS ⊢
 clear hpb
 refine HNW.out.mono ?_
 rintro e V ⟨fa,e2,wt2,nx2,rfl,σ1,o1,k1,k2,k3,k4⟩
 have hopb:o pb=none:=SysF.fresh H.out HUS.out
 have hbV:PBox V pb #[.int .i64 ((t.length:Int)+1), .slice Ea t.length ec, .int .i64 lanes, .int .i64 room, .int .i64 queue, .int .i64 rounds, .int .i64 every, .int .i64 bag, .slice Wa ws.length wc, .int .u16 start, .slice Na (t.length+1) nc]:=blk_keeps k2.1 HBA.out (by rw[hopb];decide)
 obtain⟨z0,z1,z2,z3,z4,z5,z6,z7,z8,z9,z10,_⟩:=PBox.all hbV
 have HK1:=Lib.hid k1
 have HK2:=Lib.hid ((Ext.keeps o HKA.out).trans k2)
 have HK3:=Lib.hid k3
 have HK4:=Lib.hid k4
 have b0:((0:Int) == 0)=true:=rfl
 have b1:((0:Int) != 0)=false:=rfl
 clear k1 k2 k3 k4 hbV HBA HNW hopb
 go_wp2_with fail
 clear z0 z1 z2 z3 z4 z5 z6 z7 z8 z9 z10
 go_ret
 have hf1:σ1.fab pf=Part.none:=(HK4.out pf hne).2.1.trans hfp
 have hno:∀k,o1 k≠some (.fab pf):=fun k e=>by
  have:=HK1.out.part (.fab pf)
  simp only[Sig.part,hf1]at this
  exact this k e
 have hkV:Keeps (fun _=>False) V (V.alloc (.cells #[.int .i64 ((t.length:Int)+1), .slice Ea t.length ec, .int .i64 lanes, .int .i64 room, .int .i64 queue, .int .i64 rounds, .int .i64 every, .int .i64 bag, .slice Wa ws.length wc, .int .u16 start, .slice Na (t.length+1) nc, .pointer (some ⟨fa.fb,0,none⟩), .slice none 0 0, .int .i64 0] 42)):=Keeps.alloc _ _ _
 obtain⟨o2,l1,l2,_,_⟩:=Sys.add (A':=(σ1.setF pf (playPart ⟨fa,⟨⟨lanes,room,queue,rounds,every,bag,start⟩,t,ws,e2,wt2,nx2⟩,V.heap.size, .slice Ea t.length ec, .slice Wa ws.length wc, .slice Na (t.length+1) nc⟩ [] 0)).part) (S:=fun k=>k=V.heap.size) HK1.out (.fab pf) (setF_part σ1 pf _) hno hkV (fun k e=>Nat.le_of_eq e.symm) (by
  simp only[Sig.part,Sig.setF,if_true]
  exact⟨.slice none 0 0,blk_new V _,QS.nil _ _ _,rfl,fun k e=>(by cases e),fun k e=>by rw[e,World.size_alloc];exact Nat.lt_succ_self _⟩)
 refine⟨⟨fa,⟨⟨lanes,room,queue,rounds,every,bag,start⟩,t,ws,e2,wt2,nx2⟩,V.heap.size, .slice Ea t.length ec, .slice Wa ws.length wc, .slice Na (t.length+1) nc⟩,⟨rfl,rfl,rfl⟩,rfl,_,o2,l1,HK2.out.trans l2,⟨⟨HK3.out.geo, ?_,HK3.out.node,HK3.out.link,HK3.out.lv⟩,by simp[Sig.setF]⟩,fun f' h1 h2=> ?_⟩
 ·have:=HK3.out.fab
  simp only[Sig.setF]
  rw[if_neg (fun e=>hne e.symm)]
  exact this
 ·obtain⟨q1,q2,q3,q4⟩:=HK4.out f' h1
  exact⟨q1,by simp[Sig.setF,h2,q2],q3,q4⟩
end
end Go.Proofs.YtebnflpanfmicaaGreatDoor
