/-
  Part 18 of the proof: TopPlanClone, TopSys, TopNode, TopEnds.
-/
import Derived.Test.YtebnflpanfmicaaGreatDoorPkAQ
import Derived.Test.YtebnflpanfmicaaGreatDoorPkAK
import Derived.Deep.RegionLaw
import Derived.Deep.RegionHeld3
import Derived.Test.YtebnflpanfmicaaGreatDoorPkAF
set_option linter.unusedVariables false
set_option linter.unusedSimpArgs false
set_option linter.unusedSectionVars false
namespace Go.Proofs.YtebnflpanfmicaaGreatDoor
open Go.RowKit
theorem one_encI (l:List Nat):∀u∈l.map encI,u.oneCell'=true:=fun u hu=>by obtain⟨x,_,rfl⟩:=List.mem_map.1 hu;rfl
theorem one_ecells (l:List (Nat×Nat)):∀u∈ecells l,u.oneCell'=true:=fun u hu=>by
 obtain⟨x,_,hx⟩:=List.mem_flatMap.1 hu
 rcases List.mem_cons.1 hx with rfl | h
 ·rfl
 ·rw[List.mem_singleton]at h;rw[h];rfl
theorem PlanS.oneRow {w:World} {t:List Nat} {vs:List Value} (hl:vs.length=t.length+1) (h:∀(v:Nat) u,vs[v]? =some u→NQ w u (trowOf t v)):∀u∈vs,u.oneCell'=true:=fun u hu=>by
 obtain⟨i,hi,rfl⟩:=List.getElem_of_mem hu
 obtain⟨A,c,e,_⟩:=QS.shape (h i _ (List.getElem?_eq_getElem hi))
 rw[e];rfl
theorem QS.set1 {w:World} {e:Nat} {g off n cap:Nat} {cs:List Value} (h:QS w e 1 (.slice (some ⟨g,off,none⟩) n cap) n cs) (i:Nat) (v:Value):QS (w.setCell ⟨g,off+i,none⟩ v) e 1 (.slice (some ⟨g,off,none⟩) n cap) n (cs.set i v):=by
 obtain⟨h1,h2⟩:=h
 refine⟨by simpa using h1, ?_⟩
 rcases h2 with⟨h,_⟩ | ⟨g',off',cap',cur,h,h2,h3,h4,h5,h6⟩
 ·cases h
 ·cases h
  refine .inr ⟨g,off,cap,cur.setIfInBounds (off+i) v,rfl,blk_set h2 _ _,h3,h4,by simpa using h5,fun j hj=> ?_⟩
  rw[List.length_set]at hj
  rw[Array.getElem?_setIfInBounds,List.getElem?_set]
  by_cases hji:i=j
  ·subst hji
   rw[if_pos rfl,if_pos rfl,if_pos (by omega),if_pos hj]
  ·rw[if_neg (by omega),if_neg hji]
   exact h6 j hj
structure RowsV (w:World) (t:List Nat) (base i:Nat) (vs:List Value):Prop where
 len:vs.length=t.length+1
 row:∀(v:Nat) u,vs[v]? =some u→NQ w u (trowOf t v)
 new:∀(v:Nat) u,v < i→vs[v]? =some u→∀g,u.ownBlock=some g→base < g
 old:∀(v:Nat) u,i≤v→vs[v]? =some u→∀g,u.ownBlock=some g→g < base
set_option maxRecDepth 100000 in
set_option maxHeartbeats 16000000 in
theorem pclone_runs {w:World} {S:Nat→Prop} {p:Nums} {t ws:List Nat} {e wt nx:Value} (h:PlanS w S p t ws e wt nx):
  Calls Tryz.prog 41 #[planV p t e wt nx] w fun e' w'=>∃e1 wt1 nx1,e'= .returned (planV p t e1 wt1 nx1)∧PlanS w' (fun k=>w.heap.size≤k∧k < w'.heap.size) p t ws e1 wt1 nx1∧Keeps (fun _=>False) w w':=by
 obtain⟨⟨Ea,ec,rfl⟩,⟨Wa,wc,rfl⟩,⟨Na,nc,rfl⟩⟩:=h.shapes
 obtain⟨vs,n1,n2,n3,n4⟩:=h.nq
 have HE:Hid (∀U,Keeps (fun _=>False) w U→_):=Lib.hid fun U hU=>cloneE_runs t.length _ _ U (h.eq.keeps hU (fun _ _ h=>h)) (one_ecells _) (by have:=h.t5;omega)
 have hw3:ws.length≤3:=by have:=h.nums.lanes.2;have:=h.lanes;omega
 have HW:Hid (∀U,Keeps (fun _=>False) w U→_):=Lib.hid fun U hU=>cloneI_runs ws.length _ _ U (h.wq.keeps hU (fun _ _ h=>h)) (one_encI _) (by omega)
 have HN:Hid (∀U,Keeps (fun _=>False) w U→_):=Lib.hid fun U hU=>cloneR_runs (t.length+1) _ _ U (n1.keeps hU (fun _ _ h=>h)) (PlanS.oneRow n2 n3) (by have:=h.t5;omega)
 have HH:=Lib.hid h
 have h5:=h.t5
 have HROW:=Lib.hid n3
 have HN2:=Lib.hid n2
 clear h n1 n2 n3 n4 hw3
 obtain⟨lanes,room,queue,rounds,every,bag,start⟩:=p
 unfold planV Nums.plan
 go_enter Tryz.func41,Tryz.ntmps41
 go_wp2_with fail
 have hk0:Keeps (fun _=>False) w (w.alloc (.cells #[.int .i64 ((t.length:Int)+1), .slice Ea t.length ec, .int .i64 lanes, .int .i64 room, .int .i64 queue, .int .i64 rounds, .int .i64 every, .int .i64 bag, .slice Wa ws.length wc, .int .u16 start, .slice Na (t.length+1) nc] 38)):=Keeps.alloc _ _ _
 have hbx:PBox (w.alloc (.cells #[.int .i64 ((t.length:Int)+1), .slice Ea t.length ec, .int .i64 lanes, .int .i64 room, .int .i64 queue, .int .i64 rounds, .int .i64 every, .int .i64 bag, .slice Wa ws.length wc, .int .u16 start, .slice Na (t.length+1) nc] 38)) w.heap.size #[.int .i64 ((t.length:Int)+1), .slice Ea t.length ec, .int .i64 lanes, .int .i64 room, .int .i64 queue, .int .i64 rounds, .int .i64 every, .int .i64 bag, .slice Wa ws.length wc, .int .u16 start, .slice Na (t.length+1) nc]:=blk_new _ _
 have hX0:(w.alloc (.cells #[.int .i64 ((t.length:Int)+1), .slice Ea t.length ec, .int .i64 lanes, .int .i64 room, .int .i64 queue, .int .i64 rounds, .int .i64 every, .int .i64 bag, .slice Wa ws.length wc, .int .u16 start, .slice Na (t.length+1) nc] 38)).heap.size=w.heap.size+1:=by simp
 generalize w.alloc (.cells #[.int .i64 ((t.length:Int)+1), .slice Ea t.length ec, .int .i64 lanes, .int .i64 room, .int .i64 queue, .int .i64 rounds, .int .i64 every, .int .i64 bag, .slice Wa ws.length wc, .int .u16 start, .slice Na (t.length+1) nc] 38)=X0 at*
 have hk1:Keeps (fun _=>False) w (X0.alloc (.cells #[.int .i64 0, .slice none 0 0, .int .i64 0, .int .i64 0, .int .i64 0, .int .i64 0, .int .i64 0, .int .i64 0, .slice none 0 0, .int .u16 0, .slice none 0 0] 38)):=hk0.trans (Keeps.alloc _ _ _)
 have hb0:PBox (X0.alloc (.cells #[.int .i64 0, .slice none 0 0, .int .i64 0, .int .i64 0, .int .i64 0, .int .i64 0, .int .i64 0, .int .i64 0, .slice none 0 0, .int .u16 0, .slice none 0 0] 38)) w.heap.size #[.int .i64 ((t.length:Int)+1), .slice Ea t.length ec, .int .i64 lanes, .int .i64 room, .int .i64 queue, .int .i64 rounds, .int .i64 every, .int .i64 bag, .slice Wa ws.length wc, .int .u16 start, .slice Na (t.length+1) nc]:=hbx.kept (Keeps.alloc _ _ _)
 have hb1:PBox (X0.alloc (.cells #[.int .i64 0, .slice none 0 0, .int .i64 0, .int .i64 0, .int .i64 0, .int .i64 0, .int .i64 0, .int .i64 0, .slice none 0 0, .int .u16 0, .slice none 0 0] 38)) (w.heap.size+1) #[.int .i64 0, .slice none 0 0, .int .i64 0, .int .i64 0, .int .i64 0, .int .i64 0, .int .i64 0, .int .i64 0, .slice none 0 0, .int .u16 0, .slice none 0 0]:=hX0▸blk_new X0 _
 have hXs:(X0.alloc (.cells #[.int .i64 0, .slice none 0 0, .int .i64 0, .int .i64 0, .int .i64 0, .int .i64 0, .int .i64 0, .int .i64 0, .slice none 0 0, .int .u16 0, .slice none 0 0] 38)).heap.size=w.heap.size+2:=by rw[World.size_alloc,hX0]
 generalize X0.alloc (.cells #[.int .i64 0, .slice none 0 0, .int .i64 0, .int .i64 0, .int .i64 0, .int .i64 0, .int .i64 0, .int .i64 0, .slice none 0 0, .int .u16 0, .slice none 0 0] 38)=X at*
 clear hbx hk0 hX0
 obtain⟨B0,hB0⟩:∃B,w.heap.size=B:=⟨_,rfl⟩
 have HB0:=Lib.hid hB0
 rw[hB0]at hb0 hb1 hXs ⊢
 clear hB0
 have HB:=Lib.hid (p:=∀U,Keeps (fun _=>False) X U→_) fun U hU=>(hb0.kept hU).all
 have HBX:=Lib.hid hb0
 have HB1:=Lib.hid hb1
 have HK1:=Lib.hid hk1
 have HXS:=Lib.hid hXs
 have hd:Keeps (fun _=>False) X X.drew:=Keeps.drew _ _
 have HE2:=Lib.hid (p:=∀U,Keeps (fun _=>False) X U→_) fun U hU=>HE.out U (hk1.trans hU)
 have HW2:=Lib.hid (p:=∀U,Keeps (fun _=>False) X U→_) fun U hU=>HW.out U (hk1.trans hU)
 have HN3:=Lib.hid (p:=∀U,Keeps (fun _=>False) X U→_) fun U hU=>HN.out U (hk1.trans hU)
 obtain⟨y0,y1,y2,y3,y4,y5,y6,y7,y8,y9,y10,yf⟩:=HB.out _ hd
 clear hb0 hb1 hk1 hXs HE HW HN y0 y2 y3 y4 y5 y6 y7 y9
 refine Code.wp_mono (Q:=fun e a W=>match e with | .normal=>(∃U3 E1 d1 W1 d2 N1 d3,Keeps (fun _=>False) X U3∧(QS U3 149 2 (.slice E1 t.length d1) t.length (ecells (edgesOf t t.length))∧∀g,(Value.slice E1 t.length d1).ownBlock=some g→X.heap.size≤g)∧
   (QS U3 3 1 (.slice W1 ws.length d2) ws.length (ws.map encI)∧∀g,(Value.slice W1 ws.length d2).ownBlock=some g→X.heap.size≤g)∧(QS U3 35 1 (.slice N1 (t.length+1) d3) (t.length+1) vs∧∀g,(Value.slice N1 (t.length+1) d3).ownBlock=some g→X.heap.size≤g∧(Value.slice E1 t.length d1).ownBlock≠some g∧(Value.slice W1 ws.length d2).ownBlock≠some g)∧
   a=⟨#[.agg #[.int .i64 ((t.length:Int)+1), .slice Ea t.length ec, .int .i64 lanes, .int .i64 room, .int .i64 queue, .int .i64 rounds, .int .i64 every, .int .i64 bag, .slice Wa ws.length wc, .int .u16 start, .slice Na (t.length+1) nc], .pointer (some ⟨B0,0,none⟩), .pointer (some ⟨B0+1,0,none⟩),undef,undef, .pointer (some ⟨B0,1,none⟩), .slice Ea t.length ec, .slice E1 t.length d1, .pointer (some ⟨B0,8,none⟩), .slice Wa ws.length wc, .slice W1 ws.length d2, .pointer (some ⟨B0,10,none⟩), .slice Na (t.length+1) nc, .slice N1 (t.length+1) d3, .pointer (some ⟨B0,1,none⟩), .pointer (some ⟨B0,8,none⟩), .pointer (some ⟨B0,10,none⟩),undef,undef,undef,undef,undef,undef,undef,undef,undef,undef,undef,undef,undef,undef,undef,undef],[]⟩∧W=((U3.setCell ⟨B0,1,none⟩ (.slice E1 t.length d1)).setCell ⟨B0,8,none⟩ (.slice W1 ws.length d2)).setCell ⟨B0,10,none⟩ (.slice N1 (t.length+1) d3)) | _=>False) ?_ ?_
 case refine_2=>
  go_region_law (first
   | (go_simp;go_at_call 76;refine(HE2.out _ hd).mono ?_;rintro e U1 ⟨E1,d1,rfl,q1,m1,o1⟩;have k1:=hd.trans m1;obtain⟨_,u1,_,_,_,_,_,_,u8,_,u10,uf⟩:=HB.out _ k1)
   | (go_simp;go_at_call 77;refine(HW2.out _ k1).mono ?_;rintro e U2 ⟨W1,d2,rfl,q2,m2,o2⟩;have k2:=k1.trans m2;obtain⟨_,v1,_,_,_,_,_,_,v8,_,v10,vf⟩:=HB.out _ k2)
   | (go_simp;go_at_call 78;refine(HN3.out _ k2).mono ?_;rintro e U3 ⟨N1,d3,rfl,q3,m3,o3⟩;have k3:=k2.trans m3;obtain⟨_,x1,_,_,_,_,_,_,x8,_,x10,xf⟩:=HB.out _ k3))
  all_goals
   exact⟨U3,E1,d1,W1,d2,N1,d3,k3,⟨(q1.keeps m2 (fun _ _ h=>h)).keeps m3 (fun _ _ h=>h),fun g hg=>Nat.le_trans hd.size (o1 g hg)⟩,⟨q2.keeps m3 (fun _ _ h=>h),fun g hg=>Nat.le_trans k1.size (o2 g hg)⟩,
    ⟨q3,fun g hg=>⟨Nat.le_trans k2.size (o3 g hg),fun h=>absurd (o3 g hg) (Nat.not_le_of_lt (Nat.lt_of_lt_of_le (q1.lt g h) m2.size)),fun h=>absurd (o3 g hg) (Nat.not_le_of_lt (q2.lt g h))⟩⟩,rfl,rfl⟩
 clear HE2 HW2 HN3 hd y1 y8 y10 yf
 intro e a W hMid
 cases e
 case normal=>
  obtain⟨U3,E1,d1,W1,d2,N1,d3,hk3,⟨hE,hEo⟩,⟨hW,hWo⟩,⟨hN,hNo⟩,rfl,rfl⟩:=hMid
  dsimp only
  obtain⟨g1,o1,c1,e1,_,_,_⟩:=hN.cell (by omega)
  cases e1
  have hbU:=HBX.out.kept hk3
  have hbV:PBox (((U3.setCell ⟨B0,1,none⟩ (.slice E1 t.length d1)).setCell ⟨B0,8,none⟩ (.slice W1 ws.length d2)).setCell ⟨B0,10,none⟩ (.slice (some ⟨g1,o1,none⟩) (t.length+1) d3)) B0 #[.int .i64 ((t.length:Int)+1), .slice E1 t.length d1, .int .i64 lanes, .int .i64 room, .int .i64 queue, .int .i64 rounds, .int .i64 every, .int .i64 bag, .slice W1 ws.length d2, .int .u16 start, .slice (some ⟨g1,o1,none⟩) (t.length+1) d3]:=blk_set (blk_set (blk_set hbU 1 _) 8 _) 10 _
  have hkV:Keeps (fun k=>k=B0) U3 (((U3.setCell ⟨B0,1,none⟩ (.slice E1 t.length d1)).setCell ⟨B0,8,none⟩ (.slice W1 ws.length d2)).setCell ⟨B0,10,none⟩ (.slice (some ⟨g1,o1,none⟩) (t.length+1) d3)):=((Keeps.setCell (fun k=>k=B0) U3 ⟨B0,1,none⟩ _ rfl).trans (Keeps.setCell (fun k=>k=B0) _ ⟨B0,8,none⟩ _ rfl)).trans (Keeps.setCell (fun k=>k=B0) _ ⟨B0,10,none⟩ _ rfl)
  generalize ((U3.setCell ⟨B0,1,none⟩ (.slice E1 t.length d1)).setCell ⟨B0,8,none⟩ (.slice W1 ws.length d2)).setCell ⟨B0,10,none⟩ (.slice (some ⟨g1,o1,none⟩) (t.length+1) d3)=V at*
  have hXB:=HXS.out
  have hBw:=HB0.out
  have hb1V:PBox V (B0+1) _:=blk_keeps hkV (HB1.out.kept hk3) (by omega)
  have hEV:=hE.keeps hkV (fun g hg h=>by have:=hEo g hg;omega)
  have hWV:=hW.keeps hkV (fun g hg h=>by have:=hWo g hg;omega)
  have hNV:=hN.keeps hkV (fun g hg h=>by have:=(hNo g hg).1;omega)
  obtain⟨hg1,hgE,hgW⟩:=hNo g1 rfl
  have hwU:=HK1.out.trans hk3
  have hrows:RowsV V t g1 0 vs:=⟨HN2.out,fun v u hu=>((HROW.out v u hu).keeps hwU (fun _ _ h=>h)).keeps hkV (fun g hg h=>by have:=(HROW.out v u hu).lt g hg;omega),fun v u hv=>absurd hv (Nat.not_lt_zero _),fun v u _ hu g hg=>by have:=(HROW.out v u hu).lt g hg;omega⟩
  have hwV:Keeps (fun _=>False) w V:=hwU.then hkV (fun i hi h=>by omega)
  have HF:=Lib.hid (And.intro hEV (And.intro hWV (And.intro hEo (And.intro hWo (And.intro hgE hgW)))))
  have HBV:=Lib.hid hbV
  have HB1V:=Lib.hid hb1V
  have HWV:=Lib.hid hwV
  have HRW:=Lib.hid hrows
  have HNV:=Lib.hid hNV
  have y10:=hbV.all.2.2.2.2.2.2.2.2.2.2.1
  have hg2:X.heap.size≤g1:=hg1
  have hVs:=hkV.size
  have hU3s:=hk3.size
  clear hE hW hN hEo hWo hNo hbU hbV hkV hb1V hEV hWV hNV hgE hgW hwU hrows hwV hg1 hk3
  go_wp2_with fail
  clear y10
  go_loopw [20] (fun s wr=>∃(i:Nat) (vs':List Value),i≤t.length+1∧s= .int .i64 (i:Int)∧QS wr 35 1 (.slice (some ⟨g1,o1,none⟩) (t.length+1) d3) (t.length+1) vs'∧RowsV wr t g1 i vs'∧Keeps (fun k=>k=g1) V wr) (fun s _=>t.length+1 - (intOf s).toNat)
  case atStart=>exact⟨0,vs,Nat.zero_le _,rfl,HNV.out,HRW.out,Keeps.refl _ _⟩
  case round=>
   obtain⟨i,vs',hi,rfl,hq,hr,hk⟩:=hrel
   have hbW:PBox wr B0 #[.int .i64 ((t.length:Int)+1), .slice E1 t.length d1, .int .i64 lanes, .int .i64 room, .int .i64 queue, .int .i64 rounds, .int .i64 every, .int .i64 bag, .slice W1 ws.length d2, .int .u16 start, .slice (some ⟨g1,o1,none⟩) (t.length+1) d3]:=blk_keeps hk HBV.out (by omega)
   by_cases hil:i < t.length+1
   ·have hii:(i:Int) < (t.length:Int)+1:=by omega
    have hi0:(0:Int)≤(i:Int):=by omega
    have hvl:=hr.len
    obtain⟨g,off,c,e1,_,hcell,hfr⟩:=hq.cell (by omega)
    cases e1
    have hu:vs'[i]? =some vs'[i]:=List.getElem?_eq_getElem (by omega)
    have x1:=hcell i _ hu
    have xf:=hfr (o1+i)
    have hnq:=hr.row i _ hu
    have hold:=hr.old i _ (Nat.le_refl _) hu
    obtain⟨rA,rc,hre,_,_⟩:=QS.shape hnq
    have hrl:(trowOf t i).length=t.length+1:=rowOf_length t i
    rw[hre]at x1 hnq hold
    unfold NQ at hnq
    rw[hrl]at hnq x1
    have CI:=Lib.hid (p:=∀U,Keeps (fun _=>False) wr U→_) fun U hU=>cloneI_runs (t.length+1) (.slice rA (t.length+1) rc) _ U (hnq.keeps hU (fun _ _ h=>h)) (one_encI _) (by omega)
    have y10:=hbW.all.2.2.2.2.2.2.2.2.2.2.1
    have HS:=Lib.hid (p:=∀U,Keeps (fun _=>False) wr U→U.cell? ⟨B0,10,none⟩=some (.slice (some ⟨g1,o1,none⟩) (t.length+1) d3)) fun U hU=>hU.cell y10 (fun h=>h)
    have HS2:=Lib.hid (p:=∀U v,Keeps (fun _=>False) wr U→(U.setCell ⟨g1,o1+i,none⟩ v).cell? ⟨B0,10,none⟩=some (.slice (some ⟨g1,o1,none⟩) (t.length+1) d3)) fun U v hU=>((hU.mono (fun _ _ h=>h.elim)).trans (Keeps.setCell (fun k=>k=g1) U ⟨g1,o1+i,none⟩ v rfl)).cell y10 (by show ¬B0=g1;omega)
    have HC:=Lib.hid (p:=∀U,Keeps (fun _=>False) wr U→U.cell? ⟨g1,o1+i,none⟩=some (.slice rA (t.length+1) rc)∧U.frozen? ⟨g1,o1+i,none⟩=false) fun U hU=>⟨hU.cell x1 (fun h=>h),by
     obtain⟨_,_,_,e1,_,_,hf⟩:=(hq.keeps hU (fun _ _ h=>h)).cell (by omega);cases e1;exact hf _⟩
    have hd:Keeps (fun _=>False) wr wr.drew:=Keeps.drew _ _
    have HQ:=Lib.hid hq
    have HR:=Lib.hid hr
    have HK:=Lib.hid hk
    clear hcell hfr hnq hold hq hr hk hu hbW hre
    go_wp2_with fail
    go_region_held3 (fun U=>U.cell? ⟨B0,10,none⟩=some (.slice (some ⟨g1,o1,none⟩) (t.length+1) d3))
     (with_reducible first | exact HS.out _ hd | exact HS.out _ hW | exact HS2.out _ _ hW | go_keep)
     (first | (go_at_call 77;refine(CI.out _ hd).mono ?_;rintro e U ⟨A1,f1,rfl,r1,r2,r3⟩;have hW:=hd.trans r2;obtain⟨zc,zf⟩:=HC.out _ hW))
    have HZ:=Lib.hid (And.intro r1 (And.intro r3 hW))
    clear r1 r2 r3 hW zc zf CI HS HS2 HC hd y10 x1 xf
    go_wp2_with fail
    go_roundw
    case rel=>
     obtain⟨r1,r3,hW⟩:=HZ.out
     have hks:Keeps (fun k=>k=g1) U (U.setCell ⟨g1,o1+i,none⟩ (.slice A1 (t.length+1) f1)):=Keeps.setCell _ _ _ _ rfl
     have hgw:g1 < wr.heap.size:=HQ.out.lt g1 rfl
     have hdz:wr.drew.heap.size=wr.heap.size:=rfl
     have hnew:∀k,(Value.slice A1 (t.length+1) f1).ownBlock=some k→g1 < k:=fun k hk=>Nat.lt_of_lt_of_le hgw (r3 k hk)
     refine⟨i+1,vs'.set i (.slice A1 (t.length+1) f1),by omega,by go_num,(HQ.out.keeps hW (fun _ _ h=>h)).set1 i _,⟨by simp[hvl],fun v u hu=> ?_,fun v u hv hu=> ?_,fun v u hv hu=> ?_⟩,(HK.out.trans (hW.mono (fun _ _ h=>h.elim))).trans hks⟩
     ·by_cases hvi:v=i
      ·subst hvi
       rw[List.getElem?_set_self (by omega)]at hu
       cases hu
       unfold NQ
       rw[hrl]
       exact r1.keeps hks (fun k hk h=>by have:=hnew k hk;omega)
      ·rw[List.getElem?_set_ne (fun h=>hvi h.symm)]at hu
       refine((HR.out.row v u hu).keeps hW (fun _ _ h=>h)).keeps hks (fun k hk h=> ?_)
       by_cases hlt:v < i
       ·have:=HR.out.new v u hlt hu k hk;omega
       ·have:=HR.out.old v u (by omega) hu k hk;omega
     ·by_cases hvi:v=i
      ·subst hvi
       rw[List.getElem?_set_self (by omega)]at hu
       cases hu
       exact hnew
      ·rw[List.getElem?_set_ne (fun h=>hvi h.symm)]at hu
       exact HR.out.new v u (by omega) hu
     ·rw[List.getElem?_set_ne (show i≠v by omega)]at hu
      exact HR.out.old v u (by omega) hu
    case measure=>simp[intOf];omega
   ·obtain rfl:i=t.length+1:=by omega
    have hii:¬(((t.length+1:Nat):Int) < (t.length:Int)+1):=by omega
    have hb1W:PBox wr (B0+1) _:=blk_keeps hk HB1V.out (by omega)
    obtain⟨x0,x1,x2,x3,x4,x5,x6,x7,x8,x9,x10,xf⟩:=hbW.all
    obtain⟨z0,z1,z2,z3,z4,z5,z6,z7,z8,z9,z10,zf⟩:=hb1W.all
    have HQ:=Lib.hid hq
    have HR:=Lib.hid hr
    have HK:=Lib.hid hk
    have HB1W:=Lib.hid hb1W
    clear hq hr hk hbW hb1W
    go_wp2_with fail
    obtain⟨hV,hkS⟩:=set11 HB1W.out (.int .i64 ((t.length:Int)+1)) (.slice E1 t.length d1) (.int .i64 lanes) (.int .i64 room) (.int .i64 queue) (.int .i64 rounds) (.int .i64 every) (.int .i64 bag) (.slice W1 ws.length d2) (.int .u16 start) (.slice (some ⟨g1,o1,none⟩) (t.length+1) d3)
    obtain⟨x0,x1,x2,x3,x4,x5,x6,x7,x8,x9,x10,xf⟩:=PBox.all hV
    refine bodyPost_ret (v:= .agg #[.int .i64 ((t.length:Int)+1), .slice E1 t.length d1, .int .i64 lanes, .int .i64 room, .int .i64 queue, .int .i64 rounds, .int .i64 every, .int .i64 bag, .slice W1 ws.length d2, .int .u16 start, .slice (some ⟨g1,o1,none⟩) (t.length+1) d3]) ?_ rfl ?_
    ·generalize World.setCell _ _ _=V at x0 x1 x2 x3 x4 x5 x6 x7 x8 x9 x10 ⊢
     simp[results,Tryz.results41,go_sem,x0,x1,x2,x3,x4,x5,x6,x7,x8,x9,x10]
    ·generalize World.setCell _ _ _=V2 at hkS ⊢
     obtain⟨hEV,hWV,hEo,hWo,hgE,hgW⟩:=HF.out
     have hp:=HH.out
     have hws:=HK.out.size
     have hvs:=hkS.size
     have kk:Keeps (fun k=>k=g1∨k=B0+1) V V2:=(HK.out.mono (fun _ _ h=> .inl h)).trans (hkS.mono (fun _ _ h=> .inr h))
     have hrow:=HR.out
     refine⟨_,_,_,rfl,⟨hEV.keeps kk ?_,hWV.keeps kk ?_,⟨vs',HQ.out.keeps hkS (fun k hk h=> ?_),hrow.len,fun v u hu=>(hrow.row v u hu).keeps hkS (fun k hk h=> ?_),fun u hu k hk=> ?_⟩,fun k hk=> ?_,fun k hk=> ?_,fun k hk=> ?_,hp.tree,hp.t1,hp.t5,hp.nums,hp.lanes,hp.weights,fun k hk=>hk.2⟩,HWV.out.then kk (fun i hi h=>by omega)⟩
     ·rintro g hg (h | h)
      ·subst h;exact hgE hg
      ·have:=hEo g hg;omega
     ·rintro g hg (h | h)
      ·subst h;exact hgW hg
      ·have:=hWo g hg;omega
     ·have hk':g1=k:=Option.some.inj hk
      omega
     ·obtain⟨hv,rfl⟩:=List.getElem?_eq_some_iff.1 hu
      have:=hrow.new v _ (by rw[hrow.len]at hv;exact hv) hu k hk
      omega
     ·obtain⟨v,hv,rfl⟩:=List.getElem_of_mem hu
      have hu2:vs'[v]? =some vs'[v]:=List.getElem?_eq_getElem hv
      have h1:=hrow.new v _ (by rw[hrow.len]at hv;exact hv) hu2 k hk
      have h2:=(hrow.row v _ hu2).lt k hk
      exact⟨by omega,by omega⟩
     ·have h1:=hEo k hk
      have h2:=hEV.lt k hk
      exact⟨by omega,by omega⟩
     ·have h1:=hWo k hk
      have h2:=hWV.lt k hk
      exact⟨by omega,by omega⟩
     ·have hk':g1=k:=Option.some.inj hk
      have h2:=HQ.out.lt g1 rfl
      exact⟨by omega,by omega⟩
 all_goals exact hMid.elim
end Go.Proofs.YtebnflpanfmicaaGreatDoor
namespace Go.Proofs.YtebnflpanfmicaaGreatDoor
open Go.RowKit
structure Part where
 at_:World→(Nat→Prop)→Prop
 keeps:∀{w w':World} {S F:Nat→Prop},at_ w S→Keeps F w w'→(∀k,S k→¬F k)→at_ w' S
 lt:∀{w:World} {S:Nat→Prop},at_ w S→∀k,S k→k < w.heap.size
def Part.none:Part:=⟨fun _ S=>∀k,¬S k,fun h _ _=>h,fun h k hk=>absurd hk (h k)⟩
section
variable {ι:Type} {A A':ι→Part} {w w' w'':World} {o o' o'':Nat→Option ι}
structure Sys (A:ι→Part) (w:World) (o:Nat→Option ι):Prop where
 part:∀c,(A c).at_ w (fun k=>o k=some c)
 lt:∀k c,o k=some c→k < w.heap.size
def Ext (o:Nat→Option ι) (w:World) (o':Nat→Option ι) (w':World):Prop:=Keeps (fun k=>(o k).isSome=true) w w'∧∀k,k < w.heap.size→o' k=o k
theorem Ext.refl (o:Nat→Option ι) (w:World):Ext o w o w:=⟨Keeps.refl _ _,fun _ _=>rfl⟩
theorem Ext.trans (h:Ext o w o' w') (k:Ext o' w' o'' w''):Ext o w o'' w'':=
 ⟨h.1.then k.1 (fun i hi hs=>by rwa[h.2 i hi]at hs),fun i hi=>(k.2 i (Nat.lt_of_lt_of_le hi h.1.size)).trans (h.2 i hi)⟩
theorem Ext.keeps (o:Nat→Option ι) (h:Keeps (fun _=>False) w w'):Ext o w o w':=⟨h.mono (fun _ _ h=>h.elim),fun _ _=>rfl⟩
theorem Ext.free (h:Ext o w o' w'):Keeps (fun k=>(o k).isSome=true) w w':=h.1
theorem Sys.calm (h:Sys A w o) (hk:Keeps (fun _=>False) w w'):Sys A w' o:=
 ⟨fun c=>(A c).keeps (h.part c) hk (fun _ _ h=>h),fun k c e=>Nat.lt_of_lt_of_le (h.lt k c e) hk.size⟩
theorem Sys.aside {F:Nat→Prop} (h:Sys A w o) (hk:Keeps F w w') (hF:∀k,F k→o k=none):Sys A w' o:=
 ⟨fun c=>(A c).keeps (h.part c) hk (fun k e hf=>by rw[hF k hf]at e;cases e),fun k c e=>Nat.lt_of_lt_of_le (h.lt k c e) hk.size⟩
open Classical in
theorem Sys.step (h:Sys A w o) (c:ι) (hA:∀x,x≠c→A' x=A x) (hk:Keeps (fun k=>o k=some c) w w') (hB:(A' c).at_ w' (more (fun k=>o k=some c) w w')):
  ∃o',Sys A' w' o'∧Ext o w o' w':=by
 have hone:∀k,w.heap.size≤k→o k=Option.none:=fun k hk=>by
  cases e:o k with
  | none=>rfl
  | some x=>have:=h.lt k x e;omega
 refine⟨fun k=>if w.heap.size≤k∧k < w'.heap.size then some c else o k,⟨fun x=> ?_,fun k x e=> ?_⟩,hk.mono (fun i _ e=>by rw[e];rfl),fun k hk=>if_neg (by omega)⟩
 ·by_cases hx:x=c
  ·subst hx
   have e:(fun k=>(if w.heap.size≤k∧k < w'.heap.size then some x else o k)=some x)=more (fun k=>o k=some x) w w':=by
    funext k
    unfold more
    by_cases hn:w.heap.size≤k∧k < w'.heap.size
    ·simp[hn]
    ·simp[hn]
   rw[e]
   exact hB
  ·rw[hA x hx]
   have e:(fun k=>(if w.heap.size≤k∧k < w'.heap.size then some c else o k)=some x)=(fun k=>o k=some x):=by
    funext k
    by_cases hn:w.heap.size≤k∧k < w'.heap.size
    ·rw[if_pos hn,hone k hn.1]
     simp[Ne.symm hx]
    ·rw[if_neg hn]
   rw[e]
   exact(A x).keeps (h.part x) hk (fun k e1 e2=>by rw[e1]at e2;exact hx (Option.some.inj e2))
 ·by_cases hn:w.heap.size≤k∧k < w'.heap.size
  ·exact hn.2
  ·rw[if_neg hn]at e
   exact Nat.lt_of_lt_of_le (h.lt k x e) hk.size
theorem Sys.add {S:Nat→Prop} (h:Sys A w o) (c:ι) (hA:∀x,x≠c→A' x=A x) (hc:∀k,o k≠some c) (hk:Keeps (fun _=>False) w w') (hS:∀k,S k→w.heap.size≤k) (hB:(A' c).at_ w' S):
  ∃o',Sys A' w' o'∧Ext o w o' w'∧(∀k,S k→o' k=some c)∧∀k,w.heap.size≤k→¬S k→o' k=Option.none:=by
 classical
 have hone:∀k,w.heap.size≤k→o k=Option.none:=fun k hk=>by
  cases e:o k with
  | none=>rfl
  | some x=>have:=h.lt k x e;omega
 refine⟨fun k=>if S k then some c else o k,⟨fun x=> ?_,fun k x e=> ?_⟩,⟨hk.mono (fun i _ h=>h.elim),fun k hk=>if_neg (fun hs=>by have:=hS k hs;omega)⟩,fun k hs=>if_pos hs,fun k hk hs=>(if_neg hs).trans (hone k hk)⟩
 ·by_cases hx:x=c
  ·subst hx
   have e:(fun k=>(if S k then some x else o k)=some x)=S:=by
    funext k
    by_cases hs:S k
    ·simp[hs]
    ·simp[hs,hc k]
   rw[e]
   exact hB
  ·rw[hA x hx]
   have e:(fun k=>(if S k then some c else o k)=some x)=(fun k=>o k=some x):=by
    funext k
    by_cases hs:S k
    ·rw[if_pos hs,hone k (hS k hs)]
     simp[Ne.symm hx]
    ·rw[if_neg hs]
   rw[e]
   exact(A x).keeps (h.part x) hk (fun _ _ h=>h)
 ·by_cases hs:S k
  ·exact(A' c).lt hB k hs
  ·rw[if_neg hs]at e
   exact Nat.lt_of_lt_of_le (h.lt k x e) hk.size
end
end Go.Proofs.YtebnflpanfmicaaGreatDoor
namespace Go.Proofs.YtebnflpanfmicaaGreatDoor
open Go.RowKit
structure NodeA where
 nb:Nat
 hb:Nat
 rb:Nat
 ab:Nat
 ga:Nat
 aa:Nat
 pv:Value
 lv:Nat→Value
 wb:Nat→Nat
 sb:Nat→Nat→Nat
 cb:Nat→Nat→Nat
def tos (t:List Nat) (v:Nat):List Nat:=v :: nb t v
def portCells (a:NodeA) (i x:Nat):List Value:=[.int .i64 (x:Int),a.lv i, .pointer (some ⟨a.wb i,0,none⟩)]
def portsFrom (a:NodeA):Nat→List Nat→List Value
 | _,[]=>[]
 | i,x :: l=>portCells a i x ++ portsFrom a (i+1) l
def lanesTo (a:NodeA) (i:Nat):Nat→List Value
 | 0=>[]
 | k+1=>lanesTo a i k ++ [.pointer (some ⟨a.sb i k,0,none⟩), .pointer (some ⟨a.cb i k,0,none⟩)]
theorem portsFrom_at (a:NodeA):∀(l:List Nat) (i j x:Nat),l[j]? =some x→(portsFrom a i l)[j*3]? =some (.int .i64 (x:Int))∧(portsFrom a i l)[j*3+1]? =some (a.lv (i+j))∧(portsFrom a i l)[j*3+2]? =some (.pointer (some ⟨a.wb (i+j),0,none⟩))
 | [],i,j,x,h=>by simp at h
 | y :: l,i,0,x,h=>by
   simp at h;subst h
   exact⟨rfl,rfl,rfl⟩
 | y :: l,i,j+1,x,h=>by
   obtain⟨h1,h2,h3⟩:=portsFrom_at a l (i+1) j x (by simpa using h)
   have e:i+1+j=i+(j+1):=by omega
   rw[e]at h2 h3
   have s:∀m,(portsFrom a i (y :: l))[m+3]? =(portsFrom a (i+1) l)[m]? :=fun m=>by simp[portsFrom,portCells]
   refine⟨?_, ?_, ?_⟩
   ·rw[show(j+1)*3=j*3+3 by omega,s];exact h1
   ·rw[show(j+1)*3+1=j*3+1+3 by omega,s];exact h2
   ·rw[show(j+1)*3+2=j*3+2+3 by omega,s];exact h3
theorem lanesTo_length (a:NodeA) (i:Nat):∀k,(lanesTo a i k).length=k*2
 | 0=>rfl
 | k+1=>by simp[lanesTo,lanesTo_length a i k];omega
theorem lanesTo_at (a:NodeA) (i:Nat):∀(n k:Nat),k < n→(lanesTo a i n)[k*2]? =some (.pointer (some ⟨a.sb i k,0,none⟩))∧(lanesTo a i n)[k*2+1]? =some (.pointer (some ⟨a.cb i k,0,none⟩))
 | 0,k,h=>absurd h (Nat.not_lt_zero _)
 | n+1,k,h=>by
   have hl:=lanesTo_length a i n
   unfold lanesTo
   by_cases hk:k=n
   ·subst hk
    rw[List.getElem?_append_right (by omega),List.getElem?_append_right (by omega),hl]
    simp
   ·obtain⟨h1,h2⟩:=lanesTo_at a i n k (by omega)
    rw[List.getElem?_append_left (by omega),List.getElem?_append_left (by omega)]
    exact⟨h1,h2⟩
structure Geo where
 p:Nums
 t:List Nat
 ws:List Nat
 e:Value
 wt:Value
 nx:Value
abbrev Geo.ports (g:Geo) (v:Nat):Nat:=(nb g.t v).length+1
structure NodeR (w:World) (S:Nat→Prop) (g:Geo) (v:Nat) (a:NodeA) (ticks:Int):Prop where
 box:w.heap[a.nb]? =some (.cells #[.pointer (some ⟨a.ab,0,none⟩), .int .i64 ((g.t.length:Int)+1),g.e, .int .i64 g.p.lanes, .int .i64 g.p.room, .int .i64 g.p.queue, .int .i64 g.p.rounds, .int .i64 g.p.every, .int .i64 g.p.bag,g.wt, .int .u16 g.p.start,g.nx,
  .int .i64 (v:Int),a.pv, .pointer (some ⟨a.hb,0,none⟩), .pointer (some ⟨a.rb,0,none⟩), .int .i64 ticks] 129 (0,0))
 pq:QS w 165 3 a.pv (g.ports v) (portsFrom a 0 (tos g.t v))
 lq:∀i,1≤i→i < g.ports v→QS w 172 2 (a.lv i) g.ws.length (lanesTo a i g.ws.length)
 l0:a.lv 0= .slice none 0 0
 pown:∀k,a.pv.ownBlock=some k→S k∧k≠a.nb
 lown:∀i,1≤i→i < g.ports v→∀k,(a.lv i).ownBlock=some k→S k∧k≠a.nb
 sb:S a.nb
 lt:∀k,S k→k < w.heap.size
theorem NodeR.keeps {w w':World} {S F:Nat→Prop} {g:Geo} {v:Nat} {a:NodeA} {ticks:Int} (h:NodeR w S g v a ticks) (hk:Keeps F w w') (hF:∀k,S k→¬F k):NodeR w' S g v a ticks:=
 ⟨blk_keeps hk h.box (hF _ h.sb),h.pq.keeps hk (fun k e=>hF k (h.pown k e).1),fun i h1 h2=>(h.lq i h1 h2).keeps hk (fun k e=>hF k (h.lown i h1 h2 k e).1),h.l0,h.pown,h.lown,h.sb,fun k hk'=>Nat.lt_of_lt_of_le (h.lt k hk') hk.size⟩
section
variable {w:World} {S:Nat→Prop} {g:Geo} {v:Nat} {a:NodeA} {ticks:Int}
theorem nhost_runs (h:NodeR w S g v a ticks):Calls Tryz.prog 21 #[.pointer (some ⟨a.nb,0,none⟩)] w fun e w'=>e= .returned (.pointer (some ⟨a.hb,0,none⟩))∧w=w':=by
 have c:=blk_cell h.box 14
 simp only[List.getElem?_toArray]at c
 clear h
 go_enter Tryz.func21,Tryz.ntmps21
 go_wp2_with fail
 go_ret
 exact⟨rfl,rfl⟩
theorem nrings_runs (h:NodeR w S g v a ticks):Calls Tryz.prog 68 #[.pointer (some ⟨a.nb,0,none⟩)] w fun e w'=>e= .returned (.pointer (some ⟨a.rb,0,none⟩))∧w=w':=by
 have c:=blk_cell h.box 15
 simp only[List.getElem?_toArray]at c
 clear h
 go_enter Tryz.func68,Tryz.ntmps68
 go_wp2_with fail
 go_ret
 exact⟨rfl,rfl⟩
end
end Go.Proofs.YtebnflpanfmicaaGreatDoor
namespace Go.Proofs.YtebnflpanfmicaaGreatDoor
open Go.RowKit
section
variable {w:World} {S:Nat→Prop} {g:Geo} {v:Nat} {a:NodeA} {ticks:Int}
theorem NodeR.lanesN (h:NodeR w S g v a ticks) (hl:g.p.lanes=(g.ws.length:Int)):w.cell? ⟨a.nb,3,none⟩=some (.int .i64 (g.ws.length:Int)):=by
 rw[blk_cell h.box,←hl];rfl
theorem NodeR.lane (h:NodeR w S g v a ticks) {i k:Nat} (h1:1≤i) (hi:i < g.ports v) (hk:k < g.ws.length):∃gp op cp gl ol cl,a.pv= .slice (some ⟨gp,op,none⟩) (g.ports v) cp∧a.lv i= .slice (some ⟨gl,ol,none⟩) g.ws.length cl∧
  w.cell? ⟨gp,op+i*3+1,none⟩=some (a.lv i)∧w.cell? ⟨gl,ol+k*2,none⟩=some (.pointer (some ⟨a.sb i k,0,none⟩))∧w.cell? ⟨gl,ol+k*2+1,none⟩=some (.pointer (some ⟨a.cb i k,0,none⟩)):=by
 obtain⟨gp,op,cp,e1,_,c1,_⟩:=h.pq.cell (by omega)
 obtain⟨gl,ol,cl,e2,_,c2,_⟩:=(h.lq i h1 hi).cell (by omega)
 obtain⟨x1,x2⟩:=lanesTo_at a i g.ws.length k hk
 have hlen:i < (tos g.t v).length:=hi
 obtain⟨_,p2,_⟩:=portsFrom_at a (tos g.t v) 0 i _ (List.getElem?_eq_getElem hlen)
 rw[Nat.zero_add]at p2
 exact⟨gp,op,cp,gl,ol,cl,e1,e2,by rw[Nat.add_assoc];exact c1 _ _ p2,c2 _ _ x1,by rw[Nat.add_assoc];exact c2 _ _ x2⟩
set_option maxRecDepth 100000 in
set_option maxHeartbeats 4000000 in
theorem ends_ok (h:NodeR w S g v a ticks) (hl:g.p.lanes=(g.ws.length:Int)) (i k:Nat) (h1:1≤i) (hi:i < g.ports v) (hk:k < g.ws.length):
  Calls Tryz.prog 119 #[.pointer (some ⟨a.nb,0,none⟩), .int .i64 i, .int .i64 k] w fun e w'=>e= .returned (.tuple #[.agg #[.pointer (some ⟨a.sb i k,0,none⟩), .pointer (some ⟨a.cb i k,0,none⟩)], .bool true])∧Keeps (fun _=>False) w w':=by
 obtain⟨gp,op,cp,gl,ol,cl,e1,e2,c1,c2,c3⟩:=h.lane h1 hi hk
 have c0:=h.lanesN hl
 have cp13:w.cell? ⟨a.nb,13,none⟩=some a.pv:=by rw[blk_cell h.box];rfl
 rw[e2]at c1
 rw[e1]at cp13
 have i1:¬(i:Int) < 1:=by omega
 have i2:¬((g.ports v:Nat):Int)≤(i:Int):=by omega
 have i3:(i:Int) < ((g.ports v:Nat):Int):=by omega
 have i0:(0:Int)≤(i:Int):=by omega
 have k1:¬(k:Int) < 0:=by omega
 have k0:(0:Int)≤(k:Int):=by omega
 have k2:¬(g.ws.length:Int)≤(k:Int):=by omega
 have k3:(k:Int) < (g.ws.length:Int):=by omega
 have hks:Keeps (fun _=>False) w (w.alloc (.cells #[.pointer none, .pointer none] 172)):=Keeps.alloc _ _ _
 have hbs:=blk_new w (.cells #[.pointer none, .pointer none] 172)
 have d0:=hks.cell c0 (fun h=>h)
 have d1:=hks.cell c1 (fun h=>h)
 have d2:=hks.cell c2 (fun h=>h)
 have d3:=hks.cell c3 (fun h=>h)
 have d4:=hks.cell cp13 (fun h=>h)
 clear h e1 e2 c0 c1 c2 c3 cp13
 generalize g.ports v=n at*
 generalize g.ws.length=L at*
 generalize a.sb i k=s at*
 generalize a.cb i k=r at*
 go_enter Tryz.func119,Tryz.ntmps119
 go_wp2_with fail
 have z0:(w.alloc (.cells #[.pointer (some ⟨s,0,none⟩), .pointer (some ⟨r,0,none⟩)] 172)).cell? ⟨w.heap.size,0,none⟩=some (.pointer (some ⟨s,0,none⟩)):=by rw[blk_cell (blk_new _ _)];rfl
 have z1:(w.alloc (.cells #[.pointer (some ⟨s,0,none⟩), .pointer (some ⟨r,0,none⟩)] 172)).cell? ⟨w.heap.size,1,none⟩=some (.pointer (some ⟨r,0,none⟩)):=by rw[blk_cell (blk_new _ _)];rfl
 refine bodyPost_ret (v:= .tuple #[.agg #[.pointer (some ⟨s,0,none⟩), .pointer (some ⟨r,0,none⟩)], .bool true]) ?_ rfl ⟨rfl,Keeps.alloc _ _ _⟩
 generalize w.alloc _=V at z0 z1 ⊢
 simp[results,Tryz.results119,go_sem,z0,z1]
set_option maxRecDepth 100000 in
set_option maxHeartbeats 4000000 in
theorem ends_no (h:NodeR w S g v a ticks) (hl:g.p.lanes=(g.ws.length:Int)) (i k:Int) (hno:i < 1∨((g.ports v:Nat):Int)≤i∨k < 0∨(g.ws.length:Int)≤k):
  Calls Tryz.prog 119 #[.pointer (some ⟨a.nb,0,none⟩), .int .i64 i, .int .i64 k] w fun e w'=>e= .returned (.tuple #[.agg #[.pointer none, .pointer none], .bool false])∧Keeps (fun _=>False) w w':=by
 have c0:=h.lanesN hl
 have cp13:w.cell? ⟨a.nb,13,none⟩=some a.pv:=by rw[blk_cell h.box];rfl
 obtain⟨pA,pc,e1,_,_⟩:=h.pq.shape
 rw[e1]at cp13
 have hks:Keeps (fun _=>False) w (w.alloc (.cells #[.pointer none, .pointer none] 172)):=Keeps.alloc _ _ _
 have d0:=hks.cell c0 (fun h=>h)
 have d4:=hks.cell cp13 (fun h=>h)
 have z0:(w.alloc (.cells #[.pointer none, .pointer none] 172)).cell? ⟨w.heap.size,0,none⟩=some (.pointer none):=by rw[blk_cell (blk_new _ _)];rfl
 have z1:(w.alloc (.cells #[.pointer none, .pointer none] 172)).cell? ⟨w.heap.size,1,none⟩=some (.pointer none):=by rw[blk_cell (blk_new _ _)];rfl
 have Z:=Lib.hid (And.intro z0 (And.intro z1 hks))
 clear h e1 c0 cp13 z0 z1 hks
 generalize g.ports v=n at*
 generalize g.ws.length=L at*
 have fin:∀V:World,V.cell? ⟨w.heap.size,0,none⟩=some (.pointer none)→V.cell? ⟨w.heap.size,1,none⟩=some (.pointer none)→Keeps (fun _=>False) w V→∀T:Array Value,T.getD 6 undef= .pointer (some ⟨w.heap.size,0,none⟩)→T.getD 7 undef= .bool false→
   bodyPost Tryz.prog Tryz.f119 (fun e w'=>e= .returned (.tuple #[.agg #[.pointer none, .pointer none], .bool false])∧Keeps (fun _=>False) w w') .ret ⟨T,[]⟩ V:=fun V z0 z1 hk T t6 t7=>by
  refine bodyPost_ret (v:= .tuple #[.agg #[.pointer none, .pointer none], .bool false]) ?_ rfl ⟨rfl,hk⟩
  rw[Array.getD_eq_getD_getElem?]at t6 t7
  simp[results,Tryz.results119,go_sem,z0,z1,t6,t7]
 have FIN:=Lib.hid fin
 clear fin
 go_enter Tryz.func119,Tryz.ntmps119
 by_cases i1:i < 1
 ·clear hno
  go_wp2_with fail
  obtain⟨z0,z1,hks⟩:=Z.out
  exact FIN.out _ z0 z1 hks _ rfl rfl
 ·by_cases i2:(n:Int)≤i
  ·clear hno
   go_wp2_with fail
   obtain⟨z0,z1,hks⟩:=Z.out
   exact FIN.out _ z0 z1 hks _ rfl rfl
  ·by_cases i3:k < 0
   ·clear hno
    go_wp2_with fail
    obtain⟨z0,z1,hks⟩:=Z.out
    exact FIN.out _ z0 z1 hks _ rfl rfl
   ·have i4:(L:Int)≤k:=by omega
    clear hno
    go_wp2_with fail
    obtain⟨z0,z1,hks⟩:=Z.out
    exact FIN.out _ z0 z1 hks _ rfl rfl
set_option maxHeartbeats 4000000 in
theorem sender_ok (h:NodeR w S g v a ticks) (hl:g.p.lanes=(g.ws.length:Int)) (i k:Nat) (h1:1≤i) (hi:i < g.ports v) (hk:k < g.ws.length):
  Calls Tryz.prog 106 #[.pointer (some ⟨a.nb,0,none⟩), .int .i64 i, .int .i64 k] w fun e w'=>e= .returned (.pointer (some ⟨a.sb i k,0,none⟩))∧Keeps (fun _=>False) w w':=by
 have HC:=Lib.hid (ends_ok h hl i k h1 hi hk)
 clear h
 generalize a.sb i k=s at*
 generalize a.cb i k=r at*
 go_enter Tryz.func106,Tryz.ntmps106
 go_wp2_with fail
 refine HC.out.mono ?_
 rintro e U ⟨rfl,hU⟩
 have HU:=Lib.hid hU
 clear hU HC
 go_wp2_with fail
 go_ret
 exact⟨rfl,HU.out.trans (Keeps.alloc _ _ _)⟩
set_option maxHeartbeats 4000000 in
theorem receiver_ok (h:NodeR w S g v a ticks) (hl:g.p.lanes=(g.ws.length:Int)) (i k:Nat) (h1:1≤i) (hi:i < g.ports v) (hk:k < g.ws.length):
  Calls Tryz.prog 108 #[.pointer (some ⟨a.nb,0,none⟩), .int .i64 i, .int .i64 k] w fun e w'=>e= .returned (.pointer (some ⟨a.cb i k,0,none⟩))∧Keeps (fun _=>False) w w':=by
 have HC:=Lib.hid (ends_ok h hl i k h1 hi hk)
 clear h
 generalize a.sb i k=s at*
 generalize a.cb i k=r at*
 go_enter Tryz.func108,Tryz.ntmps108
 go_wp2_with fail
 refine HC.out.mono ?_
 rintro e U ⟨rfl,hU⟩
 have HU:=Lib.hid hU
 clear hU HC
 go_wp2_with fail
 go_ret
 exact⟨rfl,HU.out.trans (Keeps.alloc _ _ _)⟩
end
end Go.Proofs.YtebnflpanfmicaaGreatDoor
