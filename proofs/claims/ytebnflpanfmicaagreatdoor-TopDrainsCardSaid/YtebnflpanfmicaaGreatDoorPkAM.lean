/-
  Part 13 of the proof: TopWrr.
-/
import Derived.Test.YtebnflpanfmicaaGreatDoorPkAK
import Derived.Test.YtebnflpanfmicaaGreatDoorPkAL
import Derived.Laws.CopyOwn
set_option linter.unusedVariables false
set_option linter.unusedSimpArgs false
set_option linter.unusedSectionVars false
namespace Go.Proofs.YtebnflpanfmicaaGreatDoor
open Go.RowKit
theorem encN_one (l:List Nat):∀u∈l.map encN,u.oneCell'=true:=by
 intro u hu
 obtain⟨x,_,rfl⟩:=List.mem_map.1 hu
 rfl
structure WheelOk (W L:List Nat) (fr:Nat):Prop where
 n1:1≤W.length
 n3:W.length≤3
 len:L.length=W.length
 fr:fr < W.length
 w:∀x∈W,1≤x∧x≤5
 l:∀x∈L,x≤5
structure WheelR (w:World) (S:Nat→Prop) (b:Nat) (vW vL:Value) (W L:List Nat) (fr:Nat):Prop where
 box:w.heap[b]? =some (.cells #[vW,vL, .int .i64 (fr:Int)] 238 (0,0))
 wq:IQ w vW W
 lq:IQ w vL L
 wown:∀g,vW.ownBlock=some g→S g∧g≠b
 lown:∀g,vL.ownBlock=some g→S g∧g≠b∧vW.ownBlock≠some g
 sb:S b
 lt:∀k,S k→k < w.heap.size
def WheelV (w:World) (S:Nat→Prop) (b:Nat) (W L:List Nat) (fr:Nat):Prop:=∃vW vL,WheelR w S b vW vL W L fr
section
variable {w w':World} {S F:Nat→Prop} {b:Nat} {vW vL:Value} {W L:List Nat} {fr:Nat}
theorem WheelR.keeps (h:WheelR w S b vW vL W L fr) (hk:Keeps F w w') (hF:∀k,S k→¬F k):WheelR w' S b vW vL W L fr:=
 ⟨blk_keeps hk h.box (hF _ h.sb),h.wq.keeps hk (fun g hg=>hF g (h.wown g hg).1),h.lq.keeps hk (fun g hg=>hF g (h.lown g hg).1),h.wown,h.lown,h.sb,fun k hk'=>Nat.lt_of_lt_of_le (h.lt k hk') hk.size⟩
theorem WheelV.keeps (h:WheelV w S b W L fr) (hk:Keeps F w w') (hF:∀k,S k→¬F k):WheelV w' S b W L fr:=by
 obtain⟨vW,vL,h⟩:=h
 exact⟨vW,vL,h.keeps hk hF⟩
theorem WheelR.wider {S':Nat→Prop} (h:WheelR w S b vW vL W L fr) (hS:∀k,S k→S' k) (hlt:∀k,S' k→k < w.heap.size):WheelR w S' b vW vL W L fr:=
 ⟨h.box,h.wq,h.lq,fun g hg=>⟨hS _ (h.wown g hg).1,(h.wown g hg).2⟩,fun g hg=>⟨hS _ (h.lown g hg).1,(h.lown g hg).2⟩,hS _ h.sb,hlt⟩
theorem WheelV.wider {S':Nat→Prop} (h:WheelV w S b W L fr) (hS:∀k,S k→S' k) (hlt:∀k,S' k→k < w.heap.size):WheelV w S' b W L fr:=by
 obtain⟨vW,vL,h⟩:=h
 exact⟨vW,vL,h.wider hS hlt⟩
theorem WheelV.lt (h:WheelV w S b W L fr):∀k,S k→k < w.heap.size:=by
 obtain⟨vW,vL,h⟩:=h
 exact h.lt
theorem WheelR.cells (h:WheelR w S b vW vL W L fr):w.cell? ⟨b,0,none⟩=some vW∧w.cell? ⟨b,1,none⟩=some vL∧w.cell? ⟨b,2,none⟩=some (.int .i64 (fr:Int)):=by
 refine⟨?_, ?_, ?_⟩ <;>(rw[blk_cell h.box];rfl)
end
theorem odd_runs (x:Nat) (w:World) (h1:1≤x) (h2:x≤5):
  Calls Tryz.prog 139 #[.int .i64 x] w fun e w'=>e= .returned (.bool false)∧w=w':=by
 have h3:¬(x:Int) < 1:=by omega
 have h4:¬(5:Int) < (x:Int):=by omega
 go_enter Tryz.func139,Tryz.ntmps139
 go_wp2_with fail
 go_ret
 exact⟨rfl,rfl⟩
set_option maxHeartbeats 2000000 in
theorem oddindex_runs (v:Value) (ws:List Nat) (w:World) (h:IQ w v ws) (hw:∀x∈ws,1≤x∧x≤5) (h3:ws.length≤3):
  Calls Tryz.prog 191 #[v, .func (.func 139) #[] #[]] w fun e w'=>e= .returned (.int .i64 (-1))∧w=w':=by
 obtain⟨A,c,rfl,_,_⟩:=h.shape
 go_enter Tryz.func191,Tryz.ntmps191
 go_wp2_with fail
 go_loop [8] (fun s=>∃i:Nat,i≤ws.length∧s= .int .i64 (i:Int)) (fun s=>ws.length - (intOf s).toNat)
 case atStart=>exact⟨0,Nat.zero_le _,rfl⟩
 case round=>
  obtain⟨i,hi,rfl⟩:=hrel
  by_cases hil:i < ws.length
  ·have hii:(i:Int) < (ws.length:Int):=by omega
   have hi0:(0:Int)≤(i:Int):=by omega
   obtain⟨g,off,c',e',_,hcell,_⟩:=h.cell (by omega)
   injection e' with e1 _ e2
   subst e1 e2
   have y1:=hcell i _ (by rw[List.getElem?_map,List.getElem?_eq_getElem hil];rfl)
   obtain⟨q1,q2⟩:=hw _ (List.getElem_mem hil)
   clear hcell h hw
   generalize ws[i]=x at y1 q1 q2
   go_wp2_with fail
   refine(odd_runs x w q1 q2).mono ?_
   rintro e w' ⟨rfl,hw'⟩
   subst w'
   go_wp2_with fail
   go_round
   case rel=>exact⟨i+1,by omega,by simp⟩
   case measure=>simp[intOf];omega
  ·obtain rfl:i=ws.length:=by omega
   have hii:¬(ws.length:Int) < (ws.length:Int):=by omega
   go_wp2_with fail
   go_ret
   exact⟨rfl,rfl⟩
theorem oddcontains_runs (v:Value) (ws:List Nat) (w:World) (h:IQ w v ws) (hw:∀x∈ws,1≤x∧x≤5) (h3:ws.length≤3):
  Calls Tryz.prog 140 #[v, .func (.func 139) #[] #[]] w fun e w'=>e= .returned (.bool false)∧w=w':=by
 go_enter Tryz.func140,Tryz.ntmps140
 go_wp2_with fail
 refine(oddindex_runs v ws w h hw h3).mono ?_
 rintro e w' ⟨rfl,hw'⟩
 subst w'
 go_wp2_with fail
 go_ret
 exact⟨rfl,rfl⟩
set_option maxHeartbeats 2000000 in
theorem wnew_runs (v:Value) (ws:List Nat) (w:World) (h:IQ w v ws) (hw:∀x∈ws,1≤x∧x≤5) (h0:0 < ws.length) (h3:ws.length≤3):
  Calls Tryz.prog 81 #[v] w fun e w'=>∃b,e= .returned (.pointer (some ⟨b,0,none⟩))∧w.heap.size≤b∧Keeps (fun _=>False) w w'∧WheelV w' (more (fun _=>False) w w') b ws ws 0:=by
 obtain⟨A,c,hv,_,_⟩:=h.shape
 have HO:=Lib.hid (oddcontains_runs v ws w h hw h3)
 have HC1:=Lib.hid (cloneI_runs _ v _ w h (encN_one ws) (by omega))
 have HC2:=Lib.hid (p:=∀V,Keeps (fun _=>False) w V→_) fun V hV=>cloneI_runs _ v _ V (h.keeps hV (fun _ _ h=>h)) (encN_one ws) (by omega)
 subst hv
 have h0':¬(ws.length:Int)=0:=by omega
 have h3':¬(3:Int) < (ws.length:Int):=by omega
 have hd0:((ws.length:Int) == 0)=false:=by rw[beq_eq_false_iff_ne];exact h0'
 have hd3:decide ((3:Int) < (ws.length:Int))=false:=decide_eq_false h3'
 obtain⟨n,hn⟩:∃n,ws.length=n:=⟨_,rfl⟩
 have HN:=Lib.hid hn
 rw[hn]at h0 h3 h0' h3' hd0 hd3 HO HC1 HC2 ⊢
 clear hn h hw
 go_enter Tryz.func81,Tryz.ntmps81
 go_wp2_with fail
 refine HO.out.mono ?_
 rintro e w' ⟨rfl,hw'⟩
 subst w'
 go_wp2_with fail
 refine HC1.out.mono ?_
 rintro e X ⟨A1,c1,rfl,hq1,hk1,ho1⟩
 go_wp2_with fail
 refine(HC2.out X hk1).mono ?_
 rintro e Y ⟨A2,c2,rfl,hq2,hk2,ho2⟩
 have hlX:∀g,(Value.slice A1 n c1).ownBlock=some g→g < X.heap.size:=hq1.lt
 have hlY:∀g,(Value.slice A2 n c2).ownBlock=some g→g < Y.heap.size:=hq2.lt
 have hq1Y:=hq1.keeps hk2 (fun _ _ h=>h)
 have HQ1:=Lib.hid hq1Y
 have HQ2:=Lib.hid hq2
 have HL1:=Lib.hid hlX
 have HL2:=Lib.hid hlY
 have HO1:=Lib.hid ho1
 have HO2:=Lib.hid ho2
 clear hq1 hq2 hq1Y hlX hlY ho1 ho2
 go_wp2_with fail
 go_ret
 have hs1:=hk1.size
 have hs2:=hk2.size
 have hn:=HN.out
 have hz:(Y.alloc (.cells #[.slice A1 n c1, .slice A2 n c2, .int .i64 0] 238)).heap.size=Y.heap.size+1:=by simp
 refine⟨_,rfl,by omega,(hk1.trans hk2).trans (Keeps.alloc _ _ _), .slice A1 n c1, .slice A2 n c2,blk_new _ _, ?_, ?_,fun g hg=> ?_,fun g hg=> ?_, ?_,fun g hg=> ?_⟩
 ·unfold IQ;rw[hn];exact HQ1.out.alloc _
 ·unfold IQ;rw[hn];exact HQ2.out.alloc _
 ·have:=HO1.out g hg;have:=HL1.out g hg
  exact⟨.inr ⟨by omega,by omega⟩,by omega⟩
 ·have:=HO2.out g hg;have:=HL2.out g hg
  refine⟨.inr ⟨by omega,by omega⟩,by omega,fun e=> ?_⟩
  have:=HL1.out g e;omega
 ·exact .inr ⟨by omega,by omega⟩
 ·rcases hg with hg | hg
  ·exact hg.elim
  ·exact hg.2
def someB (L:List Nat):Nat:=bt (fun i=>decide (0 < L.getD i 0)) L.length
set_option maxRecDepth 100000 in
set_option maxHeartbeats 4000000 in
theorem some_runs (b:Nat) (vW vL:Value) (W L:List Nat) (fr:Nat) (S:Nat→Prop) (w:World) (h:WheelR w S b vW vL W L fr) (h3:L.length≤3) (h5:∀x∈L,x≤5):
  Calls Tryz.prog 215 #[.pointer (some ⟨b,0,none⟩)] w fun e w'=>e= .returned (.int .u16 (someB L:Nat))∧w=w':=by
 obtain⟨_,c1,_⟩:=h.cells
 obtain⟨A,cap,hv,_,_⟩:=h.lq.shape
 have hq:=h.lq
 subst hv
 clear h
 unfold someB
 obtain⟨p,hp⟩:∃p:Nat→Bool,(fun i=>decide (0 < L.getD i 0))=p:=⟨_,rfl⟩
 have HP:=Lib.hid (p:=∀i,p i=decide (0 < L.getD i 0)) (fun i=>by rw[←hp])
 rw[hp]
 clear hp
 obtain⟨n,hn⟩:∃n,L.length=n:=⟨_,rfl⟩
 have HN:=Lib.hid hn
 unfold IQ at hq
 rw[hn]at c1 h3 hq ⊢
 have HQ:=Lib.hid hq
 have H5:=Lib.hid h5
 have hmx:n≤9223372036854775807:=by omega
 clear hn hq h5
 go_enter Tryz.func215,Tryz.ntmps215
 go_wp2_with fail
 go_loop [3,11] (fun m s=>∃j:Nat,j≤n∧s= .int .i64 (j:Int)∧m= .int .u16 (bt p j:Nat)) (fun _ s=>n - (intOf s).toNat)
 case atStart=>exact⟨0,Nat.zero_le _,rfl,rfl⟩
 case round=>
  obtain⟨j,hj,rfl,rfl⟩:=hrel
  by_cases hlt:j < n
  ·have hlt':(j:Int) < (n:Int):=by omega
   have hj0:(0:Int)≤(j:Int):=by omega
   obtain⟨g,off,c',e',_,hcell,_⟩:=HQ.out.cell (by omega)
   injection e' with e1 _ e2
   subst e1 e2
   have hjl:j < L.length:=by have:=HN.out;omega
   have y1:=hcell j _ (by rw[List.getElem?_map,List.getElem?_eq_getElem hjl];rfl)
   have hb:=bt_lt p j
   have hg:L.getD j 0=L[j]:=by rw[List.getD_eq_getElem?_getD,List.getElem?_eq_getElem hjl];rfl
   have hx5:=H5.out _ (List.getElem_mem hjl)
   have hor:=orpow_u16 (bt p j) j hb (by omega)
   have hst:bt p (j+1)=if 0 < L[j]then bt p j+2^j else bt p j:=by
    rw[bt,HP.out j,hg]
    by_cases h0:0 < L[j] <;>simp[h0]
   have HST:=Lib.hid hst
   have hsh:((j:Int)).toNat=j:=by omega
   clear hcell hg hst hb
   generalize bt p j=m at*
   generalize L[j]=x at*
   by_cases h0:0 < x
   ·have h0':(0:Int) < (x:Int):=by omega
    have HOR:=Lib.hid hor
    clear hor
    go_wp2_with fail
    go_round
    case rel=>exact⟨j+1,by omega,by go_num,by rw[HST.out,if_pos h0,←HOR.out]⟩
    case measure=>simp[intOf];omega
   ·have h0':¬(0:Int) < (x:Int):=by omega
    clear hor
    go_wp2_with fail
    go_round
    case rel=>exact⟨j+1,by omega,by go_num,by rw[HST.out,if_neg h0]⟩
    case measure=>simp[intOf];omega
  ·obtain rfl:j=n:=by omega
   have hlt':¬(j:Int) < (j:Int):=by omega
   have HB:=Lib.hid (p:=bt p j=bt p j) rfl
   obtain⟨m,hm⟩:∃m,bt p j=m:=⟨_,rfl⟩
   have HM:=Lib.hid hm
   rw[hm]
   clear hm
   go_wp2_with fail
   go_ret
   exact⟨by rw[HM.out];rfl,rfl⟩
def wheelPick (W L:List Nat) (fr may:Nat):Int×List Nat×Nat:=
 let m0:=may % 2^W.length
 if m0=0 then(-1,L,fr)else
 let L1:=if m0 &&& someB L=0 then W else L
 let i:=(pickI (m0 &&& someB L1) fr W.length).toNat
 ((i:Int),L1.set i (L1.getD i 0 - 1),(i+1) % W.length)
theorem someB_lt (L:List Nat) (h:L.length≤16):someB L < 65536:=bt_lt16 _ h
theorem has_someB (L:List Nat) (i:Nat):has (someB L) i=(decide (i < L.length) && decide (0 < L.getD i 0)):=has_bt _ _ _
theorem has_and (a b i:Nat):has (a &&& b) i=(has a i && has b i):=by
 rw[has_testBit,has_testBit,has_testBit,Nat.testBit_and]
theorem has_of_ne {m:Nat} (hm:m < 65536) (h:m≠0):∃i,i < 16∧has m i=true:=by
 apply Classical.byContradiction
 intro hc
 refine h (eq_of_has hm (by decide) (fun i hi=> ?_))
 rw[has_zero]
 cases hh:has m i with
 | false=>rfl
 | true=>exact absurd ⟨i,hi,hh⟩ hc
theorem wheel_i {W L:List Nat} {fr:Nat} (hL:L.length=W.length) (hn1:1≤W.length) (hn:W.length≤3) (hf:fr < W.length) {m:Nat} (hm:m < 65536) (h0:m &&& someB L≠0):
  ∃i:Nat,pickI (m &&& someB L) fr W.length=(i:Int)∧i < W.length∧0 < L.getD i 0∧has m i=true:=by
 have hlt:m &&& someB L < 65536:=Nat.lt_of_le_of_lt Nat.and_le_left hm
 obtain⟨j,hj,hh⟩:=has_of_ne hlt h0
 have hh0:=hh
 rw[has_and,has_someB]at hh
 simp only[Bool.and_eq_true,decide_eq_true_eq]at hh
 rw[pickI_nat _ _ _ hf (by omega)]
 rcases pick_cases (m &&& someB L) fr W.length hf with⟨_,h2⟩ | ⟨k,h1,h2,h3⟩
 ·rw[h2 j (by omega)]at hh0
  cases hh0
 ·rw[has_and,has_someB]at h3
  simp only[Bool.and_eq_true,decide_eq_true_eq]at h3
  exact⟨k,h1,h2,h3.2.2,h3.1⟩
theorem some_full {W:List Nat} {m:Nat} (hn:W.length≤3) (hW:∀x∈W,1≤x∧x≤5) (hm:m % 2^W.length≠0):m % 2^W.length &&& someB W≠0:=by
 have hlt:m % 2^W.length < 65536:=Nat.lt_of_lt_of_le (Nat.mod_lt _ (Nat.two_pow_pos _)) (Nat.le_trans (Nat.pow_le_pow_right (by decide) hn) (by decide))
 obtain⟨i,hi,hh⟩:=has_of_ne hlt hm
 intro h0
 have h1:has (m % 2^W.length &&& someB W) i=true:=by
  rw[has_and,hh,has_someB]
  rw[has_mod]at hh
  simp only[Bool.and_eq_true,decide_eq_true_eq]at hh
  have hx:=hW W[i] (List.getElem_mem _)
  simp only[Bool.true_and,Bool.and_eq_true,decide_eq_true_eq]
  refine⟨hh.1, ?_⟩
  rw[List.getD_eq_getElem?_getD,List.getElem?_eq_getElem hh.1]
  exact hx.1
 rw[h0,has_zero]at h1
 cases h1
theorem wheelPick_ok {W L:List Nat} {fr may:Nat} (h:WheelOk W L fr):WheelOk W (wheelPick W L fr may).2.1 (wheelPick W L fr may).2.2∧(wheelPick W L fr may).1 < W.length∧ -1≤(wheelPick W L fr may).1∧(0≤(wheelPick W L fr may).1→has may (wheelPick W L fr may).1.toNat=true):=by
 have hn1:=h.n1
 unfold wheelPick
 simp only
 split
 ·exact⟨h,by omega,by omega,fun h=>by omega⟩
 ·rename_i h0
  have hm:may % 2^W.length < 65536:=Nat.lt_of_lt_of_le (Nat.mod_lt _ (Nat.two_pow_pos _)) (Nat.le_trans (Nat.pow_le_pow_right (by decide) h.n3) (by decide))
  have key:∀L1:List Nat,L1.length=W.length→(∀x∈L1,x≤5)→may % 2^W.length &&& someB L1≠0→
    WheelOk W (L1.set (pickI (may % 2^W.length &&& someB L1) fr W.length).toNat (L1.getD (pickI (may % 2^W.length &&& someB L1) fr W.length).toNat 0 - 1)) (((pickI (may % 2^W.length &&& someB L1) fr W.length).toNat+1) % W.length)∧
    ((pickI (may % 2^W.length &&& someB L1) fr W.length).toNat:Int) < W.length∧ -1≤((pickI (may % 2^W.length &&& someB L1) fr W.length).toNat:Int)∧(0≤((pickI (may % 2^W.length &&& someB L1) fr W.length).toNat:Int)→has may ((pickI (may % 2^W.length &&& someB L1) fr W.length).toNat:Int).toNat=true):=fun L1 hl h5 h1=>by
   obtain⟨i,e,hi,_,hh⟩:=wheel_i hl hn1 h.n3 h.fr hm h1
   rw[e]
   simp only[Int.toNat_natCast]
   refine⟨⟨hn1,h.n3,by rw[List.length_set];exact hl,Nat.mod_lt _ hn1,h.w,fun x hx=> ?_⟩,by omega,by omega,fun _=> ?_⟩
   ·rcases List.mem_or_eq_of_mem_set hx with hx | rfl
    ·exact h5 x hx
    ·have:=h5 (L1[i]'(by omega)) (List.getElem_mem _)
     rw[List.getD_eq_getElem?_getD,List.getElem?_eq_getElem (by omega)]
     show L1[i] - 1≤5
     omega
   ·rw[has_mod]at hh
    simp only[Bool.and_eq_true]at hh
    exact hh.2
  split
  ·exact key W rfl (fun x hx=>(h.w x hx).2) (some_full h.n3 h.w h0)
  ·rename_i h1
   exact key L h.len h.l h1
theorem mask_n (m n:Nat) (hm:m < 65536) (hn:n≤16):bits .and .u16 (m:Int) (IntKind.u16.wrap (IntKind.u16.wrap (2^n) - 1))=((m % 2^n:Nat):Int):=below_u16 m n hm hn
set_option maxRecDepth 100000 in
set_option maxHeartbeats 8000000 in
theorem wpick_none (b:Nat) (vW vL:Value) (W L:List Nat) (fr may:Nat) (S:Nat→Prop) (w:World) (h:WheelR w S b vW vL W L fr) (hok:WheelOk W L fr) (hm:may < 65536) (h0:may % 2^W.length=0):
  Calls Tryz.prog 181 #[.pointer (some ⟨b,0,none⟩), .int .u16 may] w fun e w'=>e= .returned (.int .i64 (-1))∧w=w':=by
 obtain⟨c0,_,_⟩:=h.cells
 obtain⟨A,cap,hv,_,hcm⟩:=h.wq.shape
 have hn3:=hok.n3
 have hmask:=mask_n may W.length hm (by omega)
 rw[h0]at hmask
 subst hv
 clear h hok h0
 have hmx:W.length≤9223372036854775807:=by omega
 generalize W.length=n at*
 obtain⟨p,hp⟩:∃p,IntKind.u16.wrap (IntKind.u16.wrap (2^n) - 1)=p:=⟨_,rfl⟩
 rw[hp]at hmask
 have e1:((n:Int)).toNat=n:=by omega
 go_enter Tryz.func181,Tryz.ntmps181
 go_wp2_with fail
 go_ret
 exact⟨rfl,rfl⟩
theorem QS.copied {w:World} {e n:Nat} {g off cap:Nat} {cs:List Value} (h:QS w e 1 (.slice (some ⟨g,off,none⟩) n cap) n cs) {news:List Value} (hl:news.length=n):∃cur,w.heap[g]? =some (.cells cur e (0,0))∧off+news.length≤cur.size∧
  QS (w.setRow g (cur.toList.take off ++ news ++ cur.toList.drop (off+news.length)).toArray) e 1 (.slice (some ⟨g,off,none⟩) n cap) n news∧Keeps (fun k=>k=g) w (w.setRow g (cur.toList.take off ++ news ++ cur.toList.drop (off+news.length)).toArray):=by
 obtain⟨h1,h2⟩:=h
 rcases h2 with⟨h,_⟩ | ⟨g',off',cap',cur,h,h3,h4,h5,h6,h7⟩
 ·cases h
 ·cases h
  refine⟨cur,h3,by omega,⟨by omega, .inr ⟨g,off,cap,_,rfl,setRow_heap _ _ _ _ _ _ h3,h4,h5, ?_,fun j hj=> ?_⟩⟩,⟨rfl,rfl,rfl,by simp[World.setRow],fun i hi hne=>setRow_other _ _ _ _ hne⟩⟩
  ·simp only[List.size_toArray,List.length_append,List.length_take,List.length_drop,Array.length_toList]
   omega
  ·simp only[List.getElem?_toArray]
   rw[List.append_assoc,List.getElem?_append_right (by simp;omega),List.getElem?_append_left (by simp;omega)]
   congr 1
   simp
   omega
theorem WheelR.turned {U:World} {S:Nat→Prop} {b:Nat} {vW vL:Value} {W L:List Nat} {fr:Nat} (h:WheelR U S b vW vL W L fr) {g off n cp:Nat} (hv:vL= .slice (some ⟨g,off,none⟩) n cp) (i:Nat) (hi:i < L.length) (y f:Nat):
  WheelR ((U.setCell ⟨g,off+i,none⟩ (.int .i64 (y:Int))).setCell ⟨b,2,none⟩ (.int .i64 (f:Int))) S b vW vL W (L.set i y) f∧Keeps S U ((U.setCell ⟨g,off+i,none⟩ (.int .i64 (y:Int))).setCell ⟨b,2,none⟩ (.int .i64 (f:Int))):=by
 have hgo:=h.lown g (by rw[hv];rfl)
 have k1:Keeps (fun k=>k=g) U (U.setCell ⟨g,off+i,none⟩ (.int .i64 (y:Int))):=Keeps.setCell _ _ _ _ rfl
 have k2:Keeps (fun k=>k=b) (U.setCell ⟨g,off+i,none⟩ (.int .i64 (y:Int))) ((U.setCell ⟨g,off+i,none⟩ (.int .i64 (y:Int))).setCell ⟨b,2,none⟩ (.int .i64 (f:Int))):=Keeps.setCell _ _ _ _ rfl
 have kk:=(k1.mono (G:=S) (fun k _ e=>e▸hgo.1)).trans (k2.mono (fun k _ e=>e▸h.sb))
 refine⟨⟨?_,(h.wq.keeps k1 (fun g' hg' e=>hgo.2.2 (e▸hg'))).keeps k2 (fun g' hg' e=>(h.wown g' hg').2 e), ?_,h.wown,h.lown,h.sb,fun k hk=>Nat.lt_of_lt_of_le (h.lt k hk) kk.size⟩,kk⟩
 ·rw[blk_set (blk_keeps k1 h.box (fun e=>hgo.2.1 e.symm)) 2 (.int .i64 (f:Int))]
  rfl
 ·have hl:=h.lq
  unfold IQ at hl ⊢
  rw[List.length_set]
  obtain⟨l1,l2⟩:=hl
  rw[List.length_map,Nat.mul_one]at l1
  refine⟨by simp, .inr ?_⟩
  rcases l2 with⟨h3,_⟩ | ⟨g',off',cap',cur,h3,h4,h5,h6,h7,h8⟩
  ·rw[hv]at h3;cases h3
  ·rw[hv]at h3;cases h3
   refine⟨g,off,cp,_,hv,blk_keeps k2 (blk_set h4 (off+i) (.int .i64 (y:Int))) hgo.2.1,h5,h6,by simpa using h7,fun t ht=> ?_⟩
   simp only[List.length_map,List.length_set]at ht
   rw[List.map_set,List.getElem?_set]
   by_cases e:i=t
   ·subst e
    rw[if_pos rfl,if_pos (by simpa using ht),Array.getElem?_setIfInBounds_self_of_lt (by omega)]
   ·rw[if_neg e,Array.getElem?_setIfInBounds_ne (by omega)]
    exact h8 t (by simpa using ht)
set_option maxRecDepth 100000 in
set_option maxHeartbeats 16000000 in
theorem wpick_old (b:Nat) (vW vL:Value) (W L:List Nat) (fr may:Nat) (S:Nat→Prop) (w:World) (hT:Tab w) (h:WheelR w S b vW vL W L fr) (hok:WheelOk W L fr) (hm:may < 65536) (h0:may % 2^W.length≠0) (h1:may % 2^W.length &&& someB L≠0):
  Calls Tryz.prog 181 #[.pointer (some ⟨b,0,none⟩), .int .u16 may] w fun e w'=>e= .returned (.int .i64 (wheelPick W L fr may).1)∧Keeps S w w'∧WheelR w' S b vW vL W (wheelPick W L fr may).2.1 (wheelPick W L fr may).2.2:=by
 unfold wheelPick
 simp only
 rw[if_neg h0,if_neg h1]
 have hm0:may % 2^W.length < 65536:=Nat.lt_of_lt_of_le (Nat.mod_lt _ (Nat.two_pow_pos _)) (Nat.le_trans (Nat.pow_le_pow_right (by decide) hok.n3) (by decide))
 obtain⟨i,hpi,hiW,hxp,_⟩:=wheel_i hok.len hok.n1 hok.n3 hok.fr hm0 h1
 have hi:i < L.length:=by rw[hok.len];exact hiW
 obtain⟨x,hx⟩:∃x,L.getD i 0=x:=⟨_,rfl⟩
 have hxi:L[i]? =some x:=by
  rw[List.getElem?_eq_getElem hi,←hx,List.getD_eq_getElem?_getD,List.getElem?_eq_getElem hi];rfl
 have hx5:x≤5:=hok.l x (List.mem_of_getElem? hxi)
 rw[hpi]
 simp only[Int.toNat_natCast]
 rw[hx]
 rw[hx]at hxp
 have hmask:=mask_n may W.length hm (by have:=hok.n3;omega)
 have hand:=and_u16 (may % 2^W.length) (someB L) hm0 (someB_lt L (by have:=hok.len;have:=hok.n3;omega))
 have hmm:may % 2^W.length &&& someB L < 65536:=Nat.lt_of_le_of_lt Nat.and_le_left hm0
 obtain⟨m0,hm0e⟩:∃m,may % 2^W.length=m:=⟨_,rfl⟩
 obtain⟨sB,hsB⟩:∃m,someB L=m:=⟨_,rfl⟩
 rw[hm0e]at hmask hand hmm h0 hpi h1
 rw[hsB]at hand hmm hpi h1
 obtain⟨mm,hmme⟩:∃m,m0 &&& sB=m:=⟨_,rfl⟩
 rw[hmme]at hand hmm hpi h1
 have hL3:L.length≤3:=by have:=hok.len;have:=hok.n3;omega
 have hL5:=hok.l
 have hLn:=hok.len
 have hfrn:=hok.fr
 have hn1:=hok.n1
 have hn3:=hok.n3
 obtain⟨c0,c1,c2⟩:=h.cells
 obtain⟨A,cap,hv,_,hcm⟩:=h.wq.shape
 rw[hv]at c0
 obtain⟨n,hn⟩:∃n,W.length=n:=⟨_,rfl⟩
 rw[hn]at hmask hpi hiW hLn hfrn hn1 hn3 c0 ⊢
 have h0':((m0:Int) == 0)=false:=by rw[beq_eq_false_iff_ne];omega
 have h1':((mm:Int) == 0)=false:=by rw[beq_eq_false_iff_ne];omega
 have e1:((n:Int)).toNat=n:=by omega
 obtain⟨p,hp⟩:∃p,IntKind.u16.wrap (IntKind.u16.wrap (2^n) - 1)=p:=⟨_,rfl⟩
 rw[hp]at hmask
 have hi1:(i:Int) < (n:Int):=by omega
 have hi0:(0:Int)≤(i:Int):=by omega
 have hx1:(1:Int)≤(x:Int):=by omega
 have hxm:((x - 1:Nat):Int)=(x:Int) - 1:=by omega
 have hmod:((i:Int)+1) % (n:Int)=(((i+1) % n:Nat):Int):=by rw[Int.natCast_emod];rfl
 have htmod:((i:Int)+1).tmod (n:Int)=(((i+1) % n:Nat):Int):=by rw[←hmod];exact Int.tmod_eq_emod_of_nonneg (by omega)
 have hnz:¬(n:Int)=0:=by omega
 have HMOD:=Lib.hid hmod
 have HXM:=Lib.hid hxm
 have hR:=h
 have hTw:=hT
 have HVW:=Lib.hid hv
 have HN:=Lib.hid hn
 have HPI:=Lib.hid hpi
 have HXI:=Lib.hid hxi
 clear hok h hT hm hm0 hxm hv hn hx hm0e hmod
 have HSM0:=Lib.hid (some_runs b vW vL W L fr S w hR hL3 hL5)
 rw[hsB]at HSM0
 go_enter Tryz.func181,Tryz.ntmps181
 go_wp2_with fail
 refine HSM0.out.mono ?_
 rintro e w0 ⟨rfl,hw0⟩
 subst w0
 have hcs:=hR.cells
 obtain⟨c0,c1,c2⟩:=hcs
 have HSM:=Lib.hid (p:=∀U,Keeps (fun _=>False) w U→Calls Tryz.prog 215 #[.pointer (some ⟨b,0,none⟩)] U fun e w'=>e= .returned (.int .u16 (sB:Nat))∧U=w') fun U hU=>by
  have:=some_runs b vW vL W L fr S U (hR.keeps hU (fun _ _ h=>h)) hL3 hL5
  rw[hsB]at this
  exact this
 have HPK:=Lib.hid (p:=∀U,Keeps (fun _=>False) w U→Calls Tryz.prog 179 #[.int .u16 (mm:Nat), .int .i64 (fr:Int), .int .i64 (n:Int)] U fun e w'=>e= .returned (.int .i64 (i:Int))∧Keeps (fun _=>False) w w') fun U hU=>by
  have:=pick_calls mm fr n hmm U (hTw.keeps hU (fun h=>h))
  rw[hpi]at this
  exact this.mono fun e w' h=>⟨h.1,hU.trans h.2⟩
 have HS:=Lib.hid (p:=∀U,Keeps (fun _=>False) w U→U.cell? ⟨b,2,none⟩=some (.int .i64 (fr:Int))) fun U hU=>hU.cell c2 (fun h=>h)
 have hd:Keeps (fun _=>False) w w.drew:=Keeps.drew _ _
 have HRR:=Lib.hid hR
 clear hR c0 c1 c2
 go_wp2_with fail
 go_region_held3 (fun U=>U.cell? ⟨b,2,none⟩=some (.int .i64 (fr:Int))) (with_reducible first | exact HS.out _ hd | exact HS.out _ (by assumption)) (first
  | (go_at_call 215;refine(HSM.out _ hd).mono ?_;rintro e U0 ⟨rfl,hU0⟩;subst U0)
  | (go_at_call 179;refine(HPK.out _ hd).mono ?_;rintro e U ⟨rfl,hU⟩))
 have hR2:=HRR.out.keeps hU (fun _ _ h=>h)
 obtain⟨c0,c1,c2⟩:=hR2.cells
 obtain⟨g,off,cp,hvL,_,hcell,hfz⟩:=hR2.lq.cell (by rw[hLn];omega)
 have hcl:=hcell i (encN x) (by rw[List.getElem?_map,hxi];rfl)
 have hfl:=hfz (off+i)
 have hgb:=(hR2.lown g (by rw[hvL];rfl)).2.1
 rw[hvL,hLn]at c1
 have fb2:=blk_frozen hR2.box 2
 have HR2:=Lib.hid hR2
 have HVL:=Lib.hid hvL
 clear hR2 hvL hcell hfz c0
 go_wp2_with fail
 go_ret
 obtain⟨r1,r2⟩:=HR2.out.turned HVL.out i hi (x - 1) ((i+1) % n)
 rw[show(((x - 1:Nat):Int))=(x:Int) - 1 from HXM.out,←HMOD.out]at r1 r2
 exact⟨rfl,(hU.mono (fun _ _ h=>h.elim)).trans r2,r1⟩
set_option maxRecDepth 100000 in
set_option maxHeartbeats 16000000 in
theorem wpick_new (b:Nat) (vW vL:Value) (W L:List Nat) (fr may:Nat) (S:Nat→Prop) (w:World) (hT:Tab w) (hS0:¬S 0) (h:WheelR w S b vW vL W L fr) (hok:WheelOk W L fr) (hm:may < 65536) (h0:may % 2^W.length≠0) (h1:may % 2^W.length &&& someB L=0):
  Calls Tryz.prog 181 #[.pointer (some ⟨b,0,none⟩), .int .u16 may] w fun e w'=>e= .returned (.int .i64 (wheelPick W L fr may).1)∧Keeps S w w'∧WheelR w' S b vW vL W (wheelPick W L fr may).2.1 (wheelPick W L fr may).2.2:=by
 unfold wheelPick
 simp only
 rw[if_neg h0,if_pos h1]
 have h2:=some_full hok.n3 hok.w h0
 have hm0:may % 2^W.length < 65536:=Nat.lt_of_lt_of_le (Nat.mod_lt _ (Nat.two_pow_pos _)) (Nat.le_trans (Nat.pow_le_pow_right (by decide) hok.n3) (by decide))
 obtain⟨i,hpi,hiW,hxp,_⟩:=wheel_i (L:=W) rfl hok.n1 hok.n3 hok.fr hm0 h2
 have hi:i < W.length:=hiW
 obtain⟨x,hx⟩:∃x,W.getD i 0=x:=⟨_,rfl⟩
 have hxi:W[i]? =some x:=by
  rw[List.getElem?_eq_getElem hi,←hx,List.getD_eq_getElem?_getD,List.getElem?_eq_getElem hi];rfl
 have hx5:x≤5:=(hok.w x (List.mem_of_getElem? hxi)).2
 rw[hpi]
 simp only[Int.toNat_natCast]
 rw[hx]
 rw[hx]at hxp
 have hmask:=mask_n may W.length hm (by have:=hok.n3;omega)
 have hand0:=and_u16 (may % 2^W.length) (someB L) hm0 (someB_lt L (by have:=hok.len;have:=hok.n3;omega))
 rw[h1]at hand0
 have hand:=and_u16 (may % 2^W.length) (someB W) hm0 (someB_lt W (by have:=hok.n3;omega))
 have hmm:may % 2^W.length &&& someB W < 65536:=Nat.lt_of_le_of_lt Nat.and_le_left hm0
 obtain⟨m0,hm0e⟩:∃m,may % 2^W.length=m:=⟨_,rfl⟩
 obtain⟨sB0,hsB0⟩:∃m,someB L=m:=⟨_,rfl⟩
 obtain⟨sB,hsB⟩:∃m,someB W=m:=⟨_,rfl⟩
 rw[hm0e]at hmask hand hand0 hmm h0 hpi h2
 rw[hsB0]at hand0
 rw[hsB]at hand hmm hpi h2
 obtain⟨mm,hmme⟩:∃m,m0 &&& sB=m:=⟨_,rfl⟩
 rw[hmme]at hand hmm hpi h2
 have hL3:L.length≤3:=by have:=hok.len;have:=hok.n3;omega
 have hL5:=hok.l
 have hW5:∀x∈W,x≤5:=fun x hx=>(hok.w x hx).2
 have hW3:=hok.n3
 have hLn:=hok.len
 have hfrn:=hok.fr
 have hn1:=hok.n1
 have hn3:=hok.n3
 obtain⟨c0,c1,c2⟩:=h.cells
 obtain⟨A,cap,hv,_,hcm⟩:=h.wq.shape
 rw[hv]at c0
 obtain⟨n,hn⟩:∃n,W.length=n:=⟨_,rfl⟩
 rw[hn]at hmask hpi hiW hLn hfrn hn1 hn3 c0 ⊢
 have h0':((m0:Int) == 0)=false:=by rw[beq_eq_false_iff_ne];omega
 have h1':((0:Int) == 0)=true:=rfl
 have e1:((n:Int)).toNat=n:=by omega
 obtain⟨p,hp⟩:∃p,IntKind.u16.wrap (IntKind.u16.wrap (2^n) - 1)=p:=⟨_,rfl⟩
 rw[hp]at hmask
 have hi1:(i:Int) < (n:Int):=by omega
 have hi0:(0:Int)≤(i:Int):=by omega
 have hx1:(1:Int)≤(x:Int):=by omega
 have hxm:((x - 1:Nat):Int)=(x:Int) - 1:=by omega
 have hmod:((i:Int)+1) % (n:Int)=(((i+1) % n:Nat):Int):=by rw[Int.natCast_emod];rfl
 have htmod:((i:Int)+1).tmod (n:Int)=(((i+1) % n:Nat):Int):=by rw[←hmod];exact Int.tmod_eq_emod_of_nonneg (by omega)
 have hnz:¬(n:Int)=0:=by omega
 have HMOD:=Lib.hid hmod
 have HXM:=Lib.hid hxm
 have hR:=h
 have hTw:=hT
 have HVW:=Lib.hid hv
 have HN:=Lib.hid hn
 have HPI:=Lib.hid hpi
 have HXI:=Lib.hid hxi
 clear hok h hT hm hm0 hxm hv hn hx hm0e hmod
 have HSM0:=Lib.hid (some_runs b vW vL W L fr S w hR hL3 hL5)
 rw[hsB0]at HSM0
 go_enter Tryz.func181,Tryz.ntmps181
 go_wp2_with fail
 refine HSM0.out.mono ?_
 rintro e w0 ⟨rfl,hw0⟩
 subst w0
 obtain⟨gL,oL,cL,hvL,_,_,_⟩:=hR.lq.cell (by rw[hLn];omega)
 obtain⟨gW,oW,cW,hvW,_,hcellW,_⟩:=hR.wq.cell (by have:=HN.out;omega)
 have hcA:A=some ⟨gW,oW,none⟩∧cap=cW:=by
  have:=HVW.out
  rw[hvW]at this
  injection this with e1 e2 e3
  exact⟨e1.symm,e3.symm⟩
 obtain⟨hcA1,hcA2⟩:=hcA
 subst hcA1 hcA2
 have hlq:=hR.lq
 unfold IQ at hlq
 rw[hvL,hLn]at hlq
 obtain⟨cur,hcur,hfit,hQL,hKL⟩:=QS.copied (hlq.drew) (news:=W.map encN) (by rw[List.length_map];exact HN.out)
 have hcp:∀ty,(Builtin.copy_ #[35,35] ty #[.slice (some ⟨gL,oL,none⟩) n cL, .slice (some ⟨gW,oW,none⟩) n cap]).run Tryz.prog w.drew= .ok (goInt (W.map encN).length) (w.drew.setRow gL (cur.toList.take oL ++ W.map encN ++ cur.toList.drop (oL+(W.map encN).length)).toArray):=fun ty=>
  run_copy_row (P:=Tryz.prog) w.drew 35 35 ty 3 gL oL n cL ⟨gW,oW,none⟩ n cap cur _ (W.map encN) Tryz.underlying35 rfl hcur (by rw[List.length_map,HN.out];exact(Nat.min_self n).symm) (fun j v hj=>by rw[Addr.add_lit,World.cell?_drew];exact hcellW j v hj) hfit (encN_one W)
 have hgo:=hR.lown gL (by rw[hvL];rfl)
 obtain⟨d0,d1,d2⟩:=hR.cells
 rw[hvL,hLn]at d1
 rw[HVW.out,HN.out]at d0
 generalize (w.drew.setRow gL (cur.toList.take oL ++ W.map encN ++ cur.toList.drop (oL+(W.map encN).length)).toArray)=W1 at*
 generalize (goInt (W.map encN).length)=gi at*
 have hKd:=(Keeps.drew (fun k=>k=gL) w).trans hKL
 have hRn:WheelR W1 S b vW vL W W fr:=⟨blk_keeps hKd hR.box (fun e=>hgo.2.1 e.symm),hR.wq.keeps hKd (fun g hg e=>hgo.2.2 (e▸hg)),by unfold IQ;rw[hvL,HN.out,hLn];exact hQL,hR.wown,hR.lown,hR.sb,fun k hk=>Nat.lt_of_lt_of_le (hR.lt k hk) hKd.size⟩
 have hTW1:Tab W1:=hTw.keeps hKd (fun e=>hS0 (e▸hgo.1))
 have HS6:=Lib.hid (p:=∀U,Keeps (fun k=>k=gL) w U→U.cell? ⟨b,0,none⟩=some (.slice (some ⟨gW,oW,none⟩) n cap)∧U.cell? ⟨b,1,none⟩=some (.slice (some ⟨gL,oL,none⟩) n cL)) fun U hU=>⟨hU.cell d0 (fun e=>hgo.2.1 e.symm),hU.cell d1 (fun e=>hgo.2.1 e.symm)⟩
 have hd6:Keeps (fun k=>k=gL) w w.drew:=Keeps.drew _ _
 have HRN:=Lib.hid hRn
 have HTN:=Lib.hid hTW1
 have HKD:=Lib.hid (hKd.mono (G:=S) (fun k _ e=>e▸hgo.1))
 have hvl2:=Lib.hid hvL
 clear hRn hTW1 hQL hKL hcur hfit hlq hcellW hvL hvW hR
 go_wp2_with fail
 go_region_held3 (fun U=>U.cell? ⟨b,0,none⟩=some (.slice (some ⟨gW,oW,none⟩) n cap)∧U.cell? ⟨b,1,none⟩=some (.slice (some ⟨gL,oL,none⟩) n cL)) (with_reducible first | exact HS6.out _ hd6 | exact HS6.out _ hKd) (fail)
 have hR:=HRN.out
 have hTW1:=HTN.out
 clear hcp HS6 hd6 hKd HRN HTN d0 d1 d2 hTw c0 h0' h1'
 have h1':((mm:Int) == 0)=false:=by rw[beq_eq_false_iff_ne];omega
 have hWn:=HN.out
 have hcs:=hR.cells
 obtain⟨c0,c1,c2⟩:=hcs
 have HSM:=Lib.hid (p:=∀U,Keeps (fun _=>False) W1 U→Calls Tryz.prog 215 #[.pointer (some ⟨b,0,none⟩)] U fun e w'=>e= .returned (.int .u16 (sB:Nat))∧U=w') fun U hU=>by
  have:=some_runs b vW vL W W fr S U (hR.keeps hU (fun _ _ h=>h)) hW3 hW5
  rw[hsB]at this
  exact this
 have HPK:=Lib.hid (p:=∀U,Keeps (fun _=>False) W1 U→Calls Tryz.prog 179 #[.int .u16 (mm:Nat), .int .i64 (fr:Int), .int .i64 (n:Int)] U fun e w'=>e= .returned (.int .i64 (i:Int))∧Keeps (fun _=>False) W1 w') fun U hU=>by
  have:=pick_calls mm fr n hmm U (hTW1.keeps hU (fun h=>h))
  rw[hpi]at this
  exact this.mono fun e w' h=>⟨h.1,hU.trans h.2⟩
 have HS:=Lib.hid (p:=∀U,Keeps (fun _=>False) W1 U→U.cell? ⟨b,2,none⟩=some (.int .i64 (fr:Int))) fun U hU=>hU.cell c2 (fun h=>h)
 have hd:Keeps (fun _=>False) W1 W1.drew:=Keeps.drew _ _
 have HRR:=Lib.hid hR
 clear hR c0 c1 c2
 go_wp2_with fail
 go_region_held3 (fun U=>U.cell? ⟨b,2,none⟩=some (.int .i64 (fr:Int))) (with_reducible first | exact HS.out _ hd | exact HS.out _ (by assumption)) (first
  | (go_at_call 215;refine(HSM.out _ hd).mono ?_;rintro e U0 ⟨rfl,hU0⟩;subst U0)
  | (go_at_call 179;refine(HPK.out _ hd).mono ?_;rintro e U ⟨rfl,hU⟩))
 have hR2:=HRR.out.keeps hU (fun _ _ h=>h)
 obtain⟨c0,c1,c2⟩:=hR2.cells
 obtain⟨g,off,cp,hvL,_,hcell,hfz⟩:=hR2.lq.cell (by rw[hWn];omega)
 have hcl:=hcell i (encN x) (by rw[List.getElem?_map,hxi];rfl)
 have hfl:=hfz (off+i)
 have hgb:=(hR2.lown g (by rw[hvL];rfl)).2.1
 rw[hvL,hWn]at c1
 have fb2:=blk_frozen hR2.box 2
 have HR2:=Lib.hid hR2
 have HVL:=Lib.hid hvL
 clear hR2 hvL hcell hfz c0
 go_wp2_with fail
 go_ret
 obtain⟨r1,r2⟩:=HR2.out.turned HVL.out i hi (x - 1) ((i+1) % n)
 rw[show(((x - 1:Nat):Int))=(x:Int) - 1 from HXM.out,←HMOD.out]at r1 r2
 exact⟨rfl,(HKD.out.trans (hU.mono (fun _ _ h=>h.elim))).trans r2,r1⟩
theorem wpick_runs (b:Nat) (W L:List Nat) (fr may:Nat) (S:Nat→Prop) (w:World) (hT:Tab w) (hS0:¬S 0) (h:WheelV w S b W L fr) (hok:WheelOk W L fr) (hm:may < 65536):
  Calls Tryz.prog 181 #[.pointer (some ⟨b,0,none⟩), .int .u16 may] w fun e w'=>e= .returned (.int .i64 (wheelPick W L fr may).1)∧Keeps S w w'∧WheelV w' S b W (wheelPick W L fr may).2.1 (wheelPick W L fr may).2.2:=by
 obtain⟨vW,vL,h⟩:=h
 by_cases h0:may % 2^W.length=0
 ·have e:wheelPick W L fr may=(-1,L,fr):=by unfold wheelPick;simp only;rw[if_pos h0]
  rw[e]
  refine(wpick_none b vW vL W L fr may S w h hok hm h0).mono ?_
  rintro e w' ⟨rfl,hw⟩
  subst hw
  exact⟨rfl,Keeps.refl _ _,vW,vL,h⟩
 ·by_cases h1:may % 2^W.length &&& someB L=0
  ·exact(wpick_new b vW vL W L fr may S w hT hS0 h hok hm h0 h1).mono fun e w' h=>⟨h.1,h.2.1,vW,vL,h.2.2⟩
  ·exact(wpick_old b vW vL W L fr may S w hT h hok hm h0 h1).mono fun e w' h=>⟨h.1,h.2.1,vW,vL,h.2.2⟩
end Go.Proofs.YtebnflpanfmicaaGreatDoor
