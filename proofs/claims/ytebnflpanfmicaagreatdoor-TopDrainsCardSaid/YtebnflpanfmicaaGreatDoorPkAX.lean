/-
  Part 24 of the proof: IslipRun, TopMove.
-/
import Derived.Test.YtebnflpanfmicaaGreatDoorPkAW
import Derived.WalkMore
import Derived.Test.YtebnflpanfmicaaGreatDoorPkAU
import Derived.Test.YtebnflpanfmicaaGreatDoorPkAV
import Derived.Test.YtebnflpanfmicaaGreatDoorPkAG
set_option linter.unusedVariables false
set_option linter.unusedSimpArgs false
set_option linter.unusedSectionVars false
namespace Go.Proofs.YtebnflpanfmicaaGreatDoor
open Go.RowKit Go.Sort
theorem ins_andNot (m:Nat→Int) (n j:Nat) (v:Int) (h0:0≤v) (hn:n≤16) (hj:j < 16):bits .andNot .u16 ((insB m n:Nat):Int) (IntKind.u16.wrap (2^j))=((insB (upd m j v) n:Nat):Int):=by
 have h2:2^j < 65536:=Nat.lt_of_le_of_lt (Nat.pow_le_pow_right (by decide) (show j≤15 by omega)) (by decide)
 obtain⟨x,h,hx,hb⟩:=andNot_u16 (insB m n) (2^j) (bt_lt16 _ hn) h2
 have e:(2:Int)^j=((2^j:Nat):Int):=by rw[Int.natCast_pow];rfl
 rw[shl_u16 j hj,e,h,ins_yes (m:=m) (j:=j) (v:=v) h0 hn hx (fun i=>by rw[hb,has_pow])]
theorem outs_andNot (m:Nat→Int) (n j k:Nat) (hm:m j < 0) (hjn:j < n) (hn:n≤16) (hk:k < 16):bits .andNot .u16 ((outsB m n:Nat):Int) (IntKind.u16.wrap (2^k))=((outsB (upd m j (k:Int)) n:Nat):Int):=by
 have h2:2^k < 65536:=Nat.lt_of_le_of_lt (Nat.pow_le_pow_right (by decide) (show k≤15 by omega)) (by decide)
 obtain⟨x,h,hx,hb⟩:=andNot_u16 (outsB m n) (2^k) (bt_lt16 _ hn) h2
 have e:(2:Int)^k=((2^k:Nat):Int):=by rw[Int.natCast_pow];rfl
 rw[shl_u16 k hk,e,h,outs_yes (m:=m) (j:=j) (k:=k) hm hjn hn hx (fun i=>by rw[hb,has_pow])]
theorem all_ins:∀n:Nat,n≤16→IntKind.u16.wrap (IntKind.u16.wrap (2^n) - 1)=((insB (fun _=> -1) n:Nat):Int):=by decide+kernel
theorem all_outs (n:Nat):outsB (fun _=> -1) n=insB (fun _=> -1) n:=by
 unfold outsB insB
 refine bt_congr n fun k _=> ?_
 rw[Bool.eq_iff_iff,free_iff]
 simp
theorem Stm.step {w:World} {sb mb n:Nat} {m:Nat→Int} (h:Stm w sb mb n m) (hne:sb≠mb) (j:Nat) (v:Int) (d e:Nat):
  Stm (((((w.setCell ⟨mb,j,none⟩ (.int .i64 v)).setCell ⟨sb,1,none⟩ (.int .u16 (insB (upd m j v) n:Nat))).drewN d).setCell ⟨sb,2,none⟩ (.int .u16 (outsB (upd m j v) n:Nat))).drewN e) sb mb n (upd m j v):=by
 have b1:=blk_other h.box ⟨mb,j,none⟩ (.int .i64 v) hne
 have b2:=blk_set b1 1 (.int .u16 (insB (upd m j v) n:Nat))
 have b3:(((w.setCell ⟨mb,j,none⟩ (.int .i64 v)).setCell ⟨sb,1,none⟩ (.int .u16 (insB (upd m j v) n:Nat))).drewN d).heap[sb]? =_:=b2
 have b4:=blk_set b3 2 (.int .u16 (outsB (upd m j v) n:Nat))
 have r1:=blk_set h.row j (.int .i64 v)
 rw[List.setIfInBounds_toArray,←List.map_set (f:=Value.int .i64) (a:=v),lst_set]at r1
 have r2:=blk_other r1 ⟨sb,1,none⟩ (.int .u16 (insB (upd m j v) n:Nat)) (Ne.symm hne)
 have r3:(((w.setCell ⟨mb,j,none⟩ (.int .i64 v)).setCell ⟨sb,1,none⟩ (.int .u16 (insB (upd m j v) n:Nat))).drewN d).heap[mb]? =_:=r2
 have r4:=blk_other r3 ⟨sb,2,none⟩ (.int .u16 (outsB (upd m j v) n:Nat)) (Ne.symm hne)
 exact⟨b4,r4⟩
theorem Arb.two {w:World} {b n g a:Nat} {G A:Nat→Nat} (h:Arb w b n (lst n G) (lst n A) g a) (k j p q:Nat) (hgb:b≠g) (hab:b≠a):
  Arb ((w.setCell ⟨g,k,none⟩ (.int .i64 (p:Int))).setCell ⟨a,j,none⟩ (.int .i64 (q:Int))).drew b n (lst n (upd G k p)) (lst n (upd A j q)) g a:=by
 have g1:=blk_set h.gr k (encI p)
 rw[List.setIfInBounds_toArray,←List.map_set (f:=encI) (a:=p),lst_set]at g1
 have a1:=blk_set (blk_other h.ac ⟨g,k,none⟩ (.int .i64 (p:Int)) (Ne.symm h.ne)) j (encI q)
 rw[List.setIfInBounds_toArray,←List.map_set (f:=encI) (a:=q),lst_set]at a1
 exact⟨blk_other (blk_other h.box _ _ hgb) _ _ hab,blk_other g1 _ _ h.ne,a1,h.ne,lst_length _ _,lst_length _ _⟩
def start (G A:Nat→Nat):St:=⟨fun _=> -1,G,A⟩
theorem fit_start {n:Nat} {G A:Nat→Nat} (hG:∀k,k < n→G k < n) (hA:∀k,k < n→A k < n):Fit n (start G A):=
 ⟨fun _=>Int.le_refl _,fun _=>by show(-1:Int) < (n:Int);omega,hG,hA,fun i j _ _ h=>by simp[start]at h⟩
def asks (reqs:List Nat) (i k:Nat):Bool:=has (reqs.getD i 0) k
theorem Reads.wider {w:World} {B B' sz n:Nat} {v:Value} {cs:List Value} (h:Reads w B sz v n cs) (hB:B≤B'):Reads w B' sz v n cs:=by
 obtain⟨h1,A,c,h2,h3,h4,h5⟩:=h
 refine⟨h1,A,c,h2,h3,h4,fun hn=> ?_⟩
 obtain⟨ad,e,hlt,hc⟩:=h5 hn
 exact⟨ad,e,Nat.lt_of_lt_of_le hlt hB,hc⟩
theorem turn_length (reqs:List Nat) (n:Nat) (h1:1≤n) (h2:n≤16):(turnI reqs n).length=n:=by
 unfold turnI;rw[if_pos ⟨by omega,by omega⟩,colsOf_length,Int.toNat_natCast]
theorem turn_at (reqs:List Nat) {n k:Nat} (h1:1≤n) (h2:n≤16) (hl:reqs.length=n) (hk:k < n):((turnI reqs n).map encU)[k]? =some (.int .u16 (bt (fun i=>asks reqs i k) n:Nat)):=by
 unfold turnI
 rw[if_pos ⟨by omega,by omega⟩,Int.toNat_natCast,List.getElem?_map,colsOf_at _ _ _ _ hk,colOf_beyond reqs k 16 (by omega),hl,colOf_bt]
 rfl
attribute [local irreducible] pickI pickOf
set_option maxRecDepth 100000 in
set_option maxHeartbeats 8000000 in
theorem run_calls (G A:Nat→Nat) (n b g a rounds:Nat) (v:Value) (reqs:List Nat) (h1:1≤n) (h2:n≤16) (hr1:1≤rounds) (hr2:rounds≤16) (w:World) (hT:Tab w) (hA:Arb w b n (lst n G) (lst n A) g a)
  (hG:∀k,k < n→G k < n) (hAl:∀k,k < n→A k < n) (hv:Reads w w.heap.size 1 v n (reqs.map encU)) (hq:∀x∈reqs,x < 65536) (hlen:reqs.length=n):
  Calls Tryz.prog 126 #[.pointer (some ⟨b,0,none⟩),v, .int .i64 rounds] w fun e w'=>∃u,e= .returned u∧QS w' 3 1 u n ((lst n (roundsP (asks reqs) n (start G A) rounds).m).map (Value.int .i64))∧
   Arb w' b n (lst n (roundsP (asks reqs) n (start G A) rounds).G) (lst n (roundsP (asks reqs) n (start G A) rounds).A) g a∧Keeps (fun k=>k=g∨k=a) w w'∧∀k,u.ownBlock=some k→w.heap.size≤k:=by
 have hall:=all_ins n h2
 have hF0:=fit_start hG hAl
 have hm0:(start G A).m=fun _=> -1:=rfl
 have htat:=fun k hk=>turn_at reqs (n:=n) (k:=k) h1 h2 hlen hk
 replace hA:Arb w b n (lst n (start G A).G) (lst n (start G A).A) g a:=hA
 clear hG hAl
 generalize start G A=s0 at*
 generalize asks reqs=R at*
 clear G A
 obtain⟨x0,x1⟩:=hA.cells
 have hg0:g≠0:=fun e=>by
  have h:=hA.gr
  rw[e]at h
  have h3:=hT 0 (by decide)
  rw[blk_cell h]at h3
  simp[lst_at _ h1]at h3
 have ha0:a≠0:=fun e=>by
  have h:=hA.ac
  rw[e]at h
  have h3:=hT 0 (by decide)
  rw[blk_cell h]at h3
  simp[lst_at _ h1]at h3
 have hbl:=blk_lt hA.box
 have hgl:=blk_lt hA.gr
 have hal:=blk_lt hA.ac
 obtain⟨vA,vc,rfl,hvc,hvm⟩:∃vA vc,v= .slice vA n vc∧n≤vc∧vc≤maxLen:=by
  obtain⟨_,A,c,e,h3,h4,_⟩:=hv
  exact⟨A,c,e,h3,h4⟩
 have hg1:¬(rounds:Int) < 1:=by omega
 have hg2:¬(16:Int) < (rounds:Int):=by omega
 go_enter Tryz.func126,Tryz.ntmps126
 go_wp2_with fail
 apply wp_scope_straight
 go_wp2_with fail
 refine(repeat_calls w.heap.size n h1 h2 (w.alloc (.cells #[.int .i64 (-1)] 3)) (by rw[blk_cell (blk_new _ _)];rfl)).mono ?_
 rintro e B1 ⟨mb,rfl,hmb,hkB1,hmbl⟩
 rw[rp_all]at hmb
 rw[World.size_alloc]at hmbl
 replace hkB1:=(Keeps.alloc (fun _=>False) w _).trans hkB1
 go_wp2_with fail
 have hS0:Stm (B1.alloc (.cells #[.slice (some ⟨mb,0,none⟩) n n, .int .u16 (insB (fun _=> -1) n:Nat), .int .u16 (insB (fun _=> -1) n:Nat)] 280)) B1.heap.size mb n s0.m:=
  ⟨by rw[hm0,all_outs];exact blk_new _ _,by rw[hm0,lst_const,List.map_replicate];exact blk_alloc hmb _⟩
 have hkB2:=hkB1.trans (Keeps.alloc (fun _=>False) B1 (.cells #[.slice (some ⟨mb,0,none⟩) n n, .int .u16 (insB (fun _=> -1) n:Nat), .int .u16 (insB (fun _=> -1) n:Nat)] 280))
 have hsb:=hkB1.size
 have hms:mb < B1.heap.size:=blk_lt hmb
 have hszB2:(B1.alloc (.cells #[.slice (some ⟨mb,0,none⟩) n n, .int .u16 (insB (fun _=> -1) n:Nat), .int .u16 (insB (fun _=> -1) n:Nat)] 280)).heap.size=B1.heap.size+1:=by simp
 generalize hsbe:B1.heap.size=sb at hS0 hsb hms hszB2
 generalize B1.alloc (.cells #[.slice (some ⟨mb,0,none⟩) n n, .int .u16 (insB (fun _=> -1) n:Nat), .int .u16 (insB (fun _=> -1) n:Nat)] 280)=B2 at hS0 hkB2 hszB2 ⊢
 clear hkB1 hmb hsbe
 have hv2:Reads B2 B2.heap.size 1 (.slice vA n vc) reqs.length (reqs.map encU):=by
  rw[hlen];exact(hv.below (hkB2.below (Nat.le_refl _) (fun _ _ h=>h))).wider hkB2.size
 refine(turn_calls (.slice vA n vc) reqs n B2 (hT.keeps hkB2 (fun h=>h)) hq hv2).mono ?_
 rintro e W0 ⟨u,rfl,hu,hkW,huo⟩
 rw[turn_length reqs n h1 h2]at hu
 obtain⟨cg,co,cc,rfl,hcc,hcell,_⟩:=hu.cell h1
 have hcg:sb+1≤cg:=by have:=huo cg rfl;omega
 have hc:∀k,k < n→W0.cell? ⟨cg,co+k,none⟩=some (.int .u16 (bt (fun i=>R i k) n:Nat)):=fun k hk=>hcell k _ (htat k hk)
 clear hu hcell huo hv2 hv
 have hS1:=hS0.keeps hkW (fun _ _ h=>h)
 have hk1:=hkB2.trans hkW
 have hA1:=hA.keeps hk1 (fun _ _ h=>h)
 have hT1:=hT.keeps hk1 (fun h=>h)
 have hsz1:=hkW.size
 clear hS0 hkW hkB2 hA hT x0 x1 hall htat hm0
 go_wp2_with fail
 apply wp_label
 go_wp2_with fail
 have hk1':Keeps (fun k=>k=g∨k=a) w W0:=hk1.mono (fun _ _ h=>h.elim)
 clear hk1 hq
 have hgs:g < sb:=by omega
 have has':a < sb:=by omega
 have hbs:b < sb:=by omega
 have hmg:mb≠g:=by omega
 have hma:mb≠a:=by omega
 have hmbs:mb≠b:=by omega
 have hgb:b≠g:=fun e=>by have h1:=hA1.box;rw[e,hA1.gr]at h1;simp at h1
 have hab:b≠a:=fun e=>by have h1:=hA1.box;rw[e,hA1.ac]at h1;simp at h1
 have hga:=hA1.ne
 go_loopw [47] (fun x wr=>∃c:Nat,c≤rounds∧x= .int .i64 (c:Int)∧Keeps (fun k=>k=g∨k=a∨k=sb∨k=mb) W0 wr∧Arb wr b n (lst n (roundsP R n s0 c).G) (lst n (roundsP R n s0 c).A) g a∧Stm wr sb mb n (roundsP R n s0 c).m) (fun x _=>rounds - (intOf x).toNat)
 case atStart=>exact⟨0,Nat.zero_le _,rfl,Keeps.refl _ _,hA1,hS1⟩
 case round=>
  obtain⟨c,hcr,rfl,hk,hA,hS⟩:=hrel
  clear hA1 hS1
  have hFc:=fit_rounds (R:=R) hF0 c
  have hT2:=hT1.keeps hk (fun h=>by rcases h with h | h | h | h <;>omega)
  have y0:wr.cell? ⟨sb,0,none⟩=some (.slice (some ⟨mb,0,none⟩) n n):=by rw[blk_cell hS.box];rfl
  by_cases hlt:c < rounds
  ·have hlt':(c:Int) < (rounds:Int):=by omega
   have y1:wr.cell? ⟨sb,1,none⟩=some (.int .u16 (insB (roundsP R n s0 c).m n:Nat)):=by rw[blk_cell hS.box];rfl
   have hcw:∀k,k < n→wr.cell? ⟨cg,co+k,none⟩=some (.int .u16 (bt (fun i=>R i k) n:Nat)):=fun k hkn=>hk.cell (hc k hkn) (fun h=>by have:=(show cg=g∨cg=a∨cg=sb∨cg=mb from h);omega)
   have hcall:=granted_calls R (roundsP R n s0 c) n b g a sb mb cg co cc h1 h2 wr hT2 hA hFc hS hcw
   have hnext:roundsP R n s0 (c+1)=stAt R (roundsP R n s0 c) n (c == 0) n:=rfl
   generalize hsc:roundsP R n s0 c=s at*
   go_wp2_with fail
   refine hcall.mono ?_
   rintro e X0 ⟨ob,rfl,hob,hkX,hobl⟩
   clear hcall hcw y0 y1
   go_wp2_with fail
   have hS2:Stm X0 sb mb n (stAt R s n (c == 0) 0).m:=by rw[stAt_zero];exact hS.keeps hkX (fun _ _ h=>h)
   have hA2:Arb X0 b n (lst n (stAt R s n (c == 0) 0).G) (lst n (stAt R s n (c == 0) 0).A) g a:=by rw[stAt_zero];exact hA.keeps hkX (fun _ _ h=>h)
   have hwz:=hk.size
   have hkY:Keeps (fun k=>k=g∨k=a∨k=sb∨k=mb) W0 X0:=hk.trans (hkX.mono (fun _ _ h=>h.elim))
   have hobx:=blk_lt hob
   have hT3:=hT2.keeps hkX (fun h=>h)
   have hins:=Lib.hid (rfl:insB s.m n=insB s.m n)
   clear hS hA hk hkX hT2
   go_loopw [59] (fun x wq=>∃j:Nat,j≤n∧x= .int .i64 (j:Int)∧Keeps (fun k=>k=g∨k=a∨k=sb∨k=mb) W0 wq∧Keeps (fun k=>k=g∨k=a∨k=sb∨k=mb) X0 wq∧Arb wq b n (lst n (stAt R s n (c == 0) j).G) (lst n (stAt R s n (c == 0) j).A) g a∧Stm wq sb mb n (stAt R s n (c == 0) j).m) (fun x _=>n - (intOf x).toNat)
   case atStart=>exact⟨0,Nat.zero_le _,rfl,hkY,Keeps.refl _ _,hA2,hS2⟩
   case round=>
    obtain⟨j,hjn,rfl,hkq,hkx,hA,hS⟩:=hrel
    clear hA2 hS2 hkY
    have hT4:=hT3.keeps hkx (fun h=>by rcases h with h | h | h | h <;>omega)
    by_cases hjl:j < n
    ·have hjl':(j:Int) < (n:Int):=by omega
     have hj0:(0:Int)≤(j:Int):=by omega
     have hob2:=blk_keeps hkx hob (fun h=>by rcases h with h | h | h | h <;>omega)
     have q0:wr.cell? ⟨ob,j,none⟩=some (.int .u16 (grB R s n j n:Nat)):=by rw[blk_cell hob2];simp[lst_at _ hjl]
     obtain⟨z0,z1⟩:=hA.cells
     have za:wr.cell? ⟨a,j,none⟩=some (.int .i64 (s.A j:Nat)):=by
      rw[blk_cell hA.ac];simp[lst_at _ hjl,stAt,aAt_self j j (Nat.le_refl _)]
     have cp:=pick_calls (grB R s n j n) (s.A j) n (bt_lt16 _ h2) wr hT4
     rw[pickI_nat _ _ _ (hFc.a j hjl) h2]at cp
     have hacc:acc R s n j=pickOf (grB R s n j n) (s.A j) n:=rfl
     rw[←hacc]at cp
     clear hacc hob2
     go_wp2_with fail
     refine cp.mono ?_
     rintro e Y0 ⟨rfl,hkY⟩
     clear cp q0 z0 z1 za hT4
     replace hA:=hA.keeps hkY (fun _ _ h=>h)
     replace hS:=hS.keeps hkY (fun _ _ h=>h)
     replace hkq:=hkq.trans (hkY.mono (fun _ _ h=>h.elim))
     replace hkx:=hkx.trans (hkY.mono (fun _ _ h=>h.elim))
     clear hkY
     rcases acc_cases (R:=R) hFc hjl with⟨e,_⟩ | ⟨k,e,hkn,hfr,_,hmj,_⟩
     ·have ht:took R s n j=false:=by unfold took;rw[e];simp
      rw[e]
      rw[←stAt_no (f:=c == 0) ht]at hA hS
      go_wp2_with fail
      go_roundw
      case rel=>exact⟨j+1,by omega,rfl,hkq,hkx,hA,hS⟩
      case measure=>simp[intOf];omega
     ·rw[e]
      have hMj:mAt R s n j j= -1:=by rw[mAt_self];exact hmj
      have hi:=ins_andNot (mAt R s n j) n j (k:Int) (by omega) h2 (by omega)
      have ho:=outs_andNot (mAt R s n j) n j k (by rw[hMj];decide) hjl h2 (by omega)
      have hfin:=stAt_yes (R:=R) (f:=c == 0) hFc hjl e
      have hkne:¬(k:Int)= -1:=by omega
      have hk0:(0:Int)≤(k:Int):=by omega
      have hkn':(k:Int) < (n:Int):=by omega
      have y0:Y0.cell? ⟨sb,0,none⟩=some (.slice (some ⟨mb,0,none⟩) n n):=by rw[blk_cell hS.box];rfl
      have ym:Y0.cell? ⟨mb,j,none⟩=some (.int .i64 (mAt R s n j j)):=by rw[blk_cell hS.row];simp[lst_at _ hjl,stAt]
      have fm:Y0.frozen? ⟨mb,j,none⟩=false:=blk_frozen hS.row j
      have b1:=blk_other hS.box ⟨mb,j,none⟩ (.int .i64 (k:Int)) (by show sb≠mb;omega)
      have r1:=blk_set hS.row j (.int .i64 (k:Int))
      rw[List.setIfInBounds_toArray,←List.map_set (f:=Value.int .i64) (a:=(k:Int)),lst_set]at r1
      have A1:=hA.keeps (Keeps.setCell (fun i=>i=mb) Y0 ⟨mb,j,none⟩ (.int .i64 (k:Int)) rfl) (fun i hi h=>by rcases hi with h' | h' | h' <;>omega)
      have K1:=hkq.trans (Keeps.setCell (fun i=>i=g∨i=a∨i=sb∨i=mb) Y0 ⟨mb,j,none⟩ (.int .i64 (k:Int)) (.inr (.inr (.inr rfl))))
      have X1:=hkx.trans (Keeps.setCell (fun i=>i=g∨i=a∨i=sb∨i=mb) Y0 ⟨mb,j,none⟩ (.int .i64 (k:Int)) (.inr (.inr (.inr rfl))))
      clear hA hS hkq hkx e hmj hfr
      go_wp2_with fail
      clear y0 ym fm
      generalize Y0.setCell ⟨mb,j,none⟩ (.int .i64 (k:Int))=W1 at*
      have y1:W1.cell? ⟨sb,1,none⟩=some (.int .u16 (insB (mAt R s n j) n:Nat)):=by rw[blk_cell b1];rfl
      have f1:W1.frozen? ⟨sb,1,none⟩=false:=blk_frozen b1 1
      have b2:=blk_set b1 1 (.int .u16 (insB (upd (mAt R s n j) j (k:Int)) n:Nat))
      have hsm:sb≠mb:=by omega
      have b2':(W1.setCell ⟨sb,1,none⟩ (.int .u16 (insB (upd (mAt R s n j) j (k:Int)) n:Nat))).drew.heap[sb]? =some (.cells #[.slice (some ⟨mb,0,none⟩) n n, .int .u16 (insB (upd (mAt R s n j) j (k:Int)) n:Nat), .int .u16 (outsB (mAt R s n j) n:Nat)] 280 (0,0)):=b2
      have r2:(W1.setCell ⟨sb,1,none⟩ (.int .u16 (insB (upd (mAt R s n j) j (k:Int)) n:Nat))).drew.heap[mb]? =_:=blk_other r1 ⟨sb,1,none⟩ (.int .u16 (insB (upd (mAt R s n j) j (k:Int)) n:Nat)) (Ne.symm hsm)
      have hkk:Keeps (fun i=>i=sb) W1 (W1.setCell ⟨sb,1,none⟩ (.int .u16 (insB (upd (mAt R s n j) j (k:Int)) n:Nat))).drew:=Keeps.trans (Keeps.setCell (fun i=>i=sb) W1 ⟨sb,1,none⟩ _ rfl) (Keeps.drew _ _)
      have A2:=A1.keeps hkk (fun i hi h=>by rcases hi with h' | h' | h' <;>omega)
      have K2:=K1.trans (hkk.mono (fun i _ h=> .inr (.inr (.inl h))))
      have X2:=X1.trans (hkk.mono (fun i _ h=> .inr (.inr (.inl h))))
      clear b2 b1 r1 A1 K1 X1 hkk
      go_region
      clear y1 f1
      generalize (W1.setCell ⟨sb,1,none⟩ (.int .u16 (insB (upd (mAt R s n j) j (k:Int)) n:Nat))).drew=W2 at*
      have y2:W2.cell? ⟨sb,2,none⟩=some (.int .u16 (outsB (mAt R s n j) n:Nat)):=by rw[blk_cell b2'];rfl
      have f2:W2.frozen? ⟨sb,2,none⟩=false:=blk_frozen b2' 2
      have b3:(W2.setCell ⟨sb,2,none⟩ (.int .u16 (outsB (upd (mAt R s n j) j (k:Int)) n:Nat))).drew.heap[sb]? =some (.cells #[.slice (some ⟨mb,0,none⟩) n n, .int .u16 (insB (upd (mAt R s n j) j (k:Int)) n:Nat), .int .u16 (outsB (upd (mAt R s n j) j (k:Int)) n:Nat)] 280 (0,0)):=blk_set b2' 2 (.int .u16 (outsB (upd (mAt R s n j) j (k:Int)) n:Nat))
      have r3:(W2.setCell ⟨sb,2,none⟩ (.int .u16 (outsB (upd (mAt R s n j) j (k:Int)) n:Nat))).drew.heap[mb]? =_:=blk_other r2 ⟨sb,2,none⟩ (.int .u16 (outsB (upd (mAt R s n j) j (k:Int)) n:Nat)) (Ne.symm hsm)
      have hkk:Keeps (fun i=>i=sb) W2 (W2.setCell ⟨sb,2,none⟩ (.int .u16 (outsB (upd (mAt R s n j) j (k:Int)) n:Nat))).drew:=Keeps.trans (Keeps.setCell (fun i=>i=sb) W2 ⟨sb,2,none⟩ _ rfl) (Keeps.drew _ _)
      have A3:=A2.keeps hkk (fun i hi h=>by rcases hi with h' | h' | h' <;>omega)
      have K3:=K2.trans (hkk.mono (fun i _ h=> .inr (.inr (.inl h))))
      have X3:=X2.trans (hkk.mono (fun i _ h=> .inr (.inr (.inl h))))
      clear b2' r2 A2 K2 X2 hkk
      go_wp2_with fail
      go_region
      clear y2 f2
      generalize (W2.setCell ⟨sb,2,none⟩ (.int .u16 (outsB (upd (mAt R s n j) j (k:Int)) n:Nat))).drew=W3 at*
      have S3:Stm W3 sb mb n (stAt R s n (c == 0) (j+1)).m:=by rw[hfin];exact⟨b3,r3⟩
      clear b3 r3 hi ho
      obtain⟨pj,hpj,hpj'⟩:∃p:Nat,((j:Int)+1) % (n:Int)=(p:Int)∧Hid (p=(j+1) % n):=⟨(j+1) % n,by rw[Int.natCast_emod];rfl,Lib.hid rfl⟩
      obtain⟨pk,hpk,hpk'⟩:∃p:Nat,((k:Int)+1) % (n:Int)=(p:Int)∧Hid (p=(k+1) % n):=⟨(k+1) % n,by rw[Int.natCast_emod];rfl,Lib.hid rfl⟩
      have hwj:IntKind.i64.wrap ((j:Int)+1)=(j:Int)+1:=wrap_nat (j+1) (by omega)
      have hwk:IntKind.i64.wrap ((k:Int)+1)=(k:Int)+1:=wrap_nat (k+1) (by omega)
      have hnz:¬(n:Int)=0:=by omega
      have hnz':¬n=0:=by omega
      have htj:((j:Int)+1).tmod n=(pj:Int):=by rw[Int.tmod_eq_emod_of_nonneg (by omega)];exact hpj
      have htk:((k:Int)+1).tmod n=(pk:Int):=by rw[Int.tmod_eq_emod_of_nonneg (by omega)];exact hpk
      cases hcb:c == 0 with
      | true=>
        have hc0:(c:Int)=0:=by rw[beq_iff_eq]at hcb;omega
        obtain⟨z0,z1⟩:=A3.cells
        obtain⟨vg,zg⟩:∃v:Int,W3.cell? ⟨g,k,none⟩=some (.int .i64 v):=⟨_,by rw[blk_cell A3.gr];simp[lst_at _ hkn,stAt];rfl⟩
        have zgf:W3.frozen? ⟨g,k,none⟩=false:=blk_frozen A3.gr k
        obtain⟨va,za⟩:∃v:Int,W3.cell? ⟨a,j,none⟩=some (.int .i64 v):=⟨_,by rw[blk_cell A3.ac];simp[lst_at _ hjl,stAt];rfl⟩
        have zaf:W3.frozen? ⟨a,j,none⟩=false:=blk_frozen A3.ac j
        have A3':=Lib.hid A3
        clear A3
        have hag:a≠g:=Ne.symm hga
        go_wp2_with fail
        go_region
        have hkk:Keeps (fun i=>i=g∨i=a) W3 ((W3.setCell ⟨g,k,none⟩ (.int .i64 (pj:Int))).setCell ⟨a,j,none⟩ (.int .i64 (pk:Int))).drew:=
         ((Keeps.setCell (fun i=>i=g∨i=a) W3 ⟨g,k,none⟩ _ (.inl rfl)).trans (Keeps.setCell (fun i=>i=g∨i=a) _ ⟨a,j,none⟩ _ (.inr rfl))).trans (Keeps.drew _ _)
        have A5:Arb ((W3.setCell ⟨g,k,none⟩ (.int .i64 (pj:Int))).setCell ⟨a,j,none⟩ (.int .i64 (pk:Int))).drew b n (lst n (stAt R s n (c == 0) (j+1)).G) (lst n (stAt R s n (c == 0) (j+1)).A) g a:=by
         rw[hfin,if_pos hcb,if_pos hcb,←hpj'.out,←hpk'.out]
         exact A3'.out.two k j pj pk hgb hab
        go_wp2_with fail
        go_roundw
        case rel=>exact⟨j+1,by omega,rfl,K3.trans (hkk.mono (fun i _ h=>h.elim .inl (fun h=> .inr (.inl h)))),X3.trans (hkk.mono (fun i _ h=>h.elim .inl (fun h=> .inr (.inl h)))),A5,S3.keeps hkk (fun i hi h=>by rcases hi with h' | h' <;>rcases h with h | h <;>omega)⟩
        case measure=>simp[intOf];omega
      | false=>
        have hcn:¬(c:Int)=0:=by rw[beq_eq_false_iff_ne]at hcb;omega
        have A4:Arb W3 b n (lst n (stAt R s n (c == 0) (j+1)).G) (lst n (stAt R s n (c == 0) (j+1)).A) g a:=by rw[hfin,if_neg (by rw[hcb];decide),if_neg (by rw[hcb];decide)];exact A3
        go_wp2_with fail
        go_roundw
        case rel=>exact⟨j+1,by omega,rfl,K3,X3,A4,S3⟩
        case measure=>simp[intOf];omega
    ·obtain rfl:j=n:=by omega
     have hjl':¬(j:Int) < (j:Int):=by omega
     have q1:wr.cell? ⟨sb,1,none⟩=some (.int .u16 (insB (stAt R s j (c == 0) j).m j:Nat)):=by rw[blk_cell hS.box];rfl
     by_cases hE:insB (stAt R s j (c == 0) j).m j=insB s.m j
     ·have hid:=idle_of_ins (R:=R) (s:=s) h2 hE
      have hst:=stAt_idle (f:=c == 0) hid j (Nat.le_refl _)
      rw[hst]at hA hS
      have hfull:roundsP R j s0 rounds=s:=by
       have:=rounds_idle (R:=R) (n:=j) (s:=s0) (c:=c) (by rw[hsc];exact hid) (rounds - c)
       rw[show c+(rounds - c)=rounds by omega,hsc]at this
       exact this
      have q0:wr.cell? ⟨sb,0,none⟩=some (.slice (some ⟨mb,0,none⟩) j j):=by rw[blk_cell hS.box];rfl
      rw[hst]at q1
      have hfull':=Lib.hid hfull
      clear hst hE hfull hnext hsc
      go_wp2_with fail
      go_ret
      rw[hfull'.out]
      refine⟨_,rfl,⟨by simp[lst_length], .inr ⟨mb,0,j,_,rfl,hS.row,Nat.le_refl _,by simp only[maxLen];omega,by simp[lst_length],fun i hi=>by simp⟩⟩,hA,hk1'.then hkq (fun i hi h=>by rcases h with h | h | h | h <;>omega),fun k hk=>by cases hk;show w.heap.size≤mb;omega⟩
     ·have hE':¬((insB (stAt R s j (c == 0) j).m j:Nat):Int)=((insB s.m j:Nat):Int):=by omega
      generalize hx:insB (stAt R s j (c == 0) j).m j=x at q1 hE'
      have hx':=Lib.hid hx
      clear hE hx
      go_wp2_with fail
      go_roundw
      case rel=>exact⟨c+1,by omega,rfl,hkq,by rw[hnext];exact hA,by rw[hnext];exact hS⟩
      case measure=>simp[intOf];omega
  ·obtain rfl:c=rounds:=by omega
   have hlt':¬(c:Int) < (c:Int):=by omega
   go_wp2_with fail
   go_ret
   refine⟨_,rfl,⟨by simp[lst_length], .inr ⟨mb,0,n,_,rfl,hS.row,Nat.le_refl _,by simp only[maxLen];omega,by simp[lst_length],fun i hi=>by simp⟩⟩,hA,hk1'.then hk (fun i hi h=>by rcases h with h | h | h | h <;>omega),fun k hk=>by cases hk;show w.heap.size≤mb;omega⟩
end Go.Proofs.YtebnflpanfmicaaGreatDoor
namespace Go.Proofs.YtebnflpanfmicaaGreatDoor
open Go.RowKit
def outB (f:Frm):List Int:=if soundF f then encF f else []
def turnW (s:NodeS) (t:Nat) (L:List Nat) (r:Nat):NodeS:={s with left:=fun i'=>if i'=t then L else s.left i',from_:=fun i'=>if i'=t then r else s.from_ i'}
def popW (s:NodeS) (k:Way):NodeS:={s with free:=if s.Q k=[]then s.free else s.free+1,Q:=setW s.Q k (s.Q k).tail}
def freeW (s:NodeS) (i k:Nat):NodeS:={s with next:=fun i' k'=>if i'=i∧k'=k then s.next i k else s.next i' k',held:=fun i' k'=>if i'=i∧k'=k then freeR (s.held i k)else s.held i' k'}
def sentW (s:NodeS) (t k:Nat):NodeS:={s with sent:=fun i' k'=>if i'=t∧k'=k then nextS (s.sent t k) (s.limit t k)else s.sent i' k',limit:=fun i' k'=>if i'=t∧k'=k then s.limit t k else s.limit i' k'}
abbrev pickW (g:Geo) (s:NodeS) (i t:Nat):Int×List Nat×Nat:=wheelPick g.ws (s.left t) (s.from_ t) (mayTo s i t g.ws.length)
def headW (s:NodeS) (k:Way):Pkt:=(s.Q k).head?.getD Pkt.zero
def takeW (s:NodeS) (i t k:Nat):NodeS:=if 0 < i then freeW (popW s ⟨i,t,k⟩) i k else popW s ⟨i,t,k⟩
def moveS (g:Geo) (i t:Nat) (s:NodeS):NodeS:=
 let p:=pickW g s i t
 let s1:=turnW s t p.2.1 p.2.2
 if p.1 < 0 then s1 else
 let k:=p.1.toNat
 let s2:=takeW s1 i t k
 if t=0 then{s2 with q:=setAt s2.q 3 (s2.q 3 ++ [headW s ⟨i,t,k⟩])}else sentW s2 t k
def dataF (s:NodeS) (t k:Nat) (x:Pkt):Frm:=⟨1,W8 k,W16 (nextN (s.sent t k) (s.limit t k)),W8 x.src,W8 x.dst,x.body⟩
def moveO (g:Geo) (v i t:Nat) (s:NodeS):List (Nat×List Int):=
 let p:=pickW g s i t
 if p.1 < 0∨t=0 then []else [((tos g.t v).getD t 0,outB (dataF s t p.1.toNat (headW s ⟨i,t,p.1.toNat⟩)))]
def movesS (g:Geo) (m:Nat→Int) (s:NodeS):Nat→NodeS
 | 0=>s
 | i+1=>if 0≤m i then moveS g i (m i).toNat (movesS g m s i)else movesS g m s i
def movesO (g:Geo) (v:Nat) (m:Nat→Int) (s:NodeS):Nat→List (Nat×List Int)
 | 0=>[]
 | i+1=>if 0≤m i then movesO g v m s i ++ moveO g v i (m i).toNat (movesS g m s i)else movesO g v m s i
def tellO (g:Geo) (v:Nat) (s:NodeS) (i k:Nat):List (Nat×List Int):=
 [((tos g.t v).getD i 0,outB ⟨3,W8 k,W16 (s.sent i k),0,0,0⟩),((tos g.t v).getD i 0,outB ⟨2,W8 k,W16 (rlim (s.next i k) (s.held i k) g.p.room),0,0,0⟩)]
def tellK (g:Geo) (v:Nat) (s:NodeS) (i:Nat):Nat→List (Nat×List Int)
 | 0=>[]
 | k+1=>tellK g v s i k ++ tellO g v s i k
def exchO (g:Geo) (v:Nat) (s:NodeS):Nat→List (Nat×List Int)
 | 0=>[]
 | i+1=>if i=0 then exchO g v s i else exchO g v s i ++ tellK g v s i g.ws.length
def matchW (g:Geo) (v:Nat) (s:NodeS):St:=roundsP (asks (asksAt s g.ws.length (g.ports v) (g.ports v) 0)) (g.ports v) (start s.G s.A) g.p.rounds.toNat
def fedW (g:Geo) (v:Nat) (s:NodeS):NodeS:=feedTo g v s g.ws.length
def ranW (g:Geo) (v:Nat) (s:NodeS):NodeS:={fedW g v s with G:=(matchW g v (fedW g v s)).G,A:=(matchW g v (fedW g v s)).A}
def movedW (g:Geo) (v:Nat) (s:NodeS):NodeS:=movesS g (matchW g v (fedW g v s)).m (ranW g v s) (g.ports v)
def tickS (g:Geo) (v:Nat) (s:NodeS):NodeS:={movedW g v s with ticks:=wrap64 ((movedW g v s).ticks+1)}
def tickO (g:Geo) (v:Nat) (s:NodeS):List (Nat×List Int):=
 movesO g v (matchW g v (fedW g v s)).m (ranW g v s) (g.ports v) ++ (if Int.tmod (tickS g v s).ticks g.p.every=0 then exchO g v (movedW g v s) (g.ports v)else [])
def frameS (g:Geo) (v i:Nat) (f:Frm) (s:NodeS):NodeS×Int:=
 if(g.ws.length:Int)≤f.lane then(s,30)else
 let k:=f.lane.toNat
 if f.kind=2 then({s with sent:=fun i' k'=>if i'=i∧k'=k then s.sent i k else s.sent i' k',limit:=fun i' k'=>if i'=i∧k'=k then hearC (s.sent i k) (s.limit i k) f.seq else s.limit i' k'},0)
 else if f.kind=3 then({s with next:=fun i' k'=>if i'=i∧k'=k then hearR (s.next i k) (s.held i k) g.p.room f.seq else s.next i' k',held:=fun i' k'=>if i'=i∧k'=k then s.held i k else s.held i' k'},0)
 else if(g.t.length:Int)+1≤max f.src f.dst then(s,30)
 else if comeE (s.next i k) (s.held i k) g.p.room f.seq=0 then(dataS g v i k f s,0)else(s,comeE (s.next i k) (s.held i k) g.p.room f.seq)
def takeS (g:Geo) (v x:Nat) (b:List Int) (s:NodeS):NodeS×Int:=
 if idxI (nb g.t v) x < 0 then(s,1)else if(decF b).2≠0 then(s,(decF b).2)else frameS g v (idxI (nb g.t v) x+1).toNat (decF b).1 s
structure NodeOk (g:Geo) (v:Nat) (s:NodeS) (c:Nat):Prop where
 wheel:∀i,i < g.ports v→WheelOk g.ws (s.left i) (s.from_ i)
 G:∀k,k < g.ports v→s.G k < g.ports v
 A:∀k,k < g.ports v→s.A k < g.ports v
 q:∀k,k < 3→∀x∈s.q k,∃d:Nat,x.dst=(d:Int)∧d≤g.t.length
 wait:∀k,k < 3→((s.q k).length:Int)≤g.p.queue
 came:(s.q 3).length≤c
section
variable {σ:Sig} {w w':World} {o:Nat→Option Cmp} {f v:Nat} {g:Geo} {a:NodeA} {s:NodeS}
theorem SysF.apart (h:SysF σ w o) {c:Cmp} {k:Nat} (hk:o k=some c) {x:Nat} (hx:o x=none):k≠x:=fun e=>by rw[e,hx]at hk;cases hk
theorem SysF.fresh (h:SysF σ w o) {k:Nat} (hk:w.heap.size≤k):o k=none:=by
 cases e:o k with
 | none=>rfl
 | some x=>have:=Sys.lt h k x e;omega
theorem HostNow.kept {w w':World} {S:Nat→Prop} {T E b:Nat} {lanes queue:Int} {q:Nat→List Pkt} (h:HostNow w w' S T E b lanes queue q):Keeps S w w':=by
 obtain⟨_,_,hk,_⟩:=h
 exact hk
theorem NodeR.c13 {S:Nat→Prop} {ticks:Int} (h:NodeR w S g v a ticks):w.cell? ⟨a.nb,13,none⟩=some a.pv:=by rw[blk_cell h.box];rfl
end
end Go.Proofs.YtebnflpanfmicaaGreatDoor
