/-
  Part 37 of the proof: TreeRLayYes, TopLaw16.
-/
import Derived.Test.YtebnflpanfmicaaGreatDoorPkBJ
import Derived.Test.YtebnflpanfmicaaGreatDoorPkAO
import Derived.Test.YtebnflpanfmicaaGreatDoorPkBB
set_option linter.unusedVariables false
set_option linter.unusedSimpArgs false
set_option linter.unusedSectionVars false
namespace Go.Proofs.YtebnflpanfmicaaGreatDoor
open Go.RowKit
def RLaid (W w':World) (p:Nums) (t:List Nat) (ws:List Int) (e:Ending):Prop:=
 ∃Ea ec Wa wc Na nc,e= .returned (.tuple #[.agg (p.plan ((t.length:Int)+1) (.slice Ea t.length ec) (.slice Wa ws.length wc) (.slice Na (t.length+1) nc)), .int .i64 0])∧
  QS w' 149 2 (.slice Ea t.length ec) t.length (ecells (edgesOf t t.length))∧(∀k,(Value.slice Ea t.length ec).ownBlock=some k→W.heap.size≤k)∧
  QS w' 3 1 (.slice Wa ws.length wc) ws.length (ws.map encZ)∧(∀k,(Value.slice Wa ws.length wc).ownBlock=some k→W.heap.size≤k)∧
  NextIs w' W.heap.size (.slice Na (t.length+1) nc) (rowsOf t (t.length+1))∧Keeps (fun _=>False) W w'
def nxtOk (t:List Nat) (v x:Nat):Bool:=if v=x then nxt t v x == v else decide (2≤(pathN t v x).length) && (nxt t v x == (pathN t v x).getD 1 0)
theorem nxt_all:allT nxtOk=true:=by decide+kernel
theorem nxt_self {t:List Nat} (ht:Tree t) (h5:t.length≤5) {v:Nat} (hv:v≤t.length):nxt t v v=v:=by
 have:=allT_at nxt_all ht h5 hv hv
 unfold nxtOk at this
 rw[if_pos rfl]at this
 simpa using this
theorem nxt_other {t:List Nat} (ht:Tree t) (h5:t.length≤5) {v x:Nat} (hv:v≤t.length) (hx:x≤t.length) (hne:v≠x):2≤(pathN t v x).length∧nxt t v x=(pathN t v x).getD 1 0:=by
 have:=allT_at nxt_all ht h5 hv hx
 unfold nxtOk at this
 rw[if_neg hne,Bool.and_eq_true,decide_eq_true_eq,beq_iff_eq]at this
 exact this
structure REd (w:World) (p:Nums) (t:List Nat) (wt nx:Value) (i:Nat) (X:World):Prop where
 keeps:Keeps (fun _=>False) w X
 size:w.heap.size+2≤X.heap.size
 res:PBox X (w.heap.size+1) (Nums.zero.plan 0 (.slice none 0 0) (.slice none 0 0) (.slice none 0 0))
 box:∃Ea ec,PBox X w.heap.size (p.plan ((t.length:Int)+1) (.slice Ea i ec) wt nx)∧
  QS X 149 2 (.slice Ea i ec) i (ecells (edgesOf t i))∧(∀k,(Value.slice Ea i ec).ownBlock=some k→w.heap.size+2≤k)
set_option maxRecDepth 100000 in
set_option maxHeartbeats 16000000 in
theorem rlay_yes (p:Nums) (n:Int) (Ea Wa Na:Option Addr) (en ec wc nn nc:Nat) (A:Option Addr) (c:Nat) (t:List Nat) (ws:List Int) (w:World) (ht:Tree t) (h0:0 < t.length) (h5:t.length≤5)
  (h:Reads w w.heap.size 1 (.slice A t.length c) t.length (t.map encI)) (hw:Reads w w.heap.size 1 (.slice Wa ws.length wc) ws.length (ws.map encZ)) (hwb:ws.length*8≤140737488355328) (hr:rightI (t.map Int.ofNat)=true):
  Calls Tryz.prog 37 #[.agg (p.plan n (.slice Ea en ec) (.slice Wa ws.length wc) (.slice Na nn nc)), .slice A t.length c] w fun e w'=>RLaid w w' p t ws e:=by
 obtain⟨lanes,room,queue,rounds,every,bag,start⟩:=p
 have hps:t.map encI=(t.map Int.ofNat).map encZ:=by rw[List.map_map];rfl
 have hlp:(t.map Int.ofNat).length=t.length:=by simp
 have HR:=Lib.hid (p:=∀X,Keeps (fun _=>False) w X→Calls Tryz.prog 55 #[.slice A t.length c] X fun e w'=>e= .returned (.bool true)∧w'=X) fun X hX=>by
  have:=rright_calls (.slice A t.length c) (t.map Int.ofNat) X (by rw[hlp,←hps];exact h.keepsF hX hX.size)
  rwa[hr]at this
 have HP:=Lib.hid (p:=∀(v x:Nat),v≤t.length→x≤t.length→∀X,Keeps (fun _=>False) w X→Calls Tryz.prog 18 #[.slice A t.length c, .int .i64 v, .int .i64 x] X fun e w'=>
   ∃u,e= .returned u∧QS w' 3 1 u (pathN t v x).length ((pathN t v x).map encI)∧Keeps (fun _=>False) X w'∧∀k,u.ownBlock=some k→X.heap.size≤k) fun v x hv hx X hX=>
  rpathN_calls A t.length c t v x ht hv hx h5 X ((h.fam (Nat.le_refl _)).1.keeps hX (fun _ _ h=>h)) (HR.out X hX)
 unfold Nums.plan
 go_enter Tryz.func37,Tryz.ntmps37
 go_wp2_with fail
 obtain⟨hP,hZ,hk0,hz0⟩:=two_boxes w #[.int .i64 n, .slice Ea en ec, .int .i64 lanes, .int .i64 room, .int .i64 queue, .int .i64 rounds, .int .i64 every, .int .i64 bag, .slice Wa ws.length wc, .int .u16 start, .slice Na nn nc] #[.int .i64 0, .slice none 0 0, .int .i64 0, .int .i64 0, .int .i64 0, .int .i64 0, .int .i64 0, .int .i64 0, .slice none 0 0, .int .u16 0, .slice none 0 0] 38
 generalize (w.alloc (.cells #[.int .i64 n, .slice Ea en ec, .int .i64 lanes, .int .i64 room, .int .i64 queue, .int .i64 rounds, .int .i64 every, .int .i64 bag, .slice Wa ws.length wc, .int .u16 start, .slice Na nn nc] 38)).alloc (.cells #[.int .i64 0, .slice none 0 0, .int .i64 0, .int .i64 0, .int .i64 0, .int .i64 0, .int .i64 0, .int .i64 0, .slice none 0 0, .int .u16 0, .slice none 0 0] 38)=X at hP hZ hk0 hz0 ⊢
 refine(HR.out X hk0).mono ?_
 rintro e w' ⟨rfl,hww⟩;subst w'
 clear hr hps hlp
 have ht0:(0:Int) < (t.length:Int):=by omega
 have hne:((t.length:Int) == 0)=false:=by rw[beq_eq_false_iff_ne];omega
 have hne2:¬(t.length:Int)=0:=by omega
 have hsm:(t.length:Int)+1≤6:=by omega
 obtain⟨x0,x1,x2,x3,x4,x5,x6,x7,x8,x9,x10,xf⟩:=PBox.all hP
 have xf0:=xf 0
 have xf1:=xf 1
 clear xf
 go_wp2_with fail
 clear x0 x1 x2 x3 x4 x5 x6 x7 x8 x9 x10 xf0 xf1 HR
 have hR0:REd w ⟨lanes,room,queue,rounds,every,bag,start⟩ t (.slice Wa ws.length wc) (.slice Na nn nc) 0 ((X.setCell ⟨w.heap.size,0,none⟩ (.int .i64 ((t.length:Int)+1))).setCell ⟨w.heap.size,1,none⟩ (.slice none 0 0)):=by
  have p1:PBox (X.setCell ⟨w.heap.size,0,none⟩ (.int .i64 ((t.length:Int)+1))) w.heap.size #[.int .i64 ((t.length:Int)+1), .slice Ea en ec, .int .i64 lanes, .int .i64 room, .int .i64 queue, .int .i64 rounds, .int .i64 every, .int .i64 bag, .slice Wa ws.length wc, .int .u16 start, .slice Na nn nc]:=blk_set hP 0 _
  have p2:PBox ((X.setCell ⟨w.heap.size,0,none⟩ (.int .i64 ((t.length:Int)+1))).setCell ⟨w.heap.size,1,none⟩ (.slice none 0 0)) w.heap.size #[.int .i64 ((t.length:Int)+1), .slice none 0 0, .int .i64 lanes, .int .i64 room, .int .i64 queue, .int .i64 rounds, .int .i64 every, .int .i64 bag, .slice Wa ws.length wc, .int .u16 start, .slice Na nn nc]:=blk_set p1 1 _
  have k1:Keeps (fun k=>k=w.heap.size) X ((X.setCell ⟨w.heap.size,0,none⟩ (.int .i64 ((t.length:Int)+1))).setCell ⟨w.heap.size,1,none⟩ (.slice none 0 0)):=
   (Keeps.setCell (fun k=>k=w.heap.size) _ _ _ rfl).trans (Keeps.setCell (fun k=>k=w.heap.size) _ _ _ rfl)
  refine⟨hk0.then k1 (fun i hi h=>by omega),Nat.le_trans (Nat.le_of_eq hz0.symm) k1.size,blk_keeps k1 hZ (by omega),none,0,p2,QS.nil _ _ _,fun k h=>by cases h⟩
 clear hP hZ hk0 hz0
 generalize (X.setCell ⟨w.heap.size,0,none⟩ (.int .i64 ((t.length:Int)+1))).setCell ⟨w.heap.size,1,none⟩ (.slice none 0 0)=Y at hR0 ⊢
 clear X
 generalize hpe:(⟨lanes,room,queue,rounds,every,bag,start⟩:Nums)=p at*
 have hpe':=Lib.hid hpe
 clear hpe
 have hcells:=Lib.hid (p:=∀i,i < t.length→∃g off,A=some ⟨g,off,none⟩∧w.cell? ⟨g,off+i,none⟩=some (encI (t.getD i 0))) fun i hi=>by
  obtain⟨g,off,e,_,hc⟩:=(h.fam (Nat.le_refl _)).1.2 i hi
  exact⟨g,off,e,hc⟩
 go_loopw [7] (fun s wr=>∃i:Nat,i≤t.length∧s= .int .i64 ((i:Int)+1)∧REd w p t (.slice Wa ws.length wc) (.slice Na nn nc) i wr) (fun s _=>t.length+1 - (intOf s).toNat)
 case atStart=>exact⟨0,Nat.zero_le _,rfl,hR0⟩
 case round=>
  clear hR0
  obtain⟨i,hi,rfl,hk,hsz,hres,Eb,eb,k1,k2,k3⟩:=hrel
  by_cases hil:i < t.length
  ·have hii:(i:Int)+1 < (t.length:Int)+1:=by omega
   obtain⟨g,off,rfl,hc0⟩:=hcells.out i hil
   have hci:=hk.cell hc0 (fun h=>h)
   clear hc0
   have hes:=edgesOf_succ t i
   obtain⟨_,y1,_,_,yf⟩:=k1.at_
   generalize t.getD i 0=q at hci hes
   have hw1:IntKind.i64.wrap (i:Int)=(i:Int):=by simp[IntKind.wrap,IntKind.bits,IntKind.signed];omega
   have hi0:(0:Int)≤(i:Int):=by omega
   have hil':(i:Int) < (t.length:Int):=by omega
   have hQ':QS (wr.alloc (.cells #[encI q, .int .i64 ((i:Int)+1)] 149)).drew 149 2 (.slice Eb i eb) i (ecells (edgesOf t i)):=(k2.alloc _).drew
   have hS:Src Tryz.prog 2 34 (.slice (some ⟨wr.heap.size,0,none⟩) 1 1) 1 [encI q, .int .i64 ((i:Int)+1)] (wr.alloc (.cells #[encI q, .int .i64 ((i:Int)+1)] 149)).drew:=
    src_blk Tryz.underlying34 (e:=149) (cur:= #[encI q, .int .i64 ((i:Int)+1)]) (blk_new wr (.cells #[encI q, .int .i64 ((i:Int)+1)] 149)) rfl (by intro jj hjj';match jj,hjj' with | 0,_=>rfl | 1,_=>rfl) (by intro u hu;simp at hu;rcases hu with rfl | rfl <;>rfl)
   have hbnd:(i+1)*16≤140737488355328:=by omega
   have h16:0 < 16:=by decide
   have HB:Hid (∀w1,(wr.alloc (.cells #[encI q, .int .i64 ((i:Int)+1)] 149)).drew.grownBy w1 (Value.slice Eb i eb).ownBlock→Keeps (fun k=>(Value.slice Eb i eb).ownBlock=some k) wr w1∧
     PBox w1 w.heap.size (p.plan ((t.length:Int)+1) (.slice Eb i eb) (.slice Wa ws.length wc) (.slice Na nn nc))∧w1.cell? ⟨w.heap.size,1,none⟩=some (.slice Eb i eb)∧w1.frozen? ⟨w.heap.size,1,none⟩=false):=Lib.hid fun w1 hg=>by
    have hk:Keeps (fun k=>(Value.slice Eb i eb).ownBlock=some k) wr w1:=((Keeps.alloc _ _ _).trans (Keeps.drew _ _)).trans (Keeps.grown hg (fun i h=>h))
    have hb:=blk_keeps hk k1 (fun e=>by have:=k3 _ e;omega)
    obtain⟨_,y1,_,_,yf⟩:=PBox.at_ hb
    exact⟨hk,hb,y1,yf 1⟩
   have y1a:∀o,(wr.alloc o).cell? ⟨w.heap.size,1,none⟩=some (.slice Eb i eb):=fun o=>(Keeps.alloc (fun _=>False) wr o).cell y1 (fun h=>h)
   go_wp2_with fail
   go_region_law (refine step_append_QS rfl (.tmp 34) (.tmp 42) 34 34 rfl 149 _ 2 16 Tryz.underlying34 info_edge rfl _ i (ecells (edgesOf t i)) rfl hQ' _ 1 _ rfl hS h16 hbnd ?_;intro A1 c1 w1 hq1 hg1 ho1;obtain⟨hk1,hb1,hc1,hf1⟩:=HB.out w1 hg1)
   all_goals
    have hk2:Keeps (fun k=>k=w.heap.size) w1 (w1.setCell ⟨w.heap.size,1,none⟩ (.slice A1 (i+1) c1)):=Keeps.setCell _ _ _ _ rfl
    have ho:∀k,(Value.slice A1 (i+1) c1).ownBlock=some k→w.heap.size+2≤k:=by
     intro k hk
     rcases ho1 with h | ⟨k',h,hle⟩
     ·exact k3 k (h▸hk)
     ·rw[hk]at h;cases h;simp at hle;omega
    have hs1:=hk1.size
    have hs2:=hk2.size
    have hnew:REd w p t (.slice Wa ws.length wc) (.slice Na nn nc) (i+1) (w1.setCell ⟨w.heap.size,1,none⟩ (.slice A1 (i+1) c1)):=by
     refine⟨(hk.then hk1 (fun k hk h=>by have:=k3 _ h;omega)).then hk2 (fun k hk h=>by omega),by omega,blk_keeps hk2 (blk_keeps hk1 hres (fun h=>by have:=k3 _ h;omega)) (by omega),A1,c1,PBox.edges hb1 _, ?_,ho⟩
     rw[hes,ecells_append]
     exact hq1.keeps hk2 (fun k hv h=>by have:=ho k hv;omega)
    clear hq1 hb1 hc1 hf1 ho1 hg1 hk1 hk2 k1 k2 hQ' hS HB y1a y1 yf hes
    go_wp2_with fail
    go_roundw
    case rel=>exact⟨i+1,by omega,by simp,hnew⟩
    case measure=>simp[intOf];omega
  ·obtain rfl:i=t.length:=by omega
   have hii:¬(t.length:Int)+1 < (t.length:Int)+1:=by omega
   obtain⟨_,_,y8,_,yf⟩:=k1.at_
   have yf8:=yf 8
   clear yf
   have hsrc:=(hw.keepsF hk hk.size).src Tryz.underlying35 (one_ints ws)
   have HB:Hid (∀w1,wr.grownBy w1 (Value.slice none 0 0).ownBlock→Keeps (fun _=>False) wr w1∧
     PBox w1 w.heap.size (p.plan ((t.length:Int)+1) (.slice Eb t.length eb) (.slice Wa ws.length wc) (.slice Na nn nc))∧w1.cell? ⟨w.heap.size,8,none⟩=some (.slice Wa ws.length wc)∧w1.frozen? ⟨w.heap.size,8,none⟩=false∧w1.cell? ⟨w.heap.size,10,none⟩=some (.slice Na nn nc)∧w1.frozen? ⟨w.heap.size,10,none⟩=false):=Lib.hid fun w1 hg=>by
    have hk:Keeps (fun _=>False) wr w1:=Keeps.grown hg (fun i h=>by simp[Value.ownBlock]at h)
    have hb:=blk_keeps hk k1 (fun h=>h)
    obtain⟨_,_,y8,y10,yf⟩:=PBox.at_ hb
    exact⟨hk,hb,y8,yf 8,y10,yf 10⟩
   go_wp2_with (at_builtin;refine wpList_append_QS rfl _ _ 35 35 rfl 3 _ 1 8 Tryz.underlying35 info_int rfl (.slice none 0 0) 0 [] rfl (QS.nil _ _ _) _ ws.length (ws.map encZ) rfl hsrc (by decide) (by omega) ?_;intro A1 c1 w1 hq1 hg1 ho1;obtain⟨hk1,hb1,hc1,hf1,hc2,hf2⟩:=HB.out w1 hg1)
   simp only[Nat.zero_add,List.nil_append]at hq1 ho1 ⊢
   have ho:∀k,(Value.slice A1 ws.length c1).ownBlock=some k→w.heap.size+2≤k:=by
    intro k hk
    rcases ho1 with h | ⟨k',h,hle⟩
    ·rw[hk]at h;simp[Value.ownBlock]at h
    ·rw[hk]at h;cases h;omega
   have hL0:LayAt w p t ws t.length 0 ((w1.setCell ⟨w.heap.size,8,none⟩ (.slice A1 ws.length c1)).setCell ⟨w.heap.size,10,none⟩ (.slice none 0 0)).heap.size ((w1.setCell ⟨w.heap.size,8,none⟩ (.slice A1 ws.length c1)).setCell ⟨w.heap.size,10,none⟩ (.slice none 0 0)):=by
    have p2:=(hb1.weights (.slice A1 ws.length c1)).next (.slice none 0 0)
    have kk:Keeps (fun k=>k=w.heap.size) w1 ((w1.setCell ⟨w.heap.size,8,none⟩ (.slice A1 ws.length c1)).setCell ⟨w.heap.size,10,none⟩ (.slice none 0 0)):=
     (Keeps.setCell (fun k=>k=w.heap.size) _ _ _ rfl).trans (Keeps.setCell (fun k=>k=w.heap.size) _ _ _ rfl)
    have s1:=hk1.size
    have s2:=kk.size
    have e2:=(k2.keeps hk1 (fun _ _ h=>h)).keeps kk (fun k hv h=>by have:=k3 k hv;omega)
    have w2:=hq1.keeps kk (fun k hv h=>by have:=ho k hv;omega)
    exact⟨(hk.trans hk1).then kk (fun i hi h=>by omega),by omega,by omega,blk_keeps kk (blk_keeps hk1 hres (fun h=>h)) (by omega),Eb,eb,A1,c1,none,0,p2,e2,fun k hv=>⟨k3 k hv,e2.lt k hv⟩,w2,fun k hv=>⟨ho k hv,w2.lt k hv⟩,NextIn.nil _ _ _⟩
   clear hq1 hg1 ho1 hk1 hb1 hc1 hf1 hc2 hf2 ho k1 k2 k3 hres hk hsrc HB y8 yf8 hcells
   generalize (w1.setCell ⟨w.heap.size,8,none⟩ (.slice A1 ws.length c1)).setCell ⟨w.heap.size,10,none⟩ (.slice none 0 0)=U at hL0 ⊢
   go_loopw [9] (fun s wr=>∃v:Nat,v≤t.length+1∧s= .int .i64 (v:Int)∧LayAt w p t ws t.length v wr.heap.size wr) (fun s _=>t.length+1 - (intOf s).toNat)
   case atStart=>exact⟨0,Nat.zero_le _,rfl,hL0⟩
   case round=>
    clear hL0
    obtain⟨v,hv,rfl,hL⟩:=hrel
    by_cases hvl:v < t.length+1
    ·have hvi:(v:Int) < (t.length:Int)+1:=by omega
     have hH:=hL.size
     go_wp2_with fail
     generalize hHe:wr.heap.size=H at hL hH
     have hH2:H≤wr.heap.size:=Nat.le_of_eq hHe.symm
     clear hHe
     go_loopw [10,11] (fun l s X=>∃k:Nat,k≤t.length+1∧s= .int .i64 (k:Int)∧QS X 3 1 l k (((trowOf t v).take k).map encI)∧(∀k,l.ownBlock=some k→H≤k)∧H≤X.heap.size∧LayAt w p t ws t.length v H X) (fun _ s _=>t.length+1 - (intOf s).toNat)
     case atStart=>exact⟨0,Nat.zero_le _,rfl,QS.nil _ _ _,(fun k h=>by cases h),hH2,hL⟩
     case round=>
      clear hL hH2
      obtain⟨k,hk,rfl,hq,hb',hH2,hL⟩:=hrel
      revert hq hb'
      generalize u10=l
      intro hq hb'
      by_cases hkl:k < t.length+1
      ·have hki:(k:Int) < (t.length:Int)+1:=by omega
       have htk:(trowOf t v).take (k+1)=(trowOf t v).take k ++ [nxt t v k]:=by
        rw[List.take_succ_eq_append_getElem (by rw[rowOf_length];omega)]
        congr 2
        simp[trowOf]
       by_cases hvk:v=k
       ·obtain rfl:k=v:=hvk.symm
        rw[show nxt t k k=k from nxt_self ht h5 (by omega)]at htk
        have hq0:QS (wr.alloc (.cells #[encI k] 3)) 3 1 l k (((trowOf t k).take k).map encI):=hq.alloc _
        have hsrc:Src Tryz.prog 1 35 (.slice (some ⟨wr.heap.size,0,none⟩) 1 1) 1 [encI k] (wr.alloc (.cells #[encI k] 3)):=
         src_blk Tryz.underlying35 (blk_new _ _) rfl (by intro jj hjj';match jj,hjj' with | 0,_=>rfl) (by intro u hu;simp at hu;subst hu;rfl)
        go_wp2_with (at_builtin;refine wpList_append_QS rfl _ _ 35 35 rfl 3 _ 1 8 Tryz.underlying35 info_int rfl l k (((trowOf t k).take k).map encI) rfl hq0 _ 1 [encI k] rfl hsrc (by decide) (by omega) ?_;intro A1 c1 w1 hq1 hg1 ho1)
        go_roundw
        case rel=>
         have hk1:Keeps (fun k=>H≤k) wr w1:=(Keeps.alloc _ _ _).trans (Keeps.grown hg1 (fun k h=>hb' k h))
         have hs1:=hk1.size
         refine⟨k+1,by omega,by simp,by rw[htk,List.map_append];exact hq1,fun b hb2=> ?_,by omega,hL.calm hk1 (fun k h=>h)⟩
         rcases ho1 with h | ⟨i',h,hle⟩
         ·exact hb' b (h▸hb2)
         ·rw[hb2]at h;cases h;rw[World.size_alloc]at hle;omega
        case measure=>simp[intOf];omega
       ·have hvk':¬(v:Int)=(k:Int):=by omega
        obtain⟨hp2,hpn⟩:=nxt_other ht h5 (show v≤t.length by omega) (show k≤t.length by omega) hvk
        have c2:=HP.out v k (by omega) (by omega) wr hL.keeps
        rw[hpn]at htk
        clear hpn
        generalize pathN t v k=P at c2 hp2 htk
        have hvk2:((v:Int) != (k:Int))=true:=by rw[bne_iff_ne];exact hvk'
        go_wp2_with fail
        refine c2.mono ?_
        rintro e Y ⟨u,rfl,hqs,hkY,_⟩
        clear c2
        obtain⟨uA,uc,hsh,hu1,hu2⟩:=hqs.shape
        subst hsh
        have hLy:=hL.calm hkY (fun _ h=>h.elim)
        have hqY:=hq.keeps hkY (fun _ _ h=>h)
        have hH3:=Nat.le_trans hH2 hkY.size
        clear hL hq hkY hH2
        have hq:=hqY
        obtain⟨g,off,c',e',_,hcell,_⟩:=hqs.cell (by omega)
        injection e' with e1 _ e2
        subst e1;subst e2
        have hmx:(P.length:Int)≤9223372036854775807:=by simp only[maxLen]at hu2;omega
        have h1:=hcell 1 (encI (P.getD 1 0)) (by rw[List.getElem?_map,List.getD_eq_getElem?_getD,List.getElem?_eq_getElem (by omega)];rfl)
        have hl3:(1:Int) < (P.length:Int):=by omega
        clear hcell hqs
        generalize P.getD 1 0=q at h1 htk
        generalize P.length=pl at*
        have hq0:QS (Y.alloc (.cells #[encI q] 3)) 3 1 l k (((trowOf t v).take k).map encI):=hq.alloc _
        have hsrc:Src Tryz.prog 1 35 (.slice (some ⟨Y.heap.size,0,none⟩) 1 1) 1 [encI q] (Y.alloc (.cells #[encI q] 3)):=
         src_blk Tryz.underlying35 (blk_new _ _) rfl (by intro jj hjj';match jj,hjj' with | 0,_=>rfl) (by intro u hu;simp at hu;subst hu;rfl)
        go_wp2_with (at_builtin;refine wpList_append_QS rfl _ _ 35 35 rfl 3 _ 1 8 Tryz.underlying35 info_int rfl l k (((trowOf t v).take k).map encI) rfl hq0 _ 1 [encI q] rfl hsrc (by decide) (by omega) ?_;intro A1 c1 w1 hq1 hg1 ho1)
        go_roundw
        case rel=>
         have hk1:Keeps (fun k=>H≤k) Y w1:=(Keeps.alloc _ _ _).trans (Keeps.grown hg1 (fun k h=>hb' k h))
         have hs1:=hk1.size
         refine⟨k+1,by omega,by simp,by rw[htk,List.map_append];exact hq1,fun b hb2=> ?_,by omega,hLy.calm hk1 (fun k h=>h)⟩
         rcases ho1 with h | ⟨i',h,hle⟩
         ·exact hb' b (h▸hb2)
         ·rw[hb2]at h;cases h;rw[World.size_alloc]at hle;omega
        case measure=>simp[intOf];omega
      ·obtain rfl:k=t.length+1:=by omega
       have hki:¬((t.length+1:Nat):Int) < (t.length:Int)+1:=by omega
       have htake:(trowOf t v).take (t.length+1)=trowOf t v:=List.take_of_length_le (by rw[rowOf_length];exact Nat.le_refl _)
       rw[htake]at hq
       have hrs:=rowsOf_succ t v
       have hrl:=rowOf_length t v
       obtain⟨lA,lc,hsh,_,_⟩:=hq.shape
       subst hsh
       have hrow:QS wr 3 1 (.slice lA (t.length+1) lc) (trowOf t v).length ((trowOf t v).map encI):=by rw[hrl];exact hq
       clear hq htake
       generalize trowOf t v=ro at hrow hrs hrl
       obtain⟨g1,g2,g3,g4,Eb,eb,Wb,wb,Nb,nb,k1,k2,k3,k4,k5,vs,k6,k7,k8,k9⟩:=hL
       rw[rowsOf_length]at k6
       obtain⟨_,_,_,y1,yf⟩:=k1.at_
       have hq0:QS (wr.alloc (.cells #[.slice lA (t.length+1) lc] 35)) 35 1 (.slice Nb v nb) v vs:=k6.alloc _
       have hsrc:Src Tryz.prog 1 36 (.slice (some ⟨wr.heap.size,0,none⟩) 1 1) 1 [.slice lA (t.length+1) lc] (wr.alloc (.cells #[.slice lA (t.length+1) lc] 35)):=
        src_blk Tryz.underlying36 (blk_new _ _) rfl (by intro jj hjj';match jj,hjj' with | 0,_=>rfl) (by intro u hu;simp at hu;subst hu;rfl)
       have HB:Hid (∀w1,(wr.alloc (.cells #[.slice lA (t.length+1) lc] 35)).grownBy w1 (Value.slice Nb v nb).ownBlock→Keeps (fun k=>(Value.slice Nb v nb).ownBlock=some k) wr w1∧
         PBox w1 w.heap.size (p.plan ((t.length:Int)+1) (.slice Eb t.length eb) (.slice Wb ws.length wb) (.slice Nb v nb))∧w1.cell? ⟨w.heap.size,10,none⟩=some (.slice Nb v nb)∧w1.frozen? ⟨w.heap.size,10,none⟩=false):=Lib.hid fun w1 hg=>by
        have hk:Keeps (fun k=>(Value.slice Nb v nb).ownBlock=some k) wr w1:=(Keeps.alloc _ _ _).trans (Keeps.grown hg (fun i h=>h))
        have hb:=blk_keeps hk k1 (fun e=>by have:=k7 _ e;omega)
        obtain⟨_,_,_,y1,yf⟩:=PBox.at_ hb
        exact⟨hk,hb,y1,yf 10⟩
       go_wp2_with (at_builtin;refine wpList_append_QS rfl _ _ 36 36 rfl 35 _ 1 24 Tryz.underlying36 info_ints rfl (.slice Nb v nb) v vs rfl hq0 _ 1 [.slice lA (t.length+1) lc] rfl hsrc (by decide) (by omega) ?_;intro A1 c1 w1 hq1 hg1 ho1;obtain⟨hk1,hb1,hc1,hf1⟩:=HB.out w1 hg1)
       have hk2:Keeps (fun k=>k=w.heap.size) w1 (w1.setCell ⟨w.heap.size,10,none⟩ (.slice A1 (v+1) c1)):=Keeps.setCell _ _ _ _ rfl
       have ho:∀k,(Value.slice A1 (v+1) c1).ownBlock=some k→w.heap.size+2≤k:=by
        intro k hk
        rcases ho1 with h | ⟨k',h,hle⟩
        ·exact(k7 k (h▸hk)).1
        ·rw[hk]at h;cases h;rw[World.size_alloc]at hle;omega
       have hs1:=hk1.size
       have hs2:=hk2.size
       have hke:=k6.ne k2 (by decide)
       have hkw:=k6.ne k4 (by decide)
       have hkr:=k6.ne hrow (by decide)
       have hnew:LayAt w p t ws t.length (v+1) (w1.setCell ⟨w.heap.size,10,none⟩ (.slice A1 (v+1) c1)).heap.size (w1.setCell ⟨w.heap.size,10,none⟩ (.slice A1 (v+1) c1)):=by
        refine⟨(g1.then hk1 (fun k hk h=>by have:=k7 _ h;omega)).then hk2 (fun k hk h=>by omega),by omega,by omega,blk_keeps hk2 (blk_keeps hk1 g4 (fun h=>by have:=k7 _ h;omega)) (by omega),Eb,eb,Wb,wb,A1,c1,PBox.next hb1 _,
         (k2.keeps hk1 (fun k hv h=>hke k h hv)).keeps hk2 (fun k hv h=>by have:=k3 k hv;omega),fun k hv=>⟨(k3 k hv).1,by have:=(k3 k hv).2;omega⟩,
         (k4.keeps hk1 (fun k hv h=>hkw k h hv)).keeps hk2 (fun k hv h=>by have:=k5 k hv;omega),fun k hv=>⟨(k5 k hv).1,by have:=(k5 k hv).2;omega⟩,
         vs ++ [.slice lA (t.length+1) lc], ?_, ?_, ?_, ?_⟩
        ·rw[rowsOf_length];exact hq1.keeps hk2 (fun k hv h=>by have:=ho k hv;omega)
        ·intro k hv;exact⟨ho k hv,Nat.lt_of_lt_of_le (hq1.lt k hv) hs2⟩
        ·intro u hu
         rcases List.mem_append.1 hu with h | h
         ·exact k8 u h
         ·rw[List.mem_singleton.1 h];rfl
        ·intro i u r hu hr
         have hvl2:vs.length=v:=by have:=k6.1;omega
         rw[hrs]at hr
         by_cases hi:i < v
         ·rw[List.getElem?_append_left (by omega)]at hu
          rw[List.getElem?_append_left (by rw[rowsOf_length];exact hi)]at hr
          obtain⟨q1,q2⟩:=k9 i u r hu hr
          refine⟨(q1.keeps hk1 (fun k hv h=>(k6.ne q1 (by decide)) k h hv)).keeps hk2 (fun k hv h=>by have:=q2 k hv;omega),fun k hv=>⟨(q2 k hv).1,by have:=(q2 k hv).2;omega⟩⟩
         ·rw[List.getElem?_append_right (by omega)]at hu
          rw[List.getElem?_append_right (by rw[rowsOf_length];omega)]at hr
          obtain⟨hi0,rfl⟩:i - vs.length=0∧Value.slice lA (t.length+1) lc=u:=by
           cases hd:i - vs.length with
           | zero=>rw[hd]at hu;exact⟨rfl,by simpa using hu⟩
           | succ k=>rw[hd]at hu;simp at hu
          have hr':ro=r:=by
           rw[rowsOf_length,show i - v=0 by omega]at hr;simpa using hr
          subst hr'
          refine⟨(hrow.keeps hk1 (fun k hv h=>hkr k h hv)).keeps hk2 (fun k hv h=>by have:=hb' k hv;omega),fun k hv=> ?_⟩
          have h1:=hb' k hv
          have h2:=hrow.lt k hv
          exact⟨by omega,by omega⟩
       clear hq1 hb1 hc1 hf1 ho1 hg1 hk1 hk2 k1 k2 k4 k6 k9 hrow hrs hq0 hsrc HB
       go_wp2_with fail
       go_roundw
       case rel=>exact⟨v+1,by omega,by simp,hnew⟩
       case measure=>simp[intOf];omega
    ·obtain rfl:v=t.length+1:=by omega
     have hvi:¬((t.length+1:Nat):Int) < (t.length:Int)+1:=by omega
     obtain⟨g1,g2,g3,g4,Eb,eb,Wb,wb,Nb,nb,k1,k2,k3,k4,k5,k6⟩:=hL
     obtain rfl:=hpe'.out
     obtain⟨x0,x1,x2,x3,x4,x5,x6,x7,x8,x9,x10,xf⟩:=PBox.all k1
     obtain⟨z0,z1,z2,z3,z4,z5,z6,z7,z8,z9,z10,zf⟩:=PBox.all g4
     go_wp2_with fail
     obtain⟨hV,hkV⟩:=set11 g4 (.int .i64 ((t.length:Int)+1)) (.slice Eb t.length eb) (.int .i64 lanes) (.int .i64 room) (.int .i64 queue) (.int .i64 rounds) (.int .i64 every) (.int .i64 bag) (.slice Wb ws.length wb) (.int .u16 start) (.slice Nb (t.length+1) nb)
     obtain⟨x0,x1,x2,x3,x4,x5,x6,x7,x8,x9,x10,xf⟩:=PBox.all hV
     refine bodyPost_ret (v:= .tuple #[.agg #[.int .i64 ((t.length:Int)+1), .slice Eb t.length eb, .int .i64 lanes, .int .i64 room, .int .i64 queue, .int .i64 rounds, .int .i64 every, .int .i64 bag, .slice Wb ws.length wb, .int .u16 start, .slice Nb (t.length+1) nb], .int .i64 0]) ?_ rfl ?_
     ·generalize World.setCell _ _ _=V at x0 x1 x2 x3 x4 x5 x6 x7 x8 x9 x10 ⊢
      simp[results,Tryz.results37,go_sem,x0,x1,x2,x3,x4,x5,x6,x7,x8,x9,x10]
     ·exact⟨Eb,eb,Wb,wb,Nb,nb,rfl,k2.keeps hkV (fun k hv h=>by have:=k3 k hv;omega),fun k hv=>by have:=k3 k hv;omega,k4.keeps hkV (fun k hv h=>by have:=k5 k hv;omega),fun k hv=>by have:=k5 k hv;omega,
       (k6.keeps hkV (fun k h h1 h2=>by omega)).is (by omega),g1.then hkV (fun k h h1=>by omega)⟩
end Go.Proofs.YtebnflpanfmicaaGreatDoor
namespace Go.Proofs.YtebnflpanfmicaaGreatDoor
open Go.RowKit
theorem ofL_rightS (zs:List Nat):rightI ((ofL zs).map Int.ofNat)=true:=by
 obtain⟨ht,_,h5⟩:=ofL_tree zs
 rw[tright_yes (fun j h=>by
  rw[List.getElem_map]
  have:=ht j (by simpa using h)
  exact⟨Int.natCast_nonneg _,Int.ofNat_le.2 this⟩)]
 exact decide_eq_true (by rw[List.length_map];omega)
theorem make_withinS (rm mr:Nat) (st n:Int) (h:2≤n∧n≤6):Within (makeNumsS rm mr st) n:=by
 unfold makeNumsS makeNums
 exact⟨h,by simp only;omega,by simp only;omega,by simp only;omega,by simp only;omega,by simp only;omega,by simp only;omega⟩
theorem makeW_goodS (mr i:Nat):∀x∈makeW mr i,1≤x∧x≤5:=by
 intro x hx
 obtain⟨k,_,rfl⟩:=List.mem_map.1 hx
 have:=Nat.mod_lt (k+mr) (show 5 > 0 by decide)
 omega
set_option maxRecDepth 100000 in
set_option maxHeartbeats 8000000 in
theorem plan16_runs (v0:Value) (zs:List Nat) (hz:∀x∈zs,x≤255) (rm mr:Nat) (hrm:rm≤255) (hmr:mr≤255) (st:Int) (hst:0≤st∧st < 65536) (w:World) (hR:Reads w w.heap.size 1 v0 zs.length (zs.map encU8)):
  Calls Tryz.prog 13 #[v0, .int .u8 rm, .int .u8 mr, .int .u16 st] w fun e w'=>∃e1 wt1 nx1,e= .returned (planV (makeNumsS rm mr st) (ofL zs) e1 wt1 nx1)∧
   PlanS w' (fun k=>w.heap.size≤k∧k < w'.heap.size) (makeNumsS rm mr st) (ofL zs) (makeW mr (1+mr % 3)) e1 wt1 nx1∧Keeps (fun _=>False) w w':=by
 obtain⟨ht,hp,h5⟩:=ofL_tree zs
 have hright:=ofL_rightS zs
 have hk0:Keeps (fun _=>False) w (w.alloc (.cells #[.int .i64 0, .slice none 0 0, .int .i64 0, .int .i64 0, .int .i64 0, .int .i64 0, .int .i64 0, .int .i64 0, .slice none 0 0, .int .u16 0, .slice none 0 0] 38)):=Keeps.alloc _ _ _
 have hb:PBox (w.alloc (.cells #[.int .i64 0, .slice none 0 0, .int .i64 0, .int .i64 0, .int .i64 0, .int .i64 0, .int .i64 0, .int .i64 0, .slice none 0 0, .int .u16 0, .slice none 0 0] 38)) w.heap.size #[.int .i64 0, .slice none 0 0, .int .i64 0, .int .i64 0, .int .i64 0, .int .i64 0, .int .i64 0, .int .i64 0, .slice none 0 0, .int .u16 0, .slice none 0 0]:=blk_new w _
 have hwith:=make_withinS rm mr st (((ofL zs).length+1:Nat):Int) (by omega)
 have hgood:=makeW_goodS mr (1+mr % 3)
 have hwl:=makeW_length mr (1+mr % 3)
 have hlan:(makeNumsS rm mr st).lanes=((1+mr % 3:Nat):Int):=rfl
 have HMK:=Lib.hid (p:=∀U,_) fun U=>makeS_calls rm mr hrm hmr st hst U
 have HOF:=Lib.hid (p:=∀U,Keeps (fun _=>False) w U→_) fun U hU=>of_calls v0 zs U (hR.keepsF hU hU.size) hz
 have hL3:1+mr % 3≤3:=by omega
 have hL0:1≤1+mr % 3:=by omega
 unfold MadeS at HMK
 generalize makeW mr (1+mr % 3)=ws at*
 generalize 1+mr % 3=L at*
 generalize makeNumsS rm mr st=p at*
 generalize ofL zs=t at*
 obtain⟨lanes,room,queue,rounds,every,bag,start⟩:=p
 simp only at hlan
 unfold planV Nums.plan
 unfold Nums.plan at HMK
 have HK0:=Lib.hid hk0
 have HB:=Lib.hid hb
 have HFACT:=Lib.hid (And.intro ht (And.intro hp (And.intro h5 (And.intro hright (And.intro hwith (And.intro hgood (And.intro hwl hlan)))))))
 clear hk0 hb hR hz ht hp h5 hright hwith hgood hwl hlan
 go_enter Tryz.func13,Tryz.ntmps13
 go_wp2_with fail
 generalize w.alloc (.cells #[.int .i64 0, .slice none 0 0, .int .i64 0, .int .i64 0, .int .i64 0, .int .i64 0, .int .i64 0, .int .i64 0, .slice none 0 0, .int .u16 0, .slice none 0 0] 38)=X at*
 refine(HMK.out X).mono ?_
 rintro e U ⟨Ea,en,ec,Wa,wc,Na,nc,rfl,hw,hU⟩
 have HW:=Lib.hid hw
 have HU:=Lib.hid (HK0.out.trans hU)
 have HBU:=Lib.hid (show PBox U w.heap.size _ from blk_keeps hU HB.out (fun h=>h))
 clear hw hU HMK HB
 go_wp2_with fail
 refine(HOF.out U HU.out).mono ?_
 rintro e V ⟨u,rfl,hu,hV,hown⟩
 obtain⟨uA,uc,rfl,_,_⟩:=hu.shape
 have hml:(ws.map Int.ofNat).length=L:=by rw[List.length_map];exact HFACT.out.2.2.2.2.2.2.1
 have hwV:=HW.out.keeps hV (fun _ _ h=>h)
 have hrd:Reads V V.heap.size 1 (.slice Wa (ws.map Int.ofNat).length wc) (ws.map Int.ofNat).length ((ws.map Int.ofNat).map encZ):=by rw[hml,←tencN];exact hwV.reads
 have cl:=rlay_yes ⟨lanes,room,queue,rounds,every,bag,start⟩ 2 Ea Wa Na en ec wc 2 nc uA uc t (ws.map Int.ofNat) V HFACT.out.1 HFACT.out.2.1 HFACT.out.2.2.1 hu.reads hrd (by rw[hml];omega) HFACT.out.2.2.2.1
 unfold RLaid at cl
 rw[hml]at cl
 unfold Nums.plan at cl
 have CL:=Lib.hid cl
 have HV:=Lib.hid (HU.out.trans hV)
 have HBV:=Lib.hid (show PBox V w.heap.size _ from blk_keeps hV HBU.out (fun h=>h))
 have HML:=Lib.hid hml
 clear hu hV hown hml hwV hrd cl HU HBU HOF HW
 go_wp2_with fail
 refine CL.out.mono ?_
 rintro e Z ⟨Ea2,ec2,Wa2,wc2,Na2,nc2,rfl,q1,q2,q3,q4,q5,hZ⟩
 have HQ:=Lib.hid (And.intro q1 (And.intro q2 (And.intro q3 (And.intro q4 q5))))
 have HZ:=Lib.hid (HV.out.trans hZ)
 have HBZ:=Lib.hid (show PBox Z w.heap.size _ from blk_keeps hZ HBV.out (fun h=>h))
 have HSZ:=Lib.hid (And.intro (blk_lt HBV.out) hZ.size)
 clear q1 q2 q3 q4 q5 hZ CL HV HBV
 have hkA:Keeps (fun _=>False) Z (Z.alloc (.cells #[.int .i64 ((t.length:Int)+1), .slice Ea2 t.length ec2, .int .i64 lanes, .int .i64 room, .int .i64 queue, .int .i64 rounds, .int .i64 every, .int .i64 bag, .slice Wa2 L wc2, .int .u16 start, .slice Na2 (t.length+1) nc2] 38)):=Keeps.alloc _ _ _
 have hbA:PBox (Z.alloc (.cells #[.int .i64 ((t.length:Int)+1), .slice Ea2 t.length ec2, .int .i64 lanes, .int .i64 room, .int .i64 queue, .int .i64 rounds, .int .i64 every, .int .i64 bag, .slice Wa2 L wc2, .int .u16 start, .slice Na2 (t.length+1) nc2] 38)) w.heap.size _:=blk_keeps hkA HBZ.out (fun h=>h)
 have hbN:PBox (Z.alloc (.cells #[.int .i64 ((t.length:Int)+1), .slice Ea2 t.length ec2, .int .i64 lanes, .int .i64 room, .int .i64 queue, .int .i64 rounds, .int .i64 every, .int .i64 bag, .slice Wa2 L wc2, .int .u16 start, .slice Na2 (t.length+1) nc2] 38)) Z.heap.size _:=blk_new Z (.cells #[.int .i64 ((t.length:Int)+1), .slice Ea2 t.length ec2, .int .i64 lanes, .int .i64 room, .int .i64 queue, .int .i64 rounds, .int .i64 every, .int .i64 bag, .slice Wa2 L wc2, .int .u16 start, .slice Na2 (t.length+1) nc2] 38)
 obtain⟨z0,z1,z2,z3,z4,z5,z6,z7,z8,z9,z10,zf⟩:=PBox.all hbA
 obtain⟨y0,y1,y2,y3,y4,y5,y6,y7,y8,y9,y10,yf⟩:=PBox.all hbN
 have HKA:=Lib.hid hkA
 have HBA:=Lib.hid hbA
 clear hkA hbA hbN yf
 go_wp2_with fail
 generalize (Z.alloc (.cells #[.int .i64 ((t.length:Int)+1), .slice Ea2 t.length ec2, .int .i64 lanes, .int .i64 room, .int .i64 queue, .int .i64 rounds, .int .i64 every, .int .i64 bag, .slice Wa2 L wc2, .int .u16 start, .slice Na2 (t.length+1) nc2] 38))=Y at*
 obtain⟨hV,hkV⟩:=set11 HBA.out (.int .i64 ((t.length:Int)+1)) (.slice Ea2 t.length ec2) (.int .i64 lanes) (.int .i64 room) (.int .i64 queue) (.int .i64 rounds) (.int .i64 every) (.int .i64 bag) (.slice Wa2 L wc2) (.int .u16 start) (.slice Na2 (t.length+1) nc2)
 obtain⟨x0,xe1,x2,x3,x4,x5,x6,x7,x8,x9,x10,xf⟩:=PBox.all hV
 refine bodyPost_ret (v:= .agg #[.int .i64 ((t.length:Int)+1), .slice Ea2 t.length ec2, .int .i64 lanes, .int .i64 room, .int .i64 queue, .int .i64 rounds, .int .i64 every, .int .i64 bag, .slice Wa2 L wc2, .int .u16 start, .slice Na2 (t.length+1) nc2]) ?_ rfl ?_
 ·generalize World.setCell _ _ _=V2 at x0 xe1 x2 x3 x4 x5 x6 x7 x8 x9 x10 ⊢
  simp[results,Tryz.results13,go_sem,x0,xe1,x2,x3,x4,x5,x6,x7,x8,x9,x10]
 ·clear x0 xe1 x2 x3 x4 x5 x6 x7 x8 x9 x10 xf z0 z1 z2 z3 z4 z5 z6 z7 z8 z9 z10 zf y0 y1 y2 y3 y4 y5 y6 y7 y8 y9 y10 hV
  obtain⟨f1,f2,f3,f4,f5,f6,f7,f8⟩:=HFACT.out
  obtain⟨q1,q2,q3,q4,q5⟩:=HQ.out
  obtain⟨s1,s2⟩:=HSZ.out
  have s3:=HKA.out.size
  have s4:=hkV.size
  have s5:=HZ.out.size
  have hkZ:=(HKA.out.mono (G:=fun k=>k=w.heap.size) (fun _ _ h=>h.elim)).trans hkV
  have hml:=HML.out
  obtain⟨vs,n1,n2,n3,n4⟩:=q5
  rw[rowsOf_length]at n1
  have hvl:vs.length=t.length+1:=by have:=n1.1;omega
  refine⟨_,_,_,rfl,⟨q1.keeps hkZ (fun k e h=>by have:=q2 k e;omega), ?_,⟨vs,n1.keeps hkZ (fun k e h=>by have:=n2 k e;omega),hvl,fun i u hu=> ?_,fun u hu k e=> ?_⟩,fun k e=> ?_,fun k e=> ?_,fun k e=> ?_,f1,f2,f3,f5, ?_,f6,fun k hk=>hk.2⟩,HZ.out.then hkZ (fun i hi h=>by omega)⟩
  ·rw[←tencN]at q3
   have q3':=q3.keeps hkZ (fun k e h=>by have:=q4 k e;omega)
   rw[←f7]at q3' ⊢
   exact q3'
  ·have hi:i < t.length+1:=by have:=(List.getElem?_eq_some_iff.1 hu).1;omega
   have h1:(rowsOf t (t.length+1))[i]? =some (trowOf t i):=by unfold rowsOf;rw[List.getElem?_map,List.getElem?_range hi];rfl
   obtain⟨h2,h3⟩:=n4 i u _ hu h1
   exact h2.keeps hkZ (fun k e h=>by have:=h3 k e;omega)
  ·obtain⟨i,hi,rfl⟩:=List.getElem_of_mem hu
   have h1:(rowsOf t (t.length+1))[i]? =some (trowOf t i):=by unfold rowsOf;rw[List.getElem?_map,List.getElem?_range (by omega)];rfl
   obtain⟨h2,h3⟩:=n4 i _ _ (List.getElem?_eq_getElem hi) h1
   have:=h3 k e
   have:=h2.lt k e
   exact⟨by omega,by omega⟩
  ·have:=q2 k e
   have:=q1.lt k e
   exact⟨by omega,by omega⟩
  ·have:=q4 k e
   have:=q3.lt k e
   exact⟨by omega,by omega⟩
  ·have:=n2 k e
   have:=n1.lt k e
   exact⟨by omega,by omega⟩
  ·rw[f7];exact f8
end Go.Proofs.YtebnflpanfmicaaGreatDoor
