/-
  Part 36 of the proof: TopMake, TreeRefPath, TreeRefTop, TreeRLay.
-/
import Derived.Test.YtebnflpanfmicaaGreatDoorPkAI
import Derived.Test.YtebnflpanfmicaaGreatDoorPkAJ
import Derived.BigQuiet
set_option linter.unusedVariables false
set_option linter.unusedSimpArgs false
set_option linter.unusedSectionVars false
namespace Go.Proofs.YtebnflpanfmicaaGreatDoor
open Go.RowKit
def makeNumsS (rm mr:Nat) (st:Int):Nums:={makeNums rm mr with start:=st}
structure MkAt (w:World) (p:Nums) (mr i v lim:Nat) (ev:Value) (X:World):Prop where
 keeps:Keeps (fun _=>False) w X
 size:w.heap.size+2≤X.heap.size
 lim1:w.heap.size+2≤lim
 res:PBox X w.heap.size (Nums.zero.plan 0 (.slice none 0 0) (.slice none 0 0) (.slice none 0 0))
 box:∃Wa wc Na nc vs,PBox X (w.heap.size+1) (p.plan 2 ev (.slice Wa i wc) (.slice Na v nc))∧
  QS X 3 1 (.slice Wa i wc) i ((makeW mr i).map encI)∧(∀k,(Value.slice Wa i wc).ownBlock=some k→w.heap.size+2≤k∧k < lim)∧
  QS X 35 1 (.slice Na v nc) v vs∧(∀k,(Value.slice Na v nc).ownBlock=some k→w.heap.size+2≤k∧k < lim)
theorem MkAt.calm {w:World} {p:Nums} {mr i v lim:Nat} {ev:Value} {X Y:World} {F:Nat→Prop} (h:MkAt w p mr i v lim ev X) (hk:Keeps F X Y) (hF:∀k,F k→lim≤k):MkAt w p mr i v lim ev Y:=by
 obtain⟨h1,h2,h2',h3,Wa,wc,Na,nc,vs,h4,h5,h6,h7,h8⟩:=h
 exact⟨h1.then hk (fun i hi h=>by have:=hF _ h;omega),Nat.le_trans h2 hk.size,h2',blk_keeps hk h3 (fun h=>by have:=hF _ h;omega),Wa,wc,Na,nc,vs,blk_keeps hk h4 (fun h=>by have:=hF _ h;omega),
  h5.keeps hk (fun k hv h=>by have:=hF _ h;have:=h6 k hv;omega),h6,h7.keeps hk (fun k hv h=>by have:=hF _ h;have:=h8 k hv;omega),h8⟩
theorem MkAt.now {w:World} {p:Nums} {mr i v lim:Nat} {ev:Value} {X:World} (h:MkAt w p mr i v lim ev X):MkAt w p mr i v X.heap.size ev X:=by
 obtain⟨h1,h2,h2',h3,Wa,wc,Na,nc,vs,h4,h5,h6,h7,h8⟩:=h
 exact⟨h1,h2,h2,h3,Wa,wc,Na,nc,vs,h4,h5,fun k hv=>⟨(h6 k hv).1,h5.lt k hv⟩,h7,fun k hv=>⟨(h8 k hv).1,h7.lt k hv⟩⟩
theorem MkAt.edge {w:World} {p:Nums} {mr i v lim:Nat} {ev:Value} {X Y:World} (h:MkAt w p mr i v lim ev X) (hl:lim≤X.heap.size) (hk:Keeps (fun _=>False) X Y) (ev':Value):
  MkAt w p mr i v (Y.setCell ⟨w.heap.size+1,1,none⟩ ev').heap.size ev' (Y.setCell ⟨w.heap.size+1,1,none⟩ ev'):=by
 obtain⟨h1,h2,h2',h3,Wa,wc,Na,nc,vs,h4,h5,h6,h7,h8⟩:=h.calm hk (fun _ h=>h.elim)
 have hk2:Keeps (fun k=>k=w.heap.size+1) Y (Y.setCell ⟨w.heap.size+1,1,none⟩ ev'):=Keeps.setCell _ _ _ _ rfl
 have hs1:=hk.size
 have hs2:=hk2.size
 exact⟨h1.then hk2 (fun k hk h=>by omega),by omega,by omega,blk_keeps hk2 h3 (by omega),Wa,wc,Na,nc,vs,PBox.edges h4 ev',
  h5.keeps hk2 (fun k hv h=>by have:=h6 k hv;omega),fun k hv=>⟨(h6 k hv).1,by have:=(h6 k hv).2;omega⟩,h7.keeps hk2 (fun k hv h=>by have:=h8 k hv;omega),fun k hv=>⟨(h8 k hv).1,by have:=(h8 k hv).2;omega⟩⟩
def MadeS (W w':World) (rm mr:Nat) (st:Int) (e:Ending):Prop:=
 ∃Ea en ec Wa wc Na nc,e= .returned (.agg ((makeNumsS rm mr st).plan 2 (.slice Ea en ec) (.slice Wa (1+mr % 3) wc) (.slice Na 2 nc)))∧
  QS w' 3 1 (.slice Wa (1+mr % 3) wc) (1+mr % 3) ((makeW mr (1+mr % 3)).map encI)∧Keeps (fun _=>False) W w'
set_option maxRecDepth 100000 in
set_option maxHeartbeats 8000000 in
theorem makeS_calls (rm mr:Nat) (h2:rm≤255) (h3:mr≤255) (st:Int) (hst:0≤st∧st < 65536) (w:World):
  Calls Tryz.prog 38 #[.int .u8 0, .int .u8 rm, .int .u8 mr, .int .u16 st, .slice none 0 0] w fun e w'=>MadeS w w' rm mr st e:=by
 obtain⟨ln,e2,d2⟩:∃n:Nat,(1:Int)+(mr:Int) % 3=(n:Int)∧1+mr % 3=n:=⟨_,by omega,rfl⟩
 obtain⟨ro,e3,d3⟩:∃n:Nat,(1:Int)+(rm:Int) % 8=(n:Int)∧1+rm % 8=n:=⟨_,by omega,rfl⟩
 obtain⟨qu,e4,d4⟩:∃n:Nat,(1:Int)+(rm:Int) / 8 % 8=(n:Int)∧1+rm / 8 % 8=n:=⟨_,by omega,rfl⟩
 obtain⟨rn,e5,d5⟩:∃n:Nat,(1:Int)+(mr:Int) / 3 % 4=(n:Int)∧1+mr / 3 % 4=n:=⟨_,by omega,rfl⟩
 obtain⟨ev,e6,d6⟩:∃n:Nat,(1:Int)+(mr:Int) / 12 % 8=(n:Int)∧1+mr / 12 % 8=n:=⟨_,by omega,rfl⟩
 have hl3:ln≤3:=by omega
 unfold MadeS makeNumsS makeNums
 rw[d2,d3,d4,d5,d6]
 clear d2 d3 d4 d5 d6
 go_enter Tryz.func38,Tryz.ntmps38
 go_wp2_with fail
 clear e2 e3 e4 e5 e6
 obtain⟨hZ,hP,hk0,hz0⟩:=two_boxes w #[.int .i64 0, .slice none 0 0, .int .i64 0, .int .i64 0, .int .i64 0, .int .i64 0, .int .i64 0, .int .i64 0, .slice none 0 0, .int .u16 0, .slice none 0 0] #[.int .i64 2, .slice none 0 0, .int .i64 (ln:Int), .int .i64 (ro:Int), .int .i64 (qu:Int), .int .i64 (rn:Int), .int .i64 (ev:Int), .int .i64 64, .slice none 0 0, .int .u16 st, .slice none 0 0] 38
 generalize (w.alloc (.cells #[.int .i64 0, .slice none 0 0, .int .i64 0, .int .i64 0, .int .i64 0, .int .i64 0, .int .i64 0, .int .i64 0, .slice none 0 0, .int .u16 0, .slice none 0 0] 38)).alloc (.cells #[.int .i64 2, .slice none 0 0, .int .i64 (ln:Int), .int .i64 (ro:Int), .int .i64 (qu:Int), .int .i64 (rn:Int), .int .i64 (ev:Int), .int .i64 64, .slice none 0 0, .int .u16 st, .slice none 0 0] 38)=X at hP hZ hk0 hz0 ⊢
 have hL0:MkAt w ⟨ln,ro,qu,rn,ev,64,st⟩ mr 0 0 X.heap.size (.slice none 0 0) X:=by
  refine⟨hk0,by omega,by omega,hZ,none,0,none,0,[],hP,QS.nil _ _ _, ?_,QS.nil _ _ _, ?_⟩
  ·intro k h;cases h
  ·intro k h;cases h
 clear hZ hP hk0 hz0
 generalize hpe:(⟨ln,ro,qu,rn,ev,64,st⟩:Nums)=p at hL0
 have hpl:Hid ((⟨ln,ro,qu,rn,ev,64,st⟩:Nums)=p):=Lib.hid hpe
 have hpl2:p.lanes=(ln:Int):=by rw[←hpe]
 have hPl:∀X b (nn:Int) e wt nx,PBox X b (p.plan nn e wt nx)→X.cell? ⟨b,2,none⟩=some (.int .i64 (ln:Int)):=fun X b nn e wt nx h=>by rw[blk_cell h,←hpl2];rfl
 clear hpe hpl2
 go_loopw [12] (fun s wr=>∃i:Nat,i≤ln∧s= .int .i64 (i:Int)∧MkAt w p mr i 0 wr.heap.size (.slice none 0 0) wr) (fun s _=>ln - (intOf s).toNat)
 case atStart=>exact⟨0,Nat.zero_le _,rfl,hL0⟩
 case round=>
  clear hL0
  obtain⟨i,hi,rfl,g1,g2,g3,g4,Wb,wb,Nb,nb,vs,k1,k2,k3,k4,k5⟩:=hrel
  obtain⟨y0,y1,y8,y10,yf⟩:=k1.at_
  have y2:=hPl _ _ _ _ _ _ k1
  by_cases hil:i < ln
  ·have hii:(i:Int) < (ln:Int):=by omega
   have hws:=makeW_succ mr i
   obtain⟨q,hq,hq'⟩:∃q:Nat,(1:Int)+((i:Int)+(mr:Int)) % 5=(q:Int)∧1+(i+mr) % 5=q:=⟨_,by omega,rfl⟩
   rw[hq']at hws
   clear hq'
   have hq0:QS (wr.alloc (.cells #[encI q] 3)) 3 1 (.slice Wb i wb) i ((makeW mr i).map encI):=k2.alloc _
   have hsrc:Src Tryz.prog 1 35 (.slice (some ⟨wr.heap.size,0,none⟩) 1 1) 1 [encI q] (wr.alloc (.cells #[encI q] 3)):=
    src_blk Tryz.underlying35 (blk_new _ _) rfl (by intro jj hjj';match jj,hjj' with | 0,_=>rfl) (by intro u hu;simp at hu;subst hu;rfl)
   have HB:Hid (∀w1,(wr.alloc (.cells #[encI q] 3)).grownBy w1 (Value.slice Wb i wb).ownBlock→Keeps (fun k=>(Value.slice Wb i wb).ownBlock=some k) wr w1∧
     PBox w1 (w.heap.size+1) (p.plan 2 (.slice none 0 0) (.slice Wb i wb) (.slice Nb 0 nb))∧w1.cell? ⟨w.heap.size+1,8,none⟩=some (.slice Wb i wb)∧w1.frozen? ⟨w.heap.size+1,8,none⟩=false):=Lib.hid fun w1 hg=>by
    have hk:Keeps (fun k=>(Value.slice Wb i wb).ownBlock=some k) wr w1:=(Keeps.alloc _ _ _).trans (Keeps.grown hg (fun i h=>h))
    have hb:=blk_keeps hk k1 (fun e=>by have:=k3 _ e;omega)
    obtain⟨_,_,y8,_,yf⟩:=PBox.at_ hb
    exact⟨hk,hb,y8,yf 8⟩
   go_wp2_with (at_builtin;refine wpList_append_QS rfl _ _ 35 35 rfl 3 _ 1 8 Tryz.underlying35 info_int rfl (.slice Wb i wb) i ((makeW mr i).map encI) rfl hq0 _ 1 [encI q] rfl hsrc (by decide) (by omega) ?_;intro A1 c1 w1 hq1 hg1 ho1;obtain⟨hk1,hb1,hc1,hf1⟩:=HB.out w1 hg1)
   have hk2:Keeps (fun k=>k=w.heap.size+1) w1 (w1.setCell ⟨w.heap.size+1,8,none⟩ (.slice A1 (i+1) c1)):=Keeps.setCell _ _ _ _ rfl
   have ho:∀k,(Value.slice A1 (i+1) c1).ownBlock=some k→w.heap.size+2≤k:=by
    intro k hk
    rcases ho1 with h | ⟨k',h,hle⟩
    ·exact(k3 k (h▸hk)).1
    ·rw[hk]at h;cases h;rw[World.size_alloc]at hle;omega
   have hs1:=hk1.size
   have hs2:=hk2.size
   have hkn:=k2.ne k4 (by decide)
   have hnew:MkAt w p mr (i+1) 0 (w1.setCell ⟨w.heap.size+1,8,none⟩ (.slice A1 (i+1) c1)).heap.size (.slice none 0 0) (w1.setCell ⟨w.heap.size+1,8,none⟩ (.slice A1 (i+1) c1)):=by
    refine⟨(g1.then hk1 (fun k hk h=>by have:=k3 _ h;omega)).then hk2 (fun k hk h=>by omega),by omega,by omega,blk_keeps hk2 (blk_keeps hk1 g4 (fun h=>by have:=k3 _ h;omega)) (by omega),A1,c1,Nb,nb,vs,PBox.weights hb1 _, ?_,fun k hv=>⟨ho k hv,Nat.lt_of_lt_of_le (hq1.lt k hv) hs2⟩,
     (k4.keeps hk1 (fun k hv h=>hkn k h hv)).keeps hk2 (fun k hv h=>by have:=k5 k hv;omega),fun k hv=>⟨(k5 k hv).1,by have:=(k5 k hv).2;omega⟩⟩
    rw[hws,List.map_append]
    exact hq1.keeps hk2 (fun k hv h=>by have:=ho k hv;omega)
   go_roundw
   case rel=>exact⟨i+1,by omega,by simp,hnew⟩
   case measure=>simp[intOf];omega
  ·obtain rfl:i=ln:=by omega
   have hM:MkAt w p mr i 0 wr.heap.size (.slice none 0 0) wr:=⟨g1,g2,g3,g4,Wb,wb,Nb,nb,vs,k1,k2,k3,k4,k5⟩
   have HBX:=Lib.hid k1
   clear g1 g2 g3 g4 k1 k2 k3 k4 k5 hPl
   go_wp2_with fail
   have hst2:0≤st∧st < 65536:=hst
   go_loopw [13,14] (fun s1 s2 wr2=>(s1= .int .u16 st∧s2= .int .i64 1∧wr2=wr)∨(∃y E en ec,s1= .int .u16 y∧s2= .int .i64 2∧MkAt w p mr i 0 wr2.heap.size (.slice E en ec) wr2)) (fun _ s2 _=>6 - (intOf s2).toNat)
   case atStart=>exact .inl ⟨rfl,rfl,rfl⟩
   case round=>
    obtain⟨rfl,rfl,hwr⟩ | ⟨yb,Eb,en,eb,rfl,rfl,hM2⟩:=hrel
    ·subst hwr
     go_wp2_with fail
     go_loopw [13,15] (fun s1 s2 wr2=>(s1= .int .u16 st∧s2= .int .i64 0∧wr2=wr)∨(∃y E en ec,s1= .int .u16 y∧s2= .int .i64 1∧MkAt w p mr i 0 wr2.heap.size (.slice E en ec) wr2)) (fun _ s2 _=>6 - (intOf s2).toNat)
     case atStart=>exact .inl ⟨rfl,rfl,rfl⟩
     case round=>
      obtain⟨rfl,rfl,hwr⟩ | ⟨yb,Eb,en,eb,rfl,rfl,hM2⟩:=hrel
      ·subst hwr
       cases hbit:(st % 2 == 1)
       ·go_wp2_with fail
        go_roundw
        case rel=>exact .inr ⟨_,none,0,0,rfl,rfl,hM⟩
        case measure=>decide
       ·have hq0:QS (wr.alloc (.cells #[.int .i64 0, .int .i64 1] 149)) 149 2 (.slice none 0 0) 0 []:=QS.nil _ _ _
        have hS:Src Tryz.prog 2 34 (.slice (some ⟨wr.heap.size,0,none⟩) 1 1) 1 [.int .i64 0, .int .i64 1] (wr.alloc (.cells #[.int .i64 0, .int .i64 1] 149)):=
         src_blk Tryz.underlying34 (e:=149) (cur:= #[.int .i64 0, .int .i64 1]) (blk_new wr (.cells #[.int .i64 0, .int .i64 1] 149)) rfl (by intro jj hjj';match jj,hjj' with | 0,_=>rfl | 1,_=>rfl) (by intro u hu;simp at hu;rcases hu with rfl | rfl <;>rfl)
        have HB:Hid (∀w1,(wr.alloc (.cells #[.int .i64 0, .int .i64 1] 149)).grownBy w1 (Value.slice none 0 0).ownBlock→Keeps (fun _=>False) wr w1∧
          PBox w1 (w.heap.size+1) (p.plan 2 (.slice none 0 0) (.slice Wb i wb) (.slice Nb 0 nb))∧w1.cell? ⟨w.heap.size+1,1,none⟩=some (.slice none 0 0)∧w1.frozen? ⟨w.heap.size+1,1,none⟩=false):=Lib.hid fun w1 hg=>by
         have hk:Keeps (fun _=>False) wr w1:=(Keeps.alloc _ _ _).trans (Keeps.grown hg (fun i h=>by cases h))
         have hb:=blk_keeps hk HBX.out (fun e=>e)
         obtain⟨_,y1,_,_,yf⟩:=PBox.at_ hb
         exact⟨hk,hb,y1,yf 1⟩
        go_wp2_with (at_builtin;refine wpList_append_QS rfl _ _ 34 34 rfl 149 _ 2 16 Tryz.underlying34 info_edge rfl (.slice none 0 0) 0 [] rfl hq0 _ 1 [.int .i64 0, .int .i64 1] rfl hS (by decide) (by omega) ?_;intro A1 c1 w1 hq1 hg1 ho1;obtain⟨hk1,hb1,hc1,hf1⟩:=HB.out w1 hg1)
        have hM3:=hM.edge (Nat.le_refl _) hk1 (.slice A1 1 c1)
        clear hq1 hb1 hc1 hf1 ho1 hg1 hk1 hq0 hS HB y0 y1 y2 y8 y10 yf
        go_wp2_with fail
        go_roundw
        case rel=>exact .inr ⟨_,A1,1,c1,rfl,rfl,hM3⟩
        case measure=>decide
      ·clear y0 y1 y2 y8 y10 yf
       go_wp2_with fail
       go_roundw
       case rel=>exact .inr ⟨yb,Eb,en,eb,rfl,rfl,hM2⟩
       case measure=>decide
    ·obtain⟨n,hn⟩:∃n:Nat,n=2:=⟨_,rfl⟩
     have hn2:(2:Int)=(n:Int):=by omega
     have HN2:=Lib.hid hn2
     have HN:=Lib.hid hn
     have hn6:n≤6:=by omega
     clear hM y0 y1 y2 y8 y10 yf HBX hn hn2
     obtain⟨_,_,_,_,_,_,_,_,_,t1,_⟩:=id hM2
     have y0:=t1.at_.1
     clear t1
     go_wp2_with fail
     clear y0
     go_loopw [16,17] (fun s1 s2 wr=>∃v kk:Nat,v≤n∧kk≤6*v∧s1= .int .i64 (kk:Int)∧s2= .int .i64 (v:Int)∧MkAt w p mr i v wr.heap.size (.slice Eb en eb) wr) (fun _ s2 _=>n - (intOf s2).toNat)
     case atStart=>exact⟨0,0,Nat.zero_le _,Nat.zero_le _,rfl,rfl,hM2⟩
     case round=>
      clear hM2
      obtain⟨v,kk,hv,hkk,rfl,rfl,hM⟩:=hrel
      obtain⟨_,_,_,_,_,_,_,_,_,t1,_⟩:=id hM
      have y0:=t1.at_.1
      rw[HN2.out]at y0
      clear t1
      by_cases hvn:v < n
      ·have hvi:(v:Int) < (n:Int):=by omega
       go_wp2_with fail
       clear y0
       have hH:=hM.size
       generalize hHe:wr.heap.size=H at hM hH
       have hH2:H≤wr.heap.size:=Nat.le_of_eq hHe.symm
       clear hHe
       go_loopw [16,18,19] (fun s1 l s2 wr=>∃x kk:Nat,∃zs:List Nat,x≤n∧kk≤6*v+x∧zs.length=x∧s1= .int .i64 (kk:Int)∧s2= .int .i64 (x:Int)∧QS wr 3 1 l x (zs.map encI)∧(∀k,l.ownBlock=some k→H≤k)∧H≤wr.heap.size∧MkAt w p mr i v H (.slice Eb en eb) wr) (fun _ _ s2 _=>n - (intOf s2).toNat)
       case atStart=>exact⟨0,kk,[],Nat.zero_le _,hkk,rfl,rfl,rfl,QS.nil _ _ _,(fun k h=>by cases h),hH2,hM⟩
       case round=>
        clear hM hH2 hkk
        obtain⟨x,kk,zs,hx,hkk,hzl,rfl,rfl,hq,hb',hH2,hM⟩:=hrel
        obtain⟨_,_,_,_,_,_,_,_,_,t1,_⟩:=id hM
        have y0:=t1.at_.1
        rw[HN2.out]at y0
        clear t1
        revert hq hb';generalize u18=l;intro hq hb'
        have hk0:¬(kk:Int) < 0:=by omega
        have hkb:(kk:Int)≤100:=by omega
        by_cases hxn:x < n
        ·have hxi:(x:Int) < (n:Int):=by omega
         have hq0:QS (wr.alloc (.cells #[encI x] 3)) 3 1 l x (zs.map encI):=hq.alloc _
         have hsrc:Src Tryz.prog 1 35 (.slice (some ⟨wr.heap.size,0,none⟩) 1 1) 1 [encI x] (wr.alloc (.cells #[encI x] 3)):=
          src_blk Tryz.underlying35 (blk_new _ _) rfl (by intro jj hjj';match jj,hjj' with | 0,_=>rfl) (by intro u hu;simp at hu;subst hu;rfl)
         go_wp2_with (at_builtin;refine wpList_append_QS rfl _ _ 35 35 rfl 3 _ 1 8 Tryz.underlying35 info_int rfl l x (zs.map encI) rfl hq0 _ 1 [encI x] rfl hsrc (by decide) (by omega) ?_;intro A1 c1 w1 hq1 hg1 ho1)
         go_roundw
         case rel=>
          have hk1:Keeps (fun k=>H≤k) wr w1:=(Keeps.alloc _ _ _).trans (Keeps.grown hg1 (fun k h=>hb' k h))
          have hs1:=hk1.size
          refine⟨x+1,kk+1,zs ++ [x],by omega,by omega,by rw[List.length_append,hzl];rfl,by simp,by simp,by rw[List.map_append];exact hq1,fun b hb2=> ?_,by omega,hM.calm hk1 (fun k h=>h)⟩
          rcases ho1 with h | ⟨i',h,hle⟩
          ·exact hb' b (h▸hb2)
          ·rw[hb2]at h;cases h;rw[World.size_alloc]at hle;omega
         case measure=>simp[intOf];omega
        ·obtain rfl:x=n:=by omega
         obtain⟨lA,lc,hsh,_,_⟩:=hq.shape
         subst hsh
         obtain⟨g1,g2,g3,g4,Wb,wb,Nb,nb,vs,k1,k2,k3,k4,k5⟩:=hM.now
         have y10:=k1.at_.2.2.2.1
         have yf:=k1.at_.2.2.2.2
         have hq0:QS (wr.alloc (.cells #[.slice lA x lc] 35)) 35 1 (.slice Nb v nb) v vs:=k4.alloc _
         have hsrc:Src Tryz.prog 1 36 (.slice (some ⟨wr.heap.size,0,none⟩) 1 1) 1 [.slice lA x lc] (wr.alloc (.cells #[.slice lA x lc] 35)):=
          src_blk Tryz.underlying36 (blk_new _ _) rfl (by intro jj hjj';match jj,hjj' with | 0,_=>rfl) (by intro u hu;simp at hu;subst hu;rfl)
         have HB:Hid (∀w1,(wr.alloc (.cells #[.slice lA x lc] 35)).grownBy w1 (Value.slice Nb v nb).ownBlock→Keeps (fun k=>(Value.slice Nb v nb).ownBlock=some k) wr w1∧
           PBox w1 (w.heap.size+1) (p.plan 2 (.slice Eb en eb) (.slice Wb i wb) (.slice Nb v nb))∧w1.cell? ⟨w.heap.size+1,10,none⟩=some (.slice Nb v nb)∧w1.frozen? ⟨w.heap.size+1,10,none⟩=false):=Lib.hid fun w1 hg=>by
          have hk:Keeps (fun k=>(Value.slice Nb v nb).ownBlock=some k) wr w1:=(Keeps.alloc _ _ _).trans (Keeps.grown hg (fun i h=>h))
          have hb:=blk_keeps hk k1 (fun e=>by have:=k5 _ e;omega)
          obtain⟨_,_,_,y10,yf⟩:=PBox.at_ hb
          exact⟨hk,hb,y10,yf 10⟩
         go_wp2_with (at_builtin;refine wpList_append_QS rfl _ _ 36 36 rfl 35 _ 1 24 Tryz.underlying36 info_ints rfl (.slice Nb v nb) v vs rfl hq0 _ 1 [.slice lA x lc] rfl hsrc (by decide) (by omega) ?_;intro A1 c1 w1 hq1 hg1 ho1;obtain⟨hk1,hb1,hc1,hf1⟩:=HB.out w1 hg1)
         have hk2:Keeps (fun k=>k=w.heap.size+1) w1 (w1.setCell ⟨w.heap.size+1,10,none⟩ (.slice A1 (v+1) c1)):=Keeps.setCell _ _ _ _ rfl
         have ho:∀k,(Value.slice A1 (v+1) c1).ownBlock=some k→w.heap.size+2≤k:=by
          intro k hk
          rcases ho1 with h | ⟨k',h,hle⟩
          ·exact(k5 k (h▸hk)).1
          ·rw[hk]at h;cases h;rw[World.size_alloc]at hle;omega
         have hs1:=hk1.size
         have hs2:=hk2.size
         have hkw:=k4.ne k2 (by decide)
         have hnew:MkAt w p mr i (v+1) (w1.setCell ⟨w.heap.size+1,10,none⟩ (.slice A1 (v+1) c1)).heap.size (.slice Eb en eb) (w1.setCell ⟨w.heap.size+1,10,none⟩ (.slice A1 (v+1) c1)):=
          ⟨(g1.then hk1 (fun k hk h=>by have:=k5 _ h;omega)).then hk2 (fun k hk h=>by omega),by omega,by omega,blk_keeps hk2 (blk_keeps hk1 g4 (fun h=>by have:=k5 _ h;omega)) (by omega),Wb,wb,A1,c1,vs ++ [.slice lA x lc],PBox.next hb1 _,
            (k2.keeps hk1 (fun k hv h=>hkw k h hv)).keeps hk2 (fun k hv h=>by have:=k3 k hv;omega),fun k hv=>⟨(k3 k hv).1,by have:=(k3 k hv).2;omega⟩,
            hq1.keeps hk2 (fun k hv h=>by have:=ho k hv;omega),fun k hv=>⟨ho k hv,Nat.lt_of_lt_of_le (hq1.lt k hv) hs2⟩⟩
         clear hq1 hb1 hc1 hf1 ho1 hg1 hk1 hk2 k1 k2 k4 hq0 hsrc HB
         go_wp2_with fail
         exact⟨⟨v+1,kk,by omega,by omega,by simp,by simp,hnew⟩,by simp[intOf];omega⟩
      ·obtain rfl:v=n:=by omega
       obtain⟨g1,g2,g3,g4,Wb,wb,Nb,nb,vs,k1,k2,k3,k4,k5⟩:=hM
       obtain rfl:=hpl.out
       clear y0
       obtain⟨x0,x1,x2,x3,x4,x5,x6,x7,x8,x9,x10,xf⟩:=PBox.all k1
       obtain⟨z0,z1,z2,z3,z4,z5,z6,z7,z8,z9,z10,zf⟩:=PBox.all g4
       rw[HN2.out]at x0
       go_wp2_with fail
       obtain⟨hV,hkV⟩:=set11 g4 (.int .i64 (v:Int)) (.slice Eb en eb) (.int .i64 (i:Int)) (.int .i64 (ro:Int)) (.int .i64 (qu:Int)) (.int .i64 (rn:Int)) (.int .i64 (ev:Int)) (.int .i64 64) (.slice Wb i wb) (.int .u16 st) (.slice Nb v nb)
       obtain⟨x0,x1,x2,x3,x4,x5,x6,x7,x8,x9,x10,xf⟩:=PBox.all hV
       refine bodyPost_ret (v:= .agg #[.int .i64 (v:Int), .slice Eb en eb, .int .i64 (i:Int), .int .i64 (ro:Int), .int .i64 (qu:Int), .int .i64 (rn:Int), .int .i64 (ev:Int), .int .i64 64, .slice Wb i wb, .int .u16 st, .slice Nb v nb]) ?_ rfl ?_
       ·generalize World.setCell _ _ _=V at x0 x1 x2 x3 x4 x5 x6 x7 x8 x9 x10 ⊢
        simp[results,Tryz.results38,go_sem,x0,x1,x2,x3,x4,x5,x6,x7,x8,x9,x10]
       ·have hv2:v=2:=HN.out
        subst hv2
        exact⟨Eb,en,eb,Wb,wb,⟨Nb,nb,rfl⟩,k2.keeps hkV (fun k hv h=>by have:=k3 k hv;omega),g1.then hkV (fun k h h1=>by omega)⟩
end Go.Proofs.YtebnflpanfmicaaGreatDoor
namespace Go.Proofs.YtebnflpanfmicaaGreatDoor
open Go.RowKit
theorem QS.shorten {w:World} {e n c:Nat} {A:Option Addr} {t:List Nat} {k:Nat} (h:QS w e 1 (.slice A n c) n ((t.take n).map encI)) (hk:k≤n):QS w e 1 (.slice A k c) k ((t.take k).map encI):=by
 rcases Nat.eq_zero_or_pos n with h0 | h0
 ·subst h0
  obtain rfl:k=0:=by omega
  exact h
 ·obtain⟨g,off,c',e',_,_,_⟩:=h.cell h0
  injection e' with e1 _ _
  subst e1
  have:=h.take k hk
  rw[Nat.mul_one,←List.map_take,List.take_take,Nat.min_eq_left hk]at this
  exact this
theorem take_getD {l:List Nat} {i j:Nat} (h:j < i) (h2:i≤l.length):(l.take i)[j]? =some (l.getD j 0):=by
 rw[List.getElem?_take_of_lt h,List.getD_eq_getElem?_getD,List.getElem?_eq_getElem (by omega)];rfl
set_option maxHeartbeats 8000000 in
theorem rpathN_calls (A:Option Addr) (m c:Nat) (t:List Nat) (v x:Nat) (ht:Tree t) (hv:v≤m) (hx:x≤m) (hm:m≤5) (w:World) (hG:Fam w A m t) (hr:Calls Tryz.prog 55 #[.slice A m c] w fun e w'=>e= .returned (.bool true)∧w'=w):
  Calls Tryz.prog 18 #[.slice A m c, .int .i64 v, .int .i64 x] w fun e w'=>
   ∃u,e= .returned u∧QS w' 3 1 u (pathN t v x).length ((pathN t v x).map encI)∧Keeps (fun _=>False) w w'∧∀k,u.ownBlock=some k→w.heap.size≤k:=by
 have hml:t.length=m:=hG.1
 rw[←pathR_eq ht (by omega) (v:=v) (x:=x) (by omega) (by omega)]
 have hlv:=upl_length ht v
 have hlx:=upl_length ht x
 have hpv:0 < (upl t v).length:=List.length_pos_of_mem (zero_mem_upl ht v)
 have hpx:0 < (upl t x).length:=List.length_pos_of_mem (zero_mem_upl ht x)
 have c1:=rup_calls A m c t v ht hv hm w hG
 have c2:=fun w' (hk:Keeps (fun _=>False) w w')=>rup_calls A m c t x ht hx hm w' (hG.keeps hk (fun _ _ h=>h))
 unfold pathR
 generalize upl t v=a at*
 generalize upl t x=b at*
 have hvi:(v:Int)≤(m:Int):=by omega
 have hxi:(x:Int)≤(m:Int):=by omega
 have hv0:(0:Int)≤(v:Int):=by omega
 have hx0:(0:Int)≤(x:Int):=by omega
 obtain⟨p,q,hpq⟩:∃p q,trimI a b a.length b.length=(p,q):=⟨_,_,rfl⟩
 rw[hpq]
 have hpq':=Lib.hid hpq
 clear hpq
 go_enter Tryz.func18,Tryz.ntmps18
 go_wp2_with fail
 refine hr.mono ?_
 rintro e w' ⟨rfl,hw⟩;subst w'
 clear hr
 go_wp2_with fail
 refine c1.mono ?_
 rintro e B ⟨ua,rfl,qa,hkB,hoa⟩
 obtain⟨aA,ac,hsh,hac,hac2⟩:=qa.shape
 subst hsh
 clear c1
 go_wp2_with fail
 refine(c2 B hkB).mono ?_
 rintro e C ⟨ub,rfl,qb,hkC,hob⟩
 obtain⟨bA,bc,hsh,hbc,hbc2⟩:=qb.shape
 subst hsh
 clear c2
 replace qa:=qa.keeps hkC (fun _ _ h=>h)
 have hkW:=hkB.trans hkC
 clear hkB hkC
 rw[show a=a.take a.length from(List.take_length).symm]at qa
 rw[show b=b.take b.length from(List.take_length).symm]at qb
 rw[List.length_take,Nat.min_self]at qa qb
 go_wp2_with fail
 go_loopw [7,8] (fun s1 s2 wr=>∃i j:Nat,0 < i∧i≤a.length∧0 < j∧j≤b.length∧s1= .slice aA i ac∧s2= .slice bA j bc∧Hid (trimI a b i j=(p,q))∧Keeps (fun _=>False) C wr) (fun s1 _ _=>match s1 with | .slice _ n _=>n | _=>0)
 case atStart=>exact⟨a.length,b.length,hpv,Nat.le_refl _,hpx,Nat.le_refl _,rfl,rfl,hpq',Keeps.refl _ _⟩
 case round=>
  obtain⟨i,j,hi0,hi,hj0,hj,rfl,rfl,htr,hk⟩:=hrel
  have qi:=(qa.shorten hi).keeps hk (fun _ _ h=>h)
  have qj:=(qb.shorten hj).keeps hk (fun _ _ h=>h)
  have hmi:(i:Int)≤6:=by omega
  have hmj:(j:Int)≤6:=by omega
  by_cases hc:1 < i∧1 < j∧a.getD (i - 2) 0=b.getD (j - 2) 0
  ·obtain⟨h1,h2,h3⟩:=hc
   have htr':=Lib.hid ((trimI_step h1 h2 h3).symm.trans htr.out)
   obtain⟨g1,o1,c1,e1,_,cell1,_⟩:=qi.cell hi0
   obtain⟨g2,o2,c2,e2,_,cell2,_⟩:=qj.cell hj0
   injection e1 with e1 _ e1'
   injection e2 with e2 _ e2'
   subst e1 e2 e1' e2'
   obtain⟨i2,hi2,hi3⟩:∃i2:Nat,(i:Int) - 2=(i2:Int)∧i2=i - 2:=⟨i - 2,by omega,rfl⟩
   obtain⟨j2,hj2,hj3⟩:∃j2:Nat,(j:Int) - 2=(j2:Int)∧j2=j - 2:=⟨j - 2,by omega,rfl⟩
   have x1:=cell1 i2 (encI (a.getD i2 0)) (by rw[List.getElem?_map,take_getD (by omega) hi];rfl)
   have x2:=cell2 j2 (encI (b.getD j2 0)) (by rw[List.getElem?_map,take_getD (by omega) hj];rfl)
   have hii:(i2:Int) < (i:Int):=by omega
   have hjj:(j2:Int) < (j:Int):=by omega
   have hi20:(0:Int)≤(i2:Int):=by omega
   have hj20:(0:Int)≤(j2:Int):=by omega
   rw[←hi3,←hj3]at h3
   clear cell1 cell2 hi3 hj3 htr qi qj
   generalize a.getD i2 0=y at*
   generalize b.getD j2 0=z at*
   subst h3
   obtain⟨i1,hi1,hi1'⟩:∃i1:Nat,(i:Int) - 1=(i1:Int)∧i - 1=i1:=⟨i - 1,by omega,rfl⟩
   obtain⟨j1,hj1,hj1'⟩:∃j1:Nat,(j:Int) - 1=(j1:Int)∧j - 1=j1:=⟨j - 1,by omega,rfl⟩
   rw[hi1',hj1']at htr'
   have b1:0 < i1:=by omega
   have b2:i1≤a.length:=by omega
   have b3:0 < j1:=by omega
   have b4:j1≤b.length:=by omega
   have b5:i1 < i:=by omega
   have b6:(i1:Int)≤(ac:Int):=by omega
   have b7:(j1:Int)≤(bc:Int):=by omega
   have b8:(0:Int)≤(i1:Int):=by omega
   have b9:(0:Int)≤(j1:Int):=by omega
   clear hi1' hj1'
   have hyy:(y:Int)=(y:Int):=rfl
   go_wp2_with fail
   have n1:(1:Int) < (i:Int):=by omega
   have n2:(1:Int) < (j:Int):=by omega
   go_quiet (fail)
   go_wp2_with fail
   exact⟨⟨i1,j1,b1,b2,b3,b4,rfl,rfl,htr',hk.trans (Keeps.drewN _ _ _)⟩,b5⟩
  ·have hend:=(trimI_end hc).symm.trans htr.out
   injection hend with ep eq
   subst ep eq
   clear htr hpq'
   have hsrc:∀n,Src Tryz.prog 1 35 (.slice aA i ac) i ((a.take i).map encI) (wr.drewN n):=fun n=>(qi.keeps (Keeps.drewN (fun _=>False) wr n) (fun _ _ h=>h)).src Tryz.underlying35 (one_nats _)
   by_cases h1:1 < i
   ·by_cases h2:1 < j
    ·have h3:¬a.getD (i - 2) 0=b.getD (j - 2) 0:=fun h=>hc ⟨h1,h2,h⟩
     obtain⟨g1,o1,c1,e1,_,cell1,_⟩:=qi.cell hi0
     obtain⟨g2,o2,c2,e2,_,cell2,_⟩:=qj.cell hj0
     injection e1 with e1 _ e1'
     injection e2 with e2 _ e2'
     subst e1 e2 e1' e2'
     obtain⟨i2,hi2,hi3⟩:∃i2:Nat,(i:Int) - 2=(i2:Int)∧i2=i - 2:=⟨i - 2,by omega,rfl⟩
     obtain⟨j2,hj2,hj3⟩:∃j2:Nat,(j:Int) - 2=(j2:Int)∧j2=j - 2:=⟨j - 2,by omega,rfl⟩
     have x1:=cell1 i2 (encI (a.getD i2 0)) (by rw[List.getElem?_map,take_getD (by omega) hi];rfl)
     have x2:=cell2 j2 (encI (b.getD j2 0)) (by rw[List.getElem?_map,take_getD (by omega) hj];rfl)
     have hii:(i2:Int) < (i:Int):=by omega
     have hjj:(j2:Int) < (j:Int):=by omega
     have hi20:(0:Int)≤(i2:Int):=by omega
     have hj20:(0:Int)≤(j2:Int):=by omega
     rw[←hi3,←hj3]at h3
     clear cell1 cell2 hi3 hj3 qi qj hc
     generalize hyv:a.getD i2 0=y at*
     generalize hzv:b.getD j2 0=z at*
     clear hyv hzv
     have n3:((y:Int) == (z:Int))=false:=by rw[beq_eq_false_iff_ne];omega
     clear h3
     go_wp2_with fail
     have n1:(1:Int) < (i:Int):=by omega
     have n2:(1:Int) < (j:Int):=by omega
     go_quiet (fail)
     have hj3:((j:Int) - 2)=(((j - 1:Nat)):Int) - 1:=by omega
     clear hi2 hj2 hii hjj hi20 hj20 n1 n2 n3 x1 x2
     go_wp2_with (at_builtin;refine wpList_append_QS rfl _ _ 35 35 rfl 3 _ 1 8 Tryz.underlying35 info_int rfl (.slice none 0 0) 0 [] rfl (QS.nil _ _ _) _ i ((a.take i).map encI) rfl (hsrc _) (by decide) (by omega) ?_;intro A1 c1 w1 hq1 hg1 ho1;rw[Nat.zero_add]at hq1 ho1 ⊢;rw[List.nil_append]at hq1)
     have hk1:Keeps (fun _=>False) wr w1:=(Keeps.drewN _ _ _).trans (Keeps.grown hg1 (fun i h=>by cases h))
     have hkC:=hk.trans hk1
     have hb1:∀k,(Value.slice A1 i c1).ownBlock=some k→C.heap.size≤k:=fun k h=>by
      rcases ho1 with h' | ⟨b,h',hle⟩
      ·rw[h]at h';cases h'
      ·rw[h]at h';cases h';have:=hk.size;exact Nat.le_trans this hle
     clear hsrc hg1 ho1 hk1
     go_loopw [9,10] (fun l s wr=>∃k:Nat,k≤j - 1∧s= .int .i64 ((k:Int) - 1)∧QS wr 3 1 l (i+(j - 1 - k)) ((a.take i ++ ((b.take (j - 1)).drop k).reverse).map encI)∧Keeps (fun _=>False) C wr∧∀k,l.ownBlock=some k→C.heap.size≤k) (fun _ s _=>(intOf s+1).toNat)
     case atStart=>exact⟨j - 1,Nat.le_refl _,by congr 1 <;>omega,by rw[List.drop_of_length_le (by rw[List.length_take];omega),List.reverse_nil,List.append_nil,Nat.sub_self,Nat.add_zero];exact hq1,hkC,hb1⟩
     case round=>
      clear hq1 hkC hb1
      obtain⟨k,hkj,rfl,hq,hkC,hb⟩:=hrel
      revert hq hb;generalize u9=l;intro hq hb
      by_cases hk0:k=0
      ·subst hk0
       obtain⟨lA,lc,hsh,_,_⟩:=hq.shape
       subst hsh
       go_wp2_with fail
       go_ret
       refine⟨_,rfl, ?_,hkW.trans hkC,fun k hk=>Nat.le_trans hkW.size (hb k hk)⟩
       rw[List.drop_zero]at hq
       have hl:(a.take i ++ (b.take (j - 1)).reverse).length=i+(j - 1 - 0):=by rw[List.length_append,List.length_reverse,List.length_take,List.length_take];omega
       rw[hl];exact hq
      ·obtain⟨z,hz,hz2⟩:∃z:Nat,(k:Int) - 1=(z:Int)∧k=z+1:=⟨k - 1,by omega,by omega⟩
       have hzj:(z:Int) < (j:Int):=by omega
       have hz0:(0:Int)≤(z:Int):=by omega
       obtain⟨g2,o2,c2,e2,_,cell2,_⟩:=((qb.shorten hj).keeps hkC (fun _ _ h=>h)).cell hj0
       cases e2
       have x2:=cell2 z (encI (b.getD z 0)) (by rw[List.getElem?_map,take_getD (by omega) hj];rfl)
       have hdrop:(b.take (j - 1)).drop z=b.getD z 0 :: (b.take (j - 1)).drop k:=by
        subst hz2
        rw[List.drop_eq_getElem_cons (by rw[List.length_take];omega)]
        congr 1
        rw[List.getElem_take,List.getD_eq_getElem?_getD,List.getElem?_eq_getElem (by omega)];rfl
       have hnew:a.take i ++ ((b.take (j - 1)).drop z).reverse=(a.take i ++ ((b.take (j - 1)).drop k).reverse) ++ [b.getD z 0]:=by rw[hdrop,List.reverse_cons,List.append_assoc]
       have hnew':=Lib.hid hnew
       have hln:i+(j - 1 - z)=i+(j - 1 - k)+1:=by omega
       have hlb:i+(j - 1 - k)≤12:=by omega
       clear hdrop hnew cell2 hz2 hk0
       generalize b.getD z 0=y at*
       generalize a.take i ++ ((b.take (j - 1)).drop k).reverse=Y at*
       have hln':=Lib.hid hln
       clear hln
       generalize i+(j - 1 - k)=n at*
       have hq1:QS (wr.alloc (.cells #[encI y] 3)) 3 1 l n (Y.map encI):=hq.alloc _
       have hsrc:Src Tryz.prog 1 35 (.slice (some ⟨wr.heap.size,0,none⟩) 1 1) 1 [encI y] (wr.alloc (.cells #[encI y] 3)):=
        src_blk Tryz.underlying35 (blk_new _ _) rfl (by intro jj hjj';match jj,hjj' with | 0,_=>rfl) (by intro u hu;simp at hu;subst hu;rfl)
       go_wp2_with (at_builtin;refine wpList_append_QS rfl _ _ 35 35 rfl 3 _ 1 8 Tryz.underlying35 info_int rfl l n (Y.map encI) rfl hq1 _ 1 [encI y] rfl hsrc (by decide) (by omega) ?_;intro A1 c1 w1 hq2 hg1 ho1)
       go_roundw
       case rel=>
        have hk1:Keeps (fun i=>l.ownBlock=some i) wr w1:=(Keeps.alloc _ _ _).trans (Keeps.grown hg1 (fun i h=>h))
        refine⟨z,by omega,rfl,by rw[hnew'.out,List.map_append,hln'.out];exact hq2,hkC.then hk1 (fun i hi h=>by have:=hb i h;omega),fun b hb'=> ?_⟩
        rcases ho1 with h | ⟨i',h,hle⟩
        ·exact hb b (h▸hb')
        ·rw[hb']at h;cases h;have:=hkC.size;rw[World.size_alloc]at hle;omega
       case measure=>simp[intOf];omega
    ·have n2:¬(1:Int) < (j:Int):=by omega
     clear qi qj hc
     go_wp2_with fail
     have n1:(1:Int) < (i:Int):=by omega
     have n2:¬(1:Int) < (j:Int):=by omega
     go_quiet (fail)
     go_wp2_with (at_builtin;refine wpList_append_QS rfl _ _ 35 35 rfl 3 _ 1 8 Tryz.underlying35 info_int rfl (.slice none 0 0) 0 [] rfl (QS.nil _ _ _) _ i ((a.take i).map encI) rfl (hsrc _) (by decide) (by omega) ?_;intro A1 c1 w1 hq1 hg1 ho1;rw[Nat.zero_add]at hq1 ho1 ⊢;rw[List.nil_append]at hq1)
     have hk1:Keeps (fun _=>False) wr w1:=(Keeps.drewN _ _ _).trans (Keeps.grown hg1 (fun i h=>by cases h))
     have hkC:=hk.trans hk1
     have hb1:∀k,(Value.slice A1 i c1).ownBlock=some k→C.heap.size≤k:=fun k h=>by
      rcases ho1 with h' | ⟨b,h',hle⟩
      ·rw[h]at h';cases h'
      ·rw[h]at h';cases h';have:=hk.size;exact Nat.le_trans this hle
     clear hsrc hg1 ho1 hk1
     go_loopw [9,10] (fun l s wr=>∃k:Nat,k≤j - 1∧s= .int .i64 ((k:Int) - 1)∧QS wr 3 1 l (i+(j - 1 - k)) ((a.take i ++ ((b.take (j - 1)).drop k).reverse).map encI)∧Keeps (fun _=>False) C wr∧∀k,l.ownBlock=some k→C.heap.size≤k) (fun _ s _=>(intOf s+1).toNat)
     case atStart=>exact⟨j - 1,Nat.le_refl _,by congr 1 <;>omega,by rw[List.drop_of_length_le (by rw[List.length_take];omega),List.reverse_nil,List.append_nil,Nat.sub_self,Nat.add_zero];exact hq1,hkC,hb1⟩
     case round=>
      clear hq1 hkC hb1
      obtain⟨k,hkj,rfl,hq,hkC,hb⟩:=hrel
      revert hq hb;generalize u9=l;intro hq hb
      by_cases hk0:k=0
      ·subst hk0
       obtain⟨lA,lc,hsh,_,_⟩:=hq.shape
       subst hsh
       go_wp2_with fail
       go_ret
       refine⟨_,rfl, ?_,hkW.trans hkC,fun k hk=>Nat.le_trans hkW.size (hb k hk)⟩
       rw[List.drop_zero]at hq
       have hl:(a.take i ++ (b.take (j - 1)).reverse).length=i+(j - 1 - 0):=by rw[List.length_append,List.length_reverse,List.length_take,List.length_take];omega
       rw[hl];exact hq
      ·exfalso;omega
   ·clear qi qj hc
    go_wp2_with fail
    have n1:¬(1:Int) < (i:Int):=by omega
    go_quiet (fail)
    go_wp2_with (at_builtin;refine wpList_append_QS rfl _ _ 35 35 rfl 3 _ 1 8 Tryz.underlying35 info_int rfl (.slice none 0 0) 0 [] rfl (QS.nil _ _ _) _ i ((a.take i).map encI) rfl (hsrc _) (by decide) (by omega) ?_;intro A1 c1 w1 hq1 hg1 ho1;rw[Nat.zero_add]at hq1 ho1 ⊢;rw[List.nil_append]at hq1)
    have hk1:Keeps (fun _=>False) wr w1:=(Keeps.drewN _ _ _).trans (Keeps.grown hg1 (fun i h=>by cases h))
    have hkC:=hk.trans hk1
    have hb1:∀k,(Value.slice A1 i c1).ownBlock=some k→C.heap.size≤k:=fun k h=>by
     rcases ho1 with h' | ⟨b,h',hle⟩
     ·rw[h]at h';cases h'
     ·rw[h]at h';cases h';have:=hk.size;exact Nat.le_trans this hle
    clear hsrc hg1 ho1 hk1
    go_loopw [9,10] (fun l s wr=>∃k:Nat,k≤j - 1∧s= .int .i64 ((k:Int) - 1)∧QS wr 3 1 l (i+(j - 1 - k)) ((a.take i ++ ((b.take (j - 1)).drop k).reverse).map encI)∧Keeps (fun _=>False) C wr∧∀k,l.ownBlock=some k→C.heap.size≤k) (fun _ s _=>(intOf s+1).toNat)
    case atStart=>exact⟨j - 1,Nat.le_refl _,by congr 1 <;>omega,by rw[List.drop_of_length_le (by rw[List.length_take];omega),List.reverse_nil,List.append_nil,Nat.sub_self,Nat.add_zero];exact hq1,hkC,hb1⟩
    case round=>
     clear hq1 hkC hb1
     obtain⟨k,hkj,rfl,hq,hkC,hb⟩:=hrel
     revert hq hb;generalize u9=l;intro hq hb
     by_cases hk0:k=0
     ·subst hk0
      obtain⟨lA,lc,hsh,_,_⟩:=hq.shape
      subst hsh
      go_wp2_with fail
      go_ret
      refine⟨_,rfl, ?_,hkW.trans hkC,fun k hk=>Nat.le_trans hkW.size (hb k hk)⟩
      rw[List.drop_zero]at hq
      have hl:(a.take i ++ (b.take (j - 1)).reverse).length=i+(j - 1 - 0):=by rw[List.length_append,List.length_reverse,List.length_take,List.length_take];omega
      rw[hl];exact hq
     ·obtain⟨z,hz,hz2⟩:∃z:Nat,(k:Int) - 1=(z:Int)∧k=z+1:=⟨k - 1,by omega,by omega⟩
      have hzj:(z:Int) < (j:Int):=by omega
      have hz0:(0:Int)≤(z:Int):=by omega
      obtain⟨g2,o2,c2,e2,_,cell2,_⟩:=((qb.shorten hj).keeps hkC (fun _ _ h=>h)).cell hj0
      cases e2
      have x2:=cell2 z (encI (b.getD z 0)) (by rw[List.getElem?_map,take_getD (by omega) hj];rfl)
      have hdrop:(b.take (j - 1)).drop z=b.getD z 0 :: (b.take (j - 1)).drop k:=by
       subst hz2
       rw[List.drop_eq_getElem_cons (by rw[List.length_take];omega)]
       congr 1
       rw[List.getElem_take,List.getD_eq_getElem?_getD,List.getElem?_eq_getElem (by omega)];rfl
      have hnew:a.take i ++ ((b.take (j - 1)).drop z).reverse=(a.take i ++ ((b.take (j - 1)).drop k).reverse) ++ [b.getD z 0]:=by rw[hdrop,List.reverse_cons,List.append_assoc]
      have hnew':=Lib.hid hnew
      have hln:i+(j - 1 - z)=i+(j - 1 - k)+1:=by omega
      have hlb:i+(j - 1 - k)≤12:=by omega
      clear hdrop hnew cell2 hz2 hk0
      generalize b.getD z 0=y at*
      generalize a.take i ++ ((b.take (j - 1)).drop k).reverse=Y at*
      have hln':=Lib.hid hln
      clear hln
      generalize i+(j - 1 - k)=n at*
      have hq1:QS (wr.alloc (.cells #[encI y] 3)) 3 1 l n (Y.map encI):=hq.alloc _
      have hsrc:Src Tryz.prog 1 35 (.slice (some ⟨wr.heap.size,0,none⟩) 1 1) 1 [encI y] (wr.alloc (.cells #[encI y] 3)):=
       src_blk Tryz.underlying35 (blk_new _ _) rfl (by intro jj hjj';match jj,hjj' with | 0,_=>rfl) (by intro u hu;simp at hu;subst hu;rfl)
      go_wp2_with (at_builtin;refine wpList_append_QS rfl _ _ 35 35 rfl 3 _ 1 8 Tryz.underlying35 info_int rfl l n (Y.map encI) rfl hq1 _ 1 [encI y] rfl hsrc (by decide) (by omega) ?_;intro A1 c1 w1 hq2 hg1 ho1)
      go_roundw
      case rel=>
       have hk1:Keeps (fun i=>l.ownBlock=some i) wr w1:=(Keeps.alloc _ _ _).trans (Keeps.grown hg1 (fun i h=>h))
       refine⟨z,by omega,rfl,by rw[hnew'.out,List.map_append,hln'.out];exact hq2,hkC.then hk1 (fun i hi h=>by have:=hb i h;omega),fun b hb'=> ?_⟩
       rcases ho1 with h | ⟨i',h,hle⟩
       ·exact hb b (h▸hb')
       ·rw[hb']at h;cases h;have:=hkC.size;rw[World.size_alloc]at hle;omega
      case measure=>simp[intOf];omega
end Go.Proofs.YtebnflpanfmicaaGreatDoor
namespace Go.Proofs.YtebnflpanfmicaaGreatDoor
open Go.RowKit
end Go.Proofs.YtebnflpanfmicaaGreatDoor
namespace Go.Proofs.YtebnflpanfmicaaGreatDoor
open Go.RowKit
end Go.Proofs.YtebnflpanfmicaaGreatDoor
