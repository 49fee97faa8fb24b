/-
  Part 26 of the proof: TopExch, TopTickP, TopTickW.
-/
import Derived.Test.YtebnflpanfmicaaGreatDoorPkAY
import Derived.Test.YtebnflpanfmicaaGreatDoorPkAX
set_option linter.unusedVariables false
set_option linter.unusedSimpArgs false
set_option linter.unusedSectionVars false
namespace Go.Proofs.YtebnflpanfmicaaGreatDoor
open Go.RowKit
theorem tellK_length (g:Geo) (v:Nat) (s:NodeS) (i:Nat):∀k,(tellK g v s i k).length=2*k
 | 0=>rfl
 | k+1=>by rw[tellK,List.length_append,tellK_length g v s i k];simp[tellO];omega
theorem exchO_length (g:Geo) (v:Nat) (s:NodeS):∀i,(exchO g v s i).length≤i*(2*g.ws.length)
 | 0=>by simp[exchO]
 | i+1=>by
   have:=exchO_length g v s i
   have e:(i+1)*(2*g.ws.length)=i*(2*g.ws.length)+2*g.ws.length:=Nat.succ_mul _ _
   unfold exchO
   split
   ·omega
   ·rw[List.length_append,tellK_length];omega
section
variable {σ σ':Sig} {w0 w w':World} {o0 o o':Nat→Option Cmp} {ob xb mb f v:Nat} {mo:Array Value} {l:List (Nat×List Int)} {g:Geo} {a:NodeA} {s:NodeS}
theorem NodeR.port {S:Nat→Prop} {ticks:Int} (h:NodeR w S g v a ticks) {i:Nat} (hi:i < g.ports v):∃gp op cp,a.pv= .slice (some ⟨gp,op,none⟩) (g.ports v) cp∧
  w.cell? ⟨gp,op+i*3,none⟩=some (.int .i64 ((tos g.t v).getD i 0:Nat))∧w.cell? ⟨gp,op+i*3+1,none⟩=some (a.lv i)∧w.cell? ⟨gp,op+i*3+2,none⟩=some (.pointer (some ⟨a.wb i,0,none⟩)):=by
 obtain⟨gp,op,cp,h1,_,h2,h3,h4⟩:=h.to hi
 exact⟨gp,op,cp,h1,h2,h3,h4⟩
set_option maxRecDepth 100000 in
set_option maxHeartbeats 16000000 in
theorem exchange_runs (h:Saying σ w0 o0 w o ob xb mb mo a.nb l) (hg:σ.geo f=some g) (hn:σ.node f v=some (a,s)) (hlv:∀i,∃A n c,a.lv i= .slice A n c) (hl:l.length≤500) (L n:Nat) (hL:g.ws.length=L) (hpn:g.ports v=n) (h6:n≤6):
  Calls Tryz.prog 129 #[.pointer (some ⟨a.nb,0,none⟩), .func (.func 123) #[] #[.pointer (some ⟨ob,0,none⟩), .pointer (some ⟨xb,0,none⟩)]] w fun e w'=>e= .returned (.tuple #[])∧Saying σ w0 o0 w' o ob xb mb mo a.nb (l ++ exchO g v s n):=by
 have hL3:L≤3:=by have:=(h.sys.planS hg).nums.lanes.2;have:=(h.sys.planS hg).lanes;omega
 have c13:=(h.sys.nodeR hg hn).c13
 obtain⟨pA,pc,hpv,_,_⟩:=(h.sys.nodeR hg hn).pq.shape
 have hpv':=hpv
 rw[hpn]at hpv'
 rw[hpv']at c13
 have H:=Lib.hid h
 have HPV:=Lib.hid hpv'
 have HL3:=Lib.hid hL3
 clear h hpv hpv'
 go_enter Tryz.func129,Tryz.ntmps129
 go_wp2_with fail
 clear c13
 go_loopw [13] (fun c wr=>∃i:Nat,i≤n∧c= .int .i64 (i:Int)∧Saying σ w0 o0 wr o ob xb mb mo a.nb (l ++ exchO g v s i)) (fun c _=>n - (intOf c).toNat)
 case atStart=>exact⟨0,Nat.zero_le _,rfl,by rw[show exchO g v s 0=[]from rfl,List.append_nil];exact H.out⟩
 case round=>
  obtain⟨i,hi,rfl,hS⟩:=hrel
  by_cases hin:i < n
  ·have hii:(i:Int) < (n:Int):=by omega
   have hi0:(0:Int)≤(i:Int):=by omega
   have N:=hS.sys.nodeR hg hn
   obtain⟨gp,op,cp,e1,p1,p2,p3⟩:=N.port (i:=i) (by omega)
   rw[hpn,HPV.out]at e1
   injection e1 with e1 e1b e1c
   clear e1b
   subst e1 e1c
   obtain⟨y,hy⟩:∃y,(tos g.t v).getD i 0=y:=⟨_,rfl⟩
   rw[hy]at p1
   obtain⟨lA,ln,lc,hlvi⟩:=hlv i
   have HLVI:=Lib.hid hlvi
   rw[hlvi]at p2
   have HLN:=Lib.hid (p:=(i=0∧ln=0)∨(0 < i∧ln=L)) (by
    by_cases h0:i=0
    ·subst h0;rw[N.l0]at hlvi;injection hlvi with _ h2 _;exact .inl ⟨rfl,h2.symm⟩
    ·obtain⟨A,c,e,_⟩:=(N.lq i (by omega) (by omega)).shape
     rw[hlvi,hL]at e;injection e with _ h2 _;exact .inr ⟨by omega,h2⟩)
   have HY:=Lib.hid hy
   clear hy
   have HS:=Lib.hid hS
   have hkB:Keeps (fun _=>False) wr (wr.alloc (.cells #[.int .i64 (y:Int), .slice lA ln lc, .pointer (some ⟨a.wb i,0,none⟩)] 165)):=Keeps.alloc _ _ _
   have HSB:=Lib.hid (hS.calm hkB)
   have hxs:exchO g v s (i+1)=if i=0 then exchO g v s i else exchO g v s i ++ tellK g v s i g.ws.length:=rfl
   have HXS:=Lib.hid hxs
   have HXL:=Lib.hid (exchO_length g v s i)
   clear hS N hkB hlvi hxs
   obtain⟨X1,hX1⟩:∃X1,exchO g v s (i+1)=X1:=⟨_,rfl⟩
   rw[hX1]at HXS
   have HX1:=Lib.hid hX1
   clear hX1
   generalize exchO g v s i=X0 at*
   go_wp2_with fail
   clear p1 p2 p3
   generalize wr.alloc (.cells #[.int .i64 (y:Int), .slice lA ln lc, .pointer (some ⟨a.wb i,0,none⟩)] 165)=B at*
   go_loopw [21] (fun c wr2=>∃k:Nat,k≤ln∧c= .int .i64 (k:Int)∧Saying σ w0 o0 wr2 o ob xb mb mo a.nb (l ++ X0 ++ tellK g v s i k)) (fun c _=>ln - (intOf c).toNat)
   case atStart=>exact⟨0,Nat.zero_le _,rfl,by rw[show tellK g v s i 0=[]from rfl,List.append_nil];exact HSB.out⟩
   case round=>
    obtain⟨k,hk,rfl,hS⟩:=hrel
    by_cases hkl:k < ln
    ·have hkk:(k:Int) < (ln:Int):=by omega
     have hk0:(0:Int)≤(k:Int):=by omega
     obtain⟨hi0',hLl⟩:0 < i∧ln=L:=by
      rcases HLN.out with⟨_,h⟩ | h
      ·omega
      ·exact h
     have hLw:g.ws.length=ln:=by rw[hL,hLl]
     have hkL:k < g.ws.length:=by omega
     have HLW:=Lib.hid hLw
     clear hLw hLl
     have N:=hS.sys.nodeR hg hn
     have hi1:1≤i:=hi0'
     have hig:i < g.ports v:=by rw[hpn];exact hin
     obtain⟨gp',op',cp',gl,ol,cl,_,e2,_,q2,q3⟩:=N.lane (i:=i) (k:=k) hi1 hig hkL
     rw[HLVI.out]at e2
     injection e2 with e2 e2b e2c
     clear e2b
     subst e2 e2c
     have hkC:Keeps (fun _=>False) wr (wr.alloc (.cells #[.pointer (some ⟨a.sb i k,0,none⟩), .pointer (some ⟨a.cb i k,0,none⟩)] 172)):=Keeps.alloc _ _ _
     have hbC:=blk_new wr (.cells #[.pointer (some ⟨a.sb i k,0,none⟩), .pointer (some ⟨a.cb i k,0,none⟩)] 172)
     have hfr:=SysF.fresh hS.sys (Nat.le_refl wr.heap.size)
     have hSC:=hS.calm hkC
     have HSD:=Lib.hid (sent_runs _ _ _ _ (hSC.sys.sendAt hg hn hi1 hig hkL).1)
     have HTL:=Lib.hid (tellK_length g v s i k)
     have htk:tellK g v s i (k+1)=tellK g v s i k ++ tellO g v s i k:=rfl
     have HTK:=Lib.hid htk
     have HS2:=Lib.hid hS
     have HSC:=Lib.hid hSC
     have HBC:=Lib.hid hbC
     clear hS N hkC hSC htk hbC
     obtain⟨T1,hT1⟩:∃T1,tellK g v s i (k+1)=T1:=⟨_,rfl⟩
     rw[hT1]at HTK
     have HTE:=Lib.hid hT1
     clear hT1
     generalize tellK g v s i k=T0 at*
     go_wp2_with fail
     generalize wr.alloc (.cells #[.pointer (some ⟨a.sb i k,0,none⟩), .pointer (some ⟨a.cb i k,0,none⟩)] 172)=C at*
     generalize wr.heap.size=lb at*
     refine HSD.out.mono ?_
     rintro e C' ⟨rfl,hC⟩
     subst hC
     have w8k:W8 (k:Int)=(k:Int):=by have:=HL3.out;simp[IntKind.wrap,IntKind.bits,IntKind.signed];omega
     have hlen:(l ++ X0 ++ T0).length≤900:=by
      have h1:=HXL.out
      have h2:=HTL.out
      have h3:i*(2*g.ws.length)≤6*6:=Nat.mul_le_mul (by omega) (by have:=HL3.out;have:=HLW.out;omega)
      simp only[List.length_append]
      have:=HL3.out
      omega
     have hsay:=HSC.out.say_runs hg hn hlv i hig ⟨3,W8 (k:Int),W16 (s.sent i k),0,0,0⟩ (by omega) y HY.out
     unfold Frm.val at hsay
     simp only at hsay
     have HSY:=Lib.hid hsay
     rw[w8k]at HSY
     have HLN2:=Lib.hid hlen
     clear hsay HSD hlen w8k
     go_wp2_with fail
     refine HSY.out.mono ?_
     rintro e D ⟨rfl,hD,hDb⟩
     have hbD:=hDb _ _ _ HBC.out (by decide) (by decide)
     have HRL:=Lib.hid (rlimit_runs _ _ _ _ _ (hD.sys.recvAt hg hn hi1 hig hkL).1)
     have x1:=blk_cell hbD 1
     simp only[List.getElem?_toArray,List.getElem?_cons_zero,List.getElem?_cons_succ]at x1
     have HD:=Lib.hid hD
     clear hD hDb hbD HSY HSC HBC
     go_wp2_with fail
     refine HRL.out.mono ?_
     rintro e E ⟨rfl,hE⟩
     have hE2:=HD.out.calm hE
     have w8k:W8 (k:Int)=(k:Int):=by have:=HL3.out;simp[IntKind.wrap,IntKind.bits,IntKind.signed];omega
     have hsay:=hE2.say_runs hg hn hlv i hig ⟨2,W8 (k:Int),W16 (rlim (s.next i k) (s.held i k) g.p.room),0,0,0⟩ (by have:=HLN2.out;rw[List.length_append];simp only[List.length_singleton];omega) y HY.out
     unfold Frm.val at hsay
     simp only at hsay
     have HSY:=Lib.hid hsay
     have htk2:T1=T0 ++ [(y,outB ⟨3,W8 (k:Int),W16 (s.sent i k),0,0,0⟩),(y,outB ⟨2,W8 (k:Int),W16 (rlim (s.next i k) (s.held i k) g.p.room),0,0,0⟩)]:=by rw[HTK.out];unfold tellO;rw[HY.out]
     rw[w8k]at HSY htk2
     have HT1:=Lib.hid htk2
     clear hsay w8k htk2 hE hE2 HRL x1 HD
     go_wp2_with fail
     refine HSY.out.mono ?_
     rintro e F ⟨rfl,hF,_⟩
     have HF:=Lib.hid hF
     clear hF HSY
     go_wp2_with fail
     go_roundw
     case rel=>exact⟨k+1,by omega,by go_num,by
      rw[HTE.out,HT1.out]
      have:=HF.out
      simp only[List.append_assoc,List.cons_append,List.nil_append]at this ⊢
      exact this⟩
     case measure=>simp[intOf];omega
    ·obtain rfl:k=ln:=by omega
     have hkk:¬((k:Int) < (k:Int)):=by omega
     have HS2:=Lib.hid hS
     have heq:l ++ X0 ++ tellK g v s i k=l ++ X1:=by
      rw[HXS.out]
      rcases HLN.out with⟨h1,h2⟩ | ⟨h1,h2⟩
      ·rw[if_pos h1,h2];simp[tellK]
      ·rw[if_neg (by omega),hL,h2,List.append_assoc]
     have HEQ:=Lib.hid heq
     clear hS heq
     go_wp2_with fail
     go_roundw
     case rel=>exact⟨i+1,by omega,by go_num,by rw[HX1.out,←HEQ.out];exact HS2.out⟩
     case measure=>simp[intOf];omega
  ·obtain rfl:i=n:=by omega
   have hii:¬((i:Int) < (i:Int)):=by omega
   have HS:=Lib.hid hS
   clear hS
   go_wp2_with fail
   go_end0
   exact⟨rfl,HS.out⟩
end
end Go.Proofs.YtebnflpanfmicaaGreatDoor
namespace Go.Proofs.YtebnflpanfmicaaGreatDoor
open Go.RowKit
section
variable {g:Geo} {v:Nat} {s:NodeS} {c:Nat}
theorem NodeOk.more (h:NodeOk g v s c) {c':Nat} (hc:c≤c'):NodeOk g v s c':=⟨h.wheel,h.G,h.A,h.q,h.wait,Nat.le_trans h.came hc⟩
theorem takeW_same (s:NodeS) (i t k:Nat):(takeW s i t k).q=s.q∧(takeW s i t k).left=s.left∧(takeW s i t k).from_=s.from_∧(takeW s i t k).G=s.G∧(takeW s i t k).A=s.A∧(takeW s i t k).sent=s.sent∧(takeW s i t k).limit=s.limit∧(takeW s i t k).ticks=s.ticks:=by
 unfold takeW
 split <;>exact⟨rfl,rfl,rfl,rfl,rfl,rfl,rfl,rfl⟩
theorem moveS_same (g:Geo) (i t:Nat) (s:NodeS):(moveS g i t s).left=(turnW s t (pickW g s i t).2.1 (pickW g s i t).2.2).left∧(moveS g i t s).from_=(turnW s t (pickW g s i t).2.1 (pickW g s i t).2.2).from_∧(moveS g i t s).G=s.G∧(moveS g i t s).A=s.A∧(moveS g i t s).ticks=s.ticks∧(∀k,k < 3→(moveS g i t s).q k=s.q k)∧((moveS g i t s).q 3).length≤(s.q 3).length+1:=by
 unfold moveS
 simp only
 split
 ·exact⟨rfl,rfl,rfl,rfl,rfl,fun _ _=>rfl,Nat.le_succ _⟩
 ·obtain⟨h1,h2,h3,h4,h5,h6,h7,h8⟩:=takeW_same (turnW s t (pickW g s i t).2.1 (pickW g s i t).2.2) i t (pickW g s i t).1.toNat
  split
  ·refine⟨h2,h3,h4,h5,h8,fun k hk=> ?_, ?_⟩
   ·show setAt _ 3 _ k=_
    rw[setAt_other _ _ _ _ (by omega),h1];rfl
   ·simp only[setAt_same,List.length_append,List.length_singleton,h1]
    exact Nat.le_refl _
  ·refine⟨h2,h3,h4,h5,h8,fun k hk=> ?_, ?_⟩
   ·show(takeW _ _ _ _).q k=_
    rw[h1];rfl
   ·show((takeW _ _ _ _).q 3).length≤_
    rw[h1];exact Nat.le_succ _
theorem NodeOk.move (h:NodeOk g v s c) {i t:Nat} (ht:t < g.ports v):NodeOk g v (moveS g i t s) (c+1):=by
 obtain⟨h1,h2,h3,h4,h5,h6,h7⟩:=moveS_same g i t s
 refine⟨fun j hj=> ?_,fun k hk=>by rw[h3];exact h.G k hk,fun k hk=>by rw[h4];exact h.A k hk,fun k hk x hx=>h.q k hk x (by rw[←h6 k hk];exact hx),fun k hk=>by rw[h6 k hk];exact h.wait k hk,by have:=h.came;omega⟩
 rw[h1,h2]
 unfold turnW
 simp only
 by_cases hjt:j=t
 ·subst hjt
  rw[if_pos rfl,if_pos rfl]
  exact(wheelPick_ok (h.wheel j hj)).1
 ·rw[if_neg hjt,if_neg hjt]
  exact h.wheel j hj
theorem moveO_length (g:Geo) (v i t:Nat) (s:NodeS):(moveO g v i t s).length≤1:=by
 unfold moveO
 simp only
 split <;>simp
theorem movesO_length (g:Geo) (v:Nat) (m:Nat→Int) (s:NodeS):∀i,(movesO g v m s i).length≤i
 | 0=>Nat.le_refl _
 | i+1=>by
   have:=movesO_length g v m s i
   have:=moveO_length g v i (m i).toNat (movesS g m s i)
   unfold movesO
   split
   ·rw[List.length_append];omega
   ·omega
theorem NodeOk.moves (h:NodeOk g v s c) {m:Nat→Int} (hm:∀i,m i < g.ports v):∀i,NodeOk g v (movesS g m s i) (c+i)
 | 0=>h
 | i+1=>by
   have ih:=NodeOk.moves h hm i
   unfold movesS
   split
   ·exact ih.move (by have:=hm i;omega)
   ·exact ih.more (by omega)
theorem feedOne_same (g:Geo) (v:Nat) (s:NodeS) (k:Nat):(feedOne g v s k).left=s.left∧(feedOne g v s k).from_=s.from_∧(feedOne g v s k).G=s.G∧(feedOne g v s k).A=s.A∧(feedOne g v s k).ticks=s.ticks∧∀j,j≠k→(feedOne g v s k).q j=s.q j:=by
 unfold feedOne
 split
 ·exact⟨rfl,rfl,rfl,rfl,rfl,fun _ _=>rfl⟩
 ·split
  ·exact⟨rfl,rfl,rfl,rfl,rfl,fun _ _=>rfl⟩
  ·exact⟨rfl,rfl,rfl,rfl,rfl,fun j hj=>setAt_other _ _ _ _ hj⟩
theorem feedTo_same (g:Geo) (v:Nat) (s:NodeS):∀k,(feedTo g v s k).left=s.left∧(feedTo g v s k).from_=s.from_∧(feedTo g v s k).G=s.G∧(feedTo g v s k).A=s.A∧(feedTo g v s k).ticks=s.ticks∧∀j,k≤j→(feedTo g v s k).q j=s.q j
 | 0=>⟨rfl,rfl,rfl,rfl,rfl,fun _ _=>rfl⟩
 | k+1=>by
   obtain⟨a1,a2,a3,a4,a5,a6⟩:=feedTo_same g v s k
   obtain⟨b1,b2,b3,b4,b5,b6⟩:=feedOne_same g v (feedTo g v s k) k
   exact⟨b1.trans a1,b2.trans a2,b3.trans a3,b4.trans a4,b5.trans a5,fun j hj=>(b6 j (by omega)).trans (a6 j (by omega))⟩
theorem feedOne_len (g:Geo) (v:Nat) (s:NodeS) (k j:Nat):((feedOne g v s k).q j).length≤(s.q j).length:=by
 unfold feedOne
 split
 ·exact Nat.le_refl _
 ·split
  ·exact Nat.le_refl _
  ·rename_i x r e
   simp only[setAt]
   split
   ·rename_i h;subst h;rw[e];simp
   ·exact Nat.le_refl _
theorem feedTo_len (g:Geo) (v:Nat) (s:NodeS):∀(k j:Nat),((feedTo g v s k).q j).length≤(s.q j).length
 | 0,_=>Nat.le_refl _
 | k+1,j=>Nat.le_trans (feedOne_len g v _ k j) (feedTo_len g v s k j)
theorem NodeOk.fed (h:NodeOk g v s c) (h3:g.ws.length≤3):NodeOk g v (fedW g v s) c:=by
 obtain⟨a1,a2,a3,a4,a5,a6⟩:=feedTo_same g v s g.ws.length
 unfold fedW
 exact⟨fun i hi=>by rw[a1,a2];exact h.wheel i hi,fun k hk=>by rw[a3];exact h.G k hk,fun k hk=>by rw[a4];exact h.A k hk,
  fun k hk x hx=>h.q k hk x (feedTo_q g v s _ k x hx),fun k hk=>by have:=feedTo_len g v s g.ws.length k;have:=h.wait k hk;omega,by rw[a6 3 h3];exact h.came⟩
theorem match_fit (h:NodeOk g v s c):Fit (g.ports v) (matchW g v s):=fit_rounds (fit_start h.G h.A) _
theorem NodeOk.ran (h:NodeOk g v s c) (h3:g.ws.length≤3):NodeOk g v (ranW g v s) c:=by
 have hf:=h.fed h3
 have hm:=match_fit hf
 exact⟨hf.wheel,hm.g,hm.a,hf.q,hf.wait,hf.came⟩
theorem NodeOk.moved (h:NodeOk g v s c) (h3:g.ws.length≤3):NodeOk g v (movedW g v s) (c+g.ports v):=
 (h.ran h3).moves (match_fit (h.fed h3)).hi _
theorem NodeOk.tick (h:NodeOk g v s c) (h3:g.ws.length≤3):NodeOk g v (tickS g v s) (c+g.ports v):=by
 have:=h.moved h3
 exact⟨this.wheel,this.G,this.A,this.q,this.wait,this.came⟩
theorem NodeOk.take (h:NodeOk g v s c) (x:Nat) (b:List Int):NodeOk g v (takeS g v x b s).1 c:=by
 unfold takeS
 split
 ·exact h
 ·split
  ·exact h
  ·unfold frameS
   split
   ·exact h
   ·simp only
    split
    ·exact⟨h.wheel,h.G,h.A,h.q,h.wait,h.came⟩
    ·split
     ·exact⟨h.wheel,h.G,h.A,h.q,h.wait,h.came⟩
     ·split
      ·exact h
      ·split
       ·exact⟨h.wheel,h.G,h.A,h.q,h.wait,h.came⟩
       ·exact h
end
end Go.Proofs.YtebnflpanfmicaaGreatDoor
namespace Go.Proofs.YtebnflpanfmicaaGreatDoor
open Go.RowKit
section
variable {σ:Sig} {w:World} {o:Nat→Option Cmp} {f v:Nat} {g:Geo} {a:NodeA} {s:NodeS}
theorem Sys.step0 {ι:Type} {A A':ι→Part} {w w':World} {o:Nat→Option ι} (h:Sys A w o) (c:ι) (hA:∀x,x≠c→A' x=A x) (hk:Keeps (fun k=>o k=some c) w w') (hB:(A' c).at_ w' (fun k=>o k=some c)):Sys A' w' o∧Ext o w o w':=by
 refine⟨⟨fun x=> ?_,fun k x e=>Nat.lt_of_lt_of_le (h.lt k x e) hk.size⟩,hk.mono (fun i _ e=>by rw[e];rfl),fun _ _=>rfl⟩
 by_cases hx:x=c
 ·subst hx;exact hB
 ·rw[hA x hx]
  exact(A x).keeps (h.part x) hk (fun k e1 e2=>by rw[e1]at e2;exact hx (Option.some.inj e2))
theorem SysF.stepArb0 {w':World} (h:SysF σ w o) (hg:σ.geo f=some g) (hn:σ.node f v=some (a,s)) {G A:Nat→Nat} (hk:Keeps (fun b=>b=a.ga∨b=a.aa) w w') (hw:Arb w' a.ab (g.ports v) (lst (g.ports v) G) (lst (g.ports v) A) a.ga a.aa):
  SysF (σ.set f v a {s with G:=G,A:=A}) w' o∧Ext o w o w':=by
 obtain⟨_,b1,b2,b3⟩:=h.arb hg hn
 have hK:Keeps (fun b=>o b=some (.arb f v)) w w':=hk.mono (fun b _ e=>by rcases e with rfl | rfl <;>assumption)
 refine Sys.step0 h (.arb f v) (set_arb hn G A) hK ?_
 simp only[Sig.part,Sig.set,hg,and_self,if_true]
 exact⟨hw,b1,b2,b3,fun b e=>Nat.lt_of_lt_of_le (Sys.lt h b _ e) hK.size⟩
theorem SysF.stepTicks (h:SysF σ w o) (hg:σ.geo f=some g) (hn:σ.node f v=some (a,s)) (y:Int):SysF (σ.set f v a {s with ticks:=y}) (w.setCell ⟨a.nb,16,none⟩ (.int .i64 y)) o∧Ext o w o (w.setCell ⟨a.nb,16,none⟩ (.int .i64 y)):=by
 have N:=h.nodeR hg hn
 have hk1:Keeps (fun b=>b=a.nb) w (w.setCell ⟨a.nb,16,none⟩ (.int .i64 y)):=Keeps.setCell _ _ _ _ rfl
 have hK:Keeps (fun b=>o b=some (.node f v)) w (w.setCell ⟨a.nb,16,none⟩ (.int .i64 y)):=Keeps.setCell _ _ _ _ N.sb
 refine Sys.step0 h (.node f v) (set_node hn y) hK ?_
 simp only[Sig.part,Sig.set,hg,and_self,if_true]
 exact⟨blk_set N.box 16 _,N.pq.keeps hk1 (fun k e=>(N.pown k e).2),fun i h1 h2=>(N.lq i h1 h2).keeps hk1 (fun k e=>(N.lown i h1 h2 k e).2),N.l0,N.pown,N.lown,N.sb,fun k e=>Nat.lt_of_lt_of_le (Sys.lt h k _ e) hK.size⟩
theorem tellK_ticks (g:Geo) (v:Nat) (s:NodeS) (y:Int) (i:Nat):∀k,tellK g v {s with ticks:=y} i k=tellK g v s i k
 | 0=>rfl
 | k+1=>by rw[tellK,tellK,tellK_ticks g v s y i k];rfl
theorem exchO_ticks (g:Geo) (v:Nat) (s:NodeS) (y:Int):∀i,exchO g v {s with ticks:=y} i=exchO g v s i
 | 0=>rfl
 | i+1=>by rw[exchO,exchO,exchO_ticks g v s y i,tellK_ticks]
theorem QS.wholeI {w:World} {u:Value} {n:Nat} {cs:List Value} (h:QS w 3 1 u n cs) (hn:0 < n):∃gb off cap cur,u= .slice (some ⟨gb,off,none⟩) n cap∧w.heap[gb]? =some (.cells cur 3 (0,0))∧∀j x,cs[j]? =some x→cur[off+j]? =some x:=by
 rcases h.2 with⟨_,h0⟩ | ⟨g,off,cap,cur,hv,hg,_,_,_,hc⟩
 ·omega
 ·exact⟨g,off,cap,cur,hv,hg,fun j x hx=>by rw[hc j (List.getElem?_eq_some_iff.1 hx).1];exact hx⟩
set_option maxRecDepth 100000 in
set_option maxHeartbeats 16000000 in
theorem tick_runs (h:SysF σ w o) (hT:Tab w) (h00:o 0=none) (hg:σ.geo f=some g) (hn:σ.node f v=some (a,s)) (hv:v≤g.t.length) (hlv:∀i,∃A n c,a.lv i= .slice A n c) (c:Nat) (hok:NodeOk g v s c) (hc:c≤900000000) (n L:Nat) (hpn:g.ports v=n) (h1:1≤n) (h6:n≤6) (hL:g.ws.length=L):
  Calls Tryz.prog 65 #[.pointer (some ⟨a.nb,0,none⟩)] w fun e w'=>∃A m cap us o',e= .returned (.slice A m cap)∧SysF (σ.set f v a (tickS g v s)) w' o'∧Ext o w o' w'∧OutR w' w.heap.size o' (.slice A m cap) us (tickO g v s)∧m=(tickO g v s).length:=by
 have hp:=h.planS hg
 have hL3:L≤3:=by have:=hp.nums.lanes.2;have:=hp.lanes;omega
 have hRd:=hp.nums.rounds
 have hEv:=hp.nums.every
 have hkX:Keeps (fun _=>False) w (w.alloc (.cells #[.pointer (some ⟨a.nb,0,none⟩)] 58)):=Keeps.alloc _ _ _
 have hkO:Keeps (fun _=>False) w ((w.alloc (.cells #[.pointer (some ⟨a.nb,0,none⟩)] 58)).alloc (.cells #[.slice none 0 0] 140)):=hkX.trans (Keeps.alloc _ _ _)
 have hbx:=blk_alloc (blk_new w (.cells #[.pointer (some ⟨a.nb,0,none⟩)] 58)) (.cells #[.slice none 0 0] 140)
 have hbo:=blk_new (w.alloc (.cells #[.pointer (some ⟨a.nb,0,none⟩)] 58)) (.cells #[.slice none 0 0] 140)
 rw[World.size_alloc]at hbo
 have hfx:=SysF.fresh h (Nat.le_refl w.heap.size)
 have hfo:o (w.heap.size+1)=none:=SysF.fresh h (Nat.le_succ w.heap.size)
 have hsay:SayV ((w.alloc (.cells #[.pointer (some ⟨a.nb,0,none⟩)] 58)).alloc (.cells #[.slice none 0 0] 140)) w.heap.size o (w.heap.size+1) w.heap.size a.nb []:=
  ⟨_,[],hbo,hbx,⟨rfl,QS.nil _ _ _,fun k e=>(by simp[Value.ownBlock]at e),fun u hu=>(by cases hu),fun j u x e=>(by simp at e)⟩,⟨by omega,hfo⟩,⟨by omega,hfx⟩⟩
 have HSAY:=Lib.hid hsay
 have hsO:=SysF.calm' h hkO
 have heO:=Ext.keeps o hkO
 have HFE:=Lib.hid (feed_runs hsO hg hn hv hlv hok.q n L hpn h6 hL)
 have HEO:=Lib.hid heO
 have x0:((w.alloc (.cells #[.pointer (some ⟨a.nb,0,none⟩)] 58)).alloc (.cells #[.slice none 0 0] 140)).cell? ⟨w.heap.size,0,none⟩=some (.pointer (some ⟨a.nb,0,none⟩)):=by rw[blk_cell hbx];rfl
 have HBX:=Lib.hid hbx
 obtain⟨tS,htS⟩:∃x,tickS g v s=x:=⟨_,rfl⟩
 obtain⟨tO,htO⟩:∃x,tickO g v s=x:=⟨_,rfl⟩
 have HtS:=Lib.hid htS
 have HtO:=Lib.hid htO
 rw[htS,htO]
 have H:=Lib.hid h
 clear h hp hsay hsO heO hbx hbo hkX hkO htS htO
 go_enter Tryz.func65,Tryz.ntmps65
 go_wp2_with fail
 generalize (w.alloc (.cells #[.pointer (some ⟨a.nb,0,none⟩)] 58)).alloc (.cells #[.slice none 0 0] 140)=O at*
 obtain⟨ob,hob⟩:∃ob,w.heap.size+1=ob:=⟨_,rfl⟩
 obtain⟨xb,hxb⟩:∃xb,w.heap.size=xb:=⟨_,rfl⟩
 rw[hob,hxb]at HSAY
 rw[hob]
 rw[hxb]at x0 HBX hfx ⊢
 rw[hob]at hfo
 have HXB:=Lib.hid hxb
 clear hob hxb
 refine HFE.out.mono ?_
 rintro e F ⟨rfl,o1,hS1,hE1⟩
 have hfd:feedTo g v s L=fedW g v s:=by unfold fedW;rw[hL]
 rw[hfd]at hS1
 have hok1:=hok.fed (by omega)
 have hFit:=match_fit hok1
 obtain⟨s1,hs1⟩:∃s1,fedW g v s=s1:=⟨_,rfl⟩
 have HS1E:=Lib.hid hs1
 rw[hs1]at hS1 hok1 hFit
 have hn1:=set_get (σ:=σ) f v a s1
 have hT1:=(HEO.out.trans hE1).tab hT h00
 have hbx1:=blk_keeps hE1.1 HBX.out (by rw[hfx];decide)
 have hfx1:o1 xb=none:=(hE1.2 _ (blk_lt HBX.out)).trans hfx
 have N1:=hS1.nodeR hg hn1
 have c0:F.cell? ⟨a.nb,0,none⟩=some (.pointer (some ⟨a.ab,0,none⟩)):=by rw[blk_cell N1.box];rfl
 have c6:F.cell? ⟨a.nb,6,none⟩=some (.int .i64 g.p.rounds):=by rw[blk_cell N1.box];rfl
 have cx:F.cell? ⟨xb,0,none⟩=some (.pointer (some ⟨a.nb,0,none⟩)):=by rw[blk_cell hbx1];rfl
 have hnb1:o1 a.nb=some (.node f v):=N1.sb
 obtain⟨hA1,b1,b2,b3⟩:=hS1.arb hg hn1
 obtain⟨R,hRR⟩:∃R:Nat,g.p.rounds=(R:Int):=⟨g.p.rounds.toNat,by omega⟩
 have hM:matchW g v s1=roundsP (asks (asksAt s1 L n n 0)) n (start s1.G s1.A) R:=by unfold matchW;rw[hL,hpn,hRR];rfl
 rw[hpn]at hA1 hFit
 have HASK:=Lib.hid (p:=∀U,Keeps (fun _=>False) F U→_) fun U hU=>asks_runs (SysF.calm' hS1 hU) hg hn1 n hpn h6
 rw[hL]at HASK
 have HRUN:=Lib.hid (p:=∀U rb,Keeps (fun _=>False) F U→U.heap[rb]? =some (.cells ((asksAt s1 L n n 0).map encU).toArray 23 (0,0))→_) fun U rb hU hrb=>
  run_calls s1.G s1.A n a.ab a.ga a.aa R (.slice (some ⟨rb,0,none⟩) n n) (asksAt s1 L n n 0) h1 (by omega) (by omega) (by omega) U (hT1.1.keeps hU (fun h=>h)) (hA1.keeps hU (fun _ _ h=>h)) (fun k hk=>by have:=hok1.G k (by rw[hpn];exact hk);rw[hpn]at this;exact this) (fun k hk=>by have:=hok1.A k (by rw[hpn];exact hk);rw[hpn]at this;exact this)
   (QS.reads (e:=23) ⟨by simp[asksAt_length], .inr ⟨rb,0,n,_,rfl,hrb,Nat.le_refl _,by simp[maxLen];omega,by simp[asksAt_length],fun j hj=>by simp⟩⟩)
   (fun x hx=>by
    obtain⟨i,hi,rfl⟩:=List.mem_map.1 hx
    have e1:=askTo_lt s1 L i n
    have e2:2^n≤2^6:=Nat.pow_le_pow_right (by decide) h6
    have hi2:i < n:=List.mem_range.1 hi
    split
    ·omega
    ·omega) (asksAt_length _ _ _ _ _)
 rw[←hM]at HRUN
 obtain⟨M,hMM⟩:∃M,matchW g v s1=M:=⟨_,rfl⟩
 rw[hMM]at HRUN hFit
 have HMM:=Lib.hid hMM
 clear hMM
 have HSS:=Lib.hid (p:=∀(P:Nat→Prop) Z,Keeps P F Z→¬P xb→¬P a.nb→Z.cell? ⟨xb,0,none⟩=some (.pointer (some ⟨a.nb,0,none⟩))∧Z.cell? ⟨a.nb,0,none⟩=some (.pointer (some ⟨a.ab,0,none⟩))∧Z.cell? ⟨a.nb,6,none⟩=some (.int .i64 R)) fun P Z hZ h1 h2=>⟨hZ.cell cx h1,hZ.cell c0 h2,by rw[←hRR];exact hZ.cell c6 h2⟩
 have hdF:Keeps (fun _=>False) F F.drew:=Keeps.drew _ _
 have hsd:=HSS.out _ _ hdF (fun h=>h) (fun h=>h)
 have hP1:¬(fun k=>k=a.ga∨k=a.aa) xb:=fun h=>by rcases h with h | h <;>rw[h]at hfx1 <;>simp_all
 have hP2:¬(fun k=>k=a.ga∨k=a.aa) a.nb:=fun h=>by rcases h with h | h <;>rw[h]at hnb1 <;>simp_all
 have HS1:=Lib.hid hS1
 have HE1:=Lib.hid (HEO.out.trans hE1)
 have HSAY1:=Lib.hid (HSAY.out.ext hE1)
 have HOK:=Lib.hid hok1
 have HFIT:=Lib.hid hFit
 have HX:=Lib.hid cx
 clear hfd hs1 hS1 hE1 hok1 hFit hbx1 N1 c0 c6 cx hA1 hM hRR HSAY HFE HEO hT1 x0
 go_wp2_with fail
 go_region_held3 (fun Z=>Z.cell? ⟨xb,0,none⟩=some (.pointer (some ⟨a.nb,0,none⟩))∧Z.cell? ⟨a.nb,0,none⟩=some (.pointer (some ⟨a.ab,0,none⟩))∧Z.cell? ⟨a.nb,6,none⟩=some (.int .i64 R))
  (with_reducible first | exact hsd | exact hsW | exact hsZ | go_keep)
  (first
   | (go_at_call 127;refine(HASK.out _ hdF).mono ?_;rintro e W ⟨rb,rfl,hrb,hW,hrs⟩;have hFW:=hdF.trans hW;have hsW:=HSS.out _ _ hFW (fun h=>h) (fun h=>h))
   | (go_at_call 126;refine(HRUN.out _ rb hFW hrb).mono ?_;rintro e Z ⟨u,rfl,hu,hAr,hZ,hun⟩;obtain⟨gb,off,cap,cur,rfl,hgb,hcur⟩:=hu.wholeI (by omega);have hsZ:=HSS.out _ _ ((hFW.mono (fun _ _ h=>h.elim)).trans hZ) hP1 hP2))
 rw[←hpn]at hAr
 obtain⟨hS2,hE2⟩:=SysF.stepArb0 (SysF.calm' HS1.out hFW) hg hn1 hZ hAr
 rw[set_set]at hS2
 have hE2':=(Ext.keeps o1 hFW).trans hE2
 have hgn:o1 gb=none:=SysF.fresh (SysF.calm' HS1.out hFW) (hun gb rfl)
 have HSZ:Hid (Saying (σ.set f v a {s1 with G:=M.G,A:=M.A}) w o Z o1 ob xb gb cur a.nb []):=Lib.hid ⟨hS2,HE1.out.trans hE2',by rw[HXB.out];exact HSAY1.out.ext hE2',hgb,hgn⟩
 have hran:ranW g v s={s1 with G:=M.G,A:=M.A}:=by unfold ranW;rw[HS1E.out,HMM.out]
 obtain⟨sR,hsR⟩:∃sR,sR={s1 with G:=M.G,A:=M.A}:=⟨_,rfl⟩
 rw[←hsR]at hran HSZ
 have hmoved:movedW g v s=movesS g M.m sR n:=by unfold movedW;rw[HS1E.out,HMM.out,hran,hpn]
 have htick:tickS g v s={movesS g M.m sR n with ticks:=wrap64 ((movesS g M.m sR n).ticks+1)}:=by unfold tickS;rw[hmoved]
 have htickO:tickO g v s=movesO g v M.m sR n ++ (if Int.tmod (wrap64 ((movesS g M.m sR n).ticks+1)) g.p.every=0 then exchO g v (movesS g M.m sR n) n else []):=by
  unfold tickO;rw[HS1E.out,HMM.out,hran,htick,hmoved,hpn]
 rw[HtS.out]at htick
 rw[HtO.out]at htickO
 have HTK:=Lib.hid htick
 have HTO:=Lib.hid htickO
 have HNO:=Lib.hid (p:=∀i,NodeOk g v (movesS g M.m sR i) (c+i)) (by
  have h2:=hok.ran (by omega:g.ws.length≤3)
  rw[hran]at h2
  exact h2.moves (fun i=>by rw[hpn];exact HFIT.out.hi i))
 have HMC:=Lib.hid (p:=∀j,j < n→cur[off+j]? =some (.int .i64 (M.m j))) fun j hj=>hcur j _ (by rw[List.getElem?_map];unfold lst;rw[List.getElem?_map,List.getElem?_range hj];rfl)
 clear hS2 hE2 hE2' hgn hu hAr hZ hun hgb hcur hrb hW hrs hFW hsW hsZ hsd hdF HASK HRUN HSS HS1 HE1 HSAY1 hran hsR hmoved htick htickO
 go_wp2_with fail
 go_loopw [23] (fun c wr=>∃(i:Nat) (o':Nat→Option Cmp),i≤n∧c= .int .i64 (i:Int)∧Saying (σ.set f v a (movesS g M.m sR i)) w o wr o' ob xb gb cur a.nb (movesO g v M.m sR i)) (fun c _=>n - (intOf c).toNat)
 case atStart=>exact⟨0,_,Nat.zero_le _,rfl,HSZ.out⟩
 case round=>
  obtain⟨i,o',hi,rfl,hS⟩:=hrel
  by_cases hin:i < n
  ·have hii:(i:Int) < (n:Int):=by omega
   have hi0:(0:Int)≤(i:Int):=by omega
   have cm:wr.cell? ⟨gb,off+i,none⟩=some (.int .i64 (M.m i)):=by rw[blk_cell hS.mat.1];exact HMC.out i hin
   obtain⟨vv,us,hsy⟩:=hS.say
   have cx:wr.cell? ⟨xb,0,none⟩=some (.pointer (some ⟨a.nb,0,none⟩)):=by rw[blk_cell hsy.nbx];rfl
   have HS:=Lib.hid hS
   clear hsy hS
   by_cases hm0:0≤M.m i
   ·obtain⟨t,ht⟩:∃t:Nat,M.m i=(t:Int):=⟨(M.m i).toNat,by omega⟩
    have htn:t < n:=by have:=HFIT.out.hi i;omega
    have hmS:movesS g M.m sR (i+1)=moveS g i t (movesS g M.m sR i):=by
     show(if 0≤M.m i then _ else _)=_
     rw[if_pos hm0,ht];rfl
    have hmO:movesO g v M.m sR (i+1)=movesO g v M.m sR i ++ moveO g v i t (movesS g M.m sR i):=by
     show(if 0≤M.m i then _ else _)=_
     rw[if_pos hm0,ht];rfl
    have hlen:=movesO_length g v M.m sR i
    have hno:=HNO.out i
    have HMV:=Lib.hid (move_runs HS.out hT h00 hg (set_get (σ:=σ) f v a (movesS g M.m sR i)) hlv i t (by rw[hpn];exact hin) (by rw[hpn];exact htn) (hno.wheel t (by rw[hpn];exact htn)) (by have:=hno.came;omega) (by omega) L n hL hpn)
    rw[←hmS,←hmO,set_set]at HMV
    have HT1:=Lib.hid ht
    rw[ht]at cm
    have hm1:¬(t:Int) < 0:=by omega
    have hm2:(0:Int)≤(t:Int):=by omega
    clear hmS hmO hno ht hm0 hlen
    go_wp2_with fail
    refine HMV.out.mono ?_
    rintro e V ⟨rfl,o2,hV⟩
    have HV:=Lib.hid hV
    clear hV HMV cm cx
    go_wp2_with fail
    go_roundw
    case rel=>exact⟨i+1,o2,by omega,by go_num,HV.out⟩
    case measure=>simp[intOf];omega
   ·have hmS:movesS g M.m sR (i+1)=movesS g M.m sR i:=if_neg hm0
    have hmO:movesO g v M.m sR (i+1)=movesO g v M.m sR i:=if_neg hm0
    have HMS:=Lib.hid hmS
    have HMO:=Lib.hid hmO
    clear hmS hmO
    go_wp2_with fail
    go_roundw
    case rel=>exact⟨i+1,o',by omega,by go_num,by rw[HMS.out,HMO.out];exact HS.out⟩
    case measure=>simp[intOf];omega
  ·obtain rfl:i=n:=by omega
   have hii:¬((i:Int) < (i:Int)):=by omega
   obtain⟨vv,us,hsy⟩:=hS.say
   have cx:wr.cell? ⟨xb,0,none⟩=some (.pointer (some ⟨a.nb,0,none⟩)):=by rw[blk_cell hsy.nbx];rfl
   obtain⟨oM,hoM⟩:∃oM,movesO g v M.m sR i=oM:=⟨_,rfl⟩
   have HOM:=Lib.hid hoM
   rw[hoM]at hS HTO
   clear hoM
   generalize movesS g M.m sR i=sM at*
   have hnM:=set_get (σ:=σ) f v a sM
   have N:=hS.sys.nodeR hg hnM
   have c16:wr.cell? ⟨a.nb,16,none⟩=some (.int .i64 sM.ticks):=by rw[blk_cell N.box];rfl
   have f16:wr.frozen? ⟨a.nb,16,none⟩=false:=blk_frozen N.box 16
   have hst:=SysF.stepTicks hS.sys hg hnM (wrap64 (sM.ticks+1))
   rw[set_set]at hst
   have hSY:=hS.step hst.1 hst.2
   obtain⟨sY,hsY⟩:∃sY,sY={sM with ticks:=wrap64 (sM.ticks+1)}:=⟨_,rfl⟩
   rw[←hsY]at hSY
   have HSYE:=Lib.hid hsY
   obtain⟨T,hTT⟩:∃T,wrap64 (sM.ticks+1)=T:=⟨_,rfl⟩
   rw[hTT]at hSY hsY
   have HTT:=Lib.hid hTT
   have HSYE:=Lib.hid hsY
   have htk:sY.ticks=T:=by rw[hsY]
   have hnY:=set_get (σ:=σ) f v a sY
   have N2:=hSY.sys.nodeR hg hnY
   obtain⟨vv2,us2,hsy2⟩:=hSY.say
   have d16:(wr.setCell ⟨a.nb,16,none⟩ (.int .i64 T)).cell? ⟨a.nb,16,none⟩=some (.int .i64 T):=by rw[blk_cell N2.box,htk];rfl
   have d7:(wr.setCell ⟨a.nb,16,none⟩ (.int .i64 T)).cell? ⟨a.nb,7,none⟩=some (.int .i64 g.p.every):=by rw[blk_cell N2.box];rfl
   have dx:(wr.setCell ⟨a.nb,16,none⟩ (.int .i64 T)).cell? ⟨xb,0,none⟩=some (.pointer (some ⟨a.nb,0,none⟩)):=by rw[blk_cell hsy2.nbx];rfl
   have HSY:=Lib.hid hSY
   clear hsY hSY hst hS hsy N hnM htk N2 hsy2
   go_wp2_with fail
   generalize wr.setCell ⟨a.nb,16,none⟩ (.int .i64 T)=Y at*
   have he0:(g.p.every == 0)=false:=by rw[beq_eq_false_iff_ne];omega
   have he1:¬g.p.every=0:=by omega
   go_quiet (fail)
   have hSQ:=HSY.out.calm (Keeps.drewN (fun _=>False) Y nq)
   have hSt:sY=tS:=by rw[HTK.out,HSYE.out,HTT.out]
   have hOt:tO=oM ++ (if Int.tmod T g.p.every=0 then exchO g v sY i else []):=by rw[HTO.out,HTT.out,HSYE.out];have e:=exchO_ticks g v sM T i;rw[e]
   have HST:=Lib.hid hSt
   have hol:oM.length≤i:=by rw[←HOM.out];exact movesO_length g v M.m sR i
   have hnY2:=set_get (σ:=σ) f v a sY
   have HEX:=Lib.hid (exchange_runs hSQ hg hnY2 hlv (by omega) L i hL hpn h6)
   obtain⟨vq,uq,hsq⟩:=hSQ.say
   have ex:(Y.drewN nq).cell? ⟨xb,0,none⟩=some (.pointer (some ⟨a.nb,0,none⟩)):=by rw[blk_cell hsq.nbx];rfl
   have HSQ:=Lib.hid hSQ
   have HOT:=Lib.hid hOt
   clear hSt hOt hsq hSQ HSY d16 d7 dx hol hnY2
   generalize Y.drewN nq=Z at*
   by_cases hz:Int.tmod T g.p.every=0
   ·have hz1:(Int.tmod T g.p.every == 0)=true:=by rw[hz];rfl
    have e1:=HOT.out
    rw[if_pos hz]at e1
    have HOT2:=Lib.hid e1
    clear e1 HOT
    go_wp2_with fail
    refine HEX.out.mono ?_
    rintro e V ⟨rfl,hV⟩
    rw[←HOT2.out]at hV
    obtain⟨vq,uq,hsq⟩:=hV.say
    obtain⟨A,cap,hvq,_,_⟩:=hsq.out.row.shape
    have co:V.cell? ⟨ob,0,none⟩=some (.slice A tO.length cap):=by rw[blk_cell hsq.box,←hvq];rfl
    have HV:=Lib.hid hV
    have HO:=Lib.hid hsq.out
    have HVQ:=Lib.hid hvq
    clear hV hsq hvq HEX ex HSQ
    go_wp2_with fail
    go_ret
    exact⟨A,tO.length,cap,uq,o',rfl,by rw[←HST.out];exact HV.out.sys,HV.out.ext,by rw[←HVQ.out];exact HO.out,rfl⟩
   ·have hz1:(Int.tmod T g.p.every == 0)=false:=by rw[beq_eq_false_iff_ne];exact hz
    have e1:=HOT.out
    rw[if_neg hz,List.append_nil]at e1
    have hV:=HSQ.out
    rw[←e1]at hV
    obtain⟨vq,uq,hsq⟩:=hV.say
    obtain⟨A,cap,hvq,_,_⟩:=hsq.out.row.shape
    have co:Z.cell? ⟨ob,0,none⟩=some (.slice A tO.length cap):=by rw[blk_cell hsq.box,←hvq];rfl
    have HV:=Lib.hid hV
    have HO:=Lib.hid hsq.out
    have HVQ:=Lib.hid hvq
    clear hV hsq hvq HEX ex HSQ e1 HOT
    go_wp2_with fail
    go_ret
    exact⟨A,tO.length,cap,uq,o',rfl,by rw[←HST.out];exact HV.out.sys,HV.out.ext,by rw[←HVQ.out];exact HO.out,rfl⟩
end
end Go.Proofs.YtebnflpanfmicaaGreatDoor
