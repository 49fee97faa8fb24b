/-
  Part 43 of the proof: TopDrR, TopDrS, TopDrT, TopDrU, TopDrV, TopDrW.
-/
import Derived.Test.YtebnflpanfmicaaGreatDoorPkBP
set_option linter.unusedVariables false
set_option linter.unusedSimpArgs false
set_option linter.unusedSectionVars false
namespace Go.Proofs.YtebnflpanfmicaaGreatDoor
open Go.RowKit
theorem sumI_add (f f':Nat→Int):∀n,sumI (fun i=>f i+f' i) n=sumI f n+sumI f' n
 | 0=>rfl
 | n+1=>by unfold sumI;rw[sumI_add f f' n];omega
theorem sumI_swap (F:Nat→Nat→Int) (m:Nat):∀n,sumI (fun a=>sumI (fun b=>F a b) m) n=sumI (fun b=>sumI (fun a=>F a b) n) m
 | 0=>by
   show 0=sumI (fun _=>0) m
   rw[sumI_zero]
 | n+1=>by
   rw[sumI,sumI_swap F m n,←sumI_add]
   rfl
section
variable {g:Geo} {c inj:Int} {s:FabS}
theorem FI.numbers (hg:DG g) (h:FI g c inj s):sumI (fun v=>nextAll g v (s.nd v)) (g.t.length+1)≤sumI (fun v=>sentAll g v (s.nd v)) (g.t.length+1):=by
 have e:sumI (fun v=>nextAll g v (s.nd v)) (g.t.length+1)=sumI (fun a=>sumI (fun b=>sumI (fun k=>if a∈nb g.t b then(s.nd b).next (portN g.t b a) k else 0) g.ws.length) (g.t.length+1)) (g.t.length+1):=sumI_swap (fun b a=>sumI (fun k=>if a∈nb g.t b then(s.nd b).next (portN g.t b a) k else 0) g.ws.length) _ _
 rw[e]
 refine sumI_le fun a ha=>sumI_le fun b hb=>sumI_le fun k hk=> ?_
 by_cases h1:b∈nb g.t a
 ·rw[if_pos h1,if_pos (nb_back hg.tree hg.t5 (by omega) h1)]
  exact(h.lane a b (by omega) h1 k hk).ns
 ·rw[if_neg h1,if_neg (fun e=>h1 (nb_back hg.tree hg.t5 (by omega) e))]
  exact Int.le_refl _
theorem FI.inside (hg:DG g) (h:FI g c inj s):sumI (fun v=>nodeW (fun _=>1) (s.nd v) (g.ports v) g.ws.length) (g.t.length+1)+sumI (fun v=>(((s.nd v).q 3).length:Int)) (g.t.length+1)≤inj:=by
 have h1:=h.numbers hg
 have h2:=h.count
 have e:cntF g s+sumI (fun v=>nextAll g v (s.nd v)) (g.t.length+1)=sumI (fun v=>nodeW (fun _=>1) (s.nd v) (g.ports v) g.ws.length) (g.t.length+1)+sumI (fun v=>(((s.nd v).q 3).length:Int)) (g.t.length+1)+sumI (fun v=>sentAll g v (s.nd v)) (g.t.length+1):=by
  unfold cntF
  rw[←sumI_add,←sumI_add,←sumI_add]
  refine sumI_congr fun v _=> ?_
  unfold cntV
  omega
 omega
theorem loadW_nat {f:Pkt→Int} (hf:∀x,0≤f x) (n:NodeS) (P L:Nat):0≤nodeW f n P L:=
 sumI_nat _ (fun _=>by
  have a:=sumP_nat hf
  have b:∀k i,0≤ringW f n P k i:=fun k i=>sumI_nat _ (fun _=>a _) _
  rename_i k
  have:=a (n.q k)
  have:=sumI_nat (ringW f n P k) (b k) P
  unfold loadW;omega) _
theorem gotF_len (s:FabS):∀n,((gotF s n).length:Int)=sumI (fun v=>(((s.nd v).q 3).length:Int)) n
 | 0=>rfl
 | n+1=>by rw[gotF,List.length_append,sumI,←gotF_len s n];push_cast;rfl
theorem FI.got (hg:DG g) (h:FI g c inj s):((gotF s (g.t.length+1)).length:Int)≤inj:=by
 have:=h.inside hg
 have:=sumI_nat (fun v=>nodeW (fun _=>1) (s.nd v) (g.ports v) g.ws.length) (fun v=>loadW_nat (fun _=>by decide) _ _ _) (g.t.length+1)
 rw[gotF_len];omega
theorem nodeW_mono {f f':Pkt→Int} {v:Nat} {n:NodeS} (h:NI g v n) (hff:∀x,PkOk g x→f x≤f' x):nodeW f n (g.ports v) g.ws.length≤nodeW f' n (g.ports v) g.ws.length:=by
 unfold nodeW
 refine sumI_le fun k hk=> ?_
 unfold loadW
 have h1:=sumP_le (f:=f) (f':=f') (l:=n.q k) (fun x hx=>hff x (h.host k hk x hx).1)
 have h2:sumI (ringW f n (g.ports v) k) (g.ports v)≤sumI (ringW f' n (g.ports v) k) (g.ports v):=
  sumI_le fun i _=>sumI_le fun j _=>sumP_le (fun x hx=>hff x (h.ring _ x hx).pk)
 omega
theorem nodeW_mul (f:Pkt→Int) (b:Int) (n:NodeS) (P L:Nat):nodeW (fun x=>b*f x) n P L=b*nodeW f n P L:=by
 have hs:∀(F:Nat→Int) (m:Nat),sumI (fun i=>b*F i) m=b*sumI F m:=by
  intro F m
  induction m with
  | zero=>simp[sumI]
  | succ m ih=>unfold sumI;rw[ih,Int.mul_add]
 unfold nodeW
 rw[←hs]
 refine sumI_congr fun k _=> ?_
 unfold loadW
 rw[sumP_mul,Int.mul_add,←hs]
 congr 1
 refine sumI_congr fun i _=> ?_
 unfold ringW
 rw[←hs]
 exact sumI_congr fun j _=>sumP_mul _ _ _
theorem FI.steps (hg:DG g) (h:FI g c inj s):nodesW g s.nd≤((g.t.length:Int)+1)*inj:=by
 have h1:=h.inside hg
 have h2:=sumI_nat (fun v=>(((s.nd v).q 3).length:Int)) (fun v=>Int.natCast_nonneg _) (g.t.length+1)
 have h3:nodesW g s.nd≤sumI (fun v=>nodeW (fun x=>((g.t.length:Int)+1)*1) (s.nd v) (g.ports v) g.ws.length) (g.t.length+1):=by
  unfold nodesW
  refine sumI_le fun v hv=>nodeW_mono (h.nd v (by omega)) fun x hx=> ?_
  have:=(ds_le hg.tree hg.t5 (v:=v) (x:=x.dst.toNat) (by omega) hx.toNat.1).2
  unfold wayW
  omega
 have hs:∀(F:Nat→Int) (b:Int) (m:Nat),sumI (fun i=>b*F i) m=b*sumI F m:=by
  intro F b m
  induction m with
  | zero=>simp[sumI]
  | succ m ih=>unfold sumI;rw[ih,Int.mul_add]
 rw[sumI_congr (fun v _=>nodeW_mul (fun _=>1) ((g.t.length:Int)+1) (s.nd v) (g.ports v) g.ws.length),hs]at h3
 exact Int.le_trans h3 (Int.mul_le_mul_of_nonneg_left (by omega) (by omega))
end
end Go.Proofs.YtebnflpanfmicaaGreatDoor
namespace Go.Proofs.YtebnflpanfmicaaGreatDoor
open Go.RowKit
section
variable {g:Geo} {c inj:Int} {s:FabS}
theorem FI.gets (hg:DG g) (hc:0≤c∧c≤30000) (h:FI g c inj s) {a b:Nat} (ha:a≤g.t.length) (hb:b∈nb g.t a) {r:List Int} (hr:r∈s.ln (hopI g.t a b)) {Pr:FabS→Prop}
  (mono:∀x y,Onw g x y→Pr x→Pr y) (est:∀s1 l,FI g c inj s1→Onw g s s1→s1.ln (hopI g.t a b)=r :: l→Pr (delF g s1 (hopI g.t a b) 0).1):Pr (delH g s (hopsOf g.t).length):=by
 obtain⟨hh,_⟩:=hop_at hg.tree hg.t5 ha hb
 obtain⟨h0,e0⟩:∃h0,hopI g.t a b=h0:=⟨_,rfl⟩
 obtain⟨a1,a2,_,a4,_⟩:=h.all_del hg hc h0 (by omega)
 obtain⟨j,hj,ej⟩:=List.getElem_of_mem hr
 have hrow:(delH g s h0).ln (hopI g.t a b)=s.ln (hopI g.t a b):=by rw[e0];exact a4 h0 (Nat.le_refl _)
 have step:∀n,j+1≤n→n≤(s.ln (hopI g.t a b)).length→Pr (delN g (hopI g.t a b) (delH g s h0) n):=by
  intro n h1 h2
  induction n with
  | zero=>omega
  | succ n ih=>
    obtain⟨d1,d2,d3,_⟩:=a1.rows_del hg hc ha hb n (by rw[hrow];omega)
    rw[hrow]at d3
    have hd:(delN g (hopI g.t a b) (delH g s h0) n).ln (hopI g.t a b)=(s.ln (hopI g.t a b))[n] :: (s.ln (hopI g.t a b)).drop (n+1):=by
     rw[d3];exact List.drop_eq_getElem_cons (by omega)
    by_cases e:n=j
    ·subst e
     rw[ej]at hd
     exact est _ _ d1 (a2.trans d2) hd
    ·obtain⟨_,_,_,_,f5⟩:=d1.first hg hc ha hb hd
     exact mono _ _ f5 (ih (by omega) (by omega))
 have first:Pr (delH g s (h0+1)):=by
  have:=step (s.ln (hopI g.t a b)).length (by omega) (Nat.le_refl _)
  rw[e0]at this
  show Pr (delN g h0 (delH g s h0) ((delH g s h0).ln h0).length)
  rw[a4 h0 (Nat.le_refl _)]
  exact this
 have rest:∀n,h0+1≤n→n≤(hopsOf g.t).length→Pr (delH g s n):=by
  intro n h1 h2
  induction n with
  | zero=>omega
  | succ n ih=>
    by_cases e:n=h0
    ·subst e;exact first
    ·obtain⟨b1,b2,_,_,_⟩:=h.all_del hg hc n (by omega)
     obtain⟨x,hx⟩:∃x,(hopsOf g.t)[n]? =some x:=⟨_,List.getElem?_eq_getElem (by omega)⟩
     obtain⟨o1,o2,o3,o4,o5⟩:=hop_of hg hx
     have key:=b1.rows_del hg hc o1 o3 ((delH g s n).ln n).length (by rw[o5];exact Nat.le_refl _)
     rw[o5]at key
     exact mono _ _ key.2.1 (ih (by omega) (by omega))
 exact rest _ (by omega) (Nat.le_refl _)
theorem sync_gets (hg:DG g) (hc:0≤c∧c≤30000) (h:FI g c inj s) {a b k:Nat} (ha:a≤g.t.length) (hb:b∈nb g.t a) (hk:k < g.ws.length) {m:Int} (h0:g.p.start≤m) (h1:m≤(s.nd a).sent (portN g.t a b) k):
  m≤(takeS g b a (encF ⟨3,W8 k,W16 m,0,0,0⟩) (s.nd b)).1.next (portN g.t b a) k:=by
 obtain⟨f3,e3⟩:=tell_ok hg hk 3 m (.inr rfl)
 have hab:=nb_back hg.tree hg.t5 ha hb
 have hbn:=nb_le hg.tree hg.t5 ha hb
 have hkl:(W8 (k:Int)).toNat=k:=by rw[e3];exact Int.toNat_natCast k
 have hlane:W8 (k:Int) < (g.ws.length:Int):=by rw[e3];omega
 rw[takeS_frame hab (decF_encF f3),take_sync rfl hlane]
 simp only[hkl,and_self,if_true]
 have L:=h.lane a b ha hb k hk
 have l1:=L.lo;have l2:=L.ns;have l3:=L.sl;have l4:=L.lr;have l5:=L.top
 have hst:=hg.start
 have hroom:=hg.room
 have r:=portN_range hab
 have hH:=(h.nd b hbn).heldr r.1 r.2 hk
 rw[hearR_eq ⟨by omega,by omega⟩ ⟨by omega,by omega⟩ hH.1 hH.2 hroom.2 (by omega) (by omega)]
 omega
theorem cred_gets (hg:DG g) (hc:0≤c∧c≤30000) (h:FI g c inj s) {a b k:Nat} (ha:a≤g.t.length) (hb:b∈nb g.t a) (hk:k < g.ws.length) {m:Int} (h0:g.p.start≤m) (h1:m≤(s.nd b).sent (portN g.t b a) k+8):
  m≤(takeS g b a (encF ⟨2,W8 k,W16 m,0,0,0⟩) (s.nd b)).1.limit (portN g.t b a) k:=by
 obtain⟨f2,e2⟩:=tell_ok hg hk 2 m (.inl rfl)
 have hab:=nb_back hg.tree hg.t5 ha hb
 have hbn:=nb_le hg.tree hg.t5 ha hb
 have hkl:(W8 (k:Int)).toNat=k:=by rw[e2];exact Int.toNat_natCast k
 have hlane:W8 (k:Int) < (g.ws.length:Int):=by rw[e2];omega
 rw[takeS_frame hab (decF_encF f2),take_credit rfl hlane]
 simp only[hkl,and_self,if_true]
 have r:=portN_range hab
 obtain⟨q1,q2,q3⟩:=(h.low hg hc hbn).sl _ k r.1 r.2 hk
 have L:=h.lane b a hbn hab k hk
 have l1:=L.lo;have l2:=L.ns;have l3:=L.sl;have l4:=L.lr;have l5:=L.top
 have ra:=portN_range hb
 have hH:=(h.nd a ha).heldr ra.1 ra.2 hk
 have hst:=hg.start
 have hroom:=hg.room
 rw[hearC_eq q1 q2 ⟨by omega,by omega⟩ (by omega) (by omega)]
 split <;>omega
end
end Go.Proofs.YtebnflpanfmicaaGreatDoor
namespace Go.Proofs.YtebnflpanfmicaaGreatDoor
open Go.RowKit
section
variable {g:Geo} {c inj:Int} {s:FabS}
def Word1 (g:Geo) (row:List Int):Prop:=∃f,row=encF f∧FrmOk f∧f.lane < g.ws.length∧(f.kind=2∨f.kind=3)
def Words (g:Geo) (s:FabS):Prop:=∀a b,a≤g.t.length→b∈nb g.t a→∀row∈s.ln (hopI g.t a b),Word1 g row
theorem take_word {a b:Nat} (ha:a∈nb g.t b) {row:List Int} (h:Word1 g row) (n:NodeS):(takeS g b a row n).1.Q=n.Q∧(takeS g b a row n).1.held=n.held:=by
 obtain⟨f,rfl,h1,h2,h3 | h3⟩:=h
 ·rw[takeS_frame ha (decF_encF h1),take_credit h3 h2];exact⟨rfl,rfl⟩
 ·rw[takeS_frame ha (decF_encF h1),take_sync h3 h2]
  refine⟨rfl, ?_⟩
  funext i' k'
  show(if i'=_∧k'=_ then _ else _)=_
  split
  ·rename_i e;rw[e.1,e.2]
  ·rfl
def SameQ (s s':FabS):Prop:=∀v,(s'.nd v).Q=(s.nd v).Q∧(s'.nd v).held=(s.nd v).held
theorem FI.first_same (hg:DG g) (hc:0≤c∧c≤30000) (h:FI g c inj s) {a b:Nat} (ha:a≤g.t.length) (hb:b∈nb g.t a) {r:List Int} {l:List (List Int)} (hl:s.ln (hopI g.t a b)=r :: l) (hw:Word1 g r):
  SameQ s (delF g s (hopI g.t a b) 0).1:=by
 obtain⟨_,f2,_⟩:=h.first hg hc ha hb hl
 intro v
 rw[f2]
 show(setAt s.nd b _ v).Q=_∧(setAt s.nd b _ v).held=_
 by_cases e:v=b
 ·subst e;rw[put_same];exact take_word (nb_back hg.tree hg.t5 ha hb) hw _
 ·rw[put_other _ _ _ e];exact⟨rfl,rfl⟩
theorem FI.all_same (hg:DG g) (hc:0≤c∧c≤30000) (h:FI g c inj s) (hw:Words g s):∀n,n≤(hopsOf g.t).length→SameQ s (delH g s n)
 | 0,_=>fun _=>⟨rfl,rfl⟩
 | n+1,hn=>by
   have ih:=FI.all_same hg hc h hw n (by omega)
   obtain⟨b1,_,_,b4,_,_⟩:=h.all_del hg hc n (by omega)
   obtain⟨x,hx⟩:∃x,(hopsOf g.t)[n]? =some x:=⟨_,List.getElem?_eq_getElem (by omega)⟩
   obtain⟨o1,o2,o3,o4,o5⟩:=hop_of hg hx
   have hln:(delH g s n).ln (hopI g.t x.1 x.2)=s.ln (hopI g.t x.1 x.2):=b4 _ (by rw[o5];exact Nat.le_refl _)
   have step:∀j,j≤(s.ln (hopI g.t x.1 x.2)).length→SameQ s (delN g (hopI g.t x.1 x.2) (delH g s n) j):=by
    intro j hj
    induction j with
    | zero=>exact ih
    | succ j ihj=>
      obtain⟨d1,_,d3,_⟩:=b1.rows_del hg hc o1 o3 j (by rw[hln];omega)
      rw[hln]at d3
      have hd:(delN g (hopI g.t x.1 x.2) (delH g s n) j).ln (hopI g.t x.1 x.2)=(s.ln (hopI g.t x.1 x.2))[j] :: (s.ln (hopI g.t x.1 x.2)).drop (j+1):=by
       rw[d3];exact List.drop_eq_getElem_cons (by omega)
      have f:=d1.first_same hg hc o1 o3 hd (hw _ _ o1 o3 _ (List.getElem_mem _))
      have i:=ihj (by omega)
      exact fun v=>⟨(f v).1.trans (i v).1,(f v).2.trans (i v).2⟩
   have:=step _ (Nat.le_refl _)
   rw[o5]at this
   show SameQ s (delN g n (delH g s n) ((delH g s n).ln n).length)
   rw[b4 n (Nat.le_refl _)]
   exact this
theorem sendsF_all (v h:Nat):∀(O:List (Nat×List Int)) (ln:Nat→List (List Int)),((ln h).length:Int)+O.length≤g.p.bag→(∀r∈ln h,r∈sendsF g v ln O h)∧∀x∈O,hopI g.t v x.1=h→x.2∈sendsF g v ln O h
 | [],ln,_=>⟨fun r hr=>hr,fun x hx=>(List.not_mem_nil hx).elim⟩
 | y :: O,ln,hb=>by
   rw[List.length_cons]at hb
   by_cases e:hopI g.t v y.1=h
   ·have e1:setAt ln (hopI g.t v y.1) (sendL g.p.bag (ln (hopI g.t v y.1)) y.2) h=ln h ++ [y.2]:=by
     rw[e,put_same]
     unfold sendL
     rw[if_neg (by push_cast at hb;omega)]
    have ih:=sendsF_all v h O (setAt ln (hopI g.t v y.1) (sendL g.p.bag (ln (hopI g.t v y.1)) y.2)) (by rw[e1,List.length_append];simp only[List.length_cons,List.length_nil];push_cast at hb ⊢;omega)
    rw[e1]at ih
    refine⟨fun r hr=>ih.1 r (List.mem_append_left _ hr),fun x hx hx'=> ?_⟩
    rcases List.mem_cons.1 hx with rfl | hx
    ·exact ih.1 _ (List.mem_append_right _ (List.mem_singleton.2 rfl))
    ·exact ih.2 x hx hx'
   ·have e1:setAt ln (hopI g.t v y.1) (sendL g.p.bag (ln (hopI g.t v y.1)) y.2) h=ln h:=put_other _ _ _ (fun e'=>e e'.symm)
    have ih:=sendsF_all v h O (setAt ln (hopI g.t v y.1) (sendL g.p.bag (ln (hopI g.t v y.1)) y.2)) (by rw[e1];push_cast at hb;omega)
    rw[e1]at ih
    refine⟨ih.1,fun x hx hx'=> ?_⟩
    rcases List.mem_cons.1 hx with rfl | hx
    ·exact absurd hx' e
    ·exact ih.2 x hx hx'
theorem sendsF_far (v h:Nat):∀(O:List (Nat×List Int)) (ln:Nat→List (List Int)),(∀x∈O,hopI g.t v x.1≠h)→sendsF g v ln O h=ln h
 | [],_,_=>rfl
 | y :: O,ln,hh=>by
   show sendsF g v _ O h=_
   rw[sendsF_far v h O _ (fun x hx=>hh x (List.mem_cons_of_mem _ hx))]
   exact put_other _ _ _ (fun e=>hh y List.mem_cons_self e.symm)
theorem lnTo_far (hg:DG g) (nd:Nat→NodeS) (ln:Nat→List (List Int)) {a b:Nat} (ha:a≤g.t.length) (hb:b∈nb g.t a) (hO:∀v,v≤g.t.length→∀x∈tickO g v (nd v),x.1∈nb g.t v):
  (∀V,V≤a→lnTo g nd ln V (hopI g.t a b)=ln (hopI g.t a b))∧∀V,a+1≤V→V≤g.t.length+1→lnTo g nd ln V (hopI g.t a b)=lnTo g nd ln (a+1) (hopI g.t a b):=by
 have far:∀v,v≤g.t.length→v≠a→∀l',sendsF g v l' (tickO g v (nd v)) (hopI g.t a b)=l' (hopI g.t a b):=fun v hv hne l'=>
  sendsF_far v _ _ _ (fun x hx e=>hne (hopI_inj hg hv (hO v hv x hx) ha hb e).1)
 constructor
 ·intro V hV
  induction V with
  | zero=>rfl
  | succ V ih=>show sendsF g V _ _ _=_;rw[far V (by omega) (by omega)];exact ih (by omega)
 ·intro V h1 h2
  induction V with
  | zero=>omega
  | succ V ih=>
    by_cases e:V=a
    ·subst e;rfl
    ·show sendsF g V _ _ _=_;rw[far V (by omega) e];exact ih (by omega) (by omega)
end
end Go.Proofs.YtebnflpanfmicaaGreatDoor
namespace Go.Proofs.YtebnflpanfmicaaGreatDoor
open Go.RowKit
section
variable {g:Geo} {c inj:Int} {k v:Nat} {s:FabS}
theorem tellK_len (g:Geo) (v:Nat) (n:NodeS) (i:Nat):∀K,(tellK g v n i K).length=2*K
 | 0=>rfl
 | K+1=>by
   unfold tellK
   rw[List.length_append,tellK_len g v n i K]
   show 2*K+2=_
   omega
theorem exchO_len (g:Geo) (v:Nat) (n:NodeS):∀j,(exchO g v n j).length≤j*(2*g.ws.length)
 | 0=>Nat.zero_le _
 | j+1=>by
   have ih:=exchO_len g v n j
   unfold exchO
   rw[Nat.add_mul,Nat.one_mul]
   split
   ·omega
   ·rw[List.length_append,tellK_len];omega
theorem exchO_all {n:NodeS} {i k:Nat} (h1:1≤i) (hk:k < g.ws.length) {x:Nat×List Int} (hx:x∈tellO g v n i k):∀{j:Nat},i < j→x∈exchO g v n j
 | 0,h=>by omega
 | j+1,h=>by
   have hK:∀K,k < K→x∈tellK g v n i K:=by
    intro K hK
    induction K with
    | zero=>omega
    | succ K ih=>
      unfold tellK
      by_cases e:k=K
      ·subst e;exact List.mem_append_right _ hx
      ·exact List.mem_append_left _ (ih (by omega))
   unfold exchO
   by_cases e:i=j
   ·subst e
    rw[if_neg (by omega)]
    exact List.mem_append_right _ (hK _ hk)
   ·have ih:=exchO_all h1 hk hx (show i < j by omega)
    split
    ·exact ih
    ·exact List.mem_append_left _ ih
theorem tell_word (hg:DG g) {n:NodeS} {i k:Nat} (hk:k < g.ws.length) {x:Nat×List Int} (hx:x∈tellO g v n i k):Word1 g x.2:=by
 unfold tellO at hx
 rcases List.mem_cons.1 hx with rfl | hx
 ·obtain⟨f3,e3⟩:=tell_ok hg hk 3 (n.sent i k) (.inr rfl)
  show Word1 g (outB _)
  unfold outB
  rw[if_pos f3.sound]
  exact⟨_,rfl,f3,by show W8 (k:Int) < _;rw[e3];omega, .inr rfl⟩
 ·rw[List.mem_singleton]at hx
  subst hx
  obtain⟨f2,e2⟩:=tell_ok hg hk 2 (rlim (n.next i k) (n.held i k) g.p.room) (.inl rfl)
  show Word1 g (outB _)
  unfold outB
  rw[if_pos f2.sound]
  exact⟨_,rfl,f2,by show W8 (k:Int) < _;rw[e2];omega, .inl rfl⟩
theorem FI.still (hg:DG g) (hc:0≤c∧c < 30000) (h:FI g c inj s) (hl:∀i,i < (hopsOf g.t).length→s.ln i=[]) {M:Nat→Int}
  (hM:∀v,v≤g.t.length→NT g v (s.nd v) (tickS g v (s.nd v)) (tickO g v (s.nd v)) (M v)) (hu:FI g (c+1) inj (tickF g s)) (h0:∀v,v≤g.t.length→M v=0):
  (∀v,v≤g.t.length→((roundF g s).nd v).Q=(fedW g v (s.nd v)).Q∧((roundF g s).nd v).held=(s.nd v).held∧((roundF g s).nd v).sent=(s.nd v).sent)∧
  (∀a b k,a≤g.t.length→b∈nb g.t a→k < g.ws.length→(s.nd b).next (portN g.t b a) k≤((roundF g s).nd b).next (portN g.t b a) k∧(s.nd b).limit (portN g.t b a) k≤((roundF g s).nd b).limit (portN g.t b a) k)∧
  ((∀v,v≤g.t.length→Int.tmod (tickS g v (s.nd v)).ticks g.p.every=0)→∀a b k,a≤g.t.length→b∈nb g.t a→k < g.ws.length→
    (s.nd a).sent (portN g.t a b) k≤((roundF g s).nd b).next (portN g.t b a) k∧(s.nd a).next (portN g.t a b) k+g.p.room - (s.nd a).held (portN g.t a b) k≤((roundF g s).nd b).limit (portN g.t b a) k):=by
 have hc1:0≤c+1∧c+1≤30000:=⟨by omega,by omega⟩
 have hnd:∀v,v≤g.t.length→(tickF g s).nd v=tickS g v (s.nd v):=fun v hv=>if_pos (by omega)
 have st:=fun v hv=>(hM v hv).still (h0 v hv)
 have hO:∀v,v≤g.t.length→∀x∈tickO g v (s.nd v),x.1∈nb g.t v:=fun v hv x hx=>((hM v hv).rows x hx).1
 have hwords:Words g (tickF g s):=by
  intro a b ha hb row hr
  rcases lnTo_mem s.nd s.ln _ row _ hr with h1 | ⟨v,hv,x,hx,e1,e2⟩
  ·rw[hl _ (hop_at hg.tree hg.t5 ha hb).1]at h1;exact(List.not_mem_nil h1).elim
  ·rw[(st v (by omega)).2.2.2.2.2]at hx
   split at hx
   ·obtain⟨i,k',_,_,hk',hx'⟩:=exchO_mem hx
    rw[←e1];exact tell_word hg hk' hx'
   ·exact(List.not_mem_nil hx).elim
 have hsame:=hu.all_same hg hc1 hwords (hopsOf g.t).length (Nat.le_refl _)
 obtain⟨_,d2,_⟩:=hu.all_del hg hc1 (hopsOf g.t).length (Nat.le_refl _)
 have hlim:∀v,v≤g.t.length→((tickF g s).nd v).limit=(s.nd v).limit:=fun v hv=>by rw[hnd v hv];exact(hM v hv).limit
 have hnx:∀v i k',v≤g.t.length→((tickF g s).nd v).next i k'=(s.nd v).next i k':=fun v i k' hv=>by rw[hnd v hv];exact(hM v hv).next i k'
 have hsn:∀v,v≤g.t.length→((tickF g s).nd v).sent=(s.nd v).sent:=fun v hv=>by rw[hnd v hv];exact(st v hv).2.2.1
 have hhd:∀v,v≤g.t.length→((tickF g s).nd v).held=(s.nd v).held:=fun v hv=>by rw[hnd v hv];exact(st v hv).2.2.2.1
 refine⟨fun v hv=>⟨?_, ?_, ?_⟩,fun a b k' ha hb hk'=> ?_, ?_⟩
 ·exact((hsame v).1.trans (by rw[hnd v hv])).trans (st v hv).1
 ·exact(hsame v).2.trans (hhd v hv)
 ·exact(d2.sent v).trans (hsn v hv)
 ·have hbn:=nb_le hg.tree hg.t5 ha hb
  have r:=portN_range (nb_back hg.tree hg.t5 ha hb)
  have a1:=d2.next b _ k' hbn r.1 r.2 hk'
  have a2:=d2.limit b _ k' hbn r.1 r.2 hk'
  rw[hnx b _ k' hbn]at a1
  rw[hlim b hbn]at a2
  exact⟨a1,a2⟩
 ·intro hex a b k' ha hb hk'
  have hbn:=nb_le hg.tree hg.t5 ha hb
  have hbk:=nb_back hg.tree hg.t5 ha hb
  have r:=portN_range hbk
  have ra:=portN_range hb
  have hw:=h.low hg ⟨hc.1,by omega⟩ ha
  have hOa:tickO g a (s.nd a)=exchO g a (tickS g a (s.nd a)) (g.ports a):=by rw[(st a ha).2.2.2.2.2,if_pos (hex a ha)]
  have hlen:(tickO g a (s.nd a)).length≤36:=by
   rw[hOa]
   have:=exchO_len g a (tickS g a (s.nd a)) (g.ports a)
   have h5:=(nb_rises hg.tree hg.t5 ha).2.2.1
   have h6:g.ports a≤6:=by show(nb g.t a).length+1≤6;omega
   have h3:=hg.l3
   exact Nat.le_trans this (Nat.mul_le_mul h6 (by omega:2*g.ws.length≤6))
  obtain⟨f1,f2⟩:=lnTo_far hg s.nd s.ln ha hb hO
  have on:∀x∈tellO g a (tickS g a (s.nd a)) (portN g.t a b) k',x.2∈(tickF g s).ln (hopI g.t a b):=by
   intro x hx
   have hx2:=exchO_all (g:=g) (v:=a) ra.1 hk' hx ra.2
   have hx1:x.1=b:=by
    unfold tellO at hx
    rcases List.mem_cons.1 hx with rfl | hx
    ·exact pn_port hb
    ·rw[List.mem_singleton]at hx;subst hx;exact pn_port hb
   show x.2∈lnTo g s.nd s.ln (g.t.length+1) (hopI g.t a b)
   rw[f2 _ (by omega) (Nat.le_refl _)]
   have e0:lnTo g s.nd s.ln a (hopI g.t a b)=[]:=by rw[f1 a (Nat.le_refl _)];exact hl _ (hop_at hg.tree hg.t5 ha hb).1
   exact(sendsF_all (g:=g) a (hopI g.t a b) (tickO g a (s.nd a)) (lnTo g s.nd s.ln a) (by rw[e0,hg.bag];simp only[List.length_nil];omega)).2 x (by rw[hOa];exact hx2) (by rw[hx1])
  have eS:(tickS g a (s.nd a)).sent=(s.nd a).sent:=(st a ha).2.2.1
  have eH:(tickS g a (s.nd a)).held=(s.nd a).held:=(st a ha).2.2.2.1
  have eN:=(hM a ha).next (portN g.t a b) k'
  obtain⟨a1,a2⟩:=hw.next _ k' ra.1 ra.2 hk'
  have hH:=(h.nd a ha).heldr ra.1 ra.2 hk'
  have er:=rlim_eq a2 hH.1 hH.2 hg.room.2
  constructor
  ·have hm:=on _ List.mem_cons_self
   obtain⟨f3,_⟩:=tell_ok hg hk' 3 ((tickS g a (s.nd a)).sent (portN g.t a b) k') (.inr rfl)
   rw[show(((tos g.t a).getD (portN g.t a b) 0,outB ⟨3,W8 k',W16 ((tickS g a (s.nd a)).sent (portN g.t a b) k'),0,0,0⟩):Nat×List Int).2=encF ⟨3,W8 k',W16 ((s.nd a).sent (portN g.t a b) k'),0,0,0⟩from by rw[eS];rw[eS]at f3;exact if_pos f3.sound]at hm
   refine hu.gets hg hc1 ha hb hm (Pr:=fun z=>(s.nd a).sent (portN g.t a b) k'≤(z.nd b).next (portN g.t b a) k') (fun x y hxy hx=>Int.le_trans hx (hxy.next b _ k' hbn r.1 r.2 hk')) (fun s1 l h1 ho hln=> ?_)
   obtain⟨_,g2,_⟩:=h1.first hg hc1 ha hb hln
   have:=sync_gets hg hc1 h1 ha hb hk' (m:=(s.nd a).sent (portN g.t a b) k') (hw.sent _ k' ra.1 ra.2 hk') (by rw[ho.sent a,hsn a ha];exact Int.le_refl _)
   show _≤((delF g s1 (hopI g.t a b) 0).1.nd b).next (portN g.t b a) k'
   rw[g2]
   show _≤(setAt s1.nd b _ b).next (portN g.t b a) k'
   rw[put_same];exact this
  ·have hm:=on _ (List.mem_cons_of_mem _ List.mem_cons_self)
   obtain⟨f2',_⟩:=tell_ok hg hk' 2 ((s.nd a).next (portN g.t a b) k'+g.p.room - (s.nd a).held (portN g.t a b) k') (.inl rfl)
   rw[show(((tos g.t a).getD (portN g.t a b) 0,outB ⟨2,W8 k',W16 (rlim ((tickS g a (s.nd a)).next (portN g.t a b) k') ((tickS g a (s.nd a)).held (portN g.t a b) k') g.p.room),0,0,0⟩):Nat×List Int).2=encF ⟨2,W8 k',W16 ((s.nd a).next (portN g.t a b) k'+g.p.room - (s.nd a).held (portN g.t a b) k'),0,0,0⟩from by rw[eN,eH,er];exact if_pos f2'.sound]at hm
   have hL:=(h.lane b a hbn hbk k' hk').ns
   have hroom:=hg.room
   refine hu.gets hg hc1 ha hb hm (Pr:=fun z=>(s.nd a).next (portN g.t a b) k'+g.p.room - (s.nd a).held (portN g.t a b) k'≤(z.nd b).limit (portN g.t b a) k') (fun x y hxy hx=>Int.le_trans hx (hxy.limit b _ k' hbn r.1 r.2 hk')) (fun s1 l h1 ho hln=> ?_)
   obtain⟨_,g2,_⟩:=h1.first hg hc1 ha hb hln
   have:=cred_gets hg hc1 h1 ha hb hk' (m:=(s.nd a).next (portN g.t a b) k'+g.p.room - (s.nd a).held (portN g.t a b) k') (by omega) (by rw[ho.sent b,hsn b hbn];omega)
   show _≤((delF g s1 (hopI g.t a b) 0).1.nd b).limit (portN g.t b a) k'
   rw[g2]
   show _≤(setAt s1.nd b _ b).limit (portN g.t b a) k'
   rw[put_same];exact this
end
end Go.Proofs.YtebnflpanfmicaaGreatDoor
namespace Go.Proofs.YtebnflpanfmicaaGreatDoor
open Go.RowKit
section
variable {g:Geo} {c inj:Int} {s:FabS}
theorem mayTo_none {n:NodeS} {i t L k:Nat} (h:mayTo n i t L=0) (hk:k < L):mayOne n i t k=false:=by
 cases e:mayOne n i t k with
 | false=>rfl
 | true=>
   exfalso
   have:has (mayTo n i t L) k=true:=by rw[mayTo_bt,has_bt,e,decide_eq_true hk];rfl
   rw[h,has_zero]at this
   cases this
theorem lenQ_some {n:NodeS} {P k i:Nat} (h:0 < lenQ n P k i):∃j,j < P∧n.Q ⟨(i:Int),(j:Int),(k:Int)⟩≠[]:=by
 obtain⟨j,hj,h1⟩:=sumI_pos (fun _=>Int.natCast_nonneg _) h
 refine⟨j,hj,fun e=> ?_⟩
 rw[e]at h1
 simp at h1
theorem none_rings (hg:DG g) (hc:0≤c∧c≤30000) (h:FI g c inj s) (hstill:∀v i t,v≤g.t.length→i < g.ports v→t < g.ports v→mayTo (fedW g v (s.nd v)) i t g.ws.length=0)
  (hwin:∀a b k,a≤g.t.length→b∈nb g.t a→k < g.ws.length→(s.nd a).sent (portN g.t a b) k+g.p.room - (s.nd b).held (portN g.t b a) k≤(s.nd a).limit (portN g.t a b) k):
  ∀v i t k,v≤g.t.length→i < g.ports v→t < g.ports v→k < g.ws.length→(fedW g v (s.nd v)).Q ⟨(i:Int),(t:Int),(k:Int)⟩=[]:=by
 have hF:=fun v hv=>(fedW_fed (v:=v) hg (h.nd v hv)).1
 have zero:∀v i k,v≤g.t.length→i < g.ports v→k < g.ws.length→(fedW g v (s.nd v)).Q ⟨(i:Int),((0:Nat):Int),(k:Int)⟩=[]:=by
  intro v i k hv hi hk
  have:=mayTo_none (hstill v i 0 hv hi (by show 0 < (nb g.t v).length+1;omega)) hk
  unfold mayOne at this
  cases e:(fedW g v (s.nd v)).Q ⟨(i:Int),((0:Nat):Int),(k:Int)⟩with
  | nil=>rfl
  | cons x l=>rw[e]at this;simp at this
 have main:∀r v i t k,v≤g.t.length→i < g.ports v→1≤t→t < g.ports v→k < g.ws.length→rk g.t (v,pn g.t v t) < r→(fedW g v (s.nd v)).Q ⟨(i:Int),(t:Int),(k:Int)⟩=[]:=by
  intro r
  induction r with
  | zero=>intro v i t k _ _ _ _ _ h0;omega
  | succ r ih=>
    intro v i t k hv hi h1 ht hk hr
    cases e:(fedW g v (s.nd v)).Q ⟨(i:Int),(t:Int),(k:Int)⟩with
    | nil=>rfl
    | cons x l=>
      exfalso
      have hm:=mayTo_none (hstill v i t hv hi ht) hk
      have hop:¬0 < opn ((fedW g v (s.nd v)).sent t k) ((fedW g v (s.nd v)).limit t k):=fun e'=>by
       unfold mayOne at hm
       rw[e]at hm
       simp only[List.length_cons]at hm
       rw[decide_eq_true (by omega:l.length+1≠0),decide_eq_true e',Bool.or_true,Bool.and_true]at hm
       cases hm
      rw[(hF v hv).sent,(hF v hv).limit]at hop
      obtain⟨q1,q2,q3⟩:=(h.low hg hc hv).sl t k h1 ht hk
      rw[opn_eq q1 q2 q3]at hop
      have hw:=pn_mem h1 ht
      have hp:=port_pn hg.tree hg.t5 hv h1 ht
      obtain⟨w,ew⟩:∃w,pn g.t v t=w:=⟨_,rfl⟩
      rw[ew]at hw hp hr
      have hwn:=nb_le hg.tree hg.t5 hv hw
      have hback:=nb_back hg.tree hg.t5 hv hw
      have rb:=portN_range hback
      have hwin':=hwin v w k hv hw hk
      rw[hp]at hwin'
      have hroom:=hg.room
      have hheld:=(hF w hwn).ni.held _ k rb.1 rb.2 hk
      rw[(hF w hwn).held]at hheld
      obtain⟨t',ht',hne⟩:=lenQ_some (n:=fedW g w (s.nd w)) (P:=g.ports w) (k:=k) (i:=portN g.t w v) (by omega)
      by_cases e0:t'=0
      ·subst e0;exact hne (zero w _ k hwn rb.2 hk)
      ·obtain⟨y,l',hy⟩:∃y l',(fedW g w (s.nd w)).Q ⟨(portN g.t w v:Int),(t':Int),(k:Int)⟩=y :: l':=by
        cases hq:(fedW g w (s.nd w)).Q ⟨(portN g.t w v:Int),(t':Int),(k:Int)⟩with
        | nil=>exact absurd hq hne
        | cons y l'=>exact⟨y,l',rfl⟩
       have hin:=(hF w hwn).ni.ring _ y (by rw[hy];exact List.mem_cons_self)
       obtain⟨i0,ei,_,hon⟩:=hin.inp
       have ei':i0=portN g.t w v:=by have e:((portN g.t w v:Nat):Int)=(i0:Int):=ei;omega
       subst ei'
       obtain⟨n1,n2⟩:=hon rb.1
       rw[pn_port hback]at n1 n2
       obtain⟨m1,m2⟩:=toward_port hg.tree hg.t5 hwn hin.pk.toNat.1 (show 1≤t' by omega) hin.out
       have hless:=rk_less hg.tree hg.t5 hv hin.pk.toNat.1 n2 m1 n1
       exact hne (ih w _ t' k hwn rb.2 (by omega) ht' hk (by rw[m2];omega))
 intro v i t k hv hi ht hk
 by_cases e:t=0
 ·subst e;exact zero v i k hv hi hk
 ·exact main _ v i t k hv hi (by omega) ht hk (Nat.lt_succ_self _)
theorem none_inside (hg:DG g) (hc:0≤c∧c≤30000) (h:FI g c inj s) (hstill:∀v i t,v≤g.t.length→i < g.ports v→t < g.ports v→mayTo (fedW g v (s.nd v)) i t g.ws.length=0)
  (hwin:∀a b k,a≤g.t.length→b∈nb g.t a→k < g.ws.length→(s.nd a).sent (portN g.t a b) k+g.p.room - (s.nd b).held (portN g.t b a) k≤(s.nd a).limit (portN g.t a b) k):
  ∀v,v≤g.t.length→insV g v (s.nd v)=0:=by
 intro v hv
 have hr:=none_rings hg hc h hstill hwin v
 obtain⟨hF,hq⟩:=fedW_fed (v:=v) hg (h.nd v hv)
 have hl:∀k i,k < g.ws.length→i < g.ports v→lenQ (fedW g v (s.nd v)) (g.ports v) k i=0:=fun k i hk hi=>by
  unfold lenQ
  rw[sumI_congr (f':=fun _=>0) (fun j hj=>by rw[hr i j k hv hi hj hk];rfl)]
  exact sumI_zero _
 have hP:0 < g.ports v:=by show 0 < (nb g.t v).length+1;omega
 unfold insV
 rw[sumI_congr (f':=fun _=>0) (fun k hk=> ?_)]
 ·exact sumI_zero _
 ·have h1:(s.nd v).q k=[]:=by
   cases e:(s.nd v).q k with
   | nil=>rfl
   | cons x l=>
     have:=hq k hk (by rw[e];exact List.cons_ne_nil _ _)
     rw[hl k 0 hk hP]at this
     omega
  unfold insK
  rw[h1,sumI_congr (f':=fun _=>0) (fun i hi=>by
   have a:=hF.mono i k hk
   have b:=lenQ_nat (s.nd v) (g.ports v) k i
   rw[hl k i hk hi]at a
   omega),sumI_zero]
  rfl
end
end Go.Proofs.YtebnflpanfmicaaGreatDoor
namespace Go.Proofs.YtebnflpanfmicaaGreatDoor
open Go.RowKit
section
variable {g:Geo} {c inj:Int} {k:Nat} {s:FabS}
def TE (g:Geo) (T:Int) (s:FabS):Prop:=∀v,v≤g.t.length→(s.nd v).ticks=T
theorem frameS_ticks (g:Geo) (v i:Nat) (f:Frm) (n:NodeS):(frameS g v i f n).1.ticks=n.ticks:=by
 unfold frameS
 split
 ·rfl
 ·simp only
  split
  ·rfl
  ·split
   ·rfl
   ·split
    ·rfl
    ·split <;>rfl
theorem takeS_ticks (g:Geo) (v x:Nat) (b:List Int) (n:NodeS):(takeS g v x b n).1.ticks=n.ticks:=by
 unfold takeS
 split
 ·rfl
 ·split
  ·rfl
  ·exact frameS_ticks _ _ _ _ _
theorem delF_ticks (g:Geo) (s:FabS) (h:Nat) (r:Int) (v:Nat):((delF g s h r).1.nd v).ticks=(s.nd v).ticks:=by
 unfold delF
 split
 ·rfl
 ·show(setAt s.nd _ _ v).ticks=_
  unfold setAt
  split
  ·rename_i e;rw[takeS_ticks,e]
  ·rfl
theorem delN_ticks (g:Geo) (h:Nat) (s:FabS) (v:Nat):∀n,((delN g h s n).nd v).ticks=(s.nd v).ticks
 | 0=>rfl
 | n+1=>(delF_ticks g _ h 0 v).trans (delN_ticks g h s v n)
theorem delH_ticks (g:Geo) (s:FabS) (v:Nat):∀n,((delH g s n).nd v).ticks=(s.nd v).ticks
 | 0=>rfl
 | n+1=>(delN_ticks g n _ v _).trans (delH_ticks g s v n)
theorem TE.tick {T:Int} (h:TE g T s) (hT:0≤T∧T≤30000):TE g (T+1) (tickF g s):=fun v hv=>by
 have e:(tickF g s).nd v=tickS g v (s.nd v):=if_pos (by omega)
 rw[e]
 have hm:(movedW g v (s.nd v)).ticks=(s.nd v).ticks:=by
  unfold movedW
  rw[movesS_ticks]
  show(fedW g v (s.nd v)).ticks=_
  have:∀j,(feedTo g v (s.nd v) j).ticks=(s.nd v).ticks:=by
   intro j
   induction j with
   | zero=>rfl
   | succ j ih=>
     show(feedOne g v (feedTo g v (s.nd v) j) j).ticks=_
     rw[←ih]
     unfold feedOne
     split
     ·rfl
     ·split <;>rfl
  exact this _
 show wrap64 ((movedW g v (s.nd v)).ticks+1)=_
 rw[hm,h v hv]
 exact wrap64_id (by omega) (by omega)
theorem TE.round {T:Int} (h:TE g T s) (hT:0≤T∧T≤30000):TE g (T+1) (roundF g s):=fun v hv=>(delH_ticks g _ v _).trans (h.tick hT v hv)
theorem TE.step {T:Int} {p:PlayS} (h:TE g T p.fs) (hT:0≤T∧T≤30000) (x:Stp):∃T',T≤T'∧T'≤T+1∧TE g T' (stepF g p x).fs:=by
 unfold stepF
 simp only
 split
 ·refine⟨T,by omega,by omega,fun v hv=> ?_⟩
  rw[←h v hv]
  show((injF g p.fs _).1.nd v).ticks=_
  unfold injF
  split
  ·show(setAt p.fs.nd _ _ v).ticks=_
   unfold setAt
   split
   ·rename_i e;subst e
    unfold injN
    split
    ·rfl
    ·split
     ·rfl
     ·split <;>rfl
   ·rfl
  ·rfl
 split
 ·exact⟨T,by omega,by omega,fun v hv=>(delF_ticks _ _ _ _ _).trans (h v hv)⟩
 split
 ·exact⟨T,by omega,by omega,h⟩
 split
 ·exact⟨T,by omega,by omega,h⟩
 split
 ·exact⟨T,by omega,by omega,h⟩
 split
 ·exact⟨T+1,by omega,by omega,h.tick hT⟩
 ·exact⟨T+1,by omega,by omega,h.round hT⟩
def rF (g:Geo) (s:FabS):Nat→FabS
 | 0=>s
 | n+1=>roundF g (rF g s n)
theorem rF_add (g:Geo) (s:FabS) (m:Nat):∀n,rF g s (m+n)=rF g (rF g s m) n
 | 0=>rfl
 | n+1=>by show roundF g (rF g s (m+n))=_;rw[rF_add g s m n];rfl
end
end Go.Proofs.YtebnflpanfmicaaGreatDoor
