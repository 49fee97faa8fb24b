/-
  Part 44 of the proof: TopDrX, TopDrY, TopDrZ, TopDr1, TopOne, TopDr2, TopDr3, TopRefArg.
-/
import Derived.Test.YtebnflpanfmicaaGreatDoorPkBQ
import Derived.Test.YtebnflpanfmicaaGreatDoorPkBI
import Derived.Test.YtebnflpanfmicaaGreatDoorPkBG
import Derived.Test.YtebnflpanfmicaaGreatDoorPkBM
import Derived.Test.YtebnflpanfmicaaGreatDoorPkBL
import Derived.Test.YtebnflpanfmicaaGreatDoorPkAB
import Derived.Test.YtebnflpanfmicaaGreatDoorPkBC
import Derived.Test.YtebnflpanfmicaaGreatDoorPkAC
set_option linter.unusedVariables false
set_option linter.unusedSimpArgs false
set_option linter.unusedSectionVars false
namespace Go.Proofs.YtebnflpanfmicaaGreatDoor
open Go.RowKit
structure RS (g:Geo) (inj c T:Int) (k:Nat) (s:FabS):Prop where
 fi:FI g c inj s
 emp:∀i,i < (hopsOf g.t).length→s.ln i=[]
 te:TE g T s
 t0:0≤T∧T≤c
 ok:FabOk g s k
def Still (g:Geo) (s:FabS):Prop:=∃M:Nat→Int,(∀v,v≤g.t.length→NT g v (s.nd v) (tickS g v (s.nd v)) (tickO g v (s.nd v)) (M v))∧∀v,v≤g.t.length→M v=0
section
variable {g:Geo} {c inj T:Int} {k:Nat} {s:FabS}
theorem linksW_empty (h:∀i,i < (hopsOf g.t).length→s.ln i=[]):linksW g s.ln=0:=by
 unfold linksW
 rw[sumI_congr (f':=fun _=>0) (fun i hi=>by rw[h i hi];rfl)]
 exact sumI_zero _
theorem RS.round (hg:DG g) (h:RS g inj c T k s) (hc:c < 30000):RS g inj (c+1) (T+1) (k+6) (roundF g s)∧FI g (c+1) inj (tickF g s)∧nodesW g (roundF g s).nd≤nodesW g s.nd∧(Still g s∨nodesW g (roundF g s).nd+1≤nodesW g s.nd)∧∀v,ovH g (tickF g s) (hopsOf g.t).length v=v:=by
 have t0:=h.t0
 obtain⟨M,h1,h2,h3,_,h5,h6,h7⟩:=h.fi.round hg ⟨by omega,hc⟩ h.ok.node
 rw[linksW_empty h.emp]at h6
 have hM0:∀i,0≤(if i≤g.t.length then M i else 0):=fun i=>by
  split
  ·rename_i hi;exact(h1 i hi).m0
  ·exact Int.le_refl _
 have eM:sumI M (g.t.length+1)=sumI (fun i=>if i≤g.t.length then M i else 0) (g.t.length+1):=sumI_congr fun i hi=>by rw[if_pos (by omega)]
 have hs:=sumI_nat _ hM0 (g.t.length+1)
 refine⟨⟨h3,h5,h.te.round ⟨t0.1,by omega⟩,⟨by omega,by omega⟩,(h.ok.round hg.tree hg.t5 hg.l3).more (by omega)⟩,h2,by omega, ?_,h7⟩
 by_cases e:∀v,v≤g.t.length→M v=0
 ·exact .inl ⟨M,h1,e⟩
 ·right
  have⟨v,hv,hne⟩:∃v,v≤g.t.length∧M v≠0:=by
   apply Classical.byContradiction
   intro hno
   exact e fun v hv=>Classical.byContradiction fun hn=>hno ⟨v,hv,hn⟩
  have:=sumI_part hM0 (show v < g.t.length+1 by omega)
  simp only[hv,if_true]at this
  have:=(h1 v hv).m0
  omega
theorem RS.rounds (hg:DG g) (h:RS g inj c T k s):∀n:Nat,c+n≤30000→RS g inj (c+n) (T+n) (k+6*n) (rF g s n)
 | 0,_=>by simpa[rF]using h
 | n+1,hn=>by
   have ih:=RS.rounds hg h n (by omega)
   have:=(ih.round hg (by omega)).1
   have e1:c+(n:Int)+1=c+((n+1:Nat):Int):=by omega
   have e2:T+(n:Int)+1=T+((n+1:Nat):Int):=by omega
   have e3:k+6*n+6=k+6*(n+1):=by omega
   rw[e1,e2,e3]at this
   exact this
structure StillOut (g:Geo) (s:FabS):Prop where
 same:∀v,v≤g.t.length→((roundF g s).nd v).Q=(fedW g v (s.nd v)).Q∧((roundF g s).nd v).held=(s.nd v).held∧((roundF g s).nd v).sent=(s.nd v).sent
 grow:∀a b k,a≤g.t.length→b∈nb g.t a→k < g.ws.length→(s.nd b).next (portN g.t b a) k≤((roundF g s).nd b).next (portN g.t b a) k∧(s.nd b).limit (portN g.t b a) k≤((roundF g s).nd b).limit (portN g.t b a) k
 exch:(∀v,v≤g.t.length→Int.tmod (tickS g v (s.nd v)).ticks g.p.every=0)→∀a b k,a≤g.t.length→b∈nb g.t a→k < g.ws.length→
   (s.nd a).sent (portN g.t a b) k≤((roundF g s).nd b).next (portN g.t b a) k∧(s.nd a).next (portN g.t a b) k+g.p.room - (s.nd a).held (portN g.t a b) k≤((roundF g s).nd b).limit (portN g.t b a) k
theorem RS.still (hg:DG g) (h:RS g inj c T k s) (hc:c < 30000) (hs:Still g s):StillOut g s:=by
 obtain⟨M,m1,m2⟩:=hs
 have t0:=h.t0
 obtain⟨a,b,d⟩:=h.fi.still hg ⟨by omega,hc⟩ h.emp m1 (h.round hg hc).2.1 m2
 exact⟨a,b,d⟩
theorem RS.window (hg:DG g) (h:RS g inj c T k s) {E:Nat} (hE:g.p.every=(E:Int)) (hc:c+(2*E+1:Nat)≤30000) (hst:∀n,n≤2*E→Still g (rF g s n)):
  ∀v,v≤g.t.length→insV g v ((rF g s (2*E)).nd v)=0:=by
 have hev:=hg.every
 have t0:=h.t0
 have R:=fun n (hn:n≤2*E)=>h.rounds hg n (by omega)
 have S:∀n,n≤2*E→StillOut g (rF g s n):=fun n hn=>(R n hn).still hg (by omega) (hst n hn)
 have sent:∀n,n≤2*E→∀v,v≤g.t.length→((rF g s (n+1)).nd v).sent=((rF g s n).nd v).sent:=fun n hn v hv=>((S n hn).same v hv).2.2
 have held:∀n,n≤2*E→∀v,v≤g.t.length→((rF g s (n+1)).nd v).held=((rF g s n).nd v).held:=fun n hn v hv=>((S n hn).same v hv).2.1
 have exch:∀n,n≤2*E→(T+n+1) % (E:Int)=0→∀v,v≤g.t.length→Int.tmod (tickS g v ((rF g s n).nd v)).ticks g.p.every=0:=fun n hn he v hv=>by
  have:=((R n hn).te.tick ⟨by omega,by omega⟩) v hv
  have e:(tickF g (rF g s n)).nd v=tickS g v ((rF g s n).nd v):=if_pos (by omega)
  rw[e]at this
  rw[this,hE,Int.tmod_eq_emod_of_nonneg (by omega)]
  exact he
 obtain⟨e1,he1,hm1,hm2⟩:∃e1:Nat,e1 < E∧(T+e1+1) % (E:Int)=0∧(T+(e1+E:Nat)+1) % (E:Int)=0:=by
  have h8:E=1∨E=2∨E=3∨E=4∨E=5∨E=6∨E=7∨E=8:=by omega
  refine⟨E - 1 - (T % (E:Int)).toNat, ?_, ?_, ?_⟩ <;>rcases h8 with rfl | rfl | rfl | rfl | rfl | rfl | rfl | rfl <;>omega
 have P1:∀n,e1+1≤n→n≤2*E→∀a b k,a≤g.t.length→b∈nb g.t a→k < g.ws.length→((rF g s n).nd a).sent (portN g.t a b) k≤((rF g s n).nd b).next (portN g.t b a) k:=by
  intro n h1
  induction n with
  | zero=>omega
  | succ n ih=>
    intro h2 a b k ha hb hk
    rw[sent n (by omega) a ha]
    by_cases e:n=e1
    ·subst e
     exact((S n (by omega)).exch (exch n (by omega) hm1) a b k ha hb hk).1
    ·exact Int.le_trans (ih (by omega) (by omega) a b k ha hb hk) ((S n (by omega)).grow a b k ha hb hk).1
 have P2:∀n,e1+E+1≤n→n≤2*E→∀a b k,a≤g.t.length→b∈nb g.t a→k < g.ws.length→((rF g s n).nd a).sent (portN g.t a b) k+g.p.room - ((rF g s n).nd b).held (portN g.t b a) k≤((rF g s n).nd a).limit (portN g.t a b) k:=by
  intro n h1
  induction n with
  | zero=>omega
  | succ n ih=>
    intro h2 a b k ha hb hk
    have hbn:=nb_le hg.tree hg.t5 ha hb
    have hbk:=nb_back hg.tree hg.t5 ha hb
    rw[sent n (by omega) a ha,held n (by omega) b hbn]
    by_cases e:n=e1+E
    ·have x1:=((S n (by omega)).exch (exch n (by omega) (by rw[e];exact hm2)) b a k hbn hbk hk).2
     have x2:=P1 n (by omega) (by omega) a b k ha hb hk
     show _≤((roundF g (rF g s n)).nd a).limit _ _
     omega
    ·have x1:=ih (by omega) (by omega) a b k ha hb hk
     have x2:=((S n (by omega)).grow b a k hbn hbk hk).2
     show _≤((roundF g (rF g s n)).nd a).limit _ _
     omega
 have Rn:=R (2*E) (Nat.le_refl _)
 obtain⟨M,m1,m2⟩:=hst (2*E) (Nat.le_refl _)
 exact none_inside hg ⟨by omega,by omega⟩ Rn.fi (fun v i t hv hi ht=>((m1 v hv).still (m2 v hv)).2.2.2.2.1 i t hi ht) (fun a b k ha hb hk=>P2 (2*E) (by omega) (Nat.le_refl _) a b k ha hb hk)
end
end Go.Proofs.YtebnflpanfmicaaGreatDoor
namespace Go.Proofs.YtebnflpanfmicaaGreatDoor
open Go.RowKit
section
variable {g:Geo} {c inj T:Int} {k:Nat} {s:FabS}
theorem RS.weight (hg:DG g) (h:RS g inj c T k s):∀n:Nat,c+n≤30000→nodesW g (rF g s n).nd≤nodesW g s.nd
 | 0,_=>Int.le_refl _
 | n+1,hn=>Int.le_trans ((h.rounds hg n (by omega)).round hg (by omega)).2.2.1 (RS.weight hg h n (by omega))
theorem RS.drains (hg:DG g) {E:Nat} (hE:g.p.every=(E:Int)):∀(φ:Nat) {c T:Int} {k:Nat} {s:FabS},RS g inj c T k s→nodesW g s.nd≤(φ:Int)→c+((φ+1)*(2*E+1):Nat)≤30000→
  ∃n,n≤(φ+1)*(2*E+1)∧∀v,v≤g.t.length→insV g v ((rF g s n).nd v)=0:=by
 intro φ
 induction φ with
 | zero=>
   intro c T k s h hw hc
   by_cases e:∀n,n≤2*E→Still g (rF g s n)
   ·exact⟨2*E,by omega,h.window hg hE (by omega) e⟩
   ·exfalso
    obtain⟨n,hn,hns⟩:∃n,n≤2*E∧¬Still g (rF g s n):=by
     apply Classical.byContradiction
     intro hno
     exact e fun n hn=>Classical.byContradiction fun h=>hno ⟨n,hn,h⟩
    have h1:=h.weight hg n (by omega)
    have h2:=((h.rounds hg n (by omega)).round hg (by omega)).2.2.2.1.resolve_left hns
    have h3:0≤nodesW g (roundF g (rF g s n)).nd:=sumI_nat _ (fun v=>loadW_nat (fun x=>by unfold wayW;omega) _ _ _) _
    omega
 | succ φ ih=>
   intro c T k s h hw hc
   have hmul:(φ+1+1)*(2*E+1)=(φ+1)*(2*E+1)+(2*E+1):=Nat.succ_mul _ _
   by_cases e:∀n,n≤2*E→Still g (rF g s n)
   ·exact⟨2*E,by omega,h.window hg hE (by omega) e⟩
   ·obtain⟨n,hn,hns⟩:∃n,n≤2*E∧¬Still g (rF g s n):=by
     apply Classical.byContradiction
     intro hno
     exact e fun n hn=>Classical.byContradiction fun h=>hno ⟨n,hn,h⟩
    have h1:=h.weight hg n (by omega)
    have h2:=((h.rounds hg n (by omega)).round hg (by omega)).2.2.2.1.resolve_left hns
    have h3:=h.rounds hg (n+1) (by omega)
    obtain⟨m,hm,hi⟩:=ih h3 (by show nodesW g (roundF g (rF g s n)).nd≤_;omega) (by omega)
    refine⟨n+1+m,by omega, ?_⟩
    rw[rF_add]
    exact hi
end
end Go.Proofs.YtebnflpanfmicaaGreatDoor
namespace Go.Proofs.YtebnflpanfmicaaGreatDoor
open Go.RowKit
section
variable {g:Geo} {c inj T:Int} {k:Nat} {s:FabS}
theorem inside_zero (hl:∀i,i < (hopsOf g.t).length→s.ln i=[]) (hi:∀v,v≤g.t.length→insV g v (s.nd v)=0):insideF g s=0:=by
 have h1:sumI (fun v=>insV g v (s.nd v)) (g.t.length+1)=0:=by
  rw[sumI_congr (f':=fun _=>0) (fun v hv=>hi v (by omega))]
  exact sumI_zero _
 have h2:∀l:List Int,(∀x∈l,x=0)→sumL l=0:=by
  intro l
  induction l with
  | nil=>intro _;rfl
  | cons x l ih=>intro h;rw[sumL,h x List.mem_cons_self,ih (fun y hy=>h y (List.mem_cons_of_mem _ hy))];rfl
 have h3:∀n,n≤(hopsOf g.t).length→∀x∈flyTo g s g.ws.length n,x=0:=by
  intro n
  induction n with
  | zero=>intro _ x hx;exact(List.not_mem_nil hx).elim
  | succ n ih=>
    intro hn x hx
    unfold flyTo at hx
    rcases List.mem_append.1 hx with hx | hx
    ·exact ih (by omega) x hx
    ·obtain⟨j,_,rfl⟩:=List.mem_map.1 hx
     unfold flyF
     rw[hl n (by omega)]
     rfl
 unfold insideF
 rw[h1,h2 _ (h3 _ (Nat.le_refl _))]
 rfl
theorem FI.rounds (hg:DG g) (h:FI g c inj s) (hok:FabOk g s k) (h0:0≤c):∀n:Nat,c+n≤30000→FI g (c+n) inj (rF g s n)∧FabOk g (rF g s n) (k+6*n)
 | 0,_=>by simpa[rF]using⟨h,hok⟩
 | n+1,hn=>by
   obtain⟨h1,h2⟩:=FI.rounds hg h hok h0 n (by omega)
   obtain⟨_,_,_,h3,_⟩:=h1.round hg ⟨by omega,by omega⟩ h2.node
   have e1:c+(n:Int)+1=c+((n+1:Nat):Int):=by omega
   rw[e1]at h3
   exact⟨h3,(h2.round hg.tree hg.t5 hg.l3).more (by omega)⟩
theorem FI.round_over (hg:DG g) (h:FI g c inj s) (hok:FabOk g s k) (h0:0≤c∧c < 30000) (o:Int):ovH g (tickF g s) (hopsOf g.t).length o=o:=by
 obtain⟨_,_,_,_,_,_,_,h3⟩:=h.round hg h0 hok.node
 exact h3 o
theorem drains_law (hg:DG g) {E m:Nat} (hE:g.p.every=(E:Int)) (h:FI g c (m:Int) s) (hte:TE g T s) (hT:0≤T∧T≤c) (hok:FabOk g s k) (hc:c≤60) (hm:m≤60):
  ∃n,n≤(m*(g.t.length+1+1)+2)*(2*E+2)∧insideF g (rF g s n)=0:=by
 have h5:=hg.t5
 have hev:=hg.every
 obtain⟨_,_,_,r1,_,r2,_,_⟩:=h.round hg ⟨by omega,by omega⟩ hok.node
 have hRS:RS g (m:Int) (c+1) (T+1) (k+6) (rF g s 1):=⟨r1,r2,hte.round ⟨hT.1,by omega⟩,⟨by omega,by omega⟩,hok.round hg.tree hg.t5 hg.l3⟩
 have hw:=hRS.fi.steps hg
 have hφ:(g.t.length+1)*m≤360:=Nat.mul_le_mul (by omega:g.t.length+1≤6) hm
 have hb:((g.t.length+1)*m+1)*(2*E+1)≤361*17:=Nat.mul_le_mul (by omega) (by omega)
 obtain⟨n,hn,hi⟩:=hRS.drains hg hE ((g.t.length+1)*m) (by push_cast;exact hw) (by omega)
 refine⟨1+n, ?_, ?_⟩
 ·have a1:(g.t.length+1)*m+1≤m*(g.t.length+1+1)+1:=by rw[Nat.mul_succ,Nat.mul_comm m];omega
  have a2:((g.t.length+1)*m+1)*(2*E+1)≤(m*(g.t.length+1+1)+1)*(2*E+2):=Nat.mul_le_mul a1 (by omega)
  have a3:(m*(g.t.length+1+1)+2)*(2*E+2)=(m*(g.t.length+1+1)+1)*(2*E+2)+(2*E+2):=Nat.succ_mul _ _
  omega
 ·rw[rF_add]
  exact inside_zero (hRS.rounds hg n (by omega)).emp hi
end
end Go.Proofs.YtebnflpanfmicaaGreatDoor
namespace Go.Proofs.YtebnflpanfmicaaGreatDoor
open Go.RowKit
def stepsTo (g:Geo) (l:List Stp):Nat→PlayS
 | 0=>⟨newF g,[],0⟩
 | n+1=>match l[n]? with
   | some s=>stepF g (stepsTo g l n) s
   | none=>stepsTo g l n
def rndsTo (g:Geo) (s:PlayS):Nat→PlayS
 | 0=>s
 | n+1=>roundY g (rndsTo g s n)
section
variable {g:Geo}
theorem made_ln (hg:DG g) (h1:1≤g.t.length) (s:Stp):(s.made g).ln.toNat < (hopsOf g.t).length:=by
 have hc:=(hops_in hg.tree hg.t5).2
 have:=inN_ok s.ln ((hopsOf g.t).length:Int) (by omega)
 show(inN s.ln ((hopsOf g.t).length:Int)).toNat < _
 omega
theorem stepsTo_ok (hg:DG g) (h1:1≤g.t.length) (h0:FabOk g (newF g) 0) (hl:g.p.lanes≤3) (l:List Stp) (hb:∀s∈l,0≤s.x.body∧s.x.body < 4294967296):∀n:Nat,n≤60→
  FI g n ((stepsTo g l n).sent.length:Int) (stepsTo g l n).fs∧(stepsTo g l n).over=0∧FabOk g (stepsTo g l n).fs (6*n)∧(stepsTo g l n).sent.length≤n∧∃T:Int,0≤T∧T≤n∧TE g T (stepsTo g l n).fs
 | 0,_=>⟨FI.new hg,rfl,h0,Nat.le_refl _,0,Int.le_refl _,Int.le_refl _,fun v _=>rfl⟩
 | n+1,hn=>by
   obtain⟨k1,k2,k3,k4,T,k5,k6,k7⟩:=stepsTo_ok hg h1 h0 hl l hb n (by omega)
   unfold stepsTo
   split
   ·rename_i s hs
    have hm:=made_ln hg h1 s
    obtain⟨a1,a2⟩:=k1.step hg ⟨by omega,by omega⟩ k3.node s (hb s (List.mem_of_getElem? hs)) hm
    obtain⟨T',b1,b2,b3⟩:=k7.step (p:=stepsTo g l n) ⟨k5,by omega⟩ s
    refine⟨a1.more (by omega) (Int.le_refl _),a2.trans k2,(k3.step hg.tree hg.t5 hg.l3 hl s hm).more (by omega), ?_,T',by omega,by omega,b3⟩
    have:=stepF_sent g (stepsTo g l n) s;omega
   ·exact⟨k1.more (by omega) (Int.le_refl _),k2,k3.more (by omega),by omega,T,k5,by omega,k7⟩
theorem rndsTo_ok (hg:DG g) {p:PlayS} {c:Int} {k:Nat} (h:FI g c (p.sent.length:Int) p.fs) (ho:p.over=0) (hok:FabOk g p.fs k) (h0:0≤c):∀n:Nat,c+n≤30000→
  (rndsTo g p n).fs=rF g p.fs n∧(rndsTo g p n).sent=p.sent∧(rndsTo g p n).over=0
 | 0,_=>⟨rfl,rfl,ho⟩
 | n+1,hn=>by
   obtain⟨k1,k2,k3⟩:=rndsTo_ok hg h ho hok h0 n (by omega)
   obtain⟨a1,a2⟩:=h.rounds hg hok h0 n (by omega)
   refine⟨by show roundF g (rndsTo g p n).fs=_;rw[k1];rfl,k2, ?_⟩
   show ovH g (tickF g (rndsTo g p n).fs) (hopsOf g.t).length (rndsTo g p n).over=0
   rw[k1,k3]
   exact a1.round_over hg a2 ⟨by omega,by omega⟩ 0
end
end Go.Proofs.YtebnflpanfmicaaGreatDoor
namespace Go.Proofs.YtebnflpanfmicaaGreatDoor
open Go.RowKit
def One (X w:World) (P:PlayA) (s:PlayS):Prop:=∃σ o,SysF σ w o∧Ext (fun _=>none) X o w∧PlayAt σ 0 2 P s
section
variable {X w w':World} {P:PlayA} {s s':PlayS} {c:Nat}
theorem One.calm (h:One X w P s) (hk:Keeps (fun _=>False) w w'):One X w' P s:=by
 obtain⟨σ,o,h1,h2,h3⟩:=h
 exact⟨σ,o,SysF.calm' h1 hk,h2.trans (Ext.keeps o hk),h3⟩
theorem One.keeps (h:One X w P s):Keeps (fun _=>False) X w:=by
 obtain⟨σ,o,h1,h2,h3⟩:=h
 exact h2.1.mono (fun i _ e=>by cases e)
theorem One.next {σ:Sig} {o:Nat→Option Cmp} (h2:Ext (fun _=>none) X o w) (h:PNext σ w o 0 2 P w' s'):One X w' P s':=by
 obtain⟨σ',o',k1,k2,k3,k4⟩:=h
 exact⟨σ',o',k1,h2.trans k2,k3⟩
theorem One.step (h:One X w P s) (hT:Tab X) (hok:FabOk P.g s.fs c) (hc:c≤700000000) (hs:s.sent.length≤1000000) (x:Stp) (hkd:0≤x.kind∧x.kind≤255):
  Calls Tryz.prog 8 #[.pointer (some ⟨P.b,0,none⟩),x.val] w fun e w'=>e= .returned (.tuple #[])∧One X w' P (stepF P.g s x):=by
 obtain⟨σ,o,h1,h2,h3⟩:=h
 have ht:=h2.tab hT rfl
 refine(pstep_runs h1 ht.1 ht.2 h3 (by decide) hok hc hs x hkd).mono ?_
 rintro e w' ⟨rfl,hn⟩
 exact⟨rfl,One.next h2 hn⟩
theorem One.round (h:One X w P s) (hT:Tab X) (hok:FabOk P.g s.fs c) (hc:c≤700000000):
  Calls Tryz.prog 10 #[.pointer (some ⟨P.b,0,none⟩)] w fun e w'=>e= .returned (.tuple #[])∧One X w' P (roundY P.g s):=by
 obtain⟨σ,o,h1,h2,h3⟩:=h
 have ht:=h2.tab hT rfl
 refine(pround_runs h1 ht.1 ht.2 h3 (by decide) hok hc).mono ?_
 rintro e w' ⟨rfl,hn⟩
 exact⟨rfl,One.next h2 hn⟩
theorem One.ins (h:One X w P s) (hok:FabOk P.g s.fs c):
  Calls Tryz.prog 9 #[.pointer (some ⟨P.fa.fb,0,none⟩)] w fun e w'=>e= .returned (.int .i64 (wrap64 (insideF P.g s.fs)))∧Keeps (fun _=>False) w w':=by
 obtain⟨σ,o,h1,h2,h3⟩:=h
 exact insides_runs h1 h3.fab hok
theorem One.got (h:One X w P s) (hok:FabOk P.g s.fs c) (hc:c≤700000000) (N:Nat) (hN:(gotF s.fs (P.g.t.length+1)).length=N):
  Calls Tryz.prog 11 #[.pointer (some ⟨P.b,0,none⟩)] w fun e w'=>∃A cp,e= .returned (.slice A N cp)∧QS w' 31 4 (.slice A N cp) N (pcells (gotF s.fs (P.g.t.length+1)))∧Keeps (fun _=>False) w w'∧∀k,(Value.slice A N cp).ownBlock=some k→w.heap.size≤k:=by
 obtain⟨σ,o,h1,h2,h3⟩:=h
 exact pgot_runs h1 h3 hok hc N hN
theorem One.row (h:One X w P s):∃S sv,PlayR w S P s.sent s.over sv:=by
 obtain⟨σ,o,h1,h2,h3⟩:=h
 obtain⟨sv,hr⟩:=h1.playR h3
 exact⟨_,sv,hr⟩
theorem One.plan (h:One X w P s):Tree P.g.t∧1≤P.g.t.length∧P.g.t.length≤5∧P.g.p.lanes=(P.g.ws.length:Int)∧Within P.g.p ((P.g.t.length:Int)+1):=by
 obtain⟨σ,o,h1,h2,h3⟩:=h
 have hp:=h1.planS h3.fab.geo
 exact⟨hp.tree,hp.t1,hp.t5,hp.lanes,hp.nums⟩
end
end Go.Proofs.YtebnflpanfmicaaGreatDoor
namespace Go.Proofs.YtebnflpanfmicaaGreatDoor
open Go.RowKit
theorem One.dg {X w:World} {P:PlayA} {s:PlayS} (h:One X w P s) {rm mr:Nat} {st:Int} (hp:P.g.p=makeNumsS rm mr st) (hst:0≤st∧st < 65536):DG P.g:=by
 obtain⟨h1,h2,h3,h4,h5⟩:=h.plan
 have b1:=h5.lanes;have b2:=h5.room;have b3:=h5.every;have b4:=h5.rounds
 exact⟨h1,h3,by omega,by omega,h4,b2,by rw[hp];rfl,b3,b4.1,by rw[hp];exact hst⟩
end Go.Proofs.YtebnflpanfmicaaGreatDoor
namespace Go.Proofs.YtebnflpanfmicaaGreatDoor
open Go.RowKit
theorem sumL_in:∀l:List Int,(∀x∈l,0≤x∧x≤64)→0≤sumL l∧sumL l≤64*(l.length:Int)
 | [],_=>⟨Int.le_refl _,Int.le_refl _⟩
 | x :: l,h=>by
   obtain⟨h1,h2⟩:=sumL_in l (fun y hy=>h y (List.mem_cons_of_mem _ hy))
   obtain⟨h3,h4⟩:=h x List.mem_cons_self
   rw[sumL,List.length_cons]
   push_cast
   omega
section
variable {g:Geo} {c inj:Int} {k:Nat} {s:FabS}
theorem FI.small (hg:DG g) (h:FI g c inj s) (hok:FabOk g s k) (hi:inj≤60):0≤insideF g s∧insideF g s≤1980:=by
 have h1:=h.inside hg
 have h2:=sumI_nat (fun v=>(((s.nd v).q 3).length:Int)) (fun v=>Int.natCast_nonneg _) (g.t.length+1)
 have h3:=sumI_nat (fun v=>nodeW (fun _=>1) (s.nd v) (g.ports v) g.ws.length) (fun v=>loadW_nat (fun _=>by decide) _ _ _) (g.t.length+1)
 rw[sumI_congr (fun v _=>nodeW_len g v (s.nd v))]at h1 h3
 have h4:∀n,n≤(hopsOf g.t).length→∀x∈flyTo g s g.ws.length n,0≤x∧x≤64:=by
  intro n
  induction n with
  | zero=>intro _ x hx;exact(List.not_mem_nil hx).elim
  | succ n ih=>
    intro hn x hx
    unfold flyTo at hx
    rcases List.mem_append.1 hx with hx | hx
    ·exact ih (by omega) x hx
    ·obtain⟨j,_,rfl⟩:=List.mem_map.1 hx
     unfold flyF
     have a:=seenL_le (j:Int) ((s.nd ((hopsOf g.t).getD n (0,0)).2).next (portN g.t ((hopsOf g.t).getD n (0,0)).2 ((hopsOf g.t).getD n (0,0)).1) j) ((s.nd ((hopsOf g.t).getD n (0,0)).1).sent (portN g.t ((hopsOf g.t).getD n (0,0)).1 ((hopsOf g.t).getD n (0,0)).2) j) (s.ln n)
     have b:=hok.room n (by omega)
     rw[hg.bag]at b
     dsimp only
     omega
 obtain⟨h5,h6⟩:=sumL_in _ (h4 _ (Nat.le_refl _))
 rw[flyTo_length]at h6
 have h7:=(hops_in hg.tree hg.t5).2
 have h8:=hg.t5
 have h9:(hopsOf g.t).length*g.ws.length≤10*3:=Nat.mul_le_mul (by omega) hg.l3
 unfold insideF
 omega
structure Dry (g:Geo) (s:PlayS) (m:Nat) (M:Nat):Prop where
 ok:∀n:Nat,n≤M→FabOk g (rndsTo g s n).fs (1000+6*n)
 small:∀n:Nat,n≤M→0≤insideF g (rndsTo g s n).fs∧insideF g (rndsTo g s n).fs≤1980
 sent:∀n:Nat,n≤M→(rndsTo g s n).sent=s.sent∧(rndsTo g s n).over=0
 got:∀n:Nat,n≤M→(gotF (rndsTo g s n).fs (g.t.length+1)).length≤m
 none:∃n,n≤M∧insideF g (rndsTo g s n).fs=0
theorem dry_of (hg:DG g) {E:Nat} (hE:g.p.every=(E:Int)) (hl:g.p.lanes≤3) (h1:1≤g.t.length) (h0:FabOk g (newF g) 0) (l:List Stp) (hb:∀s∈l,0≤s.x.body∧s.x.body < 4294967296) (n:Nat) (hn:n≤60):
  Dry g (stepsTo g l n) (stepsTo g l n).sent.length (((stepsTo g l n).sent.length*(g.t.length+1+1)+2)*(2*E+2))∧(stepsTo g l n).sent.length≤60:=by
 obtain⟨k1,k2,k3,k4,T,k5,k6,k7⟩:=stepsTo_ok hg h1 h0 hl l hb n hn
 obtain⟨q,hq⟩:∃q,stepsTo g l n=q:=⟨_,rfl⟩
 rw[hq]at k1 k2 k3 k4 k7 ⊢
 have hM:(q.sent.length*(g.t.length+1+1)+2)*(2*E+2)≤422*18:=by
  have:=hg.t5
  have:=hg.every
  have a:q.sent.length*(g.t.length+1+1)≤60*7:=Nat.mul_le_mul (by omega) (by omega)
  exact Nat.mul_le_mul (by omega) (by omega)
 have R:=rndsTo_ok hg k1 k2 k3 (by omega)
 refine⟨⟨fun i hi=> ?_,fun i hi=> ?_,fun i hi=> ?_,fun i hi=> ?_, ?_⟩,by omega⟩
 ·rw[(R i (by omega)).1]
  exact(k1.rounds hg k3 (by omega) i (by omega)).2.more (by omega)
 ·rw[(R i (by omega)).1]
  obtain⟨a,b⟩:=k1.rounds hg k3 (by omega) i (by omega)
  exact a.small hg b (by omega)
 ·exact(R i (by omega)).2
 ·rw[(R i (by omega)).1]
  have:=(k1.rounds hg k3 (by omega) i (by omega)).1.got hg
  omega
 ·obtain⟨i,hi,e⟩:=drains_law hg hE k1 k7 ⟨k5,k6⟩ k3 (by omega) (by omega)
  exact⟨i,hi,by rw[(R i (by omega)).1];exact e⟩
end
end Go.Proofs.YtebnflpanfmicaaGreatDoor
namespace Go.Proofs.YtebnflpanfmicaaGreatDoor
open Go.ChangeShapes Go.WideShapes Go.Deep Go.RowKit
structure Pkt.good (p:Pkt):Prop where
 src:(Lit.int .i64 p.src).wf=true
 dst:(Lit.int .i64 p.dst).wf=true
 lane:(Lit.int .i64 p.lane).wf=true
 body:(Lit.int .u32 p.body).wf=true
theorem list4 {cs:List Value} {a b c d:Value} (hl:cs.length=4) (h0:cs[0]? =some a) (h1:cs[1]? =some b) (h2:cs[2]? =some c) (h3:cs[3]? =some d):cs=[a,b,c,d]:=by
 match cs,hl with
 | [x0,x1,x2,x3],_=>simp at h0 h1 h2 h3;subst h0;subst h1;subst h2;subst h3;rfl
theorem pkt_in (H:Type) (enc:TypeId×Value→H) (W:World) (n:Nat) (cs:List Value) (x:DataW H×List MemPlace) (h:DataW.trod enc Tryz.prog W 0 (fun _=>true) true n 31 cs=some x):∃a:Pkt,cs=a.cells∧a.good:=by
 obtain⟨xs,n',rfl,_,hl,hxl,hf⟩:=DataW.trod_struct Tryz.underlying31 h
 have hl4:cs.length=4:=hl.trans (by kernel_rfl)
 have hx4:xs.length=4:=hxl
 obtain⟨s,h0,g0⟩:=field_int (o:=0) Tryz.underlying3 (by kernel_rfl) rfl (by omega) (by rw[List.getElem?_eq_getElem (by omega)];rfl) (hf 0 _ rfl)
 obtain⟨d,h1,g1⟩:=field_int (o:=1) Tryz.underlying3 (by kernel_rfl) rfl (by omega) (by rw[List.getElem?_eq_getElem (by omega)];rfl) (hf 1 _ rfl)
 obtain⟨l,h2,g2⟩:=field_int (o:=2) Tryz.underlying3 (by kernel_rfl) rfl (by omega) (by rw[List.getElem?_eq_getElem (by omega)];rfl) (hf 2 _ rfl)
 obtain⟨q,h3,g3⟩:=field_int (o:=3) Tryz.underlying29 (by kernel_rfl) rfl (by omega) (by rw[List.getElem?_eq_getElem (by omega)];rfl) (hf 3 _ rfl)
 exact⟨⟨s,d,l,q⟩,list4 hl4 h0 h1 h2 h3,g0,g1,g2,g3⟩
structure Stp.good (s:Stp):Prop where
 kind:(Lit.int .u8 s.kind).wf=true
 mask:(Lit.int .u8 s.mask).wf=true
 body:(Lit.int .u32 s.x.body).wf=true
abbrev Stp.list (s:Stp):List Value:=[.int .u8 s.kind, .int .i64 s.x.src, .int .i64 s.x.dst, .int .i64 s.x.lane, .int .u32 s.x.body, .bool s.wi, .int .i64 s.ln, .int .i64 s.row, .int .i64 s.pos, .int .u8 s.mask]
set_option maxRecDepth 100000 in
theorem stp_in (H:Type) (enc:TypeId×Value→H) (W:World) (n:Nat) (cs:List Value) (x:DataW H×List MemPlace) (h:DataW.trod enc Tryz.prog W 0 (fun _=>true) true n 33 cs=some x):∃a:Stp,cs=a.list∧a.good:=by
 obtain⟨xs,n',rfl,_,hl,hxl,hf⟩:=DataW.trod_struct Tryz.underlying33 h
 have hl10:cs.length=10:=hl.trans (by kernel_rfl)
 have hx7:xs.length=7:=hxl
 obtain⟨k,h0,g0⟩:=field_int (o:=0) Tryz.underlying5 (by kernel_rfl) rfl (by omega) (by rw[List.getElem?_eq_getElem (by omega)];rfl) (hf 0 _ rfl)
 obtain⟨b,h5⟩:=field_bool (o:=5) Tryz.underlying4 (by kernel_rfl) rfl (by omega) (by rw[List.getElem?_eq_getElem (by omega)];rfl) (hf 2 _ rfl)
 obtain⟨l,h6,g6⟩:=field_int (o:=6) Tryz.underlying3 (by kernel_rfl) rfl (by omega) (by rw[List.getElem?_eq_getElem (by omega)];rfl) (hf 3 _ rfl)
 obtain⟨r,h7,g7⟩:=field_int (o:=7) Tryz.underlying3 (by kernel_rfl) rfl (by omega) (by rw[List.getElem?_eq_getElem (by omega)];rfl) (hf 4 _ rfl)
 obtain⟨q,h8,g8⟩:=field_int (o:=8) Tryz.underlying3 (by kernel_rfl) rfl (by omega) (by rw[List.getElem?_eq_getElem (by omega)];rfl) (hf 5 _ rfl)
 obtain⟨m,h9,g9⟩:=field_int (o:=9) Tryz.underlying5 (by kernel_rfl) rfl (by omega) (by rw[List.getElem?_eq_getElem (by omega)];rfl) (hf 6 _ rfl)
 have hX:=hf 1 _ rfl
 rw[List.getElem?_eq_getElem (by omega)]at hX
 obtain⟨p,hp,gp⟩:=pkt_in H enc W _ _ _ hX
 have hC:Tryz.prog.cellsOf 31=4:=by kernel_rfl
 match cs,hl10 with
 | [c0,c1,c2,c3,c4,c5,c6,c7,c8,c9],_=>
   have hp':[c1,c2,c3,c4]=p.cells:=by rw[←hp];show _=([c0,c1,c2,c3,c4,c5,c6,c7,c8,c9].drop 1).take (Tryz.prog.cellsOf 31);rw[hC];rfl
   simp at h0 h5 h6 h7 h8 h9 hp'
   obtain⟨rfl,rfl,rfl,rfl⟩:=hp'
   subst h0;subst h5;subst h6;subst h7;subst h8;subst h9
   exact⟨⟨k,p,b,l,r,q,m⟩,rfl,g0,g9,gp.body⟩
theorem stps_in {W:World} {v:Value} (h:Arg Tryz.prog W 24 v):∃(n:Nat) (l:List Stp),Reads W W.heap.size 10 v n (l.flatMap Stp.list)∧l.length=n∧∀a∈l,a.good:=
 h.rows Stp.list Stp.good 10 (fun _=>rfl) Tryz.underlying24 (by kernel_rfl) (fun H enc n cs x hx=>stp_in H enc W n cs x hx) (by decide)
theorem stps_at:∀(l:List Stp) (j:Nat) (x:Stp),l[j]? =some x→∀i,i < 10→(l.flatMap Stp.list)[j*10+i]? =x.list[i]?
 | [],j,x,h,_,_=>by simp at h
 | y :: l,0,x,h,i,hi=>by
   simp at h;subst h
   simp only[List.flatMap_cons]
   rw[List.getElem?_append_left (by simp;omega)]
   simp
 | y :: l,j+1,x,h,i,hi=>by
   have:=stps_at l j x (by simpa using h) i hi
   simp only[List.flatMap_cons]
   rw[List.getElem?_append_right (by simp;omega),←this]
   congr 1
   simp;omega
end Go.Proofs.YtebnflpanfmicaaGreatDoor
