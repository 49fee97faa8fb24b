/-
  Part 42 of the proof: TopDrM, TopDrN, TopDrO, TopDrP, TopDrQ.
-/
import Derived.Test.YtebnflpanfmicaaGreatDoorPkBO
set_option linter.unusedVariables false
set_option linter.unusedSimpArgs false
set_option linter.unusedSectionVars false
namespace Go.Proofs.YtebnflpanfmicaaGreatDoor
open Go.RowKit
section
variable {g:Geo} {v c:Nat} {s:NodeS}
theorem exchO_mem {x:Nat×List Int}:∀{j:Nat},x∈exchO g v s j→∃i k,1≤i∧i < j∧k < g.ws.length∧x∈tellO g v s i k
 | 0,h=>by cases h
 | j+1,h=>by
   have hk:∀K,x∈tellK g v s j K→∃k,k < K∧x∈tellO g v s j k:=by
    intro K
    induction K with
    | zero=>intro h;cases h
    | succ K ih=>
      intro h
      rcases List.mem_append.1 h with h | h
      ·obtain⟨k,h1,h2⟩:=ih h;exact⟨k,by omega,h2⟩
      ·exact⟨K,by omega,h⟩
   unfold exchO at h
   by_cases e:j=0
   ·rw[if_pos e]at h
    obtain⟨i,k,h1,h2,h3⟩:=exchO_mem h
    exact⟨i,k,h1,by omega,h3⟩
   ·rw[if_neg e]at h
    rcases List.mem_append.1 h with h | h
    ·obtain⟨i,k,h1,h2,h3⟩:=exchO_mem h
     exact⟨i,k,h1,by omega,h3⟩
    ·obtain⟨k,h1,h2⟩:=hk _ h
     exact⟨j,k,by omega,by omega,h1,h2⟩
theorem tell_ok (hg:DG g) {k:Nat} (hk:k < g.ws.length) (kind n:Int) (h:kind=2∨kind=3):FrmOk ⟨kind,W8 k,W16 n,0,0,0⟩∧W8 (k:Int)=(k:Int):=by
 have h3:=hg.l3
 have e1:W8 (k:Int)=(k:Int):=W8_small (by omega) (by omega)
 rw[e1]
 refine⟨⟨.inr ⟨h, ?_,rfl,rfl,rfl⟩, ?_, ?_,Int.le_refl _,Int.le_refl _,by show(0:Int)≤0∧(0:Int) < 4294967296;decide⟩,rfl⟩
 ·show(k:Int) < 3;omega
 ·show 0≤(k:Int);omega
 ·show 0≤W16 n∧W16 n < 65536
  rw[W16_mod];omega
theorem RowSays.of {a b:Nat} {na:NodeS} {f:Frm} (h:FrmSays g a b na f):RowSays g a b na (encF f):=⟨f,f.kind,(encF_set_kind f).symm,h.ok.kind.1,h.ok.kind.2,h⟩
structure Low (g:Geo) (v:Nat) (s:NodeS):Prop where
 sl:SL g v s
 sent:∀i k,1≤i→i < g.ports v→k < g.ws.length→g.p.start≤s.sent i k
 next:∀i k,1≤i→i < g.ports v→k < g.ws.length→g.p.start≤s.next i k∧Sm (s.next i k)
structure NT (g:Geo) (v:Nat) (s s':NodeS) (O:List (Nat×List Int)) (m:Int):Prop where
 m0:0≤m
 ni:NI g v s'
 limit:s'.limit=s.limit
 next:∀i k,s'.next i k=s.next i k
 sent:∀i k,s.sent i k≤s'.sent i k∧s'.sent i k≤s.sent i k+1
 sl:SL g v s'
 held:∀i k,1≤i→i < g.ports v→k < g.ws.length→s'.held i k≤s.held i k
 rows:∀x∈O,x.1∈nb g.t v∧RowSays g v x.1 s' x.2
 count:cntV g v s'=cntV g v s
 weight:nodeW (wayW g.t v) s' (g.ports v) g.ws.length+outW g.t O+m≤nodeW (wayW g.t v) s (g.ports v) g.ws.length
 still:m=0→s'.Q=(fedW g v s).Q∧(∀k,s'.q k=(fedW g v s).q k)∧s'.sent=s.sent∧s'.held=s.held∧(∀i t,i < g.ports v→t < g.ports v→mayTo (fedW g v s) i t g.ws.length=0)∧
  O=if Int.tmod s'.ticks g.p.every=0 then exchO g v s' (g.ports v)else []
theorem exchO_same {s':NodeS} (h1:s'.sent=s.sent) (h2:s'.next=s.next) (h3:s'.held=s.held):∀j,exchO g v s' j=exchO g v s j
 | 0=>rfl
 | j+1=>by
   have hk:∀K,tellK g v s' j K=tellK g v s j K:=by
    intro K
    induction K with
    | zero=>rfl
    | succ K ih=>unfold tellK tellO;rw[ih,h1,h2,h3]
   unfold exchO
   rw[exchO_same h1 h2 h3 j,hk]
theorem tell_says (hg:DG g) (hv:v≤g.t.length) (h:NI g v s) (hlo:Low g v s) {i k:Nat} (h1:1≤i) (hi:i < g.ports v) (hk:k < g.ws.length) {x:Nat×List Int} (hx:x∈tellO g v s i k):
  x.1∈nb g.t v∧RowSays g v x.1 s x.2∧rowW g.t x.1 x.2=0:=by
 have hm:=pn_mem h1 hi
 have hp:=port_pn hg.tree hg.t5 hv h1 hi
 have hroom:=hg.room
 have hH:=h.heldr h1 hi hk
 obtain⟨a1,a2⟩:=hlo.next i k h1 hi hk
 have a3:=hlo.sent i k h1 hi hk
 have er:=rlim_eq a2 hH.1 hH.2 hroom.2
 unfold tellO at hx
 rw[er]at hx
 obtain⟨f3,e3⟩:=tell_ok hg hk 3 (s.sent i k) (.inr rfl)
 obtain⟨f2,_⟩:=tell_ok hg hk 2 (s.next i k+g.p.room - s.held i k) (.inl rfl)
 have hkl:(W8 (k:Int)).toNat=k:=by rw[e3];exact Int.toNat_natCast k
 have hlane:W8 (k:Int) < (g.ws.length:Int):=by rw[e3];omega
 rcases List.mem_cons.1 hx with rfl | hx
 ·refine⟨hm, ?_, ?_⟩
  ·show RowSays g v (pn g.t v i) s (outB _)
   unfold outB
   rw[if_pos f3.sound]
   refine RowSays.of ⟨f3,hlane, .inr (.inr ⟨rfl,s.sent i k,rfl,a3, ?_⟩)⟩
   show s.sent i k≤s.sent (portN g.t v (pn g.t v i)) (W8 (k:Int)).toNat
   rw[hkl,hp];exact Int.le_refl _
  ·show rowW g.t (pn g.t v i) (outB _)=0
   unfold outB rowW
   rw[if_pos f3.sound,decF_encF f3]
   exact if_neg (fun e=>absurd (show(3:Int)=1 from e.2) (by decide))
 ·rw[List.mem_singleton]at hx
  subst hx
  refine⟨hm, ?_, ?_⟩
  ·show RowSays g v (pn g.t v i) s (outB _)
   unfold outB
   rw[if_pos f2.sound]
   refine RowSays.of ⟨f2,hlane, .inr (.inl ⟨rfl,_,rfl, ?_, ?_⟩)⟩
   ·omega
   ·show _≤s.next (portN g.t v (pn g.t v i)) (W8 (k:Int)).toNat+g.p.room - s.held (portN g.t v (pn g.t v i)) (W8 (k:Int)).toNat
    rw[hkl,hp];exact Int.le_refl _
  ·show rowW g.t (pn g.t v i) (outB _)=0
   unfold outB rowW
   rw[if_pos f2.sound,decF_encF f2]
   exact if_neg (fun e=>absurd (show(2:Int)=1 from e.2) (by decide))
theorem outW_zero {t:List Nat}:∀{O:List (Nat×List Int)},(∀x∈O,rowW t x.1 x.2=0)→outW t O=0
 | [],_=>rfl
 | x :: O,h=>by rw[outW,h x List.mem_cons_self,outW_zero (fun y hy=>h y (List.mem_cons_of_mem _ hy))];omega
theorem tick_nt (hg:DG g) (hv:v≤g.t.length) (h:NI g v s) (hlo:Low g v s) (hok:NodeOk g v s c):∃m,NT g v s (tickS g v s) (tickO g v s) m:=by
 obtain⟨m,m0,hM,h1,h2,h3⟩:=moved_mv hg hv h hlo.sl hok
 obtain⟨u,hu⟩:∃u,movedW g v s=u:=⟨_,rfl⟩
 rw[hu]at hM h1 h2 h3
 have e1:tickS g v s={u with ticks:=wrap64 (u.ticks+1)}:=by unfold tickS;rw[hu]
 have e2:tickO g v s=movesO g v (matchW g v (fedW g v s)).m (ranW g v s) (g.ports v) ++ (if Int.tmod (tickS g v s).ticks g.p.every=0 then exchO g v (tickS g v s) (g.ports v)else []):=by
  unfold tickO
  rw[hu,e1,exchO_same (s:=u) (s':={u with ticks:=wrap64 (u.ticks+1)}) rfl rfl rfl]
 obtain⟨w,hw⟩:∃w,tickS g v s=w:=⟨_,rfl⟩
 rw[e2,hw]
 rw[hw]at e1
 have q:w.Q=u.Q∧w.q=u.q∧w.sent=u.sent∧w.limit=u.limit∧w.next=u.next∧w.held=u.held∧w.free=u.free:=by rw[e1];exact⟨rfl,rfl,rfl,rfl,rfl,rfl,rfl⟩
 obtain⟨q1,q2,q3,q4,q5,q6,q7⟩:=q
 have hni:NI g v w:=hM.ni.same q1 q7 q6 (fun _ _=>by rw[q2])
 have hsl:SL g v w:=fun i k a b c=>by rw[q3,q4];exact hM.sl i k a b c
 have hlow:Low g v w:=⟨hsl,fun i k a b c=>by rw[q3];exact Int.le_trans (hlo.sent i k a b c) (hM.sent i k),fun i k a b c=>by rw[q5,hM.next];exact hlo.next i k a b c⟩
 have hX:∀x∈(if Int.tmod w.ticks g.p.every=0 then exchO g v w (g.ports v)else []),x.1∈nb g.t v∧RowSays g v x.1 w x.2∧rowW g.t x.1 x.2=0:=by
  intro x hx
  split at hx
  ·obtain⟨i,k,a,b,c,d⟩:=exchO_mem hx
   exact tell_says hg hv hni hlow a b c d
  ·cases hx
 have hW:∀F,nodeW F w (g.ports v) g.ws.length=nodeW F u (g.ports v) g.ws.length:=fun F=>nodeW_same q1 (fun _ _=>by rw[q2])
 refine⟨m,m0,hni,q4.trans hM.limit,fun i k=>by rw[q5];exact hM.next i k,fun i k=>by rw[q3];exact⟨hM.sent i k,h1 i k⟩,hsl,fun i k a b c=>by rw[q6];exact hM.held i k a b c, ?_, ?_, ?_, ?_⟩
 ·intro x hx
  rcases List.mem_append.1 hx with hx | hx
  ·obtain⟨ht,f,k,n,a1,a2,a3,a4,a5,a6,a7,a8,a9,a10,a11,a12⟩:=hM.rows x hx
   refine⟨ht, ?_⟩
   rw[a1]
   have hp:=portN_range ht
   refine RowSays.of ⟨a2,by omega, .inl ⟨a3,a9,a10,a11,a12,n,a6,Int.le_trans (hlo.sent _ k hp.1 hp.2 a5) a7, ?_⟩⟩
   have:f.lane.toNat=k:=by omega
   rw[this,q3];exact a8
  ·exact⟨(hX x hx).1,(hX x hx).2.1⟩
 ·unfold cntV
  have e3:sentAll g v w=sentAll g v u:=by unfold sentAll;rw[q3]
  have e4:nextAll g v w=nextAll g v s:=nextAll_same (fun i k=>by rw[q5];exact hM.next i k)
  have:=hM.count
  rw[hW,q2,e3,e4]
  omega
 ·rw[hW,outW_append,outW_zero (fun x hx=>(hX x hx).2.2)]
  have:=hM.weight
  omega
 ·intro hm
  obtain⟨b1,b2,b3⟩:=h3 hm
  have hf:=(fedW_fed hg h).1
  refine⟨by rw[q1,b1];rfl,fun k=>by rw[q2,b1];rfl,by rw[q3,b1];exact hf.sent,by rw[q6,b1];exact hf.held,b3, ?_⟩
  rw[b2,List.nil_append]
end
end Go.Proofs.YtebnflpanfmicaaGreatDoor
namespace Go.Proofs.YtebnflpanfmicaaGreatDoor
open Go.RowKit
def linkL (t:List Nat) (u:Nat):List (List Int)→Int
 | []=>0
 | r :: l=>rowW t u r+linkL t u l
theorem linkL_append (t:List Nat) (u:Nat):∀l l':List (List Int),linkL t u (l ++ l')=linkL t u l+linkL t u l'
 | [],_=>by simp[linkL]
 | r :: l,l'=>by rw[List.cons_append,linkL,linkL,linkL_append t u l l'];omega
theorem linkL_nat (t:List Nat) (u:Nat):∀l,0≤linkL t u l
 | []=>by simp[linkL]
 | r :: l=>by have:=rowW_nat t u r;have:=linkL_nat t u l;unfold linkL;omega
def nodesW (g:Geo) (nd:Nat→NodeS):Int:=sumI (fun v=>nodeW (wayW g.t v) (nd v) (g.ports v) g.ws.length) (g.t.length+1)
def linksW (g:Geo) (ln:Nat→List (List Int)):Int:=sumI (fun h=>linkL g.t ((hopsOf g.t).getD h (0,0)).2 (ln h)) (hopsOf g.t).length
theorem linksW_nat (g:Geo) (ln:Nat→List (List Int)):0≤linksW g ln:=sumI_nat _ (fun _=>linkL_nat _ _ _) _
section
variable {g:Geo} {c inj:Int} {k:Nat} {s:FabS}
theorem sendsF_mem (v h:Nat) (row:List Int):∀(O:List (Nat×List Int)) (ln:Nat→List (List Int)),row∈sendsF g v ln O h→row∈ln h∨∃x∈O,x.2=row∧hopI g.t v x.1=h
 | [],ln,hr=> .inl hr
 | x :: O,ln,hr=>by
   rcases sendsF_mem v h row O _ hr with h1 | ⟨y,hy,e1,e2⟩
   ·by_cases e:h=hopI g.t v x.1
    ·subst e
     rw[put_same]at h1
     unfold sendL at h1
     split at h1
     ·exact .inl h1
     ·rcases List.mem_append.1 h1 with h1 | h1
      ·exact .inl h1
      ·exact .inr ⟨x,List.mem_cons_self,(List.mem_singleton.1 h1).symm,rfl⟩
    ·rw[put_other _ _ _ e]at h1;exact .inl h1
   ·exact .inr ⟨y,List.mem_cons_of_mem _ hy,e1,e2⟩
theorem lnTo_mem (nd:Nat→NodeS) (ln:Nat→List (List Int)) (h:Nat) (row:List Int):∀V,row∈lnTo g nd ln V h→row∈ln h∨∃v,v < V∧∃x∈tickO g v (nd v),x.2=row∧hopI g.t v x.1=h
 | 0,hr=> .inl hr
 | V+1,hr=>by
   rcases sendsF_mem V h row _ _ hr with h1 | ⟨x,hx,e1,e2⟩
   ·rcases lnTo_mem nd ln h row V h1 with h1 | ⟨v,hv,x,hx⟩
    ·exact .inl h1
    ·exact .inr ⟨v,by omega,x,hx⟩
   ·exact .inr ⟨V,by omega,x,hx,e1,e2⟩
theorem sendsF_w (hg:DG g) {v:Nat} (hv:v≤g.t.length):∀(O:List (Nat×List Int)) (ln:Nat→List (List Int)),(∀x∈O,x.1∈nb g.t v)→linksW g (sendsF g v ln O)≤linksW g ln+outW g.t O
 | [],ln,_=>by show linksW g ln≤_;simp[outW]
 | x :: O,ln,h=>by
   have ih:=sendsF_w hg hv O (setAt ln (hopI g.t v x.1) (sendL g.p.bag (ln (hopI g.t v x.1)) x.2)) (fun y hy=>h y (List.mem_cons_of_mem _ hy))
   obtain⟨h1,h2⟩:=hop_at hg.tree hg.t5 hv (h x List.mem_cons_self)
   have e:linksW g (setAt ln (hopI g.t v x.1) (sendL g.p.bag (ln (hopI g.t v x.1)) x.2))≤linksW g ln+rowW g.t x.1 x.2:=by
    unfold linksW
    rw[sumI_upd (f:=fun h=>linkL g.t ((hopsOf g.t).getD h (0,0)).2 (ln h)) h1 (fun i hi=>by rw[put_other _ _ _ hi]),put_same]
    have e2:((hopsOf g.t).getD (hopI g.t v x.1) (0,0)).2=x.1:=by rw[List.getD_eq_getElem?_getD,h2];rfl
    rw[e2]
    unfold sendL
    have:=rowW_nat g.t x.1 x.2
    split
    ·omega
    ·rw[linkL_append,linkL,linkL];omega
   show linksW g (sendsF g v _ O)≤_
   rw[outW]
   omega
theorem lnTo_w (hg:DG g) (nd:Nat→NodeS) (ln:Nat→List (List Int)) (h:∀v,v≤g.t.length→∀x∈tickO g v (nd v),x.1∈nb g.t v):∀V,V≤g.t.length+1→linksW g (lnTo g nd ln V)≤linksW g ln+sumI (fun v=>outW g.t (tickO g v (nd v))) V
 | 0,_=>by show linksW g ln≤_;simp[sumI]
 | V+1,hV=>by
   have ih:=lnTo_w hg nd ln h V (by omega)
   have:=sendsF_w hg (v:=V) (by omega) (tickO g V (nd V)) (lnTo g nd ln V) (h V (by omega))
   show linksW g (sendsF g V (lnTo g nd ln V) (tickO g V (nd V)))≤_
   rw[sumI]
   omega
theorem FI.low (hg:DG g) (hc:0≤c∧c≤30000) (h:FI g c inj s) {v:Nat} (hv:v≤g.t.length):Low g v (s.nd v):=by
 have hst:=hg.start
 have hroom:=hg.room
 have key:∀i k,1≤i→i < g.ports v→k < g.ws.length→g.p.start≤(s.nd v).sent i k∧(s.nd v).sent i k≤(s.nd v).limit i k∧(s.nd v).sent i k≤g.p.start+c∧(s.nd v).limit i k≤g.p.start+c+8∧g.p.start≤(s.nd v).next i k∧(s.nd v).next i k≤g.p.start+c:=by
  intro i k h1 hi hk
  have hm:=pn_mem h1 hi
  have hp:=port_pn hg.tree hg.t5 hv h1 hi
  have hu:=nb_le hg.tree hg.t5 hv hm
  have hb:=nb_back hg.tree hg.t5 hv hm
  have L1:=h.lane v _ hv hm k hk
  have L2:=h.lane _ v hu hb k hk
  have hr:=portN_range hb
  have hH:=(h.nd _ hu).heldr hr.1 hr.2 hk
  have a1:=L1.lo;have a2:=L1.ns;have a3:=L1.sl;have a4:=L1.lr;have a5:=L1.top
  have b1:=L2.lo;have b2:=L2.ns;have b5:=L2.top
  rw[hp]at a2 a3 a4 a5 b1 b2
  omega
 refine⟨fun i k a b d=> ?_,fun i k a b d=>(key i k a b d).1,fun i k a b d=> ?_⟩
 ·have:=key i k a b d
  exact⟨⟨by omega,by omega⟩,⟨by omega,by omega⟩,this.2.1⟩
 ·have:=key i k a b d
  exact⟨this.2.2.2.2.1,by omega,by omega⟩
theorem FI.ticked (hg:DG g) (hc:0≤c∧c≤30000) (h:FI g c inj s) (hok:∀v,v≤g.t.length→NodeOk g v (s.nd v) k):
  ∃M:Nat→Int,(∀v,v≤g.t.length→NT g v (s.nd v) (tickS g v (s.nd v)) (tickO g v (s.nd v)) (M v))∧FI g (c+1) inj (tickF g s)∧
   nodesW g (tickF g s).nd+linksW g (tickF g s).ln+sumI M (g.t.length+1)≤nodesW g s.nd+linksW g s.ln:=by
 have hex:∀v,∃m,v≤g.t.length→NT g v (s.nd v) (tickS g v (s.nd v)) (tickO g v (s.nd v)) m:=fun v=>by
  by_cases hv:v≤g.t.length
  ·obtain⟨m,hm⟩:=tick_nt hg hv (h.nd v hv) (h.low hg hc hv) (hok v hv)
   exact⟨m,fun _=>hm⟩
  ·exact⟨0,fun e=>absurd e hv⟩
 obtain⟨M,hM⟩:=Classical.skolem.1 hex
 have hnd:∀v,v≤g.t.length→(tickF g s).nd v=tickS g v (s.nd v):=fun v hv=>if_pos (by omega)
 refine⟨M,hM,⟨?_, ?_, ?_, ?_⟩, ?_⟩
 ·intro v hv
  rw[hnd v hv];exact(hM v hv).ni
 ·intro a b ha hb k' hk
  have hbn:=nb_le hg.tree hg.t5 ha hb
  have hbk:=nb_back hg.tree hg.t5 ha hb
  rw[hnd a ha,hnd b hbn]
  have A:=hM a ha
  have B:=hM b hbn
  have old:=h.lane a b ha hb k' hk
  have r1:=portN_range hb
  have r2:=portN_range hbk
  have s1:=A.sent (portN g.t a b) k'
  have s2:=A.sl _ k' r1.1 r1.2 hk
  have s3:=B.held _ k' r2.1 r2.2 hk
  have s4:=B.next (portN g.t b a) k'
  have o1:=old.lo;have o2:=old.ns;have o4:=old.lr;have o5:=old.top
  refine⟨by rw[s4];exact o1,by rw[s4];omega,s2.2.2, ?_,by omega⟩
  rw[A.limit,s4];omega
 ·intro a b ha hb row hr
  rw[hnd a ha]
  have A:=hM a ha
  rcases lnTo_mem s.nd s.ln _ row _ hr with h1 | ⟨v,hv,x,hx,e1,e2⟩
  ·refine(h.rows a b ha hb row h1).mono (fun k' _=>(A.sent _ k').1) (fun k' hk=> ?_)
   have r1:=portN_range hb
   have:=A.held _ k' r1.1 r1.2 hk
   have:=A.next (portN g.t a b) k'
   omega
  ·have hx':=(hM v (by omega)).rows x hx
   obtain⟨e3,e4⟩:=hopI_inj hg (by omega) hx'.1 ha hb e2
   subst e3;subst e4;subst e1
   exact hx'.2
 ·refine Int.le_trans (Int.le_of_eq (sumI_congr fun v hv=> ?_)) h.count
  rw[hnd v (by omega)];exact(hM v (by omega)).count
 ·have h1:=lnTo_w hg s.nd s.ln (fun v hv x hx=>((hM v hv).rows x hx).1) (g.t.length+1) (Nat.le_refl _)
  have h2:nodesW g (tickF g s).nd+sumI (fun v=>outW g.t (tickO g v (s.nd v))) (g.t.length+1)+sumI M (g.t.length+1)≤nodesW g s.nd:=by
   unfold nodesW
   have add:∀(f f':Nat→Int) (n:Nat),sumI f n+sumI f' n=sumI (fun i=>f i+f' i) n:=by
    intro f f' n
    induction n with
    | zero=>rfl
    | succ n ih=>unfold sumI;rw[←ih];omega
   rw[add,add]
   refine sumI_le fun v hv=> ?_
   rw[hnd v (by omega)]
   exact(hM v (by omega)).weight
  show nodesW g (tickF g s).nd+linksW g (lnTo g s.nd s.ln (g.t.length+1))+_≤_
  omega
end
end Go.Proofs.YtebnflpanfmicaaGreatDoor
namespace Go.Proofs.YtebnflpanfmicaaGreatDoor
open Go.RowKit
section
variable {g:Geo} {c inj:Int} {k:Nat} {s:FabS}
theorem FI.links (h:FI g c inj s) {ln':Nat→List (List Int)} (hr:∀a b,a≤g.t.length→b∈nb g.t a→∀row∈ln' (hopI g.t a b),RowSays g a b (s.nd a) row):FI g c inj {s with ln:=ln'}:=
 ⟨h.nd,h.lane,hr,h.count⟩
theorem FI.link (hg:DG g) (h:FI g c inj s) {i:Nat} {rows:List (List Int)} (hr:∀a b,a≤g.t.length→b∈nb g.t a→hopI g.t a b=i→∀row∈rows,RowSays g a b (s.nd a) row):FI g c inj {s with ln:=setAt s.ln i rows}:=by
 refine h.links fun a b ha hb row hrow=> ?_
 by_cases e:hopI g.t a b=i
 ·rw[e,put_same]at hrow;exact hr a b ha hb e row hrow
 ·rw[put_other _ _ _ e]at hrow;exact h.rows a b ha hb row hrow
theorem FI.taken (hg:DG g) (h:FI g c inj s) (i:Nat) (r:Int):FI g c inj {s with ln:=setAt s.ln i (takeL (s.ln i) r)}:=
 h.link hg fun a b ha hb e row hrow=>h.rows a b ha hb row (by rw[e];exact takeL_mem hrow)
theorem FI.twice (hg:DG g) (h:FI g c inj s) (i:Nat) (r:Int):FI g c inj {s with ln:=setAt s.ln i (twiceL g.p.bag (s.ln i) r)}:=by
 refine h.link hg fun a b ha hb e row hrow=> ?_
 have hm:row∈s.ln i:=by
  unfold twiceL at hrow
  split at hrow
  ·rename_i hin
   unfold sendL at hrow
   split at hrow
   ·exact hrow
   ·rcases List.mem_append.1 hrow with hrow | hrow
    ·exact hrow
    ·rw[List.mem_singleton.1 hrow];exact mem_rowOf hin
  ·exact hrow
 exact h.rows a b ha hb row (by rw[e];exact hm)
theorem RowSays.bend {a b:Nat} {na:NodeS} {row:List Int} (h:RowSays g a b na row) (x:Int):RowSays g a b na (bendRow row 0 x):=by
 obtain⟨f,y,e,h1,h2,h3⟩:=h
 have h0:bendRow row 0 x=(encF f).set 0 (bits .xor .u8 (row.getD 0 0) x):=by
  unfold bendRow
  have:(0:Int).toNat % row.length=0:=by simp
  rw[this,e,List.set_set]
 rw[h0]
 exact⟨f,_,rfl,(W8_ok _).1,(W8_ok _).2,h3⟩
theorem FI.bent (hg:DG g) (h:FI g c inj s) (i:Nat) (r x:Int):FI g c inj {s with ln:=setAt s.ln i (bendL (s.ln i) r 0 x)}:=by
 refine h.link hg fun a b ha hb e row hrow=> ?_
 unfold bendL at hrow
 split at hrow
 ·rename_i hin
  rcases List.mem_or_eq_of_mem_set hrow with hrow | hrow
  ·exact h.rows a b ha hb row (by rw[e];exact hrow)
  ·rw[hrow]
   exact(h.rows a b ha hb _ (by rw[e];exact mem_rowOf hin.1)).bend x
 ·exact h.rows a b ha hb row (by rw[e];exact hrow)
theorem FI.inject (hg:DG g) (h:FI g c inj s) (x:Pkt) (hb:0≤x.body∧x.body < 4294967296):FI g c (if(injF g s x).2=0 then inj+1 else inj) (injF g s x).1:=by
 unfold injF
 by_cases hs:0≤x.src∧x.src≤g.t.length
 ·rw[if_pos hs]
  obtain⟨v,hv⟩:∃v:Nat,x.src=(v:Int):=⟨x.src.toNat,by omega⟩
  have hvn:v≤g.t.length:=by omega
  rw[hv,Int.toNat_natCast]
  simp only
  have triv:setAt s.nd v (s.nd v)=s.nd:=by
   funext y
   by_cases e:y=v
   ·subst e;rw[put_same]
   ·rw[put_other _ _ _ e]
  have hcase:(∃e:Int,e≠0∧injN g v (s.nd v) x=(s.nd v,e))∨(injOk g.t v x∧¬(x.lane < 0∨g.p.lanes≤x.lane)∧injN g v (s.nd v) x=({s.nd v with q:=setAt (s.nd v).q x.lane.toNat ((s.nd v).q x.lane.toNat ++ [x])},0)):=by
   unfold injN
   by_cases h1:injOk g.t v x
   ·rw[if_neg (not_not_intro h1)]
    by_cases h2:x.lane < 0∨g.p.lanes≤x.lane
    ·rw[if_pos h2];exact .inl ⟨1,by decide,rfl⟩
    ·rw[if_neg h2]
     by_cases h3:((((s.nd v).q x.lane.toNat).length:Nat):Int)=g.p.queue
     ·rw[if_pos h3];exact .inl ⟨150,by decide,rfl⟩
     ·rw[if_neg h3];exact .inr ⟨h1,h2,rfl⟩
   ·rw[if_pos h1];exact .inl ⟨1,by decide,rfl⟩
  rcases hcase with⟨e,he,hi⟩ | ⟨h1,h2,hi⟩
  ·rw[hi]
   simp only
   rw[if_neg he,triv];exact h
  ·rw[hi]
   simp only
   rw[if_pos trivial]
   have hdone:FI g c (inj+1) {s with nd:=setAt s.nd v ({s.nd v with q:=setAt (s.nd v).q x.lane.toNat ((s.nd v).q x.lane.toNat ++ [x])}:NodeS)}:=by
     have hl:=hg.lanes
     obtain⟨k,hk⟩:∃k:Nat,x.lane=(k:Int):=⟨x.lane.toNat,by omega⟩
     have hkL:k < g.ws.length:=by omega
     rw[hk,Int.toNat_natCast]
     obtain⟨o1,o2,o3,o4⟩:=h1
     have hpk:PkOk g x:=⟨by omega,by omega,by omega,by omega,hb⟩
     obtain⟨n,hn⟩:∃n,({s.nd v with q:=setAt (s.nd v).q k ((s.nd v).q k ++ [x])}:NodeS)=n:=⟨_,rfl⟩
     have q1:n.Q=(s.nd v).Q∧n.free=(s.nd v).free∧n.held=(s.nd v).held∧n.sent=(s.nd v).sent∧n.limit=(s.nd v).limit∧n.next=(s.nd v).next:=by rw[←hn];exact⟨rfl,rfl,rfl,rfl,rfl,rfl⟩
     have q2:n.q=setAt (s.nd v).q k ((s.nd v).q k ++ [x]):=by rw[←hn]
     rw[hn]
     have hV:=h.nd v hvn
     have hni:NI g v n:=by
      refine⟨fun key y hy=>hV.ring key y (q1.1▸hy),fun k' hk' y hy=> ?_,fun i k' a b=>by rw[lenQ_same q1.1];exact hV.row i k' a b,fun i k' a b d=>by rw[lenQ_same q1.1,q1.2.2.1];exact hV.held i k' a b d, ?_⟩
      ·rw[q2]at hy
       by_cases e:k'=k
       ·subst e
        rw[put_same]at hy
        rcases List.mem_append.1 hy with hy | hy
        ·exact hV.host k' hk' y hy
        ·rw[List.mem_singleton.1 hy];exact⟨hpk,hk,hv⟩
       ·rw[put_other _ _ _ e]at hy;exact hV.host k' hk' y hy
      ·have e:ringsN n (g.ports v) g.ws.length=ringsN (s.nd v) (g.ports v) g.ws.length:=by
        unfold ringsN
        exact sumI_congr fun k _=>sumI_congr fun i _=>lenQ_same q1.1 k i
       rw[q1.2.1,e];exact hV.free
     refine⟨?_, ?_, ?_, ?_⟩
     ·intro y hy
      show NI g y (setAt s.nd v n y)
      by_cases e:y=v
      ·subst e;rw[put_same];exact hni
      ·rw[put_other _ _ _ e];exact h.nd y hy
     ·intro a b ha hb' k' hk'
      have old:=h.lane a b ha hb' k' hk'
      have same:∀y,(setAt s.nd v n y).sent=(s.nd y).sent∧(setAt s.nd v n y).limit=(s.nd y).limit∧(setAt s.nd v n y).next=(s.nd y).next∧(setAt s.nd v n y).held=(s.nd y).held:=by
       intro y
       by_cases e:y=v
       ·subst e;rw[put_same];exact⟨q1.2.2.2.1,q1.2.2.2.2.1,q1.2.2.2.2.2,q1.2.2.1⟩
       ·rw[put_other _ _ _ e];exact⟨rfl,rfl,rfl,rfl⟩
      obtain⟨a1,a2,_,_⟩:=same a
      obtain⟨_,_,b3,b4⟩:=same b
      show LaneOk g c a b (setAt s.nd v n a) (setAt s.nd v n b) k'
      exact⟨by rw[b3];exact old.lo,by rw[b3,a1];exact old.ns,by rw[a1,a2];exact old.sl,by rw[a2,b3,b4];exact old.lr,by rw[a1];exact old.top⟩
     ·intro a b ha hb' row hr
      show RowSays g a b (setAt s.nd v n a) row
      have old:=h.rows a b ha hb' row hr
      by_cases e:a=v
      ·subst e
       rw[put_same]
       exact old.mono (fun k' _=>by rw[q1.2.2.2.1];exact Int.le_refl _) (fun k' _=>by rw[q1.2.2.2.2.2,q1.2.2.1];exact Int.le_refl _)
      ·rw[put_other _ _ _ e];exact old
     ·have hc:=h.count
      have e:cntF g {s with nd:=setAt s.nd v n}=cntF g s+(cntV g v n - cntV g v (s.nd v)):=by
       unfold cntF
       show sumI (fun y=>cntV g y (setAt s.nd v n y)) _=_
       rw[sumI_upd (f:=fun y=>cntV g y (s.nd y)) (show v < g.t.length+1 by omega) (fun i hi=>by rw[put_other _ _ _ hi]),put_same]
      have e2:cntV g v n=cntV g v (s.nd v)+1:=by
       unfold cntV
       have h3:(3:Nat)≠k:=by have:=hg.l3;omega
       have w:=nodeW_q (f:=fun _=>1) (P:=g.ports v) hkL q1.1 (fun k' hk'=>by rw[q2];exact put_other _ _ _ hk')
       have s1:sentAll g v n=sentAll g v (s.nd v):=by unfold sentAll;rw[q1.2.2.2.1]
       have s2:nextAll g v n=nextAll g v (s.nd v):=nextAll_same (fun _ _=>by rw[q1.2.2.2.2.2])
       have s3:n.q 3=(s.nd v).q 3:=by rw[q2];exact put_other _ _ _ h3
       have s4:n.q k=(s.nd v).q k ++ [x]:=by rw[q2];exact put_same _ _ _
       rw[w,s1,s2,s3,s4,sumP_snoc]
       omega
      rw[e,e2]
      omega
   exact hdone
 ·rw[if_neg hs,if_neg (by show ¬((1:Int)=0);decide)];exact h
end
end Go.Proofs.YtebnflpanfmicaaGreatDoor
namespace Go.Proofs.YtebnflpanfmicaaGreatDoor
open Go.RowKit
section
variable {g:Geo} {c inj:Int} {s:FabS}
structure Onw (g:Geo) (s s':FabS):Prop where
 sent:∀v,(s'.nd v).sent=(s.nd v).sent
 q:∀v,(s'.nd v).q=(s.nd v).q
 next:∀v i k,v≤g.t.length→1≤i→i < g.ports v→k < g.ws.length→(s.nd v).next i k≤(s'.nd v).next i k
 limit:∀v i k,v≤g.t.length→1≤i→i < g.ports v→k < g.ws.length→(s.nd v).limit i k≤(s'.nd v).limit i k
 weight:nodesW g s'.nd+linksW g s'.ln≤nodesW g s.nd+linksW g s.ln
theorem Onw.refl (s:FabS):Onw g s s:=⟨fun _=>rfl,fun _=>rfl,fun _ _ _ _ _ _ _=>Int.le_refl _,fun _ _ _ _ _ _ _=>Int.le_refl _,Int.le_refl _⟩
theorem Onw.trans {a b d:FabS} (h1:Onw g a b) (h2:Onw g b d):Onw g a d:=
 ⟨fun v=>(h2.sent v).trans (h1.sent v),fun v=>(h2.q v).trans (h1.q v),fun v i k x y z w=>Int.le_trans (h1.next v i k x y z w) (h2.next v i k x y z w),fun v i k x y z w=>Int.le_trans (h1.limit v i k x y z w) (h2.limit v i k x y z w),Int.le_trans h2.weight h1.weight⟩
theorem FI.first (hg:DG g) (hc:0≤c∧c≤30000) (h:FI g c inj s) {a b:Nat} (ha:a≤g.t.length) (hb:b∈nb g.t a) {r:List Int} {l:List (List Int)} (hl:s.ln (hopI g.t a b)=r :: l):
  (delF g s (hopI g.t a b) 0).2≠61∧(delF g s (hopI g.t a b) 0).1={s with nd:=setAt s.nd b (takeS g b a r (s.nd b)).1,ln:=setAt s.ln (hopI g.t a b) l}∧
  Rcv g a b (s.nd a) (s.nd b) (takeS g b a r (s.nd b)).1 r∧FI g c inj (delF g s (hopI g.t a b) 0).1∧Onw g s (delF g s (hopI g.t a b) 0).1:=by
 obtain⟨h1,h2⟩:=hop_at hg.tree hg.t5 ha hb
 have e:(hopsOf g.t).getD (hopI g.t a b) (0,0)=(a,b):=by rw[List.getD_eq_getElem?_getD,h2];rfl
 have hin:inRow (s.ln (hopI g.t a b)) 0=true:=by unfold inRow;rw[hl];simp
 have hrow:rowOf (s.ln (hopI g.t a b)) 0=r:=by unfold rowOf;rw[hl];rfl
 have htl:takeL (s.ln (hopI g.t a b)) 0=l:=by
  unfold takeL
  rw[if_pos (by rw[hl,List.length_cons];omega),hl]
  rfl
 have hd:delF g s (hopI g.t a b) 0=({s with nd:=setAt s.nd b (takeS g b a r (s.nd b)).1,ln:=setAt s.ln (hopI g.t a b) l},(takeS g b a r (s.nd b)).2):=by
  unfold delF
  rw[if_neg (by rw[hin];decide)]
  simp only[e]
  rw[hrow,htl]
 rw[hd]
 have hr:RowSays g a b (s.nd a) r:=h.rows a b ha hb r (by rw[hl];exact List.mem_cons_self)
 obtain⟨t1,t2,t3⟩:=h.take hg hc ha hb hr (ln':=setAt s.ln (hopI g.t a b) l) (fun j x hx=>by
  by_cases ej:j=hopI g.t a b
  ·subst ej;rw[put_same]at hx;rw[hl];exact List.mem_cons_of_mem _ hx
  ·rw[put_other _ _ _ ej]at hx;exact hx)
 refine⟨t1,rfl,t2,t3, ?_⟩
 have hbn:=nb_le hg.tree hg.t5 ha hb
 generalize (takeS g b a r (s.nd b)).1=n at*
 have at_:∀v,v≠b→setAt s.nd b n v=s.nd v:=fun v hv=>put_other _ _ _ hv
 have atb:setAt s.nd b n b=n:=put_same _ _ _
 refine⟨fun v=> ?_,fun v=> ?_,fun v i k x y z w=> ?_,fun v i k x y z w=> ?_, ?_⟩
 ·show(setAt s.nd b n v).sent=_
  by_cases ev:v=b
  ·subst ev;rw[atb];exact t2.sent
  ·rw[at_ v ev]
 ·show(setAt s.nd b n v).q=_
  by_cases ev:v=b
  ·subst ev;rw[atb];exact t2.q
  ·rw[at_ v ev]
 ·show _≤(setAt s.nd b n v).next i k
  by_cases ev:v=b
  ·subst ev;rw[atb]
   by_cases ei:i=portN g.t v a
   ·subst ei;exact(t2.next1 k w).1
   ·rw[t2.next i k ei];exact Int.le_refl _
  ·rw[at_ v ev];exact Int.le_refl _
 ·show _≤(setAt s.nd b n v).limit i k
  by_cases ev:v=b
  ·subst ev;rw[atb]
   by_cases ei:i=portN g.t v a
   ·subst ei;exact(t2.limit1 k w).1
   ·rw[t2.limit i k ei];exact Int.le_refl _
  ·rw[at_ v ev];exact Int.le_refl _
 ·have e1:nodesW g (setAt s.nd b n)=nodesW g s.nd+(nodeW (wayW g.t b) n (g.ports b) g.ws.length - nodeW (wayW g.t b) (s.nd b) (g.ports b) g.ws.length):=by
   unfold nodesW
   rw[sumI_upd (f:=fun v=>nodeW (wayW g.t v) (s.nd v) (g.ports v) g.ws.length) (show b < g.t.length+1 by omega) (fun i hi=>by rw[at_ i hi]),atb]
  have e2:linksW g (setAt s.ln (hopI g.t a b) l)=linksW g s.ln - rowW g.t b r:=by
   unfold linksW
   rw[sumI_upd (f:=fun h=>linkL g.t ((hopsOf g.t).getD h (0,0)).2 (s.ln h)) h1 (fun i hi=>by rw[put_other _ _ _ hi]),put_same,e,hl,linkL]
   show _=_ - rowW g.t (a,b).2 r
   omega
  have:=t2.weight
  show nodesW g (setAt s.nd b n)+linksW g (setAt s.ln (hopI g.t a b) l)≤_
  rw[e1,e2]
  omega
theorem FI.rows_del (hg:DG g) (hc:0≤c∧c≤30000) (h:FI g c inj s) {a b:Nat} (ha:a≤g.t.length) (hb:b∈nb g.t a):∀n,n≤(s.ln (hopI g.t a b)).length→
  FI g c inj (delN g (hopI g.t a b) s n)∧Onw g s (delN g (hopI g.t a b) s n)∧(delN g (hopI g.t a b) s n).ln (hopI g.t a b)=(s.ln (hopI g.t a b)).drop n∧
  (∀i,i≠hopI g.t a b→(delN g (hopI g.t a b) s n).ln i=s.ln i)∧(delN g (hopI g.t a b) s n).ticks=s.ticks∧∀v,ovN g (hopI g.t a b) s n v=v
 | 0,_=>⟨h,Onw.refl s,rfl,fun _ _=>rfl,rfl,fun _=>rfl⟩
 | n+1,hn=>by
   obtain⟨h1,h2,h3,h4,h5,h6⟩:=FI.rows_del hg hc h ha hb n (by omega)
   have hd:(delN g (hopI g.t a b) s n).ln (hopI g.t a b)=(s.ln (hopI g.t a b))[n] :: (s.ln (hopI g.t a b)).drop (n+1):=by
    rw[h3];exact List.drop_eq_getElem_cons (by omega)
   obtain⟨f1,f2,f3,f4,f5⟩:=h1.first hg hc ha hb hd
   refine⟨f4,h2.trans f5, ?_, ?_, ?_, ?_⟩
   ·show(delF g _ _ 0).1.ln _=_
    rw[f2];exact put_same _ _ _
   ·intro i hi
    show(delF g _ _ 0).1.ln _=_
    rw[f2,←h4 i hi];exact put_other _ _ _ hi
   ·show(delF g _ _ 0).1.ticks=_
    rw[f2];exact h5
   ·intro v
    show(if(delF g _ _ 0).2=61 then _ else _)=_
    rw[if_neg f1,h6]
theorem FI.all_del (hg:DG g) (hc:0≤c∧c≤30000) (h:FI g c inj s):∀n,n≤(hopsOf g.t).length→
  FI g c inj (delH g s n)∧Onw g s (delH g s n)∧(∀i,i < n→(delH g s n).ln i=[])∧(∀i,n≤i→(delH g s n).ln i=s.ln i)∧(delH g s n).ticks=s.ticks∧∀v,ovH g s n v=v
 | 0,_=>⟨h,Onw.refl s,fun i hi=>by omega,fun _ _=>rfl,rfl,fun _=>rfl⟩
 | n+1,hn=>by
   obtain⟨h1,h2,h3,h4,h5,h6⟩:=FI.all_del hg hc h n (by omega)
   obtain⟨x,hx⟩:∃x,(hopsOf g.t)[n]? =some x:=⟨_,List.getElem?_eq_getElem (by omega)⟩
   obtain⟨o1,o2,o3,o4,o5⟩:=hop_of hg hx
   have key:=h1.rows_del hg hc o1 o3 ((delH g s n).ln n).length (by rw[o5];exact Nat.le_refl _)
   rw[o5]at key
   obtain⟨k1,k2,k3,k4,k5,k6⟩:=key
   refine⟨k1,h2.trans k2, ?_, ?_,k5.trans h5, ?_⟩
   ·intro i hi
    by_cases e:i=n
    ·subst e
     show(delN g i (delH g s i) _).ln i=_
     rw[k3,List.drop_length]
    ·show(delN g n (delH g s n) _).ln i=_
     rw[k4 i e];exact h3 i (by omega)
   ·intro i hi
    show(delN g n (delH g s n) _).ln i=_
    rw[k4 i (by omega)];exact h4 i (by omega)
   ·intro v
    show ovN g n (delH g s n) _ _=_
    rw[k6,h6]
end
end Go.Proofs.YtebnflpanfmicaaGreatDoor
namespace Go.Proofs.YtebnflpanfmicaaGreatDoor
open Go.RowKit
section
variable {g:Geo} {c inj:Int} {k:Nat} {s:FabS}
theorem FI.round (hg:DG g) (hc:0≤c∧c < 30000) (h:FI g c inj s) (hok:∀v,v≤g.t.length→NodeOk g v (s.nd v) k):
  ∃M:Nat→Int,(∀v,v≤g.t.length→NT g v (s.nd v) (tickS g v (s.nd v)) (tickO g v (s.nd v)) (M v))∧FI g (c+1) inj (tickF g s)∧FI g (c+1) inj (roundF g s)∧Onw g (tickF g s) (roundF g s)∧
   (∀i,i < (hopsOf g.t).length→(roundF g s).ln i=[])∧nodesW g (roundF g s).nd+sumI M (g.t.length+1)≤nodesW g s.nd+linksW g s.ln∧∀v,ovH g (tickF g s) (hopsOf g.t).length v=v:=by
 obtain⟨M,h1,h2,h3⟩:=h.ticked hg ⟨hc.1,by omega⟩ hok
 obtain⟨a1,a2,a3,_,_,a6⟩:=h2.all_del hg ⟨by omega,by omega⟩ (hopsOf g.t).length (Nat.le_refl _)
 refine⟨M,h1,h2,a1,a2,a3, ?_,a6⟩
 have:=a2.weight
 have:=linksW_nat g (delH g (tickF g s) (hopsOf g.t).length).ln
 show nodesW g (delH g (tickF g s) (hopsOf g.t).length).nd+_≤_
 omega
theorem sumI_zero (n:Nat):sumI (fun _=>0) n=0:=by rw[sumI_const];omega
theorem FI.new (hg:DG g):FI g 0 0 (newF g):=by
 have hst:=hg.start
 have hroom:=hg.room
 have hlim:W64 (g.p.start+g.p.room)=g.p.start+g.p.room:=by rw[W64_mod,Int.emod_eq_of_lt (by omega) (by omega)]
 have hl0:∀v i k,lenQ (newS g v) (g.ports v) k i=0:=fun v i k=>by
  show sumI (fun _=>((([]:List Pkt).length:Nat):Int)) _=0
  exact sumI_zero _
 refine⟨?_, ?_, ?_, ?_⟩
 ·intro v hv
  refine⟨fun key x hx=>(List.not_mem_nil hx).elim,fun k _ x hx=>(List.not_mem_nil hx).elim,fun i k _ _=>(by show lenQ (newS g v) (g.ports v) k i≤_;rw[hl0];omega),fun i k _ _ _=>(by show(0:Int)=lenQ (newS g v) (g.ports v) k i;rw[hl0]), ?_⟩
  have e:ringsN (newS g v) (g.ports v) g.ws.length=0:=by
   unfold ringsN
   rw[sumI_congr (f':=fun _=>0) (fun k _=>by rw[sumI_congr (f':=fun _=>0) (fun i _=>hl0 v i k)];exact sumI_zero _)]
   exact sumI_zero _
  show((g.ports v*g.ws.length*g.p.room.toNat:Nat):Int)+ringsN (newS g v) _ _=_
  rw[e]
  have hr:((g.p.room.toNat:Nat):Int)=g.p.room:=by omega
  push_cast
  rw[hr,Int.add_zero,Int.mul_assoc]
 ·intro a b ha hb k hk
  refine⟨Int.le_refl _,Int.le_refl _, ?_, ?_, ?_⟩
  ·show g.p.start≤W64 (g.p.start+g.p.room);rw[hlim];omega
  ·show W64 (g.p.start+g.p.room)≤g.p.start+g.p.room - 0;rw[hlim];omega
  ·show g.p.start≤g.p.start+0;omega
 ·intro a b _ _ row hr;cases hr
 ·have e:∀v,cntV g v ((newF g).nd v)=0:=fun v=>by
   unfold cntV
   have e1:nodeW (fun _=>1) (newS g v) (g.ports v) g.ws.length=0:=by
    unfold nodeW loadW ringW
    rw[sumI_congr (f':=fun _=>0) (fun k _=>by
     show 0+sumI (fun _=>sumI (fun _=>0) _) _=0
     rw[sumI_congr (f':=fun _=>0) (fun i _=>sumI_zero _),sumI_zero];rfl)]
    exact sumI_zero _
   show nodeW (fun _=>1) (newS g v) _ _+0+sentAll g v (newS g v) - nextAll g v (newS g v)=0
   have e2:sentAll g v (newS g v)=nextAll g v (newS g v):=rfl
   rw[e1,e2];omega
  unfold cntF
  rw[sumI_congr (f':=fun _=>0) (fun v _=>e v),sumI_zero]
  exact Int.le_refl _
theorem FI.step (hg:DG g) (hc:0≤c∧c < 30000) {p:PlayS} (h:FI g c (p.sent.length:Int) p.fs) (hok:∀v,v≤g.t.length→NodeOk g v (p.fs.nd v) k) (x:Stp) (hb:0≤x.x.body∧x.x.body < 4294967296) (hl:(x.made g).ln.toNat < (hopsOf g.t).length):
  FI g (c+1) ((stepF g p x).sent.length:Int) (stepF g p x).fs∧(stepF g p x).over=p.over:=by
 have hc':0≤c∧c≤30000:=⟨hc.1,by omega⟩
 obtain⟨m,hm⟩:∃m,x.made g=m:=⟨_,rfl⟩
 have hmb:m.x.body=x.x.body:=by rw[←hm];rfl
 have hmp:m.pos=0:=by rw[←hm];rfl
 unfold stepF
 simp only[hm]
 rw[hm]at hl
 by_cases k1:m.kind % 16 < 4
 ·rw[if_pos k1]
  have hi:=h.inject hg m.x (by rw[hmb];exact hb)
  refine⟨hi.more (by omega) ?_,rfl⟩
  show _≤((if(injF g p.fs m.x).2=0 then p.sent ++ [m.x]else p.sent).length:Int)
  split
  ·rw[List.length_append];simp
  ·exact Int.le_refl _
 rw[if_neg k1]
 by_cases k2:m.kind % 16 < 8
 ·rw[if_pos k2]
  obtain⟨d1,d2⟩:=h.deliver hg hc' hl m.row
  refine⟨d2.more (by omega) (Int.le_refl _), ?_⟩
  show(if _ then _ else _)=_
  rw[if_neg d1]
 rw[if_neg k2]
 by_cases k3:m.kind % 16=8
 ·rw[if_pos k3]
  exact⟨(h.taken hg _ m.row).more (by omega) (Int.le_refl _),rfl⟩
 rw[if_neg k3]
 by_cases k4:m.kind % 16=9
 ·rw[if_pos k4]
  exact⟨(h.twice hg _ m.row).more (by omega) (Int.le_refl _),rfl⟩
 rw[if_neg k4]
 by_cases k5:m.kind % 16=10
 ·rw[if_pos k5,hmp]
  exact⟨(h.bent hg _ m.row m.mask).more (by omega) (Int.le_refl _),rfl⟩
 rw[if_neg k5]
 by_cases k6:m.kind % 16 < 13
 ·rw[if_pos k6]
  obtain⟨_,_,h2,_⟩:=h.ticked hg hc' hok
  exact⟨h2,rfl⟩
 rw[if_neg k6]
 obtain⟨_,_,_,h2,_,_,_,h3⟩:=h.round hg hc hok
 exact⟨h2,h3 _⟩
end
end Go.Proofs.YtebnflpanfmicaaGreatDoor
