/-
  Part 41 of the proof: TopDrI, TopDrJ, TopDrK, TopDrL.
-/
import Derived.Test.YtebnflpanfmicaaGreatDoorPkBN
set_option linter.unusedVariables false
set_option linter.unusedSimpArgs false
set_option linter.unusedSectionVars false
namespace Go.Proofs.YtebnflpanfmicaaGreatDoor
open Go.RowKit
section
variable {g:Geo} {v c:Nat} {s:NodeS}
theorem movesS_still (g:Geo) (v:Nat) (m:Nat→Int) (s:NodeS):∀j,(∀i,i < j→m i < 0)→movesS g m s j=s∧movesO g v m s j=[]
 | 0,_=>⟨rfl,rfl⟩
 | j+1,h=>by
   obtain⟨h1,h2⟩:=movesS_still g v m s j (fun i hi=>h i (by omega))
   have h3:=h j (by omega)
   unfold movesS movesO
   rw[if_neg (by omega),if_neg (by omega)]
   exact⟨h1,h2⟩
theorem moves_mv (hg:DG g) (hv:v≤g.t.length) (h:NI g v s) (hs:SL g v s) (hok:NodeOk g v s c) {m:Nat→Int} (hm:∀i,m i < g.ports v)
  (h1:∀i j,i < g.ports v→j < g.ports v→0≤m i→m i=m j→i=j) (hask:∀i,i < g.ports v→0≤m i→mayTo s i (m i).toNat g.ws.length≠0):
  ∀j,j≤g.ports v→∃n:Int,0≤n∧Mv g v s (movesS g m s j) (movesO g v m s j) n∧((∃i,i < j∧0≤m i)→1≤n)∧
   ∀i' k,(movesS g m s j).sent i' k≤s.sent i' k+1∧((∀i,i < j→m i≠(i':Int))→(movesS g m s j).sent i' k≤s.sent i' k)
 | 0,_=>⟨0,Int.le_refl _,Mv.refl h hs,fun⟨i,hi,_⟩=>by omega,fun i' k=>⟨by show s.sent i' k≤_;omega,fun _=>Int.le_refl _⟩⟩
 | j+1,hj=>by
   obtain⟨n,n0,n1,n2,n3⟩:=moves_mv hg hv h hs hok hm h1 hask j (by omega)
   by_cases h0:0≤m j
   ·obtain⟨t,ht⟩:∃t:Nat,m j=(t:Int):=⟨(m j).toNat,by omega⟩
    have htP:t < g.ports v:=by have:=hm j;omega
    have hok':=NodeOk.moves hok hm j
    obtain⟨n',a0,a1,a2,a3⟩:=move_mv hg hv n1.ni n1.sl (hok'.wheel t htP) (show j < g.ports v by omega) htP
    have e1:movesS g m s (j+1)=moveS g j t (movesS g m s j):=by
     show(if 0≤m j then _ else _)=_
     rw[if_pos h0,ht,Int.toNat_natCast]
    have e2:movesO g v m s (j+1)=movesO g v m s j ++ moveO g v j t (movesS g m s j):=by
     show(if 0≤m j then _ else _)=_
     rw[if_pos h0,ht,Int.toNat_natCast]
    rw[e1,e2]
    refine⟨n+n',by omega,n1.trans a1, ?_, ?_⟩
    ·intro _
     by_cases hf:∃i,i < j∧0≤m i
     ·have:=n2 hf;omega
     ·have hs0:movesS g m s j=s:=(movesS_still g v m s j (fun i hi=>by
       by_cases e:m i < 0
       ·exact e
       ·exact absurd ⟨i,hi,by omega⟩ hf)).1
      have:=a2 (by rw[hs0];have:=hask j (by omega) h0;rw[ht,Int.toNat_natCast]at this;exact this)
      omega
    ·intro i' k
     have b:=a3 i' k
     obtain⟨c1,c2⟩:=n3 i' k
     by_cases e:i'=t
     ·subst e
      rw[if_pos rfl]at b
      have:=c2 (fun i hi e=>by have:=h1 i j (by omega) (by omega) (by omega) (by omega);omega)
      exact⟨by omega,fun hh=>absurd ht (hh j (by omega))⟩
     ·rw[if_neg e]at b
      exact⟨by omega,fun hh=>by have:=c2 (fun i hi=>hh i (by omega));omega⟩
   ·have e1:movesS g m s (j+1)=movesS g m s j:=by
     show(if 0≤m j then _ else _)=_
     rw[if_neg h0]
    have e2:movesO g v m s (j+1)=movesO g v m s j:=by
     show(if 0≤m j then _ else _)=_
     rw[if_neg h0]
    rw[e1,e2]
    refine⟨n,n0,n1,fun⟨i,hi,hi0⟩=>n2 ⟨i, ?_,hi0⟩,fun i' k=>⟨(n3 i' k).1,fun hh=>(n3 i' k).2 (fun i hi=>hh i (by omega))⟩⟩
    by_cases e:i=j
    ·subst e;exact absurd hi0 h0
    ·omega
theorem asks_at (s:NodeS) (L P i k:Nat) (hi:i < P):asks (asksAt s L P P 0) i k=(decide (k < P) && decide (mayTo s i k L≠0)):=by
 unfold asks
 have e:(asksAt s L P P 0).getD i 0=askTo s L i P:=by
  unfold asksAt
  rw[List.getD_eq_getElem?_getD,List.getElem?_map,List.getElem?_range hi]
  simp[hi]
 rw[e,askTo_bt,has_bt]
theorem some_match {R:Nat→Nat→Bool} {n c:Nat} {G A:Nat→Nat} (hG:∀k,k < n→G k < n) (hA:∀k,k < n→A k < n) {i k:Nat} (hi:i < n) (hk:k < n) (hR:R i k=true):
  ∃j,j < n∧0≤(roundsP R n (start G A) (1+c)).m j:=by
 have hF:=fit_start hG hA
 have⟨j,hj,ht⟩:∃j,j < n∧took R (start G A) n j=true:=by
  by_cases h:∃j,j < n∧took R (start G A) n j=true
  ·exact h
  ·exfalso
   have:=idle_whole (R:=R) hF (fun j hj=>by
    cases e:took R (start G A) n j with
    | false=>rfl
    | true=>exact absurd ⟨j,hj,e⟩ h) hi hk (by show(-1:Int) < 0;omega) (by
      unfold freeB
      rw[List.all_eq_true]
      intro x _
      show((-1:Int) != (k:Int))=true
      rw[bne_iff_ne];omega)
   rw[hR]at this;cases this
 refine⟨j,hj, ?_⟩
 have h1:0≤(roundsP R n (start G A) 1).m j:=by
  show 0≤(roundP R n (0 == 0) (start G A)).m j
  rw[round_m,if_pos ⟨hj,ht⟩]
  exact(took_neg ht).2
 rw[rounds_keep h1];exact h1
theorem match_facts (hg:DG g) (hok:NodeOk g v s c):(∀i,(matchW g v s).m i < g.ports v)∧
  (∀i j,i < g.ports v→j < g.ports v→0≤(matchW g v s).m i→(matchW g v s).m i=(matchW g v s).m j→i=j)∧
  (∀i,i < g.ports v→0≤(matchW g v s).m i→mayTo s i ((matchW g v s).m i).toNat g.ws.length≠0)∧
  ((∃i t,i < g.ports v∧t < g.ports v∧mayTo s i t g.ws.length≠0)→∃i,i < g.ports v∧0≤(matchW g v s).m i):=by
 have hF:=match_fit hok
 refine⟨hF.hi,hF.one, ?_, ?_⟩
 ·intro i hi h0
  have:=asked_rounds (fit_start hok.G hok.A) (asked_start (asks (asksAt s g.ws.length (g.ports v) (g.ports v) 0)) (g.ports v) s.G s.A) g.p.rounds.toNat i hi h0
  rw[asks_at _ _ _ _ _ hi,Bool.and_eq_true,decide_eq_true_eq,decide_eq_true_eq]at this
  exact this.2
 ·rintro⟨i,t,hi,ht,hm⟩
  obtain⟨r,hr⟩:∃r,g.p.rounds.toNat=1+r:=⟨g.p.rounds.toNat - 1,by have:=hg.rounds;omega⟩
  unfold matchW
  rw[hr]
  exact some_match hok.G hok.A hi ht (by rw[asks_at _ _ _ _ _ hi,decide_eq_true ht,decide_eq_true hm];rfl)
theorem movesS_ticks (g:Geo) (m:Nat→Int) (s:NodeS):∀j,(movesS g m s j).ticks=s.ticks
 | 0=>rfl
 | j+1=>by
   have ih:=movesS_ticks g m s j
   unfold movesS
   split
   ·rw[←ih]
    generalize movesS g m s j=u
    unfold moveS
    simp only
    split
    ·rfl
    ·split
     ·show(takeW _ _ _ _).ticks=_
      unfold takeW;split <;>rfl
     ·show(takeW _ _ _ _).ticks=_
      unfold takeW;split <;>rfl
   ·exact ih
theorem mayTo_same {s s':NodeS} (hQ:s'.Q=s.Q) (h1:s'.sent=s.sent) (h2:s'.limit=s.limit) (i t L:Nat):mayTo s' i t L=mayTo s i t L:=by
 rw[mayTo_bt,mayTo_bt]
 refine bt_congr L fun k _=> ?_
 unfold mayOne
 rw[hQ,h1,h2]
theorem moved_mv (hg:DG g) (hv:v≤g.t.length) (h:NI g v s) (hs:SL g v s) (hok:NodeOk g v s c):
  ∃n:Int,0≤n∧Mv g v s (movedW g v s) (movesO g v (matchW g v (fedW g v s)).m (ranW g v s) (g.ports v)) n∧(∀i k,(movedW g v s).sent i k≤s.sent i k+1)∧(movedW g v s).ticks=s.ticks∧
   (n=0→movedW g v s=ranW g v s∧movesO g v (matchW g v (fedW g v s)).m (ranW g v s) (g.ports v)=[]∧∀i t,i < g.ports v→t < g.ports v→mayTo (fedW g v s) i t g.ws.length=0):=by
 obtain⟨hf,_⟩:=fedW_fed hg h
 have hokF:=NodeOk.fed hok hg.l3
 have hokR:=NodeOk.ran hok hg.l3
 obtain⟨m1,m2,m3,m4⟩:=match_facts hg hokF
 have hsF:SL g v (fedW g v s):=fun i k a b c=>by rw[hf.sent,hf.limit];exact hs i k a b c
 have hR:NI g v (ranW g v s):=hf.ni.same rfl rfl rfl (fun _ _=>rfl)
 have hsR:SL g v (ranW g v s):=hsF
 obtain⟨n,n0,n1,n2,n3⟩:=moves_mv hg hv hR hsR hokR m1 m2 (fun i hi h0=>by rw[mayTo_same (s:=fedW g v s) (s':=ranW g v s) rfl rfl rfl];exact m3 i hi h0) (g.ports v) (Nat.le_refl _)
 have hFR:Mv g v s (ranW g v s) [] 0:=by
  refine⟨hR,hf.limit,fun i k=>by show(fedW g v s).next i k=_;rw[hf.next],fun i k=>by show _≤(fedW g v s).sent i k;rw[hf.sent];exact Int.le_refl _,hsR,
   fun i k _ _ _=>by show(fedW g v s).held i k≤_;rw[hf.held];exact Int.le_refl _,fun x hx=>absurd hx List.not_mem_nil, ?_, ?_⟩
  ·have e1:nodeW (fun _=>1) (ranW g v s) (g.ports v) g.ws.length=nodeW (fun _=>1) (fedW g v s) (g.ports v) g.ws.length:=nodeW_same rfl (fun _ _=>rfl)
   have e2:(ranW g v s).q 3=s.q 3:=hf.came
   have e3:sentAll g v (ranW g v s)=sentAll g v s:=by
    unfold sentAll
    have:(ranW g v s).sent=s.sent:=hf.sent
    rw[this]
   rw[e1,hf.w,e2,e3]
  ·have e1:nodeW (wayW g.t v) (ranW g v s) (g.ports v) g.ws.length=nodeW (wayW g.t v) (fedW g v s) (g.ports v) g.ws.length:=nodeW_same rfl (fun _ _=>rfl)
   rw[e1,hf.w,outW]
   omega
 have hall:=hFR.trans n1
 rw[List.nil_append,Int.zero_add]at hall
 refine⟨n,n0,hall,fun i k=> ?_, ?_, ?_⟩
 ·have:=(n3 i k).1
  have e:(ranW g v s).sent=s.sent:=hf.sent
  rw[e]at this
  exact this
 ·show(movesS g _ (ranW g v s) _).ticks=_
  rw[movesS_ticks]
  exact hf.ticks
 ·intro hn
  have hneg:∀i,i < g.ports v→(matchW g v (fedW g v s)).m i < 0:=fun i hi=>by
   by_cases e:(matchW g v (fedW g v s)).m i < 0
   ·exact e
   ·have:=n2 ⟨i,hi,by omega⟩;omega
  obtain⟨a,b⟩:=movesS_still g v (matchW g v (fedW g v s)).m (ranW g v s) (g.ports v) hneg
  refine⟨a,b,fun i t hi ht=> ?_⟩
  by_cases e:mayTo (fedW g v s) i t g.ws.length=0
  ·exact e
  ·obtain⟨j,hj,h0⟩:=m4 ⟨i,t,hi,ht,e⟩
   have:=hneg j hj;omega
end
end Go.Proofs.YtebnflpanfmicaaGreatDoor
namespace Go.Proofs.YtebnflpanfmicaaGreatDoor
open Go.RowKit
structure LaneOk (g:Geo) (c:Int) (a b:Nat) (na nb:NodeS) (k:Nat):Prop where
 lo:g.p.start≤nb.next (portN g.t b a) k
 ns:nb.next (portN g.t b a) k≤na.sent (portN g.t a b) k
 sl:na.sent (portN g.t a b) k≤na.limit (portN g.t a b) k
 lr:na.limit (portN g.t a b) k≤nb.next (portN g.t b a) k+g.p.room - nb.held (portN g.t b a) k
 top:na.sent (portN g.t a b) k≤g.p.start+c
structure FrmSays (g:Geo) (a b:Nat) (na:NodeS) (f:Frm):Prop where
 ok:FrmOk f
 lane:f.lane < g.ws.length
 says:(f.kind=1∧f.dst≤g.t.length∧f.src≤g.t.length∧nxt g.t a f.dst.toNat=b∧f.dst.toNat≠a∧∃n,f.seq=W16 n∧g.p.start≤n∧n < na.sent (portN g.t a b) f.lane.toNat)∨
  (f.kind=2∧∃n,f.seq=W16 n∧g.p.start≤n∧n≤na.next (portN g.t a b) f.lane.toNat+g.p.room - na.held (portN g.t a b) f.lane.toNat)∨
  (f.kind=3∧∃n,f.seq=W16 n∧g.p.start≤n∧n≤na.sent (portN g.t a b) f.lane.toNat)
def RowSays (g:Geo) (a b:Nat) (na:NodeS) (row:List Int):Prop:=∃f x,row=(encF f).set 0 x∧0≤x∧x≤255∧FrmSays g a b na f
theorem FrmSays.mono {g:Geo} {a b:Nat} {na na':NodeS} {f:Frm} (h:FrmSays g a b na f) (h1:∀k,k < g.ws.length→na.sent (portN g.t a b) k≤na'.sent (portN g.t a b) k)
  (h2:∀k,k < g.ws.length→na.next (portN g.t a b) k - na.held (portN g.t a b) k≤na'.next (portN g.t a b) k - na'.held (portN g.t a b) k):FrmSays g a b na' f:=by
 have hl:f.lane.toNat < g.ws.length:=by have:=h.lane;have:=h.ok.lane;omega
 have:=h1 _ hl
 have:=h2 _ hl
 refine⟨h.ok,h.lane, ?_⟩
 rcases h.says with⟨e,b1,b2,b3,b4,n,e1,e2,e3⟩ | ⟨e,n,e1,e2,e3⟩ | ⟨e,n,e1,e2,e3⟩
 ·exact .inl ⟨e,b1,b2,b3,b4,n,e1,e2,by omega⟩
 ·exact .inr (.inl ⟨e,n,e1,e2,by omega⟩)
 ·exact .inr (.inr ⟨e,n,e1,e2,by omega⟩)
theorem RowSays.mono {g:Geo} {a b:Nat} {na na':NodeS} {row:List Int} (h:RowSays g a b na row) (h1:∀k,k < g.ws.length→na.sent (portN g.t a b) k≤na'.sent (portN g.t a b) k)
  (h2:∀k,k < g.ws.length→na.next (portN g.t a b) k - na.held (portN g.t a b) k≤na'.next (portN g.t a b) k - na'.held (portN g.t a b) k):RowSays g a b na' row:=by
 obtain⟨f,x,e,h3,h4,h5⟩:=h
 exact⟨f,x,e,h3,h4,h5.mono h1 h2⟩
structure Rcv (g:Geo) (a b:Nat) (na s s':NodeS) (row:List Int):Prop where
 ni:NI g b s'
 sent:s'.sent=s.sent
 q:s'.q=s.q
 limit:∀i k,i≠portN g.t b a→s'.limit i k=s.limit i k
 next:∀i k,i≠portN g.t b a→s'.next i k=s.next i k
 held:∀i k,i≠portN g.t b a→s'.held i k=s.held i k
 limit1:∀k,k < g.ws.length→s.limit (portN g.t b a) k≤s'.limit (portN g.t b a) k∧(s'.limit (portN g.t b a) k≤s.limit (portN g.t b a) k∨s'.limit (portN g.t b a) k≤na.next (portN g.t a b) k+g.p.room - na.held (portN g.t a b) k)
 next1:∀k,k < g.ws.length→s.next (portN g.t b a) k≤s'.next (portN g.t b a) k∧s'.next (portN g.t b a) k≤na.sent (portN g.t a b) k
 held1:∀k,k < g.ws.length→s.next (portN g.t b a) k - s.held (portN g.t b a) k≤s'.next (portN g.t b a) k - s'.held (portN g.t b a) k
 count:nodeW (fun _=>1) s' (g.ports b) g.ws.length - nextAll g b s'≤nodeW (fun _=>1) s (g.ports b) g.ws.length - nextAll g b s
 weight:nodeW (wayW g.t b) s' (g.ports b) g.ws.length≤nodeW (wayW g.t b) s (g.ports b) g.ws.length+rowW g.t b row
section
variable {g:Geo} {a b:Nat} {c:Int} {na s:NodeS} {f:Frm}
theorem Rcv.refl (h:NI g b s) (hl:∀k,k < g.ws.length→LaneOk g c a b na s k) (row:List Int):Rcv g a b na s s row:=
 ⟨h,rfl,rfl,fun _ _ _=>rfl,fun _ _ _=>rfl,fun _ _ _=>rfl,fun _ _=>⟨Int.le_refl _, .inl (Int.le_refl _)⟩,fun k hk=>⟨Int.le_refl _,(hl k hk).ns⟩,fun _ _=>Int.le_refl _,Int.le_refl _,by have:=rowW_nat g.t b row;omega⟩
theorem takeS_frame (ha:a∈nb g.t b) {row:List Int} (hd:decF row=(f,0)) (s:NodeS):takeS g b a row s=frameS g b (portN g.t b a) f s:=by
 have h1:=portN_ok ha
 unfold portI at h1
 have h2:0≤idxI (nb g.t b) a:=by unfold idxI;rw[if_pos ha];omega
 rw[if_neg (by omega)]at h1
 unfold takeS
 rw[if_neg (by omega),hd,if_neg (by simp),h1.1,Int.toNat_natCast]
theorem take_credit (hf:f.kind=2) (hl:f.lane < g.ws.length) (i:Nat) (s:NodeS):
  frameS g b i f s=({s with sent:=fun i' k'=>if i'=i∧k'=f.lane.toNat then s.sent i f.lane.toNat else s.sent i' k',limit:=fun i' k'=>if i'=i∧k'=f.lane.toNat then hearC (s.sent i f.lane.toNat) (s.limit i f.lane.toNat) f.seq else s.limit i' k'},0):=by
 unfold frameS
 rw[if_neg (by omega)]
 simp only[hf,if_pos]
theorem take_sync (hf:f.kind=3) (hl:f.lane < g.ws.length) (i:Nat) (s:NodeS):
  frameS g b i f s=({s with next:=fun i' k'=>if i'=i∧k'=f.lane.toNat then hearR (s.next i f.lane.toNat) (s.held i f.lane.toNat) g.p.room f.seq else s.next i' k',held:=fun i' k'=>if i'=i∧k'=f.lane.toNat then s.held i f.lane.toNat else s.held i' k'},0):=by
 unfold frameS
 rw[if_neg (by omega)]
 simp only[hf]
 rw[if_neg (by decide),if_pos trivial]
theorem take_data (hf:f.kind=1) (hl:f.lane < g.ws.length) (h1:f.src≤g.t.length) (h2:f.dst≤g.t.length) (i:Nat) (s:NodeS):
  frameS g b i f s=if comeE (s.next i f.lane.toNat) (s.held i f.lane.toNat) g.p.room f.seq=0 then(dataS g b i f.lane.toNat f s,0)else(s,comeE (s.next i f.lane.toNat) (s.held i f.lane.toNat) g.p.room f.seq):=by
 unfold frameS
 rw[if_neg (by omega)]
 simp only[hf]
 rw[if_neg (by decide),if_neg (by decide),if_neg (by omega)]
end
end Go.Proofs.YtebnflpanfmicaaGreatDoor
namespace Go.Proofs.YtebnflpanfmicaaGreatDoor
open Go.RowKit
section
variable {g:Geo} {a b:Nat} {c:Int} {na s:NodeS}
theorem encF_set_kind (f:Frm):(encF f).set 0 f.kind=encF f:=by
 obtain⟨m,_,_,h2⟩:=encF_cons f
 rw[h2];rfl
theorem nextAll_same {s':NodeS} (h:∀i k,s'.next i k=s.next i k):nextAll g b s'=nextAll g b s:=by
 unfold nextAll
 refine sumI_congr fun x _=>sumI_congr fun k _=> ?_
 rw[h]
theorem rcv_ok (hg:DG g) (hb:b≤g.t.length) (ha:a∈nb g.t b) (hc:0≤c∧c≤30000) (h:NI g b s) (hl:∀k,k < g.ws.length→LaneOk g c a b na s k) (hl2:∀k,k < g.ws.length→LaneOk g c b a s na k)
  (hA:∀k,k < g.ws.length→0≤na.held (portN g.t a b) k∧na.held (portN g.t a b) k≤g.p.room) {row:List Int} (hr:RowSays g a b na row):
  (takeS g b a row s).2≠61∧Rcv g a b na s (takeS g b a row s).1 row:=by
 obtain⟨f,x,rfl,hx0,hx1,hf⟩:=hr
 have hst:=hg.start
 have hroom:=hg.room
 obtain⟨hp1,hp2'⟩:=portN_range ha
 have hp2:portN g.t b a < g.ports b:=hp2'
 by_cases hk:x=f.kind
 ·subst hk
  rw[encF_set_kind]
  have hd:=decF_encF hf.ok
  rw[takeS_frame ha hd]
  obtain⟨k,hkl⟩:∃k:Nat,f.lane=(k:Int):=⟨f.lane.toNat,by have:=hf.ok.lane;omega⟩
  have hkt:f.lane.toNat=k:=by omega
  have hkL:k < g.ws.length:=by have:=hf.lane;omega
  have L1:=hl k hkL
  have L2:=hl2 k hkL
  have l1:=L1.lo;have l2:=L1.ns;have l3:=L1.sl;have l4:=L1.lr;have l5:=L1.top
  have m1:=L2.lo;have m2:=L2.ns;have m3:=L2.sl;have m4:=L2.lr;have m5:=L2.top
  have hH:0≤s.held (portN g.t b a) k∧s.held (portN g.t b a) k≤g.p.room:=by
   rw[h.held _ k hp1 hp2 hkL]
   exact⟨lenQ_nat _ _ _ _,h.row _ k hp2 hkL⟩
  have hHA:=hA k hkL
  rcases hf.says with⟨e,b1,b2,b3,b4,n,e1,e2,e3⟩ | ⟨e,n,e1,e2,e3⟩ | ⟨e,n,e1,e2,e3⟩
  ·rw[take_data e hf.lane b2 b1,hkt,e1]
   rw[hkt]at e3
   have hn:Sm n:=⟨by omega,by omega⟩
   have hN:Sm (s.next (portN g.t b a) k):=⟨by omega,by omega⟩
   rw[comeE_eq hN hn hH.1 hH.2 hroom.2 (by omega) (by omega)]
   by_cases hlt:n < s.next (portN g.t b a) k
   ·rw[if_pos hlt,if_neg (by decide)]
    exact⟨by show(60:Int)≠61;decide,Rcv.refl h hl _⟩
   ·rw[if_neg hlt,if_pos rfl]
    refine⟨by show(0:Int)≠61;decide, ?_⟩
    obtain⟨j,hj,hjP'⟩:=toward_nat g.t b f.dst.toNat
    have hjP:j < g.ports b:=hjP'
    have hpk:PkOk g ⟨f.src,f.dst,f.lane,f.body⟩:=⟨⟨hf.ok.src,b2⟩,⟨hf.ok.dst,b1⟩,by have:=hf.ok.sound;unfold soundF at this;show f.src≠f.dst;omega,⟨hf.ok.lane,hf.lane⟩,hf.ok.body⟩
    have hir:InRing g b ⟨(portN g.t b a:Int),(j:Int),(k:Int)⟩ ⟨f.src,f.dst,f.lane,f.body⟩:=
     ⟨hpk,hkl,⟨portN g.t b a,rfl,hp2,fun _=>by rw[pn_port ha];exact⟨b3,b4⟩⟩,hj⟩
    have hH2:=h.held _ k hp1 hp2 hkL
    have hw:W64 (widen (s.next (portN g.t b a) k) f.seq+1)=n+1:=by
     rw[e1,widen_eq hN hn (by omega) (by omega),W64_mod,Int.emod_eq_of_lt (by omega) (by omega)]
    have hhw:wrap64 (s.held (portN g.t b a) k+1)=s.held (portN g.t b a) k+1:=wrap64_id (by omega) (by omega)
    obtain⟨s',hs'⟩:∃s',dataS g b (portN g.t b a) k f s=s':=⟨_,rfl⟩
    have q1:s'.Q=pushQ s.Q s.free ⟨(portN g.t b a:Int),(j:Int),(k:Int)⟩ ⟨f.src,f.dst,f.lane,f.body⟩:=by
     rw[←hs']
     show pushQ s.Q s.free ⟨_,towardI g.t b f.dst.toNat,f.lane⟩ _=_
     rw[hj,hkl]
    have q2:s'.free=s.free - 1:=by rw[←hs'];rfl
    have q3:∀i' k',s'.held i' k'=if i'=portN g.t b a∧k'=k then s.held (portN g.t b a) k+1 else s.held i' k':=fun i' k'=>by rw[←hs',←hhw];rfl
    have q4:∀i' k',s'.next i' k'=if i'=portN g.t b a∧k'=k then n+1 else s.next i' k':=fun i' k'=>by rw[←hs',←hw];rfl
    have q5:s'.sent=s.sent∧s'.limit=s.limit∧s'.q=s.q:=by rw[←hs'];exact⟨rfl,rfl,rfl⟩
    rw[hs']
    obtain⟨n1,n2,n3⟩:=h.push (s':=s') hp2 hjP hkL hir (by omega) q1 q2 (fun i' k' _=>q3 i' k') (fun k' _ y hy=>by rw[q5.2.2]at hy;exact hy)
    have hW:∀F,nodeW F s' (g.ports b) g.ws.length=nodeW F s (g.ports b) g.ws.length+F ⟨f.src,f.dst,f.lane,f.body⟩:=fun F=>by
     rw[nodeW_set hp2 hjP hkL n2 (fun k' _ _=>by rw[q5.2.2]),q5.2.2,sumP_snoc];omega
    have hX:nextAll g b s'=nextAll g b s+(n+1 - s.next (portN g.t b a) k):=by
     unfold nextAll
     rw[portsAll_upd hg hb (F:=s.next) (F':=s'.next) hp1 hp2 hkL (fun i' k' e=>by rw[q4,if_neg e]),q4,if_pos ⟨rfl,rfl⟩]
    refine⟨n1,q5.1,q5.2.2,fun i' k' _=>by rw[q5.2.1],fun i' k' hi=>by rw[q4,if_neg (fun e=>hi e.1)],fun i' k' hi=>by rw[q3,if_neg (fun e=>hi e.1)],fun k' _=>by rw[q5.2.1];exact⟨Int.le_refl _, .inl (Int.le_refl _)⟩, ?_, ?_, ?_, ?_⟩
    ·intro k' hk'
     rw[q4]
     by_cases e:k'=k
     ·subst e;rw[if_pos ⟨rfl,rfl⟩];omega
     ·rw[if_neg (fun e'=>e e'.2)];exact⟨Int.le_refl _,(hl k' hk').ns⟩
    ·intro k' hk'
     rw[q4,q3]
     by_cases e:k'=k
     ·subst e;rw[if_pos ⟨rfl,rfl⟩,if_pos ⟨rfl,rfl⟩];omega
     ·rw[if_neg (fun e'=>e e'.2),if_neg (fun e'=>e e'.2)];exact Int.le_refl _
    ·rw[hW,hX];omega
    ·rw[hW]
     have er:rowW g.t b (encF f)=(dsN g.t b f.dst.toNat:Int):=by unfold rowW;rw[hd,if_pos ⟨rfl,e⟩]
     rw[er]
     exact Int.le_refl _
  ·rw[take_credit e hf.lane,hkt,e1]
   rw[hkt]at e3
   refine⟨by show(0:Int)≠61;decide, ?_⟩
   have hS:Sm (s.sent (portN g.t b a) k):=⟨by omega,by omega⟩
   have hLm:Sm (s.limit (portN g.t b a) k):=⟨by omega,by omega⟩
   have hn:Sm n:=⟨by omega,by omega⟩
   have hh:=hearC_eq hS hLm hn (by omega) (by omega)
   obtain⟨s',hs'⟩:∃s',({s with sent:=fun i' k'=>if i'=portN g.t b a∧k'=k then s.sent (portN g.t b a) k else s.sent i' k',limit:=fun i' k'=>if i'=portN g.t b a∧k'=k then hearC (s.sent (portN g.t b a) k) (s.limit (portN g.t b a) k) (W16 n)else s.limit i' k'}:NodeS)=s':=⟨_,rfl⟩
   have q1:s'.sent=s.sent:=by
    rw[←hs'];funext i' k'
    show(if i'=portN g.t b a∧k'=k then s.sent (portN g.t b a) k else s.sent i' k')=_
    split
    ·rename_i e;rw[e.1,e.2]
    ·rfl
   have q2:∀i' k',s'.limit i' k'=if i'=portN g.t b a∧k'=k then(if n≤s.limit (portN g.t b a) k∨s.sent (portN g.t b a) k+8 < n then s.limit (portN g.t b a) k else n)else s.limit i' k':=fun i' k'=>by rw[←hs',←hh]
   have q3:s'.Q=s.Q∧s'.q=s.q∧s'.free=s.free∧s'.held=s.held∧s'.next=s.next:=by rw[←hs'];exact⟨rfl,rfl,rfl,rfl,rfl⟩
   rw[hs']
   have hW:∀F,nodeW F s' (g.ports b) g.ws.length=nodeW F s (g.ports b) g.ws.length:=fun F=>nodeW_same q3.1 (fun k' _=>by rw[q3.2.1])
   have hX:nextAll g b s'=nextAll g b s:=nextAll_same (fun _ _=>by rw[q3.2.2.2.2])
   refine⟨h.same q3.1 q3.2.2.1 q3.2.2.2.1 (fun k' _=>by rw[q3.2.1]),q1,q3.2.1,fun i' k' hi=>by rw[q2,if_neg (fun e=>hi e.1)],fun i' k' _=>by rw[q3.2.2.2.2],fun i' k' _=>by rw[q3.2.2.2.1], ?_,fun k' hk'=>by rw[q3.2.2.2.2];exact⟨Int.le_refl _,(hl k' hk').ns⟩,
    fun k' _=>by rw[q3.2.2.2.2,q3.2.2.2.1];exact Int.le_refl _,by rw[hW,hX];exact Int.le_refl _,by rw[hW];have:=rowW_nat g.t b (encF f);omega⟩
   intro k' hk'
   rw[q2]
   by_cases e:k'=k
   ·subst e
    rw[if_pos ⟨rfl,rfl⟩]
    split
    ·exact⟨Int.le_refl _, .inl (Int.le_refl _)⟩
    ·exact⟨by omega, .inr (by omega)⟩
   ·rw[if_neg (fun e'=>e e'.2)];exact⟨Int.le_refl _, .inl (Int.le_refl _)⟩
  ·rw[take_sync e hf.lane,hkt,e1]
   rw[hkt]at e3
   refine⟨by show(0:Int)≠61;decide, ?_⟩
   have hN:Sm (s.next (portN g.t b a) k):=⟨by omega,by omega⟩
   have hn:Sm n:=⟨by omega,by omega⟩
   have hh:=hearR_eq hN hn hH.1 hH.2 hroom.2 (by omega) (by omega)
   obtain⟨s',hs'⟩:∃s',({s with next:=fun i' k'=>if i'=portN g.t b a∧k'=k then hearR (s.next (portN g.t b a) k) (s.held (portN g.t b a) k) g.p.room (W16 n)else s.next i' k',held:=fun i' k'=>if i'=portN g.t b a∧k'=k then s.held (portN g.t b a) k else s.held i' k'}:NodeS)=s':=⟨_,rfl⟩
   have q1:s'.held=s.held:=by
    rw[←hs'];funext i' k'
    show(if i'=portN g.t b a∧k'=k then s.held (portN g.t b a) k else s.held i' k')=_
    split
    ·rename_i e;rw[e.1,e.2]
    ·rfl
   have q2:∀i' k',s'.next i' k'=if i'=portN g.t b a∧k'=k then max (s.next (portN g.t b a) k) n else s.next i' k':=fun i' k'=>by rw[←hs',←hh]
   have q3:s'.Q=s.Q∧s'.q=s.q∧s'.free=s.free∧s'.limit=s.limit∧s'.sent=s.sent:=by rw[←hs'];exact⟨rfl,rfl,rfl,rfl,rfl⟩
   rw[hs']
   have hW:∀F,nodeW F s' (g.ports b) g.ws.length=nodeW F s (g.ports b) g.ws.length:=fun F=>nodeW_same q3.1 (fun k' _=>by rw[q3.2.1])
   have hX:nextAll g b s'=nextAll g b s+(max (s.next (portN g.t b a) k) n - s.next (portN g.t b a) k):=by
    unfold nextAll
    rw[portsAll_upd hg hb (F:=s.next) (F':=s'.next) hp1 hp2 hkL (fun i' k' e=>by rw[q2,if_neg e]),q2,if_pos ⟨rfl,rfl⟩]
   refine⟨h.same q3.1 q3.2.2.1 q1 (fun k' _=>by rw[q3.2.1]),q3.2.2.2.2,q3.2.1,fun i' k' _=>by rw[q3.2.2.2.1],fun i' k' hi=>by rw[q2,if_neg (fun e=>hi e.1)],fun i' k' _=>by rw[q1],fun k' _=>by rw[q3.2.2.2.1];exact⟨Int.le_refl _, .inl (Int.le_refl _)⟩, ?_, ?_,
    by rw[hW,hX];omega,by rw[hW];have:=rowW_nat g.t b (encF f);omega⟩
   ·intro k' hk'
    rw[q2]
    by_cases e:k'=k
    ·subst e;rw[if_pos ⟨rfl,rfl⟩];omega
    ·rw[if_neg (fun e'=>e e'.2)];exact⟨Int.le_refl _,(hl k' hk').ns⟩
   ·intro k' hk'
    rw[q2,q1]
    by_cases e:k'=k
    ·subst e;rw[if_pos ⟨rfl,rfl⟩];omega
    ·rw[if_neg (fun e'=>e e'.2)];exact Int.le_refl _
 ·have hd:=decF_bent hf.ok ⟨hx0,hx1⟩ hk
  have e:takeS g b a ((encF f).set 0 x) s=(s,30):=by
   have h1:=portN_ok ha
   unfold portI at h1
   have h2:0≤idxI (nb g.t b) a:=by unfold idxI;rw[if_pos ha];omega
   unfold takeS
   rw[if_neg (by omega),hd,if_pos (by decide)]
  rw[e]
  exact⟨by show(30:Int)≠61;decide,Rcv.refl h hl _⟩
end
end Go.Proofs.YtebnflpanfmicaaGreatDoor
namespace Go.Proofs.YtebnflpanfmicaaGreatDoor
open Go.RowKit
def cntV (g:Geo) (v:Nat) (s:NodeS):Int:=nodeW (fun _=>1) s (g.ports v) g.ws.length+((s.q 3).length:Int)+sentAll g v s - nextAll g v s
def cntF (g:Geo) (s:FabS):Int:=sumI (fun v=>cntV g v (s.nd v)) (g.t.length+1)
structure FI (g:Geo) (c inj:Int) (s:FabS):Prop where
 nd:∀v,v≤g.t.length→NI g v (s.nd v)
 lane:∀a b,a≤g.t.length→b∈nb g.t a→∀k,k < g.ws.length→LaneOk g c a b (s.nd a) (s.nd b) k
 rows:∀a b,a≤g.t.length→b∈nb g.t a→∀row∈s.ln (hopI g.t a b),RowSays g a b (s.nd a) row
 count:cntF g s≤inj
section
variable {g:Geo} {c inj:Int} {s:FabS}
theorem put_same {α:Type} (f:Nat→α) (i:Nat) (x:α):setAt f i x i=x:=if_pos rfl
theorem put_other {α:Type} (f:Nat→α) (i:Nat) (x:α) {j:Nat} (h:j≠i):setAt f i x j=f j:=if_neg h
theorem hop_of (hg:DG g) {h:Nat} {x:Nat×Nat} (hx:(hopsOf g.t)[h]? =some x):x.1≤g.t.length∧x.2≤g.t.length∧x.2∈nb g.t x.1∧x.1∈nb g.t x.2∧hopI g.t x.1 x.2=h:=by
 obtain⟨h1,h2,h3,h4⟩:=(hops_in hg.tree hg.t5).1 x (List.mem_of_getElem? hx)
 refine⟨h1,h2,h4,h3, ?_⟩
 obtain⟨hl,e⟩:=List.getElem?_eq_some_iff.1 hx
 have hnd:(hopsOf g.t).Nodup:=hops_nodup hg.tree hg.t5
 show(hopsOf g.t).idxOf (x.1,x.2)=h
 rw[←e]
 exact hnd.idxOf_getElem _ _
theorem hopI_inj (hg:DG g) {a b a' b':Nat} (ha:a≤g.t.length) (hb:b∈nb g.t a) (ha':a'≤g.t.length) (hb':b'∈nb g.t a') (e:hopI g.t a b=hopI g.t a' b'):a=a'∧b=b':=by
 have h1:=(hop_at hg.tree hg.t5 ha hb).2
 have h2:=(hop_at hg.tree hg.t5 ha' hb').2
 rw[e]at h1
 rw[h1]at h2
 injection (Option.some.inj h2)with e1 e2
 exact⟨e1,e2⟩
theorem FI.more (h:FI g c inj s) {c' inj':Int} (hc:c≤c') (hi:inj≤inj'):FI g c' inj' s:=
 ⟨h.nd,fun a b ha hb k hk=>by have:=h.lane a b ha hb k hk;exact⟨this.lo,this.ns,this.sl,this.lr,by have:=this.top;omega⟩,h.rows,Int.le_trans h.count hi⟩
theorem NI.heldr {v:Nat} {n:NodeS} (h:NI g v n) {i k:Nat} (h1:1≤i) (hi:i < g.ports v) (hk:k < g.ws.length):0≤n.held i k∧n.held i k≤g.p.room:=by
 rw[h.held i k h1 hi hk]
 exact⟨lenQ_nat _ _ _ _,h.row i k hi hk⟩
theorem portN_inj {t:List Nat} {v x y:Nat} (hx:x∈nb t v) (hy:y∈nb t v) (e:portN t v x=portN t v y):x=y:=by rw[←pn_port hx,e,pn_port hy]
theorem FI.take (hg:DG g) (hc:0≤c∧c≤30000) (h:FI g c inj s) {a b:Nat} (ha:a≤g.t.length) (hb:b∈nb g.t a) {row:List Int} (hr:RowSays g a b (s.nd a) row) {ln':Nat→List (List Int)}
  (hln:∀j,∀r∈ln' j,r∈s.ln j):
  (takeS g b a row (s.nd b)).2≠61∧Rcv g a b (s.nd a) (s.nd b) (takeS g b a row (s.nd b)).1 row∧FI g c inj {s with nd:=setAt s.nd b (takeS g b a row (s.nd b)).1,ln:=ln'}:=by
 have hbn:=nb_le hg.tree hg.t5 ha hb
 have hab:=nb_back hg.tree hg.t5 ha hb
 have hpa:=portN_range hb
 have hne:a≠b:=fun e=>by subst e;exact nb_self hg.tree hg.t5 ha hb
 obtain⟨h1,h2⟩:=rcv_ok hg hbn hab hc (h.nd b hbn) (h.lane a b ha hb) (h.lane b a hbn hab) (fun k hk=>(h.nd a ha).heldr hpa.1 hpa.2 hk) hr
 refine⟨h1,h2, ?_⟩
 generalize (takeS g b a row (s.nd b)).1=n at*
 refine⟨?_, ?_, ?_, ?_⟩
 ·intro v hv
  show NI g v (setAt s.nd b n v)
  by_cases e:v=b
  ·subst e;rw[put_same];exact h2.ni
  ·rw[put_other _ _ _ e];exact h.nd v hv
 ·intro x y hx hy k hk
  show LaneOk g c x y (setAt s.nd b n x) (setAt s.nd b n y) k
  have hxy:x≠y:=fun e=>by subst e;exact nb_self hg.tree hg.t5 hx hy
  have old:=h.lane x y hx hy k hk
  by_cases ey:y=b
  ·subst ey
   rw[put_same,put_other _ _ _ hxy]
   by_cases ex:x=a
   ·subst ex
    exact⟨Int.le_trans old.lo (h2.next1 k hk).1,(h2.next1 k hk).2,old.sl,by have:=old.lr;have:=h2.held1 k hk;omega,old.top⟩
   ·have hp:portN g.t y x≠portN g.t y a:=fun e=>ex (portN_inj (nb_back hg.tree hg.t5 hx hy) hab e)
    exact⟨by rw[h2.next _ _ hp];exact old.lo,by rw[h2.next _ _ hp];exact old.ns,old.sl,by rw[h2.next _ _ hp,h2.held _ _ hp];exact old.lr,old.top⟩
  ·rw[put_other _ _ _ ey]
   by_cases ex:x=b
   ·subst ex
    rw[put_same]
    by_cases eya:y=a
    ·subst eya
     refine⟨old.lo,by rw[h2.sent];exact old.ns,by rw[h2.sent];exact Int.le_trans old.sl (h2.limit1 k hk).1, ?_,by rw[h2.sent];exact old.top⟩
     have:=(h2.limit1 k hk).2
     have:=old.lr
     omega
    ·have hp:portN g.t x y≠portN g.t x a:=fun e=>eya (portN_inj hy hab e)
     exact⟨old.lo,by rw[h2.sent];exact old.ns,by rw[h2.sent,h2.limit _ _ hp];exact old.sl,by rw[h2.limit _ _ hp];exact old.lr,by rw[h2.sent];exact old.top⟩
   ·rw[put_other _ _ _ ex];exact old
 ·intro x y hx hy r hr'
  have old:=h.rows x y hx hy r (hln _ r hr')
  show RowSays g x y (setAt s.nd b n x) r
  by_cases ex:x=b
  ·subst ex
   rw[put_same]
   refine old.mono (fun k hk=>by rw[h2.sent];exact Int.le_refl _) (fun k hk=> ?_)
   by_cases eya:y=a
   ·subst eya;exact h2.held1 k hk
   ·have hp:portN g.t x y≠portN g.t x a:=fun e=>eya (portN_inj hy hab e)
    rw[h2.next _ _ hp,h2.held _ _ hp];exact Int.le_refl _
  ·rw[put_other _ _ _ ex];exact old
 ·refine Int.le_trans (sumI_le fun v _=> ?_) h.count
  show cntV g v (setAt s.nd b n v)≤_
  by_cases e:v=b
  ·subst e
   rw[put_same]
   unfold cntV
   have e1:sentAll g v n=sentAll g v (s.nd v):=by unfold sentAll;rw[h2.sent]
   have:=h2.count
   rw[h2.q,e1]
   omega
  ·rw[put_other _ _ _ e];exact Int.le_refl _
theorem takeL_mem {rows:List (List Int)} {k:Int} {r:List Int} (h:r∈takeL rows k):r∈rows:=by
 unfold takeL at h
 split at h
 ·exact List.mem_of_mem_eraseIdx h
 ·exact h
theorem FI.deliver (hg:DG g) (hc:0≤c∧c≤30000) (h:FI g c inj s) {i:Nat} (hi:i < (hopsOf g.t).length) (k:Int):(delF g s i k).2≠61∧FI g c inj (delF g s i k).1:=by
 unfold delF
 by_cases hr:inRow (s.ln i) k=false
 ·rw[if_pos hr];exact⟨by show(1:Int)≠61;decide,h⟩
 ·rw[if_neg hr]
  have hr':inRow (s.ln i) k=true:=by simpa using hr
  obtain⟨x,hx⟩:∃x,(hopsOf g.t)[i]? =some x:=⟨_,List.getElem?_eq_getElem hi⟩
  have e:(hopsOf g.t).getD i (0,0)=x:=by rw[List.getD_eq_getElem?_getD,hx];rfl
  obtain⟨h1,h2,h3,h4,h5⟩:=hop_of hg hx
  simp only[e]
  have hm:=mem_rowOf hr'
  have:=h.take hg hc h1 h3 (row:=rowOf (s.ln i) k) (h.rows x.1 x.2 h1 h3 _ (by rw[h5];exact hm)) (ln':=setAt s.ln i (takeL (s.ln i) k)) (fun j r hr=>by
   by_cases ej:j=i
   ·subst ej;rw[put_same]at hr;exact takeL_mem hr
   ·rw[put_other _ _ _ ej]at hr;exact hr)
  exact⟨this.1,this.2.2⟩
end
end Go.Proofs.YtebnflpanfmicaaGreatDoor
