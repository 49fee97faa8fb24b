/-
  Part 40 of the proof: TopDrD, TopDrE, TopDrF, TopDrG, TopDrH, IslipPlain.
-/
import Derived.Test.YtebnflpanfmicaaGreatDoorPkBM
import Derived.Test.YtebnflpanfmicaaGreatDoorPkAK
set_option linter.unusedVariables false
set_option linter.unusedSimpArgs false
set_option linter.unusedSectionVars false
namespace Go.Proofs.YtebnflpanfmicaaGreatDoor
open Go.RowKit
theorem sumI_upd {f f':Nat→Int} {j:Nat}:∀{n:Nat},j < n→(∀i,i≠j→f' i=f i)→sumI f' n=sumI f n+(f' j - f j)
 | 0,h,_=>by omega
 | n+1,h,he=>by
   unfold sumI
   by_cases hj:j=n
   ·subst hj
    rw[sumI_congr (fun i hi=>he i (by omega))]
    omega
   ·rw[sumI_upd (by omega) he,he n (fun e=>hj e.symm)]
    omega
theorem sumI_le {f f':Nat→Int}:∀{n:Nat},(∀i,i < n→f i≤f' i)→sumI f n≤sumI f' n
 | 0,_=>by simp[sumI]
 | n+1,h=>by
   unfold sumI
   have:=sumI_le (n:=n) (fun i hi=>h i (by omega))
   have:=h n (by omega)
   omega
theorem sumI_lt {f f':Nat→Int} {j:Nat}:∀{n:Nat},(∀i,i < n→f i≤f' i)→j < n→f j < f' j→sumI f n < sumI f' n
 | 0,_,hj,_=>by omega
 | n+1,h,hj,hl=>by
   unfold sumI
   by_cases e:j=n
   ·subst e
    have:=sumI_le (n:=j) (fun i hi=>h i (by omega))
    omega
   ·have:=sumI_lt (n:=n) (fun i hi=>h i (by omega)) (by omega) hl
    have:=h n (by omega)
    omega
theorem sumI_const (b:Int):∀n:Nat,sumI (fun _=>b) n=n*b
 | 0=>by simp[sumI]
 | n+1=>by
   unfold sumI
   rw[sumI_const b n]
   push_cast
   rw[Int.add_mul,Int.one_mul]
theorem sumI_pos {f:Nat→Int} (h0:∀i,0≤f i):∀{n:Nat},0 < sumI f n→∃i,i < n∧0 < f i
 | 0,h=>by simp[sumI]at h
 | n+1,h=>by
   unfold sumI at h
   by_cases hn:0 < f n
   ·exact⟨n,by omega,hn⟩
   ·obtain⟨i,hi,hf⟩:=sumI_pos h0 (n:=n) (by have:=h0 n;omega)
    exact⟨i,by omega,hf⟩
theorem sumI_part {f:Nat→Int} (h0:∀i,0≤f i) {j:Nat}:∀{n:Nat},j < n→f j≤sumI f n
 | 0,h=>by omega
 | n+1,h=>by
   unfold sumI
   by_cases e:j=n
   ·subst e;have:=sumI_nat f h0 j;omega
   ·have:=sumI_part h0 (show j < n by omega);have:=h0 n;omega
def sumP (f:Pkt→Int):List Pkt→Int
 | []=>0
 | x :: l=>f x+sumP f l
theorem sumP_append (f:Pkt→Int):∀l l':List Pkt,sumP f (l ++ l')=sumP f l+sumP f l'
 | [],_=>by simp[sumP]
 | x :: l,l'=>by rw[List.cons_append,sumP,sumP,sumP_append f l l'];omega
theorem sumP_snoc (f:Pkt→Int) (l:List Pkt) (x:Pkt):sumP f (l ++ [x])=sumP f l+f x:=by rw[sumP_append];simp[sumP]
theorem sumP_nat {f:Pkt→Int} (h:∀x,0≤f x):∀l,0≤sumP f l
 | []=>by simp[sumP]
 | x :: l=>by have:=sumP_nat h l;have:=h x;unfold sumP;omega
theorem sumP_len:∀l:List Pkt,sumP (fun _=>1) l=(l.length:Int)
 | []=>rfl
 | x :: l=>by rw[sumP,sumP_len l,List.length_cons];omega
theorem sumP_le {f f':Pkt→Int}:∀{l:List Pkt},(∀x∈l,f x≤f' x)→sumP f l≤sumP f' l
 | [],_=>by simp[sumP]
 | x :: l,h=>by
   unfold sumP
   have:=sumP_le (fun y hy=>h y (List.mem_cons_of_mem _ hy):∀y∈l,f y≤f' y)
   have:=h x List.mem_cons_self
   omega
theorem sumP_mul (f:Pkt→Int) (c:Int):∀l:List Pkt,sumP (fun x=>c*f x) l=c*sumP f l
 | []=>by simp[sumP]
 | x :: l=>by rw[sumP,sumP,sumP_mul f c l,Int.mul_add]
def ringW (f:Pkt→Int) (s:NodeS) (P k i:Nat):Int:=sumI (fun j=>sumP f (s.Q ⟨(i:Int),(j:Int),(k:Int)⟩)) P
def loadW (f:Pkt→Int) (s:NodeS) (P k:Nat):Int:=sumP f (s.q k)+sumI (ringW f s P k) P
def nodeW (f:Pkt→Int) (s:NodeS) (P L:Nat):Int:=sumI (loadW f s P) L
def ringsN (s:NodeS) (P L:Nat):Int:=sumI (fun k=>sumI (lenQ s P k) P) L
theorem ringW_len (s:NodeS) (P k i:Nat):ringW (fun _=>1) s P k i=lenQ s P k i:=sumI_congr fun j _=>sumP_len _
theorem nodeW_len (g:Geo) (v:Nat) (s:NodeS):nodeW (fun _=>1) s (g.ports v) g.ws.length=insV g v s:=by
 unfold nodeW insV
 refine sumI_congr fun k _=> ?_
 unfold loadW insK
 rw[sumP_len,sumI_congr (fun i _=>ringW_len s _ k i)]
section
variable {f:Pkt→Int} {s s':NodeS} {P L:Nat}
theorem ringW_same (h:s'.Q=s.Q) (k i:Nat):ringW f s' P k i=ringW f s P k i:=by unfold ringW;rw[h]
theorem lenQ_same (h:s'.Q=s.Q) (k i:Nat):lenQ s' P k i=lenQ s P k i:=by unfold lenQ;rw[h]
theorem way_ne {i i' j j' k k':Nat} (h:¬(i'=i∧j'=j∧k'=k)):(⟨(i':Int),(j':Int),(k':Int)⟩:Way)≠⟨(i:Int),(j:Int),(k:Int)⟩:=fun e=>by
 injection e with e1 e2 e3
 exact h ⟨by omega,by omega,by omega⟩
theorem ringW_set {i j k:Nat} {l:List Pkt} (hj:j < P) (h:s'.Q=setW s.Q ⟨(i:Int),(j:Int),(k:Int)⟩ l) (k' i':Nat):
  ringW f s' P k' i'=if i'=i∧k'=k then ringW f s P k i+(sumP f l - sumP f (s.Q ⟨(i:Int),(j:Int),(k:Int)⟩))else ringW f s P k' i':=by
 unfold ringW
 rw[h]
 by_cases e:i'=i∧k'=k
 ·obtain⟨rfl,rfl⟩:=e
  rw[if_pos ⟨rfl,rfl⟩,sumI_upd (f:=fun j=>sumP f (s.Q ⟨(i':Int),(j:Int),(k':Int)⟩)) hj]
  ·simp only[setW_same]
  ·intro j' hj'
   show sumP f (setW s.Q _ l _)=_
   rw[setW_other _ _ _ _ (way_ne (fun e=>hj' e.2.1))]
 ·rw[if_neg e]
  refine sumI_congr fun j' _=> ?_
  rw[setW_other _ _ _ _ (way_ne (fun e'=>e ⟨e'.1,e'.2.2⟩))]
theorem lenQ_set {i j k:Nat} {l:List Pkt} (hj:j < P) (h:s'.Q=setW s.Q ⟨(i:Int),(j:Int),(k:Int)⟩ l) (k' i':Nat):
  lenQ s' P k' i'=if i'=i∧k'=k then lenQ s P k i+((l.length:Int) - ((s.Q ⟨(i:Int),(j:Int),(k:Int)⟩).length:Int))else lenQ s P k' i':=by
 have:=ringW_set (f:=fun _=>1) (P:=P) hj h k' i'
 simp only[ringW_len,sumP_len]at this
 exact this
theorem rings_set {i j k:Nat} {l:List Pkt} (hi:i < P) (hj:j < P) (hk:k < L) (h:s'.Q=setW s.Q ⟨(i:Int),(j:Int),(k:Int)⟩ l):
  ringsN s' P L=ringsN s P L+((l.length:Int) - ((s.Q ⟨(i:Int),(j:Int),(k:Int)⟩).length:Int)):=by
 unfold ringsN
 rw[sumI_upd (f:=fun k=>sumI (lenQ s P k) P) hk]
 ·rw[sumI_upd (f:=lenQ s P k) hi]
  ·rw[lenQ_set hj h,if_pos ⟨rfl,rfl⟩];omega
  ·intro i' hi'
   rw[lenQ_set hj h,if_neg (fun e=>hi' e.1)]
 ·intro k' hk'
  refine sumI_congr fun i' _=> ?_
  rw[lenQ_set hj h,if_neg (fun e=>hk' e.2)]
theorem loadW_set {i j k:Nat} {l:List Pkt} (hi:i < P) (hj:j < P) (h:s'.Q=setW s.Q ⟨(i:Int),(j:Int),(k:Int)⟩ l) (k':Nat):
  loadW f s' P k'=loadW f s P k'+(sumP f (s'.q k') - sumP f (s.q k'))+(if k'=k then sumP f l - sumP f (s.Q ⟨(i:Int),(j:Int),(k:Int)⟩)else 0):=by
 unfold loadW
 by_cases e:k'=k
 ·subst e
  rw[if_pos rfl,sumI_upd (f:=ringW f s P k') hi]
  ·rw[ringW_set hj h,if_pos ⟨rfl,rfl⟩];omega
  ·intro i' hi'
   rw[ringW_set hj h,if_neg (fun e=>hi' e.1)]
 ·rw[if_neg e,sumI_congr (f:=ringW f s' P k') (f':=ringW f s P k')]
  ·omega
  ·intro i' _
   rw[ringW_set hj h,if_neg (fun e'=>e e'.2)]
theorem nodeW_set {i j k:Nat} {l:List Pkt} (hi:i < P) (hj:j < P) (hk:k < L) (h:s'.Q=setW s.Q ⟨(i:Int),(j:Int),(k:Int)⟩ l) (hq:∀k',k' < L→k'≠k→s'.q k'=s.q k'):
  nodeW f s' P L=nodeW f s P L+(sumP f (s'.q k) - sumP f (s.q k))+(sumP f l - sumP f (s.Q ⟨(i:Int),(j:Int),(k:Int)⟩)):=by
 unfold nodeW
 have e1:sumI (loadW f s' P) L=sumI (fun k'=>if k' < L then loadW f s' P k' else loadW f s P k') L:=sumI_congr fun k' hk'=>by rw[if_pos hk']
 rw[e1,sumI_upd (f:=loadW f s P) hk]
 ·rw[if_pos hk,loadW_set hi hj h,if_pos rfl];omega
 ·intro k' hk'
  show(if k' < L then loadW f s' P k' else loadW f s P k')=_
  by_cases hl:k' < L
  ·rw[if_pos hl,loadW_set hi hj h,if_neg hk',hq k' hl hk'];omega
  ·rw[if_neg hl]
theorem nodeW_same (hQ:s'.Q=s.Q) (hq:∀k,k < L→s'.q k=s.q k):nodeW f s' P L=nodeW f s P L:=by
 unfold nodeW
 refine sumI_congr fun k hk=> ?_
 unfold loadW
 rw[hq k hk,sumI_congr (fun i _=>ringW_same hQ k i)]
theorem nodeW_q {k:Nat} (hk:k < L) (hQ:s'.Q=s.Q) (hq:∀k',k'≠k→s'.q k'=s.q k'):nodeW f s' P L=nodeW f s P L+(sumP f (s'.q k) - sumP f (s.q k)):=by
 unfold nodeW
 rw[sumI_upd (f:=loadW f s P) hk]
 ·unfold loadW
  rw[sumI_congr (f':=ringW f s P k) (fun i _=>ringW_same hQ k i)];omega
 ·intro k' hk'
  unfold loadW
  rw[hq k' hk',sumI_congr (fun i _=>ringW_same hQ k' i)]
end
end Go.Proofs.YtebnflpanfmicaaGreatDoor
namespace Go.Proofs.YtebnflpanfmicaaGreatDoor
open Go.RowKit
structure DG (g:Geo):Prop where
 tree:Tree g.t
 t5:g.t.length≤5
 l1:1≤g.ws.length
 l3:g.ws.length≤3
 lanes:g.p.lanes=(g.ws.length:Int)
 room:1≤g.p.room∧g.p.room≤8
 bag:g.p.bag=64
 every:1≤g.p.every∧g.p.every≤8
 rounds:1≤g.p.rounds
 start:0≤g.p.start∧g.p.start < 65536
structure PkOk (g:Geo) (x:Pkt):Prop where
 src:0≤x.src∧x.src≤g.t.length
 dst:0≤x.dst∧x.dst≤g.t.length
 ne:x.src≠x.dst
 lane:0≤x.lane∧x.lane < g.ws.length
 body:0≤x.body∧x.body < 4294967296
theorem PkOk.toNat {g:Geo} {x:Pkt} (h:PkOk g x):x.dst.toNat≤g.t.length∧(x.dst.toNat:Int)=x.dst:=by have:=h.dst;omega
def OnWay (t:List Nat) (v i d:Nat):Prop:=1≤i→nxt t (pn t v i) d=v∧d≠pn t v i
structure InRing (g:Geo) (v:Nat) (key:Way) (x:Pkt):Prop where
 pk:PkOk g x
 lane:x.lane=key.lane
 inp:∃i:Nat,key.inp=(i:Int)∧i < g.ports v∧OnWay g.t v i x.dst.toNat
 out:towardI g.t v x.dst.toNat=key.out
structure NI (g:Geo) (v:Nat) (s:NodeS):Prop where
 ring:∀key,∀x∈s.Q key,InRing g v key x
 host:∀k,k < g.ws.length→∀x∈s.q k,PkOk g x∧x.lane=(k:Int)∧x.src=(v:Int)
 row:∀i k,i < g.ports v→k < g.ws.length→lenQ s (g.ports v) k i≤g.p.room
 held:∀i k,1≤i→i < g.ports v→k < g.ws.length→s.held i k=lenQ s (g.ports v) k i
 free:(s.free:Int)+ringsN s (g.ports v) g.ws.length=(g.ports v:Int)*(g.ws.length*g.p.room)
section
variable {g:Geo} {v:Nat} {s:NodeS} (hg:DG g) (hv:v≤g.t.length)
theorem lenQ_nat (s:NodeS) (P k i:Nat):0≤lenQ s P k i:=sumI_nat _ (fun _=>Int.natCast_nonneg _) _
theorem lenQ_has {P k i j:Nat} (hj:j < P) (h:s.Q ⟨(i:Int),(j:Int),(k:Int)⟩≠[]):0 < lenQ s P k i:=by
 have h1:=sumI_part (f:=fun j:Nat=>((s.Q ⟨(i:Int),(j:Int),(k:Int)⟩).length:Int)) (fun _=>Int.natCast_nonneg _) hj
 have h2:0 < (s.Q ⟨(i:Int),(j:Int),(k:Int)⟩).length:=List.length_pos_iff.2 h
 unfold lenQ
 omega
theorem NI.room (h:NI g v s) {i k:Nat} (hi:i < g.ports v) (hk:k < g.ws.length) (hl:lenQ s (g.ports v) k i < g.p.room):s.free≠0:=by
 have h1:ringsN s (g.ports v) g.ws.length < sumI (fun _=>sumI (fun _=>g.p.room) (g.ports v)) g.ws.length:=
  sumI_lt (j:=k) (fun k' hk'=>sumI_le fun i' hi'=>h.row i' k' hi' hk') hk (sumI_lt (j:=i) (fun i' hi'=>h.row i' k hi' hk) hi hl)
 rw[sumI_const,sumI_const]at h1
 have h2:=h.free
 have e:(g.ws.length:Int)*((g.ports v:Int)*g.p.room)=(g.ports v:Int)*(g.ws.length*g.p.room):=by
  rw[←Int.mul_assoc,←Int.mul_assoc,Int.mul_comm (g.ws.length:Int)]
 omega
theorem NI.push (h:NI g v s) {i j k:Nat} {x:Pkt} (hi:i < g.ports v) (hj:j < g.ports v) (hk:k < g.ws.length) (hx:InRing g v ⟨(i:Int),(j:Int),(k:Int)⟩ x) (hl:lenQ s (g.ports v) k i < g.p.room)
  {s':NodeS} (hQ:s'.Q=pushQ s.Q s.free ⟨(i:Int),(j:Int),(k:Int)⟩ x) (hf:s'.free=s.free - 1)
  (hh:∀i' k',1≤i'→s'.held i' k'=if i'=i∧k'=k then s.held i k+1 else s.held i' k') (hq:∀k',k' < g.ws.length→∀y∈s'.q k',y∈s.q k'):
  NI g v s'∧s'.Q=setW s.Q ⟨(i:Int),(j:Int),(k:Int)⟩ (s.Q ⟨(i:Int),(j:Int),(k:Int)⟩ ++ [x])∧lenQ s' (g.ports v) k i=lenQ s (g.ports v) k i+1:=by
 have h0:=h.room hi hk hl
 have hQ':s'.Q=setW s.Q ⟨(i:Int),(j:Int),(k:Int)⟩ (s.Q ⟨(i:Int),(j:Int),(k:Int)⟩ ++ [x]):=by rw[hQ,pushQ,if_neg h0]
 have hlen:=fun k' i'=>lenQ_set (P:=g.ports v) hj hQ' k' i'
 simp only[List.length_append,List.length_cons,List.length_nil]at hlen
 refine⟨⟨?_,fun k' hk' y hy=>h.host k' hk' y (hq k' hk' y hy), ?_, ?_, ?_⟩,hQ', ?_⟩
 ·intro key y hy
  rw[hQ']at hy
  by_cases e:key=⟨(i:Int),(j:Int),(k:Int)⟩
  ·subst e
   rw[setW_same,List.mem_append,List.mem_singleton]at hy
   rcases hy with hy | rfl
   ·exact h.ring _ y hy
   ·exact hx
  ·rw[setW_other _ _ _ _ e]at hy;exact h.ring _ y hy
 ·intro i' k' hi' hk'
  rw[hlen]
  have:=h.row i' k' hi' hk'
  split
  ·omega
  ·exact this
 ·intro i' k' h1 hi' hk'
  rw[hlen,hh i' k' h1]
  split
  ·rename_i e
   rw[h.held i k (by omega) hi hk];omega
  ·exact h.held i' k' h1 hi' hk'
 ·rw[hf,rings_set hi hj hk hQ']
  have:=h.free
  simp only[List.length_append,List.length_cons,List.length_nil]
  omega
 ·rw[hlen,if_pos ⟨rfl,rfl⟩];omega
theorem NI.pop (h:NI g v s) {i j k:Nat} {x:Pkt} {r:List Pkt} (hi:i < g.ports v) (hj:j < g.ports v) (hk:k < g.ws.length) (hx:s.Q ⟨(i:Int),(j:Int),(k:Int)⟩=x :: r)
  {s':NodeS} (hQ:s'.Q=setW s.Q ⟨(i:Int),(j:Int),(k:Int)⟩ r) (hf:s'.free=s.free+1)
  (hh:∀i' k',1≤i'→s'.held i' k'=if i'=i∧k'=k then s.held i k - 1 else s.held i' k') (hq:∀k',k' < g.ws.length→s'.q k'=s.q k'):NI g v s':=by
 have hlen:=fun k' i'=>lenQ_set (P:=g.ports v) hj hQ k' i'
 rw[hx]at hlen
 simp only[List.length_cons]at hlen
 refine⟨?_,fun k' hk' y hy=>h.host k' hk' y (hq k' hk'▸hy), ?_, ?_, ?_⟩
 ·intro key y hy
  rw[hQ]at hy
  by_cases e:key=⟨(i:Int),(j:Int),(k:Int)⟩
  ·subst e
   rw[setW_same]at hy
   exact h.ring _ y (by rw[hx];exact List.mem_cons_of_mem _ hy)
  ·rw[setW_other _ _ _ _ e]at hy;exact h.ring _ y hy
 ·intro i' k' hi' hk'
  rw[hlen]
  have:=h.row i' k' hi' hk'
  split
  ·rename_i e;obtain⟨rfl,rfl⟩:=e;omega
  ·exact this
 ·intro i' k' h1 hi' hk'
  rw[hlen,hh i' k' h1]
  split
  ·rename_i e
   rw[h.held i k (by omega) hi hk];omega
  ·exact h.held i' k' h1 hi' hk'
 ·rw[hf,rings_set hi hj hk hQ,hx]
  have:=h.free
  simp only[List.length_cons]
  omega
theorem NI.same (h:NI g v s) {s':NodeS} (hQ:s'.Q=s.Q) (hf:s'.free=s.free) (hh:s'.held=s.held) (hq:∀k',k' < g.ws.length→s'.q k'=s.q k'):NI g v s':=by
 refine⟨fun key y hy=>h.ring key y (hQ▸hy),fun k' hk' y hy=>h.host k' hk' y (hq k' hk'▸hy),fun i k hi hk=> ?_,fun i k h1 hi hk=> ?_, ?_⟩
 ·rw[lenQ_same hQ];exact h.row i k hi hk
 ·rw[lenQ_same hQ,hh];exact h.held i k h1 hi hk
 ·have e:ringsN s' (g.ports v) g.ws.length=ringsN s (g.ports v) g.ws.length:=by
   unfold ringsN
   exact sumI_congr fun k _=>sumI_congr fun i _=>lenQ_same hQ k i
  rw[hf,e];exact h.free
end
end Go.Proofs.YtebnflpanfmicaaGreatDoor
namespace Go.Proofs.YtebnflpanfmicaaGreatDoor
open Go.RowKit
section
variable {g:Geo} {v:Nat} {s:NodeS}
theorem manyTo_sum (s:NodeS) (k:Nat):∀t,manyTo s k t=wrap64 (sumI (fun j:Nat=>((s.Q ⟨((0:Nat):Int),(j:Int),(k:Int)⟩).length:Int)) t)
 | 0=>by rw[manyTo,sumI,wrap64_zero]
 | t+1=>by
   rw[manyTo,manyTo_sum s k t,sumI,wrap64_add]
   rfl
theorem manyTo_eq (hg:DG g) (h:NI g v s) {k:Nat} (hk:k < g.ws.length):manyTo s k (g.ports v)=lenQ s (g.ports v) k 0:=by
 rw[manyTo_sum]
 have h1:=h.row 0 k (by show 0 < (nb g.t v).length+1;omega) hk
 have h2:=lenQ_nat s (g.ports v) k 0
 have h3:=hg.room
 exact wrap64_id (by unfold lenQ at h2 h1;omega) (by unfold lenQ at h2 h1;omega)
theorem toward_nat (t:List Nat) (v d:Nat):∃j:Nat,towardI t v d=(j:Int)∧j < (nb t v).length+1:=by
 have:=towardI_range t v d
 exact⟨(towardI t v d).toNat,by omega,by omega⟩
structure Fed (g:Geo) (v:Nat) (s s':NodeS):Prop where
 ni:NI g v s'
 w:∀f,nodeW f s' (g.ports v) g.ws.length=nodeW f s (g.ports v) g.ws.length
 sent:s'.sent=s.sent
 limit:s'.limit=s.limit
 next:s'.next=s.next
 held:s'.held=s.held
 ticks:s'.ticks=s.ticks
 came:s'.q 3=s.q 3
 mono:∀i k,k < g.ws.length→lenQ s (g.ports v) k i≤lenQ s' (g.ports v) k i
theorem Fed.refl (h:NI g v s):Fed g v s s:=⟨h,fun _=>rfl,rfl,rfl,rfl,rfl,rfl,rfl,fun _ _ _=>Int.le_refl _⟩
theorem Fed.trans {a b c:NodeS} (h1:Fed g v a b) (h2:Fed g v b c):Fed g v a c:=
 ⟨h2.ni,fun f=>(h2.w f).trans (h1.w f),h2.sent.trans h1.sent,h2.limit.trans h1.limit,h2.next.trans h1.next,h2.held.trans h1.held,h2.ticks.trans h1.ticks,h2.came.trans h1.came,
  fun i k hk=>Int.le_trans (h1.mono i k hk) (h2.mono i k hk)⟩
theorem feedOne_fed (hg:DG g) (h:NI g v s) {k:Nat} (hk:k < g.ws.length):
  Fed g v s (feedOne g v s k)∧(s.q k≠[]→0 < lenQ (feedOne g v s k) (g.ports v) k 0)∧∀k',k'≠k→(feedOne g v s k).q k'=s.q k':=by
 have hroom:=hg.room
 have hP:0 < g.ports v:=by show 0 < (nb g.t v).length+1;omega
 have hm:=manyTo_eq hg h hk
 by_cases hr:g.p.room≤manyTo s k (g.ports v)
 ·have e:feedOne g v s k=s:=by unfold feedOne;rw[if_pos hr]
  rw[e]
  exact⟨Fed.refl h,fun _=>by omega,fun _ _=>rfl⟩
 ·cases hq:s.q k with
  | nil=>
    have e:feedOne g v s k=s:=by unfold feedOne;rw[if_neg hr,hq]
    rw[e]
    exact⟨Fed.refl h,fun h=>absurd rfl h,fun _ _=>rfl⟩
  | cons x r=>
    have e:feedOne g v s k={s with q:=setAt s.q k r,free:=s.free - 1,Q:=pushQ s.Q s.free ⟨0,towardI g.t v x.dst.toNat,k⟩ x}:=by unfold feedOne;rw[if_neg hr,hq]
    obtain⟨j,hj,hjP⟩:=toward_nat g.t v x.dst.toNat
    obtain⟨hpk,hln,hsr⟩:=h.host k hk x (by rw[hq];exact List.mem_cons_self)
    rw[hj]at e
    have hx:InRing g v ⟨((0:Nat):Int),(j:Int),(k:Int)⟩ x:=⟨hpk,hln,⟨0,rfl,hP,fun h=>by omega⟩,hj⟩
    have hqs:∀k',k'≠k→setAt s.q k r k'=s.q k':=fun k' hk'=>if_neg hk'
    have hqk:setAt s.q k r k=r:=if_pos rfl
    obtain⟨n1,n2,n3⟩:=h.push (s':=feedOne g v s k) hP hjP hk hx (by omega) (by rw[e];rfl) (by rw[e]) (fun i' k' h1=>by rw[e,if_neg (by omega)]) (fun k' hk' y hy=>by
     rw[e]at hy
     by_cases ek:k'=k
     ·subst ek
      have hy':y∈setAt s.q k' r k':=hy
      rw[hqk]at hy';rw[hq];exact List.mem_cons_of_mem _ hy'
     ·have hy':y∈setAt s.q k r k':=hy
      rw[hqs k' ek]at hy';exact hy')
    have hw:∀f,nodeW f (feedOne g v s k) (g.ports v) g.ws.length=nodeW f s (g.ports v) g.ws.length:=fun f=>by
     rw[nodeW_set hP hjP hk n2 (fun k' _ hk'=>by rw[e];exact hqs k' hk')]
     have e2:(feedOne g v s k).q k=r:=by rw[e];exact hqk
     rw[e2,hq,sumP_snoc,sumP]
     omega
    have h3:(3:Nat)≠k:=by have:=hg.l3;omega
    refine⟨⟨n1,hw,by rw[e],by rw[e],by rw[e],by rw[e],by rw[e],by rw[e];exact hqs 3 h3, ?_⟩,fun _=>by rw[n3];have:=lenQ_nat s (g.ports v) k 0;omega,fun k' hk'=>by rw[e];exact hqs k' hk'⟩
    intro i' k' _
    rw[lenQ_set hjP n2]
    split
    ·rename_i e';obtain⟨rfl,rfl⟩:=e'
     refine Int.le_add_of_nonneg_right ?_
     rw[List.length_append];simp only[List.length_cons,List.length_nil];omega
    ·exact Int.le_refl _
theorem feedTo_fed (hg:DG g) (h:NI g v s):∀k,k≤g.ws.length→Fed g v s (feedTo g v s k)∧(∀k',k' < k→s.q k'≠[]→0 < lenQ (feedTo g v s k) (g.ports v) k' 0)∧∀k',k≤k'→(feedTo g v s k).q k'=s.q k'
 | 0,_=>⟨Fed.refl h,fun _ h=>by omega,fun _ _=>rfl⟩
 | k+1,hk=>by
   obtain⟨h1,h2,h3⟩:=feedTo_fed hg h k (by omega)
   obtain⟨n1,n2,n3⟩:=feedOne_fed hg h1.ni (k:=k) (by omega)
   refine⟨h1.trans n1, ?_, ?_⟩
   ·intro k' hk' hq
    by_cases e:k'=k
    ·subst e
     exact n2 (by rw[h3 k' (Nat.le_refl _)];exact hq)
    ·exact Int.lt_of_lt_of_le (h2 k' (by omega) hq) (n1.mono 0 k' (by omega))
   ·intro k' hk'
    show(feedOne g v (feedTo g v s k) k).q k'=_
    rw[n3 k' (by omega),h3 k' (by omega)]
theorem fedW_fed (hg:DG g) (h:NI g v s):Fed g v s (fedW g v s)∧∀k,k < g.ws.length→s.q k≠[]→0 < lenQ (fedW g v s) (g.ports v) k 0:=by
 obtain⟨h1,h2,_⟩:=feedTo_fed hg h g.ws.length (Nat.le_refl _)
 exact⟨h1,h2⟩
end
end Go.Proofs.YtebnflpanfmicaaGreatDoor
namespace Go.Proofs.YtebnflpanfmicaaGreatDoor
open Go.RowKit
def rowW (t:List Nat) (u:Nat) (l:List Int):Int:=if(decF l).2=0∧(decF l).1.kind=1 then(dsN t u (decF l).1.dst.toNat:Int)else 0
theorem rowW_nat (t:List Nat) (u:Nat) (l:List Int):0≤rowW t u l:=by unfold rowW;split <;>omega
def outW (t:List Nat):List (Nat×List Int)→Int
 | []=>0
 | x :: O=>rowW t x.1 x.2+outW t O
theorem outW_append (t:List Nat):∀O O',outW t (O ++ O')=outW t O+outW t O'
 | [],_=>by simp[outW]
 | x :: O,O'=>by rw[List.cons_append,outW,outW,outW_append t O O'];omega
def wayW (t:List Nat) (v:Nat) (x:Pkt):Int:=(dsN t v x.dst.toNat:Int)
def sentAll (g:Geo) (v:Nat) (s:NodeS):Int:=sumI (fun b=>sumI (fun k=>if b∈nb g.t v then s.sent (portN g.t v b) k else 0) g.ws.length) (g.t.length+1)
def nextAll (g:Geo) (v:Nat) (s:NodeS):Int:=sumI (fun b=>sumI (fun k=>if b∈nb g.t v then s.next (portN g.t v b) k else 0) g.ws.length) (g.t.length+1)
section
variable {g:Geo} {v:Nat} {s s':NodeS}
theorem portsAll_upd (hg:DG g) (hv:v≤g.t.length) {F F':Nat→Nat→Int} {i k:Nat} (h1:1≤i) (hi:i < g.ports v) (hk:k < g.ws.length) (he:∀i' k',¬(i'=i∧k'=k)→F' i' k'=F i' k'):
  sumI (fun b=>sumI (fun k=>if b∈nb g.t v then F' (portN g.t v b) k else 0) g.ws.length) (g.t.length+1)=
  sumI (fun b=>sumI (fun k=>if b∈nb g.t v then F (portN g.t v b) k else 0) g.ws.length) (g.t.length+1)+(F' i k - F i k):=by
 have hm:=pn_mem h1 hi
 have hp:=port_pn hg.tree hg.t5 hv h1 hi
 rw[sumI_upd (f:=fun b=>sumI (fun k=>if b∈nb g.t v then F (portN g.t v b) k else 0) g.ws.length) (j:=pn g.t v i) (by have:=nb_le hg.tree hg.t5 hv hm;omega)]
 ·rw[sumI_upd (f:=fun k=>if pn g.t v i∈nb g.t v then F (portN g.t v (pn g.t v i)) k else 0) hk]
  ·rw[if_pos hm,if_pos hm,hp];omega
  ·intro k' hk'
   rw[if_pos hm,if_pos hm,hp,he i k' (fun e=>hk' e.2)]
 ·intro b hb
  refine sumI_congr fun k' _=> ?_
  by_cases hb':b∈nb g.t v
  ·rw[if_pos hb',if_pos hb',he _ _ (fun e=>hb (by rw[←pn_port hb',e.1]))]
  ·rw[if_neg hb',if_neg hb']
theorem mayTo_bt (s:NodeS) (i t:Nat):∀k,mayTo s i t k=bt (mayOne s i t) k
 | 0=>rfl
 | k+1=>by
   rw[mayTo,bt,mayTo_bt s i t k]
   split <;>rfl
theorem has_mayTo {s:NodeS} {i t L k:Nat} (h:has (mayTo s i t L) k=true):k < L∧mayOne s i t k=true:=by
 rw[mayTo_bt,has_bt,Bool.and_eq_true,decide_eq_true_eq]at h
 exact h
theorem askTo_bt (s:NodeS) (L i:Nat):∀t,askTo s L i t=bt (fun t=>decide (mayTo s i t L≠0)) t
 | 0=>rfl
 | t+1=>by
   rw[askTo,bt,askTo_bt s L i t]
   by_cases h:mayTo s i t L=0
   ·rw[if_neg (by simp[h]),if_neg (by simp[h])];rfl
   ·rw[if_pos h,if_pos (by simp[h])]
def SL (g:Geo) (v:Nat) (s:NodeS):Prop:=∀i k,1≤i→i < g.ports v→k < g.ws.length→Sm (s.sent i k)∧Sm (s.limit i k)∧s.sent i k≤s.limit i k
structure DataRow (g:Geo) (v:Nat) (lo hi:Nat→Nat→Int) (x:Nat×List Int):Prop where
 to:x.1∈nb g.t v
 row:∃(f:Frm) (k:Nat) (n:Int),x.2=encF f∧FrmOk f∧f.kind=1∧f.lane=(k:Int)∧k < g.ws.length∧f.seq=W16 n∧lo (portN g.t v x.1) k≤n∧n < hi (portN g.t v x.1) k∧f.dst≤g.t.length∧f.src≤g.t.length∧nxt g.t v f.dst.toNat=x.1∧f.dst.toNat≠v
structure Mv (g:Geo) (v:Nat) (s s':NodeS) (O:List (Nat×List Int)) (n:Int):Prop where
 ni:NI g v s'
 limit:s'.limit=s.limit
 next:∀i k,s'.next i k=s.next i k
 sent:∀i k,s.sent i k≤s'.sent i k
 sl:SL g v s'
 held:∀i k,1≤i→i < g.ports v→k < g.ws.length→s'.held i k≤s.held i k
 rows:∀x∈O,DataRow g v s.sent s'.sent x
 count:nodeW (fun _=>1) s' (g.ports v) g.ws.length+((s'.q 3).length:Int)+sentAll g v s'=nodeW (fun _=>1) s (g.ports v) g.ws.length+((s.q 3).length:Int)+sentAll g v s
 weight:nodeW (wayW g.t v) s' (g.ports v) g.ws.length+outW g.t O+n≤nodeW (wayW g.t v) s (g.ports v) g.ws.length
theorem Mv.refl (h:NI g v s) (hs:SL g v s):Mv g v s s [] 0:=⟨h,rfl,fun _ _=>rfl,fun _ _=>Int.le_refl _,hs,fun _ _ _ _ _=>Int.le_refl _,fun x hx=>absurd hx (List.not_mem_nil),rfl,by simp[outW]⟩
theorem Mv.trans {a b c:NodeS} {O O':List (Nat×List Int)} {n n':Int} (h1:Mv g v a b O n) (h2:Mv g v b c O' n'):Mv g v a c (O ++ O') (n+n'):=by
 refine⟨h2.ni,h2.limit.trans h1.limit,fun i k=>(h2.next i k).trans (h1.next i k),fun i k=>Int.le_trans (h1.sent i k) (h2.sent i k),h2.sl,
  fun i k a b c=>Int.le_trans (h2.held i k a b c) (h1.held i k a b c), ?_,h2.count.trans h1.count, ?_⟩
 ·intro x hx
  rcases List.mem_append.1 hx with hx | hx
  ·obtain⟨ht,f,k,n,e1,e2,e3,e4,e5,e6,e7,e8,e9⟩:=h1.rows x hx
   exact⟨ht,f,k,n,e1,e2,e3,e4,e5,e6,e7,Int.lt_of_lt_of_le e8 (h2.sent _ _),e9⟩
  ·obtain⟨ht,f,k,n,e1,e2,e3,e4,e5,e6,e7,e8,e9⟩:=h2.rows x hx
   exact⟨ht,f,k,n,e1,e2,e3,e4,e5,e6,Int.le_trans (h1.sent _ _) e7,e8,e9⟩
 ·rw[outW_append]
  have:=h1.weight;have:=h2.weight;omega
end
end Go.Proofs.YtebnflpanfmicaaGreatDoor
namespace Go.Proofs.YtebnflpanfmicaaGreatDoor
open Go.RowKit
section
variable {g:Geo} {v:Nat} {s:NodeS}
theorem wheelPick_neg {W L:List Nat} {fr may:Nat} (h:(wheelPick W L fr may).1 < 0):may % 2^W.length=0:=by
 unfold wheelPick at h
 by_cases h0:may % 2^W.length=0
 ·exact h0
 ·exfalso
  simp only[h0,if_false]at h
  omega
theorem sl_mayOne {i t k:Nat} (h:mayOne s i t k=true):s.Q ⟨(i:Int),(t:Int),(k:Int)⟩≠[]∧(t=0∨0 < opn (s.sent t k) (s.limit t k)):=by
 unfold mayOne at h
 simp only[Bool.and_eq_true,Bool.or_eq_true,decide_eq_true_eq]at h
 exact⟨fun e=>h.1 (by rw[e];rfl),h.2⟩
theorem W8_small {x:Int} (h0:0≤x) (h1:x≤255):W8 x=x:=by rw[W8_mod];omega
theorem dataF_ok (hg:DG g) {k:Nat} {x:Pkt} (hk:k < g.ws.length) (hx:PkOk g x) (n:Int):FrmOk ⟨1,W8 k,W16 n,W8 x.src,W8 x.dst,x.body⟩∧W8 (k:Int)=(k:Int)∧W8 x.src=x.src∧W8 x.dst=x.dst:=by
 have h5:=hg.t5
 have h3:=hg.l3
 have e1:W8 (k:Int)=(k:Int):=W8_small (by omega) (by omega)
 have e2:W8 x.src=x.src:=W8_small hx.src.1 (by have:=hx.src;omega)
 have e3:W8 x.dst=x.dst:=W8_small hx.dst.1 (by have:=hx.dst;omega)
 refine⟨?_,e1,e2,e3⟩
 rw[e1,e2,e3]
 have a1:=hx.src
 have a2:=hx.dst
 have a3:=hx.ne
 refine⟨Or.inl ⟨rfl, ?_, ?_,hx.ne⟩, ?_, ?_,hx.src.1,hx.dst.1,hx.body⟩
 ·show(k:Int) < 3;omega
 ·show max x.src x.dst < 6;omega
 ·show 0≤(k:Int);omega
 ·show 0≤W16 n∧W16 n < 65536
  rw[W16_mod];omega
theorem move_mv (hg:DG g) (hv:v≤g.t.length) (h:NI g v s) (hs:SL g v s) {i t:Nat} (hw:WheelOk g.ws (s.left t) (s.from_ t)) (hi:i < g.ports v) (ht:t < g.ports v):
  ∃n:Int,0≤n∧Mv g v s (moveS g i t s) (moveO g v i t s) n∧(mayTo s i t g.ws.length≠0→n=1)∧∀j k,(moveS g i t s).sent j k≤s.sent j k+(if j=t then 1 else 0):=by
 obtain⟨_,p1,p2,p3⟩:=wheelPick_ok (may:=mayTo s i t g.ws.length) hw
 obtain⟨p,hp⟩:∃p,pickW g s i t=p:=⟨_,rfl⟩
 have hp':wheelPick g.ws (s.left t) (s.from_ t) (mayTo s i t g.ws.length)=p:=hp
 rw[hp']at p1 p2 p3
 by_cases hn:p.1 < 0
 ·have e1:moveS g i t s=turnW s t p.2.1 p.2.2:=by unfold moveS;simp only[hp];rw[if_pos hn]
  have e2:moveO g v i t s=[]:=by unfold moveO;simp only[hp];rw[if_pos (.inl hn)]
  rw[e1,e2]
  refine⟨0,Int.le_refl _,⟨h.same rfl rfl rfl (fun _ _=>rfl),rfl,fun _ _=>rfl,fun _ _=>Int.le_refl _,hs,fun _ _ _ _ _=>Int.le_refl _,fun x hx=>absurd hx (List.not_mem_nil), ?_, ?_⟩, ?_, ?_⟩
  ·rw[nodeW_same (s:=s) rfl (fun _ _=>rfl)];rfl
  ·have e:nodeW (wayW g.t v) (turnW s t p.2.1 p.2.2) (g.ports v) g.ws.length=nodeW (wayW g.t v) s (g.ports v) g.ws.length:=nodeW_same rfl (fun _ _=>rfl)
   rw[e,outW];omega
  ·intro hm
   exfalso
   rw[←hp']at hn
   have:=wheelPick_neg hn
   rw[Nat.mod_eq_of_lt (mayTo_lt s i t g.ws.length)]at this
   exact hm this
  ·intro j k
   show s.sent j k≤_
   split <;>omega
 ·obtain⟨k,hk⟩:∃k:Nat,p.1=(k:Int):=⟨p.1.toNat,by omega⟩
  obtain⟨hkL,hmay⟩:=has_mayTo (p3 (by omega))
  rw[hk,Int.toNat_natCast]at hkL hmay
  obtain⟨hne,hop⟩:=sl_mayOne hmay
  obtain⟨x,r,hx⟩:∃x r,s.Q ⟨(i:Int),(t:Int),(k:Int)⟩=x :: r:=by
   cases hq:s.Q ⟨(i:Int),(t:Int),(k:Int)⟩with
   | nil=>exact absurd hq hne
   | cons x r=>exact⟨x,r,rfl⟩
  have hr:=h.ring _ x (by rw[hx];exact List.mem_cons_self)
  have hpk:=hr.pk
  obtain⟨i0,ei0,_,honw⟩:=hr.inp
  have hii:i0=i:=by have e:(i:Int)=(i0:Int):=ei0;omega
  subst hii
  have hout:towardI g.t v x.dst.toNat=(t:Int):=hr.out
  have hdn:=hpk.toNat
  have h3:(3:Nat)≠k:=by have:=hg.l3;omega
  have h8:=hg.room
  have hhead:headW s ⟨(i0:Int),(t:Int),(k:Int)⟩=x:=by unfold headW;rw[hx];rfl
  have hheld1:1≤i0→0 < s.held i0 k∧s.held i0 k≤8:=fun h1=>by
   rw[h.held i0 k h1 hi hkL]
   have a:=lenQ_has (P:=g.ports v) ht hne
   have b:=h.row i0 k hi hkL
   omega
  have key:∀s':NodeS,s'.Q=setW s.Q ⟨(i0:Int),(t:Int),(k:Int)⟩ r→s'.free=s.free+1→(∀i' k',s'.held i' k'=if i'=i0∧k'=k∧1≤i0 then freeR (s.held i0 k)else s.held i' k')→(∀k',k' < g.ws.length→s'.q k'=s.q k')→
    NI g v s'∧(∀i k,1≤i→i < g.ports v→k < g.ws.length→s'.held i k≤s.held i k)∧∀f,nodeW f s' (g.ports v) g.ws.length=nodeW f s (g.ports v) g.ws.length - f x:=by
   intro s' a1 a2 a3 a4
   refine⟨h.pop hi ht hkL hx a1 a2 (fun i' k' h1=> ?_) a4,fun i' k' h1 h2 h3=> ?_,fun f=> ?_⟩
   ·rw[a3]
    by_cases e:i'=i0∧k'=k
    ·obtain⟨rfl,rfl⟩:=e
     rw[if_pos ⟨rfl,rfl,h1⟩,if_pos ⟨rfl,rfl⟩,freeR_eq (hheld1 h1).1 (hheld1 h1).2]
    ·rw[if_neg (fun e'=>e ⟨e'.1,e'.2.1⟩),if_neg e]
   ·rw[a3]
    split
    ·rename_i e;obtain⟨rfl,rfl,_⟩:=e
     exact(freeR_le (by have:=(hheld1 h1).1;omega) (hheld1 h1).2).2
    ·exact Int.le_refl _
   ·rw[nodeW_set hi ht hkL a1 (fun k' hk' _=>a4 k' hk'),a4 k hkL,hx,sumP];omega
  have hfree:(if s.Q ⟨(i0:Int),(t:Int),(k:Int)⟩=[]then s.free else s.free+1)=s.free+1:=if_neg hne
  have htail:setW s.Q ⟨(i0:Int),(t:Int),(k:Int)⟩ (s.Q ⟨(i0:Int),(t:Int),(k:Int)⟩).tail=setW s.Q ⟨(i0:Int),(t:Int),(k:Int)⟩ r:=by rw[hx];rfl
  obtain⟨s2,hs2⟩:∃s2,takeW (turnW s t p.2.1 p.2.2) i0 t k=s2:=⟨_,rfl⟩
  have t1:s2.Q=setW s.Q ⟨(i0:Int),(t:Int),(k:Int)⟩ r:=by
   rw[←hs2,←htail];unfold takeW;split <;>rfl
  have t2:s2.free=s.free+1:=by
   have e:(takeW (turnW s t p.2.1 p.2.2) i0 t k).free=if s.Q ⟨(i0:Int),(t:Int),(k:Int)⟩=[]then s.free else s.free+1:=by
    unfold takeW
    by_cases h0:0 < i0
    ·rw[if_pos h0];rfl
    ·rw[if_neg h0];rfl
   rw[←hs2,e,hfree]
  have t3:∀i' k',s2.held i' k'=if i'=i0∧k'=k∧1≤i0 then freeR (s.held i0 k)else s.held i' k':=fun i' k'=>by
   rw[←hs2];unfold takeW
   by_cases h0:0 < i0
   ·rw[if_pos h0]
    show(if i'=i0∧k'=k then freeR (s.held i0 k)else s.held i' k')=_
    by_cases e:i'=i0∧k'=k
    ·rw[if_pos e,if_pos ⟨e.1,e.2,h0⟩]
    ·rw[if_neg e,if_neg (fun e'=>e ⟨e'.1,e'.2.1⟩)]
   ·rw[if_neg h0,if_neg (fun e'=>h0 e'.2.2)];rfl
  have t4:∀i' k',s2.next i' k'=s.next i' k':=fun i' k'=>by
   rw[←hs2];unfold takeW
   split
   ·show(if i'=i0∧k'=k then s.next i0 k else s.next i' k')=_
    split
    ·rename_i e;rw[e.1,e.2]
    ·rfl
   ·rfl
  have t5:s2.q=s.q∧s2.sent=s.sent∧s2.limit=s.limit∧s2.ticks=s.ticks:=by rw[←hs2];unfold takeW;split <;>exact⟨rfl,rfl,rfl,rfl⟩
  by_cases h0:t=0
  ·have e1:moveS g i0 t s={s2 with q:=setAt s2.q 3 (s2.q 3 ++ [x])}:=by
    unfold moveS;simp only[hp];rw[if_neg hn,if_pos h0,hk,Int.toNat_natCast,hs2,hhead]
   have e2:moveO g v i0 t s=[]:=by unfold moveO;simp only[hp];rw[if_pos (.inr h0)]
   have hq':∀k',k' < g.ws.length→(moveS g i0 t s).q k'=s.q k':=fun k' hk'=>by
    rw[e1]
    show setAt s2.q 3 _ k'=_
    rw[setAt,if_neg (by have:=hg.l3;omega),t5.1]
   obtain⟨n1,n2,n3⟩:=key (moveS g i0 t s) (by rw[e1];exact t1) (by rw[e1];exact t2) (fun i' k'=>by rw[e1];exact t3 i' k') hq'
   have hsent:(moveS g i0 t s).sent=s.sent:=by rw[e1];exact t5.2.1
   have hlim:(moveS g i0 t s).limit=s.limit:=by rw[e1];exact t5.2.2.1
   have hd:x.dst.toNat=v:=by
    by_cases e:x.dst.toNat=v
    ·exact e
    ·exfalso
     rw[toward_next hg.tree hg.t5 hv hdn.1 e]at hout
     have:=(portN_range (ds_next hg.tree hg.t5 hv hdn.1 e).1).1
     omega
   rw[e2]
   refine⟨1,by omega,⟨n1,hlim,fun i' k'=>by rw[e1];exact t4 i' k',fun _ _=>by rw[hsent];exact Int.le_refl _, ?_,n2,fun x hx=>absurd hx (List.not_mem_nil), ?_, ?_⟩,fun _=>rfl, ?_⟩
   ·intro i' k' a b c
    rw[hsent,hlim];exact hs i' k' a b c
   ·have e3:sentAll g v (moveS g i0 t s)=sentAll g v s:=by unfold sentAll;rw[hsent]
    have e4:(moveS g i0 t s).q 3=s.q 3 ++ [x]:=by
     have e:∀(q:Nat→List Pkt) (l:List Pkt),setAt q 3 l 3=l:=fun _ _=>if_pos rfl
     rw[e1,←t5.1]
     exact e s2.q (s2.q 3 ++ [x])
    rw[n3,e3,e4,List.length_append]
    simp only[List.length_cons,List.length_nil]
    omega
   ·rw[n3,outW,wayW,hd,ds_here hg.tree hg.t5 hv]
    omega
   ·intro j k'
    rw[hsent];split <;>omega
  ·have ht1:1≤t:=by omega
   obtain⟨q1,q2,q3⟩:=hs t k ht1 ht hkL
   have hlt:s.sent t k < s.limit t k:=by
    rcases hop with e | e
    ·exact absurd e h0
    ·rw[opn_eq q1 q2 q3]at e;omega
   obtain⟨hd,hpn⟩:=toward_port hg.tree hg.t5 hv hdn.1 ht1 hout
   obtain⟨hd1,hd2⟩:=ds_next hg.tree hg.t5 hv hdn.1 hd
   obtain⟨f1,f2,f3,f4⟩:=dataF_ok hg hkL hpk (s.sent t k)
   have e1:moveS g i0 t s=sentW s2 t k:=by
    unfold moveS;simp only[hp];rw[if_neg hn,if_neg h0,hk,Int.toNat_natCast,hs2]
   have eF:dataF s t k x=⟨1,W8 k,W16 (s.sent t k),W8 x.src,W8 x.dst,x.body⟩:=by unfold dataF;rw[nextN_eq q1 q2 hlt]
   have e2:moveO g v i0 t s=[(pn g.t v t,encF ⟨1,W8 k,W16 (s.sent t k),W8 x.src,W8 x.dst,x.body⟩)]:=by
    unfold moveO;simp only[hp]
    rw[if_neg (fun e=>e.elim hn h0),hk,Int.toNat_natCast,hhead,eF,outB,if_pos f1.sound]
    rfl
   obtain⟨n1,n2,n3⟩:=key (moveS g i0 t s) (by rw[e1];exact t1) (by rw[e1];exact t2) (fun i' k'=>by rw[e1];exact t3 i' k') (fun k' _=>by rw[e1];show s2.q k'=_;rw[t5.1])
   have hsent:∀i' k',(moveS g i0 t s).sent i' k'=if i'=t∧k'=k then s.sent t k+1 else s.sent i' k':=fun i' k'=>by
    rw[e1]
    show(if i'=t∧k'=k then nextS (s2.sent t k) (s2.limit t k)else s2.sent i' k')=_
    rw[t5.2.1,t5.2.2.1,nextS_eq q1 q2 hlt]
   have hlim:(moveS g i0 t s).limit=s.limit:=by
    rw[e1]
    funext i' k'
    show(if i'=t∧k'=k then s2.limit t k else s2.limit i' k')=_
    rw[t5.2.2.1]
    split
    ·rename_i e;rw[e.1,e.2]
    ·rfl
   have hge:∀i' k',s.sent i' k'≤(moveS g i0 t s).sent i' k':=fun i' k'=>by
    rw[hsent];split
    ·rename_i e;rw[e.1,e.2];omega
    ·exact Int.le_refl _
   rw[e2]
   refine⟨1,by omega,⟨n1,hlim,fun i' k'=>by rw[e1];exact t4 i' k',hge, ?_,n2, ?_, ?_, ?_⟩,fun _=>rfl, ?_⟩
   ·intro i' k' a b c
    rw[hsent,hlim]
    have:=hs i' k' a b c
    split
    ·rename_i e;obtain⟨rfl,rfl⟩:=e
     exact⟨⟨by omega,by omega⟩,this.2.1,by omega⟩
    ·exact this
   ·intro y hy
    rw[List.mem_singleton]at hy
    subst hy
    have hm:pn g.t v t∈nb g.t v:=by rw[hpn];exact hd1
    have hpt:portN g.t v (pn g.t v t)=t:=port_pn hg.tree hg.t5 hv ht1 ht
    refine⟨hm,_,k,s.sent t k,rfl,f1,rfl,f2,hkL,rfl, ?_, ?_, ?_, ?_, ?_, ?_⟩
    ·show s.sent (portN g.t v (pn g.t v t)) k≤_
     rw[hpt];exact Int.le_refl _
    ·show _ < (moveS g i0 t s).sent (portN g.t v (pn g.t v t)) k
     rw[hpt,hsent,if_pos ⟨rfl,rfl⟩];omega
    ·show W8 x.dst≤_;rw[f4];exact hpk.dst.2
    ·show W8 x.src≤_;rw[f3];exact hpk.src.2
    ·show nxt g.t v (W8 x.dst).toNat=pn g.t v t;rw[f4,hpn]
    ·show(W8 x.dst).toNat≠v;rw[f4];exact hd
   ·have e3:sentAll g v (moveS g i0 t s)=sentAll g v s+1:=by
     unfold sentAll
     rw[portsAll_upd hg hv (F:=s.sent) (F':=(moveS g i0 t s).sent) ht1 ht hkL (fun i' k' e=>by rw[hsent,if_neg e]),hsent,if_pos ⟨rfl,rfl⟩]
     omega
    have e4:(moveS g i0 t s).q 3=s.q 3:=by rw[e1];show s2.q 3=_;rw[t5.1]
    rw[n3,e3,e4]
    omega
   ·have er:rowW g.t (pn g.t v t) (encF ⟨1,W8 k,W16 (s.sent t k),W8 x.src,W8 x.dst,x.body⟩)=(dsN g.t (nxt g.t v x.dst.toNat) x.dst.toNat:Int):=by
     unfold rowW
     rw[decF_encF f1,if_pos ⟨rfl,rfl⟩,hpn]
     show(dsN g.t _ (W8 x.dst).toNat:Int)=_
     rw[f4]
    rw[n3,outW,outW,er,wayW]
    omega
   ·intro j k'
    rw[hsent]
    by_cases e:j=t
    ·subst e
     rw[if_pos rfl]
     split
     ·rename_i e;rw[e.2];exact Int.le_refl _
     ·omega
    ·rw[if_neg (fun e'=>e e'.1),if_neg e];omega
end
end Go.Proofs.YtebnflpanfmicaaGreatDoor
namespace Go.Proofs.YtebnflpanfmicaaGreatDoor
theorem round_m (R:Nat→Nat→Bool) (s:St) (n:Nat) (f:Bool) (i:Nat):(roundP R n f s).m i=if i < n∧took R s n i=true then acc R s n i else s.m i:=rfl
theorem took_neg {R:Nat→Nat→Bool} {s:St} {n i:Nat} (h:took R s n i=true):s.m i < 0∧0≤acc R s n i:=by
 unfold took at h
 rw[Bool.and_eq_true,decide_eq_true_eq,decide_eq_true_eq]at h
 exact h
theorem round_keep {R:Nat→Nat→Bool} {s:St} {n i:Nat} {f:Bool} (h:0≤s.m i):(roundP R n f s).m i=s.m i:=by
 rw[round_m]
 by_cases ht:i < n∧took R s n i=true
 ·have:=(took_neg ht.2).1;omega
 ·rw[if_neg ht]
theorem rounds_keep {R:Nat→Nat→Bool} {s:St} {n i c:Nat} (h:0≤(roundsP R n s c).m i):∀d,(roundsP R n s (c+d)).m i=(roundsP R n s c).m i
 | 0=>rfl
 | d+1=>by
   have ih:=rounds_keep h d
   rw[←Nat.add_assoc,roundsP,round_keep (by rw[ih];exact h),ih]
def Asked (R:Nat→Nat→Bool) (n:Nat) (s:St):Prop:=∀i,i < n→0≤s.m i→R i (s.m i).toNat=true
theorem asked_round {R:Nat→Nat→Bool} {s:St} {n:Nat} {f:Bool} (hF:Fit n s) (h:Asked R n s):Asked R n (roundP R n f s):=by
 intro i hi h0
 rw[round_m]at h0 ⊢
 by_cases ht:i < n∧took R s n i=true
 ·rw[if_pos ht]at h0 ⊢
  rcases acc_cases (R:=R) hF hi with⟨e,_⟩ | ⟨k,e,_,_,_,_,hR⟩
  ·omega
  ·rw[e,Int.toNat_natCast];exact hR
 ·rw[if_neg ht]at h0 ⊢;exact h i hi h0
theorem asked_rounds {R:Nat→Nat→Bool} {s:St} {n:Nat} (hF:Fit n s) (h:Asked R n s):∀c,Asked R n (roundsP R n s c)
 | 0=>h
 | c+1=>asked_round (fit_rounds hF c) (asked_rounds hF h c)
theorem asked_start (R:Nat→Nat→Bool) (n:Nat) (G A:Nat→Nat):Asked R n ⟨fun _=> -1,G,A⟩:=fun i _ h=>by simp at h
theorem idle_whole {R:Nat→Nat→Bool} {s:St} {n:Nat} (hF:Fit n s) (h:∀i,i < n→took R s n i=false) {i k:Nat} (hi:i < n) (hk:k < n) (hm:s.m i < 0) (hf:freeB s.m n k=true):R i k=false:=by
 cases hR:R i k with
 | false=>rfl
 | true=>
   exfalso
   rcases pick_cases (askB R s.m n k) (s.G k) n (hF.g k hk)with⟨_,hn⟩ | ⟨j,e,hj,hb⟩
   ·have:=hn i hi
    rw[ask_has,hR,decide_eq_true hi,decide_eq_true hm]at this
    simp at this
   ·have hg:gp R s n k=(j:Int):=e
    have ht:=h j hj
    rcases acc_cases (R:=R) hF hj with⟨_,hno⟩ | ⟨k',e',_⟩
    ·exact hno k hk hf hg
    ·have:=(took_iff (R:=R) hF hj).2 (by omega)
     rw[ht]at this;cases this
section
variable {R:Nat→Nat→Bool} {s:St} {n a b:Nat}
end
end Go.Proofs.YtebnflpanfmicaaGreatDoor
