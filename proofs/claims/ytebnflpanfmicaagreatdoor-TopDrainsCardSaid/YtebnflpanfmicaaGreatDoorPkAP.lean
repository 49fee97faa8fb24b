/-
  Part 16 of the proof: TopSortI, TopRank, TopPath, TopAfter.
-/
import Derived.Test.YtebnflpanfmicaaGreatDoorPkAO
import Derived.Deep.RegionHeld3
set_option linter.unusedVariables false
set_option linter.unusedSimpArgs false
set_option linter.unusedSectionVars false
namespace Go.Proofs.YtebnflpanfmicaaGreatDoor
open Go.RowKit
abbrev ZQ (w:World) (v:Value) (zs:List Int):Prop:=QS w 3 1 v zs.length (zs.map (Value.int .i64))
theorem ZQ.put {w:World} {zs ys:List Int} {g off cap n:Nat} (hn:zs.length=n) (h:QS w 3 1 (.slice (some ⟨g,off,none⟩) n cap) n (zs.map (Value.int .i64))) (hy:ys.length=n) (q:Nat) (os:Array Obj):
  QS (Go.Sort.grow (Go.Sort.putRow (Value.int .i64) (Go.Sort.ahead w q) g off ys.toArray) os) 3 1 (.slice (some ⟨g,off,none⟩) n cap) n (ys.map (Value.int .i64))∧Keeps (fun k=>k=g) w (Go.Sort.grow (Go.Sort.putRow (Value.int .i64) (Go.Sort.ahead w q) g off ys.toArray) os):=by
 have hlt:=h.lt g rfl
 have hk:Keeps (fun k=>k=g) w (Go.Sort.grow (Go.Sort.putRow (Value.int .i64) (Go.Sort.ahead w q) g off ys.toArray) os):=by
  refine⟨rfl,rfl,rfl,by simp,fun i hi hne=> ?_⟩
  rw[Go.Sort.heap_grow_old _ os (by simpa using hi)]
  simp[Go.Sort.putRow,Go.Sort.mapBlock,Array.getElem?_modify,Ne.symm hne]
 refine⟨⟨by simp[hy], ?_⟩,hk⟩
 rcases h.2 with⟨h,_⟩ | ⟨g',off',cap',cur,h,h2,h3,h4,h5,h6⟩
 ·cases h
 ·cases h
  refine .inr ⟨g,off,cap,Go.Sort.putCells (Value.int .i64) off ys.toArray cur,rfl, ?_,h3,h4,by simpa[Go.Sort.putCells]using h5,fun j hj=> ?_⟩
  ·rw[Go.Sort.heap_grow_old _ os (by simpa using hlt)]
   have h2':(Go.Sort.ahead w q).heap[g]? =some (.cells cur 3 (0,0)):=h2
   simp[Go.Sort.putRow,Go.Sort.mapBlock,Array.getElem?_modify,Go.Sort.onCells]
   exact⟨_,h2,rfl⟩
  ·rw[List.length_map]at hj
   have hc:=h6 j (by rw[List.length_map];omega)
   rw[List.getElem?_map,List.getElem?_eq_getElem (by omega)]at hc
   simp only[Go.Sort.putCells,Array.getElem?_mapIdx,hc,Option.map_some,List.size_toArray]
   rw[if_pos (by omega),List.getElem?_map,List.getElem?_eq_getElem hj,show off+j - off=j by omega]
   simp[hj]
theorem holds_ZQ {w:World} {zs:List Int} {g off n cap:Nat} (hn:zs.length=n) (h:QS w 3 1 (.slice (some ⟨g,off,none⟩) n cap) n (zs.map (Value.int .i64))):Go.Sort.Holds (Value.int .i64) w g off zs.toArray:=by
 intro j hj
 simp only[List.size_toArray]at hj
 rcases h.2 with⟨h,_⟩ | ⟨g',off',cap',cur,h,h2,_,_,_,h6⟩
 ·cases h
 ·cases h
  refine⟨?_,blk_frozen h2 _⟩
  rw[blk_cell h2,h6 j (by simpa using hj),List.getElem?_map,List.getElem?_eq_getElem hj]
  simp[hj]
theorem sortI_runs (v:Value) (zs:List Int) (w:World) (h:ZQ w v zs) (h5:zs.length≤100):
  Calls Tryz.prog 130 #[v] w fun e w'=>e= .returned (.tuple #[])∧∃ys:List Int,ys.length=zs.length∧(∀x∈ys,x∈zs)∧ZQ w' v ys∧Keeps (fun k=>v.ownBlock=some k) w w':=by
 by_cases h0:zs.length=0
 ·have h1:=h
  obtain⟨A,cap,rfl,_,_⟩:=h.shape
  rw[h0]
  refine(Tryz.slices_Sort_int_none A cap w).mono ?_
  rintro e w' ⟨rfl,rfl⟩
  exact⟨rfl,zs,h0,fun _ h=>h,by rw[←h0];exact h1,Keeps.refl _ _⟩
 ·obtain⟨g,off,cap,rfl,_,_,_⟩:=h.cell (by omega)
  have:=Tryz.slices_Sort_int g off cap zs w (holds_ZQ rfl h) (h.lt g rfl) (by omega)
  refine this.mono ?_
  rintro e w' ⟨rfl,n,os,rfl⟩
  have hl:(zs.mergeSort fun x y=>decide (x≤y)).length=zs.length:=List.length_mergeSort _
  obtain⟨p1,p2⟩:=ZQ.put rfl h hl n os
  refine⟨rfl,_,hl,fun x hx=>List.mem_mergeSort.1 hx,by unfold ZQ;rw[hl];exact p1, ?_⟩
  exact Keeps.mono p2 (fun k _ hk=>hk▸rfl)
theorem compact_le (zs:List Int):(Lib.compact zs).length≤zs.length:=by
 unfold Lib.compact Lib.compactUpTo
 rw[List.length_map]
 exact Nat.le_trans (List.length_filter_le _ _) (by simp)
theorem compact_mem {zs:List Int} {x:Int} (h:x∈Lib.compact zs):x∈zs:=by
 unfold Lib.compact Lib.compactUpTo at h
 obtain⟨j,hj,rfl⟩:=List.mem_map.1 h
 have hj2:=List.mem_range.1 (List.mem_filter.1 hj).1
 simp[hj2]
theorem compactI_runs (v:Value) (zs:List Int) (w:World) (h:ZQ w v zs) (h5:zs.length≤100):
  Calls Tryz.prog 131 #[v] w fun e w'=>∃(u:Value) (ys:List Int),e= .returned u∧ys.length≤zs.length∧(∀x∈ys,x∈zs)∧ZQ w' u ys∧Keeps (fun k=>v.ownBlock=some k) w w'∧∀k,u.ownBlock=some k→v.ownBlock=some k:=by
 by_cases h0:zs.length=0
 ·have h1:=h
  obtain⟨A,cap,rfl,_,_⟩:=h.shape
  rw[h0]
  refine(Tryz.slices_Compact_int_empty A cap w).mono ?_
  rintro e w' ⟨rfl,rfl⟩
  exact⟨_,zs,rfl,by omega,fun _ h=>h,by rw[←h0];exact h1,Keeps.refl _ _,fun _ h=>h⟩
 ·obtain⟨g,off,cap,rfl,hc,_,_⟩:=h.cell (by omega)
  have:=Tryz.slices_Compact_int g off cap zs w (holds_ZQ rfl h) (by omega) hc
  refine this.mono ?_
  rintro e w' ⟨rfl,q,rfl⟩
  have hle:=compact_le zs
  obtain⟨p1,p2⟩:=ZQ.put (ys:=Lib.compact zs ++ List.replicate (zs.length - (Lib.compact zs).length) 0) rfl h (by simp;omega) q #[]
  rw[Go.Sort.grow_empty]at p1 p2
  have p3:=p1.take (Lib.compact zs).length hle
  rw[Nat.mul_one,←List.map_take,List.take_left]at p3
  exact⟨_,_,rfl,hle,fun x hx=>compact_mem hx,p3,Keeps.mono p2 (fun k _ hk=>hk▸rfl),fun k hk=>hk⟩
theorem run_eql_hop (w:World) (a b p q:Int):(binOp .eql 95 (.agg #[.int .i64 a, .int .i64 b]) (.agg #[.int .i64 p, .int .i64 q])).run Tryz.prog w= .ok (.bool (decide (a=p) && b == q)) w:=by
 have hf:Tryz.prog.underlying 95=some (.struct (Tryz.prog.fieldsOf 95)):=by simp only[Program.fieldsOf,Tryz.underlying95]
 have hs:Tryz.prog.stoodInHeld 95=false:=by kernel_rfl
 rw[run_eql_struct,run_equalIn_struct w 9999 95 _ _ hf hs]
 simp only[Program.fieldsOf,Tryz.underlying95]
 have h3:∀w:World,(sizeOf 3).run Tryz.prog w= .ok 1 w:=fun w=>by kernel_rfl
 have e3:∀(d:Nat) (x y:Int) (w:World),(Op.equalIn (d+1) 3 (.int .i64 x) (.int .i64 y)).run Tryz.prog w= .ok (x == y) w:=fun d x y w=>run_equalIn_int w d 3 .i64 .i64 x y Tryz.underlying3
 have e4:=e3 9998
 simp[Op.eqFields,Go.part,h3,e4]
 by_cases h1:a=p <;>by_cases h2:b=q <;>simp[h1,h2]
set_option maxHeartbeats 2000000 in
theorem indexH_runs (H:List (Nat×Nat)) (Ha:Option Addr) (hc n:Nat) (hn:H.length=n) (a b:Nat) (w:World) (h:QS w 95 2 (.slice Ha n hc) n (ecells H)) (h30:H.length≤30):
  Calls Tryz.prog 190 #[.slice Ha n hc, .agg #[encI a,encI b]] w fun e w'=>
   ∃z:Int,e= .returned (.int .i64 z)∧((z= -1∧(a,b) ∉ H)∨∃i:Nat,z=(i:Int)∧i < n∧H[i]? =some (a,b))∧Keeps (fun _=>False) w w':=by
 subst hn
 go_enter Tryz.func190,Tryz.ntmps190
 go_wp2_with fail
 have hk0:Keeps (fun _=>False) w (w.alloc (.cells #[encI a,encI b] 95)):=Keeps.alloc _ _ _
 have hP:=blk_new w (.cells #[encI a,encI b] 95)
 generalize hb2:w.heap.size=b2 at hP ⊢
 generalize w.alloc (.cells #[encI a,encI b] 95)=X at hk0 hP ⊢
 have x0:X.cell? ⟨b2,0,none⟩=some (encI a):=by rw[blk_cell hP];rfl
 have x1:X.cell? ⟨b2,1,none⟩=some (encI b):=by rw[blk_cell hP];rfl
 have HK0:=Lib.hid hk0
 have hX:=h.keeps hk0 (fun _ _ h=>h)
 clear h
 go_loopw [8] (fun s wr=>∃i nq:Nat,i≤H.length∧s= .int .i64 (i:Int)∧wr=X.drewN nq∧(a,b) ∉ H.take i) (fun s _=>H.length - (intOf s).toNat)
 case atStart=>exact⟨0,0,Nat.zero_le _,rfl,rfl,by simp⟩
 case round=>
  obtain⟨i,nq,hi,rfl,rfl,hno⟩:=hrel
  by_cases hil:i < H.length
  ·have hii:(i:Int) < (H.length:Int):=by omega
   have hi0:(0:Int)≤(i:Int):=by omega
   obtain⟨g,off,c,e',_,hcell,_⟩:=hX.cell (by omega)
   injection e' with e1 _ e2
   subst e1 e2
   obtain⟨c1,c2⟩:=ecells_two H i hil
   have y1:=hcell _ _ c1
   have y2:=hcell _ _ c2
   rw[←Nat.add_assoc]at y2
   have hat:H[i]? =some H[i]:=List.getElem?_eq_getElem hil
   have hst:H.take (i+1)=H.take i ++ [H[i]]:=List.take_succ_eq_append_getElem hil
   have HAT:=Lib.hid hat
   have HST:=Lib.hid hst
   have HNO:=Lib.hid hno
   clear hcell c1 c2 hP hno hat hst hk0 hX
   generalize H[i]=e at*
   obtain⟨p,q⟩:=e
   simp only at y1 y2
   by_cases hab:p=a∧q=b
   ·obtain⟨rfl,rfl⟩:=hab
    have hr:∀w,(binOp .eql 95 (.agg #[encI p,encI q]) (.agg #[encI p,encI q])).run Tryz.prog w= .ok (.bool true) w:=fun w=>by
     rw[run_eql_hop];simp
    go_wp2_with fail
    go_quiet (fail)
    go_wp2_with fail
    go_ret
    exact⟨i,rfl, .inr ⟨i,rfl,hil,HAT.out⟩,(HK0.out.trans (Keeps.drewN _ _ _)).trans (Keeps.drewN _ _ _)⟩
   ·have hr:∀w,(binOp .eql 95 (.agg #[encI a,encI b]) (.agg #[encI p,encI q])).run Tryz.prog w= .ok (.bool false) w:=fun w=>by
     rw[run_eql_hop]
     by_cases h1:(a:Int)=(p:Int)
     ·have:((b:Int) == (q:Int))=false:=by rw[beq_eq_false_iff_ne];intro h2;exact hab ⟨by omega,by omega⟩
      rw[this,Bool.and_false]
     ·rw[decide_eq_false h1,Bool.false_and]
    have HAB:=Lib.hid hab
    clear hab
    go_wp2_with fail
    go_quiet (fail)
    go_wp2_with fail
    go_roundw
    case rel=>exact⟨i+1,_,by omega,by simp,rfl,by rw[HST.out,List.mem_append,List.mem_singleton];exact fun h=>h.elim HNO.out (fun h=>HAB.out ⟨(Prod.mk.inj h).1.symm,(Prod.mk.inj h).2.symm⟩)⟩
    case measure=>simp[intOf];omega
  ·obtain rfl:i=H.length:=by omega
   have hii:¬(H.length:Int) < (H.length:Int):=by omega
   rw[List.take_length]at hno
   have HNO:=Lib.hid hno
   clear hno
   go_wp2_with fail
   go_ret
   exact⟨-1,rfl, .inl ⟨rfl,HNO.out⟩,HK0.out.trans (Keeps.drewN _ _ _)⟩
end Go.Proofs.YtebnflpanfmicaaGreatDoor
namespace Go.Proofs.YtebnflpanfmicaaGreatDoor
open Go.RowKit
def arrives (t:List Nat) (x:Nat):Nat→Nat→Bool
 | 0,v=>decide (v=x)
 | k+1,v=>decide (v=x) || (decide (nxt t v x∈nb t v) && decide (nxt t v x≤t.length) && arrives t x k (nxt t v x))
theorem arrives_all:allT (fun t v x=>arrives t x t.length v)=true:=by decide+kernel
theorem arrives_one {t:List Nat} {x k v:Nat} (h:arrives t x k v=true) (hne:v≠x):∃k',k=k'+1∧nxt t v x∈nb t v∧nxt t v x≤t.length∧arrives t x k' (nxt t v x)=true:=by
 cases k with
 | zero=>simp[arrives]at h;exact absurd h hne
 | succ k=>
   simp[arrives,hne]at h
   exact⟨k,rfl,h.1.1,h.1.2,h.2⟩
def rk (t:List Nat) (h:Nat×Nat):Nat:=((List.range (t.length+1)).filter fun x=>decide (x≠h.1) && decide (nxt t h.1 x=h.2)).length
theorem rk_all:allT (fun t u x=>if x=u∨x=nxt t u x then true else decide (rk t (nxt t u x,nxt t (nxt t u x) x) < rk t (u,nxt t u x)))=true:=by decide+kernel
theorem rk_less {t:List Nat} (ht:Tree t) (h5:t.length≤5) {u v x:Nat} (hu:u≤t.length) (hx:x≤t.length) (h1:x≠u) (h2:x≠v) (h3:nxt t u x=v):rk t (v,nxt t v x) < rk t (u,v):=by
 have:=allT_at rk_all ht h5 hu hx
 rw[h3,if_neg (fun h=>h.elim h1 h2)]at this
 exact of_decide_eq_true this
end Go.Proofs.YtebnflpanfmicaaGreatDoor
namespace Go.Proofs.YtebnflpanfmicaaGreatDoor
open Go.RowKit
theorem nxtAt (t:List Nat) (v x:Nat) (hx:x≤t.length):((trowOf t v).map encI)[x]? =some (encI (nxt t v x)):=by
 unfold trowOf
 rw[List.map_map,List.getElem?_map,List.getElem?_range (by omega)];rfl
theorem PlanS.hop {w wr:World} {S:Nat→Prop} {p:Nums} {t ws:List Nat} {e wt nx:Value} (h:PlanS w S p t ws e wt nx) (hk:Keeps (fun _=>False) w wr) {v x:Nat} (hv:v≤t.length) (hx:x≤t.length):
  ∃g off c g2 off2 c2,nx= .slice (some ⟨g,off,none⟩) (t.length+1) c∧wr.cell? ⟨g,off+v,none⟩=some (.slice (some ⟨g2,off2,none⟩) (t.length+1) c2)∧wr.cell? ⟨g2,off2+x,none⟩=some (encI (nxt t v x)):=by
 obtain⟨vs,h1,h2,h3,h4⟩:=(h.keeps hk (fun _ _ h=>h)).nq
 obtain⟨g,off,c,e1,_,hc,_⟩:=h1.cell (by omega)
 have hv1:vs[v]? =some vs[v]:=List.getElem?_eq_getElem (by omega)
 have hr:=h3 v _ hv1
 have hrl:(trowOf t v).length=t.length+1:=rowOf_length t v
 unfold NQ at hr
 rw[hrl]at hr
 obtain⟨g2,off2,c2,e2,_,hc2,_⟩:=hr.cell (by omega)
 refine⟨g,off,c,g2,off2,c2,e1,by rw[←e2];exact hc v _ hv1, ?_⟩
 exact hc2 x _ (nxtAt t v x hx)
def lenOf:Value→Nat
 | .slice _ n _=>n
 | _=>0
set_option maxRecDepth 100000 in
set_option maxHeartbeats 8000000 in
theorem path_runs {w:World} {S:Nat→Prop} {p:Nums} {t ws:List Nat} {e wt nx:Value} (h:PlanS w S p t ws e wt nx) (v x:Nat) (hv:v≤t.length) (hx:x≤t.length):
  Calls Tryz.prog 73 #[planV p t e wt nx, .int .i64 v, .int .i64 x] w fun e' w'=>∃u,e'= .returned (.tuple #[u, .bool true])∧Keeps (fun _=>False) w w':=by
 obtain⟨⟨Ea,ec,rfl⟩,⟨Wa,wc,rfl⟩,⟨Na,nc,rfl⟩⟩:=h.shapes
 obtain⟨lanes,room,queue,rounds,every,bag,start⟩:=p
 have BES:Hid (∀U,Keeps (fun _=>False) w U→∀v,v≤t.length→_):=Lib.hid fun U hU v hv=>beside_runs (h.keeps hU (fun _ _ h=>h)) v hv
 have NXT:Hid (∀U,Keeps (fun _=>False) w U→∀v,v≤t.length→_):=Lib.hid fun U hU v hv=>h.hop hU (v:=v) hv hx
 have HT:=Lib.hid h.tree
 have h5:=h.t5
 have HR:=Lib.hid (allT_at arrives_all h.tree h.t5 hv hx)
 clear h
 unfold planV Nums.plan at BES ⊢
 go_enter Tryz.func73,Tryz.ntmps73
 go_wp2_with fail
 have hk0:Keeps (fun _=>False) w (w.alloc (.cells #[.int .i64 ((t.length:Int)+1), .slice Ea t.length ec, .int .i64 lanes, .int .i64 room, .int .i64 queue, .int .i64 rounds, .int .i64 every, .int .i64 bag, .slice Wa ws.length wc, .int .u16 start, .slice Na (t.length+1) nc] 38)):=Keeps.alloc _ _ _
 have hbx:PBox (w.alloc (.cells #[.int .i64 ((t.length:Int)+1), .slice Ea t.length ec, .int .i64 lanes, .int .i64 room, .int .i64 queue, .int .i64 rounds, .int .i64 every, .int .i64 bag, .slice Wa ws.length wc, .int .u16 start, .slice Na (t.length+1) nc] 38)) w.heap.size #[.int .i64 ((t.length:Int)+1), .slice Ea t.length ec, .int .i64 lanes, .int .i64 room, .int .i64 queue, .int .i64 rounds, .int .i64 every, .int .i64 bag, .slice Wa ws.length wc, .int .u16 start, .slice Na (t.length+1) nc]:=blk_new _ _
 have hXs:(w.alloc (.cells #[.int .i64 ((t.length:Int)+1), .slice Ea t.length ec, .int .i64 lanes, .int .i64 room, .int .i64 queue, .int .i64 rounds, .int .i64 every, .int .i64 bag, .slice Wa ws.length wc, .int .u16 start, .slice Na (t.length+1) nc] 38)).heap.size=w.heap.size+1:=by simp
 generalize w.alloc (.cells #[.int .i64 ((t.length:Int)+1), .slice Ea t.length ec, .int .i64 lanes, .int .i64 room, .int .i64 queue, .int .i64 rounds, .int .i64 every, .int .i64 bag, .slice Wa ws.length wc, .int .u16 start, .slice Na (t.length+1) nc] 38)=X at*
 obtain⟨B0,hB0⟩:∃B,w.heap.size=B:=⟨_,rfl⟩
 rw[hB0]at hbx hXs ⊢
 clear hB0
 have HBX:=Lib.hid hbx
 clear hbx
 have hq0:QS (X.alloc (.cells #[.int .i64 v] 3)) 3 1 (.slice (some ⟨B0+1,0,none⟩) 1 1) 1 [encI v]:=hXs▸QS.made X 3 [encI v] 1 rfl (by decide)
 have HXS:=Lib.hid hXs
 have hk1:Keeps (fun _=>False) X (X.alloc (.cells #[.int .i64 v] 3)):=Keeps.alloc _ _ _
 go_loopw [1,8] (fun s l wr=>∃(v' k L:Nat) (A:Option Addr) (c:Nat) (xs:List Nat),s= .int .i64 (v':Int)∧v'≤t.length∧arrives t x k v'=true∧L+k=t.length+1∧l= .slice A L c∧QS wr 3 1 (.slice A L c) L (xs.map encI)∧Keeps (fun _=>False) X wr∧∀g,(Value.slice A L c).ownBlock=some g→X.heap.size≤g) (fun _ l _=>t.length+2 - lenOf l)
 case atStart=>exact⟨v,t.length,1,_,1,[v],rfl,hv,HR.out,by omega,rfl,hq0,hk1,fun g hg=>(by cases hg;exact Nat.le_of_eq HXS.out)⟩
 case round=>
  clear hq0 hk1 HR hXs
  obtain⟨v',k,L,A,c,xs,rfl,hv',har,hL,rfl,hq,hk,ho⟩:=hrel
  by_cases hvx:v'=x
  ·subst hvx
   have hb:((v':Int) == (v':Int))=true:=by simp
   have HK:=Lib.hid (hk0.trans hk)
   clear hk hq ho
   go_wp2_with fail
   go_ret2
   exact⟨_,rfl,HK.out⟩
  ·obtain⟨k',rfl,hin,hle,har'⟩:=arrives_one har hvx
   have hb:((v':Int) == (x:Int))=false:=by rw[beq_eq_false_iff_ne];omega
   have hb2:((L:Int) == (t.length:Int)+1)=false:=by rw[beq_eq_false_iff_ne];omega
   obtain⟨y0,y1,y2,y3,y4,y5,y6,y7,y8,y9,y10,yf⟩:=(HBX.out.kept hk).all
   obtain⟨g,off,c1,g2,off2,c2,e1,z1,z2⟩:=NXT.out wr (hk0.trans hk) v' hv'
   injection e1 with e1 _ e2
   subst e1 e2
   have HBS:=Lib.hid (BES.out wr (hk0.trans hk) v' hv')
   have hn5:=(nb_rises HT.out h5 (v:=v') hv').2.2.1
   have hdec:decide (nxt t v' x∈nb t v')=true:=decide_eq_true hin
   have HX:=Lib.hid (p:=∀u U,NQ U u (nb t v')→_) fun u U hU=>contains_runs u (nb t v') (nxt t v' x) U hU (by omega)
   have HAR:=Lib.hid har'
   have HQ:=Lib.hid hq
   have HO:=Lib.hid ho
   have HK:=Lib.hid hk
   rw[hdec]at HX
   generalize nxt t v' x=y at*
   generalize nb t v'=R at*
   have hvi:(v':Int) < (t.length:Int)+1:=by omega
   have hv0:(0:Int)≤(v':Int):=by omega
   have hxi:(x:Int) < (t.length:Int)+1:=by omega
   have hx0:(0:Int)≤(x:Int):=by omega
   have HVX:=Lib.hid hvx
   clear hq ho hk hin hdec har har' hvx
   go_wp2_with fail
   refine HBS.out.mono ?_
   rintro e' U ⟨A1,c1,rfl,hR,hkU,hoR⟩
   have HC:=Lib.hid (HX.out _ _ hR)
   have HKU:=Lib.hid hkU
   clear hkU hoR hR HX HBS y0 y1 y2 y3 y4 y5 y6 y7 y8 y9 y10 yf z1 z2
   go_wp2_with fail
   refine HC.out.mono ?_
   rintro e' U' ⟨rfl,hw⟩
   subst hw
   have h8:0 < 8:=by decide
   have hb8:(L+1)*8≤140737488355328:=by omega
   have hQ2:∀o,QS (U.alloc o) 3 1 (.slice A L c) L (xs.map encI):=fun o=>(HQ.out.keeps HKU.out (fun _ _ h=>h)).alloc o
   have hS2:Src Tryz.prog 1 35 (.slice (some ⟨U.heap.size,0,none⟩) 1 1) 1 [encI y] (U.alloc (.cells #[encI y] 3)):=
    src_blk Tryz.underlying35 (blk_new _ _) rfl (by intro jj hjj';match jj,hjj' with | 0,_=>rfl) (by intro u hu;simp at hu;rcases hu with rfl;rfl)
   have HQ2:=Lib.hid hQ2
   have HS2:=Lib.hid hS2
   clear hQ2 hS2 HC
   go_wp2_with (at_builtin;refine wpList_append_QS rfl (.tmp 36) (.tmp 38) 35 35 rfl 3 _ 1 8 Tryz.underlying35 info_i rfl _ L _ rfl (HQ2.out _) _ 1 _ rfl HS2.out h8 hb8 ?_;intro A3 c3 w1 hq1 hg1 ho1)
   go_roundw
   case rel=>
    have hkk:Keeps (fun g=>(Value.slice A L c).ownBlock=some g) U w1:=(Keeps.alloc _ _ _).trans (Keeps.grown hg1 (fun i h=>h))
    have hXU:=HK.out.trans HKU.out
    refine⟨y,k',L+1,A3,c3,xs ++ [y],rfl,hle,HAR.out,by omega,rfl,by rw[List.map_append];exact hq1,hXU.then hkk (fun i hi h=>by have:=HO.out i h;omega),fun g hg=> ?_⟩
    have hsz:=hXU.size
    rcases ho1 with h | ⟨b',h,hb'⟩
    ·exact HO.out g (h▸hg)
    ·rw[hg]at h;cases h
     rw[World.size_alloc]at hb'
     omega
   case measure=>simp[lenOf];omega
end Go.Proofs.YtebnflpanfmicaaGreatDoor
namespace Go.Proofs.YtebnflpanfmicaaGreatDoor
open Go.RowKit
def Below1 (t:List Nat) (H:List (Nat×Nat)) (r z:Nat):Prop:=z < H.length∧∃h,H[z]? =some h∧rk t h < r
set_option maxRecDepth 100000 in
set_option maxHeartbeats 16000000 in
theorem after_runs {w:World} {S:Nat→Prop} {p:Nums} {t ws:List Nat} {e wt nx:Value} (h:PlanS w S p t ws e wt nx) (a b:Nat) (ha:a≤t.length) (hb:b≤t.length) (H:List (Nat×Nat)) (n:Nat) (hn:H.length=n) (h30:n≤30) (Ha:Option Addr) (hc:Nat) (hH:QS w 95 2 (.slice Ha n hc) n (ecells H)):
  Calls Tryz.prog 138 #[planV p t e wt nx, .agg #[encI a,encI b], .slice Ha n hc] w fun e' w'=>
   ∃(u:Value) (ys:List Int),e'= .returned u∧ZQ w' u ys∧ys.length≤6∧(∀y∈ys,∃z:Nat,y=(z:Int)∧Below1 t H (rk t (a,b)) z)∧Keeps (fun _=>False) w w'∧∀k,u.ownBlock=some k→w.heap.size≤k:=by
 obtain⟨⟨Ea,ec,rfl⟩,⟨Wa,wc,rfl⟩,⟨Na,nc,rfl⟩⟩:=h.shapes
 obtain⟨lanes,room,queue,rounds,every,bag,start⟩:=p
 have NXA:Hid (∀U,Keeps (fun _=>False) w U→∀x,x≤t.length→_):=Lib.hid fun U hU x hx=>h.hop hU (v:=a) ha hx
 have NXB:Hid (∀U,Keeps (fun _=>False) w U→∀x,x≤t.length→_):=Lib.hid fun U hU x hx=>h.hop hU (v:=b) hb hx
 have IX:Hid (∀U,Keeps (fun _=>False) w U→∀y:Nat,_):=Lib.hid fun U hU y=>indexH_runs H Ha hc n hn b y U (hH.keeps hU (fun _ _ h=>h)) (by omega)
 have HT:=Lib.hid h.tree
 have h5:=h.t5
 clear h hH
 unfold planV Nums.plan
 go_enter Tryz.func138,Tryz.ntmps138
 go_wp2_with fail
 have hk0:Keeps (fun _=>False) w ((w.alloc (.cells #[.int .i64 ((t.length:Int)+1), .slice Ea t.length ec, .int .i64 lanes, .int .i64 room, .int .i64 queue, .int .i64 rounds, .int .i64 every, .int .i64 bag, .slice Wa ws.length wc, .int .u16 start, .slice Na (t.length+1) nc] 38)).alloc (.cells #[encI a,encI b] 95)):=(Keeps.alloc _ _ _).trans (Keeps.alloc _ _ _)
 have hbx:PBox ((w.alloc (.cells #[.int .i64 ((t.length:Int)+1), .slice Ea t.length ec, .int .i64 lanes, .int .i64 room, .int .i64 queue, .int .i64 rounds, .int .i64 every, .int .i64 bag, .slice Wa ws.length wc, .int .u16 start, .slice Na (t.length+1) nc] 38)).alloc (.cells #[encI a,encI b] 95)) w.heap.size #[.int .i64 ((t.length:Int)+1), .slice Ea t.length ec, .int .i64 lanes, .int .i64 room, .int .i64 queue, .int .i64 rounds, .int .i64 every, .int .i64 bag, .slice Wa ws.length wc, .int .u16 start, .slice Na (t.length+1) nc]:=blk_alloc (blk_new _ _) _
 have hbh:=blk_new (w.alloc (.cells #[.int .i64 ((t.length:Int)+1), .slice Ea t.length ec, .int .i64 lanes, .int .i64 room, .int .i64 queue, .int .i64 rounds, .int .i64 every, .int .i64 bag, .slice Wa ws.length wc, .int .u16 start, .slice Na (t.length+1) nc] 38)) (.cells #[encI a,encI b] 95)
 rw[World.size_alloc]at hbh
 generalize (w.alloc (.cells #[.int .i64 ((t.length:Int)+1), .slice Ea t.length ec, .int .i64 lanes, .int .i64 room, .int .i64 queue, .int .i64 rounds, .int .i64 every, .int .i64 bag, .slice Wa ws.length wc, .int .u16 start, .slice Na (t.length+1) nc] 38)).alloc (.cells #[encI a,encI b] 95)=X at*
 obtain⟨B0,hB0⟩:∃B,w.heap.size=B:=⟨_,rfl⟩
 have hBX:B0≤X.heap.size:=hB0▸hk0.size
 have HB0:=Lib.hid hB0
 rw[hB0]at hbx hbh ⊢
 clear hB0
 have x10:=hbx.all.2.2.2.2.2.2.2.2.2.2.1
 have x0:=hbx.all.1
 have h0:X.cell? ⟨B0+1,0,none⟩=some (encI a):=by rw[blk_cell hbh];rfl
 have h1:X.cell? ⟨B0+1,1,none⟩=some (encI b):=by rw[blk_cell hbh];rfl
 clear hbx hbh
 have HX:=Lib.hid (p:=∀U,Keeps (fun _=>False) X U→U.cell? ⟨B0,10,none⟩=some (.slice Na (t.length+1) nc)∧U.cell? ⟨B0+1,0,none⟩=some (encI a)∧U.cell? ⟨B0+1,1,none⟩=some (encI b)) fun U hU=>⟨hU.cell x10 (fun h=>h),hU.cell h0 (fun h=>h),hU.cell h1 (fun h=>h)⟩
 clear x10 h0 h1
 go_wp2_with fail
 clear x0
 go_loopw [7,12] (fun l s wr=>∃(i:Nat) (A:Option Addr) (c:Nat) (zs:List Nat),i≤t.length+1∧s= .int .i64 (i:Int)∧l= .slice A zs.length c∧NQ wr (.slice A zs.length c) zs∧zs.length≤i∧(∀z∈zs,Below1 t H (rk t (a,b)) z)∧Keeps (fun _=>False) X wr∧∀g,(Value.slice A zs.length c).ownBlock=some g→X.heap.size≤g) (fun _ s _=>t.length+1 - (intOf s).toNat)
 case atStart=>exact⟨0,none,0,[],Nat.zero_le _,rfl,rfl,QS.nil _ _ _,Nat.le_refl _,fun z hz=>absurd hz (by simp),Keeps.refl _ _,fun g hg=>(by cases hg)⟩
 case round=>
  obtain⟨i,A,c,zs,hi,rfl,rfl,hq,hzl,hgood,hk,ho⟩:=hrel
  by_cases hil:i < t.length+1
  ·have hii:(i:Int) < ((t.length+1:Nat):Int):=by omega
   have hii':(i:Int) < (t.length:Int)+1:=by omega
   have hi0:(0:Int)≤(i:Int):=by omega
   obtain⟨y10,g0,g1⟩:=HX.out wr hk
   have HQ:=Lib.hid hq
   have HO:=Lib.hid ho
   have HK:=Lib.hid hk
   have HG:=Lib.hid hgood
   clear hq ho hgood
   by_cases hia:i=a
   ·have b1:((i:Int) == (a:Int))=true:=by rw[beq_iff_eq];omega
    clear hia
    clear hk
    go_wp2_with fail
    go_quiet (fail)
    go_wp2_with fail
    go_roundw
    case rel=>exact⟨i+1,A,c,zs,by omega,by go_num,rfl,HQ.out.keeps (Keeps.drewN (fun _=>False) _ _) (fun _ _ h=>h),by omega,HG.out,HK.out.trans (Keeps.drewN _ _ _),HO.out⟩
    case measure=>simp[intOf];omega
   ·have b1:((i:Int) == (a:Int))=false:=by rw[beq_eq_false_iff_ne];omega
    by_cases hib:i=b
    ·have b2:((i:Int) == (b:Int))=true:=by rw[beq_iff_eq];omega
     have HIA:=Lib.hid hia
     clear hia hib
     clear hk
     go_wp2_with fail
     go_quiet (fail)
     go_wp2_with fail
     go_roundw
     case rel=>exact⟨i+1,A,c,zs,by omega,by go_num,rfl,HQ.out.keeps (Keeps.drewN (fun _=>False) _ _) (fun _ _ h=>h),by omega,HG.out,HK.out.trans (Keeps.drewN _ _ _),HO.out⟩
     case measure=>simp[intOf];omega
    ·have b2:((i:Int) == (b:Int))=false:=by rw[beq_eq_false_iff_ne];omega
     obtain⟨g,off,c1,g2,off2,c2,e1,z1,z2⟩:=NXA.out wr (hk0.trans hk) i (by omega)
     obtain⟨g',off',c1',g3,off3,c3,e1',z3,z4⟩:=NXB.out wr (hk0.trans hk) i (by omega)
     injection e1 with e1 _ e2
     subst e1 e2
     injection e1' with e1' _ e2'
     injection e1' with e1'
     injection e1' with e1' e3'
     subst e1' e3'
     clear e2'
     have hai:(a:Int) < (t.length:Int)+1:=by omega
     have ha0:(0:Int)≤(a:Int):=by omega
     have hbi:(b:Int) < (t.length:Int)+1:=by omega
     have hb0:(0:Int)≤(b:Int):=by omega
     by_cases hnx:nxt t a i=b
     ·have b3:((nxt t a i:Int) == (b:Int))=true:=by rw[beq_iff_eq];omega
      have hrk:=rk_less HT.out h5 (u:=a) (v:=b) (x:=i) (by omega) (by omega) hia hib hnx
      have HRK:=Lib.hid hrk
      have HH:=Lib.hid hnx
      generalize hy:nxt t a i=y at*
      generalize nxt t b i=y2 at*
      clear hia hib hnx hrk hy
      go_wp2_with fail
      go_quiet (fail)
      rename_i nq
      have hkV:Keeps (fun _=>False) wr (wr.drewN nq):=Keeps.drewN _ _ _
      have hq1:=hkV.cell z3 (fun h=>h)
      have hq2:=hkV.cell z4 (fun h=>h)
      have hkXV:=hk.trans hkV
      have HQV:=Lib.hid (HQ.out.keeps hkV (fun _ _ h=>h))
      generalize wr.drewN nq=V at*
      have HS:=Lib.hid (p:=∀U,Keeps (fun _=>False) V U→U.cell? ⟨B0,10,none⟩=some (.slice (some ⟨g,off,none⟩) (t.length+1) nc)∧U.cell? ⟨B0+1,1,none⟩=some (encI b)∧U.cell? ⟨g,off+b,none⟩=some (.slice (some ⟨g3,off3,none⟩) (t.length+1) c3)∧U.cell? ⟨g3,off3+i,none⟩=some (encI y2)) fun U hU=>⟨(HX.out U (hkXV.trans hU)).1,(HX.out U (hkXV.trans hU)).2.2,hU.cell hq1 (fun h=>h),hU.cell hq2 (fun h=>h)⟩
      obtain⟨s1,s2,s3,s4⟩:=HS.out V (Keeps.refl _ _)
      have hd:Keeps (fun _=>False) V V.drew:=Keeps.drew _ _
      have HIX:=Lib.hid (p:=∀U,Keeps (fun _=>False) V U→_) fun U hU=>IX.out U (hk0.trans (hkXV.trans hU)) y2
      have HKV:=Lib.hid hkXV
      clear hk z1 z2 z3 z4 hkV hq1 hq2 hkXV y10 g0 g1
      go_wp2_with fail
      trace_state
      go_region_held3 (fun U=>U.cell? ⟨B0,10,none⟩=some (.slice (some ⟨g,off,none⟩) (t.length+1) nc)∧U.cell? ⟨B0+1,1,none⟩=some (encI b)∧U.cell? ⟨g,off+b,none⟩=some (.slice (some ⟨g3,off3,none⟩) (t.length+1) c3)∧U.cell? ⟨g3,off3+i,none⟩=some (encI y2))
       (with_reducible first | exact HS.out _ hd | exact HS.out _ hW | go_keep)
       (first | (go_at_call 190;refine(HIX.out _ hd).mono ?_;rintro e' U ⟨z,rfl,hz,hU⟩;have hW:=hd.trans hU))
      have HKU:=Lib.hid (HKV.out.trans hW)
      have HQU:=Lib.hid (HQV.out.keeps hW (fun _ _ h=>h))
      clear hU hW hd s1 s2 s3 s4 HIX HS
      rcases hz with⟨rfl,_⟩ | ⟨j,rfl,hj,hHj⟩
      ·go_wp2_with fail
       go_roundw
       case rel=>exact⟨i+1,A,c,zs,by omega,by go_num,rfl,HQU.out,by omega,HG.out,HKU.out,HO.out⟩
       case measure=>simp[intOf];omega
      ·have HJ:=Lib.hid hHj
       clear hHj
       have hj0:(0:Int)≤(j:Int):=by omega
       have h8:0 < 8:=by decide
       have hb8:(zs.length+1)*8≤140737488355328:=by omega
       have hQ2:∀o,QS (U.alloc o) 3 1 (.slice A zs.length c) zs.length (zs.map encI):=fun o=>QS.alloc HQU.out o
       have hS2:Src Tryz.prog 1 35 (.slice (some ⟨U.heap.size,0,none⟩) 1 1) 1 [.int .i64 (j:Int)] (U.alloc (.cells #[.int .i64 (j:Int)] 3)):=
        src_blk Tryz.underlying35 (blk_new _ _) rfl (by intro jj hjj';match jj,hjj' with | 0,_=>rfl) (by intro u hu;simp at hu;rcases hu with rfl;rfl)
       have HQ2:=Lib.hid hQ2
       have HS2:=Lib.hid hS2
       clear hQ2 hS2
       go_wp2_with (at_builtin;refine wpList_append_QS rfl (.tmp 55) (.tmp 57) 35 35 rfl 3 _ 1 8 Tryz.underlying35 info_i rfl _ zs.length _ rfl (HQ2.out _) _ 1 _ rfl HS2.out h8 hb8 ?_;intro A3 c3 w1 hq1 hg1 ho1)
       go_roundw
       case rel=>
        have hkk:Keeps (fun g=>(Value.slice A zs.length c).ownBlock=some g) U w1:=(Keeps.alloc _ _ _).trans (Keeps.grown hg1 (fun i h=>h))
        have hl:(zs ++ [j]).length=zs.length+1:=by simp
        refine⟨i+1,A3,c3,zs ++ [j],by omega,by go_num,by rw[hl], ?_,by rw[hl];omega, ?_,HKU.out.then hkk (fun i hi h=>by have:=HO.out i h;omega), ?_⟩
        ·unfold NQ;rw[hl,List.map_append];exact hq1
        ·intro z hz
         rcases List.mem_append.1 hz with h | h
         ·exact HG.out z h
         ·rw[List.mem_singleton]at h
          subst h
          exact⟨by omega,_,HJ.out,HRK.out⟩
        ·rw[hl]
         intro g hg
         have hsz:=HKU.out.size
         rcases ho1 with h | ⟨b',h,hb'⟩
         ·exact HO.out g (h▸hg)
         ·rw[hg]at h;cases h
          rw[World.size_alloc]at hb'
          omega
       case measure=>simp[intOf];omega
     ·have b3:((nxt t a i:Int) == (b:Int))=false:=by rw[beq_eq_false_iff_ne];omega
      have HH:=Lib.hid (And.intro hia (And.intro hib hnx))
      generalize nxt t a i=y at*
      generalize nxt t b i=y2 at*
      clear hia hib hnx
      clear hk
      go_wp2_with fail
      go_quiet (fail)
      go_wp2_with fail
      go_roundw
      case rel=>exact⟨i+1,A,c,zs,by omega,by go_num,rfl,HQ.out.keeps (Keeps.drewN (fun _=>False) _ _) (fun _ _ h=>h),by omega,HG.out,HK.out.trans (Keeps.drewN _ _ _),HO.out⟩
      case measure=>simp[intOf];omega
  ·obtain rfl:i=t.length+1:=by omega
   have hii:¬((t.length+1:Nat):Int) < (t.length:Int)+1:=by omega
   have hz0:ZQ wr (.slice A zs.length c) (zs.map Int.ofNat):=by
    unfold ZQ;rw[List.length_map,List.map_map];exact hq
   have CS:=Lib.hid (sortI_runs _ _ wr hz0 (by rw[List.length_map];omega))
   have HO:=Lib.hid ho
   have HK:=Lib.hid (hk0.trans hk)
   have HK1:=Lib.hid hk
   have HG:=Lib.hid hgood
   clear hq ho hk hgood hz0
   go_wp2_with fail
   refine CS.out.mono ?_
   rintro e' U ⟨rfl,ys,hyl,hym,hyq,hyk⟩
   have CC:=Lib.hid (compactI_runs _ ys U hyq (by rw[hyl,List.length_map];omega))
   have HYM:=Lib.hid hym
   have HYK:=Lib.hid hyk
   rw[List.length_map]at hyl
   clear hym hyq hyk CS
   go_wp2_with fail
   refine CC.out.mono ?_
   rintro e' U2 ⟨u,qs,rfl,hql,hqm,hqq,hqk,hqo⟩
   have HF:=Lib.hid (And.intro hqm (And.intro hqq (And.intro hqk hqo)))
   clear hqm hqq hqk hqo CC
   go_wp2_with fail
   go_ret
   obtain⟨hqm,hqq,hqk,hqo⟩:=HF.out
   have hB:=HB0.out
   have hXw:=HK1.out.size
   have k1:Keeps (fun _=>False) w U:=HK.out.then HYK.out (fun i hi h=>by have:=HO.out i h;omega)
   refine⟨u,qs,rfl,hqq,by omega,fun y hy=> ?_,k1.then hqk (fun i hi h=>by have:=HO.out i h;omega),fun k hk=>by have:=HO.out k (hqo k hk);omega⟩
   obtain⟨z,hz,rfl⟩:=List.mem_map.1 (HYM.out y (hqm y hy))
   exact⟨z,rfl,HG.out z hz⟩
end Go.Proofs.YtebnflpanfmicaaGreatDoor
