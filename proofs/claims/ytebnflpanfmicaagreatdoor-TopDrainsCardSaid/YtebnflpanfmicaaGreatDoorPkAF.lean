/-
  Part 6 of the proof: TopPool.
-/
import Derived.Test.YtebnflpanfmicaaGreatDoorPkAE
import Derived.Test.YtebnflpanfmicaaGreatDoorPkAC
import Derived.Deep.RegionHeld3
import Derived.Deep.OwnRows
set_option linter.unusedVariables false
set_option linter.unusedSimpArgs false
set_option linter.unusedSectionVars false
namespace Go.Proofs.YtebnflpanfmicaaGreatDoor
open Go.RowKit
abbrev RawSlot:=Option Nat×Int
abbrev rawPtr (r:RawSlot):Value:= .pointer (r.1.map fun b=>⟨b,0,none⟩)
def rawCells (l:List RawSlot):List Value:=l.flatMap fun r=>[rawPtr r, .int .i64 r.2]
theorem rawCells_length (l:List RawSlot):(rawCells l).length=l.length*2:=by
 unfold rawCells
 induction l with
 | nil=>rfl
 | cons x l ih=>simp only[List.flatMap_cons,List.length_append,ih,List.length_cons,List.length_nil];omega
theorem rawCells_at:∀(l:List RawSlot) (i:Nat) (h:i < l.length),(rawCells l)[i*2]? =some (rawPtr l[i])∧(rawCells l)[i*2+1]? =some (.int .i64 l[i].2)
 | x :: l,0,_=>⟨rfl,rfl⟩
 | x :: l,i+1,h=>by
   obtain⟨h1,h2⟩:=rawCells_at l i (by simpa using h)
   have e1:(rawCells (x :: l))[(i+1)*2]? =(rawCells l)[i*2]? :=by
    rw[show(i+1)*2=i*2+2 by omega];rfl
   have e2:(rawCells (x :: l))[(i+1)*2+1]? =(rawCells l)[i*2+1]? :=by
    rw[show(i+1)*2+1=i*2+1+2 by omega];rfl
   rw[e1,e2];exact⟨h1,h2⟩
theorem rawCells_ptr:∀(l:List RawSlot) (i:Nat) (h:i < l.length) (p:Option Nat),(rawCells l).set (i*2) (.pointer (p.map fun b=>⟨b,0,none⟩))=rawCells (l.set i (p,l[i].2))
 | x :: l,0,_,p=>rfl
 | x :: l,i+1,h,p=>by
   have ih:=rawCells_ptr l i (by simpa using h) p
   rw[show(i+1)*2=i*2+1+1 by omega]
   show rawPtr x :: Value.int .i64 x.2 :: ((rawCells l).set (i*2) _)=rawPtr x :: Value.int .i64 x.2 :: rawCells (l.set i (p,(l[i]'(by simpa using h)).2))
   rw[ih]
theorem rawCells_below:∀(l:List RawSlot) (i:Nat) (h:i < l.length) (z:Int),(rawCells l).set (i*2+1) (.int .i64 z)=rawCells (l.set i (l[i].1,z))
 | x :: l,0,_,z=>rfl
 | x :: l,i+1,h,z=>by
   have ih:=rawCells_below l i (by simpa using h) z
   rw[show(i+1)*2+1=i*2+1+1+1 by omega]
   show rawPtr x :: Value.int .i64 x.2 :: ((rawCells l).set (i*2+1) _)=rawPtr x :: Value.int .i64 x.2 :: rawCells (l.set i ((l[i]'(by simpa using h)).1,z))
   rw[ih]
structure PoolS where
 slots:List (Option Pkt×Int)
 top:Int
abbrev Slot:=Option Pkt×Int
def PktAt (w:World) (b:Nat) (x:Pkt):Prop:=w.heap[b]? =some (.cells x.cells.toArray 31 (0,0))
def SlotOk (w:World) (S:Nat→Prop) (b sb:Nat) (r:RawSlot) (s:Slot):Prop:=
 r.2=s.2∧((r.1=none∧s.1=none)∨∃pb x,r.1=some pb∧s.1=some x∧PktAt w pb x∧S pb∧pb≠b∧pb≠sb)
theorem SlotOk.keeps {w w':World} {S F:Nat→Prop} {b sb:Nat} {r:RawSlot} {s:Slot} (h:SlotOk w S b sb r s) (hk:Keeps F w w') (hF:∀k,S k→k≠b→k≠sb→¬F k):SlotOk w' S b sb r s:=by
 obtain⟨h1,h2⟩:=h
 refine⟨h1, ?_⟩
 rcases h2 with h2 | ⟨pb,x,h2,h3,h4,h5,h6,h7⟩
 ·exact .inl h2
 ·exact .inr ⟨pb,x,h2,h3,blk_keeps hk h4 (hF pb h5 h6 h7),h5,h6,h7⟩
theorem SlotOk.wider {w:World} {S S':Nat→Prop} {b sb:Nat} {r:RawSlot} {s:Slot} (h:SlotOk w S b sb r s) (hS:∀k,S k→S' k):SlotOk w S' b sb r s:=by
 obtain⟨h1,h2⟩:=h
 refine⟨h1, ?_⟩
 rcases h2 with h2 | ⟨pb,x,h2,h3,h4,h5,h6,h7⟩
 ·exact .inl h2
 ·exact .inr ⟨pb,x,h2,h3,h4,hS _ h5,h6,h7⟩
structure PoolR (w:World) (S:Nat→Prop) (b sb:Nat) (raw:List RawSlot) (free:Int) (st:PoolS):Prop where
 box:w.heap[b]? =some (.cells #[.slice (some ⟨sb,0,none⟩) raw.length raw.length, .int .i64 st.top, .int .i64 free] 298 (0,0))
 row:w.heap[sb]? =some (.cells (rawCells raw).toArray 301 (0,0))
 len:raw.length=st.slots.length
 ok:∀(i:Nat) r s,raw[i]? =some r→st.slots[i]? =some s→SlotOk w S b sb r s
 ne:b≠sb
 own:S b
 ownR:S sb
 small:raw.length≤200
 lt:∀k,S k→k < w.heap.size
def PoolV (w:World) (S:Nat→Prop) (b:Nat) (st:PoolS):Prop:=∃sb raw free,PoolR w S b sb raw free st
theorem PoolR.keeps {w w':World} {S F:Nat→Prop} {b sb:Nat} {raw:List RawSlot} {free:Int} {st:PoolS} (h:PoolR w S b sb raw free st) (hk:Keeps F w w') (hF:∀k,S k→¬F k):PoolR w' S b sb raw free st:=
 ⟨blk_keeps hk h.box (hF _ h.own),blk_keeps hk h.row (hF _ h.ownR),h.len,fun i r s h1 h2=>(h.ok i r s h1 h2).keeps hk (fun k hk' _ _=>hF k hk'),h.ne,h.own,h.ownR,h.small,fun k hk'=>Nat.lt_of_lt_of_le (h.lt k hk') hk.size⟩
theorem PoolV.keeps {w w':World} {S F:Nat→Prop} {b:Nat} {st:PoolS} (h:PoolV w S b st) (hk:Keeps F w w') (hF:∀k,S k→¬F k):PoolV w' S b st:=by
 obtain⟨sb,raw,free,h⟩:=h
 exact⟨sb,raw,free,h.keeps hk hF⟩
theorem PoolR.wider {w:World} {S S':Nat→Prop} {b sb:Nat} {raw:List RawSlot} {free:Int} {st:PoolS} (h:PoolR w S b sb raw free st) (hS:∀k,S k→S' k) (hlt:∀k,S' k→k < w.heap.size):PoolR w S' b sb raw free st:=
 ⟨h.box,h.row,h.len,fun i r s h1 h2=>(h.ok i r s h1 h2).wider hS,h.ne,hS _ h.own,hS _ h.ownR,h.small,hlt⟩
theorem PoolR.lens {w:World} {S:Nat→Prop} {b sb:Nat} {raw:List RawSlot} {free:Int} {st:PoolS} (h:PoolR w S b sb raw free st):
  w.cell? ⟨b,0,none⟩=some (.slice (some ⟨sb,0,none⟩) raw.length raw.length)∧w.cell? ⟨b,1,none⟩=some (.int .i64 st.top)∧w.cell? ⟨b,2,none⟩=some (.int .i64 free):=by
 refine⟨?_, ?_, ?_⟩ <;>(rw[blk_cell h.box];rfl)
theorem PoolR.slot {w:World} {S:Nat→Prop} {b sb:Nat} {raw:List RawSlot} {free:Int} {st:PoolS} (h:PoolR w S b sb raw free st) (i:Nat) (hi:i < raw.length):
  w.cell? ⟨sb,i*2,none⟩=some (rawPtr raw[i])∧w.cell? ⟨sb,i*2+1,none⟩=some (.int .i64 raw[i].2):=by
 obtain⟨h1,h2⟩:=rawCells_at raw i hi
 refine⟨?_, ?_⟩ <;>(rw[blk_cell h.row];simpa)
def PoolS.ok (st:PoolS):Prop:=0 < st.slots.length∧ -1≤st.top∧st.top < st.slots.length∧∀s∈st.slots, -1≤s.2∧s.2 < st.slots.length
def more (S:Nat→Prop) (w w':World):Nat→Prop:=fun k=>S k∨(w.heap.size≤k∧k < w'.heap.size)
def slotAt (st:PoolS) (i:Int):Option (Nat×Pkt):=
 if i < 0 then none else match st.slots[i.toNat]? with
  | some (some x,_)=>some (i.toNat,x)
  | _=>none
set_option maxHeartbeats 1000000 in
theorem pat_runs (b sb:Nat) (raw:List RawSlot) (free:Int) (st:PoolS) (S:Nat→Prop) (w:World) (h:PoolR w S b sb raw free st) (i:Int):
  Calls Tryz.prog 244 #[.pointer (some ⟨b,0,none⟩), .int .i64 i] w fun e w'=>e= .returned (.pointer ((slotAt st i).map fun p=>⟨sb,p.1*2,none⟩))∧w=w':=by
 obtain⟨c0,c1,c2⟩:=h.lens
 have hsm:=h.small
 by_cases h0:i < 0
 ·have e:slotAt st i=none:=by simp[slotAt,h0]
  rw[e]
  clear h e
  go_enter Tryz.func244,Tryz.ntmps244
  go_wp2
  go_ret
  exact⟨rfl,rfl⟩
 obtain⟨k,rfl⟩:∃k:Nat,i=(k:Int):=⟨i.toNat,by omega⟩
 by_cases h1:k < raw.length
 ·obtain⟨d0,d1⟩:=h.slot k h1
  have hok:=h.ok k raw[k] _ (List.getElem?_eq_getElem h1) (List.getElem?_eq_getElem (h.len▸h1))
  have hs:st.slots[k]? =some (st.slots[k]'(h.len▸h1)):=List.getElem?_eq_getElem (h.len▸h1)
  have es:slotAt st (k:Int)=match (st.slots[k]'(h.len▸h1)).1 with | some x=>some (k,x) | none=>none:=by
   unfold slotAt
   rw[if_neg (by omega),Int.toNat_natCast,hs]
   generalize (st.slots[k]'(h.len▸h1))=s
   obtain⟨a,b⟩:=s
   cases a <;>rfl
  rw[es]
  have h2:(k:Int) < (raw.length:Int):=by omega
  have h3:(0:Int)≤(k:Int):=by omega
  obtain⟨_,hok⟩:=hok
  generalize raw[k]=r at*
  generalize (st.slots[k]'(h.len▸h1))=s at*
  obtain⟨p,z⟩:=r
  rcases hok with⟨hp,hx⟩ | ⟨pb,x,hp,hx,_⟩
  ·simp only at hp
   subst hp
   rw[hx]
   clear h es hs hx
   simp only[rawPtr,Option.map_none]at d0
   go_enter Tryz.func244,Tryz.ntmps244
   go_wp2
   go_ret
   exact⟨rfl,rfl⟩
  ·simp only at hp
   subst hp
   rw[hx]
   clear h es hs hx
   simp only[rawPtr,Option.map_some]at d0
   go_enter Tryz.func244,Tryz.ntmps244
   go_wp2
   go_ret
   exact⟨rfl,rfl⟩
 ·have e:slotAt st (k:Int)=none:=by
   unfold slotAt
   rw[if_neg (by omega),Int.toNat_natCast,List.getElem?_eq_none (by have:=h.len;omega)]
  rw[e]
  clear h e
  have h2:(raw.length:Int)≤(k:Int):=by omega
  go_enter Tryz.func244,Tryz.ntmps244
  go_wp2
  go_ret
  exact⟨rfl,rfl⟩
theorem PktAt.cells {w:World} {b:Nat} {x:Pkt} (h:PktAt w b x):w.cell? ⟨b,0,none⟩=some (.int .i64 x.src)∧w.cell? ⟨b,1,none⟩=some (.int .i64 x.dst)∧w.cell? ⟨b,2,none⟩=some (.int .i64 x.lane)∧w.cell? ⟨b,3,none⟩=some (.int .u32 x.body):=by
 refine⟨?_, ?_, ?_, ?_⟩ <;>(rw[blk_cell h];rfl)
abbrev Pkt.val (x:Pkt):Value:= .agg #[.int .i64 x.src, .int .i64 x.dst, .int .i64 x.lane, .int .u32 x.body]
abbrev Pkt.zero:Pkt:=⟨0,0,0,0⟩
theorem slotAt_ok {w:World} {b sb:Nat} {raw:List RawSlot} {free:Int} {st:PoolS} {S:Nat→Prop} (h:PoolR w S b sb raw free st) {i:Int} {k:Nat} {x:Pkt} (he:slotAt st i=some (k,x)):
  i=(k:Int)∧∃hk:k < raw.length,∃z pb,raw[k]=(some pb,z)∧st.slots[k]? =some (some x,z)∧PktAt w pb x∧S pb∧pb≠b∧pb≠sb:=by
 unfold slotAt at he
 split at he
 ·cases he
 ·rename_i h0
  split at he
  ·rename_i x' z hs
   cases he
   obtain⟨hl,_⟩:=List.getElem?_eq_some_iff.1 hs
   have hk:i.toNat < raw.length:=by have:=h.len;omega
   refine⟨by omega,hk, ?_⟩
   obtain⟨h1,h2⟩:=h.ok i.toNat raw[i.toNat] _ (List.getElem?_eq_getElem hk) hs
   generalize raw[i.toNat]=r at h1 h2
   obtain⟨p,z'⟩:=r
   rcases h2 with⟨_,h2⟩ | ⟨pb,y,h2,h3,h4⟩
   ·cases h2
   ·simp only at h1 h2
    cases h3;subst h1;subst h2
    exact⟨z',pb,rfl,hs,h4⟩
  ·cases he
set_option maxHeartbeats 2000000 in
theorem pget_runs (b sb:Nat) (raw:List RawSlot) (free:Int) (st:PoolS) (S:Nat→Prop) (w:World) (h:PoolR w S b sb raw free st) (i:Int):
  Calls Tryz.prog 243 #[.pointer (some ⟨b,0,none⟩), .int .i64 i] w fun e w'=>e= .returned (.tuple #[((slotAt st i).map (·.2)).getD Pkt.zero |>.val, .bool (slotAt st i).isSome])∧Keeps (fun _=>False) w w':=by
 have hkA:∀V,Keeps (fun _=>False) w V→PoolR V S b sb raw free st:=fun V hk=>h.keeps hk (fun _ _ h=>h)
 have HA:=Lib.hid (p:=∀V,Keeps (fun _=>False) w V→Calls _ _ _ _ _) fun V hk=>pat_runs b sb raw free st S V (hkA V hk) i
 clear hkA
 cases he:slotAt st i with
 | none=>
   rw[he]at HA
   clear h he
   go_enter Tryz.func243,Tryz.ntmps243
   go_wp2_with fail
   have hk1:=Keeps.alloc (fun _=>False) w (.cells Pkt.zero.cells.toArray 31)
   refine(HA.out _ hk1).mono ?_
   rintro e w' ⟨rfl,hw⟩
   subst hw
   have hb:=blk_new w (.cells Pkt.zero.cells.toArray 31)
   have cc:=PktAt.cells (x:=Pkt.zero) hb
   obtain⟨c0,c1,c2,c3⟩:=cc
   go_wp2_with fail
   exact bodyPost_ret (v:= .tuple #[Pkt.zero.val, .bool false]) (by simp[results,Tryz.results243,go_sem]) rfl ⟨rfl,hk1⟩
 | some p=>
   obtain⟨k,x⟩:=p
   obtain⟨rfl,hk,z,pb,hr,hs,hp,hpS,hpb,hpsb⟩:=slotAt_ok h he
   have hsl:=(h.slot k hk).1
   rw[hr]at hsl
   simp only[rawPtr,Option.map_some]at hsl
   have hlt:=h.lt pb hpS
   rw[he]at HA
   clear h he hr hs
   obtain⟨x1,x2,x3,x4⟩:=x
   go_enter Tryz.func243,Tryz.ntmps243
   go_wp2_with fail
   have hk1:=Keeps.alloc (fun _=>False) w (.cells Pkt.zero.cells.toArray 31)
   refine(HA.out _ hk1).mono ?_
   rintro e w' ⟨rfl,hw⟩
   subst hw
   have hb:=blk_new w (.cells Pkt.zero.cells.toArray 31)
   have hp':=blk_keeps hk1 hp (fun h=>h)
   obtain⟨c0,c1,c2,c3⟩:=PktAt.cells (x:=Pkt.zero) hb
   obtain⟨d0,d1,d2,d3⟩:=PktAt.cells hp'
   have hsl':=hk1.cell hsl (fun h=>h)
   simp only at d0 d1 d2 d3
   clear hsl hp hp' hb HA
   go_wp2_with fail
   exact bodyPost_ret (v:= .tuple #[Pkt.val ⟨x1,x2,x3,x4⟩, .bool true]) (by simp[results,Tryz.results243,go_sem]) rfl ⟨rfl,Keeps.alloc _ _ _⟩
def putP (st:PoolS) (x:Pkt):PoolS:=match st.slots[st.top.toNat]? with
 | some (_,z)=>if st.top= -1 then st else⟨st.slots.set st.top.toNat (some x,z),z⟩
 | none=>st
theorem PoolR.grows {w w':World} {S:Nat→Prop} {b sb:Nat} {raw raw':List RawSlot} {free free':Int} {st st':PoolS} (h:PoolR w S b sb raw free st) (hk:Keeps (fun k=>k=b∨k=sb) w w')
  (hb:w'.heap[b]? =some (.cells #[.slice (some ⟨sb,0,none⟩) raw'.length raw'.length, .int .i64 st'.top, .int .i64 free'] 298 (0,0)))
  (hr:w'.heap[sb]? =some (.cells (rawCells raw').toArray 301 (0,0))) {k:Nat} {r:RawSlot} {s:Slot} (hk1:raw'=raw.set k r) (hk2:st'.slots=st.slots.set k s) (hok:SlotOk w' (more S w w') b sb r s):
  PoolR w' (more S w w') b sb raw' free' st':=by
 have hb0:=h.lt b h.own
 have hs0:=h.lt sb h.ownR
 refine⟨hb,hr,by rw[hk1,hk2,List.length_set,List.length_set,h.len],fun i r' s' h1 h2=> ?_,h.ne, .inl h.own, .inl h.ownR,by rw[hk1,List.length_set];exact h.small,fun k hk'=> ?_⟩
 ·rw[hk1,List.getElem?_set]at h1
  rw[hk2,List.getElem?_set]at h2
  by_cases e:k=i
  ·rw[if_pos e]at h1 h2
   split at h1
   ·split at h2
    ·cases h1;cases h2;exact hok
    ·cases h2
   ·cases h1
  ·rw[if_neg e]at h1 h2
   exact((h.ok i r' s' h1 h2).keeps hk (fun k _ h1 h2=>by rintro(h | h) <;>contradiction)).wider (fun k h=> .inl h)
 ·rcases hk' with hk' | hk'
  ·have:=h.lt k hk';have:=hk.size;omega
  ·exact hk'.2
theorem blk_new' {n:Nat} (w:World) (o:Obj) (h:w.heap.size=n):(w.alloc o).heap[n]? =some o:=h▸blk_new w o
theorem pool_cells3 {w:World} {b sb:Nat} {raw:List RawSlot} {free:Int} {st:PoolS} {S:Nat→Prop} (h:PoolR w S b sb raw free st) (o:Nat) (p t f:Value) (ob:Obj):
  ((((w.setCell ⟨sb,o,none⟩ p).setCell ⟨b,1,none⟩ t).setCell ⟨b,2,none⟩ f).alloc ob).heap[b]? =some (.cells #[.slice (some ⟨sb,0,none⟩) raw.length raw.length,t,f] 298 (0,0))∧
  ((((w.setCell ⟨sb,o,none⟩ p).setCell ⟨b,1,none⟩ t).setCell ⟨b,2,none⟩ f).alloc ob).heap[sb]? =some (.cells ((rawCells raw).set o p).toArray 301 (0,0))∧
  Keeps (fun k=>k=b∨k=sb) w ((((w.setCell ⟨sb,o,none⟩ p).setCell ⟨b,1,none⟩ t).setCell ⟨b,2,none⟩ f).alloc ob):=by
 refine⟨?_, ?_, ?_⟩
 ·refine blk_alloc ?_ _
  rw[blk_set (blk_set (blk_other h.box _ _ h.ne) 1 t) 2 f]
  rfl
 ·refine blk_alloc ?_ _
  refine blk_other (blk_other ?_ _ _ (Ne.symm h.ne)) _ _ (Ne.symm h.ne)
  rw[blk_set h.row o p,List.setIfInBounds_toArray]
 ·exact(((Keeps.setCell (fun k=>k=b∨k=sb) _ _ _ (.inr rfl)).trans (Keeps.setCell (fun k=>k=b∨k=sb) _ _ _ (.inl rfl))).trans (Keeps.setCell (fun k=>k=b∨k=sb) _ _ _ (.inl rfl))).trans (Keeps.alloc _ _ _)
theorem put_no (b sb:Nat) (raw:List RawSlot) (free:Int) (st:PoolS) (S:Nat→Prop) (w:World) (h:PoolR w S b sb raw free st) (x:Pkt) (ht:st.top= -1):
  Calls Tryz.prog 209 #[.pointer (some ⟨b,0,none⟩),x.val] w fun e w'=>e= .returned (.tuple #[.int .i64 0, .bool false])∧Keeps (fun _=>False) w w':=by
 obtain⟨c0,c1,c2⟩:=h.lens
 rw[ht]at c1
 have hbl:=h.lt b h.own
 have e1:w.heap.size≠b:=by omega
 clear h ht
 go_enter Tryz.func209,Tryz.ntmps209
 go_wp2_with fail
 go_ret2
 exact⟨rfl,Keeps.alloc _ _ _⟩
set_option maxHeartbeats 2000000 in
theorem put_yes (b sb:Nat) (raw:List RawSlot) (free:Int) (st:PoolS) (S:Nat→Prop) (w:World) (h:PoolR w S b sb raw free st) (x:Pkt) (k:Nat) (ht:st.top=(k:Int)) (hkl:k < raw.length) (z:Int) (hz:raw[k].2=z):
  Calls Tryz.prog 209 #[.pointer (some ⟨b,0,none⟩),x.val] w fun e w'=>e= .returned (.tuple #[.int .i64 k, .bool true])∧Keeps (fun k=>k=b∨k=sb) w w'∧
   ∃free',PoolR w' (more S w w') b sb (raw.set k (some w.heap.size,z)) free' ⟨st.slots.set k (some x,z),z⟩:=by
 obtain⟨c0,c1,c2⟩:=h.lens
 obtain⟨d0,d1⟩:=h.slot k hkl
 rw[hz]at d1
 rw[ht]at c1
 have h2:(k:Int) < (raw.length:Int):=by omega
 have h3:(0:Int)≤(k:Int):=by omega
 have h4:((k:Int) == -1)=false:=by rw[beq_eq_false_iff_ne];omega
 have hsm:=h.small
 have hne:=h.ne
 have hne':¬sb=b:=fun e=>hne e.symm
 have hbl:=h.lt b h.own
 have hsl:=h.lt sb h.ownR
 have fb:=fun j=>blk_frozen h.box j
 have fb1:=fb 1
 have fb2:=fb 2
 have fs:=blk_frozen h.row (k*2)
 have H:=Lib.hid h
 have HZ:=Lib.hid hz
 have e1:w.heap.size≠b:=by omega
 have e2:w.heap.size≠sb:=by omega
 clear h hz fb ht
 go_enter Tryz.func209,Tryz.ntmps209
 go_wp2_with fail
 go_ret2
 obtain⟨q1,q2,q3⟩:=pool_cells3 H.out (k*2) (.pointer (some ⟨w.heap.size,0,none⟩)) (.int .i64 z) (.int .i64 (wrap64 (free - 1))) (.cells x.cells.toArray 31)
 refine⟨rfl,q3,wrap64 (free - 1),H.out.grows q3 (k:=k) (r:=(some w.heap.size,z)) (s:=(some x,z)) ?_ ?_ rfl rfl ⟨rfl, .inr ⟨w.heap.size,x,rfl,rfl,blk_new' _ _ (by simp[World.setCell]), .inr ⟨Nat.le_refl _,by simp[World.setCell]⟩,e1,e2⟩⟩⟩
 ·rw[List.length_set];exact q1
 ·have hp:=rawCells_ptr raw k hkl (some w.heap.size)
  rw[HZ.out]at hp
  rw[←hp];exact q2
theorem putP_no (st:PoolS) (x:Pkt) (ht:st.top= -1):putP st x=st:=by
 unfold putP
 split
 ·rw[if_pos ht]
 ·rfl
theorem putP_yes (st:PoolS) (x:Pkt) (k:Nat) (ht:st.top=(k:Int)) (y:Option Pkt) (z:Int) (hs:st.slots[k]? =some (y,z)):putP st x=⟨st.slots.set k (some x,z),z⟩:=by
 unfold putP
 rw[ht,Int.toNat_natCast,hs]
 simp only
 rw[if_neg (by omega)]
theorem put_runs (b:Nat) (st:PoolS) (S:Nat→Prop) (w:World) (h:PoolV w S b st) (hok: -1≤st.top∧st.top < st.slots.length) (x:Pkt):
  Calls Tryz.prog 209 #[.pointer (some ⟨b,0,none⟩),x.val] w fun e w'=>
   e= .returned (.tuple #[.int .i64 (if st.top= -1 then 0 else st.top), .bool (decide (st.top≠ -1))])∧Keeps S w w'∧PoolV w' (more S w w') b (putP st x):=by
 obtain⟨sb,raw,free,h⟩:=h
 by_cases ht:st.top= -1
 ·rw[if_pos ht,putP_no _ _ ht,decide_eq_false (by simpa using ht)]
  refine(put_no b sb raw free st S w h x ht).mono ?_
  rintro e w' ⟨rfl,hk⟩
  exact⟨rfl,hk.mono (fun _ _ h=>h.elim),sb,raw,free,(h.keeps hk (fun _ _ h=>h)).wider (fun k h=> .inl h) (fun k hk'=>by
   rcases hk' with hk' | hk'
   ·have:=h.lt k hk';have:=hk.size;omega
   ·exact hk'.2)⟩
 ·obtain⟨k,hk⟩:∃k:Nat,st.top=(k:Int):=⟨st.top.toNat,by have:=hok.1;omega⟩
  have hkl:k < raw.length:=by have:=hok.2;have:=h.len;omega
  have hs:st.slots[k]? =some (st.slots[k]'(h.len▸hkl)):=List.getElem?_eq_getElem (h.len▸hkl)
  have hz:=(h.ok k raw[k] _ (List.getElem?_eq_getElem hkl) hs).1
  rw[if_neg ht,putP_yes st x k hk _ _ hs,decide_eq_true (by simpa using ht)]
  refine(put_yes b sb raw free st S w h x k hk hkl _ hz).mono ?_
  rintro e w' ⟨rfl,hk',free',hv⟩
  rw[hk]
  exact⟨rfl,hk'.mono (fun k _ hk=>by rcases hk with rfl | rfl;exact h.own;exact h.ownR),sb,_,free',hv⟩
def dropP (st:PoolS) (i:Int):PoolS:=match slotAt st i with
 | some (k,_)=>⟨st.slots.set k (none,st.top),i⟩
 | none=>st
theorem drop_cells {w:World} {b sb:Nat} {raw:List RawSlot} {free:Int} {st:PoolS} {S:Nat→Prop} (h:PoolR w S b sb raw free st) (o:Nat) (p q t f:Value):
  (((((w.setCell ⟨sb,o,none⟩ p).setCell ⟨sb,o+1,none⟩ q).setCell ⟨b,1,none⟩ t).setCell ⟨b,2,none⟩ f)).heap[b]? =some (.cells #[.slice (some ⟨sb,0,none⟩) raw.length raw.length,t,f] 298 (0,0))∧
  (((((w.setCell ⟨sb,o,none⟩ p).setCell ⟨sb,o+1,none⟩ q).setCell ⟨b,1,none⟩ t).setCell ⟨b,2,none⟩ f)).heap[sb]? =some (.cells (((rawCells raw).set o p).set (o+1) q).toArray 301 (0,0))∧
  Keeps (fun k=>k=b∨k=sb) w (((((w.setCell ⟨sb,o,none⟩ p).setCell ⟨sb,o+1,none⟩ q).setCell ⟨b,1,none⟩ t).setCell ⟨b,2,none⟩ f)):=by
 refine⟨?_, ?_, ?_⟩
 ·rw[blk_set (blk_set (blk_other (blk_other h.box _ _ h.ne) _ _ h.ne) 1 t) 2 f]
  rfl
 ·refine blk_other (blk_other ?_ _ _ (Ne.symm h.ne)) _ _ (Ne.symm h.ne)
  rw[blk_set (blk_set h.row o p) (o+1) q,List.setIfInBounds_toArray,List.setIfInBounds_toArray]
 ·exact(((Keeps.setCell (fun k=>k=b∨k=sb) _ _ _ (.inr rfl)).trans (Keeps.setCell (fun k=>k=b∨k=sb) _ _ _ (.inr rfl))).trans (Keeps.setCell (fun k=>k=b∨k=sb) _ _ _ (.inl rfl))).trans (Keeps.setCell (fun k=>k=b∨k=sb) _ _ _ (.inl rfl))
set_option maxHeartbeats 2000000 in
theorem drop_yes (b sb:Nat) (raw:List RawSlot) (free:Int) (st:PoolS) (S:Nat→Prop) (w:World) (h:PoolR w S b sb raw free st) (k:Nat) (x:Pkt) (hkl:k < raw.length) (he:slotAt st (k:Int)=some (k,x)):
  Calls Tryz.prog 217 #[.pointer (some ⟨b,0,none⟩), .int .i64 k] w fun e w'=>e= .returned (.bool true)∧Keeps (fun k=>k=b∨k=sb) w w'∧
   ∃free',PoolR w' (more S w w') b sb (raw.set k (none,st.top)) free' ⟨st.slots.set k (none,st.top),k⟩:=by
 have HA:=Lib.hid (pat_runs b sb raw free st S w h k)
 rw[he]at HA
 obtain⟨c0,c1,c2⟩:=h.lens
 obtain⟨d0,d1⟩:=h.slot k hkl
 have hne:=h.ne
 have hne':¬sb=b:=fun e=>hne e.symm
 have fb1:=blk_frozen h.box 1
 have fb2:=blk_frozen h.box 2
 have fs:=blk_frozen h.row (k*2)
 have fs1:=blk_frozen h.row (k*2+1)
 have H:=Lib.hid h
 have c1':=Lib.hid c1
 clear h he
 generalize st.top=tp at*
 go_enter Tryz.func217,Tryz.ntmps217
 go_wp2_with fail
 refine HA.out.mono ?_
 rintro e w' ⟨rfl,hw⟩
 subst hw
 go_wp2_with fail
 go_ret
 obtain⟨q1,q2,q3⟩:=drop_cells H.out (k*2) (.pointer none) (.int .i64 tp) (.int .i64 k) (.int .i64 (wrap64 (free+1)))
 refine⟨rfl,q3,wrap64 (free+1),H.out.grows q3 (k:=k) (r:=(none,tp)) (s:=(none,tp)) ?_ ?_ rfl rfl ⟨rfl, .inl ⟨rfl,rfl⟩⟩⟩
 ·rw[List.length_set];exact q1
 ·have hp:=rawCells_ptr raw k hkl none
  have hq:=rawCells_below (raw.set k (none,raw[k].2)) k (by simpa using hkl) tp
  rw[←hp,List.getElem_set_self,List.set_set]at hq
  rw[←hq];exact q2
theorem drop_runs (b:Nat) (st:PoolS) (S:Nat→Prop) (w:World) (h:PoolV w S b st) (i:Int):
  Calls Tryz.prog 217 #[.pointer (some ⟨b,0,none⟩), .int .i64 i] w fun e w'=>(∃r,e= .returned (.bool r))∧Keeps S w w'∧PoolV w' (more S w w') b (dropP st i):=by
 obtain⟨sb,raw,free,h⟩:=h
 unfold dropP
 cases he:slotAt st i with
 | none=>
   have HA:=Lib.hid (pat_runs b sb raw free st S w h i)
   rw[he]at HA
   have h':=Lib.hid h
   clear h he
   go_enter Tryz.func217,Tryz.ntmps217
   go_wp2_with fail
   refine HA.out.mono ?_
   rintro e w' ⟨rfl,hw⟩
   subst hw
   go_wp2_with fail
   go_ret
   exact⟨⟨_,rfl⟩,Keeps.refl _ _,sb,raw,free,h'.out.wider (fun k h=> .inl h) (fun k hk'=>by
    rcases hk' with hk' | hk'
    ·exact h'.out.lt k hk'
    ·exact hk'.2)⟩
 | some p=>
   obtain⟨k,x⟩:=p
   obtain⟨rfl,hkl,_⟩:=slotAt_ok h he
   refine(drop_yes b sb raw free st S w h k x hkl he).mono ?_
   rintro e w' ⟨rfl,hk',free',hv⟩
   exact⟨⟨_,rfl⟩,hk'.mono (fun k _ hk=>by rcases hk with rfl | rfl;exact h.own;exact h.ownR),sb,_,free',hv⟩
theorem get_runs (b:Nat) (st:PoolS) (S:Nat→Prop) (w:World) (h:PoolV w S b st) (i:Int):
  Calls Tryz.prog 243 #[.pointer (some ⟨b,0,none⟩), .int .i64 i] w fun e w'=>e= .returned (.tuple #[((slotAt st i).map (·.2)).getD Pkt.zero |>.val, .bool (slotAt st i).isSome])∧Keeps (fun _=>False) w w':=by
 obtain⟨sb,raw,free,h⟩:=h
 exact pget_runs b sb raw free st S w h i
def newRaw (n j:Nat):List RawSlot:=(List.range n).map fun i=>(none,if i < j then(i:Int)+1 else 0)
def poolNew (n:Nat):PoolS:=⟨(List.range n).map fun i=>(none,if i+1=n then -1 else(i:Int)+1),0⟩
theorem newRaw_length (n j:Nat):(newRaw n j).length=n:=by simp[newRaw]
theorem newRaw_step (n j:Nat) (h:j < n):(newRaw n j).set j (none,(j:Int)+1)=newRaw n (j+1):=by
 apply List.ext_getElem?
 intro i
 unfold newRaw
 rw[List.getElem?_set]
 simp only[List.getElem?_map,List.length_map,List.length_range]
 by_cases e:j=i
 ·subst e;simp[h]
 ·rw[if_neg e]
  by_cases hi:i < n
  ·simp only[List.getElem?_range hi,Option.map_some,Option.some.injEq,Prod.mk.injEq,true_and]
   by_cases h1:i < j
   ·rw[if_pos h1,if_pos (by omega)]
   ·rw[if_neg h1,if_neg (by omega)]
  ·rw[List.getElem?_eq_none (by simpa using hi)];rfl
theorem newRaw_last (n:Nat) (h:0 < n):(newRaw n n).set (n - 1) (none, -1)=((poolNew n).slots.map fun s=>((none:Option Nat),s.2)):=by
 apply List.ext_getElem?
 intro i
 unfold newRaw poolNew
 rw[List.getElem?_set]
 simp only[List.getElem?_map,List.length_map,List.length_range]
 by_cases e:n - 1=i
 ·subst e
  rw[if_pos rfl,if_pos (by omega),List.getElem?_range (by omega)]
  simp only[Option.map_some]
  rw[if_pos (by omega)]
 ·rw[if_neg e]
  by_cases hi:i < n
  ·simp only[List.getElem?_range hi,Option.map_some]
   rw[if_pos hi,if_neg (by omega)]
  ·rw[List.getElem?_eq_none (by simpa using hi)];rfl
theorem run_make_rows {P:Program} (t e:TypeId) (z:Value) (sz bytes:Nat) (ht:P.underlying t=some (.slice e)) (hinfo:(P.info? e).map (fun i=>(i.zero,i.size,i.bytes))=some (some z,sz,bytes))
  (kl kc:IntKind) (n:Nat) (hbytes:bytes*n≤281474976710656) (h63:n≤9223372036854775807) (w:World):
  (Instr.makeSlice t (.int kl (n:Int)) (.int kc (n:Int))).run P w= .ok (.slice (some ⟨w.heap.size,0,none⟩) n n) (w.alloc (.cells (madeCells z.cells (n*sz)) e)):=by
 obtain⟨i,hi,hzz⟩:=Option.map_eq_some_iff.1 hinfo
 simp only[Prod.mk.injEq]at hzz
 obtain⟨hz,hs,hb⟩:=hzz
 subst hs hb
 have hb':(i.bytes:Int)*(n:Int)≤281474976710656:=by
  have h:((i.bytes*n:Nat):Int)≤281474976710656:=by omega
  rwa[Int.natCast_mul]at h
 have hr:=run_make (P:=P) w t e i z ht hi hz kl kc n n (by omega) (Int.le_refl _) hb' (by omega)
 simp only[Int.toNat_natCast]at hr
 exact hr
theorem made_raw (n:Nat):madeCells #[.pointer none, .int .i64 0] (n*2)=(rawCells (newRaw n 0)).toArray:=by
 apply Array.ext
 ·simp[madeCells,rawCells_length,newRaw_length]
 ·intro i h1 h2
  have hi:i < n*2:=by simpa[madeCells]using h1
  have h3:=rawCells_at (newRaw n 0) (i / 2) (by rw[newRaw_length];omega)
  have h4:(newRaw n 0)[i / 2]'(by rw[newRaw_length];omega)=(none,0):=by simp[newRaw]
  rw[h4]at h3
  have e2:(rawCells (newRaw n 0)).toArray[i]=(rawCells (newRaw n 0))[i]'(by simpa using h2):=by simp
  rw[e2]
  rcases Nat.mod_two_eq_zero_or_one i with hm | hm
  ·have e:i=i / 2*2:=by omega
   have h5:=h3.1
   rw[←e,List.getElem?_eq_getElem (by simpa using h2)]at h5
   injection h5 with h5
   rw[h5]
   simp[madeCells,hm,rawPtr]
  ·have e:i=i / 2*2+1:=by omega
   have h5:=h3.2
   rw[←e,List.getElem?_eq_getElem (by simpa using h2)]at h5
   injection h5 with h5
   rw[h5]
   simp[madeCells,hm]
theorem info_slot:(Tryz.prog.info? 301).map (fun i=>(i.zero,i.size,i.bytes))=some (some (.agg #[.pointer none, .int .i64 0]),2,16):=by kernel_rfl
set_option maxHeartbeats 4000000 in
theorem pnew_runs (n:Nat) (h1:1≤n) (h2:n≤200) (w:World):
  Calls Tryz.prog 141 #[.int .i64 n] w fun e w'=>∃b,e= .returned (.pointer (some ⟨b,0,none⟩))∧w.heap.size≤b∧Keeps (fun _=>False) w w'∧PoolV w' (more (fun _=>False) w w') b (poolNew n):=by
 have hn1:¬(n:Int) < 1:=by omega
 have hn2:¬(200:Int) < (n:Int):=by omega
 have hms:=fun w=>run_make_rows (P:=Tryz.prog) 296 301 (.agg #[.pointer none, .int .i64 0]) 2 16 Tryz.underlying296 info_slot .i64 .i64 n (by omega) (by omega) w
 rw[show(Value.agg #[.pointer none, .int .i64 0]).cells= #[.pointer none, .int .i64 0]from rfl,made_raw]at hms
 go_enter Tryz.func141,Tryz.ntmps141
 go_wp2_with fail
 have hk0:Keeps (fun _=>False) w ((w.alloc (.cells (rawCells (newRaw n 0)).toArray 301)).alloc (.cells #[.slice (some ⟨w.heap.size,0,none⟩) n n, .int .i64 0, .int .i64 n] 298)):=(Keeps.alloc _ _ _).trans (Keeps.alloc _ _ _)
 have hr0:=blk_alloc (blk_new w (.cells (rawCells (newRaw n 0)).toArray 301)) (.cells #[.slice (some ⟨w.heap.size,0,none⟩) n n, .int .i64 0, .int .i64 n] 298)
 have hb0:=blk_new' (n:=w.heap.size+1) (w.alloc (.cells (rawCells (newRaw n 0)).toArray 301)) (.cells #[.slice (some ⟨w.heap.size,0,none⟩) n n, .int .i64 0, .int .i64 n] 298) (by simp)
 generalize (w.alloc (.cells (rawCells (newRaw n 0)).toArray 301)).alloc (.cells #[.slice (some ⟨w.heap.size,0,none⟩) n n, .int .i64 0, .int .i64 n] 298)=W0 at hk0 hr0 hb0 ⊢
 obtain⟨B,hB⟩:∃B,w.heap.size=B:=⟨_,rfl⟩
 have HB:=Lib.hid hB
 rw[hB]at hr0 hb0 ⊢
 clear hB hms
 go_loopw [21] (fun s wr=>∃j:Nat,j≤n∧s= .int .i64 (j:Int)∧Keeps (fun _=>False) w wr∧wr.heap[B]? =some (.cells (rawCells (newRaw n j)).toArray 301 (0,0))∧wr.heap[B+1]? =some (.cells #[.slice (some ⟨B,0,none⟩) n n, .int .i64 0, .int .i64 n] 298 (0,0))) (fun s _=>n - (intOf s).toNat)
 case atStart=>exact⟨0,Nat.zero_le _,rfl,hk0,hr0,hb0⟩
 case round=>
  obtain⟨j,hjn,rfl,hk,hr,hb⟩:=hrel
  clear hk0 hr0 hb0
  have c0:wr.cell? ⟨B+1,0,none⟩=some (.slice (some ⟨B,0,none⟩) n n):=by rw[blk_cell hb];rfl
  have hne:¬B+1=B:=by omega
  by_cases hlt:j < n
  ·have hlt':(j:Int) < (n:Int):=by omega
   have hj0:(0:Int)≤(j:Int):=by omega
   have d0:wr.cell? ⟨B,j*2+1,none⟩=some (.int .i64 0):=by
    have h3:=(rawCells_at (newRaw n j) j (by rw[newRaw_length];exact hlt)).2
    rw[blk_cell hr,List.getElem?_toArray,h3]
    simp[newRaw]
   have fz:=blk_frozen hr (j*2+1)
   have hn2:=blk_set hr (j*2+1) (.int .i64 ((j:Int)+1))
   have hn3:=blk_other hb ⟨B,j*2+1,none⟩ (.int .i64 ((j:Int)+1)) (by simp)
   rw[List.setIfInBounds_toArray,rawCells_below _ j (by rw[newRaw_length];exact hlt)]at hn2
   rw[show(newRaw n j)[j]'(by rw[newRaw_length];exact hlt)=(none,0) by simp[newRaw],newRaw_step n j hlt]at hn2
   have hkn:=hk.then (Keeps.setCell (fun k=>k=B) wr ⟨B,j*2+1,none⟩ (.int .i64 ((j:Int)+1)) rfl) (fun i hi e=>by rw[HB.out]at hi;omega)
   have HN:=Lib.hid hn2
   have HM:=Lib.hid hn3
   have HK:=Lib.hid hkn
   clear hn2 hn3 hkn hr hb
   go_wp2_with fail
   go_roundw
   case rel=>exact⟨j+1,by omega,by go_num,HK.out,HN.out,HM.out⟩
   case measure=>simp[intOf];omega
  ·obtain rfl:j=n:=by omega
   have hlt':¬(j:Int) < (j:Int):=by omega
   have d0:wr.cell? ⟨B,(j - 1)*2+1,none⟩=some (.int .i64 j):=by
    have h3:=(rawCells_at (newRaw j j) (j - 1) (by rw[newRaw_length];omega)).2
    rw[blk_cell hr,List.getElem?_toArray,h3]
    simp[newRaw]
    omega
   have fz:=blk_frozen hr ((j - 1)*2+1)
   have e1:((j:Int) - 1).toNat=j - 1:=by omega
   have e2:(0:Int)≤(j:Int) - 1:=by omega
   have e3:(j:Int) - 1 < (j:Int):=by omega
   have HR:=Lib.hid hr
   have HBX:=Lib.hid hb
   clear hr hb
   go_wp2_with fail
   go_ret
   have hlen:j - 1 < (newRaw j j).length:=by rw[newRaw_length];omega
   have hn2:=blk_set HR.out ((j - 1)*2+1) (.int .i64 (-1))
   rw[List.setIfInBounds_toArray,rawCells_below _ (j - 1) hlen,show(newRaw j j)[j - 1]'hlen=(none,((j - 1:Nat):Int)+1) by simp[newRaw];omega,newRaw_last j (by omega)]at hn2
   have hn3:=blk_other HBX.out ⟨B,(j - 1)*2+1,none⟩ (.int .i64 (-1)) (by simp)
   have hl2:((poolNew j).slots.map fun s=>((none:Option Nat),s.2)).length=j:=by simp[poolNew]
   refine⟨B+1,rfl,by rw[HB.out];omega,hk.then (Keeps.setCell (fun k=>k=B) wr ⟨B,(j - 1)*2+1,none⟩ (.int .i64 (-1)) rfl) (fun i hi e=>by rw[HB.out]at hi;omega),B,_,j,⟨by rw[hl2];exact hn3,hn2,by simp,fun i r s h1 h2=> ?_,hne, ?_, ?_,by rw[hl2];omega,fun k hk'=> ?_⟩⟩
   ·rw[List.getElem?_map,h2]at h1
    cases h1
    refine⟨rfl, .inl ⟨rfl, ?_⟩⟩
    unfold poolNew at h2
    simp only[List.getElem?_map]at h2
    obtain⟨a,_,ha⟩:=Option.map_eq_some_iff.1 h2
    rw[←ha]
   ·exact .inr ⟨by rw[HB.out];omega,blk_lt hn3⟩
   ·exact .inr ⟨by rw[HB.out];omega,blk_lt hn2⟩
   ·rcases hk' with hk' | hk'
    ·exact hk'.elim
    ·exact hk'.2
end Go.Proofs.YtebnflpanfmicaaGreatDoor
