/-
  Part 14 of the proof: TopRingM, TopPush.
-/
import Derived.Test.YtebnflpanfmicaaGreatDoorPkAK
set_option linter.unusedVariables false
set_option linter.unusedSimpArgs false
set_option linter.unusedSectionVars false
namespace Go.Proofs.YtebnflpanfmicaaGreatDoor
open Go.RowKit
section
variable {w w':World} {S SP F:Nat→Prop} {b pb mb:Nat} {ports lanes:Int} {st:PoolS} {L:List (Ent Way)} {c:Nat} {sl:Way→List Nat}
theorem more_lt (hlt:∀k,S k→k < w.heap.size) (hs:w.heap.size≤w'.heap.size):∀k,more S w w' k→k < w'.heap.size:=fun k hk=>by
 rcases hk with hk | hk
 ·have:=hlt k hk;omega
 ·exact hk.2
theorem RingsR.grown (h:RingsR w S b pb mb ports lanes SP st L c sl) {S':Nat→Prop} (hS:∀k,S k→S' k) (hlt:∀k,S' k→k < w.heap.size):RingsR w S' b pb mb ports lanes SP st L c sl:=
 ⟨h.box,h.map,h.pool,h.keys,h.borns,h.clock,h.rows,h.gone,h.apart,fun e he g hg=>⟨hS _ (h.own e he g hg).1,(h.own e he g hg).2⟩,hS _ h.sb,hS _ h.smb,h.bm,h.pb_,h.pmb,fun k hk=>hS _ (h.sp k hk),hlt⟩
theorem RingsR.pooled (h:RingsR w S b pb mb ports lanes SP st L c sl) (hk:Keeps SP w w') {st':PoolS} (hp:PoolV w' (more SP w w') pb st'):RingsR w' (more S w w') b pb mb ports lanes (more SP w w') st' L c sl:=by
 have hold:∀k,S k→¬(w.heap.size≤k∧k < w'.heap.size):=fun k hk' h2=>by have:=h.lt k hk';omega
 exact⟨blk_keeps hk h.box h.pb_,blk_keeps hk h.map h.pmb,hp,h.keys,h.borns,h.clock,fun e he=>(h.rows e he).keeps hk (fun g hg=>(h.own e he g hg).2.2.2),h.gone,h.apart,
  fun e he g hg=>by
   obtain⟨h1,h2,h3,h4⟩:=h.own e he g hg
   exact⟨.inl h1,h2,h3,fun h5=>by rcases h5 with h5 | h5;exact h4 h5;exact hold g h1 h5⟩,
  .inl h.sb, .inl h.smb,h.bm,fun h5=>by rcases h5 with h5 | h5;exact h.pb_ h5;exact hold b h.sb h5,fun h5=>by rcases h5 with h5 | h5;exact h.pmb h5;exact hold mb h.smb h5,
  fun k hk'=>hk'.imp (h.sp k) id,more_lt h.lt hk.size⟩
theorem putObj_new {w:World} {b:Nat} (o:Obj) (h:b < w.heap.size):(w.putObj b o).heap[b]? =some o:=World.putObj_heap_same (w:=w) h
theorem putObj_far {w:World} {b k:Nat} {o o':Obj} (hk:w.heap[k]? =some o') (h:k≠b):(w.putObj b o).heap[k]? =some o':=(World.putObj_heap_other (w:=w) h).trans hk
theorem atKey_keys (L:List (Ent Way)) (k:Way) (v:Value):(atKey L k v).map (·.key)=L.map (·.key):=by
 unfold atKey
 rw[List.map_map]
 apply List.map_congr_left
 intro e _
 simp only[Function.comp]
 split <;>rfl
theorem atKey_borns (L:List (Ent Way)) (k:Way) (v:Value):(atKey L k v).map (·.born)=L.map (·.born):=by
 unfold atKey
 rw[List.map_map]
 apply List.map_congr_left
 intro e _
 simp only[Function.comp]
 split <;>rfl
theorem atKey_mem {L:List (Ent Way)} {k:Way} {v:Value} {e:Ent Way} (h:e∈atKey L k v):∃e0∈L,e.key=e0.key∧e.born=e0.born∧((e0.key=k∧e.val=v)∨(e0.key≠k∧e.val=e0.val)):=by
 obtain⟨e0,h0,rfl⟩:=List.mem_map.1 h
 refine⟨e0,h0, ?_⟩
 split
 ·rename_i hk;exact⟨rfl,rfl, .inl ⟨hk,rfl⟩⟩
 ·rename_i hk;exact⟨rfl,rfl, .inr ⟨hk,rfl⟩⟩
theorem atKey_has {L:List (Ent Way)} {k:Way} {v:Value} {e:Ent Way} (h:e∈L):∃e'∈atKey L k v,e'.key=e.key:=
 ⟨_,List.mem_map_of_mem h,by split <;>rfl⟩
theorem RingsR.set (h:RingsR w S b pb mb ports lanes SP st L c sl) {k:Way} {e0:Ent Way} (he0:e0∈L) (hk0:e0.key=k) {W:World} {v:Value} {l:List Nat} (hk:Keeps (fun g=>e0.val.ownBlock=some g) w W) (hq:IQ W v l)
  (ho:v.ownBlock=e0.val.ownBlock∨∃g,v.ownBlock=some g∧w.heap.size≤g):
  RingsR (W.putObj mb (entsObj Way.val (atKey L k v) c)) (more S w W) b pb mb ports lanes SP st (atKey L k v) c (setW sl k l)∧Keeps S w (W.putObj mb (entsObj Way.val (atKey L k v) c)):=by
 obtain⟨o1,o2⟩:(∀g,e0.val.ownBlock=some g→S g∧g≠b∧g≠mb∧¬SP g)∧True:=⟨h.own e0 he0,trivial⟩
 have hW:Keeps (fun g=>g=mb∨e0.val.ownBlock=some g) w (W.putObj mb (entsObj Way.val (atKey L k v) c)):=(hk.mono (fun _ _ h=> .inr h)).trans (Keeps.putM _ _ _ (.inl rfl))
 have hsz:(W.putObj mb (entsObj Way.val (atKey L k v) c)).heap.size=W.heap.size:=by simp[World.putObj]
 have vown:∀g,v.ownBlock=some g→more S w W g∧g≠b∧g≠mb∧¬SP g:=fun g hg=>by
  rcases ho with ho | ⟨g',hg',hge⟩
  ·obtain⟨h1,h2,h3,h4⟩:=o1 g (ho▸hg)
   exact⟨.inl h1,h2,h3,h4⟩
  ·rw[hg]at hg';cases hg'
   have:=h.lt b h.sb;have:=h.lt mb h.smb
   exact⟨.inr ⟨hge,hq.lt g hg⟩,by omega,by omega,fun h5=>by have:=h.lt g (h.sp g h5);omega⟩
 refine⟨⟨blk_keeps hW h.box (fun h5=> ?_),putObj_new _ (Nat.lt_of_lt_of_le (h.lt mb h.smb) hk.size),h.pool.keeps hW (fun g hg h5=> ?_),by rw[atKey_keys];exact h.keys,by rw[atKey_borns];exact h.borns,fun e he=> ?_,fun e he=> ?_,fun k' hk'=> ?_,fun e he e' he' hne g hg=> ?_,fun e he g hg=> ?_,
  .inl h.sb, .inl h.smb,h.bm,h.pb_,h.pmb,fun g hg=> .inl (h.sp g hg),fun g hg=> ?_⟩,hW.mono (fun g _ h5=> ?_)⟩
 ·rcases h5 with h5 | h5
  ·exact h.bm h5
  ·exact(o1 b h5).2.1 rfl
 ·rcases h5 with rfl | h5
  ·exact h.pmb hg
  ·exact(o1 g h5).2.2.2 hg
 ·obtain⟨e1,h1,_,h2,_⟩:=atKey_mem he
  rw[h2];exact h.clock e1 h1
 ·obtain⟨e1,h1,h2,_,h3⟩:=atKey_mem he
  rcases h3 with⟨h3,h4⟩ | ⟨h3,h4⟩
  ·rw[h4,h2,h3,setW_same]
   exact hq.keeps (Keeps.putM (F:=fun g=>g=mb) _ _ _ rfl) (fun g hg e=>(vown g hg).2.2.1 e)
  ·rw[h4,h2,setW_other _ _ _ _ h3]
   exact(h.rows e1 h1).keeps hW (fun g hg h5=>by
    rcases h5 with h5 | h5
    ·exact(h.own e1 h1 g hg).2.2.1 h5
    ·exact h.apart e1 h1 e0 he0 (by rw[hk0];exact h3) g hg h5)
 ·unfold setW
  split
  ·rename_i e;subst e
   obtain⟨e',h1,h2⟩:=atKey_has (k:=k') (v:=v) he0
   exact absurd (h2.trans hk0) (hk' e' h1)
  ·refine h.gone k' (fun e he h2=> ?_)
   obtain⟨e',h3,h4⟩:=atKey_has (k:=k) (v:=v) he
   exact hk' e' h3 (h4.trans h2)
 ·obtain⟨e1,h1,h2,_,h3⟩:=atKey_mem he
  obtain⟨e2,f1,f2,_,f3⟩:=atKey_mem he'
  rw[h2,f2]at hne
  rcases h3 with⟨h3,h4⟩ | ⟨h3,h4⟩
  ·rcases f3 with⟨f3,f4⟩ | ⟨f3,f4⟩
   ·exact absurd (h3.trans f3.symm) hne
   ·rw[f4];rw[h4]at hg
    intro h6
    rcases ho with ho | ⟨g',hg',hge⟩
    ·exact h.apart e0 he0 e2 f1 (by rw[hk0];exact Ne.symm f3) g (ho▸hg) h6
    ·rw[hg]at hg';cases hg'
     have:=h.lt g (h.own e2 f1 g h6).1;omega
  ·rw[h4]at hg
   rcases f3 with⟨f3,f4⟩ | ⟨f3,f4⟩
   ·rw[f4]
    intro h6
    rcases ho with ho | ⟨g',hg',hge⟩
    ·exact h.apart e1 h1 e0 he0 (by rw[hk0];exact h3) g hg (ho▸h6)
    ·rw[h6]at hg';cases hg'
     have:=h.lt g (h.own e1 h1 g hg).1;omega
   ·rw[f4]
    exact h.apart e1 h1 e2 f1 hne g hg
 ·obtain⟨e1,h1,h2,_,h3⟩:=atKey_mem he
  rcases h3 with⟨h3,h4⟩ | ⟨h3,h4⟩
  ·rw[h4]at hg;exact vown g hg
  ·rw[h4]at hg
   obtain⟨q1,q2,q3,q4⟩:=h.own e1 h1 g hg
   exact⟨.inl q1,q2,q3,q4⟩
 ·rw[hsz];exact more_lt h.lt hk.size g hg
 ·rcases h5 with rfl | h5
  ·exact h.smb
  ·exact(o1 g h5).1
theorem noKey_mem {L:List (Ent Way)} {k:Way} {e:Ent Way}:e∈noKey L k ↔ e∈L∧e.key≠k:=by simp[noKey]
theorem RingsR.del (h:RingsR w S b pb mb ports lanes SP st L c sl) {k:Way} (hk:sl k=[]):
  RingsR (w.putObj mb (entsObj Way.val (noKey L k) c)) S b pb mb ports lanes SP st (noKey L k) c sl∧Keeps S w (w.putObj mb (entsObj Way.val (noKey L k) c)):=by
 have hW:Keeps (fun g=>g=mb) w (w.putObj mb (entsObj Way.val (noKey L k) c)):=Keeps.putM _ _ _ rfl
 have hsz:(w.putObj mb (entsObj Way.val (noKey L k) c)).heap.size=w.heap.size:=by simp[World.putObj]
 refine⟨⟨blk_keeps hW h.box h.bm,putObj_new _ (h.lt mb h.smb),h.pool.keeps hW (fun g hg e=>h.pmb (e▸hg)), ?_, ?_,fun e he=>h.clock e (noKey_mem.1 he).1,fun e he=>(h.rows e (noKey_mem.1 he).1).keeps hW (fun g hg e'=>(h.own e (noKey_mem.1 he).1 g hg).2.2.1 e'),fun k' hk'=> ?_,
  fun e he e' he'=>h.apart e (noKey_mem.1 he).1 e' (noKey_mem.1 he').1,fun e he=>h.own e (noKey_mem.1 he).1,h.sb,h.smb,h.bm,h.pb_,h.pmb,h.sp,fun g hg=>by rw[hsz];exact h.lt g hg⟩,hW.mono (fun g _ e=>e▸h.smb)⟩
 ·exact h.keys.sublist (List.filter_sublist.map _)
 ·exact h.borns.sublist (List.filter_sublist.map _)
 ·by_cases e:k'=k
  ·rw[e];exact hk
  ·exact h.gone k' (fun e' he' h2=>hk' e' (noKey_mem.2 ⟨he',by rw[h2];exact e⟩) h2)
theorem RingsR.key (h:RingsR w S b pb mb ports lanes SP st L c sl) {k:Way} (hk:∀e∈L,e.key≠k):
  RingsR (w.putObj mb (entsObj Way.val (L ++ [⟨k, .slice none 0 0,c⟩]) (c+1))) S b pb mb ports lanes SP st (L ++ [⟨k, .slice none 0 0,c⟩]) (c+1) sl∧Keeps S w (w.putObj mb (entsObj Way.val (L ++ [⟨k, .slice none 0 0,c⟩]) (c+1))):=by
 have hW:Keeps (fun g=>g=mb) w (w.putObj mb (entsObj Way.val (L ++ [⟨k, .slice none 0 0,c⟩]) (c+1))):=Keeps.putM _ _ _ rfl
 have hsz:(w.putObj mb (entsObj Way.val (L ++ [⟨k, .slice none 0 0,c⟩]) (c+1))).heap.size=w.heap.size:=by simp[World.putObj]
 have hm:∀e,e∈L ++ [(⟨k, .slice none 0 0,c⟩:Ent Way)]→e∈L∨e=⟨k, .slice none 0 0,c⟩:=fun e he=>by simpa using he
 refine⟨⟨blk_keeps hW h.box h.bm,putObj_new _ (h.lt mb h.smb),h.pool.keeps hW (fun g hg e=>h.pmb (e▸hg)), ?_, ?_,fun e he=> ?_,fun e he=> ?_,fun k' hk'=> ?_,
  fun e he e' he' hne g hg=> ?_,fun e he g hg=> ?_,h.sb,h.smb,h.bm,h.pb_,h.pmb,h.sp,fun g hg=>by rw[hsz];exact h.lt g hg⟩,hW.mono (fun g _ e=>e▸h.smb)⟩
 ·rw[List.map_append,List.nodup_append]
  refine⟨h.keys,by simp,fun a ha b hb=> ?_⟩
  obtain⟨e,he,rfl⟩:=List.mem_map.1 ha
  simp only[List.map_cons,List.map_nil,List.mem_singleton]at hb
  rw[hb];exact hk e he
 ·rw[List.map_append,List.nodup_append]
  refine⟨h.borns,by simp,fun a ha b hb=> ?_⟩
  obtain⟨e,he,rfl⟩:=List.mem_map.1 ha
  simp only[List.map_cons,List.map_nil,List.mem_singleton]at hb
  have:=h.clock e he
  omega
 ·rcases hm e he with he | rfl
  ·have:=h.clock e he;omega
  ·exact Nat.lt_succ_self c
 ·rcases hm e he with he | rfl
  ·exact(h.rows e he).keeps hW (fun g hg e'=>(h.own e he g hg).2.2.1 e')
  ·rw[h.gone k hk];exact QS.nil _ _ _
 ·exact h.gone k' (fun e he=>hk' e (List.mem_append_left _ he))
 ·rcases hm e he with he | rfl
  ·rcases hm e' he' with he' | rfl
   ·exact h.apart e he e' he' hne g hg
   ·intro h2;cases h2
  ·cases hg
 ·rcases hm e he with he | rfl
  ·exact h.own e he g hg
  ·cases hg
end
end Go.Proofs.YtebnflpanfmicaaGreatDoor
namespace Go.Proofs.YtebnflpanfmicaaGreatDoor
open Go.RowKit
section
variable {w w':World} {S SP F:Nat→Prop} {b pb mb:Nat} {ports lanes:Int} {st:PoolS} {L:List (Ent Way)} {c:Nat} {sl:Way→List Nat}
theorem atBorn_key {e1:Ent Way} (hk:(L.map (·.key)).Nodup) (hb:(L.map (·.born)).Nodup) (he:e1∈L) (u:Value):atBorn L e1.born u=atKey L e1.key u:=by
 unfold atBorn atKey
 apply List.map_congr_left
 intro e h
 obtain⟨i,hi,rfl⟩:=List.mem_iff_getElem.1 he
 obtain⟨j,hj,rfl⟩:=List.mem_iff_getElem.1 h
 have h1:L[j].born=L[i].born ↔ L[j].key=L[i].key:=by
  constructor
  ·intro h2
   have:=nodup_inj hb (i:=j) (j:=i) (by simpa using hj) (by simpa using hi) (by simpa using h2)
   subst this;rfl
  ·intro h2
   have:=nodup_inj hk (i:=j) (j:=i) (by simpa using hj) (by simpa using hi) (by simpa using h2)
   subst this;rfl
 by_cases h2:L[j].key=L[i].key
 ·rw[if_pos (h1.2 h2),if_pos h2]
 ·rw[if_neg (fun h3=>h2 (h1.1 h3)),if_neg h2]
theorem RingsR.entry (h:RingsR w S b pb mb ports lanes SP st L c sl) (k:Way):∃(L1:List (Ent Way)) (c1:Nat) (e1:Ent Way),e1∈L1∧e1.key=k∧
  (∀W:World,W.heap[mb]? =some (entsObj Way.val L c)→(Instr.mapEntry 227 (.map (some mb)) (.agg #[.int .i64 k.inp, .int .i64 k.out, .int .i64 k.lane])).run Tryz.prog W= .ok (.tuple #[e1.val, .int .i64 (e1.born:Int)]) (W.putObj mb (entsObj Way.val L1 c1)))∧
  RingsR (w.putObj mb (entsObj Way.val L1 c1)) S b pb mb ports lanes SP st L1 c1 sl∧Keeps S w (w.putObj mb (entsObj Way.val L1 c1))∧IQ w e1.val (sl k)∧(∀g,e1.val.ownBlock=some g→S g∧g≠b∧g≠mb)∧
  (∀(W:World) (u:Value),W.heap[mb]? =some (entsObj Way.val L1 c1)→(Instr.entryStore 227 (.map (some mb)) (.int .i64 (e1.born:Int)) u).run Tryz.prog W= .ok () (W.putObj mb (entsObj Way.val (atKey L1 k u) c1))):=by
 have hrun:=fun W hb=>run_entry_at (P:=Tryz.prog) way_ok Tryz.underlying227 zero_ints W mb L c k hb
 rcases look_case L k with⟨h1,_,h3⟩ | ⟨i,e,h0,h1,h2,h3,h4⟩
 ·obtain⟨r1,r2⟩:=h.key h1
  refine⟨L ++ [⟨k, .slice none 0 0,c⟩],c+1,⟨k, .slice none 0 0,c⟩,by simp,rfl,fun W hb=> ?_,r1,r2,by rw[h.gone k h1];exact QS.nil _ _ _,(fun g hg=>by cases hg),fun W u hb=> ?_⟩
  ·have:=hrun W hb
   rw[h3]at this
   exact this
  ·have:=run_store_at (P:=Tryz.prog) (T:=227) W mb _ (c+1) c u r1.borns ⟨⟨k, .slice none 0 0,c⟩,by simp,rfl⟩ hb
   rw[this]
   rw[atBorn_key (e1:=⟨k, .slice none 0 0,c⟩) r1.keys r1.borns (by simp) u]
 ·have hp:w.putObj mb (entsObj Way.val L c)=w:=by
   unfold World.putObj
   have:w.heap.setIfInBounds mb (entsObj Way.val L c)=w.heap:=by
    apply Array.ext_getElem?
    intro j
    by_cases e':mb=j
    ·subst e'
     rw[Array.getElem?_setIfInBounds_self_of_lt (h.lt mb h.smb),h.map]
    ·rw[Array.getElem?_setIfInBounds_ne e']
   rw[this]
  refine⟨L,c,e,h2,h3,fun W hb=> ?_,by rw[hp];exact h,by rw[hp];exact Keeps.refl _ _,by rw[←h3];exact h.rows e h2,fun g hg=> ?_,fun W u hb=> ?_⟩
  ·have:=hrun W hb
   rw[h0]at this
   simp only[h1,Option.map_some,Option.getD_some]at this
   exact this
  ·obtain⟨q1,q2,q3,_⟩:=h.own e h2 g hg
   exact⟨q1,q2,q3⟩
  ·have:=run_store_at (P:=Tryz.prog) (T:=227) W mb _ c e.born u h.borns ⟨e,h2,rfl⟩ hb
   rw[this,atBorn_key h.keys h.borns h2 u,h3]
end
theorem keeps_put2 (w:World) (b:Nat) (o o1:Obj) (h:b < w.heap.size):Keeps (fun _=>False) (w.putObj b o1) ((w.alloc o).putObj b o1):=by
 refine⟨rfl,rfl,rfl,by simp[World.putObj],fun i hi _=> ?_⟩
 by_cases e:i=b
 ·subst e
  rw[putObj_new _ h,putObj_new _ (by simp;omega)]
 ·rw[World.putObj_heap_other e,World.putObj_heap_other e]
  exact Below.heap_alloc w o i (by simpa[World.putObj]using hi)
set_option maxRecDepth 100000 in
set_option maxHeartbeats 4000000 in
theorem push_no (b pb mb:Nat) (ports lanes:Int) (k:Way) (x:Pkt) (w:World) (c0:w.cell? ⟨b,0,none⟩=some (.pointer (some ⟨pb,0,none⟩)))
  (hr:∀W,Keeps (fun _=>False) w W→Calls Tryz.prog 208 #[.pointer (some ⟨b,0,none⟩),k.val] W fun e w'=>e= .returned (.bool true)∧Keeps (fun _=>False) W w')
  (hp:∀W,Keeps (fun _=>False) w W→Calls Tryz.prog 209 #[.pointer (some ⟨pb,0,none⟩),x.val] W fun e w'=>e= .returned (.tuple #[.int .i64 0, .bool false])∧Keeps (fun _=>False) W w'):
  Calls Tryz.prog 171 #[.pointer (some ⟨b,0,none⟩), .int .i64 k.inp, .int .i64 k.out, .int .i64 k.lane,x.val] w fun e w'=>e= .returned (.bool false)∧Keeps (fun _=>False) w w':=by
 have hb:=World.block_lt_of_cell? w _ c0
 simp only at hb
 obtain⟨k1,k2,k3⟩:=k
 obtain⟨x1,x2,x3,x4⟩:=x
 have HR:=Lib.hid hr
 have HP:=Lib.hid hp
 clear hr hp
 go_enter Tryz.func171,Tryz.ntmps171
 go_wp2_with fail
 have hk0:=(Keeps.alloc (fun _=>False) w (.cells #[.int .i64 x1, .int .i64 x2, .int .i64 x3, .int .u32 x4] 31)).trans (Keeps.alloc (fun _=>False) _ (.cells #[.int .i64 k1, .int .i64 k2, .int .i64 k3] 231))
 have hx0:PktAt ((w.alloc (.cells #[.int .i64 x1, .int .i64 x2, .int .i64 x3, .int .u32 x4] 31)).alloc (.cells #[.int .i64 k1, .int .i64 k2, .int .i64 k3] 231)) w.heap.size ⟨x1,x2,x3,x4⟩:=blk_alloc (blk_new w _) _
 refine(HR.out _ hk0).mono ?_
 rintro e V ⟨rfl,hkV⟩
 have hx1:=blk_keeps hkV hx0 (fun h=>h)
 have d0:=(hk0.trans hkV).cell c0 (fun h=>h)
 have hkV':=hk0.trans hkV
 obtain⟨y0,y1,y2,y3⟩:=PktAt.cells (x:=⟨x1,x2,x3,x4⟩) hx1
 simp only at y0 y1 y2 y3
 clear hx0 hx1 hkV hk0 c0 HR
 generalize w.heap.size=xb at*
 have HP2:=Lib.hid (p:=∀W,Keeps (fun _=>False) V W→Calls _ _ _ _ _) fun W hW=>HP.out W (hkV'.trans hW)
 have hd:Keeps (fun _=>False) V V.drew:=Keeps.drew _ _
 clear HP
 go_wp2_with fail
 go_region_held3 (fun W=>W.cell? ⟨b,0,none⟩=some (.pointer (some ⟨pb,0,none⟩))∧W.cell? ⟨xb,0,none⟩=some (.int .i64 x1)∧W.cell? ⟨xb,1,none⟩=some (.int .i64 x2)∧W.cell? ⟨xb,2,none⟩=some (.int .i64 x3)∧W.cell? ⟨xb,3,none⟩=some (.int .u32 x4))
  (first | go_keep | exact⟨hW.cell d0 (fun h=>h),hW.cell y0 (fun h=>h),hW.cell y1 (fun h=>h),hW.cell y2 (fun h=>h),hW.cell y3 (fun h=>h)⟩)
  (first | (go_at_call 209;refine(HP2.out _ hd).mono ?_;rintro e W ⟨rfl,hW0⟩;have hW:=hd.trans hW0))
 go_wp2_with fail
 go_ret
 exact⟨rfl,hkV'.trans hW⟩
theorem info_i:(Tryz.prog.info? 3).map (fun i=>(i.zero,i.size,i.bytes))=some (some (.int .i64 0),1,8):=by kernel_rfl
set_option maxRecDepth 100000 in
set_option maxHeartbeats 8000000 in
theorem push_low (b pb mb:Nat) (ports lanes:Int) (k:Way) (x:Pkt) (w:World) (j:Nat) (S SP:Nat→Prop) (st st':PoolS) (L:List (Ent Way)) (c:Nat) (sl:Way→List Nat) (h:RingsR w S b pb mb ports lanes SP st L c sl)
  (hr:∀W,Keeps (fun _=>False) w W→Calls Tryz.prog 208 #[.pointer (some ⟨b,0,none⟩),k.val] W fun e w'=>e= .returned (.bool true)∧Keeps (fun _=>False) W w')
  (hp:∀W,Keeps (fun _=>False) w W→Calls Tryz.prog 209 #[.pointer (some ⟨pb,0,none⟩),x.val] W fun e w'=>e= .returned (.tuple #[.int .i64 j, .bool true])∧Keeps SP W w'∧PoolV w' (more SP W w') pb st')
  (hsl:(sl k).length≤200):
  Calls Tryz.prog 171 #[.pointer (some ⟨b,0,none⟩), .int .i64 k.inp, .int .i64 k.out, .int .i64 k.lane,x.val] w fun e w'=>e= .returned (.bool true)∧Keeps S w w'∧
   ∃SP' L' c',RingsR w' (more S w w') b pb mb ports lanes SP' st' L' c' (setW sl k (sl k ++ [j])):=by
 have hb:=h.lt b h.sb
 obtain⟨c0,c1,_,_⟩:=h.cells
 obtain⟨kk,hkk⟩:∃kk,k=kk:=⟨_,rfl⟩
 have HK:=Lib.hid hkk
 obtain⟨x1,x2,x3,x4⟩:=x
 have HR:=Lib.hid hr
 have HP:=Lib.hid hp
 clear hr hp
 have H:=Lib.hid h
 clear h
 obtain⟨k1,k2,k3⟩:=k
 go_enter Tryz.func171,Tryz.ntmps171
 clear hkk
 go_wp2_with fail
 have hk0:=(Keeps.alloc (fun _=>False) w (.cells #[.int .i64 x1, .int .i64 x2, .int .i64 x3, .int .u32 x4] 31)).trans (Keeps.alloc (fun _=>False) _ (.cells #[.int .i64 k1, .int .i64 k2, .int .i64 k3] 231))
 have hx0:PktAt ((w.alloc (.cells #[.int .i64 x1, .int .i64 x2, .int .i64 x3, .int .u32 x4] 31)).alloc (.cells #[.int .i64 k1, .int .i64 k2, .int .i64 k3] 231)) w.heap.size ⟨x1,x2,x3,x4⟩:=blk_alloc (blk_new w _) _
 have hy0:=blk_new' (n:=w.heap.size+1) (w.alloc (.cells #[.int .i64 x1, .int .i64 x2, .int .i64 x3, .int .u32 x4] 31)) (.cells #[.int .i64 k1, .int .i64 k2, .int .i64 k3] 231) (by simp)
 refine(HR.out _ hk0).mono ?_
 rintro e V ⟨rfl,hkV⟩
 have hx1:=blk_keeps hkV hx0 (fun h=>h)
 have hy1:=blk_keeps hkV hy0 (fun h=>h)
 have d0:=(hk0.trans hkV).cell c0 (fun h=>h)
 have hkV':=hk0.trans hkV
 have HV:=Lib.hid (H.out.keeps hkV' (fun _ _ h=>h))
 obtain⟨y0,y1,y2,y3⟩:=PktAt.cells (x:=⟨x1,x2,x3,x4⟩) hx1
 simp only at y0 y1 y2 y3
 clear hx0 hy0 hx1 hkV hk0 c0 c1 HR
 obtain⟨xb,hxb⟩:∃xb,w.heap.size=xb:=⟨_,rfl⟩
 have HXB:=Lib.hid hxb
 rw[hxb]at y0 y1 y2 y3 hy1 hb ⊢
 clear hxb
 have HY:=Lib.hid hy1
 clear hy1
 have HP2:=Lib.hid (p:=∀W,Keeps (fun _=>False) V W→Calls Tryz.prog 209 #[.pointer (some ⟨pb,0,none⟩), .agg #[.int .i64 x1, .int .i64 x2, .int .i64 x3, .int .u32 x4]] W fun e w'=>e= .returned (.tuple #[.int .i64 j, .bool true])∧Keeps SP W w'∧PoolV w' (more SP W w') pb st') fun W hW=>HP.out W (hkV'.trans hW)
 have hd:Keeps (fun _=>False) V V.drew:=Keeps.drew _ _
 have hnS:∀g,SP g→g < xb:=fun g hg=>by have:=H.out.lt g (H.out.sp g hg);rw[HXB.out]at this;exact this
 have HS:=Lib.hid (p:=∀W,Keeps SP V W→W.cell? ⟨b,0,none⟩=some (.pointer (some ⟨pb,0,none⟩))∧W.cell? ⟨xb,0,none⟩=some (.int .i64 x1)∧W.cell? ⟨xb,1,none⟩=some (.int .i64 x2)∧W.cell? ⟨xb,2,none⟩=some (.int .i64 x3)∧W.cell? ⟨xb,3,none⟩=some (.int .u32 x4)) fun W hW=>
  ⟨hW.cell d0 H.out.pb_,hW.cell y0 (fun h=>by have:=hnS _ h;simp at this),hW.cell y1 (fun h=>by have:=hnS _ h;simp at this),hW.cell y2 (fun h=>by have:=hnS _ h;simp at this),hW.cell y3 (fun h=>by have:=hnS _ h;simp at this)⟩
 have hdS:Keeps SP V V.drew:=Keeps.drew _ _
 clear HP
 have HNS:=Lib.hid hnS
 clear hnS y0 y1 y2 y3 d0
 go_wp2_with fail
 go_region_held3 (fun W=>W.cell? ⟨b,0,none⟩=some (.pointer (some ⟨pb,0,none⟩))∧W.cell? ⟨xb,0,none⟩=some (.int .i64 x1)∧W.cell? ⟨xb,1,none⟩=some (.int .i64 x2)∧W.cell? ⟨xb,2,none⟩=some (.int .i64 x3)∧W.cell? ⟨xb,3,none⟩=some (.int .u32 x4))
  (first | exact HS.out _ (by assumption))
  (first | (go_at_call 209;refine(HP2.out _ hd).mono ?_;rintro e W ⟨rfl,hW,hPW⟩;have hWV:=hdS.trans hW))
 have h2:=HV.out.pooled hWV hPW
 have hyW:=blk_keeps hWV HY.out (fun h=>by have:=HNS.out _ h;omega)
 have k0:=blk_cell hyW 0;have k1':=blk_cell hyW 1;have k2':=blk_cell hyW 2
 simp only[List.getElem?_toArray,List.getElem?_cons_zero,List.getElem?_cons_succ]at k0 k1' k2'
 have m1:=h2.cells.2.1
 have hkW:Keeps S w W:=(hkV'.mono (fun _ _ h=>h.elim)).trans (hWV.mono (fun g _ hg=>HV.out.sp g hg))
 obtain⟨L1,n1,e1,he1,hek,hE,hR1,hK1,hq1,hown1,hES⟩:=h2.entry ⟨k1,k2,k3⟩
 have hmW:=h2.map
 obtain⟨o0,ho0⟩:∃o,entsObj Way.val L c=o:=⟨_,rfl⟩
 obtain⟨o1,ho1⟩:∃o,entsObj Way.val L1 n1=o:=⟨_,rfl⟩
 obtain⟨o2,ho2⟩:∃o:Value→Obj,(fun u=>entsObj Way.val (atKey L1 ⟨k1,k2,k3⟩ u) n1)=o:=⟨_,rfl⟩
 have ho2':∀u,entsObj Way.val (atKey L1 ⟨k1,k2,k3⟩ u) n1=o2 u:=fun u=>congrFun ho2 u
 rw[ho0]at hmW hE
 rw[ho1]at hE hES
 simp only[ho2']at hES
 obtain⟨A,cap,hv,hcap,hcm⟩:=hq1.shape
 have hbW:=blk_lt h2.box
 have hmbW:=blk_lt h2.map
 have hbm:=h2.bm
 have hyl:=blk_lt hyW
 have HOW:=Lib.hid hown1
 obtain⟨v0,hv0⟩:∃v,e1.val=v:=⟨_,rfl⟩
 have hvb:∀g,v0.ownBlock=some g→g≠mb∧g≠b∧g < W.heap.size:=fun g hg=>⟨(hown1 g (hv0▸hg)).2.2,(hown1 g (hv0▸hg)).2.1,hq1.lt g (hv0▸hg)⟩
 have hxbS:∀g,v0.ownBlock=some g→g≠xb+1:=fun g hg e=>by
  have h3:=(hown1 g (hv0▸hg)).1
  rcases h3 with h3 | h3
  ·have:=H.out.lt g h3;rw[HXB.out]at this;omega
  ·have:=blk_lt HY.out;omega
 have hmx:mb≠xb+1:=fun e=>by have:=H.out.lt mb H.out.smb;rw[HXB.out]at this;omega
 have E0:(Instr.mapEntry 227 (.map (some mb)) (.agg #[.int .i64 k1, .int .i64 k2, .int .i64 k3])).run Tryz.prog W.drew= .ok (.tuple #[v0, .int .i64 (e1.born:Int)]) (W.drew.putObj mb o1):=by rw[←hv0];exact hE W.drew hmW
 have E1:∀o,(Instr.mapEntry 227 (.map (some mb)) (.agg #[.int .i64 k1, .int .i64 k2, .int .i64 k3])).run Tryz.prog (W.alloc o).drew= .ok (.tuple #[v0, .int .i64 (e1.born:Int)]) ((W.alloc o).drew.putObj mb o1):=fun o=>by rw[←hv0];exact hE _ (blk_alloc hmW o)
 have K1:=Lib.hid (p:=∀o,Keeps (fun g=>g=mb∨v0.ownBlock=some g) W (W.alloc o).drew) fun o=>(Keeps.alloc _ W o).trans (Keeps.drew _ _)
 have K2:=Lib.hid (p:=∀o,Keeps (fun g=>g=mb∨v0.ownBlock=some g) W ((W.alloc o).drew.putObj mb o1)) fun o=>(K1.out o).trans (Keeps.putM _ _ _ (.inl rfl))
 have K3:=Lib.hid (p:=Keeps (fun g=>g=mb∨v0.ownBlock=some g) W (W.drew.putObj mb o1)) ((Keeps.drew _ W).trans (Keeps.putM _ _ _ (.inl rfl)))
 have K4:=Lib.hid (p:=∀o,Keeps (fun g=>g=mb∨v0.ownBlock=some g) W ((W.drew.putObj mb o1).alloc o)) fun o=>K3.out.trans (Keeps.alloc _ _ _)
 have K5:=Lib.hid (p:=∀U u,Keeps (fun g=>g=mb∨v0.ownBlock=some g) W U→Keeps (fun g=>g=mb∨v0.ownBlock=some g) W (U.putObj mb (o2 u))) fun U u hU=>hU.trans (Keeps.putM _ _ _ (.inl rfl))
 have hd2:Keeps (fun g=>g=mb∨v0.ownBlock=some g) W W.drew:=Keeps.drew _ _
 have HS6:=Lib.hid (p:=∀U,Keeps (fun g=>g=mb∨v0.ownBlock=some g) W U→U.cell? ⟨b,1,none⟩=some (.map (some mb))∧U.cell? ⟨xb+1,0,none⟩=some (.int .i64 k1)∧U.cell? ⟨xb+1,1,none⟩=some (.int .i64 k2)∧U.cell? ⟨xb+1,2,none⟩=some (.int .i64 k3)) fun U hU=>
  ⟨hU.cell m1 (fun h=>by rcases h with h | h;exact hbm h;exact(hvb _ h).2.1 rfl),hU.cell k0 (fun h=>by rcases h with h | h;exact hmx h.symm;exact hxbS _ h rfl),hU.cell k1' (fun h=>by rcases h with h | h;exact hmx h.symm;exact hxbS _ h rfl),hU.cell k2' (fun h=>by rcases h with h | h;exact hmx h.symm;exact hxbS _ h rfl)⟩
 have hQ0:QS W 3 1 v0 (sl ⟨k1,k2,k3⟩).length ((sl ⟨k1,k2,k3⟩).map encN):=hv0▸hq1
 have QA:=Lib.hid (p:=∀o,QS ((W.alloc o).drew.putObj mb o1) 3 1 v0 (sl ⟨k1,k2,k3⟩).length ((sl ⟨k1,k2,k3⟩).map encN)) fun o=>((hQ0.alloc o).drew).keeps (Keeps.putM (F:=fun g=>g=mb) _ _ _ rfl) (fun g hg e=>(hvb g hg).1 e)
 have QB:=Lib.hid (p:=∀o,QS ((W.drew.putObj mb o1).alloc o) 3 1 v0 (sl ⟨k1,k2,k3⟩).length ((sl ⟨k1,k2,k3⟩).map encN)) fun o=>((hQ0.drew).keeps (Keeps.putM (F:=fun g=>g=mb) _ _ _ rfl) (fun g hg e=>(hvb g hg).1 e)).alloc o
 have hzB:(W.drew.putObj mb o1).heap.size=W.heap.size:=by simp[World.putObj]
 have SA:=Lib.hid (p:=Src Tryz.prog 1 35 (.slice (some ⟨W.heap.size,0,none⟩) 1 1) 1 [encN j] ((W.alloc (.cells #[.int .i64 (j:Int)] 3)).drew.putObj mb o1))
  (src_blk Tryz.underlying35 (putObj_far (blk_new W _) (by omega)) rfl (by intro jj hjj';match jj,hjj' with | 0,_=>rfl) (by intro u hu;simp at hu;rcases hu with rfl;rfl))
 have SB:=Lib.hid (p:=Src Tryz.prog 1 35 (.slice (some ⟨W.heap.size,0,none⟩) 1 1) 1 [encN j] ((W.drew.putObj mb o1).alloc (.cells #[.int .i64 (j:Int)] 3)))
  (src_blk Tryz.underlying35 (blk_new' _ _ hzB) rfl (by intro jj hjj';match jj,hjj' with | 0,_=>rfl) (by intro u hu;simp at hu;rcases hu with rfl;rfl))
 have MA:=Lib.hid (p:=∀o U,((W.alloc o).drew.putObj mb o1).grownBy U v0.ownBlock→U.heap[mb]? =some o1∧Keeps (fun g=>g=mb∨v0.ownBlock=some g) W U∧Keeps (fun g=>v0.ownBlock=some g) (W.putObj mb o1) U) fun o U hg=>
  ⟨(hg.block mb (by simp[World.putObj];omega) (fun e=>(hvb mb e.symm).1 rfl)).trans (putObj_new _ (by simp;omega)),(K2.out o).trans (Keeps.grown hg (fun i hi=> .inr hi)),((keeps_put2 W mb o o1 (by omega)).mono (fun _ _ h=>h.elim)).trans ((show Keeps (fun g=>v0.ownBlock=some g) ((W.alloc o).putObj mb o1) ((W.alloc o).drew.putObj mb o1)from⟨rfl,rfl,rfl,Nat.le_refl _,fun _ _ _=>rfl⟩).trans (Keeps.grown hg (fun i hi=>hi)))⟩
 have MB:=Lib.hid (p:=∀o U,((W.drew.putObj mb o1).alloc o).grownBy U v0.ownBlock→U.heap[mb]? =some o1∧Keeps (fun g=>g=mb∨v0.ownBlock=some g) W U∧Keeps (fun g=>v0.ownBlock=some g) (W.putObj mb o1) U) fun o U hg=>
  ⟨(hg.block mb (by simp[World.putObj];omega) (fun e=>(hvb mb e.symm).1 rfl)).trans (blk_alloc (putObj_new _ (by simp;omega)) _),(K4.out o).trans (Keeps.grown hg (fun i hi=> .inr hi)),(show Keeps (fun g=>v0.ownBlock=some g) (W.putObj mb o1) (W.drew.putObj mb o1)from⟨rfl,rfl,rfl,Nat.le_refl _,fun _ _ _=>rfl⟩).trans ((Keeps.alloc (fun g=>v0.ownBlock=some g) (W.drew.putObj mb o1) o).trans (Keeps.grown hg (fun i hi=>hi)))⟩
 have ZA:=Lib.hid (p:=∀o (u:Value),(u.ownBlock=v0.ownBlock∨∃g,u.ownBlock=some g∧((W.alloc o).drew.putObj mb o1).heap.size≤g)→(u.ownBlock=v0.ownBlock∨∃g,u.ownBlock=some g∧(W.putObj mb o1).heap.size≤g)) fun o u h=>
  h.imp id (fun⟨g,h1,h2⟩=>⟨g,h1,by simp[World.putObj]at h2 ⊢;omega⟩)
 have ZB:=Lib.hid (p:=∀o (u:Value),(u.ownBlock=v0.ownBlock∨∃g,u.ownBlock=some g∧((W.drew.putObj mb o1).alloc o).heap.size≤g)→(u.ownBlock=v0.ownBlock∨∃g,u.ownBlock=some g∧(W.putObj mb o1).heap.size≤g)) fun o u h=>
  h.imp id (fun⟨g,h1,h2⟩=>⟨g,h1,by simp[World.putObj]at h2 ⊢;omega⟩)
 have h8:0 < 8:=by decide
 have hb8:((sl ⟨k1,k2,k3⟩).length+1)*8≤140737488355328:=by omega
 have HV0:=Lib.hid hv0
 have HE1:=Lib.hid (And.intro he1 hek)
 have HR1:=Lib.hid hR1
 have HK1:=Lib.hid hK1
 have H2:=Lib.hid h2
 have HO:=Lib.hid (And.intro ho1 ho2')
 have HKW:=Lib.hid hkW
 have hWV':=Lib.hid hWV
 have HVB:=Lib.hid hvb
 have HQ0:=Lib.hid hQ0
 clear he1 hek hE hR1 hK1 hq1 hown1 hmW ho0 ho1 ho2 ho2' hv hcap hcm hvb hxbS hQ0 h2 hkW hWV hW hPW hv0
 go_wp2_with fail
 go_region_held3 (fun U=>U.cell? ⟨b,1,none⟩=some (.map (some mb))∧U.cell? ⟨xb+1,0,none⟩=some (.int .i64 k1)∧U.cell? ⟨xb+1,1,none⟩=some (.int .i64 k2)∧U.cell? ⟨xb+1,2,none⟩=some (.int .i64 k3))
  (with_reducible first | exact HS6.out _ hd2 | exact HS6.out _ (K1.out _) | exact HS6.out _ (K2.out _) | exact HS6.out _ K3.out | exact HS6.out _ (K4.out _) | exact HS6.out _ (by assumption) | exact HS6.out _ (K5.out _ _ (by assumption)))
  (first
   | (refine step_append_QS rfl (.tmp 37) (.tmp 39) 35 35 rfl 3 _ 1 8 Tryz.underlying35 info_i rfl _ _ _ rfl (QA.out _) _ 1 _ rfl SA.out h8 hb8 ?_;intro A1 cp1 U hq hg ho;obtain⟨hmU,hkU,hkB⟩:=MA.out _ _ hg;have hoB:=ZA.out _ _ ho)
   | (refine step_append_QS rfl (.tmp 37) (.tmp 39) 35 35 rfl 3 _ 1 8 Tryz.underlying35 info_i rfl _ _ _ rfl (QB.out _) _ 1 _ rfl SB.out h8 hb8 ?_;intro A1 cp1 U hq hg ho;obtain⟨hmU,hkU,hkB⟩:=MB.out _ _ hg;have hoB:=ZB.out _ _ ho))
 all_goals
  clear QA QB SA SB MA MB K1 K2 K3 K4 K5 HS6 E0 E1 hES hd2
  go_wp2_with fail
  go_ret
  obtain⟨q1,q2⟩:=HE1.out
  obtain⟨p1,p2⟩:=HO.out
  have hR:=HR1.out
  rw[←HV0.out]at hkB hoB
  rw[←p1]at hkB hoB
  have hqq:IQ U (.slice A1 ((sl ⟨k1,k2,k3⟩).length+1) cp1) (sl ⟨k1,k2,k3⟩ ++ [j]):=by
   unfold IQ
   rw[List.length_append,List.map_append]
   exact hq
  obtain⟨r1,r2⟩:=hR.set q1 q2 hkB hqq hoB
  rw[p2]at r1 r2
  have hs1:=HK1.out.size
  have hs2:=hkB.size
  have hz2:w.heap.size≤V.heap.size:=hkV'.size
  have hfin:=HKW.out.then (hkU.trans (Keeps.putM U mb (o2 (.slice A1 ((sl ⟨k1,k2,k3⟩).length+1) cp1)) (.inl rfl))) (fun i hi h=>by
   rcases h with rfl | h
   ·exact H.out.smb
   ·rcases(HOW.out i (by rw[HV0.out];exact h)).1 with h3 | h3
    ·exact h3
    ·omega)
  refine⟨rfl,hfin,_,_,_,r1.grown (fun g hg=> ?_) (more_lt H.out.lt hfin.size)⟩
  have hz3:=hWV'.out.size
  have hz4:(U.putObj mb (o2 (.slice A1 ((sl ⟨k1,k2,k3⟩).length+1) cp1))).heap.size=U.heap.size:=by simp[World.putObj]
  unfold more
  rw[hz4]
  rcases hg with(hg | hg) | hg
  ·exact .inl hg
  ·exact .inr (by omega)
  ·exact .inr (by omega)
def pushQ (Q:Way→List Pkt) (free:Nat) (k:Way) (x:Pkt):Way→List Pkt:=if free=0 then Q else setW Q k (Q k ++ [x])
theorem push_runs (b:Nat) (S:Nat→Prop) (ports lanes:Int) (free:Nat) (Q:Way→List Pkt) (w:World) (h:RingsV w S b ports lanes free Q) (k:Way) (x:Pkt)
  (hi:0≤k.inp∧k.inp < ports) (ho:0≤k.out∧k.out < ports) (hl:0≤k.lane∧k.lane < lanes):
  Calls Tryz.prog 171 #[.pointer (some ⟨b,0,none⟩), .int .i64 k.inp, .int .i64 k.out, .int .i64 k.lane,x.val] w fun e w'=>e= .returned (.bool (decide (free≠0)))∧Keeps S w w'∧
   RingsV w' (more S w w') b ports lanes (free - 1) (pushQ Q free k x):=by
 obtain⟨pb,mb,SP,st,L,c,sl,F,h,h2,h3,h4⟩:=h
 have hr:∀W,Keeps (fun _=>False) w W→Calls Tryz.prog 208 #[.pointer (some ⟨b,0,none⟩),k.val] W fun e w'=>e= .returned (.bool true)∧Keeps (fun _=>False) W w':=fun W hW=>by
  have h5:=(h.keeps hW (fun _ _ h=>h)).cells
  exact right_runs b ports lanes W k h5.2.2.1 h5.2.2.2 hi ho hl
 unfold pushQ
 by_cases hf:free=0
 ·subst hf
  have ht:=h2.full.2 h3
  rw[if_pos rfl,decide_eq_false (by simp)]
  refine(push_no b pb mb ports lanes k x w h.cells.1 hr (fun W hW=> ?_)).mono ?_
  ·obtain⟨sb,raw,fr,hp⟩:=h.pool.keeps hW (fun _ _ h=>h)
   exact put_no pb sb raw fr st SP W hp x ht
  ·rintro e w' ⟨rfl,hk⟩
   exact⟨rfl,hk.mono (fun _ _ h=>h.elim),pb,mb,SP,st,L,c,sl,F,(h.keeps hk (fun _ _ h=>h)).grown (fun _ h=> .inl h) (more_lt h.lt hk.size),h2,h3,h4⟩
 ·rw[if_neg hf,decide_eq_true (by simpa using hf)]
  cases F with
  | nil=>exact absurd h3.symm hf
  | cons j F=>
    obtain⟨ht,hP⟩:=h2.put k x
    have hsl:=h2.small k
    refine(push_low b pb mb ports lanes k x w j S SP st (putP st x) L c sl h hr (fun W hW=> ?_) (by omega)).mono ?_
    ·refine(put_runs pb st SP W (h.pool.keeps hW (fun _ _ h=>h)) h2.top x).mono ?_
     rintro e w' ⟨rfl,h5,h6⟩
     refine⟨?_,h5,h6⟩
     rw[if_neg (by omega),decide_eq_true (by omega),ht]
    ·rintro e w' ⟨rfl,hk,SP',L',c',hR⟩
     refine⟨rfl,hk,pb,mb,SP',_,L',c',_,F,hR,hP, ?_, ?_⟩
     ·rw[←h3];rfl
     ·obtain⟨_,z,hz,_⟩:=h2.chain
      rw[putP_yes st x j ht none z hz,List.length_set];exact h4
end Go.Proofs.YtebnflpanfmicaaGreatDoor
