/-
  Part 1 of the proof: Base, MaskPure.
-/
import Derived.WalkKit
import Derived.WalkSpells
import Derived.WalkLawsBesides
import Derived.Deep.AppendSrc
import Derived.Deep.RegionLaw
import Derived.Lib.Hide
import Derived.KernelRfl
import Derived.Laws.BitsLemmas
set_option linter.unusedVariables false
set_option linter.unusedSimpArgs false
set_option linter.unusedSectionVars false
namespace Go.Proofs.YtebnflpanfmicaaGreatDoor
open Go.RowKit
structure Keeps (F:Nat→Prop) (w w':World):Prop where
 os:w'.os=w.os
 tape:w'.tape=w.tape
 output:w'.output=w.output
 size:w.heap.size≤w'.heap.size
 block:∀i,i < w.heap.size→¬F i→w'.heap[i]? =w.heap[i]?
theorem Keeps.refl (F:Nat→Prop) (w:World):Keeps F w w:=⟨rfl,rfl,rfl,Nat.le_refl _,fun _ _ _=>rfl⟩
theorem Keeps.trans {F:Nat→Prop} {a b c:World} (h:Keeps F a b) (k:Keeps F b c):Keeps F a c:=
 ⟨k.os.trans h.os,k.tape.trans h.tape,k.output.trans h.output,Nat.le_trans h.size k.size,
  fun i hi hn=>(k.block i (Nat.lt_of_lt_of_le hi h.size) hn).trans (h.block i hi hn)⟩
theorem Keeps.then {F G:Nat→Prop} {a b c:World} (h:Keeps F a b) (k:Keeps G b c) (hG:∀i,i < a.heap.size→G i→F i):Keeps F a c:=
 ⟨k.os.trans h.os,k.tape.trans h.tape,k.output.trans h.output,Nat.le_trans h.size k.size,
  fun i hi hn=>(k.block i (Nat.lt_of_lt_of_le hi h.size) (fun hg=>hn (hG i hi hg))).trans (h.block i hi hn)⟩
theorem Keeps.mono {F G:Nat→Prop} {w w':World} (h:Keeps F w w') (hF:∀i,i < w.heap.size→F i→G i):Keeps G w w':=
 ⟨h.os,h.tape,h.output,h.size,fun i hi hn=>h.block i hi (fun hf=>hn (hF i hi hf))⟩
theorem Keeps.alloc (F:Nat→Prop) (w:World) (o:Obj):Keeps F w (w.alloc o):=
 ⟨rfl,rfl,rfl,by simp,fun _ hi _=>Below.heap_alloc _ _ _ hi⟩
theorem Keeps.drew (F:Nat→Prop) (w:World):Keeps F w w.drew:=⟨rfl,rfl,rfl,Nat.le_refl _,fun _ _ _=>rfl⟩
theorem Keeps.drewN (F:Nat→Prop) (w:World) (n:Nat):Keeps F w (w.drewN n):=⟨rfl,rfl,rfl,Nat.le_refl _,fun _ _ _=>rfl⟩
theorem Keeps.setCell (F:Nat→Prop) (w:World) (a:Addr) (v:Value) (h:F a.block):Keeps F w (w.setCell a v):=
 ⟨rfl,rfl,rfl,by simp[World.setCell],fun i _ hn=>Below.heap_setCell _ _ _ _ (fun e=>hn (e▸h))⟩
theorem Keeps.grown {F:Nat→Prop} {w w':World} {row:Option Nat} (hg:w.grownBy w' row) (hr:∀k,row=some k→F k):Keeps F w w':=
 ⟨hg.os,hg.tape,hg.output,hg.size,fun i hi hn=>hg.block i hi (fun e=>hn (hr i e.symm))⟩
theorem Keeps.of_below {F:Nat→Prop} {w w':World} (h:Below w.heap.size w w'):Keeps F w w':=
 ⟨h.os,h.tape,h.output,h.size,fun i hi _=>h.block i hi⟩
theorem Keeps.below {F:Nat→Prop} {w w':World} (h:Keeps F w w') {B:Nat} (hB:B≤w.heap.size) (hF:∀i,i < B→¬F i):Below B w w':=
 ⟨h.os,h.tape,h.output,h.size,fun i hi=>h.block i (Nat.lt_of_lt_of_le hi hB) (hF i hi)⟩
theorem Keeps.cell {F:Nat→Prop} {w w':World} (h:Keeps F w w') {a:Addr} {v:Value} (hc:w.cell? a=some v) (hF:¬F a.block):w'.cell? a=some v:=
 (World.cell?_of_block (h.block a.block (World.block_lt_of_cell? w a hc) hF)).trans hc
theorem Keeps.frozen {F:Nat→Prop} {w w':World} (h:Keeps F w w') {a:Addr} {v:Value} (hc:w.cell? a=some v) (hF:¬F a.block):w'.frozen? a=w.frozen? a:=
 World.frozen?_of_block (h.block a.block (World.block_lt_of_cell? w a hc) hF)
theorem blk_lt {w:World} {b:Nat} {o:Obj} (h:w.heap[b]? =some o):b < w.heap.size:=(Array.getElem?_eq_some_iff.1 h).1
theorem blk_cell {w:World} {b:Nat} {cs:Array Value} {e:TypeId} (h:w.heap[b]? =some (.cells cs e (0,0))) (j:Nat):w.cell? ⟨b,j,none⟩=cs[j]? :=by
 simp[World.cell?,h]
theorem blk_frozen {w:World} {b:Nat} {cs:Array Value} {e:TypeId} (h:w.heap[b]? =some (.cells cs e (0,0))) (j:Nat):w.frozen? ⟨b,j,none⟩=false:=by
 simp[World.frozen?,h]
theorem blk_alloc {w:World} {b:Nat} {o:Obj} (h:w.heap[b]? =some o) (o':Obj):(w.alloc o').heap[b]? =some o:=(Below.heap_alloc _ _ _ (blk_lt h)).trans h
theorem blk_new (w:World) (o:Obj):(w.alloc o).heap[w.heap.size]? =some o:=heap_alloc_new w o
theorem blk_other {w:World} {b:Nat} {o:Obj} (h:w.heap[b]? =some o) (a:Addr) (v:Value) (hne:b≠a.block):(w.setCell a v).heap[b]? =some o:=
 (Below.heap_setCell _ _ _ _ hne).trans h
theorem blk_set {w:World} {b:Nat} {cs:Array Value} {e:TypeId} {fr:Nat×Nat} (h:w.heap[b]? =some (.cells cs e fr)) (j:Nat) (v:Value):
  (w.setCell ⟨b,j,none⟩ v).heap[b]? =some (.cells (cs.setIfInBounds j v) e fr):=by
 simp only[World.setCell,Array.getElem?_modify,if_true,h,Option.map_some,Option.isSome_none,Bool.false_eq_true,if_false]
theorem blk_keeps {F:Nat→Prop} {w w':World} (h:Keeps F w w') {b:Nat} {o:Obj} (hb:w.heap[b]? =some o) (hF:¬F b):w'.heap[b]? =some o:=
 (h.block b (blk_lt hb) hF).trans hb
theorem sc_far {g:Nat}:∀(vs:List Value) (o:Nat) {w:World} (k:Nat),k≠g→(w.setCells g o vs).heap[k]? =w.heap[k]?
 | [],_,_,_,_=>rfl
 | v :: r,o,w,k,hk=>by rw[World.setCells,sc_far r (o+1) k hk];exact Below.heap_setCell _ _ _ _ hk
theorem sc_same (g:Nat):∀(vs:List Value) (o:Nat) (w:World),(w.setCells g o vs).os=w.os∧(w.setCells g o vs).tape=w.tape∧(w.setCells g o vs).output=w.output∧(w.setCells g o vs).heap.size=w.heap.size
 | [],_,_=>⟨rfl,rfl,rfl,rfl⟩
 | v :: r,o,w=>by
   obtain⟨h1,h2,h3,h4⟩:=sc_same g r (o+1) (w.setCell ⟨g,o,none⟩ v)
   exact⟨h1,h2,h3,h4.trans (by simp[World.setCell])⟩
theorem sc_row {g:Nat} {e:TypeId} {fr:Nat×Nat}:∀(vs:List Value) (o:Nat) (w:World) (cur:Array Value),w.heap[g]? =some (.cells cur e fr)→
  ∃cur':Array Value,(w.setCells g o vs).heap[g]? =some (.cells cur' e fr)∧cur'.size=cur.size∧(∀j,(j < o∨o+vs.length≤j)→cur'[j]? =cur[j]?)∧
   (o+vs.length≤cur.size→∀j,j < vs.length→cur'[o+j]? =vs[j]?)
 | [],o,w,cur,h=>⟨cur,h,rfl,fun _ _=>rfl,fun _ j hj=>absurd hj (Nat.not_lt_zero _)⟩
 | v :: r,o,w,cur,h=>by
   obtain⟨cur',h1,h2,h3,h4⟩:=sc_row r (o+1) (w.setCell ⟨g,o,none⟩ v) _ (blk_set h o v)
   refine⟨cur',h1,by rw[h2];simp,fun j hj=> ?_,fun hle j hj=> ?_⟩
   ·simp only[List.length_cons]at hj
    rw[h3 j (by omega),Array.getElem?_setIfInBounds_ne (by omega)]
   ·simp only[List.length_cons]at hj hle
    match j,hj with
    | 0,_=>rw[Nat.add_zero,h3 o (by omega)];simp[Array.getElem?_setIfInBounds];omega
    | j+1,hj=>
      have:=h4 (by simp;omega) j (by omega)
      rw[show o+(j+1)=o+1+j by omega,this];simp
def QS (w:World) (e sz:Nat) (v:Value) (n:Nat) (cs:List Value):Prop:=
 cs.length=n*sz∧((v= .slice none 0 0∧n=0)∨
  ∃g off cap cur,v= .slice (some ⟨g,off,none⟩) n cap∧w.heap[g]? =some (.cells cur e (0,0))∧n≤cap∧cap≤maxLen∧off+cap*sz≤cur.size∧∀j,j < cs.length→cur[off+j]? =cs[j]?)
theorem QS.nil (w:World) (e sz:Nat):QS w e sz (.slice none 0 0) 0 []:=⟨by simp, .inl ⟨rfl,rfl⟩⟩
theorem QS.shape {w:World} {e sz n:Nat} {v:Value} {cs:List Value} (h:QS w e sz v n cs):∃A cap,v= .slice A n cap∧n≤cap∧cap≤maxLen:=by
 rcases h.2 with⟨rfl,rfl⟩ | ⟨g,off,cap,cur,rfl,_,h1,h2,_⟩
 ·exact⟨none,0,rfl,Nat.le_refl _,Nat.zero_le _⟩
 ·exact⟨_,cap,rfl,h1,h2⟩
theorem QS.lt {w:World} {e sz n:Nat} {v:Value} {cs:List Value} (h:QS w e sz v n cs):∀k,v.ownBlock=some k→k < w.heap.size:=by
 intro k hk
 rcases h.2 with⟨rfl,_⟩ | ⟨g,off,cap,cur,rfl,hg,_⟩
 ·simp[Value.ownBlock]at hk
 ·obtain rfl:g=k:=by simpa[Value.ownBlock]using hk
  exact blk_lt hg
theorem QS.typed {w:World} {e sz n:Nat} {v:Value} {cs:List Value} (h:QS w e sz v n cs):∀k,v.ownBlock=some k→∃cur,w.heap[k]? =some (.cells cur e (0,0)):=by
 intro k hk
 rcases h.2 with⟨rfl,_⟩ | ⟨g,off,cap,cur,rfl,hg,_⟩
 ·simp[Value.ownBlock]at hk
 ·obtain rfl:g=k:=by simpa[Value.ownBlock]using hk
  exact⟨cur,hg⟩
theorem QS.keeps {w w':World} {e sz n:Nat} {v:Value} {cs:List Value} (h:QS w e sz v n cs) {F:Nat→Prop} (hk:Keeps F w w') (hF:∀k,v.ownBlock=some k→¬F k):QS w' e sz v n cs:=by
 refine⟨h.1, ?_⟩
 rcases h.2 with hn | ⟨g,off,cap,cur,rfl,hg,rest⟩
 ·exact .inl hn
 ·exact .inr ⟨g,off,cap,cur,rfl,blk_keeps hk hg (hF g rfl),rest⟩
theorem QS.alloc {w:World} {e sz n:Nat} {v:Value} {cs:List Value} (h:QS w e sz v n cs) (o:Obj):QS (w.alloc o) e sz v n cs:=
 h.keeps (Keeps.alloc (fun _=>False) w o) (fun _ _ h=>h)
theorem QS.drew {w:World} {e sz n:Nat} {v:Value} {cs:List Value} (h:QS w e sz v n cs):QS w.drew e sz v n cs:=
 h.keeps (Keeps.drew (fun _=>False) w) (fun _ _ h=>h)
theorem QS.other {w:World} {e sz n:Nat} {v:Value} {cs:List Value} (h:QS w e sz v n cs) (a:Addr) (u:Value) (hne:∀k,v.ownBlock=some k→k≠a.block):QS (w.setCell a u) e sz v n cs:=
 h.keeps (Keeps.setCell (fun k=>k=a.block) w a u rfl) (fun k hk=>hne k hk)
theorem QS.cell {w:World} {e sz n:Nat} {v:Value} {cs:List Value} (h:QS w e sz v n cs) (hn:0 < n):∃g off cap,v= .slice (some ⟨g,off,none⟩) n cap∧n≤cap∧
  (∀j u,cs[j]? =some u→w.cell? ⟨g,off+j,none⟩=some u)∧(∀j,w.frozen? ⟨g,j,none⟩=false):=by
 rcases h.2 with⟨_,h0⟩ | ⟨g,off,cap,cur,rfl,hg,h1,_,_,hc⟩
 ·omega
 ·exact⟨g,off,cap,rfl,h1,fun j u hu=>by rw[blk_cell hg,hc j (List.getElem?_eq_some_iff.1 hu).1];exact hu,fun j=>blk_frozen hg j⟩
theorem QS.drop {w:World} {e sz n:Nat} {g off cap:Nat} {cs:List Value} (h:QS w e sz (.slice (some ⟨g,off,none⟩) n cap) n cs) (k:Nat) (hk:k≤n):
  QS w e sz (.slice (some ⟨g,off+k*sz,none⟩) (n - k) (cap - k)) (n - k) (cs.drop (k*sz)):=by
 obtain⟨hl,h2⟩:=h
 rcases h2 with⟨hv,_⟩ | ⟨g',off',cap',cur,hv,hg,h1,h2,h3,h4⟩
 ·cases hv
 ·injection hv with ha _ hc'
  injection ha with ha
  injection ha with hg' ho
  subst hg';subst ho;subst hc'
  have e1:(n - k)*sz+k*sz=n*sz:=by rw[←Nat.add_mul];congr 1;omega
  have e2:(cap - k)*sz+k*sz=cap*sz:=by rw[←Nat.add_mul];congr 1;omega
  refine⟨by rw[List.length_drop,hl];omega, .inr ⟨g,off+k*sz,cap - k,cur,rfl,hg,by omega,by simp only[maxLen]at*;omega,by omega,fun j hj=> ?_⟩⟩
  rw[List.length_drop]at hj
  rw[List.getElem?_drop,←h4 _ (by omega)]
  congr 1;omega
theorem QS.take {w:World} {e sz n:Nat} {g off cap:Nat} {cs:List Value} (h:QS w e sz (.slice (some ⟨g,off,none⟩) n cap) n cs) (k:Nat) (hk:k≤n):
  QS w e sz (.slice (some ⟨g,off,none⟩) k cap) k (cs.take (k*sz)):=by
 obtain⟨hl,h2⟩:=h
 rcases h2 with⟨hv,_⟩ | ⟨g',off',cap',cur,hv,hg,h1,h2,h3,h4⟩
 ·cases hv
 ·injection hv with ha _ hc'
  injection ha with ha
  injection ha with hg' ho
  subst hg';subst ho;subst hc'
  have e1:k*sz≤n*sz:=Nat.mul_le_mul_right _ hk
  refine⟨by rw[List.length_take,hl];omega, .inr ⟨g,off,cap,cur,rfl,hg,by omega,h2,h3,fun j hj=> ?_⟩⟩
  rw[List.length_take]at hj
  rw[List.getElem?_take_of_lt (by omega)]
  exact h4 _ (by omega)
theorem QS.dropAll {w:World} {e sz n:Nat} {g off:Nat} {cs:List Value} (h:QS w e sz (.slice (some ⟨g,off,none⟩) n n) n cs):
  QS w e sz (.slice (some ⟨g,off,none⟩) 0 0) 0 []:=by
 obtain⟨hl,h2⟩:=h
 rcases h2 with⟨hv,_⟩ | ⟨g',off',cap',cur,hv,hg,h1,h2,h3,h4⟩
 ·cases hv
 ·injection hv with ha _ hc'
  injection ha with ha
  injection ha with hg' ho
  subst hg';subst ho;subst hc'
  exact⟨by simp, .inr ⟨g,off,0,cur,rfl,hg,Nat.le_refl _,Nat.zero_le _,by omega,fun j hj=>absurd hj (Nat.not_lt_zero _)⟩⟩
theorem src_blk {P:Program} {W:World} {tx e' e:TypeId} (hk:P.underlying tx=some (.slice e')) {g off n c sz:Nat} {cur:Array Value} {news:List Value} (hg:W.heap[g]? =some (.cells cur e (0,0)))
  (hl:news.length=n*sz) (hc:∀j,j < news.length→cur[off+j]? =news[j]?) (h1:∀u∈news,u.oneCell'=true):Src P sz tx (.slice (some ⟨g,off,none⟩) n c) n news W:=
 Src.ofSlice W hk _ _ _ _ hl (fun j u hu=>by rw[Addr.add_lit,blk_cell hg,hc j (List.getElem?_eq_some_iff.1 hu).1];exact hu) h1
theorem QS.src {P:Program} {W:World} {tx e' e sz n:Nat} {v:Value} {cs:List Value} (h:QS W e sz v n cs) (hk:P.underlying tx=some (.slice e')) (h1:∀u∈cs,u.oneCell'=true):Src P sz tx v n cs W:=by
 obtain⟨hl,h2⟩:=h
 rcases h2 with⟨rfl,rfl⟩ | ⟨g,off,cap,cur,rfl,hg,_,_,_,hc⟩
 ·obtain rfl:cs=[]:=List.eq_nil_of_length_eq_zero (by rw[hl,Nat.zero_mul])
  exact Src.ofNil W hk 0
 ·exact src_blk hk hg hl hc h1
section
variable {P:Program}
theorem run_append_QS (w:World) (t tx ty e:TypeId) (z:Value) (sz bytes:Nat) (ht:P.underlying t=some (.slice e)) (hinfo:(P.info? e).map (fun i=>(i.zero,i.size,i.bytes))=some (some z,sz,bytes)) (hz:z.cells.size=sz)
  (v:Value) (n:Nat) (cs:List Value) (hQ:QS w e sz v n cs) (x:Value) (m:Nat) (news:List Value) (hs:Src P sz tx x m news w) (hb0:0 < bytes) (hb:(n+m)*bytes≤140737488355328):
  ∃A c w',(Builtin.append_ #[t,tx] ty #[v,x]).run P w= .ok (.slice A (n+m) c) w'∧QS w' e sz (.slice A (n+m) c) (n+m) (cs ++ news)∧w.grownBy w' v.ownBlock∧
   ((Value.slice A (n+m) c).ownBlock=v.ownBlock∨∃b,(Value.slice A (n+m) c).ownBlock=some b∧w.heap.size≤b):=by
 obtain⟨i,hi,hzz⟩:=Option.map_eq_some_iff.1 hinfo
 simp only[Prod.mk.injEq]at hzz
 obtain⟨hz0,rfl,rfl⟩:=hzz
 have hnm:n+m≤140737488355328:=Nat.le_trans (Nat.le_mul_of_pos_right _ hb0) hb
 obtain⟨hl,h2⟩:=hQ
 have hml:=hs.newsLen
 have grow:∀(bs:Option Addr) (sc:Nat),v= .slice bs n sc→sc < n+m→(Builtin.firstCells i.size n (.slice bs n sc)).run P w.drew= .ok cs.toArray w.drew→
   ∃A c w',(Builtin.append_ #[t,tx] ty #[v,x]).run P w= .ok (.slice A (n+m) c) w'∧QS w' e i.size (.slice A (n+m) c) (n+m) (cs ++ news)∧w.grownBy w' v.ownBlock∧
    ((Value.slice A (n+m) c).ownBlock=v.ownBlock∨∃b,(Value.slice A (n+m) c).ownBlock=some b∧w.heap.size≤b):=by
  rintro bs sc rfl hg hold
  have hrun:=run_append_grow_src (P:=P) w t tx ty e i z ht hi hz0 bs n sc cs hold x m news hs hg (by omega) (growslice_fits hg hb)
  refine⟨_,_,_,hrun,⟨by rw[List.length_append,hl,hml,Nat.add_mul], .inr ⟨w.heap.size,0,_,_,rfl,heap_alloc_new w.drew _,grownCap_ge _ _ _ _,grownCap_le_maxLen _ _ _ _ (by simp only[maxLen];omega), ?_, ?_⟩⟩, ?_, .inr ⟨w.heap.size,rfl,Nat.le_refl _⟩⟩
  ·have hge:=grownCap_ge w (n+m) sc e
   have:(grownCap w (n+m) sc e - (n+m))*i.size+(n+m)*i.size=grownCap w (n+m) sc e*i.size:=by rw[←Nat.add_mul];congr 1;omega
   have e3:(n+m)*i.size=n*i.size+m*i.size:=Nat.add_mul _ _ _
   simp[Builtin.zeroCells,hl,hml,hz]
   omega
  ·intro j hj
   rw[Nat.zero_add,Array.getElem?_append_left (by simpa using hj)]
   simp
  ·exact⟨rfl,rfl,rfl,by simp,fun k hk _=>Below.heap_alloc w.drew _ k hk⟩
 rcases h2 with⟨rfl,rfl⟩ | ⟨g,off,cap,cur,rfl,hg,h1,hmx,hc,hcell⟩
 ·obtain rfl:cs=[]:=List.eq_nil_of_length_eq_zero (by rw[hl,Nat.zero_mul])
  by_cases hm0:m=0
  ·subst hm0
   obtain rfl:news=[]:=List.eq_nil_of_length_eq_zero (by rw[hml,Nat.zero_mul])
   have hrun:=show(Builtin.append_ #[t,tx] ty #[.slice none 0 0,x]).run P w= .ok (.slice none 0 0) w by
    rcases hs.kind with⟨e',hk⟩ | hk <;>simp[Builtin.append_,run_underlying ht,run_underlying hk,sizeOf,typeInfo,hi,hs.len,hs.cells]
   exact⟨none,0,w,hrun,QS.nil _ _ _,⟨rfl,rfl,rfl,Nat.le_refl _,fun _ _ _=>rfl⟩, .inl rfl⟩
  ·exact grow none 0 rfl (by omega) (run_firstCells_none _ _ _ _ _)
 ·by_cases hr:n+m≤cap
  ·have hsz:(n+m)*i.size≤cap*i.size:=Nat.mul_le_mul_right _ hr
   have e3:(n+m)*i.size=n*i.size+m*i.size:=Nat.add_mul _ _ _
   have hrun:=run_append_room_src (P:=P) w t tx ty e i ht hi g off n cap x m news hs hr
    (fun j hj=>by rw[blk_cell hg,Array.getElem?_eq_getElem (by omega)];rfl) (fun j _=>blk_frozen hg _)
   obtain⟨cur',k1,k2,k3,k4⟩:=sc_row news (off+n*i.size) w cur hg
   obtain⟨s1,s2,s3,s4⟩:=sc_same g news (off+n*i.size) w
   refine⟨_,_,_,hrun,⟨by rw[List.length_append,hl,hml,Nat.add_mul], .inr ⟨g,off,cap,cur',rfl,k1,hr,hmx,by omega,fun j hj=> ?_⟩⟩,⟨s1,s2,s3,by omega,fun k _ hk=>sc_far _ _ k (fun e=>hk (by rw[e];rfl))⟩, .inl rfl⟩
   rw[List.length_append]at hj
   by_cases hjl:j < cs.length
   ·rw[k3 _ (by omega),hcell j hjl,List.getElem?_append_left hjl]
   ·rw[List.getElem?_append_right (by omega),←k4 (by omega) _ (by omega)]
    congr 1;omega
  ·exact grow _ cap rfl (by omega) (run_firstCells_some w.drew i.size n ⟨g,off,none⟩ n cap cs hl (fun j u hu=>by
    have hj:=(List.getElem?_eq_some_iff.1 hu).1
    rw[Addr.add_lit,World.cell?_drew,blk_cell hg,hcell j hj];exact hu))
theorem wp_append_QS {w:World} {o:Oper} {a:Act} {K:Act→World→Prop} {Q:Exit→Act→World→Prop} (s x:Operand) (t tx:TypeId) (ho:o.op= .call {callee:= .builtin .append,args:= #[s,x],argTypes:= #[t,tx]})
  (e:TypeId) (z:Value) (sz bytes:Nat) (ht:P.underlying t=some (.slice e)) (hinfo:(P.info? e).map (fun i=>(i.zero,i.size,i.bytes))=some (some z,sz,bytes)) (hz:z.cells.size=sz)
  (v:Value) (n:Nat) (cs:List Value) (hv:a.eval s=v) (hQ:QS w e sz v n cs) (xv:Value) (m:Nat) (news:List Value) (hx:a.eval x=xv) (hs:Src P sz tx xv m news w) (hb0:0 < bytes) (hb:(n+m)*bytes≤140737488355328)
  (h:∀A c w',QS w' e sz (.slice A (n+m) c) (n+m) (cs ++ news)→w.grownBy w' v.ownBlock→((Value.slice A (n+m) c).ownBlock=v.ownBlock∨∃b,(Value.slice A (n+m) c).ownBlock=some b∧w.heap.size≤b)→K (a.put o.dst (.slice A (n+m) c)) w'):
  Oper.wp P o a w K Q:=by
 obtain⟨A,c,w',hrun,r1,r2,r3⟩:=run_append_QS (P:=P) w t tx o.type e z sz bytes ht hinfo hz v n cs hQ xv m news hs hb0 hb
 unfold Oper.wp
 simp[execOp,ho,resolve,invoke,builtin,hv,hx,hrun,Result.andThen]
 exact h A c w' r1 r2 r3
theorem wpList_append_QS {w:World} {ops:Array Oper} {rest:List Oper} {o:Oper} {a:Act} {Q:Exit→Act→World→Prop} (hgd:o.guard=none) (s x:Operand) (t tx:TypeId) (ho:o.op= .call {callee:= .builtin .append,args:= #[s,x],argTypes:= #[t,tx]})
  (e:TypeId) (z:Value) (sz bytes:Nat) (ht:P.underlying t=some (.slice e)) (hinfo:(P.info? e).map (fun i=>(i.zero,i.size,i.bytes))=some (some z,sz,bytes)) (hz:z.cells.size=sz)
  (v:Value) (n:Nat) (cs:List Value) (hv:a.eval s=v) (hQ:QS w e sz v n cs) (xv:Value) (m:Nat) (news:List Value) (hx:a.eval x=xv) (hs:Src P sz tx xv m news w) (hb0:0 < bytes) (hb:(n+m)*bytes≤140737488355328)
  (h:∀A c w',QS w' e sz (.slice A (n+m) c) (n+m) (cs ++ news)→w.grownBy w' v.ownBlock→((Value.slice A (n+m) c).ownBlock=v.ownBlock∨∃b,(Value.slice A (n+m) c).ownBlock=some b∧w.heap.size≤b)→wpList P ops Q rest (a.put o.dst (.slice A (n+m) c)) w'):
  wpList P ops Q (o :: rest) a w:=
 wpList_plain hgd fun _ hK=>wp_append_QS s x t tx ho e z sz bytes ht hinfo hz v n cs hv hQ xv m news hx hs hb0 hb fun A c w' r1 r2 r3=>hK _ _ (h A c w' r1 r2 r3)
theorem step_append_QS {w:World} {ops:Array Oper} {o:Oper} {a:Act} {K:Act→World→Prop} {Q:Exit→Act→World→Prop} {E:Prop} (hgd:o.guard=none) (s x:Operand) (t tx:TypeId) (ho:o.op= .call {callee:= .builtin .append,args:= #[s,x],argTypes:= #[t,tx]})
  (e:TypeId) (z:Value) (sz bytes:Nat) (ht:P.underlying t=some (.slice e)) (hinfo:(P.info? e).map (fun i=>(i.zero,i.size,i.bytes))=some (some z,sz,bytes)) (hz:z.cells.size=sz)
  (v:Value) (n:Nat) (cs:List Value) (hv:a.eval s=v) (hQ:QS w e sz v n cs) (xv:Value) (m:Nat) (news:List Value) (hx:a.eval x=xv) (hs:Src P sz tx xv m news w) (hb0:0 < bytes) (hb:(n+m)*bytes≤140737488355328)
  (h:∀A c w',QS w' e sz (.slice A (n+m) c) (n+m) (cs ++ news)→w.grownBy w' v.ownBlock→((Value.slice A (n+m) c).ownBlock=v.ownBlock∨∃b,(Value.slice A (n+m) c).ownBlock=some b∧w.heap.size≤b)→K (a.put o.dst (.slice A (n+m) c)) w'):
  if Region.wanted o (yielded ops a.tmps)=true then Oper.wp P o a w K Q else E:=by
 rw[if_pos (by simp[Region.wanted,hgd])]
 exact wp_append_QS s x t tx ho e z sz bytes ht hinfo hz v n cs hv hQ xv m news hx hs hb0 hb h
end
end Go.Proofs.YtebnflpanfmicaaGreatDoor
namespace Go.Proofs.YtebnflpanfmicaaGreatDoor
def has (m i:Nat):Bool:=m / 2^i % 2 == 1
def bitsOf (m:Nat):List Nat:=(List.range 16).filter (has m)
def lowb (m:Nat):Nat:=Nat.land m (Nat.mod (Nat.sub 65536 m) 65536)
def tzi (m:Nat):Nat:=Nat.div (Nat.mod (Nat.mul (lowb m) 125613361) 4294967296) 134217728
def tzt (i:Nat):Nat:=Nat.mod (Nat.div 425558438023169368542358217867927387395308220448 (Nat.pow 32 i)) 32
def tzOf (m:Nat):Nat:=tzt (tzi m)
def chk2 (m p t:Nat):Bool:=match Nat.beq (Nat.mod m (Nat.mul 2 p)) p with
 | true=>match Nat.beq (Nat.land m (Nat.sub m 1)) (Nat.sub m p)with
   | true=>Nat.ble t 15
   | false=>false
 | false=>false
def chk (m:Nat):Bool:=match Nat.beq m 0 with
 | true=>true
 | false=>(fun t=>chk2 m (Nat.pow 2 t) t) (tzt (tzi m))
def allB (f:Nat→Bool):Nat→Bool
 | 0=>true
 | n+1=>match f n with
   | true=>allB f n
   | false=>false
theorem allB_at {f:Nat→Bool}:∀{n:Nat},allB f n=true→∀i,i < n→f i=true
 | 0,_,i,h=>absurd h (Nat.not_lt_zero _)
 | n+1,h,i,hi=>by
   unfold allB at h
   split at h
   ·rename_i hf
    rcases Nat.lt_or_ge i n with h' | h'
    ·exact allB_at h i h'
    ·rw[show i=n by omega];exact hf
   ·cases h
theorem brute:(allB (fun a=>allB (fun b=>chk (Nat.add (Nat.mul 256 a) b)) 256) 256)=true:=by kernel_rfl
theorem chk_at (m:Nat) (h:m < 65536):chk m=true:=by
 have h1:=allB_at brute (m / 256) (by omega)
 have h2:=allB_at h1 (m % 256) (by omega)
 rwa[show Nat.add (Nat.mul 256 (m / 256)) (m % 256)=m from Nat.div_add_mod m 256]at h2
theorem tz_at (m:Nat) (h:m < 65536) (h0:m≠0):m % (2*2^tzOf m)=2^tzOf m∧m &&& (m - 1)=m - 2^tzOf m∧tzOf m≤15:=by
 have hc:=chk_at m h
 unfold chk at hc
 split at hc
 ·rename_i e
  exact absurd (Nat.eq_of_beq_eq_true e) h0
 ·have hc:chk2 m (Nat.pow 2 (tzOf m)) (tzOf m)=true:=hc
  unfold chk2 at hc
  split at hc
  ·rename_i e1
   split at hc
   ·rename_i e2
    exact⟨Nat.eq_of_beq_eq_true e1,Nat.eq_of_beq_eq_true e2,Nat.le_of_ble_eq_true hc⟩
   ·cases hc
  ·cases hc
theorem tzi_lt (m:Nat):tzi m < 32:=by
 show lowb m*125613361 % 4294967296 / 134217728 < 32
 omega
theorem has_lt {m i n:Nat} (hm:m < 2^n) (h:has m i=true):i < n:=by
 rcases Nat.lt_or_ge i n with h' | h'
 ·exact h'
 ·have:m / 2^i=0:=Nat.div_eq_of_lt (Nat.lt_of_lt_of_le hm (Nat.pow_le_pow_right (by decide) h'))
  simp[has,this]at h
theorem has_zero (i:Nat):has 0 i=false:=by simp[has]
theorem bitsOf_zero:bitsOf 0=[]:=by
 unfold bitsOf;rw[List.filter_eq_nil_iff];intro x _;simp[has_zero]
theorem has_testBit (m i:Nat):has m i=m.testBit i:=by
 unfold has
 rw[Nat.testBit_eq_decide_div_mod_eq]
 by_cases h:m / 2^i % 2=1 <;>simp[h]
theorem has_mod (m n i:Nat):has (m % 2^n) i=(decide (i < n) && has m i):=by
 rw[has_testBit,has_testBit,Nat.testBit_mod_two_pow]
theorem has_high (m n i:Nat):has (m / 2^n*2^n) i=(decide (n≤i) && has m i):=by
 rw[has_testBit,has_testBit,Nat.mul_comm,Nat.testBit_two_pow_mul,Nat.testBit_div_two_pow]
 by_cases h:n≤i
 ·simp[h,Nat.sub_add_cancel h]
 ·simp[h]
theorem has_add_pow (m n i:Nat) (h:m < 2^n):has (m+2^n) i=(has m i || decide (i=n)):=by
 rw[has_testBit,has_testBit]
 have e:m+2^n=2^n ||| m:=by have:=Nat.two_pow_add_eq_or_of_lt h 1;rw[Nat.mul_one]at this;omega
 rw[e,Nat.testBit_or,Nat.testBit_two_pow]
 by_cases h':n=i
 ·subst h';simp
 ·simp[h',Ne.symm h']
theorem eq_of_has {a b:Nat} (ha:a < 65536) (hb:b < 65536) (h:∀i,i < 16→has a i=has b i):a=b:=by
 apply Nat.eq_of_testBit_eq
 intro i
 rw[←has_testBit,←has_testBit]
 rcases Nat.lt_or_ge i 16 with hi | hi
 ·exact h i hi
 ·have e1:has a i=false:=by
   cases e:has a i with
   | false=>rfl
   | true=>have:=has_lt (n:=16) ha e;omega
  have e2:has b i=false:=by
   cases e:has b i with
   | false=>rfl
   | true=>have:=has_lt (n:=16) hb e;omega
  rw[e1,e2]
theorem mem_bitsOf {m i:Nat}:i∈bitsOf m ↔ i < 16∧has m i=true:=by
 unfold bitsOf;rw[List.mem_filter,List.mem_range]
theorem bits_low (m t:Nat) (h1:m % (2*2^t)=2^t) (h3:t≤15):bitsOf m=t :: bitsOf (m - 2^t):=by
 obtain⟨q,hq⟩:∃q,m=2*2^t*q+2^t:=⟨m / (2*2^t),by have:=Nat.div_add_mod m (2*2^t);omega⟩
 have e2:m - 2^t=2^(t+1)*q:=by rw[hq,Nat.pow_succ];rw[Nat.mul_comm 2 (2^t)];omega
 have hm':m=2^(t+1)*q+2^t:=by rw[hq,Nat.pow_succ,Nat.mul_comm 2 (2^t)]
 have hp:0 < 2^t:=Nat.two_pow_pos t
 have hlt:2^t < 2^(t+1):=Nat.pow_lt_pow_right (by decide) (by omega)
 have hbit:∀i,has m i=if i < t+1 then decide (t=i)else q.testBit (i - (t+1)):=fun i=>by
  rw[has_testBit,hm',Nat.testBit_two_pow_mul_add _ hlt,Nat.testBit_two_pow]
 have hbit':∀i,has (m - 2^t) i=if i < t+1 then false else q.testBit (i - (t+1)):=fun i=>by
  rw[has_testBit,e2,Nat.testBit_two_pow_mul]
  by_cases h:i < t+1
  ·rw[if_pos h];simp;omega
  ·rw[if_neg h];simp;omega
 have er:∀t,t≤15→List.range 16=List.range t ++ t :: List.range' (t+1) (15 - t):=by decide
 unfold bitsOf
 rw[er t h3,List.filter_append,List.filter_append,List.filter_cons,List.filter_cons]
 have n1:(List.range t).filter (has m)=[]:=by
  rw[List.filter_eq_nil_iff];intro i hi;rw[List.mem_range]at hi;rw[hbit,if_pos (by omega)];simp;omega
 have n2:(List.range t).filter (has (m - 2^t))=[]:=by
  rw[List.filter_eq_nil_iff];intro i hi;rw[List.mem_range]at hi;rw[hbit',if_pos (by omega)];simp
 have n3:(List.range' (t+1) (15 - t)).filter (has m)=(List.range' (t+1) (15 - t)).filter (has (m - 2^t)):=by
  apply List.filter_congr
  intro i hi
  rw[List.mem_range'_1]at hi
  rw[hbit,hbit',if_neg (by omega),if_neg (by omega)]
 have n4:has m t=true:=by rw[hbit,if_pos (by omega)];simp
 have n5:has (m - 2^t) t=false:=by rw[hbit',if_pos (by omega)]
 rw[n1,n2,n3,n4,n5]
 simp
theorem bitsOf_cons (m:Nat) (h:m < 65536) (h0:m≠0):bitsOf m=tzOf m :: bitsOf (m &&& (m - 1)):=by
 rw[(tz_at m h h0).2.1]
 exact bits_low m _ (tz_at m h h0).1 (tz_at m h h0).2.2
theorem and_pred_lt (m:Nat) (h:m < 65536):m &&& (m - 1) < 65536:=Nat.lt_of_le_of_lt Nat.and_le_left h
theorem and_pred_lt' (m:Nat) (h0:m≠0):m &&& (m - 1) < m:=by
 have:m &&& (m - 1)≤m - 1:=Nat.and_le_right
 omega
def first(m a n:Nat):Option Nat:=((List.range' a (n - a)).find? (has m))
def pickOf (m from_ n:Nat):Int:=match first m from_ n with
 | some i=>i
 | none=>match first m 0 from_ with
   | some i=>i
   | none=> -1
theorem head_bits (m:Nat):(bitsOf m).head?=(List.range 16).find? (has m):=by
 unfold bitsOf;rw[List.head?_filter]
theorem find_congr {α:Type} {p q:α→Bool}:∀{l:List α},(∀x∈l,p x=q x)→l.find? p=l.find? q
 | [],_=>rfl
 | x :: l,h=>by
   rw[List.find?_cons,List.find?_cons,h x List.mem_cons_self,find_congr (fun y hy=>h y (List.mem_cons_of_mem _ hy))]
theorem find_none {α:Type} {p:α→Bool} {l:List α} (h:∀x∈l,p x=false):l.find? p=none:=by
 rw[List.find?_eq_none];intro x hx;simp[h x hx]
theorem head_high (m a n:Nat) (ha:a≤n) (hn:n≤16):(bitsOf (m % 2^n / 2^a*2^a)).head?=first m a n:=by
 rw[head_bits]
 have e1:List.range' a (n - a) ++ List.range' n (16 - n)=List.range' a (16 - a):=by
  have:= @List.range'_append_1 a (n - a) (16 - n)
  rwa[show a+(n - a)=n by omega,show n - a+(16 - n)=16 - a by omega]at this
 have e2:List.range' 0 a ++ List.range' a (16 - a)=List.range' 0 16:=by
  have:= @List.range'_append_1 0 a (16 - a)
  rwa[Nat.zero_add,show a+(16 - a)=16 by omega]at this
 rw[List.range_eq_range',←e2,←e1,List.find?_append,List.find?_append]
 have h0:∀i,has (m % 2^n / 2^a*2^a) i=(decide (a≤i) && (decide (i < n) && has m i)):=fun i=>by rw[has_high,has_mod]
 rw[find_none (l:=List.range' 0 a) (fun i hi=>by rw[List.mem_range'_1]at hi;rw[h0,decide_eq_false (by omega)];rfl)]
 rw[find_none (l:=List.range' n (16 - n)) (fun i hi=>by rw[List.mem_range'_1]at hi;rw[h0,decide_eq_false (p:=i < n) (by omega)];simp)]
 rw[find_congr (l:=List.range' a (n - a)) (q:=has m) (fun i hi=>by rw[List.mem_range'_1]at hi;rw[h0,decide_eq_true (by omega),decide_eq_true (by omega)];rfl)]
 simp[first]
theorem first_split (m a n:Nat) (ha:a≤n):first m 0 n=(first m 0 a).or (first m a n):=by
 unfold first
 have e2:List.range' 0 a ++ List.range' a (n - a)=List.range' 0 n:=by
  have:= @List.range'_append_1 0 a (n - a)
  rwa[Nat.zero_add,show a+(n - a)=n by omega]at this
 rw[Nat.sub_zero,Nat.sub_zero,←e2,List.find?_append]
theorem head_low (m n:Nat) (hn:n≤16):(bitsOf (m % 2^n)).head?=first m 0 n:=by
 have:=head_high m 0 n (by omega) hn
 simpa using this
theorem first_lt {m a n i:Nat} (h:first m a n=some i):a≤i∧i < n∧has m i=true:=by
 unfold first at h
 have h1:=List.mem_of_find?_eq_some h
 have h2:=List.find?_some h
 rw[List.mem_range'_1]at h1
 exact⟨h1.1,by omega,h2⟩
theorem pick_some {m a n k:Nat} {r:List Nat} (ha:a < n) (hn:n≤16) (h:bitsOf (m % 2^n / 2^a*2^a)=k :: r):pickOf m a n=k:=by
 have:=head_high m a n (by omega) hn
 rw[h]at this
 unfold pickOf
 rw[←this];rfl
theorem pick_next {m a n k:Nat} {r:List Nat} (ha:a < n) (hn:n≤16) (h:bitsOf (m % 2^n / 2^a*2^a)=[]) (h2:bitsOf (m % 2^n)=k :: r):pickOf m a n=k:=by
 have e1:=head_high m a n (by omega) hn
 have e2:=head_low m n hn
 rw[h]at e1;rw[h2]at e2
 rw[first_split m a n (by omega)]at e2
 unfold pickOf
 rw[←e1]at e2 ⊢
 simp only[List.head?_nil,Option.or_none,List.head?_cons]at e2 ⊢
 rw[←e2]
theorem pick_none {m a n:Nat} (ha:a < n) (hn:n≤16) (h:bitsOf (m % 2^n / 2^a*2^a)=[]) (h2:bitsOf (m % 2^n)=[]):pickOf m a n= -1:=by
 have e1:=head_high m a n (by omega) hn
 have e2:=head_low m n hn
 rw[h]at e1;rw[h2]at e2
 rw[first_split m a n (by omega)]at e2
 unfold pickOf
 rw[←e1]at e2 ⊢
 simp only[List.head?_nil,Option.or_none]at e2 ⊢
 rw[←e2]
def pickI (m:Nat) (f n:Int):Int:=if 1≤n∧n≤16∧0≤f∧f < n then pickOf m f.toNat n.toNat else -1
def hasI (m:Nat) (i:Int):Bool:=decide (0≤i) && has m i.toNat
theorem hasI_nat (m i:Nat):hasI m (i:Int)=has m i:=by
 unfold hasI;rw[decide_eq_true (by omega),Int.toNat_natCast,Bool.true_and]
def colOf (rows:List Nat) (k:Nat):Nat→Nat
 | 0=>0
 | j+1=>colOf rows k j+if has (rows.getD j 0) k=true then 2^j else 0
def colsOf (rows:List Nat) (n j:Nat):List Nat:=(List.range n).map fun k=>colOf rows k j
def colsAt (rows:List Nat) (n j:Nat) (pre:List Nat):List Nat:=(List.range n).map fun k=>colOf rows k j+if k∈pre then 2^j else 0
def turnI (rows:List Nat) (n:Int):List Nat:=if 1≤n∧n≤16 then colsOf rows n.toNat 16 else []
theorem colOf_lt (rows:List Nat) (k:Nat):∀j,colOf rows k j < 2^j
 | 0=>by simp[colOf]
 | j+1=>by
   have:=colOf_lt rows k j
   have e:2^(j+1)=2^j+2^j:=by rw[Nat.pow_succ];omega
   rw[colOf,e];split <;>omega
theorem colOf_beyond (rows:List Nat) (k:Nat):∀j,rows.length≤j→colOf rows k j=colOf rows k rows.length
 | 0,h=>by rw[show rows.length=0 by omega]
 | j+1,h=>by
   rcases Nat.lt_or_ge j rows.length with h' | h'
   ·rw[show rows.length=j+1 by omega]
   ·rw[colOf,colOf_beyond rows k j h',List.getD_eq_getElem?_getD,List.getElem?_eq_none h',Option.getD_none,has_zero];simp
theorem colsOf_beyond (rows:List Nat) (n j:Nat) (h:rows.length≤j):colsOf rows n j=colsOf rows n rows.length:=by
 unfold colsOf;exact List.map_congr_left fun k _=>colOf_beyond rows k j h
theorem colsOf_length (rows:List Nat) (n j:Nat):(colsOf rows n j).length=n:=by simp[colsOf]
theorem colsAt_nil (rows:List Nat) (n j:Nat):colsAt rows n j []=colsOf rows n j:=by simp[colsAt,colsOf]
theorem colsAt_all (rows:List Nat) (n j:Nat) (hn:n≤16):colsAt rows n j (bitsOf (rows.getD j 0 % 2^n))=colsOf rows n (j+1):=by
 unfold colsAt colsOf
 refine List.map_congr_left fun k hk=> ?_
 rw[List.mem_range]at hk
 rw[colOf]
 congr 1
 have:k∈bitsOf (rows.getD j 0 % 2^n) ↔ has (rows.getD j 0) k=true:=by
  rw[mem_bitsOf,has_mod,decide_eq_true hk,Bool.true_and]
  exact⟨fun h=>h.2,fun h=>⟨by omega,h⟩⟩
 simp only[this]
theorem colsOf_at (rows:List Nat) (n j k:Nat) (h:k < n):(colsOf rows n j)[k]? =some (colOf rows k j):=by simp[colsOf,h]
theorem colsAt_set (rows:List Nat) (n j:Nat) (pre:List Nat) (x:Nat) (hx:x < n) (hp:x ∉ pre):
  (colsAt rows n j pre)[x]? =some (colOf rows x j)∧(colsAt rows n j pre).set x (colOf rows x j+2^j)=colsAt rows n j (pre ++ [x]):=by
 refine⟨by simp[colsAt,hx,hp], ?_⟩
 unfold colsAt
 apply List.ext_getElem
 ·simp
 ·intro i h1 h2
  rw[List.getElem_set]
  simp only[List.getElem_map,List.getElem_range,List.mem_append,List.mem_singleton]
  by_cases e:x=i
  ·subst e;simp
  ·rw[if_neg e]
   have:i≠x:=fun h=>e h.symm
   simp[this]
theorem or_pow (c j:Nat) (h:c < 2^j):c ||| 2^j=c+2^j:=by
 have:=Nat.two_pow_add_eq_or_of_lt h 1
 rw[Nat.mul_one]at this
 rw[Nat.or_comm,←this,Nat.add_comm]
theorem nodup_bitsOf (m:Nat):(bitsOf m).Nodup:=by unfold bitsOf;exact List.filter_sublist.nodup List.nodup_range
theorem not_mem_pre {m x:Nat} {pre:List Nat} (h:pre ++ [x] <+:bitsOf m):x ∉ pre∧x < 16∧has m x=true:=by
 have hn:(pre ++ [x]).Nodup:=h.sublist.nodup (nodup_bitsOf m)
 have hx:x∈bitsOf m:=h.subset (by simp)
 refine⟨fun hm=> ?_,mem_bitsOf.1 hx⟩
 rw[List.nodup_append]at hn
 exact hn.2.2 x hm x (by simp) rfl
theorem wraps_u16 (n:Int) (h₀:0≤n) (h₁:n < 2^16):IntKind.u16.wrap n=n:=by simp[IntKind.wrap,IntKind.bits,IntKind.signed];omega
theorem and_u16 (a b:Nat) (ha:a < 65536) (hb:b < 65536):bits .and .u16 a b=((a &&& b:Nat):Int):=(bits_nat .u16 16 (by decide) wraps_u16 a b ha hb).1
theorem or_u16 (a b:Nat) (ha:a < 65536) (hb:b < 65536):bits .or .u16 a b=((a ||| b:Nat):Int):=(bits_nat .u16 16 (by decide) wraps_u16 a b ha hb).2
theorem and1_u16 (m i:Nat) (hm:m < 65536):(bits .and .u16 ((m:Int) / 2^i) 1 == 1)=has m i:=by
 have h1:m / 2^i < 65536:=Nat.lt_of_le_of_lt (Nat.div_le_self _ _) hm
 have e:bits .and .u16 ((m:Int) / 2^i) 1=((m / 2^i % 2:Nat):Int):=by
  have:=and_u16 (m / 2^i) 1 h1 (by decide)
  rw[Nat.and_one_is_mod]at this
  rw[←this]
  congr 1
 rw[e]
 unfold has
 have:m / 2^i % 2 < 2:=Nat.mod_lt _ (by decide)
 rw[Bool.eq_iff_iff,beq_iff_eq,beq_iff_eq]
 omega
theorem mask_u16:∀k,k≤16→IntKind.u16.wrap (IntKind.u16.wrap (2^k) - 1)=2^k - 1:=by decide+kernel
theorem below_u16 (m k:Nat) (hm:m < 65536) (hk:k≤16):bits .and .u16 (m:Int) (IntKind.u16.wrap (IntKind.u16.wrap (2^k) - 1))=((m % 2^k:Nat):Int):=by
 rw[mask_u16 k hk,bits_mask .u16 16 (by decide) wraps_u16 k hk m (by omega) (by show(m:Int) < 65536;omega),Int.natCast_emod,Int.natCast_pow];rfl
theorem shl_u16:∀j:Nat,j < 16→IntKind.u16.wrap (2^j)=2^j:=by decide+kernel
theorem orpow_u16 (c j:Nat) (hc:c < 2^j) (hj:j < 16):bits .or .u16 (c:Int) (IntKind.u16.wrap (2^j))=((c+2^j:Nat):Int):=by
 have h2:2^j < 65536:=Nat.lt_of_le_of_lt (Nat.pow_le_pow_right (by decide) (show j≤15 by omega)) (by decide)
 have e:(2:Int)^j=((2^j:Nat):Int):=by rw[Int.natCast_pow];rfl
 rw[shl_u16 j hj,e,or_u16 c (2^j) (by omega) h2,or_pow c j hc]
theorem lowb_u16 (m:Nat) (hm:m < 65536) (h0:m≠0):bits .and .u16 (m:Int) (IntKind.u16.wrap (-(m:Int)))=((lowb m:Nat):Int):=by
 have e:IntKind.u16.wrap (-(m:Int))=((65536 - m) % 65536:Nat):=by
  simp[IntKind.wrap,IntKind.bits,IntKind.signed];omega
 rw[e,and_u16 _ _ hm (Nat.mod_lt _ (by decide))];rfl
theorem pred_u16 (m:Nat) (hm:m < 65536) (h0:m≠0):bits .and .u16 (m:Int) ((m:Int) - 1)=((m &&& (m - 1):Nat):Int):=by
 rw[show(m:Int) - 1=((m - 1:Nat):Int) by omega,and_u16 _ _ hm (by omega)]
theorem andNot_u16 (a b:Nat) (ha:a < 65536) (hb:b < 65536):∃x:Nat,bits .andNot .u16 (a:Int) (b:Int)=(x:Int)∧x < 65536∧∀i,has x i=(has a i && !has b i):=by
 have hlt:=(BitVec.ofInt 16 (a:Int) &&& ~~~BitVec.ofInt 16 (b:Int)).isLt
 refine⟨(BitVec.ofInt 16 (a:Int) &&& ~~~BitVec.ofInt 16 (b:Int)).toNat,wraps_u16 ((BitVec.ofInt 16 (a:Int) &&& ~~~BitVec.ofInt 16 (b:Int)).toNat:Int) (by omega) (by show((BitVec.ofInt 16 (a:Int) &&& ~~~BitVec.ofInt 16 (b:Int)).toNat:Int) < (65536:Int);omega),(BitVec.ofInt 16 (a:Int) &&& ~~~BitVec.ofInt 16 (b:Int)).isLt,fun i=> ?_⟩
 rw[has_testBit,has_testBit,has_testBit,BitVec.testBit_toNat,BitVec.getLsbD_and,BitVec.getLsbD_not,BitVec.ofInt_natCast,BitVec.ofInt_natCast,BitVec.getLsbD_ofNat,BitVec.getLsbD_ofNat]
 by_cases h:i < 16
 ·simp[h]
 ·have:a.testBit i=false:=by
   rw[←has_testBit]
   cases e:has a i with
   | false=>rfl
   | true=>have:=has_lt (n:=16) ha e;omega
  simp[h,this]
theorem above_u16 (m k:Nat) (hm:m < 65536):bits .andNot .u16 (m:Int) ((m % 2^k:Nat):Int)=((m / 2^k*2^k:Nat):Int):=by
 obtain⟨x,hx,hlt,hb⟩:=andNot_u16 m (m % 2^k) hm (Nat.lt_of_le_of_lt (Nat.mod_le _ _) hm)
 rw[hx]
 congr 1
 refine eq_of_has hlt (Nat.lt_of_le_of_lt (Nat.div_mul_le_self _ _) hm) (fun i _=> ?_)
 rw[hb,has_high,has_mod]
 by_cases h:k≤i
 ·simp[h,Nat.not_lt.2 h]
 ·simp[h,Nat.lt_of_not_le h]
end Go.Proofs.YtebnflpanfmicaaGreatDoor
