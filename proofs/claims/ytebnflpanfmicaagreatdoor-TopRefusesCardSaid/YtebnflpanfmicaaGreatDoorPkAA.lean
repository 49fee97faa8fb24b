/-
  Part 1 of the proof: Base.
-/
import Derived.WalkKit
import Derived.WalkSpells
import Derived.WalkLawsBesides
import Derived.Deep.AppendSrc
import Derived.Deep.RegionLaw
import Derived.Lib.Hide
set_option linter.unusedVariables false
set_option linter.unusedSimpArgs false
set_option linter.unusedSectionVars false
namespace Go.Proofs.YtebnflpanfmicaaGreatDoor
open Go.RowKit
structure Keeps (F : Nat → Prop) (w w' : World) : Prop where
  os : w'.os = w.os
  tape : w'.tape = w.tape
  output : w'.output = w.output
  size : w.heap.size ≤ w'.heap.size
  block : ∀ i, i < w.heap.size → ¬ F i → w'.heap[i]? = w.heap[i]?
theorem Keeps.refl (F : Nat → Prop) (w : World) : Keeps F w w := ⟨rfl, rfl, rfl, Nat.le_refl _, fun _ _ _ => rfl⟩
theorem Keeps.trans {F : Nat → Prop} {a b c : World} (h : Keeps F a b) (k : Keeps F b c) : Keeps F a c :=
  ⟨k.os.trans h.os, k.tape.trans h.tape, k.output.trans h.output, Nat.le_trans h.size k.size,
    fun i hi hn => (k.block i (Nat.lt_of_lt_of_le hi h.size) hn).trans (h.block i hi hn)⟩
theorem Keeps.then {F G : Nat → Prop} {a b c : World} (h : Keeps F a b) (k : Keeps G b c) (hG : ∀ i, i < a.heap.size → G i → F i) : Keeps F a c :=
  ⟨k.os.trans h.os, k.tape.trans h.tape, k.output.trans h.output, Nat.le_trans h.size k.size,
    fun i hi hn => (k.block i (Nat.lt_of_lt_of_le hi h.size) (fun hg => hn (hG i hi hg))).trans (h.block i hi hn)⟩
theorem Keeps.mono {F G : Nat → Prop} {w w' : World} (h : Keeps F w w') (hF : ∀ i, i < w.heap.size → F i → G i) : Keeps G w w' :=
  ⟨h.os, h.tape, h.output, h.size, fun i hi hn => h.block i hi (fun hf => hn (hF i hi hf))⟩
theorem Keeps.alloc (F : Nat → Prop) (w : World) (o : Obj) : Keeps F w (w.alloc o) :=
  ⟨rfl, rfl, rfl, by simp, fun _ hi _ => Below.heap_alloc _ _ _ hi⟩
theorem Keeps.drew (F : Nat → Prop) (w : World) : Keeps F w w.drew := ⟨rfl, rfl, rfl, Nat.le_refl _, fun _ _ _ => rfl⟩
theorem Keeps.drewN (F : Nat → Prop) (w : World) (n : Nat) : Keeps F w (w.drewN n) := ⟨rfl, rfl, rfl, Nat.le_refl _, fun _ _ _ => rfl⟩
theorem Keeps.setCell (F : Nat → Prop) (w : World) (a : Addr) (v : Value) (h : F a.block) : Keeps F w (w.setCell a v) :=
  ⟨rfl, rfl, rfl, by simp [World.setCell], fun i _ hn => Below.heap_setCell _ _ _ _ (fun e => hn (e ▸ h))⟩
theorem Keeps.grown {F : Nat → Prop} {w w' : World} {row : Option Nat} (hg : w.grownBy w' row) (hr : ∀ k, row = some k → F k) : Keeps F w w' :=
  ⟨hg.os, hg.tape, hg.output, hg.size, fun i hi hn => hg.block i hi (fun e => hn (hr i e.symm))⟩
theorem Keeps.of_below {F : Nat → Prop} {w w' : World} (h : Below w.heap.size w w') : Keeps F w w' :=
  ⟨h.os, h.tape, h.output, h.size, fun i hi _ => h.block i hi⟩
theorem Keeps.below {F : Nat → Prop} {w w' : World} (h : Keeps F w w') {B : Nat} (hB : B ≤ w.heap.size) (hF : ∀ i, i < B → ¬ F i) : Below B w w' :=
  ⟨h.os, h.tape, h.output, h.size, fun i hi => h.block i (Nat.lt_of_lt_of_le hi hB) (hF i hi)⟩
theorem Keeps.cell {F : Nat → Prop} {w w' : World} (h : Keeps F w w') {a : Addr} {v : Value} (hc : w.cell? a = some v) (hF : ¬ F a.block) : w'.cell? a = some v :=
  (World.cell?_of_block (h.block a.block (World.block_lt_of_cell? w a hc) hF)).trans hc
theorem Keeps.frozen {F : Nat → Prop} {w w' : World} (h : Keeps F w w') {a : Addr} {v : Value} (hc : w.cell? a = some v) (hF : ¬ F a.block) : w'.frozen? a = w.frozen? a :=
  World.frozen?_of_block (h.block a.block (World.block_lt_of_cell? w a hc) hF)
theorem blk_lt {w : World} {b : Nat} {o : Obj} (h : w.heap[b]? = some o) : b < w.heap.size := (Array.getElem?_eq_some_iff.1 h).1
theorem blk_cell {w : World} {b : Nat} {cs : Array Value} {e : TypeId} (h : w.heap[b]? = some (.cells cs e (0, 0))) (j : Nat) : w.cell? ⟨b, j, none⟩ = cs[j]? := by
  simp [World.cell?, h]
theorem blk_frozen {w : World} {b : Nat} {cs : Array Value} {e : TypeId} (h : w.heap[b]? = some (.cells cs e (0, 0))) (j : Nat) : w.frozen? ⟨b, j, none⟩ = false := by
  simp [World.frozen?, h]
theorem blk_alloc {w : World} {b : Nat} {o : Obj} (h : w.heap[b]? = some o) (o' : Obj) : (w.alloc o').heap[b]? = some o := (Below.heap_alloc _ _ _ (blk_lt h)).trans h
theorem blk_new (w : World) (o : Obj) : (w.alloc o).heap[w.heap.size]? = some o := heap_alloc_new w o
theorem blk_other {w : World} {b : Nat} {o : Obj} (h : w.heap[b]? = some o) (a : Addr) (v : Value) (hne : b ≠ a.block) : (w.setCell a v).heap[b]? = some o :=
  (Below.heap_setCell _ _ _ _ hne).trans h
theorem blk_set {w : World} {b : Nat} {cs : Array Value} {e : TypeId} {fr : Nat × Nat} (h : w.heap[b]? = some (.cells cs e fr)) (j : Nat) (v : Value) :
    (w.setCell ⟨b, j, none⟩ v).heap[b]? = some (.cells (cs.setIfInBounds j v) e fr) := by
  simp only [World.setCell, Array.getElem?_modify, if_true, h, Option.map_some, Option.isSome_none, Bool.false_eq_true, if_false]
theorem blk_keeps {F : Nat → Prop} {w w' : World} (h : Keeps F w w') {b : Nat} {o : Obj} (hb : w.heap[b]? = some o) (hF : ¬ F b) : w'.heap[b]? = some o :=
  (h.block b (blk_lt hb) hF).trans hb
theorem sc_far {g : Nat} : ∀ (vs : List Value) (o : Nat) {w : World} (k : Nat), k ≠ g → (w.setCells g o vs).heap[k]? = w.heap[k]?
  | [], _, _, _, _ => rfl
  | v :: r, o, w, k, hk => by rw [World.setCells, sc_far r (o + 1) k hk]; exact Below.heap_setCell _ _ _ _ hk
theorem sc_same (g : Nat) : ∀ (vs : List Value) (o : Nat) (w : World), (w.setCells g o vs).os = w.os ∧ (w.setCells g o vs).tape = w.tape ∧ (w.setCells g o vs).output = w.output ∧ (w.setCells g o vs).heap.size = w.heap.size
  | [], _, _ => ⟨rfl, rfl, rfl, rfl⟩
  | v :: r, o, w => by
    obtain ⟨h1, h2, h3, h4⟩ := sc_same g r (o + 1) (w.setCell ⟨g, o, none⟩ v)
    exact ⟨h1, h2, h3, h4.trans (by simp [World.setCell])⟩
theorem sc_row {g : Nat} {e : TypeId} {fr : Nat × Nat} : ∀ (vs : List Value) (o : Nat) (w : World) (cur : Array Value), w.heap[g]? = some (.cells cur e fr) →
    ∃ cur' : Array Value, (w.setCells g o vs).heap[g]? = some (.cells cur' e fr) ∧ cur'.size = cur.size ∧ (∀ j, (j < o ∨ o + vs.length ≤ j) → cur'[j]? = cur[j]?) ∧
      (o + vs.length ≤ cur.size → ∀ j, j < vs.length → cur'[o + j]? = vs[j]?)
  | [], o, w, cur, h => ⟨cur, h, rfl, fun _ _ => rfl, fun _ j hj => absurd hj (Nat.not_lt_zero _)⟩
  | v :: r, o, w, cur, h => by
    obtain ⟨cur', h1, h2, h3, h4⟩ := sc_row r (o + 1) (w.setCell ⟨g, o, none⟩ v) _ (blk_set h o v)
    refine ⟨cur', h1, by rw [h2]; simp, fun j hj => ?_, fun hle j hj => ?_⟩
    · simp only [List.length_cons] at hj
      rw [h3 j (by omega), Array.getElem?_setIfInBounds_ne (by omega)]
    · simp only [List.length_cons] at hj hle
      match j, hj with
      | 0, _ => rw [Nat.add_zero, h3 o (by omega)]; simp [Array.getElem?_setIfInBounds]; omega
      | j + 1, hj =>
        have := h4 (by simp; omega) j (by omega)
        rw [show o + (j + 1) = o + 1 + j by omega, this]; simp
def QS (w : World) (e sz : Nat) (v : Value) (n : Nat) (cs : List Value) : Prop :=
  cs.length = n * sz ∧ ((v = .slice none 0 0 ∧ n = 0) ∨
    ∃ g off cap cur, v = .slice (some ⟨g, off, none⟩) n cap ∧ w.heap[g]? = some (.cells cur e (0, 0)) ∧ n ≤ cap ∧ cap ≤ maxLen ∧ off + cap * sz ≤ cur.size ∧ ∀ j, j < cs.length → cur[off + j]? = cs[j]?)
theorem QS.nil (w : World) (e sz : Nat) : QS w e sz (.slice none 0 0) 0 [] := ⟨by simp, .inl ⟨rfl, rfl⟩⟩
theorem QS.shape {w : World} {e sz n : Nat} {v : Value} {cs : List Value} (h : QS w e sz v n cs) : ∃ A cap, v = .slice A n cap ∧ n ≤ cap ∧ cap ≤ maxLen := by
  rcases h.2 with ⟨rfl, rfl⟩ | ⟨g, off, cap, cur, rfl, _, h1, h2, _⟩
  · exact ⟨none, 0, rfl, Nat.le_refl _, Nat.zero_le _⟩
  · exact ⟨_, cap, rfl, h1, h2⟩
theorem QS.lt {w : World} {e sz n : Nat} {v : Value} {cs : List Value} (h : QS w e sz v n cs) : ∀ k, v.ownBlock = some k → k < w.heap.size := by
  intro k hk
  rcases h.2 with ⟨rfl, _⟩ | ⟨g, off, cap, cur, rfl, hg, _⟩
  · simp [Value.ownBlock] at hk
  · obtain rfl : g = k := by simpa [Value.ownBlock] using hk
    exact blk_lt hg
theorem QS.typed {w : World} {e sz n : Nat} {v : Value} {cs : List Value} (h : QS w e sz v n cs) : ∀ k, v.ownBlock = some k → ∃ cur, w.heap[k]? = some (.cells cur e (0, 0)) := by
  intro k hk
  rcases h.2 with ⟨rfl, _⟩ | ⟨g, off, cap, cur, rfl, hg, _⟩
  · simp [Value.ownBlock] at hk
  · obtain rfl : g = k := by simpa [Value.ownBlock] using hk
    exact ⟨cur, hg⟩
theorem QS.keeps {w w' : World} {e sz n : Nat} {v : Value} {cs : List Value} (h : QS w e sz v n cs) {F : Nat → Prop} (hk : Keeps F w w') (hF : ∀ k, v.ownBlock = some k → ¬ F k) : QS w' e sz v n cs := by
  refine ⟨h.1, ?_⟩
  rcases h.2 with hn | ⟨g, off, cap, cur, rfl, hg, rest⟩
  · exact .inl hn
  · exact .inr ⟨g, off, cap, cur, rfl, blk_keeps hk hg (hF g rfl), rest⟩
theorem QS.alloc {w : World} {e sz n : Nat} {v : Value} {cs : List Value} (h : QS w e sz v n cs) (o : Obj) : QS (w.alloc o) e sz v n cs :=
  h.keeps (Keeps.alloc (fun _ => False) w o) (fun _ _ h => h)
theorem QS.drew {w : World} {e sz n : Nat} {v : Value} {cs : List Value} (h : QS w e sz v n cs) : QS w.drew e sz v n cs :=
  h.keeps (Keeps.drew (fun _ => False) w) (fun _ _ h => h)
theorem QS.other {w : World} {e sz n : Nat} {v : Value} {cs : List Value} (h : QS w e sz v n cs) (a : Addr) (u : Value) (hne : ∀ k, v.ownBlock = some k → k ≠ a.block) : QS (w.setCell a u) e sz v n cs :=
  h.keeps (Keeps.setCell (fun k => k = a.block) w a u rfl) (fun k hk => hne k hk)
theorem QS.cell {w : World} {e sz n : Nat} {v : Value} {cs : List Value} (h : QS w e sz v n cs) (hn : 0 < n) : ∃ g off cap, v = .slice (some ⟨g, off, none⟩) n cap ∧ n ≤ cap ∧
    (∀ j u, cs[j]? = some u → w.cell? ⟨g, off + j, none⟩ = some u) ∧ (∀ j, w.frozen? ⟨g, j, none⟩ = false) := by
  rcases h.2 with ⟨_, h0⟩ | ⟨g, off, cap, cur, rfl, hg, h1, _, _, hc⟩
  · omega
  · exact ⟨g, off, cap, rfl, h1, fun j u hu => by rw [blk_cell hg, hc j (List.getElem?_eq_some_iff.1 hu).1]; exact hu, fun j => blk_frozen hg j⟩
theorem QS.drop {w : World} {e sz n : Nat} {g off cap : Nat} {cs : List Value} (h : QS w e sz (.slice (some ⟨g, off, none⟩) n cap) n cs) (k : Nat) (hk : k ≤ n) :
    QS w e sz (.slice (some ⟨g, off + k * sz, none⟩) (n - k) (cap - k)) (n - k) (cs.drop (k * sz)) := by
  obtain ⟨hl, h2⟩ := h
  rcases h2 with ⟨hv, _⟩ | ⟨g', off', cap', cur, hv, hg, h1, h2, h3, h4⟩
  · cases hv
  · injection hv with ha _ hc'
    injection ha with ha
    injection ha with hg' ho
    subst hg'; subst ho; subst hc'
    have e1 : (n - k) * sz + k * sz = n * sz := by rw [← Nat.add_mul]; congr 1; omega
    have e2 : (cap - k) * sz + k * sz = cap * sz := by rw [← Nat.add_mul]; congr 1; omega
    refine ⟨by rw [List.length_drop, hl]; omega, .inr ⟨g, off + k * sz, cap - k, cur, rfl, hg, by omega, by simp only [maxLen] at *; omega, by omega, fun j hj => ?_⟩⟩
    rw [List.length_drop] at hj
    rw [List.getElem?_drop, ← h4 _ (by omega)]
    congr 1; omega
theorem QS.take {w : World} {e sz n : Nat} {g off cap : Nat} {cs : List Value} (h : QS w e sz (.slice (some ⟨g, off, none⟩) n cap) n cs) (k : Nat) (hk : k ≤ n) :
    QS w e sz (.slice (some ⟨g, off, none⟩) k cap) k (cs.take (k * sz)) := by
  obtain ⟨hl, h2⟩ := h
  rcases h2 with ⟨hv, _⟩ | ⟨g', off', cap', cur, hv, hg, h1, h2, h3, h4⟩
  · cases hv
  · injection hv with ha _ hc'
    injection ha with ha
    injection ha with hg' ho
    subst hg'; subst ho; subst hc'
    have e1 : k * sz ≤ n * sz := Nat.mul_le_mul_right _ hk
    refine ⟨by rw [List.length_take, hl]; omega, .inr ⟨g, off, cap, cur, rfl, hg, by omega, h2, h3, fun j hj => ?_⟩⟩
    rw [List.length_take] at hj
    rw [List.getElem?_take_of_lt (by omega)]
    exact h4 _ (by omega)
theorem QS.dropAll {w : World} {e sz n : Nat} {g off : Nat} {cs : List Value} (h : QS w e sz (.slice (some ⟨g, off, none⟩) n n) n cs) :
    QS w e sz (.slice (some ⟨g, off, none⟩) 0 0) 0 [] := by
  obtain ⟨hl, h2⟩ := h
  rcases h2 with ⟨hv, _⟩ | ⟨g', off', cap', cur, hv, hg, h1, h2, h3, h4⟩
  · cases hv
  · injection hv with ha _ hc'
    injection ha with ha
    injection ha with hg' ho
    subst hg'; subst ho; subst hc'
    exact ⟨by simp, .inr ⟨g, off, 0, cur, rfl, hg, Nat.le_refl _, Nat.zero_le _, by omega, fun j hj => absurd hj (Nat.not_lt_zero _)⟩⟩
theorem src_blk {P : Program} {W : World} {tx e' e : TypeId} (hk : P.underlying tx = some (.slice e')) {g off n c sz : Nat} {cur : Array Value} {news : List Value} (hg : W.heap[g]? = some (.cells cur e (0, 0)))
    (hl : news.length = n * sz) (hc : ∀ j, j < news.length → cur[off + j]? = news[j]?) (h1 : ∀ u ∈ news, u.oneCell' = true) : Src P sz tx (.slice (some ⟨g, off, none⟩) n c) n news W :=
  Src.ofSlice W hk _ _ _ _ hl (fun j u hu => by rw [Addr.add_lit, blk_cell hg, hc j (List.getElem?_eq_some_iff.1 hu).1]; exact hu) h1
theorem QS.src {P : Program} {W : World} {tx e' e sz n : Nat} {v : Value} {cs : List Value} (h : QS W e sz v n cs) (hk : P.underlying tx = some (.slice e')) (h1 : ∀ u ∈ cs, u.oneCell' = true) : Src P sz tx v n cs W := by
  obtain ⟨hl, h2⟩ := h
  rcases h2 with ⟨rfl, rfl⟩ | ⟨g, off, cap, cur, rfl, hg, _, _, _, hc⟩
  · obtain rfl : cs = [] := List.eq_nil_of_length_eq_zero (by rw [hl, Nat.zero_mul])
    exact Src.ofNil W hk 0
  · exact src_blk hk hg hl hc h1
section
variable {P : Program}
theorem run_append_QS (w : World) (t tx ty e : TypeId) (z : Value) (sz bytes : Nat) (ht : P.underlying t = some (.slice e)) (hinfo : (P.info? e).map (fun i => (i.zero, i.size, i.bytes)) = some (some z, sz, bytes)) (hz : z.cells.size = sz)
    (v : Value) (n : Nat) (cs : List Value) (hQ : QS w e sz v n cs) (x : Value) (m : Nat) (news : List Value) (hs : Src P sz tx x m news w) (hb0 : 0 < bytes) (hb : (n + m) * bytes ≤ 140737488355328) :
    ∃ A c w', (Builtin.append_ #[t, tx] ty #[v, x]).run P w = .ok (.slice A (n + m) c) w' ∧ QS w' e sz (.slice A (n + m) c) (n + m) (cs ++ news) ∧ w.grownBy w' v.ownBlock ∧
      ((Value.slice A (n + m) c).ownBlock = v.ownBlock ∨ ∃ b, (Value.slice A (n + m) c).ownBlock = some b ∧ w.heap.size ≤ b) := by
  obtain ⟨i, hi, hzz⟩ := Option.map_eq_some_iff.1 hinfo
  simp only [Prod.mk.injEq] at hzz
  obtain ⟨hz0, rfl, rfl⟩ := hzz
  have hnm : n + m ≤ 140737488355328 := Nat.le_trans (Nat.le_mul_of_pos_right _ hb0) hb
  obtain ⟨hl, h2⟩ := hQ
  have hml := hs.newsLen
  have grow : ∀ (bs : Option Addr) (sc : Nat), v = .slice bs n sc → sc < n + m → (Builtin.firstCells i.size n (.slice bs n sc)).run P w.drew = .ok cs.toArray w.drew →
      ∃ A c w', (Builtin.append_ #[t, tx] ty #[v, x]).run P w = .ok (.slice A (n + m) c) w' ∧ QS w' e i.size (.slice A (n + m) c) (n + m) (cs ++ news) ∧ w.grownBy w' v.ownBlock ∧
        ((Value.slice A (n + m) c).ownBlock = v.ownBlock ∨ ∃ b, (Value.slice A (n + m) c).ownBlock = some b ∧ w.heap.size ≤ b) := by
    rintro bs sc rfl hg hold
    have hrun := run_append_grow_src (P := P) w t tx ty e i z ht hi hz0 bs n sc cs hold x m news hs hg (by omega) (growslice_fits hg hb)
    refine ⟨_, _, _, hrun, ⟨by rw [List.length_append, hl, hml, Nat.add_mul], .inr ⟨w.heap.size, 0, _, _, rfl, heap_alloc_new w.drew _, grownCap_ge _ _ _ _, grownCap_le_maxLen _ _ _ _ (by simp only [maxLen]; omega), ?_, ?_⟩⟩, ?_, .inr ⟨w.heap.size, rfl, Nat.le_refl _⟩⟩
    · have hge := grownCap_ge w (n + m) sc e
      have : (grownCap w (n + m) sc e - (n + m)) * i.size + (n + m) * i.size = grownCap w (n + m) sc e * i.size := by rw [← Nat.add_mul]; congr 1; omega
      have e3 : (n + m) * i.size = n * i.size + m * i.size := Nat.add_mul _ _ _
      simp [Builtin.zeroCells, hl, hml, hz]
      omega
    · intro j hj
      rw [Nat.zero_add, Array.getElem?_append_left (by simpa using hj)]
      simp
    · exact ⟨rfl, rfl, rfl, by simp, fun k hk _ => Below.heap_alloc w.drew _ k hk⟩
  rcases h2 with ⟨rfl, rfl⟩ | ⟨g, off, cap, cur, rfl, hg, h1, hmx, hc, hcell⟩
  · obtain rfl : cs = [] := List.eq_nil_of_length_eq_zero (by rw [hl, Nat.zero_mul])
    by_cases hm0 : m = 0
    · subst hm0
      obtain rfl : news = [] := List.eq_nil_of_length_eq_zero (by rw [hml, Nat.zero_mul])
      have hrun := show (Builtin.append_ #[t, tx] ty #[.slice none 0 0, x]).run P w = .ok (.slice none 0 0) w by
        rcases hs.kind with ⟨e', hk⟩ | hk <;> simp [Builtin.append_, run_underlying ht, run_underlying hk, sizeOf, typeInfo, hi, hs.len, hs.cells]
      exact ⟨none, 0, w, hrun, QS.nil _ _ _, ⟨rfl, rfl, rfl, Nat.le_refl _, fun _ _ _ => rfl⟩, .inl rfl⟩
    · exact grow none 0 rfl (by omega) (run_firstCells_none _ _ _ _ _)
  · by_cases hr : n + m ≤ cap
    · have hsz : (n + m) * i.size ≤ cap * i.size := Nat.mul_le_mul_right _ hr
      have e3 : (n + m) * i.size = n * i.size + m * i.size := Nat.add_mul _ _ _
      have hrun := run_append_room_src (P := P) w t tx ty e i ht hi g off n cap x m news hs hr
        (fun j hj => by rw [blk_cell hg, Array.getElem?_eq_getElem (by omega)]; rfl) (fun j _ => blk_frozen hg _)
      obtain ⟨cur', k1, k2, k3, k4⟩ := sc_row news (off + n * i.size) w cur hg
      obtain ⟨s1, s2, s3, s4⟩ := sc_same g news (off + n * i.size) w
      refine ⟨_, _, _, hrun, ⟨by rw [List.length_append, hl, hml, Nat.add_mul], .inr ⟨g, off, cap, cur', rfl, k1, hr, hmx, by omega, fun j hj => ?_⟩⟩, ⟨s1, s2, s3, by omega, fun k _ hk => sc_far _ _ k (fun e => hk (by rw [e]; rfl))⟩, .inl rfl⟩
      rw [List.length_append] at hj
      by_cases hjl : j < cs.length
      · rw [k3 _ (by omega), hcell j hjl, List.getElem?_append_left hjl]
      · rw [List.getElem?_append_right (by omega), ← k4 (by omega) _ (by omega)]
        congr 1; omega
    · exact grow _ cap rfl (by omega) (run_firstCells_some w.drew i.size n ⟨g, off, none⟩ n cap cs hl (fun j u hu => by
        have hj := (List.getElem?_eq_some_iff.1 hu).1
        rw [Addr.add_lit, World.cell?_drew, blk_cell hg, hcell j hj]; exact hu))
theorem wp_append_QS {w : World} {o : Oper} {a : Act} {K : Act → World → Prop} {Q : Exit → Act → World → Prop} (s x : Operand) (t tx : TypeId) (ho : o.op = .call { callee := .builtin .append, args := #[s, x], argTypes := #[t, tx] })
    (e : TypeId) (z : Value) (sz bytes : Nat) (ht : P.underlying t = some (.slice e)) (hinfo : (P.info? e).map (fun i => (i.zero, i.size, i.bytes)) = some (some z, sz, bytes)) (hz : z.cells.size = sz)
    (v : Value) (n : Nat) (cs : List Value) (hv : a.eval s = v) (hQ : QS w e sz v n cs) (xv : Value) (m : Nat) (news : List Value) (hx : a.eval x = xv) (hs : Src P sz tx xv m news w) (hb0 : 0 < bytes) (hb : (n + m) * bytes ≤ 140737488355328)
    (h : ∀ A c w', QS w' e sz (.slice A (n + m) c) (n + m) (cs ++ news) → w.grownBy w' v.ownBlock → ((Value.slice A (n + m) c).ownBlock = v.ownBlock ∨ ∃ b, (Value.slice A (n + m) c).ownBlock = some b ∧ w.heap.size ≤ b) → K (a.put o.dst (.slice A (n + m) c)) w') :
    Oper.wp P o a w K Q := by
  obtain ⟨A, c, w', hrun, r1, r2, r3⟩ := run_append_QS (P := P) w t tx o.type e z sz bytes ht hinfo hz v n cs hQ xv m news hs hb0 hb
  unfold Oper.wp
  simp [execOp, ho, resolve, invoke, builtin, hv, hx, hrun, Result.andThen]
  exact h A c w' r1 r2 r3
theorem wpList_append_QS {w : World} {ops : Array Oper} {rest : List Oper} {o : Oper} {a : Act} {Q : Exit → Act → World → Prop} (hgd : o.guard = none) (s x : Operand) (t tx : TypeId) (ho : o.op = .call { callee := .builtin .append, args := #[s, x], argTypes := #[t, tx] })
    (e : TypeId) (z : Value) (sz bytes : Nat) (ht : P.underlying t = some (.slice e)) (hinfo : (P.info? e).map (fun i => (i.zero, i.size, i.bytes)) = some (some z, sz, bytes)) (hz : z.cells.size = sz)
    (v : Value) (n : Nat) (cs : List Value) (hv : a.eval s = v) (hQ : QS w e sz v n cs) (xv : Value) (m : Nat) (news : List Value) (hx : a.eval x = xv) (hs : Src P sz tx xv m news w) (hb0 : 0 < bytes) (hb : (n + m) * bytes ≤ 140737488355328)
    (h : ∀ A c w', QS w' e sz (.slice A (n + m) c) (n + m) (cs ++ news) → w.grownBy w' v.ownBlock → ((Value.slice A (n + m) c).ownBlock = v.ownBlock ∨ ∃ b, (Value.slice A (n + m) c).ownBlock = some b ∧ w.heap.size ≤ b) → wpList P ops Q rest (a.put o.dst (.slice A (n + m) c)) w') :
    wpList P ops Q (o :: rest) a w :=
  wpList_plain hgd fun _ hK => wp_append_QS s x t tx ho e z sz bytes ht hinfo hz v n cs hv hQ xv m news hx hs hb0 hb fun A c w' r1 r2 r3 => hK _ _ (h A c w' r1 r2 r3)
theorem step_append_QS {w : World} {ops : Array Oper} {o : Oper} {a : Act} {K : Act → World → Prop} {Q : Exit → Act → World → Prop} {E : Prop} (hgd : o.guard = none) (s x : Operand) (t tx : TypeId) (ho : o.op = .call { callee := .builtin .append, args := #[s, x], argTypes := #[t, tx] })
    (e : TypeId) (z : Value) (sz bytes : Nat) (ht : P.underlying t = some (.slice e)) (hinfo : (P.info? e).map (fun i => (i.zero, i.size, i.bytes)) = some (some z, sz, bytes)) (hz : z.cells.size = sz)
    (v : Value) (n : Nat) (cs : List Value) (hv : a.eval s = v) (hQ : QS w e sz v n cs) (xv : Value) (m : Nat) (news : List Value) (hx : a.eval x = xv) (hs : Src P sz tx xv m news w) (hb0 : 0 < bytes) (hb : (n + m) * bytes ≤ 140737488355328)
    (h : ∀ A c w', QS w' e sz (.slice A (n + m) c) (n + m) (cs ++ news) → w.grownBy w' v.ownBlock → ((Value.slice A (n + m) c).ownBlock = v.ownBlock ∨ ∃ b, (Value.slice A (n + m) c).ownBlock = some b ∧ w.heap.size ≤ b) → K (a.put o.dst (.slice A (n + m) c)) w') :
    if Region.wanted o (yielded ops a.tmps) = true then Oper.wp P o a w K Q else E := by
  rw [if_pos (by simp [Region.wanted, hgd])]
  exact wp_append_QS s x t tx ho e z sz bytes ht hinfo hz v n cs hv hQ xv m news hx hs hb0 hb h
end
end Go.Proofs.YtebnflpanfmicaaGreatDoor
