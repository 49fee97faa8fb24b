/-
  The host's memory: what its six cells, and the four rows behind them, stand for.
-/
import Derived.Test.YtikoldphpehppaaBase
set_option linter.unusedVariables false
set_option linter.unusedSimpArgs false
namespace Go.Proofs.Ytikoldphpehppaa
open Go.RowKit

structure Pkt where
  src : Int
  dst : Int
  lane : Int
  body : Int
  deriving DecidableEq

abbrev Pkt.cells (p : Pkt) : List Value := [.int .i64 p.src, .int .i64 p.dst, .int .i64 p.lane, .int .u32 p.body]
def pcells (l : List Pkt) : List Value := l.flatMap Pkt.cells
theorem pcells_length (l : List Pkt) : (pcells l).length = l.length * 4 := by
  unfold pcells
  induction l with
  | nil => rfl
  | cons x l ih => simp only [List.flatMap_cons, List.length_append, ih, List.length_cons, List.length_nil]; omega
theorem pcells_snoc (l : List Pkt) (x : Pkt) : pcells (l ++ [x]) = pcells l ++ x.cells := by simp [pcells]
theorem pcells_cons (x : Pkt) (l : List Pkt) : pcells (x :: l) = x.cells ++ pcells l := by simp [pcells]
theorem pcells_append (l m : List Pkt) : pcells (l ++ m) = pcells l ++ pcells m := by simp [pcells]
theorem pcells_drop (l : List Pkt) : ∀ k, (pcells l).drop (k * 4) = pcells (l.drop k) := by
  induction l with
  | nil => intro k; simp [pcells]
  | cons x l ih =>
    intro k
    match k with
    | 0 => simp
    | k + 1 => rw [pcells_cons, List.drop_succ_cons, ← ih k, show (k + 1) * 4 = 4 + k * 4 by omega, ← List.drop_drop]; rfl
theorem pcells_take (l : List Pkt) : ∀ k, (pcells l).take (k * 4) = pcells (l.take k) := by
  induction l with
  | nil => intro k; simp [pcells]
  | cons x l ih =>
    intro k
    match k with
    | 0 => simp [pcells]
    | k + 1 => rw [pcells_cons, List.take_succ_cons, pcells_cons, ← ih k, show (k + 1) * 4 = 4 + k * 4 by omega, List.take_add]; rfl
theorem pcells_at (l : List Pkt) (j : Nat) (x : Pkt) (h : l[j]? = some x) (i : Nat) (u : Value) (hu : x.cells[i]? = some u) : (pcells l)[j * 4 + i]? = some u := by
  rw [← List.getElem?_drop, pcells_drop]
  have hj := (List.getElem?_eq_some_iff.1 h)
  obtain ⟨hlt, rfl⟩ := hj
  rw [List.drop_eq_getElem_cons hlt, pcells_cons, List.getElem?_append_left (List.getElem?_eq_some_iff.1 hu).1]
  exact hu
theorem pcells_one (l : List Pkt) : ∀ u ∈ pcells l, u.oneCell' = true := by
  intro u hu
  unfold pcells at hu
  obtain ⟨x, _, hx⟩ := List.mem_flatMap.1 hu
  simp at hx
  rcases hx with rfl | rfl | rfl | rfl <;> rfl

/-- The one packet that is appended lies in a block of its own. -/
theorem src_pkt {P : Program} {W : World} {tx e' e : TypeId} (hk : P.underlying tx = some (.slice e')) {g c : Nat} (x : Pkt)
    (hg : W.heap[g]? = some (.cells #[.int .i64 x.src, .int .i64 x.dst, .int .i64 x.lane, .int .u32 x.body] e (0, 0))) : Src P 4 tx (.slice (some ⟨g, 0, none⟩) 1 c) 1 x.cells W :=
  src_blk hk hg rfl (by intro j hj; match j, hj with | 0, _ => rfl | 1, _ => rfl | 2, _ => rfl | 3, _ => rfl) (by intro u hu; simp at hu; rcases hu with rfl | rfl | rfl | rfl <;> rfl)

/-- Rows of packets in the cells of one struct: pairwise apart, apart from the struct itself, all within S. v: the values of its N row fields. -/
structure RowsOf (w : World) (S : Nat → Prop) (b e N : Nat) (v : Nat → Value) (q : Nat → List Pkt) : Prop where
  rows : ∀ i, i < N → QS w e 4 (v i) (q i).length (pcells (q i))
  self : S b
  off : ∀ i, i < N → (v i).ownBlock ≠ some b
  apart : ∀ i j, i < N → j < N → i ≠ j → ∀ k, (v i).ownBlock = some k → (v j).ownBlock ≠ some k
  own : ∀ i, i < N → ∀ k, (v i).ownBlock = some k → S k
  lt : ∀ k, S k → k < w.heap.size

theorem RowsOf.keeps {w w' : World} {S F : Nat → Prop} {b e N : Nat} {v : Nat → Value} {q : Nat → List Pkt} (h : RowsOf w S b e N v q) (hk : Keeps F w w') (hF : ∀ k, S k → ¬ F k) : RowsOf w' S b e N v q :=
  ⟨fun i hi => (h.rows i hi).keeps hk (fun k hk' => hF k (h.own i hi k hk')), h.self, h.off, h.apart, h.own, fun k hk' => Nat.lt_of_lt_of_le (h.lt k hk') hk.size⟩

def setAt {α : Type} (f : Nat → α) (i : Nat) (x : α) : Nat → α := fun j => if j = i then x else f j
theorem setAt_same {α : Type} (f : Nat → α) (i : Nat) (x : α) : setAt f i x i = x := by simp [setAt]
theorem setAt_other {α : Type} (f : Nat → α) (i j : Nat) (x : α) (h : j ≠ i) : setAt f i x j = f j := by simp [setAt, h]

/-- One row of them has turned (w1), its value is stored into the struct. -/
theorem RowsOf.put {w w1 : World} {S : Nat → Prop} {b e N : Nat} {v : Nat → Value} {q : Nat → List Pkt} (h : RowsOf w S b e N v q) {i o : Nat} (hi : i < N) {v' : Value} {l' : List Pkt}
    (hk : Keeps (fun k => (v i).ownBlock = some k) w w1) (hq : QS w1 e 4 v' l'.length (pcells l')) (ho : v'.ownBlock = (v i).ownBlock ∨ ∃ g, v'.ownBlock = some g ∧ w.heap.size ≤ g) :
    RowsOf (w1.setCell ⟨b, o, none⟩ v') (fun k => S k ∨ (w.heap.size ≤ k ∧ k < w1.heap.size)) b e N (setAt v i v') (setAt q i l') ∧ Keeps S w (w1.setCell ⟨b, o, none⟩ v') := by
  have hb := h.lt b h.self
  have hnb : v'.ownBlock ≠ some b := by
    rcases ho with ho | ⟨g, hg, hge⟩
    · rw [ho]; exact h.off i hi
    · rw [hg]; intro e; injection e with e; omega
  have hsz : (w1.setCell ⟨b, o, none⟩ v').heap.size = w1.heap.size := by simp [World.setCell]
  refine ⟨⟨fun j hj => ?_, .inl h.self, fun j hj => ?_, fun j k hj hk' hne g hg => ?_, fun j hj k hk' => ?_, fun k hk' => ?_⟩, ?_⟩
  · by_cases e : j = i
    · subst e
      rw [setAt_same, setAt_same]
      exact hq.other _ _ (fun k hk' e' => hnb (by rw [hk', e']))
    · rw [setAt_other _ _ _ _ e, setAt_other _ _ _ _ e]
      exact ((h.rows j hj).keeps hk (fun k hk' e' => h.apart j i hj hi e k hk' e')).other _ _ (fun k hk' e' => h.off j hj (by rw [hk', e']))
  · by_cases e : j = i
    · subst e; rw [setAt_same]; exact hnb
    · rw [setAt_other _ _ _ _ e]; exact h.off j hj
  · by_cases e : j = i
    · subst e
      rw [setAt_same] at hg
      rw [setAt_other _ _ _ _ (Ne.symm hne)]
      rcases ho with ho | ⟨g', hg', hge⟩
      · exact h.apart j k hj hk' hne g (ho ▸ hg)
      · intro e'
        rw [hg'] at hg; injection hg with hg; subst hg
        have := h.lt _ (h.own k hk' _ e'); omega
    · rw [setAt_other _ _ _ _ e] at hg
      by_cases e2 : k = i
      · subst e2
        rw [setAt_same]
        rcases ho with ho | ⟨g', hg', hge⟩
        · rw [ho]; exact h.apart j k hj hk' hne g hg
        · intro e'
          rw [hg'] at e'; injection e' with e'; subst e'
          have := h.lt _ (h.own j hj _ hg); omega
      · rw [setAt_other _ _ _ _ e2]; exact h.apart j k hj hk' hne g hg
  · by_cases e : j = i
    · subst e
      rw [setAt_same] at hk'
      rcases ho with ho | ⟨g', hg', hge⟩
      · exact .inl (h.own j hj k (ho ▸ hk'))
      · rw [hg'] at hk'; injection hk' with hk'; subst hk'
        exact .inr ⟨hge, hq.lt _ hg'⟩
    · rw [setAt_other _ _ _ _ e] at hk'
      exact .inl (h.own j hj k hk')
  · rw [hsz]
    rcases hk' with hk' | hk'
    · have := h.lt k hk'; have := hk.size; omega
    · exact hk'.2
  · exact (hk.mono (fun k _ hk' => h.own i hi k hk')).trans (Keeps.setCell _ _ _ _ h.self)

/-- The host behind block b (type T; its rows' elements: E): q 0, 1, 2: what waits; q 3: what came. -/
def HostV (w : World) (S : Nat → Prop) (T E b : Nat) (lanes queue : Int) (q : Nat → List Pkt) : Prop :=
  ∃ v : Nat → Value, w.heap[b]? = some (.cells #[v 0, v 1, v 2, v 3, .int .i64 lanes, .int .i64 queue] T (0, 0)) ∧ RowsOf w S b E 4 v q

theorem HostV.keeps {w w' : World} {S F : Nat → Prop} {T E b : Nat} {lanes queue : Int} {q : Nat → List Pkt} (h : HostV w S T E b lanes queue q) (hk : Keeps F w w') (hF : ∀ k, S k → ¬ F k) : HostV w' S T E b lanes queue q := by
  obtain ⟨v, hb, hr⟩ := h
  exact ⟨v, blk_keeps hk hb (hF b hr.self), hr.keeps hk hF⟩

theorem HostV.put {w w1 : World} {S : Nat → Prop} {T E b : Nat} {lanes queue : Int} {v : Nat → Value} {q : Nat → List Pkt} (hb : w.heap[b]? = some (.cells #[v 0, v 1, v 2, v 3, .int .i64 lanes, .int .i64 queue] T (0, 0))) (h : RowsOf w S b E 4 v q)
    {i : Nat} (hi : i < 4) {v' : Value} {l' : List Pkt}
    (hk : Keeps (fun k => (v i).ownBlock = some k) w w1) (hq : QS w1 E 4 v' l'.length (pcells l')) (ho : v'.ownBlock = (v i).ownBlock ∨ ∃ g, v'.ownBlock = some g ∧ w.heap.size ≤ g) :
    HostV (w1.setCell ⟨b, i, none⟩ v') (fun k => S k ∨ (w.heap.size ≤ k ∧ k < w1.heap.size)) T E b lanes queue (setAt q i l') ∧ Keeps S w (w1.setCell ⟨b, i, none⟩ v') := by
  obtain ⟨r1, r2⟩ := h.put (o := i) hi hk hq ho
  refine ⟨⟨_, ?_, r1⟩, r2⟩
  rw [blk_set (blk_keeps hk hb (fun e => h.off i hi e)) i v']
  match i, hi with
  | 0, _ => rfl
  | 1, _ => rfl
  | 2, _ => rfl
  | 3, _ => rfl

end Go.Proofs.Ytikoldphpehppaa
