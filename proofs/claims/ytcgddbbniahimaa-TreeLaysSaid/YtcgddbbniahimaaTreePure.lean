/-
  Trees, in plain Lean: the way up, the way from one node to another one. No program in sight.
-/
import Derived.Test.YtcgddbbniahimaaBase
import Derived.KernelRfl
set_option linter.unusedVariables false
set_option linter.unusedSimpArgs false
namespace Go.Proofs.Ytcgddbbniahimaa
open Go.RowKit

abbrev encI (k : Nat) : Value := .int .i64 (k : Int)
/-- Each node's parent is below it. -/
def Tree (t : List Nat) : Prop := ∀ i (h : i < t.length), t[i] ≤ i
/-- From a node to 0. -/
def upF (t : List Nat) : Nat → Nat → List Nat
  | 0, v => [v]
  | k + 1, v => if v = 0 then [v] else v :: upF t k (t.getD (v - 1) 0)
def upl (t : List Nat) (v : Nat) : List Nat := upF t v v
theorem upF_more {t : List Nat} (ht : Tree t) : ∀ k j v, v ≤ k → v ≤ j → upF t k v = upF t j v
  | 0, 0, v, _, _ => rfl
  | 0, j + 1, v, h, _ => by
    obtain rfl : v = 0 := by omega
    rfl
  | k + 1, 0, v, _, h => by
    obtain rfl : v = 0 := by omega
    rfl
  | k + 1, j + 1, v, h1, h2 => by
    unfold upF
    by_cases hv : v = 0
    · rw [if_pos hv, if_pos hv]
    · rw [if_neg hv, if_neg hv]
      have hp : t.getD (v - 1) 0 ≤ v - 1 := by
        rw [List.getD_eq_getElem?_getD]
        by_cases h : v - 1 < t.length
        · rw [List.getElem?_eq_getElem h]; exact ht _ h
        · rw [List.getElem?_eq_none (by omega)]; exact Nat.zero_le _
      rw [upF_more ht k j _ (by omega) (by omega)]
theorem par_lt {t : List Nat} (ht : Tree t) {v : Nat} (h : 0 < v) : t.getD (v - 1) 0 < v := by
  rw [List.getD_eq_getElem?_getD]
  by_cases h' : v - 1 < t.length
  · rw [List.getElem?_eq_getElem h']; have := ht _ h'; simp; omega
  · rw [List.getElem?_eq_none (by omega)]; exact h
theorem upl_zero (t : List Nat) : upl t 0 = [0] := rfl
theorem upl_step {t : List Nat} (ht : Tree t) {v : Nat} (h : 0 < v) : upl t v = v :: upl t (t.getD (v - 1) 0) := by
  have hp := par_lt ht h
  obtain ⟨k, rfl⟩ : ∃ k, v = k + 1 := ⟨v - 1, by omega⟩
  have e : upl t (k + 1) = (k + 1) :: upF t k (t.getD (k + 1 - 1) 0) := by
    show upF t (k + 1) (k + 1) = _
    rw [upF, if_neg (by omega)]
  rw [e]
  congr 1
  exact upF_more ht _ _ _ (by omega) (Nat.le_refl _)
theorem zero_mem_upl {t : List Nat} (ht : Tree t) (v : Nat) : 0 ∈ upl t v := by
  induction v using Nat.strongRecOn with
  | _ v ih =>
    by_cases h : v = 0
    · subst h; simp [upl_zero]
    · rw [upl_step ht (by omega)]; exact List.mem_cons_of_mem _ (ih _ (par_lt ht (by omega)))
theorem upl_length {t : List Nat} (ht : Tree t) (v : Nat) : (upl t v).length ≤ v + 1 := by
  induction v using Nat.strongRecOn with
  | _ v ih =>
    by_cases h : v = 0
    · subst h; simp [upl_zero]
    · have hp := par_lt ht (show 0 < v by omega)
      have := ih _ hp
      rw [upl_step ht (by omega), List.length_cons]; omega
theorem upl_le {t : List Nat} (ht : Tree t) (v : Nat) : ∀ x ∈ upl t v, x ≤ v := by
  induction v using Nat.strongRecOn with
  | _ v ih =>
    intro x hx
    by_cases h : v = 0
    · subst h; rw [upl_zero] at hx; simp at hx; omega
    · have hp := par_lt ht (show 0 < v by omega)
      rw [upl_step ht (by omega)] at hx
      rcases List.mem_cons.1 hx with h1 | h1
      · omega
      · have := ih _ hp x h1; omega

/-- Up one way until the other one is met: what is passed, and where it is met. -/
def climb (d : List Nat) : List Nat → List Nat × Nat
  | [] => ([], 0)
  | x :: l => if x ∈ d then ([x], d.idxOf x) else (x :: (climb d l).1, (climb d l).2)
theorem climb_at {d pre r : List Nat} {x : Nat} (hp : ∀ y ∈ pre, y ∉ d) (hx : x ∈ d) : climb d (pre ++ x :: r) = (pre ++ [x], d.idxOf x) := by
  induction pre with
  | nil => show (if x ∈ d then _ else _) = _; rw [if_pos hx]; rfl
  | cons a l ih =>
    rw [List.cons_append, climb, if_neg (hp a List.mem_cons_self), ih (fun y hy => hp y (List.mem_cons_of_mem _ hy))]
    rfl
def pathN (t : List Nat) (v w : Nat) : List Nat := (climb (upl t w) (upl t v)).1 ++ ((upl t w).take (climb (upl t w) (upl t v)).2).reverse

/-- Is it a tree? -/
def rightI (ps : List Int) : Bool := (List.range ps.length).all (fun i => decide (0 ≤ ps.getD i 0 ∧ ps.getD i 0 ≤ (i : Int))) && decide (ps.length < 6)
def pathI (ps : List Int) (v w : Int) : List Nat :=
  if rightI ps = true ∧ 0 ≤ v ∧ 0 ≤ w ∧ v ≤ (ps.length : Int) ∧ w ≤ (ps.length : Int) then pathN (ps.map Int.toNat) v.toNat w.toNat else []
theorem right_tree {ps : List Int} (h : rightI ps = true) : Tree (ps.map Int.toNat) ∧ ps.length < 6 ∧ ps.map (Value.int .i64) = (ps.map Int.toNat).map encI := by
  unfold rightI at h
  rw [Bool.and_eq_true, decide_eq_true_eq, List.all_eq_true] at h
  obtain ⟨h1, h2⟩ := h
  have h3 : ∀ i (hi : i < ps.length), 0 ≤ ps[i] ∧ ps[i] ≤ (i : Int) := fun i hi => by
    have := h1 i (by simpa using hi)
    rw [decide_eq_true_eq, List.getD_eq_getElem?_getD, List.getElem?_eq_getElem hi] at this
    exact this
  refine ⟨fun i hi => ?_, h2, ?_⟩
  · have hi' : i < ps.length := by simpa using hi
    have := h3 i hi'
    simp only [List.getElem_map]; omega
  · rw [List.map_map]
    refine List.map_congr_left fun z hz => ?_
    obtain ⟨i, hi, rfl⟩ := List.getElem_of_mem hz
    have := h3 i hi
    show Value.int .i64 ps[i] = Value.int .i64 ((ps[i].toNat : Nat) : Int)
    congr 1; omega
end Go.Proofs.Ytcgddbbniahimaa
