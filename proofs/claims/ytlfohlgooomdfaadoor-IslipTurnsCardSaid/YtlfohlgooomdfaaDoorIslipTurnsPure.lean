/-
  When all ask for all: the state behind each tick, by lists; behind as many ticks as are run each has had each. No program in sight.
-/
import Derived.Test.YtlfohlgooomdfaaDoorIslipPlain
import Derived.Test.YtlfohlgooomdfaaDoorIslipRun
set_option linter.unusedVariables false
set_option linter.unusedSimpArgs false
namespace Go.Proofs.YtlfohlgooomdfaaDoor

def full (n : Nat) : List Nat := List.replicate n (2 ^ n - 1)
def fn (l : List Nat) : Nat → Nat := fun k => l.getD k 0
def tickS (n : Nat) (G A : List Nat) : St := roundsP (asks (full n)) n (start (fn G) (fn A)) 1
/-- What is seen, behind the first j inputs. -/
def addC (n : Nat) (m : Nat → Int) : Nat → List Nat → List Nat
  | 0, C => C
  | j + 1, C => if 0 ≤ m j then (addC n m j C).set (j * n + (m j).toNat) ((addC n m j C).getD (j * n + (m j).toNat) 0 + 1) else addC n m j C
structure Tk where
  G : List Nat
  A : List Nat
  C : List Nat
def tk0 (n : Nat) : Tk := ⟨List.replicate n 0, List.replicate n 0, List.replicate (n * n) 0⟩
def tick (n : Nat) (s : Tk) : Tk := ⟨lst n (tickS n s.G s.A).G, lst n (tickS n s.G s.A).A, addC n (tickS n s.G s.A).m n s.C⟩
def ticks (n : Nat) : Nat → Tk
  | 0 => tk0 n
  | t + 1 => tick n (ticks n t)
def fine (n : Nat) : Bool := (ticks n (2 * n * n + 2 * n)).C.all fun x => x != 0
set_option maxRecDepth 100000
theorem fine1 : fine 1 = true := by decide +kernel
theorem fine2 : fine 2 = true := by decide +kernel
theorem fine3 : fine 3 = true := by decide +kernel
theorem fine4 : fine 4 = true := by decide +kernel
theorem fine5 : fine 5 = true := by decide +kernel
theorem fine6 : fine 6 = true := by decide +kernel
theorem fine_all {n : Nat} (h1 : 1 ≤ n) (h2 : n ≤ 6) : fine n = true := by
  match n, h1, h2 with
  | 1, _, _ => exact fine1
  | 2, _, _ => exact fine2
  | 3, _, _ => exact fine3
  | 4, _, _ => exact fine4
  | 5, _, _ => exact fine5
  | 6, _, _ => exact fine6
theorem fn_lst {n : Nat} (f : Nat → Nat) {k : Nat} (h : k < n) : fn (lst n f) k = f k := by
  unfold fn; rw [List.getD_eq_getElem?_getD, lst_at _ h]; rfl
theorem lst_fn {n : Nat} (f : Nat → Nat) : lst n (fn (lst n f)) = lst n f := lst_congr fun i hi => fn_lst f hi
theorem addC_length (n : Nat) (m : Nat → Int) (C : List Nat) : ∀ j, (addC n m j C).length = C.length
  | 0 => rfl
  | j + 1 => by rw [addC]; split <;> simp [addC_length n m C j]
theorem addC_le (n : Nat) (m : Nat → Int) (C : List Nat) (B : Nat) (h : ∀ x ∈ C, x ≤ B) : ∀ j, ∀ x ∈ addC n m j C, x ≤ B + j
  | 0 => fun x hx => by have := h x hx; omega
  | j + 1 => fun x hx => by
    have ih := addC_le n m C B h j
    rw [addC] at hx
    split at hx
    · rcases List.mem_or_eq_of_mem_set hx with h' | h'
      · have := ih x h'; omega
      · rw [h', List.getD_eq_getElem?_getD]
        cases e : (addC n m j C)[j * n + (m j).toNat]? with
        | none => simp; omega
        | some y => have := ih y (List.mem_of_getElem? e); simp; omega
    · have := ih x hx; omega
theorem ticks_length (n : Nat) : ∀ t, (ticks n t).C.length = n * n
  | 0 => by simp [ticks, tk0]
  | t + 1 => by rw [ticks, tick]; exact (addC_length _ _ _ _).trans (ticks_length n t)
theorem ticks_le (n : Nat) : ∀ t, ∀ x ∈ (ticks n t).C, x ≤ t * n
  | 0 => fun x hx => by
    have : x ∈ List.replicate (n * n) 0 := hx
    rw [List.mem_replicate] at this
    omega
  | t + 1 => fun x hx => by
    have := addC_le n (tickS n (ticks n t).G (ticks n t).A).m (ticks n t).C (t * n) (ticks_le n t) n x hx
    rw [Nat.succ_mul]; exact this
theorem addC_no {n j : Nat} {m : Nat → Int} {C : List Nat} (h : m j < 0) : addC n m j C = addC n m (j + 1) C := by
  rw [addC, if_neg (by omega)]
theorem addC_yes {n j k : Nat} {m : Nat → Int} {C : List Nat} (h : m j = (k : Int)) : (addC n m j C).set (j * n + k) ((addC n m j C).getD (j * n + k) 0 + 1) = addC n m (j + 1) C := by
  rw [addC, if_pos (by omega), h, Int.toNat_natCast]

/-! ### All that is asked for, row by row -/
def fullTo (n i j : Nat) : List Nat := lst n fun x => if x < i then 2 ^ n - 1 else if x = i then 2 ^ j - 1 else 0
theorem fullTo_set (n i j : Nat) : (fullTo n i j).set i (2 ^ j - 1 + 2 ^ j) = fullTo n i (j + 1) := by
  unfold fullTo
  rw [lst_set]
  refine lst_congr fun x _ => ?_
  unfold upd
  by_cases e : x = i
  · subst e
    have := Nat.two_pow_pos j
    rw [if_pos rfl, if_neg (by omega), if_pos rfl, Nat.pow_succ]
    omega
  · simp [e]
theorem fullTo_next (n i : Nat) : fullTo n i n = fullTo n (i + 1) 0 := by
  unfold fullTo
  refine lst_congr fun x _ => ?_
  by_cases h1 : x < i
  · rw [if_pos h1, if_pos (by omega)]
  · by_cases h2 : x = i
    · rw [if_neg h1, if_pos h2, if_pos (by omega)]
    · rw [if_neg h1, if_neg h2, if_neg (by omega)]
      by_cases h3 : x = i + 1
      · rw [if_pos h3]
      · rw [if_neg h3]
theorem fullTo_zero (n : Nat) : fullTo n 0 0 = lst n fun _ => 0 := by
  unfold fullTo
  refine lst_congr fun x _ => ?_
  rw [if_neg (by omega)]
  by_cases h : x = 0
  · rw [if_pos h]
  · rw [if_neg h]
theorem fullTo_end (n : Nat) : fullTo n n 0 = full n := by
  unfold fullTo full
  rw [← lst_const]
  exact lst_congr fun x hx => by rw [if_pos hx]
theorem fullTo_at (n i j : Nat) (hi : i < n) : (fullTo n i j)[i]? = some (2 ^ j - 1) := by
  unfold fullTo; rw [lst_at _ hi, if_neg (by omega), if_pos rfl]
end Go.Proofs.YtlfohlgooomdfaaDoor
