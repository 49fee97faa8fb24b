/-
  A matching, by definition: what an arbiter's run comes to, over functions. No program in sight.
-/
import Derived.Test.YtlfohlgooomdfaaDoorMaskPure
set_option linter.unusedVariables false
set_option linter.unusedSimpArgs false
namespace Go.Proofs.YtlfohlgooomdfaaDoor

/-- The number whose bits below n are p's. -/
def bt (p : Nat → Bool) : Nat → Nat
  | 0 => 0
  | k + 1 => bt p k + if p k = true then 2 ^ k else 0
theorem bt_lt (p : Nat → Bool) : ∀ k, bt p k < 2 ^ k
  | 0 => by simp [bt]
  | k + 1 => by
    have := bt_lt p k
    have e : 2 ^ (k + 1) = 2 ^ k + 2 ^ k := by rw [Nat.pow_succ]; omega
    rw [bt, e]; split <;> omega
theorem bt_lt16 (p : Nat → Bool) {n : Nat} (h : n ≤ 16) : bt p n < 65536 :=
  Nat.lt_of_lt_of_le (bt_lt p n) (Nat.pow_le_pow_right (by decide) h)
theorem has_bt (p : Nat → Bool) (i : Nat) : ∀ n, has (bt p n) i = (decide (i < n) && p i)
  | 0 => by simp [bt, has_zero]
  | n + 1 => by
    rw [bt]
    by_cases h : p n = true
    · rw [if_pos h, has_add_pow _ _ _ (bt_lt p n), has_bt p i n]
      by_cases e : i = n
      · subst e; simp [h]
      · have : (i < n + 1) ↔ i < n := by omega
        simp [e, this]
    · rw [if_neg h, Nat.add_zero, has_bt p i n]
      by_cases e : i = n
      · subst e; simp [h]
      · have : (i < n + 1) ↔ i < n := by omega
        simp [this]
theorem bt_congr {p q : Nat → Bool} : ∀ n, (∀ i, i < n → p i = q i) → bt p n = bt q n
  | 0, _ => rfl
  | n + 1, h => by rw [bt, bt, bt_congr n (fun i hi => h i (by omega)), h n (by omega)]
theorem bt_of_has {x : Nat} {p : Nat → Bool} {n : Nat} (hx : x < 65536) (hn : n ≤ 16) (h : ∀ i, has x i = (decide (i < n) && p i)) : x = bt p n :=
  eq_of_has hx (bt_lt16 p hn) (fun i _ => by rw [h, has_bt])
theorem bt_and (p q : Nat → Bool) {n : Nat} (hn : n ≤ 16) : bt p n &&& bt q n = bt (fun i => p i && q i) n :=
  bt_of_has (Nat.lt_of_le_of_lt Nat.and_le_left (bt_lt16 p hn)) hn (fun i => by
    rw [has_testBit, Nat.testBit_and, ← has_testBit, ← has_testBit, has_bt, has_bt]
    cases decide (i < n) <;> simp)
theorem colOf_bt (rows : List Nat) (k : Nat) : ∀ j, colOf rows k j = bt (fun i => has (rows.getD i 0) k) j
  | 0 => rfl
  | j + 1 => by rw [colOf, bt, colOf_bt rows k j]
theorem bt_zero : ∀ n, bt (fun _ => false) n = 0
  | 0 => rfl
  | n + 1 => by rw [bt, bt_zero n]; rfl
theorem has_pow (i j : Nat) : has (2 ^ i) j = decide (j = i) := by
  have := has_add_pow 0 i j (Nat.two_pow_pos i)
  rwa [Nat.zero_add, has_zero, Bool.false_or] at this

/-! ### Pick -/
theorem pick_cases (m a n : Nat) (ha : a < n) : (pickOf m a n = -1 ∧ ∀ i, i < n → has m i = false) ∨ ∃ k : Nat, pickOf m a n = (k : Int) ∧ k < n ∧ has m k = true := by
  unfold pickOf
  cases h1 : first m a n with
  | some i => exact .inr ⟨i, rfl, (first_lt h1).2.1, (first_lt h1).2.2⟩
  | none =>
    cases h2 : first m 0 a with
    | some i => exact .inr ⟨i, rfl, by have := (first_lt h2).2.1; omega, (first_lt h2).2.2⟩
    | none =>
      refine .inl ⟨rfl, fun i hi => ?_⟩
      unfold first at h1 h2
      rw [List.find?_eq_none] at h1 h2
      rcases Nat.lt_or_ge i a with h | h
      · have := h2 i (by rw [List.mem_range'_1]; omega)
        simpa using this
      · have := h1 i (by rw [List.mem_range'_1]; omega)
        simpa using this
theorem pick_neg (m a n : Nat) (h : ∀ i, i < n → has m i = false) (ha : a ≤ n) : pickOf m a n = -1 := by
  unfold pickOf
  cases h1 : first m a n with
  | some i => have := first_lt h1; rw [h i this.2.1] at this; simp at this
  | none =>
    cases h2 : first m 0 a with
    | some i => have := first_lt h2; rw [h i (by omega)] at this; simp at this
    | none => rfl
theorem pickI_nat (m a n : Nat) (ha : a < n) (hn : n ≤ 16) : pickI m a n = pickOf m a n := by
  unfold pickI
  rw [if_pos ⟨by omega, by omega, by omega, by omega⟩, Int.toNat_natCast, Int.toNat_natCast]

/-! ### One round -/
/-- Who is matched with whom; where outputs look first; where inputs look first. -/
structure St where
  m : Nat → Int
  G : Nat → Nat
  A : Nat → Nat

def upd {α : Type} (f : Nat → α) (k : Nat) (v : α) : Nat → α := fun x => if x = k then v else f x
def insB (m : Nat → Int) (n : Nat) : Nat := bt (fun i => decide (m i < 0)) n
def freeB (m : Nat → Int) (n k : Nat) : Bool := (List.range n).all fun i => m i != (k : Int)
def outsB (m : Nat → Int) (n : Nat) : Nat := bt (freeB m n) n
def askB (R : Nat → Nat → Bool) (m : Nat → Int) (n k : Nat) : Nat := bt (fun i => decide (m i < 0) && R i k) n
/-- Whom output k grants, were it free. -/
def gp (R : Nat → Nat → Bool) (s : St) (n k : Nat) : Int := pickOf (askB R s.m n k) (s.G k) n
def grants (R : Nat → Nat → Bool) (s : St) (n i k : Nat) : Bool := freeB s.m n k && (gp R s n k == (i : Int))
/-- What input i is granted. -/
def grB (R : Nat → Nat → Bool) (s : St) (n i j : Nat) : Nat := bt (grants R s n i) j
def acc (R : Nat → Nat → Bool) (s : St) (n i : Nat) : Int := pickOf (grB R s n i n) (s.A i) n
def nextM (R : Nat → Nat → Bool) (s : St) (n i : Nat) : Int := if s.m i < 0 then acc R s n i else s.m i
def took (R : Nat → Nat → Bool) (s : St) (n i : Nat) : Bool := decide (s.m i < 0) && decide (0 ≤ acc R s n i)
def mAt (R : Nat → Nat → Bool) (s : St) (n j : Nat) (i : Nat) : Int := if i < j ∧ took R s n i = true then acc R s n i else s.m i
def gAt (R : Nat → Nat → Bool) (s : St) (n : Nat) (first : Bool) : Nat → Nat → Nat
  | 0 => s.G
  | i + 1 => if first = true ∧ took R s n i = true then upd (gAt R s n first i) (acc R s n i).toNat ((i + 1) % n) else gAt R s n first i
def aAt (R : Nat → Nat → Bool) (s : St) (n : Nat) (first : Bool) : Nat → Nat → Nat
  | 0 => s.A
  | i + 1 => if first = true ∧ took R s n i = true then upd (aAt R s n first i) i (((acc R s n i).toNat + 1) % n) else aAt R s n first i
def stAt (R : Nat → Nat → Bool) (s : St) (n : Nat) (first : Bool) (j : Nat) : St := ⟨mAt R s n j, gAt R s n first j, aAt R s n first j⟩
def roundP (R : Nat → Nat → Bool) (n : Nat) (first : Bool) (s : St) : St := stAt R s n first n
def roundsP (R : Nat → Nat → Bool) (n : Nat) (s : St) : Nat → St
  | 0 => s
  | c + 1 => roundP R n (c == 0) (roundsP R n s c)

structure Fit (n : Nat) (s : St) : Prop where
  lo : ∀ i, -1 ≤ s.m i
  hi : ∀ i, s.m i < n
  g : ∀ k, k < n → s.G k < n
  a : ∀ i, i < n → s.A i < n
  one : ∀ i j, i < n → j < n → 0 ≤ s.m i → s.m i = s.m j → i = j

theorem free_iff {m : Nat → Int} {n k : Nat} : freeB m n k = true ↔ ∀ i, i < n → m i ≠ (k : Int) := by
  simp [freeB]
theorem ask_has (R : Nat → Nat → Bool) (m : Nat → Int) (n k i : Nat) : has (askB R m n k) i = (decide (i < n) && (decide (m i < 0) && R i k)) := has_bt _ _ _
theorem gr_has (R : Nat → Nat → Bool) (s : St) (n i k j : Nat) : has (grB R s n i j) k = (decide (k < j) && (freeB s.m n k && (gp R s n k == (i : Int)))) := has_bt _ _ _

theorem gp_some {R : Nat → Nat → Bool} {s : St} {n k i : Nat} (hG : s.G k < n) (h : gp R s n k = (i : Int)) : i < n ∧ s.m i < 0 ∧ R i k = true := by
  rcases pick_cases (askB R s.m n k) (s.G k) n hG with ⟨e, _⟩ | ⟨j, e, hj, hb⟩
  · unfold gp at h; rw [e] at h; omega
  · unfold gp at h
    rw [e] at h
    obtain rfl : j = i := by omega
    rw [ask_has, Bool.and_eq_true, Bool.and_eq_true, decide_eq_true_eq, decide_eq_true_eq] at hb
    exact hb
theorem acc_cases {R : Nat → Nat → Bool} {s : St} {n i : Nat} (h : Fit n s) (hi : i < n) :
    (acc R s n i = -1 ∧ ∀ k, k < n → freeB s.m n k = true → gp R s n k ≠ (i : Int)) ∨
      ∃ k : Nat, acc R s n i = (k : Int) ∧ k < n ∧ freeB s.m n k = true ∧ gp R s n k = (i : Int) ∧ s.m i = -1 ∧ R i k = true := by
  rcases pick_cases (grB R s n i n) (s.A i) n (h.a i hi) with ⟨e, hn⟩ | ⟨k, e, hk, hb⟩
  · refine .inl ⟨e, fun k hk hf hg => ?_⟩
    have := hn k hk
    rw [gr_has, hf, hg] at this
    simp at this
    omega
  · rw [gr_has, Bool.and_eq_true, Bool.and_eq_true, beq_iff_eq] at hb
    obtain ⟨_, hf, hg⟩ := hb
    have := gp_some (h.g k hk) hg
    have hl := h.lo i
    exact .inr ⟨k, e, hk, hf, hg, by omega, this.2.2⟩
theorem acc_out {R : Nat → Nat → Bool} {s : St} {n i : Nat} (h : Fit n s) (hi : n ≤ i) (ha : s.A i ≤ n) : acc R s n i = -1 := by
  refine pick_neg _ _ _ (fun k hk => ?_) ha
  rw [gr_has]
  have : gp R s n k ≠ (i : Int) := fun e => by have := gp_some (h.g k hk) e; omega
  simp [this]
/-- Two inputs do not take one output. -/
theorem acc_one {R : Nat → Nat → Bool} {s : St} {n i j : Nat} (h : Fit n s) (hi : i < n) (hj : j < n) (h0 : 0 ≤ acc R s n i) (e : acc R s n i = acc R s n j) : i = j := by
  rcases acc_cases (R := R) h hi with ⟨e1, _⟩ | ⟨k, e1, _, _, hg, _⟩
  · omega
  · rcases acc_cases (R := R) h hj with ⟨e2, _⟩ | ⟨k', e2, _, _, hg', _⟩
    · omega
    · obtain rfl : k = k' := by omega
      omega
theorem took_iff {R : Nat → Nat → Bool} {s : St} {n i : Nat} (h : Fit n s) (hi : i < n) : took R s n i = true ↔ 0 ≤ acc R s n i := by
  unfold took
  rw [Bool.and_eq_true, decide_eq_true_eq, decide_eq_true_eq]
  refine ⟨fun x => x.2, fun x => ⟨?_, x⟩⟩
  rcases acc_cases (R := R) h hi with ⟨e, _⟩ | ⟨k, e, _, _, _, hm, _⟩ <;> omega

/-! ### Step by step -/
theorem mAt_no {R : Nat → Nat → Bool} {s : St} {n j : Nat} (ht : took R s n j = false) : mAt R s n (j + 1) = mAt R s n j := by
  funext i
  unfold mAt
  by_cases e : i = j
  · subst e; simp [ht]
  · have : (i < j + 1) ↔ i < j := by omega
    simp only [this]
theorem mAt_yes {R : Nat → Nat → Bool} {s : St} {n j : Nat} (ht : took R s n j = true) : mAt R s n (j + 1) = upd (mAt R s n j) j (acc R s n j) := by
  funext i
  unfold mAt upd
  by_cases e : i = j
  · subst e; simp [ht]
  · have : (i < j + 1) ↔ i < j := by omega
    simp only [this, e, if_false]
theorem mAt_self {R : Nat → Nat → Bool} {s : St} {n j : Nat} : mAt R s n j j = s.m j := by unfold mAt; simp
theorem stAt_no {R : Nat → Nat → Bool} {s : St} {n j : Nat} {f : Bool} (ht : took R s n j = false) : stAt R s n f (j + 1) = stAt R s n f j := by
  unfold stAt; rw [mAt_no ht, gAt, aAt, if_neg (by simp [ht]), if_neg (by simp [ht])]
theorem aAt_self {R : Nat → Nat → Bool} {s : St} {n : Nat} {f : Bool} : ∀ j i, j ≤ i → aAt R s n f j i = s.A i
  | 0, _, _ => rfl
  | j + 1, i, h => by
    rw [aAt]
    split
    · unfold upd; rw [if_neg (by omega)]; exact aAt_self j i (by omega)
    · exact aAt_self j i (by omega)
theorem ins_yes {m : Nat → Int} {n j : Nat} {v : Int} (h0 : 0 ≤ v) {x : Nat} (hn : n ≤ 16) (hx : x < 65536) (h : ∀ i, has x i = (has (insB m n) i && !decide (i = j))) : x = insB (upd m j v) n :=
  bt_of_has hx hn (fun i => by
    rw [h]; unfold insB upd; rw [has_bt]
    by_cases e : i = j
    · subst e; simp; omega
    · simp [e])
theorem outs_yes {m : Nat → Int} {n j k : Nat} (hm : m j < 0) (hj : j < n) {x : Nat} (hn : n ≤ 16) (hx : x < 65536) (h : ∀ i, has x i = (has (outsB m n) i && !decide (i = k))) : x = outsB (upd m j (k : Int)) n :=
  bt_of_has hx hn (fun i => by
    rw [h]; unfold outsB; rw [has_bt, Bool.and_assoc]
    congr 1
    rw [Bool.eq_iff_iff, Bool.and_eq_true, free_iff, free_iff]
    simp only [Bool.not_eq_true', decide_eq_false_iff_not, upd]
    refine ⟨fun ⟨h1, h2⟩ x hx => ?_, fun h1 => ⟨fun x hx => ?_, ?_⟩⟩
    · by_cases e : x = j
      · rw [if_pos e]; omega
      · rw [if_neg e]; exact h1 x hx
    · have := h1 x hx
      by_cases e : x = j
      · subst e; omega
      · rwa [if_neg e] at this
    · have := h1 j hj
      rw [if_pos rfl] at this
      omega)

theorem fit_upd {n : Nat} {s : St} (h : Fit n s) {j k x y : Nat} (hj : j < n) (hk : k < n) (hx : x < n) (hy : y < n) (hf : freeB s.m n k = true) (f : Bool) :
    Fit n ⟨upd s.m j (k : Int), if f = true then upd s.G k x else s.G, if f = true then upd s.A j y else s.A⟩ where
  lo i := by show -1 ≤ upd s.m j (k : Int) i; unfold upd; (split; omega; exact h.lo i)
  hi i := by show upd s.m j (k : Int) i < n; unfold upd; (split; omega; exact h.hi i)
  g i hi := by
    show (if f = true then upd s.G k x else s.G) i < n
    cases f
    · exact h.g i hi
    · simp only [if_true, upd]; (split; omega; exact h.g i hi)
  a i hi := by
    show (if f = true then upd s.A j y else s.A) i < n
    cases f
    · exact h.a i hi
    · simp only [if_true, upd]; (split; omega; exact h.a i hi)
  one a b ha hb h0 e := by
    rw [free_iff] at hf
    simp only [upd] at h0 e
    by_cases h1 : a = j <;> by_cases h2 : b = j
    · omega
    · rw [if_pos h1, if_neg h2] at e; exact absurd e.symm (hf b hb)
    · rw [if_neg h1, if_pos h2] at e; exact absurd e (hf a ha)
    · rw [if_neg h1] at h0; rw [if_neg h1, if_neg h2] at e; exact h.one a b ha hb h0 e

theorem free_at {R : Nat → Nat → Bool} {s : St} {n : Nat} (h : Fit n s) {j k : Nat} (hjn : j < n) (hf : freeB s.m n k = true) (e : acc R s n j = (k : Int)) : freeB (mAt R s n j) n k = true := by
  rw [free_iff] at hf ⊢
  intro i hi
  unfold mAt
  split
  · rename_i hc
    intro e2
    have := acc_one (R := R) h hi hjn (by omega) (by omega)
    omega
  · exact hf i hi

theorem fit_at {R : Nat → Nat → Bool} {s : St} {n : Nat} {f : Bool} (h : Fit n s) : ∀ j, j ≤ n → Fit n (stAt R s n f j)
  | 0, _ => by
    have e : stAt R s n f 0 = s := by unfold stAt gAt aAt; congr 1
    rw [e]; exact h
  | j + 1, hj => by
    have ih := fit_at (R := R) (f := f) h j (by omega)
    rcases acc_cases (R := R) h (show j < n by omega) with ⟨e, _⟩ | ⟨k, e, hk, hf, hg, hm, hR⟩
    · have ht : took R s n j = false := by unfold took; rw [e]; simp
      rw [stAt_no ht]; exact ih
    · have ht : took R s n j = true := by rw [took_iff h (by omega)]; omega
      have hu := fit_upd ih (show j < n by omega) hk (Nat.mod_lt (j + 1) (by omega)) (Nat.mod_lt (k + 1) (by omega)) (free_at h (by omega) hf e) f
      have e2 : stAt R s n f (j + 1) = ⟨upd (stAt R s n f j).m j (k : Int), if f = true then upd (stAt R s n f j).G k ((j + 1) % n) else (stAt R s n f j).G, if f = true then upd (stAt R s n f j).A j ((k + 1) % n) else (stAt R s n f j).A⟩ := by
        unfold stAt
        rw [mAt_yes ht, gAt, aAt, e, Int.toNat_natCast]
        simp only [ht, and_true]
      rw [e2]; exact hu
theorem fit_round {R : Nat → Nat → Bool} {s : St} {n : Nat} {f : Bool} (h : Fit n s) : Fit n (roundP R n f s) := fit_at h n (Nat.le_refl _)
theorem fit_rounds {R : Nat → Nat → Bool} {s : St} {n : Nat} (h : Fit n s) : ∀ c, Fit n (roundsP R n s c)
  | 0 => h
  | c + 1 => fit_round (fit_rounds h c)
theorem stAt_yes {R : Nat → Nat → Bool} {s : St} {n j k : Nat} {f : Bool} (h : Fit n s) (hj : j < n) (e : acc R s n j = (k : Int)) :
    stAt R s n f (j + 1) = ⟨upd (mAt R s n j) j (k : Int), if f = true then upd (gAt R s n f j) k ((j + 1) % n) else gAt R s n f j, if f = true then upd (aAt R s n f j) j ((k + 1) % n) else aAt R s n f j⟩ := by
  have ht : took R s n j = true := by rw [took_iff h hj]; omega
  unfold stAt
  rw [mAt_yes ht, gAt, aAt, e, Int.toNat_natCast]
  simp only [ht, and_true]
theorem stAt_zero {R : Nat → Nat → Bool} {s : St} {n : Nat} {f : Bool} : stAt R s n f 0 = s := by unfold stAt gAt aAt; congr 1

/-! ### A round in which none is matched is the last one -/
theorem stAt_idle {R : Nat → Nat → Bool} {s : St} {n : Nat} {f : Bool} (h : ∀ i, i < n → took R s n i = false) : ∀ j, j ≤ n → stAt R s n f j = s
  | 0, _ => stAt_zero
  | j + 1, hj => by rw [stAt_no (h j hj)]; exact stAt_idle h j (by omega)
theorem idle_of_ins {R : Nat → Nat → Bool} {s : St} {n : Nat} (hn : n ≤ 16) (h : insB (mAt R s n n) n = insB s.m n) : ∀ i, i < n → took R s n i = false := by
  intro i hi
  cases ht : took R s n i with
  | false => rfl
  | true =>
    exfalso
    have h1 : has (insB (mAt R s n n) n) i = has (insB s.m n) i := by rw [h]
    unfold insB at h1
    rw [has_bt, has_bt] at h1
    unfold mAt at h1
    rw [if_pos ⟨hi, ht⟩] at h1
    unfold took at ht
    rw [Bool.and_eq_true, decide_eq_true_eq, decide_eq_true_eq] at ht
    simp [hi, ht.1] at h1
    omega
theorem rounds_idle {R : Nat → Nat → Bool} {s : St} {n c : Nat} (h : ∀ i, i < n → took R (roundsP R n s c) n i = false) : ∀ d, roundsP R n s (c + d) = roundsP R n s c
  | 0 => rfl
  | d + 1 => by
    rw [← Nat.add_assoc, roundsP, rounds_idle h d]
    exact stAt_idle h n (Nat.le_refl _)
/-- A list of what a function has below n. -/
def lst {α : Type} (n : Nat) (f : Nat → α) : List α := (List.range n).map f
theorem lst_length {α : Type} (n : Nat) (f : Nat → α) : (lst n f).length = n := by simp [lst]
theorem lst_at {α : Type} {n i : Nat} (f : Nat → α) (h : i < n) : (lst n f)[i]? = some (f i) := by simp [lst, h]
theorem lst_set {α : Type} {n k : Nat} (f : Nat → α) (v : α) : (lst n f).set k v = lst n (upd f k v) := by
  apply List.ext_getElem?
  intro i
  rw [List.getElem?_set]
  unfold lst upd
  simp only [List.length_map, List.length_range, List.getElem?_map, List.getElem?_range]
  by_cases e : k = i
  · subst e
    simp only [if_true]
    split
    · rename_i h; rw [List.getElem?_range h]; simp
    · rename_i h; rw [List.getElem?_eq_none (by simpa using h)]; rfl
  · rw [if_neg e]
    by_cases h : i < n
    · rw [List.getElem?_range h]; simp [Ne.symm e]
    · rw [List.getElem?_eq_none (by simpa using h)]; rfl
theorem lst_congr {α : Type} {n : Nat} {f g : Nat → α} (h : ∀ i, i < n → f i = g i) : lst n f = lst n g := by
  unfold lst; exact List.map_congr_left fun i hi => h i (by simpa using hi)
theorem lst_const {α : Type} (n : Nat) (v : α) : lst n (fun _ => v) = List.replicate n v := by
  apply List.ext_getElem
  · simp [lst]
  · intro i h1 h2; simp [lst]
end Go.Proofs.YtlfohlgooomdfaaDoor
