/-
  What holds of a matching, by definition: of requests alone, whole in as many rounds as ports, kept by more rounds. No program in sight.
-/
import Derived.Test.YtlfohlgooomdfaaDoorIslipPure
set_option linter.unusedVariables false
set_option linter.unusedSimpArgs false
namespace Go.Proofs.YtlfohlgooomdfaaDoor

theorem round_m (R : Nat → Nat → Bool) (s : St) (n : Nat) (f : Bool) (i : Nat) : (roundP R n f s).m i = if i < n ∧ took R s n i = true then acc R s n i else s.m i := rfl
theorem took_neg {R : Nat → Nat → Bool} {s : St} {n i : Nat} (h : took R s n i = true) : s.m i < 0 ∧ 0 ≤ acc R s n i := by
  unfold took at h
  rw [Bool.and_eq_true, decide_eq_true_eq, decide_eq_true_eq] at h
  exact h
theorem round_keep {R : Nat → Nat → Bool} {s : St} {n i : Nat} {f : Bool} (h : 0 ≤ s.m i) : (roundP R n f s).m i = s.m i := by
  rw [round_m]
  by_cases ht : i < n ∧ took R s n i = true
  · have := (took_neg ht.2).1; omega
  · rw [if_neg ht]
theorem rounds_keep {R : Nat → Nat → Bool} {s : St} {n i c : Nat} (h : 0 ≤ (roundsP R n s c).m i) : ∀ d, (roundsP R n s (c + d)).m i = (roundsP R n s c).m i
  | 0 => rfl
  | d + 1 => by
    have ih := rounds_keep h d
    rw [← Nat.add_assoc, roundsP, round_keep (by rw [ih]; exact h), ih]

/-! ### Where they look first moves in the first round alone -/
theorem gAt_later (R : Nat → Nat → Bool) (s : St) (n : Nat) : ∀ j, gAt R s n false j = s.G
  | 0 => rfl
  | j + 1 => by rw [gAt, if_neg (by simp)]; exact gAt_later R s n j
theorem aAt_later (R : Nat → Nat → Bool) (s : St) (n : Nat) : ∀ j, aAt R s n false j = s.A
  | 0 => rfl
  | j + 1 => by rw [aAt, if_neg (by simp)]; exact aAt_later R s n j
theorem rounds_G (R : Nat → Nat → Bool) (s : St) (n : Nat) : ∀ d, (roundsP R n s (d + 1)).G = (roundsP R n s 1).G
  | 0 => rfl
  | d + 1 => by
    rw [roundsP, ← rounds_G R s n d]
    exact gAt_later R _ n n
theorem rounds_A (R : Nat → Nat → Bool) (s : St) (n : Nat) : ∀ d, (roundsP R n s (d + 1)).A = (roundsP R n s 1).A
  | 0 => rfl
  | d + 1 => by
    rw [roundsP, ← rounds_A R s n d]
    exact aAt_later R _ n n

/-! ### Of requests alone -/
def Asked (R : Nat → Nat → Bool) (n : Nat) (s : St) : Prop := ∀ i, i < n → 0 ≤ s.m i → R i (s.m i).toNat = true
theorem asked_round {R : Nat → Nat → Bool} {s : St} {n : Nat} {f : Bool} (hF : Fit n s) (h : Asked R n s) : Asked R n (roundP R n f s) := by
  intro i hi h0
  rw [round_m] at h0 ⊢
  by_cases ht : i < n ∧ took R s n i = true
  · rw [if_pos ht] at h0 ⊢
    rcases acc_cases (R := R) hF hi with ⟨e, _⟩ | ⟨k, e, _, _, _, _, hR⟩
    · omega
    · rw [e, Int.toNat_natCast]; exact hR
  · rw [if_neg ht] at h0 ⊢; exact h i hi h0
theorem asked_rounds {R : Nat → Nat → Bool} {s : St} {n : Nat} (hF : Fit n s) (h : Asked R n s) : ∀ c, Asked R n (roundsP R n s c)
  | 0 => h
  | c + 1 => asked_round (fit_rounds hF c) (asked_rounds hF h c)
theorem asked_start (R : Nat → Nat → Bool) (n : Nat) (G A : Nat → Nat) : Asked R n ⟨fun _ => -1, G, A⟩ := fun i _ h => by simp at h

/-! ### None is left -/
theorem idle_whole {R : Nat → Nat → Bool} {s : St} {n : Nat} (hF : Fit n s) (h : ∀ i, i < n → took R s n i = false) {i k : Nat} (hi : i < n) (hk : k < n) (hm : s.m i < 0) (hf : freeB s.m n k = true) : R i k = false := by
  cases hR : R i k with
  | false => rfl
  | true =>
    exfalso
    rcases pick_cases (askB R s.m n k) (s.G k) n (hF.g k hk) with ⟨_, hn⟩ | ⟨j, e, hj, hb⟩
    · have := hn i hi
      rw [ask_has, hR, decide_eq_true hi, decide_eq_true hm] at this
      simp at this
    · have hg : gp R s n k = (j : Int) := e
      have ht := h j hj
      rcases acc_cases (R := R) hF hj with ⟨_, hno⟩ | ⟨k', e', _⟩
      · exact hno k hk hf hg
      · have := (took_iff (R := R) hF hj).2 (by omega)
        rw [ht] at this; cases this
def cntM (m : Nat → Int) (n : Nat) : Nat := (List.range n).countP fun i => decide (0 ≤ m i)
theorem countP_lt {α : Type} {p q : α → Bool} : ∀ {l : List α}, (∀ x ∈ l, p x = true → q x = true) → (∃ x ∈ l, q x = true ∧ p x = false) → l.countP p < l.countP q
  | [], _, ⟨x, hx, _⟩ => by cases hx
  | a :: l, h, ⟨x, hx, hq, hp⟩ => by
    have hle : l.countP p ≤ l.countP q := List.countP_mono_left (fun y hy => h y (List.mem_cons_of_mem _ hy))
    rw [List.countP_cons, List.countP_cons]
    by_cases e : x = a
    · subst e
      rw [if_pos hq, if_neg (by simp [hp])]; omega
    · have hx' : x ∈ l := by
        rcases List.mem_cons.1 hx with h | h
        · exact absurd h e
        · exact h
      have := countP_lt (fun y hy => h y (List.mem_cons_of_mem _ hy)) ⟨x, hx', hq, hp⟩
      by_cases hpa : p a = true
      · rw [if_pos hpa, if_pos (h a (by simp) hpa)]; omega
      · rw [if_neg hpa]; split <;> omega
theorem cnt_round {R : Nat → Nat → Bool} {s : St} {n : Nat} {f : Bool} (h : ∃ i, i < n ∧ took R s n i = true) : cntM s.m n < cntM (roundP R n f s).m n := by
  refine countP_lt (fun i _ hp => ?_) ?_
  · rw [decide_eq_true_eq] at hp ⊢
    rw [round_keep hp]; exact hp
  · obtain ⟨i, hi, ht⟩ := h
    have := took_neg ht
    refine ⟨i, by simpa using hi, ?_, ?_⟩
    · rw [decide_eq_true_eq, round_m, if_pos ⟨hi, ht⟩]; exact this.2
    · rw [decide_eq_false_iff_not]; omega
theorem cnt_full {m : Nat → Int} {n : Nat} (h : n ≤ cntM m n) : ∀ i, i < n → 0 ≤ m i := by
  intro i hi
  rcases Int.lt_or_le (m i) 0 with h0 | h0
  · exfalso
    have := countP_lt (p := fun i => decide (0 ≤ m i)) (q := fun _ => true) (l := List.range n) (fun _ _ _ => rfl) ⟨i, by simpa using hi, rfl, by rw [decide_eq_false_iff_not]; omega⟩
    rw [show (List.range n).countP (fun _ => true) = n by simp] at this
    unfold cntM at h; omega
  · exact h0
theorem idle_or {R : Nat → Nat → Bool} {s : St} {n : Nat} : ∀ c, (∃ d, d ≤ c ∧ ∀ i, i < n → took R (roundsP R n s d) n i = false) ∨ c ≤ cntM (roundsP R n s c).m n
  | 0 => .inr (Nat.zero_le _)
  | c + 1 => by
    rcases idle_or (R := R) (s := s) (n := n) c with ⟨d, hd, h⟩ | h
    · exact .inl ⟨d, by omega, h⟩
    · by_cases he : ∃ i, i < n ∧ took R (roundsP R n s c) n i = true
      · have := cnt_round (f := c == 0) he
        exact .inr (by rw [roundsP]; omega)
      · refine .inl ⟨c, by omega, fun i hi => ?_⟩
        cases ht : took R (roundsP R n s c) n i with
        | false => rfl
        | true => exact absurd ⟨i, hi, ht⟩ he
theorem rounds_whole {R : Nat → Nat → Bool} {s : St} {n : Nat} (hF : Fit n s) {i k : Nat} (hi : i < n) (hk : k < n) (hm : (roundsP R n s n).m i < 0) (hf : freeB (roundsP R n s n).m n k = true) : R i k = false := by
  rcases idle_or (R := R) (s := s) (n := n) n with ⟨d, hd, h⟩ | h
  · have e := rounds_idle h (n - d)
    rw [show d + (n - d) = n by omega] at e
    rw [e] at hm hf
    exact idle_whole (fit_rounds hF d) h hi hk hm hf
  · have := cnt_full h i hi; omega

/-! ### None asks -/
theorem none_round {R : Nat → Nat → Bool} {s : St} {n : Nat} {f : Bool} (hF : Fit n s) (h : ∀ i k, R i k = false) : roundP R n f s = s := by
  refine stAt_idle (fun i hi => ?_) n (Nat.le_refl _)
  rcases acc_cases (R := R) hF hi with ⟨e, _⟩ | ⟨k, _, _, _, _, _, hR⟩
  · unfold took; rw [e]; simp
  · rw [h] at hR; cases hR
theorem none_rounds {R : Nat → Nat → Bool} {s : St} {n : Nat} (hF : Fit n s) (h : ∀ i k, R i k = false) : ∀ c, roundsP R n s c = s
  | 0 => rfl
  | c + 1 => by rw [roundsP, none_rounds hF h c, none_round hF h]

/-! ### One asks, for one -/
section
variable {R : Nat → Nat → Bool} {s : St} {n a b : Nat}
theorem one_acc (hF : Fit n s) (ha : a < n) (hb : b < n) (hm : ∀ i, s.m i = -1) (hR : ∀ i k, R i k = (decide (i = a) && decide (k = b))) {i : Nat} (hi : i < n) : acc R s n i = if i = a then (b : Int) else -1 := by
  rcases acc_cases (R := R) hF hi with ⟨e, hno⟩ | ⟨k, e, _, _, _, _, h⟩
  · by_cases hia : i = a
    · exfalso
      subst hia
      have hf : freeB s.m n b = true := by rw [free_iff]; intro j _; rw [hm]; omega
      refine hno b hb hf ?_
      rcases pick_cases (askB R s.m n b) (s.G b) n (hF.g b hb) with ⟨_, hn⟩ | ⟨j, e', hj, hh⟩
      · have := hn i hi
        rw [ask_has, hR, hm, decide_eq_true hi] at this
        simp at this
      · rw [ask_has, hR] at hh
        simp at hh
        obtain rfl := hh.2.2
        exact e'
    · rw [if_neg hia]; exact e
  · rw [hR] at h
    simp at h
    rw [if_pos h.1, e, h.2]
theorem one_took (hF : Fit n s) (ha : a < n) (hb : b < n) (hm : ∀ i, s.m i = -1) (hR : ∀ i k, R i k = (decide (i = a) && decide (k = b))) {i : Nat} (hi : i < n) : took R s n i = decide (i = a) := by
  unfold took
  rw [one_acc hF ha hb hm hR hi, hm]
  by_cases e : i = a
  · simp [e]
  · simp [e]
theorem one_at (hF : Fit n s) (ha : a < n) (hb : b < n) (hm : ∀ i, s.m i = -1) (hR : ∀ i k, R i k = (decide (i = a) && decide (k = b))) :
    ∀ j, j ≤ n → gAt R s n true j = (if a < j then upd s.G b ((a + 1) % n) else s.G) ∧ aAt R s n true j = (if a < j then upd s.A a ((b + 1) % n) else s.A)
  | 0, _ => ⟨rfl, rfl⟩
  | j + 1, hj => by
    obtain ⟨h1, h2⟩ := one_at hF ha hb hm hR j (by omega)
    rw [gAt, aAt, one_took hF ha hb hm hR (show j < n by omega), one_acc hF ha hb hm hR (show j < n by omega), h1, h2]
    by_cases e : j = a
    · subst e
      simp
    · have : (a < j + 1) ↔ a < j := by omega
      simp [e, this]
theorem one_round (hF : Fit n s) (ha : a < n) (hb : b < n) (hm : ∀ i, s.m i = -1) (hR : ∀ i k, R i k = (decide (i = a) && decide (k = b))) :
    (∀ i, i < n → (roundsP R n s 1).m i = if i = a then (b : Int) else -1) ∧ (roundsP R n s 1).G = upd s.G b ((a + 1) % n) ∧ (roundsP R n s 1).A = upd s.A a ((b + 1) % n) := by
  have h := one_at hF ha hb hm hR n (Nat.le_refl _)
  rw [if_pos ha, if_pos ha] at h
  refine ⟨fun i hi => ?_, h.1, h.2⟩
  show (roundP R n true s).m i = _
  rw [round_m, one_took hF ha hb hm hR hi, one_acc hF ha hb hm hR hi, hm]
  by_cases e : i = a
  · simp [e]; omega
  · simp [e]
end
end Go.Proofs.YtlfohlgooomdfaaDoor
