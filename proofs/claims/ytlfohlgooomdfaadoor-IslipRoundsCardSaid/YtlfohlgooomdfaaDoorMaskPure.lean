/-
  Masks of sixteen bits as numbers: which bits are set, the lowest one, the first one from a place on, round. No program in sight.
-/
import Derived.KernelRfl
import Derived.Laws.BitsLemmas
set_option linter.unusedVariables false
set_option linter.unusedSimpArgs false
namespace Go.Proofs.YtlfohlgooomdfaaDoor

/-- Bit i of m. -/
def has (m i : Nat) : Bool := m / 2 ^ i % 2 == 1
def bitsOf (m : Nat) : List Nat := (List.range 16).filter (has m)

/-! ### The lowest bit: 65536 numbers, one by one, in the kernel -/
def lowb (m : Nat) : Nat := Nat.land m (Nat.mod (Nat.sub 65536 m) 65536)
def tzi (m : Nat) : Nat := Nat.div (Nat.mod (Nat.mul (lowb m) 125613361) 4294967296) 134217728
def tzt (i : Nat) : Nat := Nat.mod (Nat.div 425558438023169368542358217867927387395308220448 (Nat.pow 32 i)) 32
def tzOf (m : Nat) : Nat := tzt (tzi m)
def chk2 (m p t : Nat) : Bool := match Nat.beq (Nat.mod m (Nat.mul 2 p)) p with
  | true => match Nat.beq (Nat.land m (Nat.sub m 1)) (Nat.sub m p) with
    | true => Nat.ble t 15
    | false => false
  | false => false
def chk (m : Nat) : Bool := match Nat.beq m 0 with
  | true => true
  | false => (fun t => chk2 m (Nat.pow 2 t) t) (tzt (tzi m))
def allB (f : Nat → Bool) : Nat → Bool
  | 0 => true
  | n + 1 => match f n with
    | true => allB f n
    | false => false
theorem allB_at {f : Nat → Bool} : ∀ {n : Nat}, allB f n = true → ∀ i, i < n → f i = true
  | 0, _, i, h => absurd h (Nat.not_lt_zero _)
  | n + 1, h, i, hi => by
    unfold allB at h
    split at h
    · rename_i hf
      rcases Nat.lt_or_ge i n with h' | h'
      · exact allB_at h i h'
      · rw [show i = n by omega]; exact hf
    · cases h
theorem brute : (allB (fun a => allB (fun b => chk (Nat.add (Nat.mul 256 a) b)) 256) 256) = true := by kernel_rfl

theorem chk_at (m : Nat) (h : m < 65536) : chk m = true := by
  have h1 := allB_at brute (m / 256) (by omega)
  have h2 := allB_at h1 (m % 256) (by omega)
  rwa [show Nat.add (Nat.mul 256 (m / 256)) (m % 256) = m from Nat.div_add_mod m 256] at h2

theorem tz_at (m : Nat) (h : m < 65536) (h0 : m ≠ 0) : m % (2 * 2 ^ tzOf m) = 2 ^ tzOf m ∧ m &&& (m - 1) = m - 2 ^ tzOf m ∧ tzOf m ≤ 15 := by
  have hc := chk_at m h
  unfold chk at hc
  split at hc
  · rename_i e
    exact absurd (Nat.eq_of_beq_eq_true e) h0
  · have hc : chk2 m (Nat.pow 2 (tzOf m)) (tzOf m) = true := hc
    unfold chk2 at hc
    split at hc
    · rename_i e1
      split at hc
      · rename_i e2
        exact ⟨Nat.eq_of_beq_eq_true e1, Nat.eq_of_beq_eq_true e2, Nat.le_of_ble_eq_true hc⟩
      · cases hc
    · cases hc

theorem tzi_lt (m : Nat) : tzi m < 32 := by
  show lowb m * 125613361 % 4294967296 / 134217728 < 32
  omega

/-! ### Bits -/
theorem has_lt {m i n : Nat} (hm : m < 2 ^ n) (h : has m i = true) : i < n := by
  rcases Nat.lt_or_ge i n with h' | h'
  · exact h'
  · have : m / 2 ^ i = 0 := Nat.div_eq_of_lt (Nat.lt_of_lt_of_le hm (Nat.pow_le_pow_right (by decide) h'))
    simp [has, this] at h
theorem has_zero (i : Nat) : has 0 i = false := by simp [has]
theorem bitsOf_zero : bitsOf 0 = [] := by
  unfold bitsOf; rw [List.filter_eq_nil_iff]; intro x _; simp [has_zero]
theorem has_testBit (m i : Nat) : has m i = m.testBit i := by
  unfold has
  rw [Nat.testBit_eq_decide_div_mod_eq]
  by_cases h : m / 2 ^ i % 2 = 1 <;> simp [h]
theorem has_mod (m n i : Nat) : has (m % 2 ^ n) i = (decide (i < n) && has m i) := by
  rw [has_testBit, has_testBit, Nat.testBit_mod_two_pow]
theorem has_high (m n i : Nat) : has (m / 2 ^ n * 2 ^ n) i = (decide (n ≤ i) && has m i) := by
  rw [has_testBit, has_testBit, Nat.mul_comm, Nat.testBit_two_pow_mul, Nat.testBit_div_two_pow]
  by_cases h : n ≤ i
  · simp [h, Nat.sub_add_cancel h]
  · simp [h]
theorem has_add_pow (m n i : Nat) (h : m < 2 ^ n) : has (m + 2 ^ n) i = (has m i || decide (i = n)) := by
  rw [has_testBit, has_testBit]
  have e : m + 2 ^ n = 2 ^ n ||| m := by have := Nat.two_pow_add_eq_or_of_lt h 1; rw [Nat.mul_one] at this; omega
  rw [e, Nat.testBit_or, Nat.testBit_two_pow]
  by_cases h' : n = i
  · subst h'; simp
  · simp [h', Ne.symm h']
theorem eq_of_has {a b : Nat} (ha : a < 65536) (hb : b < 65536) (h : ∀ i, i < 16 → has a i = has b i) : a = b := by
  apply Nat.eq_of_testBit_eq
  intro i
  rw [← has_testBit, ← has_testBit]
  rcases Nat.lt_or_ge i 16 with hi | hi
  · exact h i hi
  · have e1 : has a i = false := by
      cases e : has a i with
      | false => rfl
      | true => have := has_lt (n := 16) ha e; omega
    have e2 : has b i = false := by
      cases e : has b i with
      | false => rfl
      | true => have := has_lt (n := 16) hb e; omega
    rw [e1, e2]

theorem mem_bitsOf {m i : Nat} : i ∈ bitsOf m ↔ i < 16 ∧ has m i = true := by
  unfold bitsOf; rw [List.mem_filter, List.mem_range]

/-- The lowest bit first, then the others'. -/
theorem bits_low (m t : Nat) (h1 : m % (2 * 2 ^ t) = 2 ^ t) (h3 : t ≤ 15) : bitsOf m = t :: bitsOf (m - 2 ^ t) := by
  obtain ⟨q, hq⟩ : ∃ q, m = 2 * 2 ^ t * q + 2 ^ t := ⟨m / (2 * 2 ^ t), by have := Nat.div_add_mod m (2 * 2 ^ t); omega⟩
  have e2 : m - 2 ^ t = 2 ^ (t + 1) * q := by rw [hq, Nat.pow_succ]; rw [Nat.mul_comm 2 (2 ^ t)]; omega
  have hm' : m = 2 ^ (t + 1) * q + 2 ^ t := by rw [hq, Nat.pow_succ, Nat.mul_comm 2 (2 ^ t)]
  have hp : 0 < 2 ^ t := Nat.two_pow_pos t
  have hlt : 2 ^ t < 2 ^ (t + 1) := Nat.pow_lt_pow_right (by decide) (by omega)
  have hbit : ∀ i, has m i = if i < t + 1 then decide (t = i) else q.testBit (i - (t + 1)) := fun i => by
    rw [has_testBit, hm', Nat.testBit_two_pow_mul_add _ hlt, Nat.testBit_two_pow]
  have hbit' : ∀ i, has (m - 2 ^ t) i = if i < t + 1 then false else q.testBit (i - (t + 1)) := fun i => by
    rw [has_testBit, e2, Nat.testBit_two_pow_mul]
    by_cases h : i < t + 1
    · rw [if_pos h]; simp; omega
    · rw [if_neg h]; simp; omega
  have er : ∀ t, t ≤ 15 → List.range 16 = List.range t ++ t :: List.range' (t + 1) (15 - t) := by decide
  unfold bitsOf
  rw [er t h3, List.filter_append, List.filter_append, List.filter_cons, List.filter_cons]
  have n1 : (List.range t).filter (has m) = [] := by
    rw [List.filter_eq_nil_iff]; intro i hi; rw [List.mem_range] at hi; rw [hbit, if_pos (by omega)]; simp; omega
  have n2 : (List.range t).filter (has (m - 2 ^ t)) = [] := by
    rw [List.filter_eq_nil_iff]; intro i hi; rw [List.mem_range] at hi; rw [hbit', if_pos (by omega)]; simp
  have n3 : (List.range' (t + 1) (15 - t)).filter (has m) = (List.range' (t + 1) (15 - t)).filter (has (m - 2 ^ t)) := by
    apply List.filter_congr
    intro i hi
    rw [List.mem_range'_1] at hi
    rw [hbit, hbit', if_neg (by omega), if_neg (by omega)]
  have n4 : has m t = true := by rw [hbit, if_pos (by omega)]; simp
  have n5 : has (m - 2 ^ t) t = false := by rw [hbit', if_pos (by omega)]
  rw [n1, n2, n3, n4, n5]
  simp

theorem bitsOf_cons (m : Nat) (h : m < 65536) (h0 : m ≠ 0) : bitsOf m = tzOf m :: bitsOf (m &&& (m - 1)) := by
  rw [(tz_at m h h0).2.1]
  exact bits_low m _ (tz_at m h h0).1 (tz_at m h h0).2.2
theorem and_pred_lt (m : Nat) (h : m < 65536) : m &&& (m - 1) < 65536 := Nat.lt_of_le_of_lt Nat.and_le_left h
theorem and_pred_lt' (m : Nat) (h0 : m ≠ 0) : m &&& (m - 1) < m := by
  have : m &&& (m - 1) ≤ m - 1 := Nat.and_le_right
  omega
theorem bitsOf_length_le (m : Nat) : (bitsOf m).length ≤ 16 := by
  unfold bitsOf; exact Nat.le_trans (List.length_filter_le _ _) (by simp)

/-! ### Counting -/
def cnt8 (m : Nat) : Nat := m % 2 + m / 2 % 2 + m / 4 % 2 + m / 8 % 2 + m / 16 % 2 + m / 32 % 2 + m / 64 % 2 + m / 128 % 2
def b01 (b : Bool) : Nat := if b = true then 1 else 0
theorem filter_len {α : Type} (p : α → Bool) : ∀ l : List α, (l.filter p).length = (l.map fun x => b01 (p x)).sum
  | [] => rfl
  | x :: l => by
    rw [List.filter_cons, List.map_cons, List.sum_cons, ← filter_len p l]
    cases p x <;> simp [b01]; omega
theorem b01_has (m i : Nat) : b01 (has m i) = m / 2 ^ i % 2 := by
  unfold b01 has
  have : m / 2 ^ i % 2 < 2 := Nat.mod_lt _ (by decide)
  by_cases h : m / 2 ^ i % 2 = 1 <;> simp [h] <;> omega
theorem range8_sum (m : Nat) : ((List.range 8).map fun i => b01 (has m i)).sum = cnt8 m := by
  simp only [b01_has]
  rw [show List.range 8 = [0, 1, 2, 3, 4, 5, 6, 7] from rfl]
  simp only [List.map_cons, List.map_nil, List.sum_cons, List.sum_nil, cnt8]
  simp only [Nat.pow_zero, Nat.div_one, Nat.add_zero, Nat.add_assoc]
theorem bitsOf_length (m : Nat) : (bitsOf m).length = cnt8 (m / 256) + cnt8 (m % 256) := by
  unfold bitsOf
  rw [show List.range 16 = List.range 8 ++ (List.range 8).map (8 + ·) from rfl, List.filter_append, List.length_append, filter_len, filter_len, ← range8_sum, ← range8_sum, Nat.add_comm, List.map_map]
  congr 2
  · apply List.map_congr_left
    intro i hi
    show b01 (has m (8 + i)) = b01 (has (m / 256) i)
    rw [has_testBit, has_testBit, show (256 : Nat) = 2 ^ 8 from rfl, Nat.testBit_div_two_pow, Nat.add_comm]
  · apply List.map_congr_left
    intro i hi
    rw [List.mem_range] at hi
    rw [show (256 : Nat) = 2 ^ 8 from rfl, has_mod, decide_eq_true hi]; rfl

/-! ### The first one from a place on, round -/
def first (m a n : Nat) : Option Nat := ((List.range' a (n - a)).find? (has m))
def pickOf (m from_ n : Nat) : Int := match first m from_ n with
  | some i => i
  | none => match first m 0 from_ with
    | some i => i
    | none => -1

theorem head_bits (m : Nat) : (bitsOf m).head? = (List.range 16).find? (has m) := by
  unfold bitsOf; rw [List.head?_filter]
theorem find_congr {α : Type} {p q : α → Bool} : ∀ {l : List α}, (∀ x ∈ l, p x = q x) → l.find? p = l.find? q
  | [], _ => rfl
  | x :: l, h => by
    rw [List.find?_cons, List.find?_cons, h x List.mem_cons_self, find_congr (fun y hy => h y (List.mem_cons_of_mem _ hy))]
theorem find_none {α : Type} {p : α → Bool} {l : List α} (h : ∀ x ∈ l, p x = false) : l.find? p = none := by
  rw [List.find?_eq_none]; intro x hx; simp [h x hx]
/-- The bits of m below n, from 'a' on: the first of them. -/
theorem head_high (m a n : Nat) (ha : a ≤ n) (hn : n ≤ 16) : (bitsOf (m % 2 ^ n / 2 ^ a * 2 ^ a)).head? = first m a n := by
  rw [head_bits]
  have e1 : List.range' a (n - a) ++ List.range' n (16 - n) = List.range' a (16 - a) := by
    have := @List.range'_append_1 a (n - a) (16 - n)
    rwa [show a + (n - a) = n by omega, show n - a + (16 - n) = 16 - a by omega] at this
  have e2 : List.range' 0 a ++ List.range' a (16 - a) = List.range' 0 16 := by
    have := @List.range'_append_1 0 a (16 - a)
    rwa [Nat.zero_add, show a + (16 - a) = 16 by omega] at this
  rw [List.range_eq_range', ← e2, ← e1, List.find?_append, List.find?_append]
  have h0 : ∀ i, has (m % 2 ^ n / 2 ^ a * 2 ^ a) i = (decide (a ≤ i) && (decide (i < n) && has m i)) := fun i => by rw [has_high, has_mod]
  rw [find_none (l := List.range' 0 a) (fun i hi => by rw [List.mem_range'_1] at hi; rw [h0, decide_eq_false (by omega)]; rfl)]
  rw [find_none (l := List.range' n (16 - n)) (fun i hi => by rw [List.mem_range'_1] at hi; rw [h0, decide_eq_false (p := i < n) (by omega)]; simp)]
  rw [find_congr (l := List.range' a (n - a)) (q := has m) (fun i hi => by rw [List.mem_range'_1] at hi; rw [h0, decide_eq_true (by omega), decide_eq_true (by omega)]; rfl)]
  simp [first]
theorem first_split (m a n : Nat) (ha : a ≤ n) : first m 0 n = (first m 0 a).or (first m a n) := by
  unfold first
  have e2 : List.range' 0 a ++ List.range' a (n - a) = List.range' 0 n := by
    have := @List.range'_append_1 0 a (n - a)
    rwa [Nat.zero_add, show a + (n - a) = n by omega] at this
  rw [Nat.sub_zero, Nat.sub_zero, ← e2, List.find?_append]
theorem head_low (m n : Nat) (hn : n ≤ 16) : (bitsOf (m % 2 ^ n)).head? = first m 0 n := by
  have := head_high m 0 n (by omega) hn
  simpa using this
theorem first_lt {m a n i : Nat} (h : first m a n = some i) : a ≤ i ∧ i < n ∧ has m i = true := by
  unfold first at h
  have h1 := List.mem_of_find?_eq_some h
  have h2 := List.find?_some h
  rw [List.mem_range'_1] at h1
  exact ⟨h1.1, by omega, h2⟩

/-- Pick, told by the lists of bits. -/
theorem pick_some {m a n k : Nat} {r : List Nat} (ha : a < n) (hn : n ≤ 16) (h : bitsOf (m % 2 ^ n / 2 ^ a * 2 ^ a) = k :: r) : pickOf m a n = k := by
  have := head_high m a n (by omega) hn
  rw [h] at this
  unfold pickOf
  rw [← this]; rfl
theorem pick_next {m a n k : Nat} {r : List Nat} (ha : a < n) (hn : n ≤ 16) (h : bitsOf (m % 2 ^ n / 2 ^ a * 2 ^ a) = []) (h2 : bitsOf (m % 2 ^ n) = k :: r) : pickOf m a n = k := by
  have e1 := head_high m a n (by omega) hn
  have e2 := head_low m n hn
  rw [h] at e1; rw [h2] at e2
  rw [first_split m a n (by omega)] at e2
  unfold pickOf
  rw [← e1] at e2 ⊢
  simp only [List.head?_nil, Option.or_none, List.head?_cons] at e2 ⊢
  rw [← e2]
theorem pick_none {m a n : Nat} (ha : a < n) (hn : n ≤ 16) (h : bitsOf (m % 2 ^ n / 2 ^ a * 2 ^ a) = []) (h2 : bitsOf (m % 2 ^ n) = []) : pickOf m a n = -1 := by
  have e1 := head_high m a n (by omega) hn
  have e2 := head_low m n hn
  rw [h] at e1; rw [h2] at e2
  rw [first_split m a n (by omega)] at e2
  unfold pickOf
  rw [← e1] at e2 ⊢
  simp only [List.head?_nil, Option.or_none] at e2 ⊢
  rw [← e2]

/-- Pick, told by the steps from its place on. -/
theorem first_eq {m a n i : Nat} (h1 : a ≤ i) (h2 : i < n) (h3 : has m i = true) (h4 : ∀ j, a ≤ j → j < i → has m j = false) : first m a n = some i := by
  unfold first
  rw [List.find?_range'_eq_some]
  exact ⟨h3, by rw [List.mem_range'_1]; omega, fun j hj hi => by rw [h4 j hj hi]; rfl⟩
theorem first_none {m a n : Nat} (h : ∀ j, a ≤ j → j < n → has m j = false) : first m a n = none :=
  find_none fun j hj => by rw [List.mem_range'_1] at hj; exact h j hj.1 (by omega)
theorem pick_at {m f n k : Nat} (hf : f < n) (hk : k < n) (h : ∀ t, t < k → has m ((f + t) % n) = false) (h1 : has m ((f + k) % n) = true) : pickOf m f n = ((f + k) % n : Nat) := by
  unfold pickOf
  rcases Nat.lt_or_ge (f + k) n with hlt | hge
  · rw [Nat.mod_eq_of_lt hlt] at h1 ⊢
    rw [first_eq (by omega) hlt h1 (fun j hj hi => by have := h (j - f) (by omega); rwa [show f + (j - f) = j by omega, Nat.mod_eq_of_lt (by omega)] at this)]
  · have e : ∀ t, n ≤ f + t → t < n → (f + t) % n = f + t - n := fun t h1 h2 => by
      rw [Nat.mod_eq_sub_mod h1, Nat.mod_eq_of_lt (by omega)]
    rw [e k hge hk] at h1 ⊢
    rw [first_none (fun j hj hi => by have := h (j - f) (by omega); rwa [show f + (j - f) = j by omega, Nat.mod_eq_of_lt hi] at this)]
    rw [first_eq (m := m) (a := 0) (n := f) (i := f + k - n) (by omega) (by omega) h1 (fun j _ hi => by have := h (j + n - f) (by omega); rwa [e _ (by omega) (by omega), show f + (j + n - f) - n = j by omega] at this)]
theorem pick_no {m f n : Nat} (hf : f < n) (h : ∀ t, t < n → has m ((f + t) % n) = false) : pickOf m f n = -1 := by
  unfold pickOf
  have h0 : ∀ j, j < n → has m j = false := fun j hj => by
    rcases Nat.lt_or_ge j f with h1 | h1
    · have := h (j + n - f) (by omega)
      rwa [show f + (j + n - f) = j + n by omega, Nat.add_mod_right, Nat.mod_eq_of_lt hj] at this
    · have := h (j - f) (by omega)
      rwa [show f + (j - f) = j by omega, Nat.mod_eq_of_lt hj] at this
  rw [first_none (fun j _ hi => h0 j hi), first_none (fun j _ hi => h0 j (by omega))]

def pickI (m : Nat) (f n : Int) : Int := if 1 ≤ n ∧ n ≤ 16 ∧ 0 ≤ f ∧ f < n then pickOf m f.toNat n.toNat else -1
def hasI (m : Nat) (i : Int) : Bool := decide (0 ≤ i) && has m i.toNat
theorem hasI_out {m : Nat} {i : Int} (hm : m < 65536) (h : i < 0 ∨ 15 < i) : hasI m i = false := by
  unfold hasI
  rcases h with h | h
  · rw [decide_eq_false (by omega)]; rfl
  · have e : has m i.toNat = false := by
      cases e : has m i.toNat with
      | false => rfl
      | true => have := has_lt (n := 16) hm e; omega
    rw [e, Bool.and_false]
theorem hasI_nat (m i : Nat) : hasI m (i : Int) = has m i := by
  unfold hasI; rw [decide_eq_true (by omega), Int.toNat_natCast, Bool.true_and]

/-! ### Rows as columns -/
def colOf (rows : List Nat) (k : Nat) : Nat → Nat
  | 0 => 0
  | j + 1 => colOf rows k j + if has (rows.getD j 0) k = true then 2 ^ j else 0
def colsOf (rows : List Nat) (n j : Nat) : List Nat := (List.range n).map fun k => colOf rows k j
/-- In the row that is being turned: the bits of 'pre' are there already. -/
def colsAt (rows : List Nat) (n j : Nat) (pre : List Nat) : List Nat := (List.range n).map fun k => colOf rows k j + if k ∈ pre then 2 ^ j else 0
def turnI (rows : List Nat) (n : Int) : List Nat := if 1 ≤ n ∧ n ≤ 16 then colsOf rows n.toNat 16 else []
theorem colOf_lt (rows : List Nat) (k : Nat) : ∀ j, colOf rows k j < 2 ^ j
  | 0 => by simp [colOf]
  | j + 1 => by
    have := colOf_lt rows k j
    have e : 2 ^ (j + 1) = 2 ^ j + 2 ^ j := by rw [Nat.pow_succ]; omega
    rw [colOf, e]; split <;> omega
theorem colOf_beyond (rows : List Nat) (k : Nat) : ∀ j, rows.length ≤ j → colOf rows k j = colOf rows k rows.length
  | 0, h => by rw [show rows.length = 0 by omega]
  | j + 1, h => by
    rcases Nat.lt_or_ge j rows.length with h' | h'
    · rw [show rows.length = j + 1 by omega]
    · rw [colOf, colOf_beyond rows k j h', List.getD_eq_getElem?_getD, List.getElem?_eq_none h', Option.getD_none, has_zero]; simp
theorem colsOf_beyond (rows : List Nat) (n j : Nat) (h : rows.length ≤ j) : colsOf rows n j = colsOf rows n rows.length := by
  unfold colsOf; exact List.map_congr_left fun k _ => colOf_beyond rows k j h
theorem colsOf_length (rows : List Nat) (n j : Nat) : (colsOf rows n j).length = n := by simp [colsOf]
theorem colsAt_length (rows : List Nat) (n j : Nat) (pre : List Nat) : (colsAt rows n j pre).length = n := by simp [colsAt]
theorem colsAt_nil (rows : List Nat) (n j : Nat) : colsAt rows n j [] = colsOf rows n j := by simp [colsAt, colsOf]
theorem colsAt_all (rows : List Nat) (n j : Nat) (hn : n ≤ 16) : colsAt rows n j (bitsOf (rows.getD j 0 % 2 ^ n)) = colsOf rows n (j + 1) := by
  unfold colsAt colsOf
  refine List.map_congr_left fun k hk => ?_
  rw [List.mem_range] at hk
  rw [colOf]
  congr 1
  have : k ∈ bitsOf (rows.getD j 0 % 2 ^ n) ↔ has (rows.getD j 0) k = true := by
    rw [mem_bitsOf, has_mod, decide_eq_true hk, Bool.true_and]
    exact ⟨fun h => h.2, fun h => ⟨by omega, h⟩⟩
  simp only [this]
theorem colsOf_at (rows : List Nat) (n j k : Nat) (h : k < n) : (colsOf rows n j)[k]? = some (colOf rows k j) := by simp [colsOf, h]
/-- One bit more. -/
theorem colsAt_set (rows : List Nat) (n j : Nat) (pre : List Nat) (x : Nat) (hx : x < n) (hp : x ∉ pre) :
    (colsAt rows n j pre)[x]? = some (colOf rows x j) ∧ (colsAt rows n j pre).set x (colOf rows x j + 2 ^ j) = colsAt rows n j (pre ++ [x]) := by
  refine ⟨by simp [colsAt, hx, hp], ?_⟩
  unfold colsAt
  apply List.ext_getElem
  · simp
  · intro i h1 h2
    rw [List.getElem_set]
    simp only [List.getElem_map, List.getElem_range, List.mem_append, List.mem_singleton]
    by_cases e : x = i
    · subst e; simp
    · rw [if_neg e]
      have : i ≠ x := fun h => e h.symm
      simp [this]
theorem or_pow (c j : Nat) (h : c < 2 ^ j) : c ||| 2 ^ j = c + 2 ^ j := by
  have := Nat.two_pow_add_eq_or_of_lt h 1
  rw [Nat.mul_one] at this
  rw [Nat.or_comm, ← this, Nat.add_comm]
theorem nodup_bitsOf (m : Nat) : (bitsOf m).Nodup := by unfold bitsOf; exact List.filter_sublist.nodup List.nodup_range
theorem not_mem_pre {m x : Nat} {pre : List Nat} (h : pre ++ [x] <+: bitsOf m) : x ∉ pre ∧ x < 16 ∧ has m x = true := by
  have hn : (pre ++ [x]).Nodup := h.sublist.nodup (nodup_bitsOf m)
  have hx : x ∈ bitsOf m := h.subset (by simp)
  refine ⟨fun hm => ?_, mem_bitsOf.1 hx⟩
  rw [List.nodup_append] at hn
  exact hn.2.2 x hm x (by simp) rfl

/-- The bits below j. -/
def bitsTo (m j : Nat) : List Nat := (List.range j).filter (has m)
theorem bitsTo_yes {m j : Nat} (h : has m j = true) : bitsTo m (j + 1) = bitsTo m j ++ [j] := by unfold bitsTo; rw [List.range_succ, List.filter_append, List.filter_cons, if_pos h]; rfl
theorem bitsTo_no {m j : Nat} (h : has m j = false) : bitsTo m (j + 1) = bitsTo m j := by unfold bitsTo; rw [List.range_succ, List.filter_append, List.filter_cons, if_neg (by rw [h]; decide)]; simp
theorem bitsTo_le (m j : Nat) : (bitsTo m j).length ≤ j := by unfold bitsTo; exact Nat.le_trans (List.length_filter_le _ _) (by simp)

/-- Columns, one behind another. -/
def rcols (rows : List Nat) (n L k i : Nat) : List Nat := (List.range n).map fun c => if c < k then colOf rows c L else if c = k then colOf rows k i else 0
theorem rcols_length (rows : List Nat) (n L k i : Nat) : (rcols rows n L k i).length = n := by simp [rcols]
theorem rcols_start (rows : List Nat) (n L : Nat) : rcols rows n L 0 0 = colsOf rows n 0 := by
  unfold rcols colsOf
  exact List.map_congr_left fun c _ => by rw [if_neg (Nat.not_lt_zero _)]; simp [colOf]
theorem rcols_next (rows : List Nat) (n L k : Nat) : rcols rows n L k L = rcols rows n L (k + 1) 0 := by
  unfold rcols
  refine List.map_congr_left fun c _ => ?_
  by_cases h : c < k
  · rw [if_pos h, if_pos (by omega)]
  · rw [if_neg h]
    by_cases e : c = k
    · rw [if_pos e, if_pos (by omega), e]
    · rw [if_neg e, if_neg (by omega)]; simp [colOf]
theorem rcols_end (rows : List Nat) (n L : Nat) : rcols rows n L n 0 = colsOf rows n L := by
  unfold rcols colsOf
  exact List.map_congr_left fun c hc => by rw [if_pos (List.mem_range.1 hc)]
theorem rcols_at (rows : List Nat) (n L k i : Nat) (h : k < n) : (rcols rows n L k i)[k]? = some (colOf rows k i) := by simp [rcols, h]
theorem rcols_yes (rows : List Nat) (n L k i : Nat) (h : has (rows.getD i 0) k = true) : (rcols rows n L k i).set k (colOf rows k i + 2 ^ i) = rcols rows n L k (i + 1) := by
  unfold rcols
  apply List.ext_getElem
  · simp
  · intro c h1 h2
    rw [List.getElem_set]
    simp only [List.getElem_map, List.getElem_range]
    by_cases e : k = c
    · subst e; rw [if_pos rfl, if_neg (Nat.lt_irrefl _), if_pos rfl, colOf, if_pos h]
    · rw [if_neg e]
      by_cases h' : c < k
      · rw [if_pos h', if_pos h']
      · rw [if_neg h', if_neg h', if_neg (fun h => e h.symm), if_neg (fun h => e h.symm)]
theorem rcols_no (rows : List Nat) (n L k i : Nat) (h : has (rows.getD i 0) k = false) : rcols rows n L k (i + 1) = rcols rows n L k i := by
  unfold rcols
  refine List.map_congr_left fun c _ => ?_
  have e : colOf rows k (i + 1) = colOf rows k i := by rw [colOf, if_neg (by rw [h]; decide), Nat.add_zero]
  rw [e]

/-! ### The model's words -/
theorem wraps_u16 (n : Int) (h₀ : 0 ≤ n) (h₁ : n < 2 ^ 16) : IntKind.u16.wrap n = n := by simp [IntKind.wrap, IntKind.bits, IntKind.signed]; omega
theorem and_u16 (a b : Nat) (ha : a < 65536) (hb : b < 65536) : bits .and .u16 a b = ((a &&& b : Nat) : Int) := (bits_nat .u16 16 (by decide) wraps_u16 a b ha hb).1
theorem or_u16 (a b : Nat) (ha : a < 65536) (hb : b < 65536) : bits .or .u16 a b = ((a ||| b : Nat) : Int) := (bits_nat .u16 16 (by decide) wraps_u16 a b ha hb).2
theorem and1_u16 (m i : Nat) (hm : m < 65536) : (bits .and .u16 ((m : Int) / 2 ^ i) 1 == 1) = has m i := by
  have h1 : m / 2 ^ i < 65536 := Nat.lt_of_le_of_lt (Nat.div_le_self _ _) hm
  have e : bits .and .u16 ((m : Int) / 2 ^ i) 1 = ((m / 2 ^ i % 2 : Nat) : Int) := by
    have := and_u16 (m / 2 ^ i) 1 h1 (by decide)
    rw [Nat.and_one_is_mod] at this
    rw [← this]
    congr 1
  rw [e]
  unfold has
  have : m / 2 ^ i % 2 < 2 := Nat.mod_lt _ (by decide)
  rw [Bool.eq_iff_iff, beq_iff_eq, beq_iff_eq]
  omega
theorem mask_u16 : ∀ k, k ≤ 16 → IntKind.u16.wrap (IntKind.u16.wrap (2 ^ k) - 1) = 2 ^ k - 1 := by decide +kernel
theorem below_u16 (m k : Nat) (hm : m < 65536) (hk : k ≤ 16) : bits .and .u16 (m : Int) (IntKind.u16.wrap (IntKind.u16.wrap (2 ^ k) - 1)) = ((m % 2 ^ k : Nat) : Int) := by
  rw [mask_u16 k hk, bits_mask .u16 16 (by decide) wraps_u16 k hk m (by omega) (by show (m : Int) < 65536; omega), Int.natCast_emod, Int.natCast_pow]; rfl
theorem shl_u16 : ∀ j : Nat, j < 16 → IntKind.u16.wrap (2 ^ j) = 2 ^ j := by decide +kernel
theorem orpow_u16 (c j : Nat) (hc : c < 2 ^ j) (hj : j < 16) : bits .or .u16 (c : Int) (IntKind.u16.wrap (2 ^ j)) = ((c + 2 ^ j : Nat) : Int) := by
  have h2 : 2 ^ j < 65536 := Nat.lt_of_le_of_lt (Nat.pow_le_pow_right (by decide) (show j ≤ 15 by omega)) (by decide)
  have e : (2 : Int) ^ j = ((2 ^ j : Nat) : Int) := by rw [Int.natCast_pow]; rfl
  rw [shl_u16 j hj, e, or_u16 c (2 ^ j) (by omega) h2, or_pow c j hc]
theorem lowb_u16 (m : Nat) (hm : m < 65536) (h0 : m ≠ 0) : bits .and .u16 (m : Int) (IntKind.u16.wrap (-(m : Int))) = ((lowb m : Nat) : Int) := by
  have e : IntKind.u16.wrap (-(m : Int)) = ((65536 - m) % 65536 : Nat) := by
    simp [IntKind.wrap, IntKind.bits, IntKind.signed]; omega
  rw [e, and_u16 _ _ hm (Nat.mod_lt _ (by decide))]; rfl
theorem pred_u16 (m : Nat) (hm : m < 65536) (h0 : m ≠ 0) : bits .and .u16 (m : Int) ((m : Int) - 1) = ((m &&& (m - 1) : Nat) : Int) := by
  rw [show (m : Int) - 1 = ((m - 1 : Nat) : Int) by omega, and_u16 _ _ hm (by omega)]
theorem andNot_u16 (a b : Nat) (ha : a < 65536) (hb : b < 65536) : ∃ x : Nat, bits .andNot .u16 (a : Int) (b : Int) = (x : Int) ∧ x < 65536 ∧ ∀ i, has x i = (has a i && !has b i) := by
  have hlt := (BitVec.ofInt 16 (a : Int) &&& ~~~BitVec.ofInt 16 (b : Int)).isLt
  refine ⟨(BitVec.ofInt 16 (a : Int) &&& ~~~BitVec.ofInt 16 (b : Int)).toNat, wraps_u16 ((BitVec.ofInt 16 (a : Int) &&& ~~~BitVec.ofInt 16 (b : Int)).toNat : Int) (by omega) (by show ((BitVec.ofInt 16 (a : Int) &&& ~~~BitVec.ofInt 16 (b : Int)).toNat : Int) < (65536 : Int); omega), (BitVec.ofInt 16 (a : Int) &&& ~~~BitVec.ofInt 16 (b : Int)).isLt, fun i => ?_⟩
  rw [has_testBit, has_testBit, has_testBit, BitVec.testBit_toNat, BitVec.getLsbD_and, BitVec.getLsbD_not, BitVec.ofInt_natCast, BitVec.ofInt_natCast, BitVec.getLsbD_ofNat, BitVec.getLsbD_ofNat]
  by_cases h : i < 16
  · simp [h]
  · have : a.testBit i = false := by
      rw [← has_testBit]
      cases e : has a i with
      | false => rfl
      | true => have := has_lt (n := 16) ha e; omega
    simp [h, this]
theorem above_u16 (m k : Nat) (hm : m < 65536) : bits .andNot .u16 (m : Int) ((m % 2 ^ k : Nat) : Int) = ((m / 2 ^ k * 2 ^ k : Nat) : Int) := by
  obtain ⟨x, hx, hlt, hb⟩ := andNot_u16 m (m % 2 ^ k) hm (Nat.lt_of_le_of_lt (Nat.mod_le _ _) hm)
  rw [hx]
  congr 1
  refine eq_of_has hlt (Nat.lt_of_le_of_lt (Nat.div_mul_le_self _ _) hm) (fun i _ => ?_)
  rw [hb, has_high, has_mod]
  by_cases h : k ≤ i
  · simp [h, Nat.not_lt.2 h]
  · simp [h, Nat.lt_of_not_le h]

end Go.Proofs.YtlfohlgooomdfaaDoor
