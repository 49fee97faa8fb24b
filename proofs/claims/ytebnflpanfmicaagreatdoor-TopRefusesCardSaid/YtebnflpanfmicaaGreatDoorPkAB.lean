/-
  Part 2 of the proof: MaskPure, Seq, MaskW1.
-/
import Derived.KernelRfl
import Derived.Laws.BitsLemmas
import Derived.Test.YtebnflpanfmicaaGreatDoorPkAA
import Derived.RangeFuncNested
import Derived.RangeFuncLeaves
import Derived.Test.YtebnflpanfmicaaGreatDoorProg
import Derived.BigQuiet
set_option linter.unusedVariables false
set_option linter.unusedSimpArgs false
set_option linter.unusedSectionVars false
namespace Go.Proofs.YtebnflpanfmicaaGreatDoor
def has (m i : Nat) : Bool := m / 2 ^ i % 2 == 1
def bitsOf (m : Nat) : List Nat := (List.range 16).filter (has m)
def lowb (m : Nat) : Nat := Nat.land m (Nat.mod (Nat.sub 65536 m) 65536)
def tzi (m : Nat) : Nat := Nat.div (Nat.mod (Nat.mul (lowb m) 125613361) 4294967296) 134217728
def tzt (i : Nat) : Nat := Nat.mod (Nat.div 425558438023169368542358217867927387395308220448 (Nat.pow 32 i)) 32
def tzOf (m : Nat) : Nat := tzt (tzi m)
def chk2 (m p t : Nat) : Bool := match Nat.beq (Nat.mod m (Nat.mul 2 p)) p with
  | true => match Nat.beq (Nat.land m (Nat.sub m 1)) (Nat.sub m p) with
    | true => Nat.ble t 15
    | false => false
  | false => false
def chk (m : Nat) : Bool := match Nat.beq m 0 with
  | true => true
  | false => (fun t => chk2 m (Nat.pow 2 t) t) (tzt (tzi m))
def allB (f : Nat → Bool) : Nat → Bool
  | 0 => true
  | n + 1 => match f n with
    | true => allB f n
    | false => false
theorem allB_at {f : Nat → Bool} : ∀ {n : Nat}, allB f n = true → ∀ i, i < n → f i = true
  | 0, _, i, h => absurd h (Nat.not_lt_zero _)
  | n + 1, h, i, hi => by
    unfold allB at h
    split at h
    · rename_i hf
      rcases Nat.lt_or_ge i n with h' | h'
      · exact allB_at h i h'
      · rw [show i = n by omega]; exact hf
    · cases h
theorem brute : (allB (fun a => allB (fun b => chk (Nat.add (Nat.mul 256 a) b)) 256) 256) = true := by kernel_rfl
theorem chk_at (m : Nat) (h : m < 65536) : chk m = true := by
  have h1 := allB_at brute (m / 256) (by omega)
  have h2 := allB_at h1 (m % 256) (by omega)
  rwa [show Nat.add (Nat.mul 256 (m / 256)) (m % 256) = m from Nat.div_add_mod m 256] at h2
theorem tz_at (m : Nat) (h : m < 65536) (h0 : m ≠ 0) : m % (2 * 2 ^ tzOf m) = 2 ^ tzOf m ∧ m &&& (m - 1) = m - 2 ^ tzOf m ∧ tzOf m ≤ 15 := by
  have hc := chk_at m h
  unfold chk at hc
  split at hc
  · rename_i e
    exact absurd (Nat.eq_of_beq_eq_true e) h0
  · have hc : chk2 m (Nat.pow 2 (tzOf m)) (tzOf m) = true := hc
    unfold chk2 at hc
    split at hc
    · rename_i e1
      split at hc
      · rename_i e2
        exact ⟨Nat.eq_of_beq_eq_true e1, Nat.eq_of_beq_eq_true e2, Nat.le_of_ble_eq_true hc⟩
      · cases hc
    · cases hc
theorem tzi_lt (m : Nat) : tzi m < 32 := by
  show lowb m * 125613361 % 4294967296 / 134217728 < 32
  omega
theorem has_lt {m i n : Nat} (hm : m < 2 ^ n) (h : has m i = true) : i < n := by
  rcases Nat.lt_or_ge i n with h' | h'
  · exact h'
  · have : m / 2 ^ i = 0 := Nat.div_eq_of_lt (Nat.lt_of_lt_of_le hm (Nat.pow_le_pow_right (by decide) h'))
    simp [has, this] at h
theorem has_zero (i : Nat) : has 0 i = false := by simp [has]
theorem bitsOf_zero : bitsOf 0 = [] := by
  unfold bitsOf; rw [List.filter_eq_nil_iff]; intro x _; simp [has_zero]
theorem has_testBit (m i : Nat) : has m i = m.testBit i := by
  unfold has
  rw [Nat.testBit_eq_decide_div_mod_eq]
  by_cases h : m / 2 ^ i % 2 = 1 <;> simp [h]
theorem has_mod (m n i : Nat) : has (m % 2 ^ n) i = (decide (i < n) && has m i) := by
  rw [has_testBit, has_testBit, Nat.testBit_mod_two_pow]
theorem has_high (m n i : Nat) : has (m / 2 ^ n * 2 ^ n) i = (decide (n ≤ i) && has m i) := by
  rw [has_testBit, has_testBit, Nat.mul_comm, Nat.testBit_two_pow_mul, Nat.testBit_div_two_pow]
  by_cases h : n ≤ i
  · simp [h, Nat.sub_add_cancel h]
  · simp [h]
theorem has_add_pow (m n i : Nat) (h : m < 2 ^ n) : has (m + 2 ^ n) i = (has m i || decide (i = n)) := by
  rw [has_testBit, has_testBit]
  have e : m + 2 ^ n = 2 ^ n ||| m := by have := Nat.two_pow_add_eq_or_of_lt h 1; rw [Nat.mul_one] at this; omega
  rw [e, Nat.testBit_or, Nat.testBit_two_pow]
  by_cases h' : n = i
  · subst h'; simp
  · simp [h', Ne.symm h']
theorem eq_of_has {a b : Nat} (ha : a < 65536) (hb : b < 65536) (h : ∀ i, i < 16 → has a i = has b i) : a = b := by
  apply Nat.eq_of_testBit_eq
  intro i
  rw [← has_testBit, ← has_testBit]
  rcases Nat.lt_or_ge i 16 with hi | hi
  · exact h i hi
  · have e1 : has a i = false := by
      cases e : has a i with
      | false => rfl
      | true => have := has_lt (n := 16) ha e; omega
    have e2 : has b i = false := by
      cases e : has b i with
      | false => rfl
      | true => have := has_lt (n := 16) hb e; omega
    rw [e1, e2]
theorem mem_bitsOf {m i : Nat} : i ∈ bitsOf m ↔ i < 16 ∧ has m i = true := by
  unfold bitsOf; rw [List.mem_filter, List.mem_range]
theorem bits_low (m t : Nat) (h1 : m % (2 * 2 ^ t) = 2 ^ t) (h3 : t ≤ 15) : bitsOf m = t :: bitsOf (m - 2 ^ t) := by
  obtain ⟨q, hq⟩ : ∃ q, m = 2 * 2 ^ t * q + 2 ^ t := ⟨m / (2 * 2 ^ t), by have := Nat.div_add_mod m (2 * 2 ^ t); omega⟩
  have e2 : m - 2 ^ t = 2 ^ (t + 1) * q := by rw [hq, Nat.pow_succ]; rw [Nat.mul_comm 2 (2 ^ t)]; omega
  have hm' : m = 2 ^ (t + 1) * q + 2 ^ t := by rw [hq, Nat.pow_succ, Nat.mul_comm 2 (2 ^ t)]
  have hp : 0 < 2 ^ t := Nat.two_pow_pos t
  have hlt : 2 ^ t < 2 ^ (t + 1) := Nat.pow_lt_pow_right (by decide) (by omega)
  have hbit : ∀ i, has m i = if i < t + 1 then decide (t = i) else q.testBit (i - (t + 1)) := fun i => by
    rw [has_testBit, hm', Nat.testBit_two_pow_mul_add _ hlt, Nat.testBit_two_pow]
  have hbit' : ∀ i, has (m - 2 ^ t) i = if i < t + 1 then false else q.testBit (i - (t + 1)) := fun i => by
    rw [has_testBit, e2, Nat.testBit_two_pow_mul]
    by_cases h : i < t + 1
    · rw [if_pos h]; simp; omega
    · rw [if_neg h]; simp; omega
  have er : ∀ t, t ≤ 15 → List.range 16 = List.range t ++ t :: List.range' (t + 1) (15 - t) := by decide
  unfold bitsOf
  rw [er t h3, List.filter_append, List.filter_append, List.filter_cons, List.filter_cons]
  have n1 : (List.range t).filter (has m) = [] := by
    rw [List.filter_eq_nil_iff]; intro i hi; rw [List.mem_range] at hi; rw [hbit, if_pos (by omega)]; simp; omega
  have n2 : (List.range t).filter (has (m - 2 ^ t)) = [] := by
    rw [List.filter_eq_nil_iff]; intro i hi; rw [List.mem_range] at hi; rw [hbit', if_pos (by omega)]; simp
  have n3 : (List.range' (t + 1) (15 - t)).filter (has m) = (List.range' (t + 1) (15 - t)).filter (has (m - 2 ^ t)) := by
    apply List.filter_congr
    intro i hi
    rw [List.mem_range'_1] at hi
    rw [hbit, hbit', if_neg (by omega), if_neg (by omega)]
  have n4 : has m t = true := by rw [hbit, if_pos (by omega)]; simp
  have n5 : has (m - 2 ^ t) t = false := by rw [hbit', if_pos (by omega)]
  rw [n1, n2, n3, n4, n5]
  simp
theorem bitsOf_cons (m : Nat) (h : m < 65536) (h0 : m ≠ 0) : bitsOf m = tzOf m :: bitsOf (m &&& (m - 1)) := by
  rw [(tz_at m h h0).2.1]
  exact bits_low m _ (tz_at m h h0).1 (tz_at m h h0).2.2
theorem and_pred_lt (m : Nat) (h : m < 65536) : m &&& (m - 1) < 65536 := Nat.lt_of_le_of_lt Nat.and_le_left h
theorem and_pred_lt' (m : Nat) (h0 : m ≠ 0) : m &&& (m - 1) < m := by
  have : m &&& (m - 1) ≤ m - 1 := Nat.and_le_right
  omega
def first (m a n : Nat) : Option Nat := ((List.range' a (n - a)).find? (has m))
def pickOf (m from_ n : Nat) : Int := match first m from_ n with
  | some i => i
  | none => match first m 0 from_ with
    | some i => i
    | none => -1
theorem head_bits (m : Nat) : (bitsOf m).head? = (List.range 16).find? (has m) := by
  unfold bitsOf; rw [List.head?_filter]
theorem find_congr {α : Type} {p q : α → Bool} : ∀ {l : List α}, (∀ x ∈ l, p x = q x) → l.find? p = l.find? q
  | [], _ => rfl
  | x :: l, h => by
    rw [List.find?_cons, List.find?_cons, h x List.mem_cons_self, find_congr (fun y hy => h y (List.mem_cons_of_mem _ hy))]
theorem find_none {α : Type} {p : α → Bool} {l : List α} (h : ∀ x ∈ l, p x = false) : l.find? p = none := by
  rw [List.find?_eq_none]; intro x hx; simp [h x hx]
theorem head_high (m a n : Nat) (ha : a ≤ n) (hn : n ≤ 16) : (bitsOf (m % 2 ^ n / 2 ^ a * 2 ^ a)).head? = first m a n := by
  rw [head_bits]
  have e1 : List.range' a (n - a) ++ List.range' n (16 - n) = List.range' a (16 - a) := by
    have := @List.range'_append_1 a (n - a) (16 - n)
    rwa [show a + (n - a) = n by omega, show n - a + (16 - n) = 16 - a by omega] at this
  have e2 : List.range' 0 a ++ List.range' a (16 - a) = List.range' 0 16 := by
    have := @List.range'_append_1 0 a (16 - a)
    rwa [Nat.zero_add, show a + (16 - a) = 16 by omega] at this
  rw [List.range_eq_range', ← e2, ← e1, List.find?_append, List.find?_append]
  have h0 : ∀ i, has (m % 2 ^ n / 2 ^ a * 2 ^ a) i = (decide (a ≤ i) && (decide (i < n) && has m i)) := fun i => by rw [has_high, has_mod]
  rw [find_none (l := List.range' 0 a) (fun i hi => by rw [List.mem_range'_1] at hi; rw [h0, decide_eq_false (by omega)]; rfl)]
  rw [find_none (l := List.range' n (16 - n)) (fun i hi => by rw [List.mem_range'_1] at hi; rw [h0, decide_eq_false (p := i < n) (by omega)]; simp)]
  rw [find_congr (l := List.range' a (n - a)) (q := has m) (fun i hi => by rw [List.mem_range'_1] at hi; rw [h0, decide_eq_true (by omega), decide_eq_true (by omega)]; rfl)]
  simp [first]
theorem first_split (m a n : Nat) (ha : a ≤ n) : first m 0 n = (first m 0 a).or (first m a n) := by
  unfold first
  have e2 : List.range' 0 a ++ List.range' a (n - a) = List.range' 0 n := by
    have := @List.range'_append_1 0 a (n - a)
    rwa [Nat.zero_add, show a + (n - a) = n by omega] at this
  rw [Nat.sub_zero, Nat.sub_zero, ← e2, List.find?_append]
theorem head_low (m n : Nat) (hn : n ≤ 16) : (bitsOf (m % 2 ^ n)).head? = first m 0 n := by
  have := head_high m 0 n (by omega) hn
  simpa using this
theorem first_lt {m a n i : Nat} (h : first m a n = some i) : a ≤ i ∧ i < n ∧ has m i = true := by
  unfold first at h
  have h1 := List.mem_of_find?_eq_some h
  have h2 := List.find?_some h
  rw [List.mem_range'_1] at h1
  exact ⟨h1.1, by omega, h2⟩
theorem pick_some {m a n k : Nat} {r : List Nat} (ha : a < n) (hn : n ≤ 16) (h : bitsOf (m % 2 ^ n / 2 ^ a * 2 ^ a) = k :: r) : pickOf m a n = k := by
  have := head_high m a n (by omega) hn
  rw [h] at this
  unfold pickOf
  rw [← this]; rfl
theorem pick_next {m a n k : Nat} {r : List Nat} (ha : a < n) (hn : n ≤ 16) (h : bitsOf (m % 2 ^ n / 2 ^ a * 2 ^ a) = []) (h2 : bitsOf (m % 2 ^ n) = k :: r) : pickOf m a n = k := by
  have e1 := head_high m a n (by omega) hn
  have e2 := head_low m n hn
  rw [h] at e1; rw [h2] at e2
  rw [first_split m a n (by omega)] at e2
  unfold pickOf
  rw [← e1] at e2 ⊢
  simp only [List.head?_nil, Option.or_none, List.head?_cons] at e2 ⊢
  rw [← e2]
theorem pick_none {m a n : Nat} (ha : a < n) (hn : n ≤ 16) (h : bitsOf (m % 2 ^ n / 2 ^ a * 2 ^ a) = []) (h2 : bitsOf (m % 2 ^ n) = []) : pickOf m a n = -1 := by
  have e1 := head_high m a n (by omega) hn
  have e2 := head_low m n hn
  rw [h] at e1; rw [h2] at e2
  rw [first_split m a n (by omega)] at e2
  unfold pickOf
  rw [← e1] at e2 ⊢
  simp only [List.head?_nil, Option.or_none] at e2 ⊢
  rw [← e2]
def pickI (m : Nat) (f n : Int) : Int := if 1 ≤ n ∧ n ≤ 16 ∧ 0 ≤ f ∧ f < n then pickOf m f.toNat n.toNat else -1
def hasI (m : Nat) (i : Int) : Bool := decide (0 ≤ i) && has m i.toNat
theorem hasI_nat (m i : Nat) : hasI m (i : Int) = has m i := by
  unfold hasI; rw [decide_eq_true (by omega), Int.toNat_natCast, Bool.true_and]
def colOf (rows : List Nat) (k : Nat) : Nat → Nat
  | 0 => 0
  | j + 1 => colOf rows k j + if has (rows.getD j 0) k = true then 2 ^ j else 0
def colsOf (rows : List Nat) (n j : Nat) : List Nat := (List.range n).map fun k => colOf rows k j
def colsAt (rows : List Nat) (n j : Nat) (pre : List Nat) : List Nat := (List.range n).map fun k => colOf rows k j + if k ∈ pre then 2 ^ j else 0
def turnI (rows : List Nat) (n : Int) : List Nat := if 1 ≤ n ∧ n ≤ 16 then colsOf rows n.toNat 16 else []
theorem colOf_lt (rows : List Nat) (k : Nat) : ∀ j, colOf rows k j < 2 ^ j
  | 0 => by simp [colOf]
  | j + 1 => by
    have := colOf_lt rows k j
    have e : 2 ^ (j + 1) = 2 ^ j + 2 ^ j := by rw [Nat.pow_succ]; omega
    rw [colOf, e]; split <;> omega
theorem colOf_beyond (rows : List Nat) (k : Nat) : ∀ j, rows.length ≤ j → colOf rows k j = colOf rows k rows.length
  | 0, h => by rw [show rows.length = 0 by omega]
  | j + 1, h => by
    rcases Nat.lt_or_ge j rows.length with h' | h'
    · rw [show rows.length = j + 1 by omega]
    · rw [colOf, colOf_beyond rows k j h', List.getD_eq_getElem?_getD, List.getElem?_eq_none h', Option.getD_none, has_zero]; simp
theorem colsOf_beyond (rows : List Nat) (n j : Nat) (h : rows.length ≤ j) : colsOf rows n j = colsOf rows n rows.length := by
  unfold colsOf; exact List.map_congr_left fun k _ => colOf_beyond rows k j h
theorem colsOf_length (rows : List Nat) (n j : Nat) : (colsOf rows n j).length = n := by simp [colsOf]
theorem colsAt_nil (rows : List Nat) (n j : Nat) : colsAt rows n j [] = colsOf rows n j := by simp [colsAt, colsOf]
theorem colsAt_all (rows : List Nat) (n j : Nat) (hn : n ≤ 16) : colsAt rows n j (bitsOf (rows.getD j 0 % 2 ^ n)) = colsOf rows n (j + 1) := by
  unfold colsAt colsOf
  refine List.map_congr_left fun k hk => ?_
  rw [List.mem_range] at hk
  rw [colOf]
  congr 1
  have : k ∈ bitsOf (rows.getD j 0 % 2 ^ n) ↔ has (rows.getD j 0) k = true := by
    rw [mem_bitsOf, has_mod, decide_eq_true hk, Bool.true_and]
    exact ⟨fun h => h.2, fun h => ⟨by omega, h⟩⟩
  simp only [this]
theorem colsOf_at (rows : List Nat) (n j k : Nat) (h : k < n) : (colsOf rows n j)[k]? = some (colOf rows k j) := by simp [colsOf, h]
theorem colsAt_set (rows : List Nat) (n j : Nat) (pre : List Nat) (x : Nat) (hx : x < n) (hp : x ∉ pre) :
    (colsAt rows n j pre)[x]? = some (colOf rows x j) ∧ (colsAt rows n j pre).set x (colOf rows x j + 2 ^ j) = colsAt rows n j (pre ++ [x]) := by
  refine ⟨by simp [colsAt, hx, hp], ?_⟩
  unfold colsAt
  apply List.ext_getElem
  · simp
  · intro i h1 h2
    rw [List.getElem_set]
    simp only [List.getElem_map, List.getElem_range, List.mem_append, List.mem_singleton]
    by_cases e : x = i
    · subst e; simp
    · rw [if_neg e]
      have : i ≠ x := fun h => e h.symm
      simp [this]
theorem or_pow (c j : Nat) (h : c < 2 ^ j) : c ||| 2 ^ j = c + 2 ^ j := by
  have := Nat.two_pow_add_eq_or_of_lt h 1
  rw [Nat.mul_one] at this
  rw [Nat.or_comm, ← this, Nat.add_comm]
theorem nodup_bitsOf (m : Nat) : (bitsOf m).Nodup := by unfold bitsOf; exact List.filter_sublist.nodup List.nodup_range
theorem not_mem_pre {m x : Nat} {pre : List Nat} (h : pre ++ [x] <+: bitsOf m) : x ∉ pre ∧ x < 16 ∧ has m x = true := by
  have hn : (pre ++ [x]).Nodup := h.sublist.nodup (nodup_bitsOf m)
  have hx : x ∈ bitsOf m := h.subset (by simp)
  refine ⟨fun hm => ?_, mem_bitsOf.1 hx⟩
  rw [List.nodup_append] at hn
  exact hn.2.2 x hm x (by simp) rfl
theorem wraps_u16 (n : Int) (h₀ : 0 ≤ n) (h₁ : n < 2 ^ 16) : IntKind.u16.wrap n = n := by simp [IntKind.wrap, IntKind.bits, IntKind.signed]; omega
theorem and_u16 (a b : Nat) (ha : a < 65536) (hb : b < 65536) : bits .and .u16 a b = ((a &&& b : Nat) : Int) := (bits_nat .u16 16 (by decide) wraps_u16 a b ha hb).1
theorem or_u16 (a b : Nat) (ha : a < 65536) (hb : b < 65536) : bits .or .u16 a b = ((a ||| b : Nat) : Int) := (bits_nat .u16 16 (by decide) wraps_u16 a b ha hb).2
theorem and1_u16 (m i : Nat) (hm : m < 65536) : (bits .and .u16 ((m : Int) / 2 ^ i) 1 == 1) = has m i := by
  have h1 : m / 2 ^ i < 65536 := Nat.lt_of_le_of_lt (Nat.div_le_self _ _) hm
  have e : bits .and .u16 ((m : Int) / 2 ^ i) 1 = ((m / 2 ^ i % 2 : Nat) : Int) := by
    have := and_u16 (m / 2 ^ i) 1 h1 (by decide)
    rw [Nat.and_one_is_mod] at this
    rw [← this]
    congr 1
  rw [e]
  unfold has
  have : m / 2 ^ i % 2 < 2 := Nat.mod_lt _ (by decide)
  rw [Bool.eq_iff_iff, beq_iff_eq, beq_iff_eq]
  omega
theorem mask_u16 : ∀ k, k ≤ 16 → IntKind.u16.wrap (IntKind.u16.wrap (2 ^ k) - 1) = 2 ^ k - 1 := by decide +kernel
theorem below_u16 (m k : Nat) (hm : m < 65536) (hk : k ≤ 16) : bits .and .u16 (m : Int) (IntKind.u16.wrap (IntKind.u16.wrap (2 ^ k) - 1)) = ((m % 2 ^ k : Nat) : Int) := by
  rw [mask_u16 k hk, bits_mask .u16 16 (by decide) wraps_u16 k hk m (by omega) (by show (m : Int) < 65536; omega), Int.natCast_emod, Int.natCast_pow]; rfl
theorem shl_u16 : ∀ j : Nat, j < 16 → IntKind.u16.wrap (2 ^ j) = 2 ^ j := by decide +kernel
theorem orpow_u16 (c j : Nat) (hc : c < 2 ^ j) (hj : j < 16) : bits .or .u16 (c : Int) (IntKind.u16.wrap (2 ^ j)) = ((c + 2 ^ j : Nat) : Int) := by
  have h2 : 2 ^ j < 65536 := Nat.lt_of_le_of_lt (Nat.pow_le_pow_right (by decide) (show j ≤ 15 by omega)) (by decide)
  have e : (2 : Int) ^ j = ((2 ^ j : Nat) : Int) := by rw [Int.natCast_pow]; rfl
  rw [shl_u16 j hj, e, or_u16 c (2 ^ j) (by omega) h2, or_pow c j hc]
theorem lowb_u16 (m : Nat) (hm : m < 65536) (h0 : m ≠ 0) : bits .and .u16 (m : Int) (IntKind.u16.wrap (-(m : Int))) = ((lowb m : Nat) : Int) := by
  have e : IntKind.u16.wrap (-(m : Int)) = ((65536 - m) % 65536 : Nat) := by
    simp [IntKind.wrap, IntKind.bits, IntKind.signed]; omega
  rw [e, and_u16 _ _ hm (Nat.mod_lt _ (by decide))]; rfl
theorem pred_u16 (m : Nat) (hm : m < 65536) (h0 : m ≠ 0) : bits .and .u16 (m : Int) ((m : Int) - 1) = ((m &&& (m - 1) : Nat) : Int) := by
  rw [show (m : Int) - 1 = ((m - 1 : Nat) : Int) by omega, and_u16 _ _ hm (by omega)]
theorem andNot_u16 (a b : Nat) (ha : a < 65536) (hb : b < 65536) : ∃ x : Nat, bits .andNot .u16 (a : Int) (b : Int) = (x : Int) ∧ x < 65536 ∧ ∀ i, has x i = (has a i && !has b i) := by
  have hlt := (BitVec.ofInt 16 (a : Int) &&& ~~~BitVec.ofInt 16 (b : Int)).isLt
  refine ⟨(BitVec.ofInt 16 (a : Int) &&& ~~~BitVec.ofInt 16 (b : Int)).toNat, wraps_u16 ((BitVec.ofInt 16 (a : Int) &&& ~~~BitVec.ofInt 16 (b : Int)).toNat : Int) (by omega) (by show ((BitVec.ofInt 16 (a : Int) &&& ~~~BitVec.ofInt 16 (b : Int)).toNat : Int) < (65536 : Int); omega), (BitVec.ofInt 16 (a : Int) &&& ~~~BitVec.ofInt 16 (b : Int)).isLt, fun i => ?_⟩
  rw [has_testBit, has_testBit, has_testBit, BitVec.testBit_toNat, BitVec.getLsbD_and, BitVec.getLsbD_not, BitVec.ofInt_natCast, BitVec.ofInt_natCast, BitVec.getLsbD_ofNat, BitVec.getLsbD_ofNat]
  by_cases h : i < 16
  · simp [h]
  · have : a.testBit i = false := by
      rw [← has_testBit]
      cases e : has a i with
      | false => rfl
      | true => have := has_lt (n := 16) ha e; omega
    simp [h, this]
theorem above_u16 (m k : Nat) (hm : m < 65536) : bits .andNot .u16 (m : Int) ((m % 2 ^ k : Nat) : Int) = ((m / 2 ^ k * 2 ^ k : Nat) : Int) := by
  obtain ⟨x, hx, hlt, hb⟩ := andNot_u16 m (m % 2 ^ k) hm (Nat.lt_of_le_of_lt (Nat.mod_le _ _) hm)
  rw [hx]
  congr 1
  refine eq_of_has hlt (Nat.lt_of_le_of_lt (Nat.div_mul_le_self _ _) hm) (fun i _ => ?_)
  rw [hb, has_high, has_mod]
  by_cases h : k ≤ i
  · simp [h, Nat.not_lt.2 h]
  · simp [h, Nat.lt_of_not_le h]
end Go.Proofs.YtebnflpanfmicaaGreatDoor
namespace Go.Proofs.YtebnflpanfmicaaGreatDoor
open Go.RowKit
theorem Keeps.putObj (F : Nat → Prop) (w : World) (l : Nat) (o : Obj) (h : F l) : Keeps F w (w.putObj l o) :=
  ⟨rfl, rfl, rfl, by simp, fun i _ hn => World.putObj_heap_other (fun e => hn (e ▸ h))⟩
def Minds {β : Type} (F : Nat → Prop) (J : β → World → Prop) : Prop := ∀ s A B, J s A → Keeps F A B → J s B
def Same (F : Nat → Prop) (A B : World) : Prop := ∀ k, F k → B.heap[k]? = A.heap[k]?
theorem Same.refl (F : Nat → Prop) (A : World) : Same F A A := fun _ _ => rfl
theorem Same.trans {F : Nat → Prop} {A B C : World} (h : Same F A B) (k : Same F B C) : Same F A C := fun i hi => (k i hi).trans (h i hi)
theorem Same.mono {F G : Nat → Prop} {A B : World} (h : Same F A B) (hg : ∀ k, G k → F k) : Same G A B := fun i hi => h i (hg i hi)
theorem Same.of_keeps {F G : Nat → Prop} {A B : World} (h : Keeps G A B) (hF : ∀ k, F k → k < A.heap.size ∧ ¬ G k) : Same F A B := fun i hi => h.block i (hF i hi).1 (hF i hi).2
def SeqO {α : Type} (F : Fence) (n : Nat) (P : Program) (g : Nat) (lb : Array Value) (enc : α → Value) (own fixed : Nat → Prop) (xs : List α) (w : World) : Prop :=
  ∀ (l : Nat) (J Jx : List α → World → Prop) (W : World), Same fixed w W → Minds own J → Minds own Jx →
    (∀ pre x W1, J pre W1 → pre ++ [x] <+: xs → YieldAt F (n - 1) P l #[enc x] W1 fun e W' =>
      (e = .returned (.bool true) ∧ J (pre ++ [x]) W' ∧ Same fixed W1 W') ∨ (e = .returned (.bool false) ∧ Jx (pre ++ [x]) W')) →
    J [] W →
    CallsIn F n P g (#[.func (.yield l) #[] #[]] ++ lb) W fun e W' => (∃ v, e = .returned v) ∧ (J xs W' ∨ ∃ pre, pre <+: xs ∧ Jx pre W')
def postO {α : Type} (fix : Nat → Prop) (I : List α → World → Prop) (Ix : Code → List α → World → Prop) (xs : List α) (W : World) : Exit → Act → World → Prop
  | .normal, _, W' => Same fix W W' ∧ I xs W'
  | .ret, _, W' => Same fix W W' ∧ Ix .ret xs W'
  | .exit id, _, W' => Same fix W W' ∧ Ix (.exit id) xs W'
  | .goto t, _, W' => Same fix W W' ∧ Ix (.goto t) xs W'
  | .panic _, _, _ => False
  | .outgrown, _, _ => False
variable {F : Fence} {n : Nat} {P : Program}
theorem wpIn_rangeFunc_O {α : Type} {g : Operand} {ps : Array Tmp} {assign body : Code} {Q : Exit → Act → World → Prop} {a : Act} {w : World}
    (hro : F.round = none) (h1 : 1 ≤ n) {gf : Nat} {lb : Array Value} (hg : a.eval g = .func (.func gf) #[] lb) (hFg : F.fn gf) (eg : ∀ args w, (callFunc gf args).run P w = .ok (.enter gf args) w)
    {enc : α → Value} {own fixed : Nat → Prop} {xs : List α} (hseq : SeqO F (n - 1) P gf lb enc own fixed xs w) (hps : ps.size = 1)
    (hof : ∀ k, own k → fixed k) (hfx : ∀ k, fixed k → k < w.heap.size)
    (I : List α → World → Prop) (Ix : Code → List α → World → Prop) (hI : Minds (fun k => own k ∨ k = w.heap.size ∨ k = w.heap.size + 1) I) (hIx : ∀ c, Minds (fun k => own k ∨ k = w.heap.size ∨ k = w.heap.size + 1) (Ix c))
    (h0 : I [] w) (a₁ : α → Act)
    (hassign : ∀ (l : Nat) (x : α) (W : World) (K : Act → World → Prop), K (a₁ x) W →
      assign.wpIn (F.inRound l) (n - 1 - 1) P (Exit.then K (fun _ _ _ => False)) { tmps := (ps.zip #[enc x]).foldl (fun t (p, v) => t.setIfInBounds p v) a.tmps, defers := [] } W)
    (hbody : ∀ (pre : List α) (x : α) (W : World), I pre W → pre ++ [x] <+: xs → w.heap.size + 1 < W.heap.size →
      body.wpIn (F.inRound (w.heap.size + 1)) (n - 1 - 1) P (postO (fun k => fixed k ∨ k = w.heap.size ∨ k = w.heap.size + 1) I Ix (pre ++ [x]) W) (a₁ x) W)
    (hdone : ∀ (W : World), I xs W → W.heap[w.heap.size]? = some (.deferred (some [])) → Q .normal { a with defers := { target := .collected w.heap.size, args := #[] } :: a.defers } W)
    (hstop : ∀ (c : Code) (pre : List α) (W : World), pre <+: xs → Ix c pre W → W.heap[w.heap.size]? = some (.deferred (some [])) → c.wpIn F n P Q { a with defers := { target := .collected w.heap.size, args := #[] } :: a.defers } W) :
    (Code.rangeFunc g ps assign body).wpIn F n P Q a w := by
  refine wpIn_rangeFunc ?_
  intro fn hfn
  rw [hro]
  obtain ⟨rec, hrec⟩ : ∃ rec : LoopState → Option Code → Loop, rec = fun st pe => { state := st, pending := pe, fn, tmps := a.tmps, params := ps, assign, body, defers := w.heap.size } := ⟨_, rfl⟩
  obtain ⟨W1, hW1⟩ : ∃ W1, (w.alloc (.deferred (some []))).alloc (.loop (rec .ready none)) = W1 := ⟨_, rfl⟩
  have hL1 : W1.heap[w.heap.size + 1]? = some (.loop (rec .ready none)) := by
    rw [← hW1]; have := World.alloc_heap_new (w.alloc (.deferred (some []))) (.loop (rec .ready none)); rwa [World.size_alloc] at this
  have hK1 : W1.heap[w.heap.size]? = some (.deferred (some [])) := by
    rw [← hW1]; exact (Below.heap_alloc _ _ _ (by simp)).trans (World.alloc_heap_new w _)
  have hk1 : ∀ G, Keeps G w W1 := fun G => by rw [← hW1]; exact (Keeps.alloc G w _).trans (Keeps.alloc G _ _)
  have hI1 : I [] W1 := hI _ _ _ h0 (hk1 _)
  have hs1 : Same fixed w W1 := Same.of_keeps (hk1 (fun _ => False)) (fun k hk => ⟨hfx k hk, fun h => h⟩)
  refine ⟨w.heap.size + 1, [{ target := .collected w.heap.size, args := #[] }], W1, { target := .fn (.func gf) lb, args := #[.func (.yield (w.heap.size + 1)) #[] #[]] }, W1, gf,
    #[.func (.yield (w.heap.size + 1)) #[] #[]] ++ lb, W1, ?_, ?_, ?_, ?_, fun _ => h1, ?_⟩
  · rw [← hW1, hrec]; exact run_enterLoop_outer _ _ _ _ _
  · simp only [resolve, hg]
    simp [go_sem]
  · intro f' hf'; simp [Target.leads] at hf'; subst hf'; exact hFg
  · simp [invoke, go_sem, eg]
  ·
    have nD : ¬ own w.heap.size := fun h => Nat.lt_irrefl _ (hfx _ (hof _ h))
    have nL : ¬ own (w.heap.size + 1) := fun h => Nat.not_succ_lt_self (hfx _ (hof _ h))
    have fD : ∀ k, fixed k → k ≠ w.heap.size + 1 := fun k hk e => Nat.not_succ_lt_self (e ▸ hfx k hk)
    refine (hseq (w.heap.size + 1)
      (fun pre W => I pre W ∧ W.heap[w.heap.size + 1]? = some (.loop (rec .ready none)) ∧ W.heap[w.heap.size]? = some (.deferred (some [])))
      (fun pre W => ∃ c, Ix c pre W ∧ W.heap[w.heap.size + 1]? = some (.loop (rec .done (some c))) ∧ W.heap[w.heap.size]? = some (.deferred (some [])))
      W1 hs1
      (fun s A B hs hk => ⟨hI s A B hs.1 (hk.mono fun _ _ h => .inl h), blk_keeps hk hs.2.1 nL, blk_keeps hk hs.2.2 nD⟩)
      (fun s A B hs hk => by
        obtain ⟨c, hc, hl, hd⟩ := hs
        exact ⟨c, hIx c s A B hc (hk.mono fun _ _ h => .inl h), blk_keeps hk hl nL, blk_keeps hk hd nD⟩)
      ?_ ⟨hI1, hL1, hK1⟩).mono ?_
    ·
      rintro pre x W ⟨hi, hl, hk⟩ hpre
      have hlt : w.heap.size + 1 < W.heap.size := blk_lt hl
      have hy := run_yield (P := P) (args := #[enc x]) hl (by rw [hrec]; simp [hps])
      rw [hrec] at hy
      refine ⟨fn, _, assign, body, hy, roundIn_of_wpIn hfn (hassign _ x W _ ⟨_, run_beginRound hl (by rw [hrec]), ?_⟩)⟩
      have hkp : ∀ (V : World) (o : Obj), Keeps (fun k => own k ∨ k = w.heap.size ∨ k = w.heap.size + 1) V (V.putObj (w.heap.size + 1) o) := fun V o => Keeps.putObj _ _ _ _ (.inr (.inr rfl))
      have hsp : ∀ (V : World) (o : Obj), Same fixed V (V.putObj (w.heap.size + 1) o) := fun V o k hk => World.putObj_heap_other (fD k hk)
      have hl2 : (W.putObj (w.heap.size + 1) (.loop { rec .ready none with state := .busy })).heap[w.heap.size + 1]? = some (.loop { rec .ready none with state := .busy }) := World.putObj_heap_same hlt
      have hk2 : (W.putObj (w.heap.size + 1) (.loop { rec .ready none with state := .busy })).heap[w.heap.size]? = some (.deferred (some [])) := (World.putObj_heap_other (by omega)).trans hk
      refine wpIn_mono (hbody pre x _ (hI _ _ _ hi (hkp _ _)) hpre (by rw [World.putObj_size]; exact hlt)) ?_
      have fin : ∀ (jump : Option Code) (W3 : World), Same (fun k => fixed k ∨ k = w.heap.size ∨ k = w.heap.size + 1) (W.putObj (w.heap.size + 1) (.loop { rec .ready none with state := .busy })) W3 →
          (Instr.endRound (w.heap.size + 1) jump).run P W3 = .ok (.bool jump.isNone) (W3.putObj (w.heap.size + 1) (.loop (rec (if jump.isNone then .ready else .done) jump))) ∧
          (W3.putObj (w.heap.size + 1) (.loop (rec (if jump.isNone then .ready else .done) jump))).heap[w.heap.size + 1]? = some (.loop (rec (if jump.isNone then .ready else .done) jump)) ∧
          (W3.putObj (w.heap.size + 1) (.loop (rec (if jump.isNone then .ready else .done) jump))).heap[w.heap.size]? = some (.deferred (some [])) := fun jump W3 hk3 => by
        have hl3 := (hk3 _ (.inr (.inr rfl))).trans hl2
        have := run_endRound (P := P) jump hl3
        rw [hrec] at this ⊢
        exact ⟨this, World.putObj_heap_same (blk_lt hl3), (World.putObj_heap_other (by omega)).trans ((hk3 _ (.inr (.inl rfl))).trans hk2)⟩
      rintro e a3 W3 hp
      cases e with
      | normal =>
        obtain ⟨hk3, hi3⟩ := hp
        obtain ⟨hr, hl4, hk4⟩ := fin none W3 hk3
        exact ⟨_, _, hr, .inl ⟨rfl, ⟨hI _ _ _ hi3 (hkp _ _), hl4, hk4⟩, ((hsp _ _).trans (hk3.mono fun k h => .inl h)).trans (hsp _ _)⟩⟩
      | ret =>
        obtain ⟨hk3, hi3⟩ := hp
        obtain ⟨hr, hl4, hk4⟩ := fin (some .ret) W3 hk3
        exact ⟨_, _, hr, .inr ⟨rfl, .ret, hIx _ _ _ _ hi3 (hkp _ _), hl4, hk4⟩⟩
      | exit id =>
        obtain ⟨hk3, hi3⟩ := hp
        obtain ⟨hr, hl4, hk4⟩ := fin (some (.exit id)) W3 hk3
        exact ⟨_, _, hr, .inr ⟨rfl, .exit id, hIx _ _ _ _ hi3 (hkp _ _), hl4, hk4⟩⟩
      | goto t =>
        obtain ⟨hk3, hi3⟩ := hp
        obtain ⟨hr, hl4, hk4⟩ := fin (some (.goto t)) W3 hk3
        exact ⟨_, _, hr, .inr ⟨rfl, .goto t, hIx _ _ _ _ hi3 (hkp _ _), hl4, hk4⟩⟩
      | panic ch => exact hp.elim
      | outgrown => exact hp.elim
    ·
      have hkp : ∀ (V : World) (o : Obj), Keeps (fun k => own k ∨ k = w.heap.size ∨ k = w.heap.size + 1) V (V.putObj (w.heap.size + 1) o) := fun V o => Keeps.putObj _ _ _ _ (.inr (.inr rfl))
      rintro e W2 ⟨⟨v, rfl⟩, (⟨hi, hl, hk⟩ | ⟨pre, hpre, c, hi, hl, hk⟩)⟩
      · exact ⟨none, _, by have := run_endLoop (P := P) hl (by rw [hrec]; simp); rw [hrec] at this; exact this, hdone _ (hI _ _ _ hi (hkp _ _)) ((World.putObj_heap_other (by omega)).trans hk)⟩
      · exact ⟨some c, _, by have := run_endLoop (P := P) hl (by rw [hrec]; simp); rw [hrec] at this; exact this, hstop c pre _ hpre (hIx _ _ _ _ hi (hkp _ _)) ((World.putObj_heap_other (by omega)).trans hk)⟩
def markOf (D : Nat) : Deferred := { target := .collected D, args := #[] }
def Marks (Ds : List Nat) (w : World) : Prop := Ds.Nodup ∧ ∀ D ∈ Ds, w.heap[D]? = some (.deferred (some []))
theorem Marks.nil (w : World) : Marks [] w := ⟨List.nodup_nil, fun _ h => by cases h⟩
theorem Marks.keeps {Ds : List Nat} {A B : World} {G : Nat → Prop} (h : Marks Ds A) (hk : Keeps G A B) (hG : ∀ D ∈ Ds, ¬ G D) : Marks Ds B :=
  ⟨h.1, fun D hD => blk_keeps hk (h.2 D hD) (hG D hD)⟩
theorem Marks.lt {Ds : List Nat} {A : World} (h : Marks Ds A) : ∀ D ∈ Ds, D < A.heap.size := fun D hD => blk_lt (h.2 D hD)
theorem leavesM {fn : Func} {tmps : Array Value} {R : Ending → World → Prop} {G : Nat → Prop} : ∀ (Ds : List Nat) (w : World), Marks Ds w → (∀ D ∈ Ds, G D) →
    (∀ w', Keeps G w w' → ∃ v, (results fn tmps).run P w' = .ok v w' ∧ R (.returned v) w') → LeavesInM F n P fn tmps R (Ds.map markOf) .returning w
  | [], w, _, _, h => h w (Keeps.refl _ w)
  | D :: Ds, w, hm, hG, h => by
    have hD := hm.2 D List.mem_cons_self
    have hk : Keeps G w (w.putObj D (.deferred none)) := Keeps.putObj _ _ _ _ (hG D List.mem_cons_self)
    refine ⟨by simp, .inl ⟨D, _, rfl, run_takeDeferred hD, leavesM Ds _ ⟨(List.nodup_cons.1 hm.1).2, fun E hE => ?_⟩ (fun E hE => hG E (List.mem_cons_of_mem _ hE)) (fun w' hk' => h w' (hk.trans hk'))⟩⟩
    have hne : E ≠ D := fun e => (List.nodup_cons.1 hm.1).1 (e ▸ hE)
    exact (World.putObj_heap_other hne).trans (hm.2 E (List.mem_cons_of_mem _ hE))
end Go.Proofs.YtebnflpanfmicaaGreatDoor
namespace Go.Proofs.YtebnflpanfmicaaGreatDoor
open Go.RowKit
def Tab (w : World) : Prop := ∀ i : Nat, i < 32 → w.cell? ⟨0, i, none⟩ = some (.int .u8 (tzt i : Nat))
theorem Tab.keeps {F : Nat → Prop} {A B : World} (h : Tab A) (hk : Keeps F A B) (hF : ¬ F 0) : Tab B := fun i hi => hk.cell (h i hi) hF
theorem Tab.same {F : Nat → Prop} {A B : World} (h : Tab A) (hk : Same F A B) (hF : F 0) : Tab B := fun i hi => (World.cell?_of_block (hk 0 hF)).trans (h i hi)
theorem Tab.pos {A : World} (h : Tab A) : 0 < A.heap.size := World.block_lt_of_cell? A ⟨0, 0, none⟩ (h 0 (by decide))
theorem Tab.below {A B : World} (h : Tab A) (hb : Below A.heap.size A B) : Tab B := h.keeps (Keeps.of_below (F := fun _ => False) hb) (fun h => h)
theorem Tab.drewN {A : World} (h : Tab A) (n : Nat) : Tab (A.drewN n) := fun i hi => h i hi
theorem Tab.alloc {A : World} (h : Tab A) (o : Obj) : Tab (A.alloc o) := h.keeps (Keeps.alloc (fun _ => False) A o) (fun h => h)
theorem tz_facts (m : Nat) (hm : m < 65536) (h0 : m ≠ 0) : ∃ lo j : Nat, bits .and .u16 (m : Int) (IntKind.u16.wrap (-(m : Int))) = (lo : Int) ∧ lo < 65536 ∧ j = lo * 125613361 % 4294967296 / 134217728 ∧ j < 32 ∧ tzt j = tzOf m :=
  ⟨lowb m, tzi m, lowb_u16 m hm h0, Nat.lt_of_le_of_lt Nat.and_le_left hm, rfl, tzi_lt m, rfl⟩
set_option maxHeartbeats 1000000 in
theorem tz_calls (m : Nat) (hm : m < 65536) (h0 : m ≠ 0) (w : World) (ht : Tab w) :
    Calls Tryz.prog 242 #[.int .u16 m] w fun e w' => e = .returned (.int .i64 (tzOf m : Nat)) ∧ w' = w := by
  have a0 : (m : Int) ≠ 0 := by omega
  have a1 : ((m : Int) == 0) = false := by simpa using h0
  obtain ⟨lo, j, el, hlo, ej, hi, hT⟩ := tz_facts m hm h0
  have hc := ht j hi
  have h15 := (tz_at m hm h0).2.2
  rw [hT] at hc
  generalize tzOf m = t at hc h15 ⊢
  clear hT
  subst ej
  go_enter Tryz.func242, Tryz.ntmps242
  go_wp2_with fail
  go_ret
  exact ⟨rfl, rfl⟩
set_option maxHeartbeats 1000000 in
theorem has_calls (m : Nat) (i : Int) (hm : m < 65536) (w : World) :
    Calls Tryz.prog 214 #[.int .u16 m, .int .i64 i] w fun e w' => e = .returned (.bool (hasI m i)) ∧ w' = w := by
  unfold hasI
  go_enter Tryz.func214, Tryz.ntmps214
  by_cases h1 : 0 ≤ i
  · by_cases h2 : i < 16
    · have e : (bits .and .u16 ((m : Int) / 2 ^ i.toNat) 1 == 1) = has m i.toNat := and1_u16 m i.toNat hm
      rw [decide_eq_true h1, Bool.true_and]
      go_wp2_with fail
      go_ret
      exact ⟨rfl, rfl⟩
    · have e : has m i.toNat = false := by
        cases e : has m i.toNat with
        | false => rfl
        | true => have := has_lt (n := 16) hm e; omega
      rw [e, Bool.and_false]
      have g1 : 16 ≤ i := by omega
      go_wp2_with fail
      go_ret
      exact ⟨rfl, rfl⟩
  · rw [decide_eq_false h1, Bool.false_and]
    have g1 : i < 0 := by omega
    go_wp2_with fail
    go_ret
    exact ⟨rfl, rfl⟩
set_option maxHeartbeats 1000000 in
theorem below_calls (m k : Nat) (hm : m < 65536) (hk : k ≤ 16) (w : World) :
    Calls Tryz.prog 213 #[.int .u16 m, .int .i64 k] w fun e w' => e = .returned (.int .u16 (m % 2 ^ k : Nat)) ∧ w' = w := by
  have e := below_u16 m k hm hk
  have a0 : (0 : Int) ≤ k := by omega
  have e1 : ((k : Int)).toNat = k := by omega
  go_enter Tryz.func213, Tryz.ntmps213
  go_wp2_with fail
  have e2 : ((m : Int) % 2 ^ k) = ((m % 2 ^ k : Nat) : Int) := by rw [Int.natCast_emod, Int.natCast_pow]; rfl
  rw [e2]
  go_ret
  exact ⟨rfl, rfl⟩
end Go.Proofs.YtebnflpanfmicaaGreatDoor
