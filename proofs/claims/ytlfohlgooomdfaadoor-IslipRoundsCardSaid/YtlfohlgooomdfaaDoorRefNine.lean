/-
  The document's answer on masks, walked: Has, Bit, Pick.
-/
import Derived.Test.YtlfohlgooomdfaaDoorProg
import Derived.Test.YtlfohlgooomdfaaDoorMaskPure
import Derived.Test.YtlfohlgooomdfaaDoorBase
set_option linter.unusedVariables false
set_option linter.unusedSimpArgs false
namespace Go.Proofs.YtlfohlgooomdfaaDoor
open Go.RowKit

theorem has_end (x : Nat) : ((x : Int) % 2 == 1) = has x 0 := by
  unfold has
  rw [Nat.pow_zero, Nat.div_one, Bool.eq_iff_iff, beq_iff_eq, beq_iff_eq]; omega
theorem has_div (m j : Nat) : has (m / 2 ^ j) 0 = has m j := by unfold has; rw [Nat.pow_zero, Nat.div_one]
set_option maxHeartbeats 1000000 in
theorem rhas_calls (m : Nat) (i : Int) (hm : m < 65536) (w : World) :
    Calls Tryd.prog 21 #[.int .u16 m, .int .i64 i] w fun e w' => e = .returned (.bool (hasI m i)) ∧ w' = w := by
  by_cases h : 0 ≤ i ∧ i ≤ 15
  · obtain ⟨n, rfl⟩ : ∃ n : Nat, i = n := ⟨i.toNat, by omega⟩
    rw [hasI_nat]
    obtain ⟨h1, h2⟩ := h
    go_enter Tryd.func21, Tryd.ntmps21
    go_wp2_with fail
    go_loop [0, 5] (fun v k => ∃ j x : Nat, j ≤ n ∧ x < 65536 ∧ m / 2 ^ j = x ∧ k = .int .i64 (j : Int) ∧ v = .int .u16 (x : Int)) (fun _ k => n - (intOf k).toNat)
    case atStart => exact ⟨0, m, Nat.zero_le _, hm, by simp, rfl, rfl⟩
    case round =>
      obtain ⟨j, x, hj, hx, he, rfl, rfl⟩ := hrel
      by_cases hjn : j < n
      · have hjj : (j : Int) < (n : Int) := by omega
        go_wp2_with fail
        go_round
        case rel => exact ⟨j + 1, x / 2, by omega, by omega, by rw [← he, Nat.div_div_eq_div_mul, ← Nat.pow_succ], by simp, by simp⟩
        case measure => simp [intOf]; omega
      · obtain rfl : j = n := by omega
        have hend := has_end x
        rw [← he, has_div, he] at hend
        go_wp2_with fail
        go_ret
        exact ⟨rfl, rfl⟩
  · rw [hasI_out hm (by omega)]
    go_enter Tryd.func21, Tryd.ntmps21
    go_wp2_with fail
    all_goals first
      | (exfalso; omega)
      | (go_ret; exact ⟨rfl, rfl⟩)

set_option maxHeartbeats 1000000 in
theorem rbit_calls (n : Nat) (hn : n < 16) (w : World) :
    Calls Tryd.prog 15 #[.int .i64 n] w fun e w' => e = .returned (.int .u16 (2 ^ n : Nat)) ∧ w' = w := by
  go_enter Tryd.func15, Tryd.ntmps15
  go_wp2_with fail
  go_loop [3, 4] (fun v k => ∃ j x : Nat, j ≤ n ∧ 2 ^ j = x ∧ k = .int .i64 (j : Int) ∧ v = .int .u16 (x : Int)) (fun _ k => n - (intOf k).toNat)
  case atStart => exact ⟨0, 1, Nat.zero_le _, rfl, rfl, rfl⟩
  case round =>
    obtain ⟨j, x, hj, he, rfl, rfl⟩ := hrel
    by_cases hjn : j < n
    · have hjj : (j : Int) < (n : Int) := by omega
      have hx : x < 32768 := by rw [← he]; exact Nat.lt_of_le_of_lt (Nat.pow_le_pow_right (by decide) (show j ≤ 14 by omega)) (by decide)
      go_wp2_with fail
      go_round
      case rel => exact ⟨j + 1, x * 2, by omega, by rw [← he, Nat.pow_succ], by simp, by simp⟩
      case measure => simp [intOf]; omega
    · obtain rfl : j = n := by omega
      go_wp2_with fail
      go_ret
      exact ⟨rfl, rfl⟩

set_option maxHeartbeats 2000000 in
theorem rpick_calls (m : Nat) (f n : Int) (hm : m < 65536) (w : World) :
    Calls Tryd.prog 32 #[.int .u16 m, .int .i64 f, .int .i64 n] w fun e w' => e = .returned (.int .i64 (pickI m f n)) ∧ w' = w := by
  by_cases hr : 1 ≤ n ∧ n ≤ 16 ∧ 0 ≤ f ∧ f < n
  · have epk : pickI m f n = pickOf m f.toNat n.toNat := by unfold pickI; rw [if_pos hr]
    rw [epk]
    clear epk
    obtain ⟨h1, h2, h3, h4⟩ := hr
    have ha : f.toNat < n.toNat := by omega
    have p1 := fun k => @pick_at m f.toNat n.toNat k ha
    have p2 := @pick_no m f.toNat n.toNat ha
    generalize pickOf m f.toNat n.toNat = res at p1 p2 ⊢
    clear ha
    go_enter Tryd.func32, Tryd.ntmps32
    go_wp2_with fail
    go_loop [7] (fun v => ∃ k : Nat, (k : Int) ≤ n ∧ (∀ t, t < k → has m ((f.toNat + t) % n.toNat) = false) ∧ v = .int .i64 (k : Int)) (fun v => n.toNat - (intOf v).toNat)
    case atStart => exact ⟨0, by omega, fun t h => absurd h (Nat.not_lt_zero _), rfl⟩
    case round =>
      obtain ⟨k, hk, hno, rfl⟩ := hrel
      by_cases hkn : (k : Int) < n
      · have q1 := p1 k (by omega) hno
        have hi : (f + (k : Int)).tmod n = (((f.toNat + k) % n.toNat : Nat) : Int) := by
          rw [Int.tmod_eq_emod_of_nonneg (by omega), Int.natCast_emod, Int.natCast_add, Int.toNat_of_nonneg h3, Int.toNat_of_nonneg (by omega)]
        have q2 : has m ((f.toNat + k) % n.toNat) = false → ∀ t, t < k + 1 → has m ((f.toNat + t) % n.toNat) = false := fun h t ht => by
          rcases Nat.lt_or_ge t k with h' | h'
          · exact hno t h'
          · obtain rfl : t = k := by omega
            exact h
        have c1 := rhas_calls m ((f + (k : Int)).tmod n) hm w
        rw [hi, hasI_nat] at c1
        generalize (f.toNat + k) % n.toNat = i at c1 q1 q2 hi
        go_wp2_with fail
        refine c1.mono ?_
        rintro e w' ⟨rfl, rfl⟩
        clear c1
        cases hb : has m i with
        | true =>
          obtain rfl := q1 hb
          clear q1 q2 p1 p2
          go_wp2_with fail
          go_ret
          exact ⟨rfl, rfl⟩
        | false =>
          have q3 := q2 hb
          clear q1 q2 p1 p2
          go_wp2_with fail
          go_round
          case rel => exact ⟨k + 1, by omega, q3, by simp⟩
          case measure => simp [intOf]; omega
      · have := p2 (fun t ht => hno t (by omega))
        subst this
        go_wp2_with fail
        go_ret
        exact ⟨rfl, rfl⟩
  · have epk : pickI m f n = -1 := by unfold pickI; rw [if_neg hr]
    rw [epk]
    clear epk
    go_enter Tryd.func32, Tryd.ntmps32
    go_wp2_with fail
    all_goals first
      | (exfalso; omega)
      | (go_ret; exact ⟨rfl, rfl⟩)
end Go.Proofs.YtlfohlgooomdfaaDoor
