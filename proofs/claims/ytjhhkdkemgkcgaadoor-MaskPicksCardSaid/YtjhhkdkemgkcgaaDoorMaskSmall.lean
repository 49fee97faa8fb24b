/-
  The laws' own small functions, walked: same, alike, known.
-/
import Derived.Test.YtjhhkdkemgkcgaaDoorMaskPick
import Derived.Test.YtjhhkdkemgkcgaaDoorMaskTurn
import Derived.Test.YtjhhkdkemgkcgaaDoorMaskBits
import Derived.Test.YtjhhkdkemgkcgaaDoorMaskCount
import Derived.Test.YtjhhkdkemgkcgaaDoorRefTurn
set_option linter.unusedVariables false
set_option linter.unusedSimpArgs false
namespace Go.Proofs.YtjhhkdkemgkcgaaDoor
open Go.RowKit

set_option maxHeartbeats 2000000 in
/-- Two slices that hold the same. -/
theorem same_calls (a b : Value) (xs : List Nat) (w : World) (ha : QS w 3 1 a xs.length (xs.map encI)) (hb : QS w 3 1 b xs.length (xs.map encI)) :
    Calls Tryd.prog 19 #[a, b] w fun e w' => e = .returned (.bool true) ∧ Keeps (fun _ => False) w w' := by
  obtain ⟨A, cap, hsa, hm1, hm2⟩ := ha.shape
  have hmx : (xs.length : Int) ≤ 9223372036854775807 := by simp only [maxLen] at hm2; omega
  clear hm1 hm2
  obtain ⟨B, cap', hsb, _, _⟩ := hb.shape
  subst hsa hsb
  go_enter Tryd.func19, Tryd.ntmps19
  go_wp2_with fail
  go_loopw [5] (fun v wr => ∃ (k : Nat) (nq : Nat), k ≤ xs.length ∧ v = .int .i64 (k : Int) ∧ wr = w.drewN nq) (fun v _ => xs.length - (intOf v).toNat)
  case atStart => exact ⟨0, 0, Nat.zero_le _, rfl, rfl⟩
  case round =>
    obtain ⟨k, nq, hk, rfl, rfl⟩ := hrel
    by_cases hkn : k < xs.length
    · obtain ⟨g, off, c, hg, _, hcell, _⟩ := ha.cell (by omega)
      obtain ⟨g', off', c', hg', _, hcell', _⟩ := hb.cell (by omega)
      injection hg with hA _ hC
      injection hg' with hA' _ hC'
      subst hA hA' hC hC'
      have hx : (xs.map encI)[k]? = some (.int .i64 (xs[k] : Nat)) := by rw [List.getElem?_map, List.getElem?_eq_getElem hkn]; rfl
      have h1 := hcell k _ hx
      have h2 := hcell' k _ hx
      clear hcell hcell' hx
      generalize xs[k] = x at h1 h2
      have hbig : (k : Int) + 1 ≤ 9223372036854775807 := by omega
      have hkk : (k : Int) < (xs.length : Int) := by omega
      have hx0 : ((x : Int) != (x : Int)) = false := by simp
      go_wp2_with fail
      go_quiet (fail)
      go_wp2_with fail
      go_roundw
      case rel => exact ⟨k + 1, _, by omega, by simp, rfl⟩
      case measure => simp [intOf]; omega
    · obtain rfl : k = xs.length := by omega
      go_wp2_with fail
      go_ret
      exact ⟨rfl, Keeps.drewN _ _ _⟩

set_option maxHeartbeats 2000000 in
/-- Two slices that hold the same. -/
theorem alike_calls (a b : Value) (xs : List Nat) (w : World) (ha : QS w 22 1 a xs.length (xs.map encU)) (hb : QS w 22 1 b xs.length (xs.map encU)) :
    Calls Tryd.prog 23 #[a, b] w fun e w' => e = .returned (.bool true) ∧ Keeps (fun _ => False) w w' := by
  obtain ⟨A, cap, hsa, hm1, hm2⟩ := ha.shape
  have hmx : (xs.length : Int) ≤ 9223372036854775807 := by simp only [maxLen] at hm2; omega
  clear hm1 hm2
  obtain ⟨B, cap', hsb, _, _⟩ := hb.shape
  subst hsa hsb
  go_enter Tryd.func23, Tryd.ntmps23
  go_wp2_with fail
  go_loopw [5] (fun v wr => ∃ (k : Nat) (nq : Nat), k ≤ xs.length ∧ v = .int .i64 (k : Int) ∧ wr = w.drewN nq) (fun v _ => xs.length - (intOf v).toNat)
  case atStart => exact ⟨0, 0, Nat.zero_le _, rfl, rfl⟩
  case round =>
    obtain ⟨k, nq, hk, rfl, rfl⟩ := hrel
    by_cases hkn : k < xs.length
    · obtain ⟨g, off, c, hg, _, hcell, _⟩ := ha.cell (by omega)
      obtain ⟨g', off', c', hg', _, hcell', _⟩ := hb.cell (by omega)
      injection hg with hA _ hC
      injection hg' with hA' _ hC'
      subst hA hA' hC hC'
      have hx : (xs.map encU)[k]? = some (.int .u16 (xs[k] : Nat)) := by rw [List.getElem?_map, List.getElem?_eq_getElem hkn]; rfl
      have h1 := hcell k _ hx
      have h2 := hcell' k _ hx
      clear hcell hcell' hx
      generalize xs[k] = x at h1 h2
      have hbig : (k : Int) + 1 ≤ 9223372036854775807 := by omega
      have hkk : (k : Int) < (xs.length : Int) := by omega
      have hx0 : ((x : Int) != (x : Int)) = false := by simp
      go_wp2_with fail
      go_quiet (fail)
      go_wp2_with fail
      go_roundw
      case rel => exact ⟨k + 1, _, by omega, by simp, rfl⟩
      case measure => simp [intOf]; omega
    · obtain rfl : k = xs.length := by omega
      go_wp2_with fail
      go_ret
      exact ⟨rfl, Keeps.drewN _ _ _⟩

theorem k1 : pickI 22 3 5 = 4 := by decide +kernel
theorem k2 : pickI 22 0 5 = 1 := by decide +kernel
theorem k3 : (bitsOf 22).length = 3 := by decide +kernel
theorem k4 : hasI 22 4 = true := by decide +kernel
theorem k5 : (turnI [1] 2).length = 2 := by decide +kernel

set_option maxHeartbeats 2000000 in
/-- What each law asks of a program beside. -/
theorem known_calls (w : World) (hT : Tab w) :
    Calls Tryd.prog 11 #[] w fun e w' => e = .returned (.bool true) ∧ Keeps (fun _ => False) w w' := by
  go_enter Tryd.func11, Tryd.ntmps11
  go_wp2_with fail
  refine (pick_calls 22 3 5 (by decide) w hT).mono ?_
  rintro e w1 ⟨rfl, q1⟩
  rw [k1]
  go_wp2_with fail
  refine (pick_calls 22 0 5 (by decide) w1 (hT.keeps q1 (fun h => h))).mono ?_
  rintro e w2 ⟨rfl, q2⟩
  replace q2 := q1.trans q2
  clear q1
  rw [k2]
  go_wp2_with fail
  refine (count_calls 22 (by decide) w2).mono ?_
  rintro e w3 ⟨rfl, n, rfl⟩
  rw [k3]
  replace q2 : Keeps (fun _ => False) w (w2.drewN n) := q2.trans (Keeps.drewN _ _ _)
  generalize w2.drewN n = w3 at q2
  go_wp2_with fail
  refine (has_calls 22 4 (by decide) w3).mono ?_
  rintro e w' ⟨rfl, rfl⟩
  rw [k4]
  go_wp2_with fail
  refine (bits_calls 22 (by decide) _ (hT.keeps q2 (fun h => h))).mono ?_
  rintro e w4 ⟨v, rfl, hq, q4⟩
  rw [k3] at hq
  obtain ⟨A, cap, rfl, _, _⟩ := hq.shape
  replace q4 := q2.trans q4
  clear q2 hq
  go_wp2_with fail
  have q5 : Keeps (fun _ => False) w (w4.alloc (.cells #[encU 1] 22)) := q4.trans (Keeps.alloc _ _ _)
  refine (turn_calls (.slice (some ⟨w4.heap.size, 0, none⟩) 1 1) [1] 2 (w4.alloc (.cells #[encU 1] 22)) (hT.keeps q5 (fun h => h)) (by intro x hx; simp at hx; omega)
    (QS.reads (e := 22) ⟨rfl, .inr ⟨w4.heap.size, 0, 1, _, rfl, blk_new _ _, Nat.le_refl _, by decide, by simp, by intro j hj; match j, hj with | 0, _ => rfl⟩⟩)).mono ?_
  rintro e w5 ⟨u, rfl, hu, q6, _⟩
  rw [k5] at hu
  obtain ⟨A', cap', rfl, _, _⟩ := hu.shape
  have q7 := q5.trans q6
  clear hu q4 q5 q6
  go_wp2_with fail
  go_ret
  exact ⟨rfl, q7⟩

end Go.Proofs.YtjhhkdkemgkcgaaDoor
