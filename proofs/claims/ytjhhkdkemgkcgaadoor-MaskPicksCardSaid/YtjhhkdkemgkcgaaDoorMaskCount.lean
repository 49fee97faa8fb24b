/-
  Count, walked.
-/
import Derived.Test.YtjhhkdkemgkcgaaDoorMaskW1
import Derived.Lib.BitFns
import Derived.Lib.Tables
set_option linter.unusedVariables false
set_option linter.unusedSimpArgs false
namespace Go.Proofs.YtjhhkdkemgkcgaaDoor
open Go.RowKit

theorem and255 (m : Int) (h0 : 0 ≤ m) (h1 : m < 65536) : bits .and .u16 m 255 = m % 256 := bits_mask .u16 16 (by decide) wraps_u16 8 (by decide) m h0 h1
theorem pop_brute : allB (fun a => Nat.beq ((Lib.pop8tab[a]?.getD 0).toNat) (cnt8 a)) 256 = true := by kernel_rfl
theorem pop_at (i : Nat) (hi : i < 256) : (Lib.pop8tab[i]?.getD 0).toNat = cnt8 i := Nat.eq_of_beq_eq_true (allB_at pop_brute i hi)
theorem pop_get (i : Nat) (hi : i < 256) (h : i < Lib.pop8tab.size) : Lib.pop8tab[i].toNat = cnt8 i := by
  have := pop_at i hi
  rwa [ByteArray.getElem?_lt' _ _ h, Option.getD_some] at this
theorem cnt8_le (m : Nat) : cnt8 m ≤ 8 := by unfold cnt8; omega
theorem ones_sum (m : Int) (h0 : 0 ≤ m) (h1 : m < 65536) (h : (m / 256).toNat < Lib.pop8tab.size) : ((Lib.pop8tab[(m / 256).toNat].toNat : Int) + Lib.pop8 (m % 256)) % 256 = ((bitsOf m.toNat).length : Int) := by
  rw [pop_get _ (by omega) h, bitsOf_length, Lib.pop8, pop_at _ (by omega)]
  have e1 : (m / 256).toNat = m.toNat / 256 := by omega
  have e2 : (m % 256).toNat = m.toNat % 256 := by omega
  rw [e1, e2]
  have := cnt8_le (m.toNat / 256)
  have := cnt8_le (m.toNat % 256)
  omega

set_option maxHeartbeats 400000 in
set_option maxRecDepth 100000 in
theorem ones_calls (m : Int) (w : World) (h0 : 0 ≤ m) (h1 : m < 65536) :
    Calls Tryd.prog 28 #[.int .u16 m] w fun e w' => e = .returned (.int .i64 (bitsOf m.toNat).length) ∧ ∃ n, w' = w.drewN n := by
  have e1 := and255 m h0 h1
  have a0 : 0 ≤ m / 256 := by omega
  have a1 : m / 256 < 256 := by omega
  have sz : (Lib.pop8tab.size : Int) = 256 := by kernel_rfl
  have a2 : m / 256 < (Lib.pop8tab.size : Int) := by omega
  have b2 : m % 256 < (Lib.pop8tab.size : Int) := by omega
  clear sz
  have b0 : 0 ≤ m % 256 := by omega
  have b1 : m % 256 < 256 := by omega
  go_enter Tryd.func28, Tryd.ntmps28
  go_wp2
  go_quiet (fail)
  go_wp2
  rw [ones_sum m h0 h1]
  go_ret
  exact ⟨rfl, nq, rfl⟩

/-- Count. -/
theorem count_calls (m : Nat) (hm : m < 65536) (w : World) :
    Calls Tryd.prog 17 #[.int .u16 m] w fun e w' => e = .returned (.int .i64 (bitsOf m).length) ∧ ∃ n, w' = w.drewN n := by
  go_enter Tryd.func17, Tryd.ntmps17
  go_wp2_with fail
  refine (ones_calls m w (by omega) (by omega)).mono ?_
  rintro e w' ⟨rfl, n, rfl⟩
  rw [Int.toNat_natCast]
  go_wp2_with fail
  go_ret
  exact ⟨rfl, n, rfl⟩
end Go.Proofs.YtjhhkdkemgkcgaaDoor
