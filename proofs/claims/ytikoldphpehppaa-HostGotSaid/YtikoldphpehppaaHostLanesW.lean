/-
  HostLanes: the walk over the law.
-/
import Derived.Test.YtikoldphpehppaaHostNewW
import Derived.OpenShut
set_option linter.unusedVariables false
set_option linter.unusedSimpArgs false
namespace Go.Proofs.Ytikoldphpehppaa
open Go.RowKit

theorem u8_bd {a : Int} (h : (Lit.int .u8 a).wf = true) : 0 ≤ a ∧ a ≤ 255 := bounds_u8 h

/-- The state of a host in the middle of filling one lane. -/
def Fill (w0 w : World) (T E b : Nat) (lanes queue : Int) (xl k : Nat) : Prop :=
  ∃ (S : Nat → Prop) (q : Nat → List Pkt), HostV w S T E b lanes queue q ∧ (q xl).length = k ∧ (∀ j, j < 3 → j ≠ xl → q j = []) ∧ Below w0.heap.size w0 w ∧ (∀ j, S j → w0.heap.size ≤ j)

set_option maxHeartbeats 1000000 in
theorem hostLanes_walk (a0 a1 a2 : Int) (W : World) (w0 : (Lit.int .u8 a0).wf = true) (w1 : (Lit.int .u8 a1).wf = true) (w2 : (Lit.int .u8 a2).wf = true) :
    Calls Try.prog 4 #[.int .u8 a0, .int .u8 a1, .int .u8 a2] W fun e w' => e = .returned (.bool true) ∧ Below W.heap.size W w' := by
  obtain ⟨l0, u0⟩ := u8_bd w0
  obtain ⟨l1, u1⟩ := u8_bd w1
  obtain ⟨l2, u2⟩ := u8_bd w2
  clear w0 w1 w2
  go_enter Try.func4, Try.ntmps4
  go_wp2_with fail
  obtain ⟨n, hn, hn8⟩ : ∃ n : Nat, (n : Int) = 1 + a0 % 8 ∧ n ≤ 8 := ⟨(1 + a0 % 8).toNat, by omega, by omega⟩
  have hn1 : 1 ≤ n := by omega
  obtain ⟨x, hx, hx3⟩ : ∃ x : Nat, (x : Int) = a1 % 3 ∧ x < 3 := ⟨(a1 % 3).toNat, by omega, by omega⟩
  obtain ⟨y, hy, hy3⟩ : ∃ y : Nat, (y : Int) = (a1 % 3 + 1 + a2 % 2) % 3 ∧ y < 3 := ⟨((a1 % 3 + 1 + a2 % 2) % 3).toNat, by omega, by omega⟩
  have hxy : x ≠ y := by omega
  rw [← hn]
  clear hn
  refine (hnew_ok 3 n _ (by omega) (by omega) (by omega) (by omega)).mono ?_
  rintro e w1 ⟨rfl, hw1⟩
  have F1 : Fill W w1 55 27 W.heap.size 3 n x 0 := by
    rw [hw1]
    exact ⟨_, _, HostV.new W 3 n _ _, rfl, fun _ _ _ => rfl, (Below.refl _ _).alloc (Nat.le_refl _) _, fun j h => by omega⟩
  clear hw1
  go_wp2_with fail
  rw [← hy, ← hx]
  clear hx hy
  go_loopw [11] (fun i wr => ∃ k : Nat, k ≤ n ∧ i = .int .i64 k ∧ Fill W wr 55 27 W.heap.size 3 n x k) (fun i wr => n - (intOf i).toNat)
  case atStart => exact ⟨0, by omega, rfl, F1⟩
  case round =>
    obtain ⟨k, hk, rfl, S, q, hh, hq, hz, hB, hS⟩ := hrel
    by_cases hlt : k < n
    · have hq' := Lib.hid hq
      have hz' := Lib.hid hz
      clear hq hz
      go_wp2_with fail
      refine (put_ok _ ⟨0, 0, x, 0⟩ 3 n _ hh (by omega) (by omega) (by show (0 : Int) ≤ x; omega) (by show (x : Int) < 3; omega) (by show (((q (Int.toNat (x : Int))).length : Nat) : Int) < n; rw [Int.toNat_natCast, hq'.out]; omega)).mono ?_
      rintro e w2 ⟨rfl, S2, h2, k2, s2⟩
      have F2 : Fill W w2 55 27 W.heap.size 3 n x (k + 1) :=
        ⟨S2, _, h2, by show (setAt q x _ x).length = _; rw [setAt_same]; simp [hq'.out], fun j hj hne => by show setAt q x _ j = _; rw [setAt_other _ _ _ _ hne]; exact hz'.out j hj hne, bel_keeps hB hS k2, bel_fresh hB hS s2⟩
      clear h2
      go_wp2_with fail
      go_roundw
      case rel => exact ⟨k + 1, by omega, by go_num, F2⟩
      case measure => simp [intOf]; omega
    · obtain rfl : k = n := by omega
      have hq' := Lib.hid hq
      have hz' := Lib.hid hz
      clear hq hz
      go_wp2_with fail
      refine (known_any _).mono ?_
      rintro e w3 ⟨rfl, k3⟩
      have h3 := hh.keeps k3 (fun _ _ h => h)
      have B3 := bel_false hB k3
      go_wp2_with fail
      refine (put_full _ ⟨0, 0, x, 0⟩ 3 k _ h3 (by omega) (by show (0 : Int) ≤ x; omega) (by show (x : Int) < 3; omega) (by show (((q (Int.toNat (x : Int))).length : Nat) : Int) = k; rw [Int.toNat_natCast, hq'.out])).mono ?_
      rintro e w4 ⟨rfl, k4⟩
      have h4 := h3.keeps k4 (fun _ _ h => h)
      have B4 := bel_false B3 k4
      go_wp2_with fail
      refine (put_ok _ ⟨0, 0, y, 0⟩ 3 k _ h4 (by omega) (by omega) (by show (0 : Int) ≤ y; omega) (by show (y : Int) < 3; omega) (by show (((q (Int.toNat (y : Int))).length : Nat) : Int) < k; rw [Int.toNat_natCast, hz'.out y hy3 (Ne.symm hxy)]; simp; omega)).mono ?_
      rintro e w5 ⟨rfl, S5, h5, k5, s5⟩
      have B5 := bel_keeps B4 hS k5
      go_wp2_with fail
      refine (waits_as _ x 3 k _ h5 (by omega) (by omega) (by omega) k (by show ((setAt q y _ x).length : Int) = k; rw [setAt_other _ _ _ _ hxy, hq'.out])).mono ?_
      rintro e w6 ⟨rfl, rfl⟩
      go_wp2_with fail
      refine (waits_as _ y 3 k _ h5 (by omega) (by omega) (by omega) 1 (by show ((setAt q y _ y).length : Int) = 1; rw [setAt_same]; simp [hz'.out y hy3 (Ne.symm hxy)])).mono ?_
      rintro e w6 ⟨rfl, rfl⟩
      go_wp2_with fail
      go_ret
      exact ⟨by simp, B5⟩

end Go.Proofs.Ytikoldphpehppaa
