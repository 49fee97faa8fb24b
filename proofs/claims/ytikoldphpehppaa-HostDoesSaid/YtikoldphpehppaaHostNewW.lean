/-
  HostNew: the walk over the law.
-/
import Derived.Test.YtikoldphpehppaaHostKnown
import Derived.Test.YtikoldphpehppaaArgs
set_option linter.unusedVariables false
set_option linter.unusedSimpArgs false
namespace Go.Proofs.Ytikoldphpehppaa
open Go.RowKit

theorem bel_of_keeps {w w' : World} (h : Keeps (fun _ => False) w w') : Below w.heap.size w w' := false_below h

set_option maxHeartbeats 1000000 in
theorem hostNew_walk (a0 a1 : Int) (W : World) (w0 : (Lit.int .i64 a0).wf = true) (w1 : (Lit.int .i64 a1).wf = true) :
    Calls Try.prog 3 #[.int .i64 a0, .int .i64 a1] W fun e w' => e = .returned (.bool true) ∧ Below W.heap.size W w' := by
  clear w0 w1
  by_cases hg : 1 ≤ a0 ∧ a0 ≤ 3 ∧ 1 ≤ a1 ∧ a1 ≤ 8
  · obtain ⟨h1, h2, h3, h4⟩ := hg
    go_enter Try.func3, Try.ntmps3
    go_wp2_with fail
    refine (hnew_ok a0 a1 _ h1 h2 h3 h4).mono ?_
    rintro e w1 ⟨rfl, hw1⟩
    have hh := (HostV.new W a0 a1 55 27).qf (q0 := []) (q1 := []) (q2 := []) (q3 := []) rfl rfl rfl rfl
    rw [← hw1] at hh
    have B1 : Below W.heap.size W w1 := by rw [hw1]; exact (Below.refl _ _).alloc (Nat.le_refl _) _
    clear hw1
    go_wp2_with fail
    refine (next_empty _ 0 a0 a1 _ hh h2 (.inr (.inr ⟨by decide, by omega, rfl⟩))).mono ?_
    rintro e w2 ⟨rfl, k2⟩
    have h2' := (hh.keeps k2 (fun _ _ h => h)).keeps (Keeps.alloc (fun _ => False) w2 (.cells #[.int .i64 0, .int .i64 0, .int .i64 0, .int .u32 0] 27)) (fun _ _ h => h)
    have B2 := (bel_false B1 k2).alloc (bel_false B1 k2).size (.cells #[.int .i64 0, .int .i64 0, .int .i64 0, .int .u32 0] 27)
    go_wp2_with fail
    refine (known_any _).mono ?_
    rintro e w3 ⟨rfl, k3⟩
    have h3' := h2'.keeps k3 (fun _ _ h => h)
    have B3 := bel_false B2 k3
    go_wp2_with fail
    refine (waits_as _ 0 a0 a1 _ h3' (by decide) (by omega) h2 0 rfl).mono ?_
    rintro e w4 ⟨rfl, rfl⟩
    go_wp2_with fail
    refine (got_as _ a0 a1 _ h3' [] 0 rfl rfl (by decide)).mono ?_
    rintro e w4 ⟨A, c, rfl, _, k4, _⟩
    have h4' := h3'.keeps k4 (fun _ _ h => h)
    have B4 := bel_false B3 k4
    go_wp2_with fail
    refine (put_bad _ ⟨0, 0, a0, 0⟩ a0 a1 _ h4' (.inr ⟨by show 0 ≤ a0; omega, Int.le_refl _⟩)).mono ?_
    rintro e w5 ⟨rfl, k5⟩
    have h5' := h4'.keeps k5 (fun _ _ h => h)
    have B5 := bel_false B4 k5
    go_wp2_with fail
    refine (put_bad _ ⟨0, 0, -1, 0⟩ a0 a1 _ h5' (.inl (by decide))).mono ?_
    rintro e w6 ⟨rfl, k6⟩
    have B6 := bel_false B5 k6
    go_wp2_with fail
    go_ret
    exact ⟨rfl, B6⟩
  · have hb : a0 < 1 ∨ (1 ≤ a0 ∧ 3 < a0) ∨ (1 ≤ a0 ∧ a0 ≤ 3 ∧ a1 < 1) ∨ (1 ≤ a0 ∧ a0 ≤ 3 ∧ 1 ≤ a1 ∧ 8 < a1) := by omega
    clear hg
    have hb' := Lib.hid hb
    rcases hb with h1 | ⟨h1, h2⟩ | ⟨h1, h2, h3⟩ | ⟨h1, h2, h3, h4⟩
    all_goals
      go_enter Try.func3, Try.ntmps3
      go_wp2_with fail
      refine (hnew_bad a0 a1 _ hb'.out).mono ?_
      rintro e w1 ⟨rfl, rfl⟩
      go_wp2_with fail
      refine (known_any _).mono ?_
      rintro e w3 ⟨rfl, k3⟩
      go_wp2_with fail
      go_ret
      first
        | exact ⟨rfl, bel_of_keeps k3⟩
        | exact ⟨by simp; omega, bel_of_keeps k3⟩

end Go.Proofs.Ytikoldphpehppaa
