/-
  Run refused, walked.
-/
import Derived.Test.YtlfohlgooomdfaaDoorIslipRun
set_option linter.unusedVariables false
set_option linter.unusedSimpArgs false
namespace Go.Proofs.YtlfohlgooomdfaaDoor
open Go.RowKit Go.Sort

set_option maxRecDepth 100000 in
set_option maxHeartbeats 4000000 in
theorem run_no (G A : List Nat) (n b g a k : Nat) (rounds : Int) (vA : Option Addr) (vc : Nat) (w : World) (hA : Arb w b n G A g a) (h : k ≠ n ∨ rounds < 1 ∨ 16 < rounds) :
    Calls Tryd.prog 16 #[.pointer (some ⟨b, 0, none⟩), .slice vA k vc, .int .i64 rounds] w fun e w' => e = .returned (.slice none 0 0) ∧ w' = w := by
  obtain ⟨x0, x1⟩ := hA.cells
  go_enter Tryd.func16, Tryd.ntmps16
  go_wp2_with fail
  apply wp_scope_straight
  by_cases h1 : k = n
  · subst h1
    by_cases h2 : rounds < 1
    · go_wp2_with fail
      try rw [Exit.noGoto_ret]
      go_ret
      exact ⟨rfl, rfl⟩
    · have h3 : 16 < rounds := by omega
      go_wp2_with fail
      try rw [Exit.noGoto_ret]
      go_ret
      exact ⟨rfl, rfl⟩
  · have h2 : ¬ (k : Int) = (n : Int) := by omega
    go_wp2_with fail
    try rw [Exit.noGoto_ret]
    go_ret
    exact ⟨rfl, rfl⟩
end Go.Proofs.YtlfohlgooomdfaaDoor
