/-
  The law MaskTells, walked.
-/
import Derived.Test.YtjhhkdkemgkcgaaDoorMaskTk
set_option linter.unusedVariables false
set_option linter.unusedSimpArgs false
namespace Go.Proofs.YtjhhkdkemgkcgaaDoor
open Go.RowKit

set_option maxHeartbeats 2000000 in
theorem maskTells_walk (a0 a1 : Int) (w0 : (Lit.int .u16 a0).wf = true) (w1 : (Lit.int .i64 a1).wf = true) (W : World) (hT : Tab W) :
    Calls Tryd.prog 5 #[.int .u16 a0, .int .i64 a1] W fun e w' => e = .returned (.bool true) ∧ Below W.heap.size W w' := by
  obtain ⟨m, rfl, hm⟩ := u16_nat w0
  clear w0 w1
  go_enter Tryd.func5, Tryd.ntmps5
  go_wp2_with fail
  refine (known_calls W hT).mono ?_
  rintro e A ⟨rfl, hk⟩
  go_wp2_with fail
  refine (has_calls m a1 hm A).mono ?_
  rintro e w' ⟨rfl, hw⟩; subst w'
  go_wp2_with fail
  refine (rhas_calls m a1 hm A).mono ?_
  rintro e w'' ⟨rfl, hw⟩; subst w''
  generalize hasI m a1 = b
  have hbb : (b == b) = true := by cases b <;> rfl
  go_wp2_with fail
  refine (count_calls m hm A).mono ?_
  rintro e w2 ⟨rfl, n, rfl⟩
  replace hk : Keeps (fun _ => False) W (A.drewN n) := hk.trans (Keeps.drewN _ _ _)
  generalize A.drewN n = B at hk
  go_wp2_with fail
  refine (rcount_calls m hm B).mono ?_
  rintro e C ⟨rfl, hk2⟩
  replace hk := hk.trans hk2
  clear hk2
  go_wp2_with fail
  refine (bits_calls m hm C (hT.keeps hk (fun h => h))).mono ?_
  rintro e D ⟨u, rfl, hq, hk2⟩
  replace hk := hk.trans hk2
  clear hk2
  go_wp2_with fail
  refine (rbits_calls m hm D).mono ?_
  rintro e E ⟨v, rfl, hq2, hk2⟩
  replace hk := hk.trans hk2
  replace hq := hq.keeps hk2 (fun _ _ h => h)
  clear hk2
  go_wp2_with fail
  refine (same_calls u v (bitsOf m) E hq hq2).mono ?_
  rintro e G ⟨rfl, hk2⟩
  replace hk := hk.trans hk2
  go_wp2_with fail
  go_ret
  exact ⟨rfl, keeps_below hk⟩

end Go.Proofs.YtjhhkdkemgkcgaaDoor
