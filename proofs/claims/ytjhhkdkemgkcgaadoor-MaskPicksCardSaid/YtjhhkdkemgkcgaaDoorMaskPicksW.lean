/-
  The law MaskPicks, walked.
-/
import Derived.Test.YtjhhkdkemgkcgaaDoorMaskTk
import Derived.Sort.AtCall
import Derived.BigQuiet
import Derived.Lib.QuietBelow
set_option linter.unusedVariables false
set_option linter.unusedSimpArgs false
namespace Go.Proofs.YtjhhkdkemgkcgaaDoor
open Go.RowKit Go.Sort

theorem TK.quiet {W : World} {f : FuncId} {args : Array Value} {v : Value} (h : TK W W) (d : Nat) (os : Array Obj) (c : ∀ A, TK W A → Calls Tryd.prog f args A fun e w' => e = .returned v ∧ TK W w') :
    Calls Tryd.prog f args (grow (redrawn W d) os) fun e w' => e = .returned v ∧ ∃ p : Regrown, w' = grow (redrawn W p.d) p.os :=
  (c _ (h.next (Keeps.of_below (below_regrown W d os)))).mono fun _ _ ⟨h1, h2⟩ => ⟨h1, regrown_of_below h2.below⟩

attribute [local irreducible] pickI
set_option maxHeartbeats 8000000 in
theorem maskPicks_walk {W : World} (a0 a1 a2 a3 a4 : Int) (w0 : (Lit.int .u16 a0).wf = true) (w1 : (Lit.int .i64 a1).wf = true) (w2 : (Lit.int .i64 a2).wf = true) (w3 : (Lit.int .u8 a3).wf = true) (w4 : (Lit.int .u8 a4).wf = true) (hT : Tab W) :
    Calls Tryd.prog 6 #[.int .u16 a0, .int .i64 a1, .int .i64 a2, .int .u8 a3, .int .u8 a4] W fun e w' => e = .returned (.bool true) ∧ Below W.heap.size W w' := by
  obtain ⟨m, rfl, hm⟩ := u16_nat w0
  obtain ⟨h3, h3'⟩ := u8_range w3
  obtain ⟨h4, h4'⟩ := u8_range w4
  clear w0 w1 w2 w3 w4
  have ht : TK W W := TK.refl hT
  have hkp : 1 ≤ 1 + a4 % 16 := by omega
  have hnz : ¬ (1 + a4 % 16 = 0) := by omega
  have c0 : ∀ d os, Calls Tryd.prog 11 #[] (grow (redrawn W d) os) fun e w' => e = .returned (.bool true) ∧ ∃ p : Regrown, w' = grow (redrawn W p.d) p.os := fun d os => TK.quiet ht d os (fun A h => known_tk h)
  have c1 : ∀ (f n : Int) d os, Calls Tryd.prog 12 #[.int .u16 m, .int .i64 f, .int .i64 n] (grow (redrawn W d) os) fun e w' => e = .returned (.int .i64 (pickI m f n)) ∧ ∃ p : Regrown, w' = grow (redrawn W p.d) p.os := fun f n d os => TK.quiet ht d os (fun A h => pick_tk m f n hm h)
  have c2 : ∀ (f n : Int) d os, Calls Tryd.prog 22 #[.int .u16 m, .int .i64 f, .int .i64 n] (grow (redrawn W d) os) fun e w' => e = .returned (.int .i64 (pickI m f n)) ∧ ∃ p : Regrown, w' = grow (redrawn W p.d) p.os := fun f n d os => TK.quiet ht d os (fun A h => rpick_tk m f n hm h)
  have C0 := Lib.hid c0
  have C1 := Lib.hid c1
  have C2 := Lib.hid c2
  clear c0 c1 c2 ht hT
  go_enter Tryd.func6, Tryd.ntmps6
  go_wp2_with fail
  refine wp_region_quiet_below (by kernel_rfl) (by kernel_rfl) ?_
  repeat (go_big_quiet_step ((first | (go_at_call 11; exact C0.out _ _) | (go_at_call 12; exact C1.out _ _ _ _) | (go_at_call 22; exact C2.out _ _ _ _))))
  refine wpQuiet_nil ?_
  intro w' hw'
  obtain ⟨⟨nq, osq⟩, hw''⟩ := hw'
  have hbel := below_regrown W nq osq
  subst hw''
  generalize grow (redrawn W nq) osq = B at hbel ⊢
  go_wp2_with fail
  go_ret
  exact ⟨rfl, hbel⟩
end Go.Proofs.YtjhhkdkemgkcgaaDoor
