/-
  What the laws carry from call to call.
-/
import Derived.Test.YtjhhkdkemgkcgaaDoorMaskSmall
import Derived.OpenShut
import Derived.DataShut
set_option linter.unusedVariables false
set_option linter.unusedSimpArgs false
namespace Go.Proofs.YtjhhkdkemgkcgaaDoor
open Go.RowKit

theorem u16_nat {a : Int} (h : (Lit.int .u16 a).wf = true) : ∃ m : Nat, a = m ∧ m < 65536 := by
  rw [Lit.wf_int_iff, IntKind.min_u16, IntKind.max_u16] at h
  exact ⟨a.toNat, by omega, by omega⟩
theorem u8_range {a : Int} (h : (Lit.int .u8 a).wf = true) : 0 ≤ a ∧ a ≤ 255 := by
  rw [Lit.wf_int_iff, IntKind.min_u8, IntKind.max_u8] at h
  exact h
theorem keeps_below {w w' : World} (h : Keeps (fun _ => False) w w') : Below w.heap.size w w' := h.below (Nat.le_refl _) (fun _ _ h => h)

/-- What laws carry from call to call. -/
structure TK (W A : World) : Prop where
  keeps : Keeps (fun _ => False) W A
  tab : Tab A
theorem TK.refl {W : World} (h : Tab W) : TK W W := ⟨Keeps.refl _ _, h⟩
theorem TK.next {W A B : World} (h : TK W A) (k : Keeps (fun _ => False) A B) : TK W B := ⟨h.keeps.trans k, h.tab.keeps k (fun h => h)⟩
theorem TK.drew {W A : World} (h : TK W A) : TK W A.drew := h.next (Keeps.drew _ _)
theorem TK.below {W A : World} (h : TK W A) : Below W.heap.size W A := keeps_below h.keeps
theorem known_tk {W A : World} (h : TK W A) : Calls Tryd.prog 11 #[] A fun e w' => e = .returned (.bool true) ∧ TK W w' :=
  (known_calls A h.tab).mono fun _ _ ⟨h1, h2⟩ => ⟨h1, h.next h2⟩
theorem pick_tk {W A : World} (m : Nat) (f n : Int) (hm : m < 65536) (h : TK W A) : Calls Tryd.prog 12 #[.int .u16 m, .int .i64 f, .int .i64 n] A fun e w' => e = .returned (.int .i64 (pickI m f n)) ∧ TK W w' :=
  (pick_calls m f n hm A h.tab).mono fun _ _ ⟨h1, h2⟩ => ⟨h1, h.next h2⟩
theorem rpick_tk {W A : World} (m : Nat) (f n : Int) (hm : m < 65536) (h : TK W A) : Calls Tryd.prog 22 #[.int .u16 m, .int .i64 f, .int .i64 n] A fun e w' => e = .returned (.int .i64 (pickI m f n)) ∧ TK W w' :=
  (rpick_calls m f n hm A).mono fun _ _ ⟨h1, h2⟩ => ⟨h1, by rw [h2]; exact h⟩

end Go.Proofs.YtjhhkdkemgkcgaaDoor
