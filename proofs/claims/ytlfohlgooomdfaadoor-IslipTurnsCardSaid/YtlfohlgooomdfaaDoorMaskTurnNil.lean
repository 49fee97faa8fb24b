/-
  Turn of no rows, walked.
-/
import Derived.Test.YtlfohlgooomdfaaDoorMaskEach
import Derived.Test.YtlfohlgooomdfaaDoorArgs
import Derived.Shelf.Abstract
import Derived.Deep.OwnRows
set_option linter.unusedVariables false
set_option linter.unusedSimpArgs false
namespace Go.Proofs.YtlfohlgooomdfaaDoor
open Go.RowKit Go.Shelf
attribute [local go_sem] Oper.semAt_some

abbrev encU (k : Nat) : Value := .int .u16 (k : Int)

theorem info_u16 : (Tryd.prog.info? 29).map (fun i => (i.zero, i.size, i.bytes)) = some (some (.int .u16 0), 1, 2) := by kernel_rfl

theorem made_cols (rows : List Nat) (n : Nat) : madeCells #[.int .u16 0] n = ((colsOf rows n 0).map encU).toArray := by
  apply Array.ext
  · simp [madeCells, colsOf]
  · intro i h1 h2
    simp [madeCells, colsOf, colOf, Nat.mod_one]

set_option maxRecDepth 100000 in
set_option maxHeartbeats 4000000 in
theorem turn_nil (A : Option Addr) (c : Nat) (n : Int) (w : World) (h1 : 1 ≤ n) (h2 : n ≤ 16) :
    Calls Tryd.prog 24 #[.slice A 0 c, .int .i64 n] w fun e w' => ∃ u, e = .returned u ∧ QS w' 29 1 u (colsOf [] n.toNat 0).length ((colsOf [] n.toNat 0).map encU) ∧ Keeps (fun _ => False) w w' ∧
      ∀ k, u.ownBlock = some k → w.heap.size ≤ k := by
  have hms := fun w => run_make_row' (P := Tryd.prog) 28 29 (.int .u16 0) 2 Tryd.underlying28 info_u16 rfl .i64 .i64 n.toNat (by omega) (by omega) w
  rw [show ((n.toNat : Nat) : Int) = n by omega] at hms
  have hO0 : ((w.alloc (.cells (madeCells #[.int .u16 0] n.toNat) 29)).alloc (.cells #[.slice (some ⟨w.heap.size, 0, none⟩) n.toNat n.toNat] 28)).heap[w.heap.size + 1]? = some (.cells #[.slice (some ⟨w.heap.size, 0, none⟩) n.toNat n.toNat] 28 (0, 0)) := by
    have := blk_new (w.alloc (.cells (madeCells #[.int .u16 0] n.toNat) 29)) (.cells #[.slice (some ⟨w.heap.size, 0, none⟩) n.toNat n.toNat] 28)
    rwa [World.size_alloc] at this
  have hM0 : ((w.alloc (.cells (madeCells #[.int .u16 0] n.toNat) 29)).alloc (.cells #[.slice (some ⟨w.heap.size, 0, none⟩) n.toNat n.toNat] 28)).heap[w.heap.size]? = some (.cells ((colsOf [] n.toNat 0).map encU).toArray 29 (0, 0)) := by
    rw [← made_cols]
    exact blk_alloc (blk_new _ _) _
  have hk0 : Keeps (fun _ => False) w ((w.alloc (.cells (madeCells #[.int .u16 0] n.toNat) 29)).alloc (.cells #[.slice (some ⟨w.heap.size, 0, none⟩) n.toNat n.toNat] 28)) := (Keeps.alloc _ _ _).trans (Keeps.alloc _ _ _)
  go_enter Tryd.func24, Tryd.ntmps24
  go_wp2_with fail
  generalize (w.alloc (.cells (madeCells #[.int .u16 0] n.toNat) 29)).alloc (.cells #[.slice (some ⟨w.heap.size, 0, none⟩) n.toNat n.toNat] 28) = W0 at hk0 hO0 hM0
  clear hms
  have hc : W0.cell? ⟨w.heap.size + 1, 0, none⟩ = some (.slice (some ⟨w.heap.size, 0, none⟩) n.toNat n.toNat) := by rw [blk_cell hO0]; rfl
  refine wp_loop (fun a' W => W = W0 ∧ a' = _) (fun _ _ => 0) ⟨rfl, rfl⟩ ?_
  rintro a' W ⟨rfl, rfl⟩
  go_wp2_with fail
  go_ret
  refine ⟨_, rfl, ?_, hk0, fun k hk => by cases hk; exact Nat.le_refl _⟩
  exact ⟨by simp, .inr ⟨w.heap.size, 0, n.toNat, _, by rw [colsOf_length]; rfl, hM0, by rw [colsOf_length]; exact Nat.le_refl _, by simp only [maxLen]; omega, by simp [colsOf_length], fun i hi => by simp⟩⟩

end Go.Proofs.YtlfohlgooomdfaaDoor
