/-
  The document's answer on masks, walked: Bits, Count, Turn.
-/
import Derived.Test.YtjhhkdkemgkcgaaDoorRefNine
import Derived.Deep.OwnRows
import Derived.BigQuiet
set_option linter.unusedVariables false
set_option linter.unusedSimpArgs false
namespace Go.Proofs.YtjhhkdkemgkcgaaDoor
open Go.RowKit

abbrev encI' (k : Nat) : Value := .int .i64 (k : Int)
theorem info_int' : (Tryd.prog.info? 3).map (fun i => (i.zero, i.size, i.bytes)) = some (some (.int .i64 0), 1, 8) := by kernel_rfl

set_option maxRecDepth 100000 in
set_option maxHeartbeats 4000000 in
theorem rbits_calls (m : Nat) (hm : m < 65536) (w : World) :
    Calls Tryd.prog 21 #[.int .u16 m] w fun e w' => ∃ v, e = .returned v ∧ QS w' 3 1 v (bitsOf m).length ((bitsOf m).map encI') ∧ Keeps (fun _ => False) w w' := by
  go_enter Tryd.func21, Tryd.ntmps21
  go_wp2_with fail
  go_loopw [3, 4] (fun v k wr => ∃ j : Nat, j ≤ 16 ∧ QS wr 3 1 v (bitsTo m j).length ((bitsTo m j).map encI') ∧ Keeps (fun _ => False) w wr ∧ (∀ b, v.ownBlock = some b → w.heap.size ≤ b) ∧ k = .int .i64 (j : Int)) (fun _ k _ => 16 - (intOf k).toNat)
  case atStart => exact ⟨0, by omega, QS.nil _ _ _, Keeps.refl _ _, (fun b h => by cases h), rfl⟩
  case round =>
    obtain ⟨j, hj, hq, hk, hb, rfl⟩ := hrel
    revert hq hb; generalize u3 = v; intro hq hb
    have hlen := bitsTo_le m j
    by_cases hjn : j < 16
    · have hjj : (j : Int) < 16 := by omega
      have c1 := rhas_calls m (j : Int) hm wr
      rw [hasI_nat] at c1
      go_wp2_with fail
      refine c1.mono ?_
      rintro e w' ⟨rfl, rfl⟩
      clear c1
      cases hh : has m j with
      | true =>
        have hn := bitsTo_yes hh
        have hq0 : QS (w'.alloc (.cells #[encI' j] 3)) 3 1 v (bitsTo m j).length ((bitsTo m j).map encI') := hq.alloc _
        have hsrc : Src Tryd.prog 1 32 (.slice (some ⟨w'.heap.size, 0, none⟩) 1 1) 1 [encI' j] (w'.alloc (.cells #[encI' j] 3)) :=
          src_blk Tryd.underlying32 (blk_new _ _) rfl (by intro jj hjj'; match jj, hjj' with | 0, _ => rfl) (by intro u hu; simp at hu; subst hu; rfl)
        go_wp2_with (at_builtin; refine wpList_append_QS rfl _ _ 32 32 rfl 3 _ 1 8 Tryd.underlying32 info_int' rfl v (bitsTo m j).length ((bitsTo m j).map encI') rfl hq0 _ 1 [encI' j] rfl hsrc (by decide) (by omega) ?_; intro A1 c1 w1 hq1 hg1 ho1)
        go_roundw
        case rel =>
          have hk1 : Keeps (fun i => v.ownBlock = some i) w' w1 := (Keeps.alloc _ _ _).trans (Keeps.grown hg1 (fun i h => h))
          refine ⟨j + 1, by omega, by rw [hn, List.length_append, List.map_append]; exact hq1, hk.then hk1 (fun i hi h => by have := hb i h; omega), fun b hb' => ?_, by simp⟩
          rcases ho1 with h | ⟨i', h, hle⟩
          · exact hb b (h ▸ hb')
          · rw [hb'] at h; cases h; have := hk.size; rw [World.size_alloc] at hle; omega
        case measure => simp [intOf]; omega
      | false =>
        have hn := bitsTo_no hh
        go_wp2_with fail
        go_roundw
        case rel => exact ⟨j + 1, by omega, by rw [hn]; exact hq, hk, hb, by simp⟩
        case measure => simp [intOf]; omega
    · obtain rfl : j = 16 := by omega
      go_wp2_with fail
      go_ret
      exact ⟨_, rfl, hq, hk⟩

theorem rcount_calls (m : Nat) (hm : m < 65536) (w : World) :
    Calls Tryd.prog 18 #[.int .u16 m] w fun e w' => e = .returned (.int .i64 (bitsOf m).length) ∧ Keeps (fun _ => False) w w' := by
  go_enter Tryd.func18, Tryd.ntmps18
  go_wp2_with fail
  refine (rbits_calls m hm w).mono ?_
  rintro e w' ⟨v, rfl, hq, hk⟩
  obtain ⟨A, cap, rfl, _, _⟩ := hq.shape
  go_wp2_with fail
  go_ret
  exact ⟨rfl, hk⟩
end Go.Proofs.YtjhhkdkemgkcgaaDoor
