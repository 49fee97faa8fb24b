/-
  'known': the chapter's example over the program: true, in whatever memory.
-/
import Derived.Test.YtikoldphpehppaaHostW4
set_option linter.unusedVariables false
set_option linter.unusedSimpArgs false
namespace Go.Proofs.Ytikoldphpehppaa
open Go.RowKit

theorem false_below {w w' : World} (h : Keeps (fun _ => False) w w') : Below w.heap.size w w' := h.below (Nat.le_refl _) (fun _ _ h => h)

theorem bel_keeps {w0 w w' : World} {S : Nat → Prop} (hb : Below w0.heap.size w0 w) (hS : ∀ k, S k → w0.heap.size ≤ k) (k : Keeps S w w') : Below w0.heap.size w0 w' :=
  hb.trans (k.below hb.size (fun i hi h => by have := hS i h; omega))
theorem bel_fresh {w0 w : World} {S S' : Nat → Prop} (hb : Below w0.heap.size w0 w) (hS : ∀ k, S k → w0.heap.size ≤ k) (s : ∀ k, S' k → S k ∨ w.heap.size ≤ k) : ∀ k, S' k → w0.heap.size ≤ k :=
  fun k hk => (s k hk).elim (hS k) (fun h => Nat.le_trans hb.size h)
theorem bel_false {w0 w w' : World} (hb : Below w0.heap.size w0 w) (k : Keeps (fun _ => False) w w') : Below w0.heap.size w0 w' := bel_keeps hb (fun _ h => h.elim) k
theorem keeps_of_bel {w w' : World} (h : Below w.heap.size w w') : Keeps (fun _ => False) w w' := Keeps.of_below h

set_option maxHeartbeats 1000000 in
theorem known_any (w : World) : Calls Try.prog 9 #[] w fun e w' => e = .returned (.bool true) ∧ Keeps (fun _ => False) w w' := by
  go_enter Try.func9, Try.ntmps9
  go_wp2_with fail
  refine (hnew_ok 1 1 _ (by omega) (by omega) (by omega) (by omega)).mono ?_
  rintro e w1 ⟨rfl, hw1⟩
  have hh := (HostV.new w 1 1 55 27).qf (q0 := []) (q1 := []) (q2 := []) (q3 := []) rfl rfl rfl rfl
  rw [← hw1] at hh
  have B1 : Below w.heap.size w w1 := by rw [hw1]; exact (Below.refl _ _).alloc (Nat.le_refl _) _
  have f1 : ∀ k, k = w.heap.size → w.heap.size ≤ k := fun k h => by omega
  clear hw1
  go_wp2_with fail
  refine (put_ok _ ⟨0, 0, 0, 5⟩ 1 1 _ hh (by omega) (by omega) (by decide) (by decide) (by decide)).mono ?_
  rintro e w2 ⟨rfl, S2, h2, k2, s2⟩
  replace h2 := h2.qf (q0 := [⟨0, 0, 0, 5⟩]) (q1 := []) (q2 := []) (q3 := []) rfl rfl rfl rfl
  go_wp2_with fail
  refine (put_full _ ⟨0, 0, 0, 0⟩ 1 1 _ h2 (by omega) (by decide) (by decide) rfl).mono ?_
  rintro e w3 ⟨rfl, k3⟩
  have h3 := h2.keeps k3 (fun _ _ h => h)
  go_wp2_with fail
  refine (next_ok _ 0 1 1 _ h3 (by omega) (by decide) (by decide) ⟨0, 0, 0, 5⟩ [] rfl).mono ?_
  rintro e w4 ⟨rfl, S4, h4, k4, s4⟩
  replace h4 := h4.qf (q0 := []) (q1 := []) (q2 := []) (q3 := []) rfl rfl rfl rfl
  have hbx := blk_new w4 (.cells #[.int .i64 0, .int .i64 0, .int .i64 0, .int .u32 5] 27)
  have hs4 : ∀ k, S4 k → k < w4.heap.size := by obtain ⟨_, _, hr⟩ := h4; exact hr.lt
  have B2 := bel_keeps B1 f1 k2
  have f2 := bel_fresh B1 f1 s2
  have B3 := bel_false B2 k3
  have B4 := bel_keeps B3 f2 k4
  have f4 := bel_fresh B3 f2 s4
  have B4' := B4.alloc B4.size (.cells #[.int .i64 0, .int .i64 0, .int .i64 0, .int .u32 5] 27)
  have h4' := h4.keeps (Keeps.alloc (fun _ => False) w4 (.cells #[.int .i64 0, .int .i64 0, .int .i64 0, .int .u32 5] 27)) (fun _ _ h => h)
  go_wp2_with fail
  refine (put_ok _ ⟨0, 0, 0, 0⟩ 1 1 _ h4' (by omega) (by omega) (by decide) (by decide) (by decide)).mono ?_
  rintro e w5 ⟨rfl, S5, h5, k5, s5⟩
  replace h5 := h5.qf (q0 := [⟨0, 0, 0, 0⟩]) (q1 := []) (q2 := []) (q3 := []) rfl rfl rfl rfl
  have hbx5 := blk_keeps k5 hbx (fun h => Nat.lt_irrefl _ (hs4 _ h))
  go_wp2_with fail
  refine (eject_ok _ ⟨0, 0, 0, 7⟩ 1 1 _ h5 (by decide)).mono ?_
  rintro e w6 ⟨rfl, S6, h6, k6, s6⟩
  replace h6 := h6.qf (q0 := [⟨0, 0, 0, 0⟩]) (q1 := []) (q2 := []) (q3 := [⟨0, 0, 0, 7⟩]) rfl rfl rfl rfl
  have hbx6 := blk_keeps k6 hbx5 (fun h => by
    rcases s5 _ h with h | h
    · exact Nat.lt_irrefl _ (hs4 _ h)
    · simp at h; omega)
  go_wp2_with fail
  refine (got_as _ 1 1 _ h6 _ 1 rfl rfl (by decide)).mono ?_
  rintro e w7 ⟨A, c, rfl, hg, k7, ho⟩
  have h7 := h6.keeps k7 (fun _ _ h => h)
  have hbx7 := blk_keeps k7 hbx6 (fun h => h)
  have x3 : w7.cell? ⟨w4.heap.size, 3, none⟩ = some (.int .u32 5) := blk_cell hbx7 3
  obtain ⟨g, off, cap, hA, _, hgc, _⟩ := hg.cell (by decide)
  have y3 : w7.cell? ⟨g, off + 3, none⟩ = some (.int .u32 7) := hgc 3 _ rfl
  injection hA with hA1 _ hA2
  subst hA1; subst hA2
  have B5 := bel_keeps B4' f4 k5
  have f5 := bel_fresh B4' f4 s5
  have B7 := keeps_of_bel (bel_false (bel_keeps B5 f5 k6) k7)
  clear hbx hbx5 hbx6 hbx7 hg hgc ho
  go_wp2_with fail
  refine (waits_as _ 0 1 1 _ h7 (by decide) (by decide) (by decide) 1 rfl).mono ?_
  rintro e w8 ⟨rfl, rfl⟩
  go_wp2_with fail
  refine (hnew_bad 0 1 _ (.inl (by decide))).mono ?_
  rintro e w9 ⟨rfl, rfl⟩
  go_wp2_with fail
  go_ret
  exact ⟨rfl, B7⟩

end Go.Proofs.Ytikoldphpehppaa
