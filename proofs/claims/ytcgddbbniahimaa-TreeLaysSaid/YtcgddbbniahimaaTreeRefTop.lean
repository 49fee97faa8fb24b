/-
  The document's Path of any list, walked.
-/
import Derived.Test.YtcgddbbniahimaaTreeRefPath
set_option linter.unusedVariables false
set_option linter.unusedSimpArgs false
namespace Go.Proofs.Ytcgddbbniahimaa
open Go.RowKit

set_option maxHeartbeats 4000000 in
theorem rpath_calls (fv : Value) (ps : List Int) (v x : Int) (w : World) (h : Reads w w.heap.size 1 fv ps.length (ps.map encZ)) :
    Calls Try.prog 17 #[fv, .int .i64 v, .int .i64 x] w fun e w' =>
      ∃ u, e = .returned u ∧ QS w' 3 1 u (pathI ps v x).length ((pathI ps v x).map encI) ∧ Keeps (fun _ => False) w w' ∧ ∀ k, u.ownBlock = some k → w.heap.size ≤ k := by
  obtain ⟨A, c, hsh, hm1, hm2⟩ : ∃ A c, fv = .slice A ps.length c ∧ ps.length ≤ c ∧ c ≤ maxLen := by obtain ⟨_, A, c, h, h1, h2, _⟩ := h; exact ⟨A, c, h, h1, h2⟩
  subst hsh
  have c1 := rright_calls _ ps w h
  by_cases hr : rightI ps = true
  · rw [hr] at c1
    by_cases hvx : 0 ≤ v ∧ 0 ≤ x ∧ v ≤ (ps.length : Int) ∧ x ≤ (ps.length : Int)
    · have ep : pathI ps v x = pathN (ps.map Int.toNat) v.toNat x.toNat := by unfold pathI; rw [if_pos ⟨hr, hvx⟩]
      obtain ⟨ht, h6, hmap⟩ := right_tree hr
      rw [show ps.map encZ = (ps.map Int.toNat).map encI from hmap] at h
      obtain ⟨hF, _⟩ := h.fam (Nat.le_refl _)
      rw [ep]
      obtain ⟨h1, h2, h3, h4⟩ := hvx
      have c2 := rpathN_calls A ps.length c (ps.map Int.toNat) v.toNat x.toNat ht (by omega) (by omega) (by omega) w hF c1
      rw [show ((v.toNat : Nat) : Int) = v by omega, show ((x.toNat : Nat) : Int) = x by omega] at c2
      exact c2
    · have ep : pathI ps v x = [] := by unfold pathI; rw [if_neg (fun h => hvx h.2)]
      rw [ep]
      clear ep h hr
      go_enter Try.func17, Try.ntmps17
      go_wp2_with fail
      refine c1.mono ?_
      rintro e w' ⟨rfl, hw⟩; subst w'
      clear c1
      by_cases h1 : v < 0
      · go_wp2_with fail
        go_ret; exact ⟨_, rfl, QS.nil _ _ _, Keeps.refl _ _, fun k h => by cases h⟩
      · by_cases h2 : (ps.length : Int) < v
        · go_wp2_with fail
          go_ret; exact ⟨_, rfl, QS.nil _ _ _, Keeps.refl _ _, fun k h => by cases h⟩
        · by_cases h3 : x < 0
          · go_wp2_with fail
            go_ret; exact ⟨_, rfl, QS.nil _ _ _, Keeps.refl _ _, fun k h => by cases h⟩
          · have h4 : (ps.length : Int) < x := by omega
            go_wp2_with fail
            go_ret; exact ⟨_, rfl, QS.nil _ _ _, Keeps.refl _ _, fun k h => by cases h⟩
  · have ep : pathI ps v x = [] := by unfold pathI; rw [if_neg (fun h => hr h.1)]
    rw [Bool.not_eq_true] at hr
    rw [hr] at c1
    rw [ep]
    clear ep h hr
    go_enter Try.func17, Try.ntmps17
    go_wp2_with fail
    refine c1.mono ?_
    rintro e w' ⟨rfl, hw⟩; subst w'
    clear c1
    go_wp2_with fail
    go_ret
    exact ⟨_, rfl, QS.nil _ _ _, Keeps.refl _ _, fun k h => by cases h⟩
end Go.Proofs.Ytcgddbbniahimaa
