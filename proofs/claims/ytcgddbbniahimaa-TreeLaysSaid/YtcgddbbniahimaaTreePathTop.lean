/-
  right and Path, walked.
-/
import Derived.Test.YtcgddbbniahimaaTreePath
import Derived.Test.YtcgddbbniahimaaArgs
set_option linter.unusedVariables false
set_option linter.unusedSimpArgs false
namespace Go.Proofs.Ytcgddbbniahimaa
open Go.RowKit

abbrev encZ (z : Int) : Value := .int .i64 z
theorem getD_int {ps : List Int} {i : Nat} (h : i < ps.length) : ps.getD i 0 = ps[i] := by rw [List.getD_eq_getElem?_getD, List.getElem?_eq_getElem h]; rfl
theorem right_no {ps : List Int} {i : Nat} (h : i < ps.length) (hb : ¬ (0 ≤ ps[i] ∧ ps[i] ≤ (i : Int))) : rightI ps = false := by
  unfold rightI
  rw [Bool.and_eq_false_iff]
  left
  rw [List.all_eq_false]
  refine ⟨i, by simpa using h, ?_⟩
  rw [getD_int h]; simpa using hb
theorem right_yes {ps : List Int} (hb : ∀ j (h : j < ps.length), 0 ≤ ps[j] ∧ ps[j] ≤ (j : Int)) : rightI ps = decide (ps.length < 6) := by
  unfold rightI
  rw [(List.all_eq_true (l := List.range ps.length)).2 (fun i hi => by
    have hi' : i < ps.length := by simpa using hi
    rw [getD_int hi']; exact decide_eq_true (hb i hi')), Bool.true_and]

theorem Reads.fam {w : World} {B n c : Nat} {A : Option Addr} {t : List Nat} (h : Reads w B 1 (.slice A n c) n (t.map encI)) (hB : B ≤ w.heap.size) : Fam w A n t ∧ ∀ k, 0 < n → famBlock A k → k < B := by
  have hl : t.length = n := by have := h.1; simpa using this
  refine ⟨⟨hl, fun j hj => ?_⟩, fun k hn hk => ?_⟩
  · obtain ⟨g, off, c', e', _, hg, hc⟩ := h.at_ (by simp; omega)
    injection e' with e1 _ _
    refine ⟨g, off, e1, by omega, hc j _ ?_⟩
    rw [List.getElem?_map, List.getD_eq_getElem?_getD, List.getElem?_eq_getElem (by omega)]; rfl
  · obtain ⟨g, off, c', e', _, hg, hc⟩ := h.at_ (by simp; omega)
    injection e' with e1 _ _
    subst e1
    obtain ⟨g', off', e2, rfl⟩ := hk
    injection e2 with e2
    injection e2 with e2 _ _
    omega

set_option maxHeartbeats 2000000 in
theorem right_calls (fv : Value) (ps : List Int) (w : World) (h : Reads w w.heap.size 1 fv ps.length (ps.map encZ)) :
    Calls Try.prog 23 #[fv] w fun e w' => e = .returned (.bool (rightI ps)) ∧ w' = w := by
  obtain ⟨A, c, hsh, hm1, hm2⟩ : ∃ A c, fv = .slice A ps.length c ∧ ps.length ≤ c ∧ c ≤ maxLen := by obtain ⟨_, A, c, h, h1, h2, _⟩ := h; exact ⟨A, c, h, h1, h2⟩
  subst hsh
  have hmx : (ps.length : Int) ≤ 9223372036854775807 := by simp only [maxLen] at hm2; omega
  clear hm1 hm2
  obtain ⟨b, hb⟩ : ∃ b, rightI ps = b := ⟨_, rfl⟩
  rw [hb]
  have hb' := Lib.hid hb
  clear hb
  go_enter Try.func23, Try.ntmps23
  go_wp2_with fail
  go_loopw [7] (fun s wr => ∃ i : Nat, i ≤ ps.length ∧ (∀ j (h : j < i) (h2 : j < ps.length), 0 ≤ ps[j] ∧ ps[j] ≤ (j : Int)) ∧ s = .int .i64 (i : Int) ∧ wr = w) (fun s _ => ps.length - (intOf s).toNat)
  case atStart => exact ⟨0, Nat.zero_le _, (fun j h => absurd h (Nat.not_lt_zero _)), rfl, rfl⟩
  case round =>
    obtain ⟨i, hi, hok, rfl, hwr⟩ := hrel
    subst hwr
    by_cases hil : i < ps.length
    · have hii : (i : Int) < (ps.length : Int) := by omega
      obtain ⟨g, off, c', e', _, _, hcell⟩ := h.at_ (by simp; omega)
      injection e' with e1 _ e2
      subst e1; subst e2
      have hci := hcell i (encZ ps[i]) (by rw [List.getElem?_map, List.getElem?_eq_getElem hil]; rfl)
      have hno := right_no hil
      have hok' : (0 ≤ ps[i] ∧ ps[i] ≤ (i : Int)) → ∀ j (h : j < i + 1) (h2 : j < ps.length), 0 ≤ ps[j] ∧ ps[j] ≤ (j : Int) := fun hg j h1 h2 => by
        by_cases e : j = i
        · subst e; exact hg
        · exact hok j (by omega) h2
      clear hcell hok
      generalize ps[i] = z at *
      by_cases hz : z < 0
      · obtain rfl : b = false := by rw [← hb'.out]; exact hno (by omega)
        clear hno hok'
        go_wp2_with fail
        go_ret
        exact ⟨rfl, rfl⟩
      · by_cases hz2 : (i : Int) < z
        · obtain rfl : b = false := by rw [← hb'.out]; exact hno (by omega)
          clear hno hok'
          go_wp2_with fail
          go_ret
          exact ⟨rfl, rfl⟩
        · have ok := Lib.hid (hok' (by omega))
          clear hno hok'
          have hbig : (i : Int) + 1 ≤ 9223372036854775807 := by omega
          go_wp2_with fail
          go_roundw
          case rel => exact ⟨i + 1, by omega, ok.out, by simp, trivial⟩
          case measure => simp [intOf]; omega
    · have er := right_yes (ps := ps) (fun j h => hok j (by omega) h)
      clear hok
      by_cases h6 : ps.length < 6
      · have h6' : (ps.length : Int) < 6 := by omega
        obtain rfl : b = true := by rw [← hb'.out, er]; exact decide_eq_true h6
        clear er
        go_wp2_with fail
        go_ret
        exact ⟨rfl, rfl⟩
      · have h6' : ¬ (ps.length : Int) < 6 := by omega
        obtain rfl : b = false := by rw [← hb'.out, er]; exact decide_eq_false h6
        clear er
        go_wp2_with fail
        go_ret
        exact ⟨rfl, rfl⟩

set_option maxHeartbeats 2000000 in
theorem tpath_calls (fv : Value) (ps : List Int) (v x : Int) (w : World) (h : Reads w w.heap.size 1 fv ps.length (ps.map encZ)) :
    Calls Try.prog 14 #[fv, .int .i64 v, .int .i64 x] w fun e w' =>
      ∃ u, e = .returned u ∧ QS w' 3 1 u (pathI ps v x).length ((pathI ps v x).map encI) ∧ Keeps (fun _ => False) w w' ∧ ∀ k, u.ownBlock = some k → w.heap.size ≤ k := by
  obtain ⟨A, c, hsh, hm1, hm2⟩ : ∃ A c, fv = .slice A ps.length c ∧ ps.length ≤ c ∧ c ≤ maxLen := by obtain ⟨_, A, c, h, h1, h2, _⟩ := h; exact ⟨A, c, h, h1, h2⟩
  subst hsh
  have c1 := right_calls _ ps w h
  go_enter Try.func14, Try.ntmps14
  by_cases hr : rightI ps = true
  · rw [hr] at c1
    by_cases hvx : 0 ≤ v ∧ 0 ≤ x ∧ v ≤ (ps.length : Int) ∧ x ≤ (ps.length : Int)
    · have ep : pathI ps v x = pathN (ps.map Int.toNat) v.toNat x.toNat := by unfold pathI; rw [if_pos ⟨hr, hvx⟩]
      obtain ⟨ht, h6, hmap⟩ := right_tree hr
      rw [show ps.map encZ = (ps.map Int.toNat).map encI from hmap] at h
      obtain ⟨hF, hA⟩ := h.fam (Nat.le_refl _)
      rw [ep]
      obtain ⟨h1, h2, h3, h4⟩ := hvx
      have c2 := path_calls A ps.length c (ps.map Int.toNat) v.toNat x.toNat ht (by omega) (by omega) (by omega) w hF hA
      rw [show ((v.toNat : Nat) : Int) = v by omega, show ((x.toNat : Nat) : Int) = x by omega] at c2
      generalize pathN (ps.map Int.toNat) v.toNat x.toNat = R at *
      clear ep ht hmap hF hA h hr
      go_wp2_with fail
      refine c1.mono ?_
      rintro e w' ⟨rfl, hw⟩; subst w'
      clear c1
      go_wp2_with fail
      all_goals first
        | (exfalso; omega)
        | (refine c2.mono ?_
           rintro e w' ⟨u, rfl, hq, hk, ho⟩
           go_wp2_with fail
           go_ret
           exact ⟨_, rfl, hq, hk, ho⟩)
    · have ep : pathI ps v x = [] := by unfold pathI; rw [if_neg (fun h => hvx h.2)]
      rw [ep]
      clear ep h hr
      go_wp2_with fail
      refine c1.mono ?_
      rintro e w' ⟨rfl, hw⟩; subst w'
      clear c1
      go_wp2_with fail
      all_goals first
        | (exfalso; omega)
        | (go_ret; exact ⟨_, rfl, QS.nil _ _ _, Keeps.refl _ _, fun k h => by cases h⟩)
  · have ep : pathI ps v x = [] := by unfold pathI; rw [if_neg (fun h => hr h.1)]
    rw [Bool.not_eq_true] at hr
    rw [hr] at c1
    rw [ep]
    clear ep h hr
    go_wp2_with fail
    refine c1.mono ?_
    rintro e w' ⟨rfl, hw⟩; subst w'
    clear c1
    go_wp2_with fail
    go_ret
    exact ⟨_, rfl, QS.nil _ _ _, Keeps.refl _ _, fun k h => by cases h⟩
end Go.Proofs.Ytcgddbbniahimaa
