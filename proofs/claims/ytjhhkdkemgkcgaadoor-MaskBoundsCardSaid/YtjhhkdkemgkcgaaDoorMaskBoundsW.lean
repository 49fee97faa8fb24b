/-
  The law MaskBounds, walked.
-/
import Derived.Test.YtjhhkdkemgkcgaaDoorMaskTk
set_option linter.unusedVariables false
set_option linter.unusedSimpArgs false
namespace Go.Proofs.YtjhhkdkemgkcgaaDoor
open Go.RowKit

/-- pick: from 0 on, by hand. -/
def handPick (m : Nat) (n : Int) : Int := if 1 ≤ n ∧ n ≤ 16 then pickOf m 0 n.toNat else -1
theorem hand_eq (m : Nat) (n : Int) : pickI m 0 n = handPick m n := by
  unfold pickI handPick
  by_cases h : 1 ≤ n ∧ n ≤ 16
  · rw [if_pos h, if_pos ⟨h.1, h.2, Int.le_refl _, by omega⟩]; rfl
  · rw [if_neg h, if_neg (fun h' => h ⟨h'.1, h'.2.1⟩)]

set_option maxHeartbeats 2000000 in
theorem hand_calls (m : Nat) (n : Int) (hm : m < 65536) (w : World) :
    Calls Tryd.prog 14 #[.int .u16 m, .int .i64 n] w fun e w' => e = .returned (.int .i64 (handPick m n)) ∧ w' = w := by
  by_cases hr : 1 ≤ n ∧ n ≤ 16
  · have epk : handPick m n = pickOf m 0 n.toNat := by unfold handPick; rw [if_pos hr]
    rw [epk]
    clear epk
    obtain ⟨h1, h2⟩ := hr
    have p1 := fun k => @pick_at m 0 n.toNat k (by omega)
    have p2 := @pick_no m 0 n.toNat (by omega)
    generalize pickOf m 0 n.toNat = res at p1 p2 ⊢
    go_enter Tryd.func14, Tryd.ntmps14
    go_wp2_with fail
    go_loop [5] (fun v => ∃ k : Nat, (k : Int) ≤ n ∧ (∀ t, t < k → has m t = false) ∧ v = .int .i64 (k : Int)) (fun v => n.toNat - (intOf v).toNat)
    case atStart => exact ⟨0, by omega, (fun t h => absurd h (Nat.not_lt_zero _)), rfl⟩
    case round =>
      obtain ⟨k, hk, hno, rfl⟩ := hrel
      have hno' : ∀ t, t < k → has m ((0 + t) % n.toNat) = false := fun t ht => by rw [Nat.zero_add, Nat.mod_eq_of_lt (by omega)]; exact hno t ht
      by_cases hkn : (k : Int) < n
      · have q1 := p1 k (by omega) hno'
        rw [Nat.zero_add, Nat.mod_eq_of_lt (by omega)] at q1
        have c1 := has_calls m (k : Int) hm w
        rw [hasI_nat] at c1
        clear p1 p2 hno'
        go_wp2_with fail
        refine c1.mono ?_
        rintro e w' ⟨rfl, hw⟩; subst w'
        clear c1
        cases hb : has m k with
        | true =>
          obtain rfl := q1 hb
          clear q1
          go_wp2_with fail
          go_ret
          exact ⟨rfl, rfl⟩
        | false =>
          clear q1
          have q3 : ∀ t, t < k + 1 → has m t = false := fun t ht => by
            rcases Nat.lt_or_ge t k with h' | h'
            · exact hno t h'
            · obtain rfl : t = k := by omega
              exact hb
          go_wp2_with fail
          go_round
          case rel => exact ⟨k + 1, by omega, q3, by simp⟩
          case measure => simp [intOf]; omega
      · have := p2 (fun t ht => hno' t (by omega))
        subst this
        go_wp2_with fail
        go_ret
        exact ⟨rfl, rfl⟩
  · have epk : handPick m n = -1 := by unfold handPick; rw [if_neg hr]
    rw [epk]
    clear epk
    go_enter Tryd.func14, Tryd.ntmps14
    go_wp2_with fail
    all_goals first
      | (exfalso; omega)
      | (go_ret; exact ⟨rfl, rfl⟩)

theorem pick_self (m a : Nat) (ha : a < 16) : (pickI m a 16 == (a : Int)) = hasI m a := by
  rw [hasI_nat]
  have e : pickI m a 16 = pickOf m a 16 := by
    unfold pickI; rw [if_pos ⟨by decide, by decide, by omega, by omega⟩]; rfl
  rw [e, Bool.eq_iff_iff, beq_iff_eq]
  cases hb : has m a with
  | true =>
    have := @pick_at m a 16 0 ha (by decide) (fun t ht => absurd ht (Nat.not_lt_zero _)) (by rw [Nat.add_zero, Nat.mod_eq_of_lt ha]; exact hb)
    rw [Nat.add_zero, Nat.mod_eq_of_lt ha] at this
    simp [this]
  | false =>
    have hne : pickOf m a 16 ≠ (a : Int) := by
      unfold pickOf
      cases h1 : first m a 16 with
      | some j =>
        intro h
        have := first_lt h1
        have e : (j : Int) = (a : Int) := by simpa using h
        obtain rfl : j = a := by omega
        rw [hb] at this; exact absurd this.2.2 (by decide)
      | none =>
        cases h2 : first m 0 a with
        | some j => intro h; have := first_lt h2; have e : (j : Int) = (a : Int) := by simpa using h
                    omega
        | none => intro h; simp at h
    simp [hne]
theorem pick_out (m : Nat) (i : Int) (h : i < 0 ∨ 15 < i) : pickI m i 16 = -1 := by
  unfold pickI; rw [if_neg (by omega)]
theorem turn_none (m : Nat) (i : Int) (h : i < 0 ∨ 16 < i) : turnI [m] i = [] := by
  unfold turnI; rw [if_neg (by omega)]

attribute [local irreducible] pickI handPick
set_option maxHeartbeats 1000000 in
theorem maskBounds_walk (a0 a1 : Int) (w0 : (Lit.int .u16 a0).wf = true) (w1 : (Lit.int .i64 a1).wf = true) (W : World) (hT : Tab W) :
    Calls Tryd.prog 3 #[.int .u16 a0, .int .i64 a1] W fun e w' => e = .returned (.bool true) ∧ Below W.heap.size W w' := by
  obtain ⟨m, rfl, hm⟩ := u16_nat w0
  clear w0 w1
  have ht : TK W W := TK.refl hT
  by_cases h : 0 ≤ a1 ∧ a1 ≤ 15
  · have hps := pick_self m a1.toNat (by omega)
    rw [show ((a1.toNat : Nat) : Int) = a1 by omega] at hps
    obtain ⟨p, hp⟩ : ∃ p, pickI m a1 16 = p := ⟨_, rfl⟩
    rw [hp] at hps
    have hpp : (p == p) = true := by simp
    have hbb : ((p == a1) == hasI m a1) = true := by rw [hps]; simp
    have k1 : ∀ A : World, TK W A → Calls Tryd.prog 12 #[.int .u16 m, .int .i64 a1, .int .i64 16] A fun e w' => e = .returned (.int .i64 p) ∧ TK W w' := fun A h => by
      have := pick_tk m a1 16 hm h
      rwa [hp] at this
    have k2 := fun A => has_calls m a1 hm A
    clear hp hps
    generalize hasI m a1 = bb at hbb k2
    obtain ⟨h1, h2⟩ := h
    go_enter Tryd.func3, Tryd.ntmps3
    go_wp2_with fail
    refine (known_tk ht).mono ?_
    rintro e A ⟨rfl, hA⟩
    go_wp2_with fail
    refine (k1 _ hA).mono ?_
    rintro e B ⟨rfl, hB⟩
    clear hA
    go_wp2_with fail
    refine (k1 _ hB).mono ?_
    rintro e A ⟨rfl, hA⟩
    clear hB
    go_wp2_with fail
    refine (k1 _ hA).mono ?_
    rintro e B ⟨rfl, hB⟩
    clear hA
    go_wp2_with fail
    refine (k2 B).mono ?_
    rintro e w' ⟨rfl, hw⟩; subst w'
    go_wp2_with fail
    go_ret
    exact ⟨rfl, hB.below⟩
  · have hhas : hasI m a1 = false := hasI_out hm (by omega)
    have hpo := pick_out m a1 (by omega)
    rcases (show a1 < 0 ∨ a1 = 16 ∨ 16 < a1 by omega) with h' | h' | h'
    · have hto := turn_none m a1 (.inl h')
      have hn16 : (a1 == 16) = false := by simp; omega
      go_enter Tryd.func3, Tryd.ntmps3
      go_wp2_with fail
      refine (known_tk ht).mono ?_
      rintro e A ⟨rfl, hA⟩
      go_wp2_with fail
      refine (has_calls m a1 hm A).mono ?_
      rintro e w' ⟨rfl, hw⟩; subst w'
      rw [hhas]
      go_wp2_with fail
      refine (pick_tk m a1 16 hm hA).mono ?_
      rintro e B ⟨rfl, hB⟩
      clear hA
      rw [hpo]
      go_wp2_with fail
      refine (pick_tk m 0 _ hm hB).mono ?_
      rintro e A ⟨rfl, hA⟩
      clear hB
      go_wp2_with fail
      refine (hand_calls m _ hm A).mono ?_
      rintro e w' ⟨rfl, hw⟩; subst w'
      rw [hand_eq]
      generalize handPick m _ = p
      have hpp : (p == p) = true := by simp
      go_wp2_with fail
      have hB2 : TK W (A.alloc (.cells #[encU m] 22)) := hA.next (Keeps.alloc _ _ _)
      refine (turn_calls (.slice (some ⟨A.heap.size, 0, none⟩) 1 1) [m] a1 (A.alloc (.cells #[encU m] 22)) hB2.tab (by intro x hx; simp at hx; omega)
        (QS.reads (e := 22) ⟨rfl, .inr ⟨A.heap.size, 0, 1, _, rfl, blk_new _ _, Nat.le_refl _, by decide, by simp, by intro j hj; match j, hj with | 0, _ => rfl⟩⟩)).mono ?_
      rintro e B ⟨u, rfl, hu, hk, _⟩
      rw [hto] at hu
      obtain ⟨A', cap', rfl, _, _⟩ := hu.shape
      have hC := hB2.next hk
      clear hu hk hB2
      go_wp2_with fail
      go_ret
      exact ⟨rfl, hC.below⟩
    · have h16 : (a1 == 16) = true := by simp [h']
      have h0 : 0 ≤ a1 := by omega
      have h15 : 15 < a1 := by omega
      clear h'
      go_enter Tryd.func3, Tryd.ntmps3
      go_wp2_with fail
      refine (known_tk ht).mono ?_
      rintro e A ⟨rfl, hA⟩
      go_wp2_with fail
      refine (has_calls m a1 hm A).mono ?_
      rintro e w' ⟨rfl, hw⟩; subst w'
      rw [hhas]
      go_wp2_with fail
      refine (pick_tk m a1 16 hm hA).mono ?_
      rintro e B ⟨rfl, hB⟩
      clear hA
      rw [hpo]
      go_wp2_with fail
      refine (pick_tk m 0 _ hm hB).mono ?_
      rintro e A ⟨rfl, hA⟩
      clear hB
      go_wp2_with fail
      refine (hand_calls m _ hm A).mono ?_
      rintro e w' ⟨rfl, hw⟩; subst w'
      rw [hand_eq]
      generalize handPick m _ = p
      have hpp : (p == p) = true := by simp
      go_wp2_with fail
      go_ret
      exact ⟨rfl, hA.below⟩
    · have hto := turn_none m a1 (.inr h')
      have hn16 : (a1 == 16) = false := by simp; omega
      have h0 : 0 ≤ a1 := by omega
      have h15 : 15 < a1 := by omega
      go_enter Tryd.func3, Tryd.ntmps3
      go_wp2_with fail
      refine (known_tk ht).mono ?_
      rintro e A ⟨rfl, hA⟩
      go_wp2_with fail
      refine (has_calls m a1 hm A).mono ?_
      rintro e w' ⟨rfl, hw⟩; subst w'
      rw [hhas]
      go_wp2_with fail
      refine (pick_tk m a1 16 hm hA).mono ?_
      rintro e B ⟨rfl, hB⟩
      clear hA
      rw [hpo]
      go_wp2_with fail
      refine (pick_tk m 0 _ hm hB).mono ?_
      rintro e A ⟨rfl, hA⟩
      clear hB
      go_wp2_with fail
      refine (hand_calls m _ hm A).mono ?_
      rintro e w' ⟨rfl, hw⟩; subst w'
      rw [hand_eq]
      generalize handPick m _ = p
      have hpp : (p == p) = true := by simp
      go_wp2_with fail
      have hB2 : TK W (A.alloc (.cells #[encU m] 22)) := hA.next (Keeps.alloc _ _ _)
      refine (turn_calls (.slice (some ⟨A.heap.size, 0, none⟩) 1 1) [m] a1 (A.alloc (.cells #[encU m] 22)) hB2.tab (by intro x hx; simp at hx; omega)
        (QS.reads (e := 22) ⟨rfl, .inr ⟨A.heap.size, 0, 1, _, rfl, blk_new _ _, Nat.le_refl _, by decide, by simp, by intro j hj; match j, hj with | 0, _ => rfl⟩⟩)).mono ?_
      rintro e B ⟨u, rfl, hu, hk, _⟩
      rw [hto] at hu
      obtain ⟨A', cap', rfl, _, _⟩ := hu.shape
      have hC := hB2.next hk
      clear hu hk hB2
      go_wp2_with fail
      go_ret
      exact ⟨rfl, hC.below⟩
end Go.Proofs.YtjhhkdkemgkcgaaDoor
