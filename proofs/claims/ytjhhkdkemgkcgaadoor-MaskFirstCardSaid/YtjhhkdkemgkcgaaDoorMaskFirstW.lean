/-
  The law MaskFirst, walked.
-/
import Derived.Test.YtjhhkdkemgkcgaaDoorMaskTk
set_option linter.unusedVariables false
set_option linter.unusedSimpArgs false
namespace Go.Proofs.YtjhhkdkemgkcgaaDoor
open Go.RowKit

/-- What Pick finds: nothing; or so many steps on, nothing between. -/
theorem pick_cases {m f n : Nat} (hf : f < n) : (pickOf m f n = -1 ∧ ∀ j, j < n → has m j = false) ∨ ∃ k, k < n ∧ pickOf m f n = ((f + k) % n : Nat) ∧ has m ((f + k) % n) = true ∧ ∀ t, t < k → has m ((f + t) % n) = false := by
  by_cases h : ∃ k, k < n ∧ has m ((f + k) % n) = true
  · right
    have hmin : ∀ K, (∃ k, k < K ∧ k < n ∧ has m ((f + k) % n) = true) → ∃ k, k < n ∧ has m ((f + k) % n) = true ∧ ∀ t, t < k → has m ((f + t) % n) = false := by
      intro K
      induction K with
      | zero => rintro ⟨k, hk, _⟩; exact absurd hk (Nat.not_lt_zero _)
      | succ K ih =>
        rintro ⟨k, hk, hkn, hh⟩
        by_cases h' : ∃ k, k < K ∧ k < n ∧ has m ((f + k) % n) = true
        · exact ih h'
        · refine ⟨k, hkn, hh, fun t ht => ?_⟩
          cases e : has m ((f + t) % n) with
          | false => rfl
          | true => exact absurd ⟨t, by omega, by omega, e⟩ h'
    obtain ⟨k, hk, hh⟩ := h
    obtain ⟨k, h1, h2, h3⟩ := hmin n ⟨k, hk, hk, hh⟩
    exact ⟨k, h1, pick_at hf h1 h3 h2, h2, h3⟩
  · left
    have h0 : ∀ t, t < n → has m ((f + t) % n) = false := fun t ht => by
      cases e : has m ((f + t) % n) with
      | false => rfl
      | true => exact absurd ⟨t, ht, e⟩ h
    refine ⟨pick_no hf h0, fun j hj => ?_⟩
    rcases Nat.lt_or_ge j f with h1 | h1
    · have := h0 (j + n - f) (by omega)
      rwa [show f + (j + n - f) = j + n by omega, Nat.add_mod_right, Nat.mod_eq_of_lt hj] at this
    · have := h0 (j - f) (by omega)
      rwa [show f + (j - f) = j by omega, Nat.mod_eq_of_lt hj] at this

theorem mod1 {n x : Nat} (h : n ≤ x) (h2 : x < 2 * n) : x % n = x - n := by rw [Nat.mod_eq_sub_mod h, Nat.mod_eq_of_lt (by omega)]
theorem steps_left {f k t n : Nat} (hf : f < n) (hk : k < n) (ht : t ≤ k) : ((f + k) % n + n - (f + t) % n) % n = k - t := by
  rcases Nat.lt_or_ge (f + k) n with h1 | h1
  · rw [Nat.mod_eq_of_lt h1, Nat.mod_eq_of_lt (show f + t < n by omega), mod1 (by omega) (by omega)]; omega
  · rw [mod1 h1 (by omega)]
    rcases Nat.lt_or_ge (f + t) n with h2 | h2
    · rw [Nat.mod_eq_of_lt h2, Nat.mod_eq_of_lt (by omega)]; omega
    · rw [mod1 h2 (by omega), mod1 (by omega) (by omega)]; omega

attribute [local irreducible] pickI
set_option maxHeartbeats 2000000 in
theorem maskFirst_walk {W : World} (a0 a1 a2 : Int) (w0 : (Lit.int .u16 a0).wf = true) (w1 : (Lit.int .u8 a1).wf = true) (w2 : (Lit.int .u8 a2).wf = true) (hT : Tab W) :
    Calls Tryd.prog 9 #[.int .u16 a0, .int .u8 a1, .int .u8 a2] W fun e w' => e = .returned (.bool true) ∧ Below W.heap.size W w' := by
  obtain ⟨m, rfl, hm⟩ := u16_nat w0
  obtain ⟨h3, h3'⟩ := u8_range w1
  obtain ⟨h4, h4'⟩ := u8_range w2
  clear w0 w1 w2
  have ht : TK W W := TK.refl hT
  go_enter Tryd.func9, Tryd.ntmps9
  go_wp2_with fail
  refine (pick_tk m _ _ hm ht).mono ?_
  rintro e A ⟨rfl, hA⟩
  have hf0 : 0 ≤ a1 % (1 + a2 % 16) := Int.emod_nonneg _ (by omega)
  have hf1 : a1 % (1 + a2 % 16) < 1 + a2 % 16 := Int.emod_lt_of_pos _ (by omega)
  have hn1 : 1 ≤ 1 + a2 % 16 := by omega
  have hn2 : 1 + a2 % 16 ≤ 16 := by omega
  generalize a1 % (1 + a2 % 16) = f at *
  generalize 1 + a2 % 16 = n at *
  have epk : pickI m f n = pickOf m f.toNat n.toNat := by unfold pickI; rw [if_pos ⟨hn1, hn2, hf0, hf1⟩]
  have hfn : f.toNat < n.toNat := by omega
  rcases pick_cases (m := m) hfn with ⟨hp, hno⟩ | ⟨k, hk, hp, hh, hno⟩
  · rw [epk, hp]
    clear epk hp
    go_wp2_with fail
    go_loop [10] (fun v => ∃ i : Nat, (i : Int) ≤ n ∧ v = .int .i64 (i : Int)) (fun v => n.toNat - (intOf v).toNat)
    case atStart => exact ⟨0, by omega, rfl⟩
    case round =>
      obtain ⟨i, hi, rfl⟩ := hrel
      by_cases hin : (i : Int) < n
      · have c1 := has_calls m (i : Int) hm A
        rw [hasI_nat, hno i (by omega)] at c1
        go_wp2_with fail
        refine c1.mono ?_
        rintro e w' ⟨rfl, hw⟩; subst w'
        clear c1
        go_wp2_with fail
        go_round
        case rel => exact ⟨i + 1, by omega, by simp⟩
        case measure => simp [intOf]; omega
      · go_wp2_with fail
        refine (known_tk hA).mono ?_
        rintro e B ⟨rfl, hB⟩
        go_wp2_with fail
        go_ret
        exact ⟨rfl, hB.below⟩
  · rw [epk, hp]
    clear epk hp
    have hst : ∀ t, t ≤ k → ((f.toNat + k) % n.toNat + n.toNat - (f.toNat + t) % n.toNat) % n.toNat = k - t := fun t ht => steps_left hfn hk ht
    have hKn : (f.toNat + k) % n.toNat < n.toNat := Nat.mod_lt _ (by omega)
    have hKe : ∀ t, t = k → (f.toNat + t) % n.toNat = (f.toNat + k) % n.toNat := fun t e => by rw [e]
    have hF0 : (f.toNat + 0) % n.toNat = f.toNat := by rw [Nat.add_zero, Nat.mod_eq_of_lt hfn]
    generalize (f.toNat + k) % n.toNat = K at hst hKn hKe hh
    have hK1 : (K : Int) < n := by omega
    have hK0 : ¬ (K : Int) < 0 := by omega
    have hK2 : ¬ n ≤ (K : Int) := by omega
    go_wp2_with fail
    go_loop [11] (fun v => ∃ (t x : Nat), t ≤ k ∧ (f.toNat + t) % n.toNat = x ∧ v = .int .i64 (x : Int)) (fun v => (K + n.toNat - (intOf v).toNat) % n.toNat)
    case atStart => exact ⟨0, f.toNat, Nat.zero_le _, hF0, by rw [Int.toNat_of_nonneg hf0]⟩
    case round =>
      obtain ⟨t, x, ht', hx, rfl⟩ := hrel
      by_cases htk : t < k
      · have hnx := hno t htk
        have hs1 := hst t ht'
        have hs2 := hst (t + 1) htk
        rw [hx] at hnx hs1
        have hxn : x < n.toNat := by rw [← hx]; exact Nat.mod_lt _ (by omega)
        have hne : ((x : Int) != (K : Int)) = true := by
          have : x ≠ K := fun e => by rw [e, hh] at hnx; cases hnx
          simp; omega
        have hnext : ((x : Int) + 1) % n = (((f.toNat + (t + 1)) % n.toNat : Nat) : Int) := by
          rw [← Nat.add_assoc, ← Nat.mod_add_mod (f.toNat + t) n.toNat 1, hx, Int.natCast_emod, Int.natCast_add, Int.toNat_of_nonneg (by omega)]
          rfl
        have c1 := has_calls m (x : Int) hm A
        rw [hasI_nat, hnx] at c1
        clear hnx hx
        have hy : ∃ y, (f.toNat + (t + 1)) % n.toNat = y := ⟨_, rfl⟩
        obtain ⟨y, hy⟩ := hy
        rw [hy] at hnext hs2
        have hy' := Lib.hid hy
        clear hy
        go_wp2_with fail
        refine c1.mono ?_
        rintro e w' ⟨rfl, hw⟩; subst w'
        clear c1
        go_wp2_with fail
        go_round
        case rel => exact ⟨t + 1, y, htk, hy'.out, by simp [hnext]⟩
        case measure => simp [intOf, hnext, hs1, hs2]; omega
      · have hxK : x = K := by rw [← hx]; exact hKe t (by omega)
        subst hxK
        have hne : ((x : Int) != (x : Int)) = false := by simp
        clear hx hKe hst
        have c1 := fun A => has_calls m (x : Int) hm A
        rw [hasI_nat, hh] at c1
        go_wp2_with fail
        refine (known_tk hA).mono ?_
        rintro e B ⟨rfl, hB⟩
        go_wp2_with fail
        refine (c1 B).mono ?_
        rintro e w' ⟨rfl, hw⟩; subst w'
        clear c1
        go_wp2_with fail
        go_ret
        exact ⟨rfl, hB.below⟩
end Go.Proofs.YtjhhkdkemgkcgaaDoor
