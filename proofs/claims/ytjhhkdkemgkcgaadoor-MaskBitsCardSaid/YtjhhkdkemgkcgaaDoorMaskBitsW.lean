/-
  The law MaskBits, walked.
-/
import Derived.Test.YtjhhkdkemgkcgaaDoorMaskTk
import Derived.BigQuiet
set_option linter.unusedVariables false
set_option linter.unusedSimpArgs false
namespace Go.Proofs.YtjhhkdkemgkcgaaDoor
open Go.RowKit

/-- What the bits make. -/
def sumB (l : List Nat) : Nat := (l.map fun b => 2 ^ b).sum
theorem sumB_nil : sumB [] = 0 := rfl
theorem sumB_cons (a : Nat) (l : List Nat) : sumB (a :: l) = 2 ^ a + sumB l := by simp [sumB]
theorem sumB_bits : ∀ m, m < 65536 → sumB (bitsOf m) = m := by
  intro m
  induction m using Nat.strongRecOn with
  | _ m ih =>
    intro hm
    by_cases h0 : m = 0
    · rw [h0, bitsOf_zero, sumB_nil]
    · obtain ⟨h1, _, h3⟩ := tz_at m hm h0
      have hp : 0 < 2 ^ tzOf m := Nat.two_pow_pos _
      have hle : 2 ^ tzOf m ≤ m := by rw [← h1]; exact Nat.mod_le _ _
      rw [bits_low m _ h1 h3]
      rw [sumB_cons, ih _ (by omega) (by omega)]; omega
theorem sumB_take {l : List Nat} {i : Nat} (h : i < l.length) : sumB (l.take (i + 1)) = sumB (l.take i) + 2 ^ l[i] := by
  unfold sumB
  rw [List.take_succ_eq_append_getElem h, List.map_append, List.sum_append]; simp
theorem sumB_take_le (l : List Nat) (i : Nat) : sumB (l.take i) ≤ sumB l := by
  have : l.take i ++ l.drop i = l := List.take_append_drop i l
  unfold sumB
  conv => rhs; rw [← this, List.map_append, List.sum_append]
  omega
theorem bits_sorted (m : Nat) : (bitsOf m).Pairwise (· < ·) := by unfold bitsOf; exact List.pairwise_lt_range.filter _
theorem bits_rise {m i : Nat} (h : i + 1 < (bitsOf m).length) : (bitsOf m)[i] < (bitsOf m)[i + 1] := List.pairwise_iff_getElem.1 (bits_sorted m) i (i + 1) (by omega) h (by omega)
theorem bits_at {m i : Nat} (h : i < (bitsOf m).length) : (bitsOf m)[i] < 16 := (mem_bitsOf.1 (List.getElem_mem h)).1

set_option maxHeartbeats 4000000 in
theorem maskBits_walk (a0 : Int) (w0 : (Lit.int .u16 a0).wf = true) (W : World) (hT : Tab W) :
    Calls Tryd.prog 10 #[.int .u16 a0] W fun e w' => e = .returned (.bool true) ∧ Below W.heap.size W w' := by
  obtain ⟨m, rfl, hm⟩ := u16_nat w0
  clear w0
  have ht : TK W W := TK.refl hT
  go_enter Tryd.func10, Tryd.ntmps10
  go_wp2_with fail
  refine (bits_calls m hm W hT).mono ?_
  rintro e A ⟨v, rfl, hq, hk⟩
  have hA := ht.next hk
  clear hk
  obtain ⟨A0, c0, hsh, _, hc0⟩ := hq.shape
  subst hsh
  have hsum := sumB_bits m hm
  have hlen := bitsOf_length_le m
  go_wp2_with fail
  go_loopw [4, 5] (fun x v wr => ∃ (i s : Nat), i ≤ (bitsOf m).length ∧ sumB ((bitsOf m).take i) = s ∧ x = .int .u16 (s : Int) ∧ v = .int .i64 (i : Int) ∧ Keeps (fun _ => False) A wr) (fun _ v _ => (bitsOf m).length - (intOf v).toNat)
  case atStart => exact ⟨0, 0, Nat.zero_le _, rfl, rfl, rfl, Keeps.refl _ _⟩
  case round =>
    obtain ⟨i, s, hi, hs, rfl, rfl, hk⟩ := hrel
    by_cases hil : i < (bitsOf m).length
    · have hii : (i : Int) < ((bitsOf m).length : Int) := by omega
      have hi0 : (0 : Int) ≤ (i : Int) := by omega
      obtain ⟨g, off, c, hg, _, hcell, _⟩ := hq.cell (by omega)
      injection hg with hA' _ hC
      subst hA' hC
      have hx : ((bitsOf m).map encI)[i]? = some (.int .i64 ((bitsOf m)[i] : Nat)) := by rw [List.getElem?_map, List.getElem?_eq_getElem hil]; rfl
      have q1 := hk.cell (hcell i _ hx) (fun h => h)
      have hb := bits_at hil
      have hnext := sumB_take hil
      have htl := sumB_take_le (bitsOf m) (i + 1)
      rw [hs] at hnext
      rw [hnext, hsum] at htl
      have c1 := fun w => rbit_calls ((bitsOf m)[i]) hb w
      have hb0 : (0 : Int) ≤ ((bitsOf m)[i] : Nat) := by omega
      have hb1 : (((bitsOf m)[i] : Nat) : Int) ≤ 15 := by omega
      have hbig : (i : Int) + 1 ≤ 9223372036854775807 := by omega
      by_cases hi1 : i = 0
      · have hi2 : (i : Int) ≤ 0 := by omega
        clear hs hcell hx
        generalize (bitsOf m)[i] = b at *
        generalize 2 ^ b = p at *
        have hn0 : ¬ 0 < i := by omega
        clear hi1
        go_wp2_with fail
        have hn1 : ¬ (b : Int) < 0 := by omega
        have hn2 : ¬ 15 < (b : Int) := by omega
        go_quiet (fail)
        go_wp2_with fail
        refine (c1 _).mono ?_
        rintro e w' ⟨rfl, hw⟩; subst w'
        clear c1
        have hsp : (s : Int) + (p : Int) ≤ 65535 := by omega
        go_wp2_with fail
        go_roundw
        case rel => exact ⟨i + 1, s + p, hil, hnext, by simp, by simp, hk.trans (Keeps.drewN _ _ _)⟩
        case measure => simp [intOf]; omega
      · obtain ⟨j, hji, hj⟩ : ∃ j : Nat, (i : Int) - 1 = (j : Int) ∧ j + 1 = i := ⟨i - 1, by omega, by omega⟩
        have hip : 0 < i := by omega
        clear hi1
        have hjl : j < (bitsOf m).length := by omega
        have hx' : ((bitsOf m).map encI)[j]? = some (.int .i64 ((bitsOf m)[j] : Nat)) := by rw [List.getElem?_map, List.getElem?_eq_getElem hjl]; rfl
        have q0 := hk.cell (hcell j _ hx') (fun h => h)
        have hrise : (bitsOf m)[j] < (bitsOf m)[i] := by subst hj; exact bits_rise hil
        clear hs hcell hx hx' hj
        have hjj : (j : Int) < ((bitsOf m).length : Int) := by omega
        have hj0 : (0 : Int) ≤ (j : Int) := by omega
        generalize (bitsOf m)[i] = b at *
        generalize (bitsOf m)[j] = b' at *
        generalize 2 ^ b = p at *
        go_wp2_with fail
        have hn1 : ¬ (b : Int) < 0 := by omega
        have hn2 : ¬ 15 < (b : Int) := by omega
        have hn3 : ¬ b ≤ b' := by omega
        go_quiet (fail)
        go_wp2_with fail
        refine (c1 _).mono ?_
        rintro e w' ⟨rfl, hw⟩; subst w'
        clear c1
        have hsp : (s : Int) + (p : Int) ≤ 65535 := by omega
        go_wp2_with fail
        go_roundw
        case rel => exact ⟨i + 1, s + p, hil, hnext, by simp, by simp, hk.trans (Keeps.drewN _ _ _)⟩
        case measure => simp [intOf]; omega
    · obtain rfl : i = (bitsOf m).length := by omega
      rw [List.take_length, hsum] at hs
      subst hs
      go_wp2_with fail
      refine (known_tk (hA.next hk)).mono ?_
      rintro e B ⟨rfl, hB⟩
      go_wp2_with fail
      refine (count_calls m hm B).mono ?_
      rintro e C ⟨rfl, nc, rfl⟩
      go_wp2_with fail
      go_ret
      exact ⟨rfl, (hB.next (Keeps.drewN _ _ _)).below⟩
end Go.Proofs.YtjhhkdkemgkcgaaDoor
