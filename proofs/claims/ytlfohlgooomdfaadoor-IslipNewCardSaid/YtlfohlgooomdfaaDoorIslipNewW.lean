/-
  The law IslipNew, walked.
-/
import Derived.Test.YtlfohlgooomdfaaDoorIslipSmall
set_option linter.unusedVariables false
set_option linter.unusedSimpArgs false
namespace Go.Proofs.YtlfohlgooomdfaaDoor
open Go.RowKit Go.Sort

theorem zeros_ints (n : Nat) : ((lst n fun _ => 0).map Int.ofNat).map (Value.int .i64) = List.replicate n (.int .i64 0) := by
  rw [lst_const]; simp

set_option maxRecDepth 100000 in
set_option maxHeartbeats 2000000 in
theorem islipNew_walk {W : World} (a0 : Int) (w0 : (Lit.int .i64 a0).wf = true) (hT : Tab W) :
    Calls Tryd.prog 3 #[.int .i64 a0] W fun e w' => e = .returned (.bool true) ∧ Below W.heap.size W w' := by
  clear w0
  have ht : TK W W := TK.refl hT
  by_cases hr : 1 ≤ a0 ∧ a0 ≤ 16
  · obtain ⟨n, rfl⟩ : ∃ n : Nat, a0 = n := ⟨a0.toNat, by omega⟩
    have h1 : 1 ≤ n := by omega
    have h2 : n ≤ 16 := by omega
    clear hr
    go_enter Tryd.func3, Tryd.ntmps3
    go_wp2_with fail
    refine (new_ak n h1 h2 W).mono ?_
    rintro e A ⟨b, g, a, rfl, hA, hk, hb, hg, ha⟩
    replace ht := ht.next hk
    go_wp2_with fail
    refine (grants_ak b n g a _ _ A hA h2).mono ?_
    rintro e B ⟨u, rfl, hu, kB⟩
    obtain ⟨uA, uc, rfl, _, _⟩ := hu.shape
    go_wp2_with fail
    refine (accepts_ak b n g a _ _ B (hA.keeps kB (fun _ _ h => h)) h2).mono ?_
    rintro e C ⟨v, rfl, hv, kC⟩
    obtain ⟨vA, vc, rfl, _, _⟩ := hv.shape
    replace hu := hu.keeps kC (fun _ _ h => h)
    rw [zeros_ints] at hu hv
    replace ht := (ht.next kB).next kC
    clear hA hk kB kC
    obtain ⟨ug, uo, _, eu, _, hcu, _⟩ := hu.cell h1
    obtain ⟨vg, vo, _, ev, _, hcv, _⟩ := hv.cell h1
    injection eu with eu _ eu2
    injection ev with ev _ ev2
    subst eu ev eu2 ev2
    have hU := Lib.hid hcu
    have hV := Lib.hid hcv
    clear hcu hcv hu hv
    go_wp2_with fail
    go_loop [6] (fun v => ∃ k : Nat, k ≤ n ∧ v = .int .i64 (k : Int)) (fun v => n - (intOf v).toNat)
    case atStart => exact ⟨0, Nat.zero_le _, rfl⟩
    case round =>
      obtain ⟨k, hk, rfl⟩ := hrel
      by_cases hkn : k < n
      · have hkk : (k : Int) < (n : Int) := by omega
        have c1 := hU.out k _ (by rw [List.getElem?_replicate, if_pos hkn])
        have c2 := hV.out k _ (by rw [List.getElem?_replicate, if_pos hkn])
        go_wp2_with fail
        go_round
        case rel => exact ⟨k + 1, by omega, rfl⟩
        case measure => simp [intOf]; omega
      · obtain rfl : k = n := by omega
        have hkk : ¬ (k : Int) < (k : Int) := by omega
        go_wp2_with fail
        refine (known_tk ht).mono ?_
        rintro e D ⟨rfl, hD⟩
        go_wp2_with fail
        go_ret
        exact ⟨rfl, hD.below⟩
  · go_enter Tryd.func3, Tryd.ntmps3
    go_wp2_with fail
    refine (new_none a0 (by omega) W).mono ?_
    rintro e A ⟨rfl, hA⟩
    subst A
    go_wp2_with fail
    refine (known_tk ht).mono ?_
    rintro e D ⟨rfl, hD⟩
    by_cases h1 : a0 < 1
    · go_wp2_with fail
      go_ret
      exact ⟨rfl, hD.below⟩
    · have h2 : (16 : Int) < a0 := by omega
      go_wp2_with fail
      go_ret
      exact ⟨rfl, hD.below⟩
end Go.Proofs.YtlfohlgooomdfaaDoor
