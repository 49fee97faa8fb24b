/-
  The law MaskTurned, walked.
-/
import Derived.Test.YtjhhkdkemgkcgaaDoorMaskTurnsW
import Derived.Sort.AtCall
import Derived.BigQuiet
set_option linter.unusedVariables false
set_option linter.unusedSimpArgs false
namespace Go.Proofs.YtjhhkdkemgkcgaaDoor
open Go.RowKit

theorem has_col (rows : List Nat) (k i : Nat) : ∀ L, has (colOf rows k L) i = (decide (i < L) && has (rows.getD i 0) k)
  | 0 => by simp [colOf, has_zero]
  | L + 1 => by
    rw [colOf]
    by_cases hh : has (rows.getD L 0) k = true
    · rw [if_pos hh, has_add_pow _ _ _ (colOf_lt rows k L), has_col rows k i L]
      by_cases e : i = L
      · subst e; rw [List.getD_eq_getElem?_getD] at hh; simp [hh]
      · by_cases h : i < L
        · have h' : i < L + 1 := by omega
          simp [h, h', e]
        · have h' : ¬ i < L + 1 := by omega
          simp [h, h', e]
    · rw [if_neg hh, Nat.add_zero, has_col rows k i L]
      by_cases e : i = L
      · subst e; rw [List.getD_eq_getElem?_getD] at hh; simp [hh]
      · by_cases h : i < L
        · have h' : i < L + 1 := by omega
          simp [h, h']
        · have h' : ¬ i < L + 1 := by omega
          simp [h, h']
theorem colOf_lt16 (rows : List Nat) (k : Nat) : colOf rows k 16 < 65536 := colOf_lt rows k 16

set_option maxHeartbeats 4000000 in
theorem maskTurned_walk {W : World} (v0 : Value) (a1 : Int) (w0 : Arg Tryd.prog W 27 v0) (w1 : (Lit.int .u8 a1).wf = true) (hT : Tab W) :
    Calls Tryd.prog 4 #[v0, .int .u8 a1] W fun e w' => e = .returned (.bool true) ∧ Below W.heap.size W w' := by
  obtain ⟨rows, hr, hR⟩ := rows_of_arg w0
  obtain ⟨h3, h3'⟩ := u8_range w1
  clear w0 w1
  have ht : TK W W := TK.refl hT
  obtain ⟨A0, c0, rfl⟩ : ∃ A c, v0 = .slice A rows.length c := by obtain ⟨_, A, c, h, _⟩ := hR; exact ⟨A, c, h⟩
  go_enter Tryd.func4, Tryd.ntmps4
  by_cases hl : 16 < rows.length
  · have hl' : (16 : Int) < (rows.length : Int) := by omega
    go_wp2_with fail
    refine (known_tk ht).mono ?_
    rintro e A ⟨rfl, hA⟩
    go_wp2_with fail
    go_ret
    exact ⟨rfl, hA.below⟩
  · have hl' : ¬ (16 : Int) < (rows.length : Int) := by omega
    go_wp2_with fail
    refine (known_tk ht).mono ?_
    rintro e A ⟨rfl, hA⟩
    go_wp2_with fail
    refine (turn_tk _ rows _ hA hr hR).mono ?_
    rintro e B ⟨u, rfl, hu, hB, _⟩
    clear hA
    have hcols : turnI rows (1 + a1 % 16) = colsOf rows (1 + a1 % 16).toNat 16 := by unfold turnI; rw [if_pos (by omega)]
    rw [hcols, colsOf_length] at hu
    clear hcols
    obtain ⟨N, hN, hN0, hN1⟩ : ∃ N : Nat, (1 + a1 % 16).toNat = N ∧ ((N : Int) != 1 + a1 % 16) = false ∧ Hid ((N : Int) = 1 + a1 % 16) := ⟨_, rfl, by simp; omega, by show _ = _; omega⟩
    rw [hN] at hu
    clear hN
    obtain ⟨A1, c1, hsh, _, _⟩ := hu.shape
    subst hsh
    go_wp2_with fail
    go_loopw [7] (fun v wr => ∃ i : Nat, i ≤ rows.length ∧ v = .int .i64 (i : Int) ∧ Keeps (fun _ => False) B wr) (fun v _ => rows.length - (intOf v).toNat)
    case atStart => exact ⟨0, Nat.zero_le _, rfl, Keeps.refl _ _⟩
    case round =>
      obtain ⟨i, hi, rfl, hk⟩ := hrel
      by_cases hil : i < rows.length
      · have hii : (i : Int) < (rows.length : Int) := by omega
        go_wp2_with fail
        go_loopw [8] (fun v wr => ∃ j : Nat, j ≤ N ∧ v = .int .i64 (j : Int) ∧ Keeps (fun _ => False) B wr) (fun v _ => N - (intOf v).toNat)
        case atStart => exact ⟨0, Nat.zero_le _, rfl, hk⟩
        case round =>
          clear hk
          obtain ⟨j, hj, rfl, hk⟩ := hrel
          by_cases hjn : j < N
          · have hj1 : (j : Int) < 1 + a1 % 16 := by have := show (N : Int) = 1 + a1 % 16 from hN1; omega
            have hj2 : (j : Int) < (N : Int) := by omega
            obtain ⟨g, off, c, hg, _, _, hcell⟩ := ((hR.below hB.below).mono hB.keeps.size).at_ (by simp; omega)
            obtain ⟨g', off', c', hg', _, hcell', _⟩ := hu.cell (by omega)
            injection hg with hA _ hC
            injection hg' with hA' _ hC'
            subst hA hA' hC hC'
            have hx : (rows.map encU)[i]? = some (.int .u16 (rows[i] : Nat)) := by rw [List.getElem?_map, List.getElem?_eq_getElem hil]; rfl
            have hy : ((colsOf rows N 16).map encU)[j]? = some (.int .u16 (colOf rows j 16 : Nat)) := by rw [List.getElem?_map, colsOf_at _ _ _ _ hjn]; rfl
            have q1 := hk.cell (hcell i _ hx) (fun h => h)
            have q2 := hk.cell (hcell' j _ hy) (fun h => h)
            clear hcell hcell' hx hy
            have x1 := fun w => has_calls rows[i] (j : Int) (hr _ (List.getElem_mem _)) w
            have x2 := fun w => has_calls (colOf rows j 16) (i : Int) (colOf_lt16 rows j) w
            have hsame : has (colOf rows j 16) i = has rows[i] j := by
              rw [has_col, decide_eq_true (by omega), Bool.true_and, List.getD_eq_getElem?_getD, List.getElem?_eq_getElem hil]; rfl
            simp only [hasI_nat, hsame] at x1 x2
            clear hsame
            generalize colOf rows j 16 = y at q2 x2
            generalize has rows[i] j = b at x1 x2
            generalize rows[i] = x at q1 x1
            have H1 := Lib.hid x1
            have H2 := Lib.hid x2
            clear x1 x2
            have hbb : (b != b) = false := by cases b <;> rfl
            go_wp2_with fail
            go_quiet ((first | (go_at_call_has 13 (Value.int .u16 (x : Int)); exact Calls.quiet_of_same (H1.out _)) | (go_at_call_has 13 (Value.int .u16 (y : Int)); exact Calls.quiet_of_same (H2.out _))))
            go_wp2_with fail
            go_roundw
            case rel => exact ⟨j + 1, by omega, by simp, hk.trans (Keeps.drewN _ _ _)⟩
            case measure => simp [intOf]; omega
          · have hj1 : ¬ (j : Int) < 1 + a1 % 16 := by have := show (N : Int) = 1 + a1 % 16 from hN1; omega
            go_wp2_with fail
            go_roundw
            case rel => exact ⟨i + 1, by omega, by simp, hk⟩
            case measure => simp [intOf]; omega
      · obtain rfl : i = rows.length := by omega
        go_wp2_with fail
        go_ret
        exact ⟨rfl, (hB.next hk).below⟩
end Go.Proofs.YtjhhkdkemgkcgaaDoor
