/-
  The law MaskTwice, walked.
-/
import Derived.Test.YtjhhkdkemgkcgaaDoorMaskTurnedW
set_option linter.unusedVariables false
set_option linter.unusedSimpArgs false
namespace Go.Proofs.YtjhhkdkemgkcgaaDoor
open Go.RowKit

/-- The rows' low bits. -/
def lows (rows : List Nat) (N i : Nat) : List Nat := (rows.take i).map fun x => x % 2 ^ N
theorem lows_length {rows : List Nat} {N i : Nat} (h : i ≤ rows.length) : (lows rows N i).length = i := by simp [lows]; omega
theorem lows_snoc {rows : List Nat} {N i : Nat} (h : i < rows.length) : lows rows N (i + 1) = lows rows N i ++ [rows[i] % 2 ^ N] := by
  unfold lows; rw [List.take_succ_eq_append_getElem h, List.map_append]; rfl
theorem mod_yes {x j : Nat} (h : has x j = true) : x % 2 ^ (j + 1) = x % 2 ^ j + 2 ^ j := by
  have := b01_has x j
  rw [h] at this
  have e : b01 true = 1 := rfl
  rw [Nat.mod_pow_succ, ← this, e, Nat.mul_one]
theorem mod_no {x j : Nat} (h : has x j = false) : x % 2 ^ (j + 1) = x % 2 ^ j := by
  have := b01_has x j
  rw [h] at this
  have e : b01 false = 0 := rfl
  rw [Nat.mod_pow_succ, ← this, e, Nat.mul_zero, Nat.add_zero]
theorem twice_cols {l : List Nat} {N : Nat} (hN : N ≤ 16) (hl : l.length = N) (hx : ∀ x ∈ l, x < 2 ^ N) : colsOf (colsOf l N 16) N 16 = l := by
  refine List.ext_getElem (by rw [colsOf_length, hl]) fun k h1 h2 => ?_
  have hk : k < N := by rw [colsOf_length] at h1; exact h1
  have e1 := colsOf_at (colsOf l N 16) N 16 k hk
  rw [List.getElem?_eq_getElem h1] at e1
  injection e1 with e1
  rw [e1]
  have hlk : l[k] < 2 ^ N := hx _ (List.getElem_mem _)
  have hp : 2 ^ N ≤ 65536 := Nat.le_trans (Nat.pow_le_pow_right (by decide) hN) (by decide)
  refine eq_of_has (colOf_lt16 _ _) (by omega) fun i hi => ?_
  rw [has_col, decide_eq_true hi, Bool.true_and]
  by_cases hiN : i < N
  · rw [List.getD_eq_getElem?_getD, colsOf_at _ _ _ _ hiN]
    show has (colOf l i 16) k = _
    rw [has_col, decide_eq_true (by omega), Bool.true_and, List.getD_eq_getElem?_getD, List.getElem?_eq_getElem (by omega)]
    rfl
  · rw [List.getD_eq_getElem?_getD, List.getElem?_eq_none (by rw [colsOf_length]; omega)]
    show has 0 k = _
    rw [has_zero]
    cases h : has l[k] i with
    | false => rfl
    | true => exact absurd (has_lt hlk h) hiN
theorem turn_twice {l : List Nat} {N : Nat} (h1 : 1 ≤ N) (hN : N ≤ 16) (hl : l.length = N) (hx : ∀ x ∈ l, x < 2 ^ N) : turnI (turnI l (N : Int)) (N : Int) = l := by
  unfold turnI
  rw [if_pos (by omega), if_pos (by omega)]
  exact twice_cols hN hl hx
theorem turn_lt {rows : List Nat} {n : Int} : ∀ x ∈ turnI rows n, x < 65536 := by
  unfold turnI
  intro x hx
  by_cases h : 1 ≤ n ∧ n ≤ 16
  · rw [if_pos h] at hx
    obtain ⟨k, _, rfl⟩ := List.mem_map.1 hx
    exact colOf_lt16 _ _
  · rw [if_neg h] at hx; cases hx

attribute [local irreducible] turnI
set_option maxHeartbeats 4000000 in
theorem maskTwice_walk {W : World} (v0 : Value) (a1 : Int) (w0 : Arg Tryd.prog W 27 v0) (w1 : (Lit.int .u8 a1).wf = true) (hT : Tab W) :
    Calls Tryd.prog 8 #[v0, .int .u8 a1] W fun e w' => e = .returned (.bool true) ∧ Below W.heap.size W w' := by
  obtain ⟨rows, hr, hR⟩ := rows_of_arg w0
  obtain ⟨h3, h3'⟩ := u8_range w1
  clear w0 w1
  have ht : TK W W := TK.refl hT
  obtain ⟨A0, c0, rfl⟩ : ∃ A c, v0 = .slice A rows.length c := by obtain ⟨_, A, c, h, _⟩ := hR; exact ⟨A, c, h⟩
  obtain ⟨N, hN, hN0, hN1⟩ : ∃ N : Nat, 1 + a1 % 16 = (N : Int) ∧ 1 ≤ N ∧ N ≤ 16 := ⟨(1 + a1 % 16).toNat, by omega, by omega, by omega⟩
  go_enter Tryd.func8, Tryd.ntmps8
  by_cases hl : rows.length < N
  · have hl' : (rows.length : Int) < (N : Int) := by omega
    go_wp2_with fail
    refine (known_tk ht).mono ?_
    rintro e A ⟨rfl, hA⟩
    go_wp2_with fail
    go_ret
    exact ⟨rfl, hA.below⟩
  have hl' : ¬ (rows.length : Int) < (N : Int) := by omega
  by_cases hm : 100 < rows.length
  · have hm' : (100 : Int) < (rows.length : Int) := by omega
    go_wp2_with fail
    refine (known_tk ht).mono ?_
    rintro e A ⟨rfl, hA⟩
    go_wp2_with fail
    go_ret
    exact ⟨rfl, hA.below⟩
  have hm' : ¬ (100 : Int) < (rows.length : Int) := by omega
  go_wp2_with fail
  refine (known_tk ht).mono ?_
  rintro e A ⟨rfl, hA⟩
  go_wp2_with fail
  clear hN hT ht
  go_loopw [6, 7] (fun l v wr => ∃ i : Nat, i ≤ N ∧ v = .int .i64 (i : Int) ∧ QS wr 22 1 l (lows rows N i).length ((lows rows N i).map encU) ∧ Keeps (fun _ => False) A wr ∧ ∀ b, l.ownBlock = some b → A.heap.size ≤ b) (fun _ v _ => N - (intOf v).toNat)
  case atStart => exact ⟨0, by omega, rfl, QS.nil _ _ _, Keeps.refl _ _, fun b h => by cases h⟩
  case round =>
    obtain ⟨i, hi, rfl, hq, hk, hb⟩ := hrel
    by_cases hin : i < N
    · have hii : (i : Int) < (N : Int) := by omega
      have hil : (i : Int) < (rows.length : Int) := by omega
      obtain ⟨g, off, c, hg, _, _, hcell⟩ := ((hR.below hA.below).mono hA.keeps.size).at_ (by simp; omega)
      injection hg with hA' _ hC'
      subst hA' hC'
      have hx : (rows.map encU)[i]? = some (.int .u16 (rows[i]'(by omega) : Nat)) := by rw [List.getElem?_map, List.getElem?_eq_getElem (by omega)]; rfl
      have q0 := hcell i _ hx
      have hx16 : rows[i]'(by omega) < 65536 := hr _ (List.getElem_mem _)
      have hlow := lows_snoc (N := N) (i := i) (rows := rows) (by omega)
      clear hcell hx
      generalize rows[i]'(by omega) = x at *
      have q1 := hk.cell q0 (fun h => h)
      clear q0
      go_wp2_with fail
      go_loopw [8, 9] (fun s v wr2 => ∃ j s' : Nat, j ≤ N ∧ x % 2 ^ j = s' ∧ s = .int .u16 (s' : Int) ∧ v = .int .i64 (j : Int) ∧ wr2 = wr) (fun _ v _ => N - (intOf v).toNat)
      case atStart => exact ⟨0, 0, Nat.zero_le _, by simp [Nat.mod_one], rfl, rfl, rfl⟩
      case round =>
        obtain ⟨j, s, hj, hs, rfl, rfl, hw⟩ := hrel
        subst hw
        by_cases hjn : j < N
        · have hjj : (j : Int) < (N : Int) := by omega
          have c1 := rhas_calls x (j : Int) hx16 wr
          rw [hasI_nat] at c1
          have hs16 : s < 2 ^ j := by rw [← hs]; exact Nat.mod_lt _ (Nat.two_pow_pos _)
          have hp16 : 2 * 2 ^ j ≤ 65536 := by
            have := Nat.pow_le_pow_right (n := 2) (by decide) (show j + 1 ≤ 16 by omega)
            rw [Nat.pow_succ] at this; omega
          have hyes := mod_yes (x := x) (j := j)
          have hno := mod_no (x := x) (j := j)
          rw [hs] at hyes hno
          have c2 := rbit_calls j (by omega) wr
          clear hs
          generalize 2 ^ j = p at *
          go_wp2_with fail
          refine c1.mono ?_
          rintro e w' ⟨rfl, hw⟩; subst w'
          clear c1
          cases hh : has x j with
          | true =>
            have hn := Lib.hid (hyes hh)
            clear hyes hno hh
            go_wp2_with fail
            refine c2.mono ?_
            rintro e w' ⟨rfl, hw⟩; subst w'
            clear c2
            have hsp : (s : Int) + (p : Int) ≤ 65535 := by omega
            go_wp2_with fail
            go_roundw
            case rel => exact ⟨j + 1, s + p, by omega, hn.out, by simp, by simp, trivial⟩
            case measure => simp [intOf]; omega
          | false =>
            have hn := Lib.hid (hno hh)
            clear hyes hno hh
            go_wp2_with fail
            go_roundw
            case rel => exact ⟨j + 1, s, by omega, hn.out, rfl, by simp, trivial⟩
            case measure => simp [intOf]; omega
        · obtain rfl : j = N := by omega
          rw [hs] at hlow
          clear hs
          revert hq hb; generalize u6 = l; intro hb hq
          have hll := lows_length (N := j) (i := i) (rows := rows) (by omega)
          have hll2 := lows_length (N := j) (i := i + 1) (rows := rows) (by omega)
          rw [hll] at hq
          have hq0 : QS (wr.alloc (.cells #[encU s] 22)) 22 1 l i ((lows rows j i).map encU) := hq.alloc _
          have hsrc : Src Tryd.prog 1 27 (.slice (some ⟨wr.heap.size, 0, none⟩) 1 1) 1 [encU s] (wr.alloc (.cells #[encU s] 22)) :=
            src_blk Tryd.underlying27 (blk_new _ _) rfl (by intro jj hjj'; match jj, hjj' with | 0, _ => rfl) (by intro u hu; simp at hu; subst hu; rfl)
          go_wp2_with (at_builtin; refine wpList_append_QS rfl _ _ 27 27 rfl 22 _ 1 2 Tryd.underlying27 info_u16 rfl l i ((lows rows j i).map encU) rfl hq0 _ 1 [encU s] rfl hsrc (by decide) (by omega) ?_; intro A1 c1 w1 hq1 hg1 ho1)
          go_roundw
          case rel =>
            have hk1 : Keeps (fun i => l.ownBlock = some i) wr w1 := (Keeps.alloc _ _ _).trans (Keeps.grown hg1 (fun i h => h))
            refine ⟨i + 1, by omega, by simp, by rw [hll2, hlow, List.map_append]; exact hq1, hk.then hk1 (fun i hi h => by have := hb i h; omega), fun b hb' => ?_⟩
            rcases ho1 with h | ⟨i', h, hle⟩
            · exact hb b (h ▸ hb')
            · rw [hb'] at h; cases h; have := hk.size; rw [World.size_alloc] at hle; omega
          case measure => simp [intOf]; omega
    · obtain rfl : i = N := by omega
      revert hq hb; generalize u6 = l; intro hb hq
      have hll := lows_length (N := i) (i := i) (rows := rows) (by omega)
      have hlt : ∀ x ∈ lows rows i i, x < 2 ^ i := by
        intro x hx
        obtain ⟨y, _, rfl⟩ := List.mem_map.1 hx
        exact Nat.mod_lt _ (Nat.two_pow_pos _)
      have hp : 2 ^ i ≤ 65536 := Nat.le_trans (Nat.pow_le_pow_right (by decide) hN1) (by decide)
      have hlt16 : ∀ x ∈ lows rows i i, x < 65536 := fun x hx => by have := hlt x hx; omega
      have htw := turn_twice hN0 hN1 hll hlt
      clear hlt hp
      generalize lows rows i i = L at *
      have hB := hA.next hk
      go_wp2_with fail
      refine (turn_calls l L (i : Int) _ hB.tab hlt16 (hq.reads)).mono ?_
      rintro e B ⟨u, rfl, hu, hkB, _⟩
      have hC := hB.next hkB
      replace hq := hq.keeps hkB (fun _ _ h => h)
      clear hkB hk hB
      go_wp2_with fail
      refine (turn_calls u _ (i : Int) _ hC.tab turn_lt (hu.reads)).mono ?_
      rintro e C ⟨z, rfl, hz, hkC, _⟩
      have hD := hC.next hkC
      replace hq := hq.keeps hkC (fun _ _ h => h)
      rw [htw] at hz
      clear hkC hC hu
      go_wp2_with fail
      refine (alike_tk z l L hD hz hq).mono ?_
      rintro e B ⟨rfl, hB⟩
      go_wp2_with fail
      go_ret
      exact ⟨rfl, hB.below⟩
end Go.Proofs.YtjhhkdkemgkcgaaDoor
