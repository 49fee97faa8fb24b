/-
  The document's answer on masks, walked: Turn.
-/
import Derived.Test.YtjhhkdkemgkcgaaDoorRefMore
import Derived.Test.YtjhhkdkemgkcgaaDoorArgs
import Derived.Deep.RegionWith
set_option linter.unusedVariables false
set_option linter.unusedSimpArgs false
namespace Go.Proofs.YtjhhkdkemgkcgaaDoor
open Go.RowKit

abbrev encU' (k : Nat) : Value := .int .u16 (k : Int)
theorem info_u16' : (Tryd.prog.info? 22).map (fun i => (i.zero, i.size, i.bytes)) = some (some (.int .u16 0), 1, 2) := by kernel_rfl
theorem made_cols' (rows : List Nat) (n : Nat) : madeCells #[.int .u16 0] n = ((colsOf rows n 0).map encU').toArray := by
  apply Array.ext
  · simp [madeCells, colsOf]
  · intro i h1 h2
    simp [madeCells, colsOf, colOf, Nat.mod_one]
theorem add_u16 (c j : Nat) (hc : c < 2 ^ j) (hj : j < 16) : IntKind.u16.wrap ((c : Int) + ((2 ^ j : Nat) : Int)) = ((c + 2 ^ j : Nat) : Int) := by
  have h2 : 2 ^ (j + 1) ≤ 65536 := Nat.le_trans (Nat.pow_le_pow_right (by decide) (show j + 1 ≤ 16 by omega)) (by decide)
  rw [Nat.pow_succ] at h2
  rw [wraps_u16 _ (by omega) (by show (c : Int) + ((2 ^ j : Nat) : Int) < (65536 : Int); omega)]; omega

set_option maxRecDepth 100000 in
set_option maxHeartbeats 4000000 in
theorem rturn_calls (v : Value) (rows : List Nat) (n : Int) (w : World) (hr : ∀ x ∈ rows, x < 65536) (hv : Reads w w.heap.size 1 v rows.length (rows.map encU')) :
    Calls Tryd.prog 24 #[v, .int .i64 n] w fun e w' => ∃ u, e = .returned u ∧ QS w' 22 1 u (turnI rows n).length ((turnI rows n).map encU') ∧ Keeps (fun _ => False) w w' := by
  by_cases hn : 1 ≤ n ∧ n ≤ 16
  · have hlim : ∃ L : Nat, L ≤ rows.length ∧ L ≤ 16 ∧ (L < rows.length → L = 16) ∧ colsOf rows n.toNat L = turnI rows n := by
      have e : turnI rows n = colsOf rows n.toNat 16 := by unfold turnI; rw [if_pos hn]
      by_cases h : rows.length ≤ 16
      · exact ⟨rows.length, Nat.le_refl _, h, fun h => absurd h (Nat.lt_irrefl _), by rw [e, colsOf_beyond rows n.toNat 16 h]⟩
      · exact ⟨16, by omega, by omega, fun _ => rfl, e.symm⟩
    obtain ⟨L, hl1, hl2, hl3, hcols⟩ := hlim
    rw [← hcols]
    clear hcols
    obtain ⟨h1, h2⟩ := hn
    have hms := fun w => run_make_row' (P := Tryd.prog) 27 22 (.int .u16 0) 2 Tryd.underlying27 info_u16' rfl .i64 .i64 n.toNat (by omega) (by omega) w
    rw [show ((n.toNat : Nat) : Int) = n by omega] at hms
    obtain ⟨A, cap, hsh⟩ : ∃ A c, v = .slice A rows.length c := by obtain ⟨_, A, c, h, _⟩ := hv; exact ⟨A, c, h⟩
    subst hsh
    go_enter Tryd.func24, Tryd.ntmps24
    go_wp2_with fail
    have hM0 : (w.alloc (.cells (madeCells #[.int .u16 0] n.toNat) 22)).heap[w.heap.size]? = some (.cells ((rcols rows n.toNat L 0 0).map encU').toArray 22 (0, 0)) := by
      rw [rcols_start, ← made_cols']; exact blk_new _ _
    have hk0 : Keeps (fun _ => False) w (w.alloc (.cells (madeCells #[.int .u16 0] n.toNat) 22)) := Keeps.alloc _ _ _
    generalize w.alloc (.cells (madeCells #[.int .u16 0] n.toNat) 22) = W0 at hM0 hk0
    clear hms
    go_loopw [6] (fun k wr => ∃ c : Nat, (c : Int) ≤ n ∧ Keeps (fun _ => False) w wr ∧ wr.heap[w.heap.size]? = some (.cells ((rcols rows n.toNat L c 0).map encU').toArray 22 (0, 0)) ∧ k = .int .i64 (c : Int)) (fun k _ => n.toNat - (intOf k).toNat)
    case atStart => exact ⟨0, by omega, hk0, hM0, rfl⟩
    case round =>
      obtain ⟨c, hc, hk, hM, rfl⟩ := hrel
      clear hM0 hk0
      by_cases hcn : (c : Int) < n
      · go_wp2_with fail
        go_loopw [7] (fun i wr => ∃ j : Nat, j ≤ L ∧ Keeps (fun _ => False) w wr ∧ wr.heap[w.heap.size]? = some (.cells ((rcols rows n.toNat L c j).map encU').toArray 22 (0, 0)) ∧ i = .int .i64 (j : Int)) (fun i _ => L - (intOf i).toNat)
        case atStart => exact ⟨0, by omega, hk, hM, rfl⟩
        case round =>
          clear hk hM
          obtain ⟨j, hj, hk, hM, rfl⟩ := hrel
          by_cases hjl : j < L
          · have hx : rows.getD j 0 < 65536 := by
              rw [List.getD_eq_getElem?_getD, List.getElem?_eq_getElem (by omega)]
              exact hr _ (List.getElem_mem _)
            obtain ⟨g, off, cap', hsh, _, _, hcell⟩ := hv.at_ (by simp; omega)
            injection hsh with hA _ hcap
            subst hA; subst hcap
            have hcj : wr.cell? ⟨g, off + j, none⟩ = some (.int .u16 (rows.getD j 0 : Nat)) := hk.cell (hcell j _ (by
              rw [List.getElem?_map, List.getElem?_eq_getElem (by omega), List.getD_eq_getElem?_getD, List.getElem?_eq_getElem (by omega)]; rfl)) (fun h => h)
            clear hcell
            have hjj : (j : Int) < (rows.length : Int) := by omega
            have hj16 : (j : Int) < 16 := by omega
            have c1 := rhas_calls (rows.getD j 0) (c : Int) hx wr
            rw [hasI_nat] at c1
            have hyes := rcols_yes rows n.toNat L c j
            have hno := rcols_no rows n.toNat L c j
            generalize rows.getD j 0 = x at hx hcj c1 hyes hno
            go_wp2_with fail
            refine c1.mono ?_
            rintro e w' ⟨rfl, rfl⟩
            clear c1
            cases hh : has x c with
            | true =>
              have hget := rcols_at rows n.toNat L c j (by omega)
              have hset := hyes hh
              clear hyes hno
              have hcm : w'.cell? ⟨w.heap.size, c, none⟩ = some (.int .u16 (colOf rows c j : Nat)) := by rw [blk_cell hM]; simp [hget]
              have hfm : w'.frozen? ⟨w.heap.size, c, none⟩ = false := blk_frozen hM c
              have hnew := blk_set hM c (.int .u16 (colOf rows c j + 2 ^ j : Nat))
              rw [List.setIfInBounds_toArray, ← List.map_set (f := encU') (a := colOf rows c j + 2 ^ j), hset] at hnew
              have hadd := add_u16 (colOf rows c j) j (colOf_lt rows c j) (by omega)
              have c2 := fun w => rbit_calls j (by omega) w
              generalize colOf rows c j + 2 ^ j = s at hnew hadd
              generalize colOf rows c j = q at hcm hadd
              generalize 2 ^ j = p at hadd c2
              have hci : (c : Int) < (n.toNat : Int) := by omega
              go_wp2_with fail
              have hk1 : Keeps (fun i => i = w.heap.size) w' (w'.setCell ⟨w.heap.size, c, none⟩ (.int .u16 (s : Int))) := Keeps.setCell _ _ _ _ rfl
              have hk2 : Keeps (fun _ => False) w (w'.setCell ⟨w.heap.size, c, none⟩ (.int .u16 (s : Int))).drew := (hk.then hk1 (fun i hi h => by omega)).trans (Keeps.drew _ _)
              have hnew2 : (w'.setCell ⟨w.heap.size, c, none⟩ (.int .u16 (s : Int))).drew.heap[w.heap.size]? = some (.cells ((rcols rows n.toNat L c (j + 1)).map encU').toArray 22 (0, 0)) := hnew
              clear hM hset hget hk hk1 hnew
              go_region_with (go_at_call 25; refine (c2 _).mono ?_; rintro e w'' ⟨rfl, rfl⟩)
              all_goals
                go_wp2_with fail
                go_roundw
                case rel => exact ⟨j + 1, by omega, hk2, hnew2, by simp⟩
                case measure => simp [intOf]; omega
            | false =>
              have hn := hno hh
              clear hyes hno
              go_wp2_with fail
              go_roundw
              case rel => exact ⟨j + 1, by omega, hk, by rw [hn]; exact hM, by simp⟩
              case measure => simp [intOf]; omega
          · obtain rfl : j = L := by omega
            rw [rcols_next] at hM
            by_cases hlt : j < rows.length
            · obtain rfl : j = 16 := hl3 hlt
              have hjj : (16 : Int) < (rows.length : Int) := by omega
              go_wp2_with fail
              go_roundw
              case rel => exact ⟨c + 1, by omega, hk, hM, by simp⟩
              case measure => simp [intOf]; omega
            · have hjj : ¬ ((j : Int) < (rows.length : Int)) := by omega
              go_wp2_with fail
              go_roundw
              case rel => exact ⟨c + 1, by omega, hk, hM, by simp⟩
              case measure => simp [intOf]; omega
      · obtain rfl : c = n.toNat := by omega
        rw [rcols_end] at hM
        go_wp2_with fail
        go_ret
        refine ⟨_, rfl, ?_, hk⟩
        refine ⟨by simp, .inr ⟨w.heap.size, 0, n.toNat, _, by rw [colsOf_length]; rfl, hM, by rw [colsOf_length]; exact Nat.le_refl _, by simp only [maxLen]; omega, by simp [colsOf_length], fun i hi => by simp⟩⟩
  · have ept : turnI rows n = [] := by unfold turnI; rw [if_neg hn]
    rw [ept]
    clear ept
    go_enter Tryd.func24, Tryd.ntmps24
    go_wp2_with fail
    all_goals first
      | (exfalso; omega)
      | (go_ret; exact ⟨_, rfl, QS.nil _ _ _, Keeps.refl _ _⟩)
end Go.Proofs.YtjhhkdkemgkcgaaDoor
