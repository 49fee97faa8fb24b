/-
  A plan's check, walked: the edges' loop, a wheel's New, the rows, Check.
-/
import Derived.Test.YtcgddbbniahimaaTreeCheckE
import Derived.Sort.AtCall
import Derived.Deep.RegionHeld
set_option linter.unusedVariables false
set_option linter.unusedSimpArgs false
namespace Go.Proofs.Ytcgddbbniahimaa
open Go.RowKit

theorem econtains_calls (E : List (Nat × Nat)) (Ea : Option Addr) (ec a b : Nat) (w : World) (h : Reads w w.heap.size 2 (.slice Ea E.length ec) E.length (ecells E)) (hno : ∀ e ∈ E, e ≠ (a, b)) (h5 : E.length ≤ 5) :
    Calls Try.prog 39 #[.slice Ea E.length ec, .agg #[encI a, encI b]] w fun e w' => e = .returned (.bool false) ∧ Keeps (fun _ => False) w w' := by
  go_enter Try.func39, Try.ntmps39
  go_wp2_with fail
  have hk0 : Keeps (fun _ => False) w (w.alloc (.cells #[encI a, encI b] 51)) := Keeps.alloc _ _ _
  generalize w.alloc (.cells #[encI a, encI b] 51) = X at hk0 ⊢
  refine (eindex_calls E Ea ec a b X (h.keepsF hk0 hk0.size) hno h5).mono ?_
  rintro e Y ⟨rfl, hk⟩
  go_wp2_with fail
  go_ret
  exact ⟨rfl, hk0.trans hk⟩
theorem ecells_take : ∀ (E : List (Nat × Nat)) (i : Nat), ecells (E.take i) = (ecells E).take (i * 2)
  | [], i => by simp [ecells]
  | e :: E, 0 => by simp [ecells]
  | e :: E, i + 1 => by
    have ih := ecells_take E i
    rw [List.take_succ_cons, show (i + 1) * 2 = i * 2 + 1 + 1 by omega]
    show encI e.1 :: encI e.2 :: ecells (E.take i) = (encI e.1 :: encI e.2 :: ecells E).take (i * 2 + 1 + 1)
    rw [List.take_succ_cons, List.take_succ_cons, ih]

set_option maxRecDepth 100000 in
set_option maxHeartbeats 8000000 in
theorem edges_calls (p : Nums) (n : Int) (E : List (Nat × Nat)) (Ea Wa Na : Option Addr) (ec wn wc nn nc : Nat) (w : World) (hE : QS w 51 2 (.slice Ea E.length ec) E.length (ecells E)) (h5 : E.length ≤ 5)
    (hgood : ∀ (i : Nat) (h : i < E.length), E[i].1 < E[i].2 ∧ (E[i].2 : Int) < n ∧ ∀ e ∈ E.take i, e ≠ E[i]) :
    Calls Try.prog 31 #[.agg (p.plan n (.slice Ea E.length ec) (.slice Wa wn wc) (.slice Na nn nc))] w fun e w' => e = .returned (.bool true) ∧ Keeps (fun _ => False) w w' := by
  obtain ⟨lanes, room, queue, rounds, every, bag, start⟩ := p
  unfold Nums.plan
  go_enter Try.func31, Try.ntmps31
  go_wp2_with fail
  have hk0 : Keeps (fun _ => False) w (w.alloc (.cells #[.int .i64 n, .slice Ea E.length ec, .int .i64 lanes, .int .i64 room, .int .i64 queue, .int .i64 rounds, .int .i64 every, .int .i64 bag, .slice Wa wn wc, .int .u16 start, .slice Na nn nc] 29)) := Keeps.alloc _ _ _
  have hP := blk_new w (.cells #[.int .i64 n, .slice Ea E.length ec, .int .i64 lanes, .int .i64 room, .int .i64 queue, .int .i64 rounds, .int .i64 every, .int .i64 bag, .slice Wa wn wc, .int .u16 start, .slice Na nn nc] 29)
  generalize w.alloc (.cells #[.int .i64 n, .slice Ea E.length ec, .int .i64 lanes, .int .i64 room, .int .i64 queue, .int .i64 rounds, .int .i64 every, .int .i64 bag, .slice Wa wn wc, .int .u16 start, .slice Na nn nc] 29) = X at hk0 hP ⊢
  obtain ⟨x0, x1, _⟩ := PBox.all hP
  have hEX := hE.keeps hk0 (fun _ _ h => h)
  clear hP hE
  generalize w.heap.size = b1 at x0 x1 ⊢
  go_loopw [8] (fun s wr => ∃ i : Nat, i ≤ E.length ∧ s = .int .i64 (i : Int) ∧ Keeps (fun _ => False) X wr) (fun s _ => E.length - (intOf s).toNat)
  case atStart => exact ⟨0, Nat.zero_le _, rfl, Keeps.refl _ _⟩
  case round =>
    obtain ⟨i, hi, rfl, hk⟩ := hrel
    by_cases hil : i < E.length
    · have hii : (i : Int) < (E.length : Int) := by omega
      have hi0 : (0 : Int) ≤ (i : Int) := by omega
      have hic : (i : Int) ≤ (ec : Int) := by
        obtain ⟨_, _, e, h1, _⟩ := hEX.shape
        cases e; omega
      obtain ⟨g, off, c, e', _, hcell, _⟩ := hEX.cell (by omega)
      injection e' with e1 _ e2
      subst e1 e2
      obtain ⟨c1, c2⟩ := ecells_two E i hil
      have y1 := hk.cell (hcell _ _ c1) (fun h => h)
      have y2 := hk.cell (hcell _ _ c2) (fun h => h)
      rw [← Nat.add_assoc] at y2
      obtain ⟨g1, g2, g3⟩ := hgood i hil
      have hT := hEX.take i (by omega)
      rw [← ecells_take] at hT
      have hTl : (E.take i).length = i := by rw [List.length_take]; omega
      clear hcell c1 c2
      generalize hEi : E[i] = e at y1 y2 g1 g2 g3
      clear hEi
      obtain ⟨a, b⟩ := e
      simp only at y1 y2 g1 g2
      have HC := Lib.hid (p := ∀ V, Keeps (fun _ => False) X V → Calls Try.prog 39 #[.slice (some ⟨g, off, none⟩) i ec, .agg #[encI a, encI b]] V fun e w' => e = .returned (.bool false) ∧ Keeps (fun _ => False) V w') fun V hV => by
        have h3 := (hT.keeps hV (fun _ _ h => h)).reads
        have h4 := econtains_calls (E.take i) (some ⟨g, off, none⟩) ec a b V (by rw [hTl]; exact h3) g3 (by omega)
        rw [hTl] at h4
        exact h4
      clear hT hTl g3
      have z0 := hk.cell x0 (fun h => h)
      have z1 := hk.cell x1 (fun h => h)
      have hgn : ¬ (a : Int) < 0 := by omega
      have hgab : ¬ (b : Int) ≤ (a : Int) := by omega
      have hgbn : ¬ n ≤ (b : Int) := by omega
      have hgab2 : ¬ b ≤ a := by omega
      have hgd : decide (b ≤ a) = false := decide_eq_false hgab2
      have hgd1 : decide ((a : Int) < 0) = false := decide_eq_false hgn
      have hgd2 : decide (n ≤ (b : Int)) = false := decide_eq_false hgbn
      go_wp2_with fail
      have hkY : Keeps (fun _ => False) wr (wr.alloc (.cells #[.int .i64 (a : Int), .int .i64 (b : Int)] 51)) := Keeps.alloc _ _ _
      have hPY := blk_new wr (.cells #[.int .i64 (a : Int), .int .i64 (b : Int)] 51)
      generalize wr.alloc (.cells #[.int .i64 (a : Int), .int .i64 (b : Int)] 51) = Y at hkY hPY ⊢
      generalize wr.heap.size = eb at hPY ⊢
      have v0 : Y.cell? ⟨eb, 0, none⟩ = some (.int .i64 (a : Int)) := by rw [blk_cell hPY]; rfl
      have v1 : Y.cell? ⟨eb, 1, none⟩ = some (.int .i64 (b : Int)) := by rw [blk_cell hPY]; rfl
      replace z0 := hkY.cell z0 (fun h => h)
      replace z1 := hkY.cell z1 (fun h => h)
      replace hk := hk.trans hkY
      have HC2 := Lib.hid (p := ∀ V, Keeps (fun _ => False) Y V → Calls Try.prog 39 #[.slice (some ⟨g, off, none⟩) i ec, .agg #[encI a, encI b]] V fun e w' => e = .returned (.bool false) ∧ Keeps (fun _ => False) Y w') fun V hV =>
        (HC.out V (hk.trans hV)).mono fun _ _ ⟨q1, q2⟩ => ⟨q1, hV.trans q2⟩
      have HS := Lib.hid (p := ∀ V, Keeps (fun _ => False) Y V → V.cell? ⟨eb, 0, none⟩ = some (.int .i64 (a : Int)) ∧ V.cell? ⟨eb, 1, none⟩ = some (.int .i64 (b : Int)) ∧ V.cell? ⟨b1, 0, none⟩ = some (.int .i64 n) ∧ V.cell? ⟨b1, 1, none⟩ = some (.slice (some ⟨g, off, none⟩) E.length ec))
        fun V hV => ⟨hV.cell v0 (fun h => h), hV.cell v1 (fun h => h), hV.cell z0 (fun h => h), hV.cell z1 (fun h => h)⟩
      have hd : Keeps (fun _ => False) Y Y.drew := Keeps.drew _ _
      clear v0 v1 z0 z1 y1 y2 hkY hPY HC
      first
        | go_region_held (fun w' => w'.cell? ⟨eb, 0, none⟩ = some (.int .i64 (a : Int)) ∧ w'.cell? ⟨eb, 1, none⟩ = some (.int .i64 (b : Int)) ∧ w'.cell? ⟨b1, 0, none⟩ = some (.int .i64 n) ∧ w'.cell? ⟨b1, 1, none⟩ = some (.slice (some ⟨g, off, none⟩) E.length ec)) (exact HS.out _ (by assumption)) (first
            | (go_at_call 39; refine (HC2.out _ (by assumption)).mono ?_; rintro e V ⟨rfl, hV⟩))
        | fail
      go_wp2_with fail
      go_roundw
      case rel => exact ⟨i + 1, by omega, by simp, hk.trans hV⟩
      case measure => simp [intOf]; omega
    · obtain rfl : i = E.length := by omega
      have hii : ¬ (E.length : Int) < (E.length : Int) := by omega
      have z1 := hk.cell x1 (fun h => h)
      have h15 : (E.length : Int) ≤ 15 := by omega
      go_wp2_with fail
      go_ret
      exact ⟨rfl, hk0.trans hk⟩
end Go.Proofs.Ytcgddbbniahimaa
