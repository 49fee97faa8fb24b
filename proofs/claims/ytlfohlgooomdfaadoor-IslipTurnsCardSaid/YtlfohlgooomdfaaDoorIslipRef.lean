/-
  The document's answer on matchings, walked: New, asks, taken.
-/
import Derived.Test.YtlfohlgooomdfaaDoorIslipRun
import Derived.Test.YtlfohlgooomdfaaDoorRefNine
import Derived.Deep.RegionWith
set_option linter.unusedVariables false
set_option linter.unusedSimpArgs false
namespace Go.Proofs.YtlfohlgooomdfaaDoor
open Go.RowKit Go.Sort

/-- The document's arbiter in memory. -/
structure RArb (w : World) (b n : Nat) (G A : List Nat) (g a : Nat) : Prop where
  box : w.heap[b]? = some (.cells #[.slice (some ⟨g, 0, none⟩) n n, .slice (some ⟨a, 0, none⟩) n n] 40 (0, 0))
  gr : w.heap[g]? = some (.cells (G.map encI).toArray 3 (0, 0))
  ac : w.heap[a]? = some (.cells (A.map encI).toArray 3 (0, 0))
  ne : g ≠ a
  lenG : G.length = n
  lenA : A.length = n
theorem RArb.keeps {w w' : World} {b n : Nat} {G A : List Nat} {g a : Nat} {F : Nat → Prop} (h : RArb w b n G A g a) (hk : Keeps F w w') (hF : ∀ k, k = b ∨ k = g ∨ k = a → ¬ F k) : RArb w' b n G A g a :=
  ⟨blk_keeps hk h.box (hF b (.inl rfl)), blk_keeps hk h.gr (hF g (.inr (.inl rfl))), blk_keeps hk h.ac (hF a (.inr (.inr rfl))), h.ne, h.lenG, h.lenA⟩
theorem RArb.cells {w : World} {b n : Nat} {G A : List Nat} {g a : Nat} (h : RArb w b n G A g a) : w.cell? ⟨b, 0, none⟩ = some (.slice (some ⟨g, 0, none⟩) n n) ∧ w.cell? ⟨b, 1, none⟩ = some (.slice (some ⟨a, 0, none⟩) n n) :=
  ⟨by rw [blk_cell h.box]; rfl, by rw [blk_cell h.box]; rfl⟩

set_option maxHeartbeats 2000000 in
theorem rnew_calls (n : Nat) (h1 : 1 ≤ n) (h2 : n ≤ 16) (w : World) :
    Calls Tryd.prog 18 #[.int .i64 n] w fun e w' => ∃ b g a, e = .returned (.pointer (some ⟨b, 0, none⟩)) ∧ RArb w' b n (List.replicate n 0) (List.replicate n 0) g a ∧ Keeps (fun _ => False) w w' ∧ w.heap.size ≤ b ∧ w.heap.size ≤ g ∧ w.heap.size ≤ a := by
  have hms := fun w => run_make_row' (P := Tryd.prog) 25 3 (.int .i64 0) 8 Tryd.underlying25 info_int rfl .i64 .i64 n (by omega) (by omega) w
  have hn1 : ¬ (n : Int) < 1 := by omega
  have hn2 : ¬ (16 : Int) < (n : Int) := by omega
  go_enter Tryd.func18, Tryd.ntmps18
  go_wp2_with fail
  go_region
  · obtain ⟨q1, q2, q3, hk⟩ := three_boxes w (madeCells #[.int .i64 0] n) (madeCells #[.int .i64 0] n) #[.slice (some ⟨w.heap.size, 0, none⟩) n n, .slice (some ⟨w.heap.size + 1, 0, none⟩) n n] 3 3 40
    go_wp2_with fail
    go_ret
    refine ⟨_, w.heap.size, w.heap.size + 1, rfl, ⟨q3, by rw [← made_zeros]; exact q1, by rw [← made_zeros]; exact q2, by omega, by simp, by simp⟩, ?_, by omega, by omega, by omega⟩
    first | exact hk | exact hk.trans (Keeps.drew _ _)
  · obtain ⟨q1, q2, q3, hk⟩ := three_boxes w (madeCells #[.int .i64 0] n) (madeCells #[.int .i64 0] n) #[.slice (some ⟨w.heap.size + 1, 0, none⟩) n n, .slice (some ⟨w.heap.size, 0, none⟩) n n] 3 3 40
    go_wp2_with fail
    go_ret
    refine ⟨_, w.heap.size + 1, w.heap.size, rfl, ⟨q3, by rw [← made_zeros]; exact q2, by rw [← made_zeros]; exact q1, by omega, by simp, by simp⟩, ?_, by omega, by omega, by omega⟩
    first | exact hk | exact hk.trans (Keeps.drew _ _)

theorem rnew_none (n : Int) (h : n < 1 ∨ 16 < n) (w : World) : Calls Tryd.prog 18 #[.int .i64 n] w fun e w' => e = .returned (.pointer none) ∧ w' = w := by
  go_enter Tryd.func18, Tryd.ntmps18
  by_cases h1 : n < 1
  · go_wp2_with fail
    go_ret
    exact ⟨rfl, rfl⟩
  · have h2 : (16 : Int) < n := by omega
    go_wp2_with fail
    go_ret
    exact ⟨rfl, rfl⟩

theorem add_bit (c j : Nat) (hc : c < 2 ^ j) (hj : j < 16) : IntKind.u16.wrap ((c : Int) + ((2 ^ j : Nat) : Int)) = ((c + 2 ^ j : Nat) : Int) := by
  have h2 : 2 ^ (j + 1) ≤ 65536 := Nat.le_trans (Nat.pow_le_pow_right (by decide) (show j + 1 ≤ 16 by omega)) (by decide)
  rw [Nat.pow_succ] at h2
  have h3 : (0 : Int) ≤ (c : Int) + ((2 ^ j : Nat) : Int) := by omega
  have h4 : (c : Int) + ((2 ^ j : Nat) : Int) < 65536 := by omega
  rw [Int.natCast_add]
  generalize (c : Int) + ((2 ^ j : Nat) : Int) = x at h3 h4 ⊢
  simp [IntKind.wrap, IntKind.bits, IntKind.signed]; omega
theorem QS.ints_at {w : World} {n : Nat} {vA : Option Addr} {vc : Nat} {l : List Int} (h : QS w 3 1 (.slice vA n vc) n (l.map (Value.int .i64))) (hn : 0 < n) : ∃ g off, vA = some ⟨g, off, none⟩ ∧ ∀ (j : Nat) (hj : j < l.length), w.cell? ⟨g, off + j, none⟩ = some (.int .i64 l[j]) := by
  obtain ⟨g, off, c, e, _, hc, _⟩ := h.cell hn
  injection e with e1 _ _
  exact ⟨g, off, e1, fun j hj => hc j _ (by simp [hj])⟩

set_option maxHeartbeats 2000000 in
theorem asks_calls (reqs : List Nat) (m : Nat → Int) (n k : Nat) (h2 : n ≤ 16) (hk : k < n) (v : Value) (vA : Option Addr) (vc : Nat) (w : World) (hlen : reqs.length = n) (hq : ∀ x ∈ reqs, x < 65536)
    (hv : Reads w w.heap.size 1 v n (reqs.map encU)) (hm : QS w 3 1 (.slice vA n vc) n ((lst n m).map (Value.int .i64))) :
    Calls Tryd.prog 33 #[v, .slice vA n vc, .int .i64 k] w fun e w' => e = .returned (.int .u16 (askB (asks reqs) m n k : Nat)) ∧ w' = w := by
  obtain ⟨g, off, c, rfl, _, _, hcell⟩ := hv.at_ (by simp; omega)
  obtain ⟨mg, mo, rfl, hmc⟩ := hm.ints_at (by omega)
  go_enter Tryd.func33, Tryd.ntmps33
  go_wp2_with fail
  go_loop [7, 8] (fun v i => ∃ j : Nat, j ≤ n ∧ i = .int .i64 (j : Int) ∧ v = .int .u16 (bt (fun i => decide (m i < 0) && asks reqs i k) j : Nat)) (fun _ i => n - (intOf i).toNat)
  case atStart => exact ⟨0, Nat.zero_le _, rfl, rfl⟩
  case round =>
    obtain ⟨j, hj, rfl, rfl⟩ := hrel
    by_cases hjn : j < n
    · have hjj : (j : Int) < (n : Int) := by omega
      have y1 := hmc j (by simp [lst_length]; omega)
      have y2 := hcell j _ (by rw [List.getElem?_map, List.getElem?_eq_getElem (show j < reqs.length by omega)]; rfl)
      have hx := hq _ (List.getElem_mem (show j < reqs.length by omega))
      have has : asks reqs j k = has (reqs[j]'(by omega)) k := by unfold asks; rw [List.getD_eq_getElem?_getD, List.getElem?_eq_getElem (by omega)]; rfl
      have hmj : (lst n m)[j]'(by simp [lst_length]; omega) = m j := by simp [lst]
      rw [hmj] at y1
      generalize reqs[j]'(by omega) = x at y2 hx has
      have c1 := rhas_calls x (k : Int) hx w
      rw [hasI_nat, ← has] at c1
      have hbt : bt (fun i => decide (m i < 0) && asks reqs i k) (j + 1) = bt (fun i => decide (m i < 0) && asks reqs i k) j + if (decide (m j < 0) && asks reqs j k) = true then 2 ^ j else 0 := rfl
      have hadd := add_bit (bt (fun i => decide (m i < 0) && asks reqs i k) j) j (bt_lt _ _) (by omega)
      have c2 := rbit_calls j (by omega) w
      clear has hmj hx hcell hmc hv hm hq
      generalize bt (fun i => decide (m i < 0) && asks reqs i k) j = s at hbt hadd ⊢
      generalize asks reqs j k = q at c1 hbt
      by_cases hneg : m j < 0
      · cases q with
        | true =>
          simp only [hneg, decide_true, Bool.and_self, if_true] at hbt
          generalize hp : 2 ^ j = p at hbt hadd c2
          have hp' := Lib.hid hp
          clear hp
          have hbt' : bt (fun i => decide (m i < 0) && asks reqs i k) (j + 1) = s + p := hbt
          have hb2 := Lib.hid hbt'
          clear hbt hbt'
          go_wp2_with fail
          refine c1.mono ?_
          rintro e w' ⟨rfl, hw⟩
          subst w'
          clear c1
          go_wp2_with fail
          refine c2.mono ?_
          rintro e w' ⟨rfl, hw⟩
          subst w'
          go_wp2_with fail
          go_round
          case rel => exact ⟨j + 1, by omega, rfl, by rw [hb2.out, Int.natCast_add]⟩
          case measure => simp [intOf]; omega
        | false =>
          simp only [hneg, decide_true, Bool.and_false, Bool.false_eq_true, if_false, Nat.add_zero] at hbt
          have hb2 := Lib.hid hbt
          clear hbt
          go_wp2_with fail
          refine c1.mono ?_
          rintro e w' ⟨rfl, hw⟩
          subst w'
          clear c1
          go_wp2_with fail
          go_round
          case rel => exact ⟨j + 1, by omega, rfl, by rw [hb2.out]⟩
          case measure => simp [intOf]; omega
      · simp only [hneg, decide_false, Bool.false_and, Bool.false_eq_true, if_false, Nat.add_zero] at hbt
        have hb2 := Lib.hid hbt
        clear hbt c1
        go_wp2_with fail
        go_round
        case rel => exact ⟨j + 1, by omega, rfl, by rw [hb2.out]⟩
        case measure => simp [intOf]; omega
    · obtain rfl : j = n := by omega
      have hjj : ¬ (j : Int) < (j : Int) := by omega
      go_wp2_with fail
      go_ret
      exact ⟨rfl, rfl⟩

set_option maxHeartbeats 2000000 in
theorem taken_calls (m : Nat → Int) (n k : Nat) (h2 : n ≤ 16) (vA : Option Addr) (vc : Nat) (w : World) (hm : QS w 3 1 (.slice vA n vc) n ((lst n m).map (Value.int .i64))) :
    Calls Tryd.prog 34 #[.slice vA n vc, .int .i64 k] w fun e w' => e = .returned (.bool (!freeB m n k)) ∧ w' = w := by
  have hend : (∀ i, i < n → m i ≠ (k : Int)) → freeB m n k = true := fun h => free_iff.2 h
  obtain ⟨res, hres⟩ : ∃ r : Bool, Hid (r = !freeB m n k) := ⟨_, Lib.hid rfl⟩
  rw [← hres.out]
  go_enter Tryd.func34, Tryd.ntmps34
  go_wp2_with fail
  go_loop [5] (fun i => ∃ j : Nat, j ≤ n ∧ i = .int .i64 (j : Int) ∧ ∀ i, i < j → m i ≠ (k : Int)) (fun i => n - (intOf i).toNat)
  case atStart => exact ⟨0, Nat.zero_le _, rfl, fun i h => absurd h (Nat.not_lt_zero _)⟩
  case round =>
    obtain ⟨j, hj, rfl, hno⟩ := hrel
    by_cases hjn : j < n
    · have hjj : (j : Int) < (n : Int) := by omega
      obtain ⟨mg, mo, rfl, hmc⟩ := hm.ints_at (by omega)
      have y1 := hmc j (by simp [lst_length]; omega)
      have hmj : (lst n m)[j]'(by simp [lst_length]; omega) = m j := by simp [lst]
      rw [hmj] at y1
      clear hmj hmc hm
      by_cases he : m j = (k : Int)
      · have hf : freeB m n k = false := by
          cases h : freeB m n k with
          | false => rfl
          | true => exact absurd he (free_iff.1 h j hjn)
        obtain rfl : res = true := by rw [hres.out, hf]; rfl
        rw [he] at y1
        clear hno hend
        go_wp2_with fail
        go_ret
        exact ⟨rfl, rfl⟩
      · have hno' : ∀ i, i < j + 1 → m i ≠ (k : Int) := fun i hi => by
          by_cases h : i = j
          · rw [h]; exact he
          · exact hno i (by omega)
        clear hno hend
        go_wp2_with fail
        go_round
        case rel => exact ⟨j + 1, by omega, rfl, hno'⟩
        case measure => simp [intOf]; omega
    · obtain rfl : j = n := by omega
      have hjj : ¬ (j : Int) < (j : Int) := by omega
      obtain rfl : res = false := by rw [hres.out, hend hno]; rfl
      clear hno hend
      go_wp2_with fail
      go_ret
      exact ⟨rfl, rfl⟩
end Go.Proofs.YtlfohlgooomdfaaDoor
