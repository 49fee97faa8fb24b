/-
  granted, walked.
-/
import Derived.Test.YtlfohlgooomdfaaDoorIslipRep
import Derived.Test.YtlfohlgooomdfaaDoorMaskPick
import Derived.Sort.AtCall
import Derived.BigQuiet
import Derived.Lib.QuietBelow
set_option linter.unusedVariables false
set_option linter.unusedSimpArgs false
namespace Go.Proofs.YtlfohlgooomdfaaDoor
open Go.RowKit Go.Sort

theorem quiet_ofT {W : World} {f : FuncId} {args : Array Value} {v : Value} (d : Nat) (os : Array Obj) (c : ∀ A, Keeps (fun _ => False) W A → Calls Tryd.prog f args A fun e w' => e = .returned v ∧ Keeps (fun _ => False) A w') :
    Calls Tryd.prog f args (grow (redrawn W d) os) fun e w' => e = .returned v ∧ ∃ p : Regrown, w' = grow (redrawn W p.d) p.os := by
  have h : Keeps (fun _ => False) W (grow (redrawn W d) os) := Keeps.of_below (below_regrown W d os)
  exact (c _ h).mono fun _ _ ⟨h1, h2⟩ => ⟨h1, regrown_of_below ((h.trans h2).below (Nat.le_refl _) (fun _ _ h => h))⟩

/-- A matching that is being made, in memory: its box, its row. -/
structure Stm (w : World) (sb mb n : Nat) (m : Nat → Int) : Prop where
  box : w.heap[sb]? = some (.cells #[.slice (some ⟨mb, 0, none⟩) n n, .int .u16 (insB m n : Nat), .int .u16 (outsB m n : Nat)] 53 (0, 0))
  row : w.heap[mb]? = some (.cells ((lst n m).map (Value.int .i64)).toArray 3 (0, 0))
theorem Stm.keeps {w w' : World} {sb mb n : Nat} {m : Nat → Int} {F : Nat → Prop} (h : Stm w sb mb n m) (hk : Keeps F w w') (hF : ∀ k, k = sb ∨ k = mb → ¬ F k) : Stm w' sb mb n m :=
  ⟨blk_keeps hk h.box (hF sb (.inl rfl)), blk_keeps hk h.row (hF mb (.inr rfl))⟩

theorem zeros_lst (n : Nat) (R : Nat → Nat → Bool) (s : St) : madeCells #[.int .u16 0] n = ((lst n fun i => grB R s n i 0).map encU).toArray := by
  apply Array.ext
  · simp [madeCells, lst]
  · intro i h1 h2
    simp [madeCells, Nat.mod_one, lst, grB, bt]

attribute [local irreducible] pickI pickOf
set_option maxRecDepth 100000 in
set_option maxHeartbeats 4000000 in
theorem granted_calls (R : Nat → Nat → Bool) (s : St) (n b g a sb mb cg co cc : Nat) (h1 : 1 ≤ n) (h2 : n ≤ 16) (w : World) (hT : Tab w) (hA : Arb w b n (lst n s.G) (lst n s.A) g a) (hF : Fit n s) (hS : Stm w sb mb n s.m)
    (hc : ∀ k, k < n → w.cell? ⟨cg, co + k, none⟩ = some (.int .u16 (bt (fun i => R i k) n : Nat))) :
    Calls Tryd.prog 25 #[.pointer (some ⟨b, 0, none⟩), .pointer (some ⟨sb, 0, none⟩), .slice (some ⟨cg, co, none⟩) n cc] w fun e w' => ∃ ob, e = .returned (.slice (some ⟨ob, 0, none⟩) n n) ∧
      w'.heap[ob]? = some (.cells ((lst n fun i => grB R s n i n).map encU).toArray 29 (0, 0)) ∧ Keeps (fun _ => False) w w' ∧ w.heap.size ≤ ob := by
  have hms := fun w => run_make_row' (P := Tryd.prog) 28 29 (.int .u16 0) 2 Tryd.underlying28 info_u16 rfl .i64 .i64 n (by omega) (by omega) w
  have hG0 := Lib.hid hA.gr
  obtain ⟨x0, x1⟩ := hA.cells
  have y1 : w.cell? ⟨sb, 1, none⟩ = some (.int .u16 (insB s.m n : Nat)) := by rw [blk_cell hS.box]; rfl
  have y2 : w.cell? ⟨sb, 2, none⟩ = some (.int .u16 (outsB s.m n : Nat)) := by rw [blk_cell hS.box]; rfl
  go_enter Tryd.func25, Tryd.ntmps25
  go_wp2_with fail
  have hM0 : (w.alloc (.cells (madeCells #[.int .u16 0] n) 29)).heap[w.heap.size]? = some (.cells ((lst n fun i => grB R s n i 0).map encU).toArray 29 (0, 0)) := by
    rw [← zeros_lst]; exact blk_new _ _
  have hK0 : Keeps (fun _ => False) w (w.alloc (.cells (madeCells #[.int .u16 0] n) 29)) := Keeps.alloc _ _ _
  generalize w.alloc (.cells (madeCells #[.int .u16 0] n) 29) = W0 at hM0 hK0 ⊢
  clear hms
  go_loopw [16] (fun v wr => ∃ k : Nat, k ≤ n ∧ v = .int .i64 (k : Int) ∧ Keeps (fun _ => False) w wr ∧ wr.heap[w.heap.size]? = some (.cells ((lst n fun i => grB R s n i k).map encU).toArray 29 (0, 0))) (fun v _ => n - (intOf v).toNat)
  case atStart => exact ⟨0, Nat.zero_le _, rfl, hK0, hM0⟩
  case round =>
    obtain ⟨k, hkn, rfl, hk, hm⟩ := hrel
    clear hK0 hM0
    by_cases hlt : k < n
    · have hlt' : (k : Int) < (n : Int) := by omega
      have hk0 : (0 : Int) ≤ (k : Int) := by omega
      have hck := hk.cell (hc k hlt) (fun h => h)
      have z1 := hk.cell y1 (fun h => h)
      have z2 := hk.cell y2 (fun h => h)
      have z0 := hk.cell x0 (fun h => h)
      have zg : wr.cell? ⟨g, k, none⟩ = some (.int .i64 (s.G k : Nat)) := hk.cell (by rw [blk_cell hG0.out]; simp [lst_at _ hlt]) (fun h => h)
      have hgk := hF.g k hlt
      have hand := and_u16 (bt (fun i => R i k) n) (insB s.m n) (bt_lt16 _ h2) (bt_lt16 _ h2)
      have hask : bt (fun i => R i k) n &&& insB s.m n = askB R s.m n k := by
        unfold insB askB
        rw [bt_and _ _ h2]
        exact bt_congr n fun i _ => Bool.and_comm _ _
      rw [hask] at hand
      have cp := fun W (hW : Keeps (fun _ => False) wr W) => pick_calls (askB R s.m n k) (s.G k) n (bt_lt16 _ h2) W ((hT.keeps hk (fun h => h)).keeps hW (fun h => h))
      rw [pickI_nat _ _ _ hgk h2] at cp
      have hgp : gp R s n k = pickOf (askB R s.m n k) (s.G k) n := rfl
      rw [← hgp] at cp
      have C := Lib.hid (p := ∀ d os, Calls Tryd.prog 26 #[.int .u16 (askB R s.m n k : Nat), .int .i64 (s.G k : Nat), .int .i64 n] (grow (redrawn wr d) os) fun e w' => e = .returned (.int .i64 (gp R s n k)) ∧ ∃ p : Regrown, w' = grow (redrawn wr p.d) p.os) fun d os => quiet_ofT d os (fun A hA => cp A hA)
      clear cp hask hgp
      go_wp2_with fail
      have r1 := cell_regrown z1
      have r0 := cell_regrown z0
      have rg := cell_regrown zg
      refine wp_region_quiet_below (by kernel_rfl) (by kernel_rfl) ?_
      repeat (go_big_quiet_step ((go_at_call 26; exact C.out _ _)))
      refine wpQuiet_nil ?_
      intro w' hw'
      obtain ⟨⟨nq, osq⟩, hw''⟩ := hw'
      have hkV : Keeps (fun _ => False) wr (grow (redrawn wr nq) osq) := Keeps.of_below (below_regrown wr nq osq)
      subst hw''
      clear r1 r0 rg C hand z0 z1 zg hck
      generalize grow (redrawn wr nq) osq = V at hkV ⊢
      replace z2 := hkV.cell z2 (fun h => h)
      replace hm := blk_keeps hkV hm (fun h => h)
      replace hk := hk.trans hkV
      clear hkV wr
      rcases pick_cases (askB R s.m n k) (s.G k) n hgk with ⟨e, _⟩ | ⟨i, e, hin, _⟩
      · have hg : gp R s n k = -1 := e
        have hrow : (lst n fun i => grB R s n i k) = lst n fun i => grB R s n i (k + 1) := lst_congr fun i _ => by
          unfold grB
          rw [bt, grants, hg]
          simp
        rw [hrow] at hm
        rw [hg]
        go_wp2_with fail
        go_roundw
        case rel => exact ⟨k + 1, by omega, rfl, hk, hm⟩
        case measure => simp [intOf]; omega
      · have hg : gp R s n k = (i : Int) := e
        rw [hg]
        have hne : ((i : Int) != -1) = true := by rw [bne_iff_ne]; omega
        have cH := has_calls (outsB s.m n) (k : Int) (bt_lt16 _ h2) V
        rw [hasI_nat, outsB, has_bt, decide_eq_true hlt, Bool.true_and, ← outsB] at cH
        have hin' : (i : Int) < (n : Int) := by omega
        have hi0 : (0 : Int) ≤ (i : Int) := by omega
        go_wp2_with fail
        refine cH.mono ?_
        rintro e w' ⟨rfl, hw'⟩
        subst w'
        clear cH
        cases hf : freeB s.m n k with
        | false =>
          have hrow : (lst n fun i => grB R s n i k) = lst n fun i => grB R s n i (k + 1) := lst_congr fun i _ => by
            unfold grB
            rw [bt, grants, hf]
            simp
          rw [hrow] at hm
          go_wp2_with fail
          go_roundw
          case rel => exact ⟨k + 1, by omega, rfl, hk, hm⟩
          case measure => simp [intOf]; omega
        | true =>
          have hrow : (lst n fun i => grB R s n i k).set i (grB R s n i k + 2 ^ k) = lst n fun i => grB R s n i (k + 1) := by
            rw [lst_set]
            refine lst_congr fun j _ => ?_
            unfold upd
            by_cases ej : j = i
            · subst ej
              rw [if_pos rfl]
              show _ = bt _ _ + _
              rw [grants, hf, hg]
              simp [grB]
            · rw [if_neg ej]
              show _ = bt _ _ + _
              rw [grants, hg]
              have : ((i : Int) == (j : Int)) = false := by rw [beq_eq_false_iff_ne]; omega
              simp [grB, this]
          have hcm : V.cell? ⟨w.heap.size, i, none⟩ = some (.int .u16 (grB R s n i k : Nat)) := by rw [blk_cell hm]; simp [lst_at _ hin]
          have hfm : V.frozen? ⟨w.heap.size, i, none⟩ = false := blk_frozen hm i
          have hor := orpow_u16 (grB R s n i k) k (bt_lt _ k) (by omega)
          have hnew := blk_set hm i (.int .u16 (grB R s n i k + 2 ^ k : Nat))
          rw [List.setIfInBounds_toArray, ← List.map_set (f := encU) (a := grB R s n i k + 2 ^ k), hrow] at hnew
          generalize grB R s n i k + 2 ^ k = c' at hor hnew
          generalize grB R s n i k = c at hor hcm
          have hmx : Tryd.prog.follows .mixedOrders = true := by kernel_rfl
          have hkv : Keeps (fun _ => False) w (V.setCell ⟨w.heap.size, i, none⟩ (.int .u16 (c' : Int))).drew := (hk.then (Keeps.setCell (fun i => i = w.heap.size) _ _ _ rfl) (fun i hi h => by omega)).trans (Keeps.drew _ _)
          clear hm hk hrow hf hg
          go_wp2_with fail
          go_region
          all_goals (go_wp2_with fail; go_roundw)
          all_goals first | exact ⟨k + 1, by omega, rfl, hkv, hnew⟩ | (simp [intOf]; omega)
    · obtain rfl : k = n := by omega
      have hlt' : ¬ (k : Int) < (k : Int) := by omega
      go_wp2_with fail
      go_ret
      exact ⟨_, rfl, hm, hk, Nat.le_refl _⟩
end Go.Proofs.YtlfohlgooomdfaaDoor
