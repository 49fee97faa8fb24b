/-
  Turn, walked.
-/
import Derived.Test.YtlfohlgooomdfaaDoorMaskTurnNil
import Derived.Shelf.Abstract
import Derived.Deep.OwnRows
set_option linter.unusedVariables false
set_option linter.unusedSimpArgs false
namespace Go.Proofs.YtlfohlgooomdfaaDoor
open Go.RowKit Go.Shelf
attribute [local go_sem] Oper.semAt_some

set_option maxRecDepth 100000 in
set_option maxHeartbeats 4000000 in
theorem turn_some (g off cap : Nat) (rows : List Nat) (n : Int) (w : World) (hT : Tab w) (hr : ∀ x ∈ rows, x < 65536) (hnc : rows.length ≤ cap) (hcm : cap ≤ maxLen) (hgM : g < w.heap.size)
    (hcell : ∀ j u, (rows.map encU)[j]? = some u → w.cell? ⟨g, off + j, none⟩ = some u) (hn : 1 ≤ n ∧ n ≤ 16) :
    Calls Tryd.prog 24 #[.slice (some ⟨g, off, none⟩) rows.length cap, .int .i64 n] w fun e w' => ∃ u, e = .returned u ∧ QS w' 29 1 u (turnI rows n).length ((turnI rows n).map encU) ∧ Keeps (fun _ => False) w w' ∧
      ∀ k, u.ownBlock = some k → w.heap.size ≤ k := by
  refine (callsIn_wide (n := 10)).1 ?_
  have hpos := hT.pos
  refine callsIn_of_wp_marks Tryd.func24 rfl trivial ?_ rfl
  simp only [Tryd.ntmps24, List.size_toArray, List.length_cons, List.length_nil, Nat.reduceAdd, Nat.reduceSub, Array.replicate_succ, Array.replicate_zero, List.push_toArray, List.append_toArray, List.nil_append, List.cons_append]
  refine wpIn_wide.2 ?_
  · have ept : turnI rows n = colsOf rows n.toNat 16 := by unfold turnI; rw [if_pos hn]
    rw [ept]
    clear ept
    obtain ⟨h1, h2⟩ := hn
    have hms := fun w => run_make_row' (P := Tryd.prog) 28 29 (.int .u16 0) 2 Tryd.underlying28 info_u16 rfl .i64 .i64 n.toNat (by omega) (by omega) w
    rw [show ((n.toNat : Nat) : Int) = n by omega] at hms
    have hlm : ((rows.length : Int)) ≤ maxLen := by
      simp only [maxLen] at *; omega
    have hlim : ∃ lim : Nat, (if (16 : Int) < (rows.length : Int) then (16 : Int) else (rows.length : Int)) = (lim : Int) ∧ lim ≤ rows.length ∧ lim ≤ 16 ∧ colsOf rows n.toNat lim = colsOf rows n.toNat 16 := by
      by_cases h : rows.length ≤ 16
      · exact ⟨rows.length, by rw [if_neg (by omega)], Nat.le_refl _, h, (colsOf_beyond rows n.toNat 16 h).symm⟩
      · exact ⟨16, by rw [if_pos (by omega)]; rfl, by omega, by omega, rfl⟩
    obtain ⟨lim, hmin, hl1, hl2, hcols⟩ := hlim
    rw [← hcols]
    clear hcols
    · have hlc : (lim : Int) ≤ (cap : Int) := by omega
      have hl0 : (0 : Int) ≤ (lim : Int) := by omega
      go_wp2_with fail
      have hk0 : Keeps (fun _ => False) w ((w.alloc (.cells (madeCells #[.int .u16 0] n.toNat) 29)).alloc (.cells #[.slice (some ⟨w.heap.size, 0, none⟩) n.toNat n.toNat] 28)) := (Keeps.alloc _ _ _).trans (Keeps.alloc _ _ _)
      have hO0 : ((w.alloc (.cells (madeCells #[.int .u16 0] n.toNat) 29)).alloc (.cells #[.slice (some ⟨w.heap.size, 0, none⟩) n.toNat n.toNat] 28)).heap[w.heap.size + 1]? = some (.cells #[.slice (some ⟨w.heap.size, 0, none⟩) n.toNat n.toNat] 28 (0, 0)) := by
        have := blk_new (w.alloc (.cells (madeCells #[.int .u16 0] n.toNat) 29)) (.cells #[.slice (some ⟨w.heap.size, 0, none⟩) n.toNat n.toNat] 28)
        rwa [World.size_alloc] at this
      have hM0 : ((w.alloc (.cells (madeCells #[.int .u16 0] n.toNat) 29)).alloc (.cells #[.slice (some ⟨w.heap.size, 0, none⟩) n.toNat n.toNat] 28)).heap[w.heap.size]? = some (.cells ((colsOf rows n.toNat 0).map encU).toArray 29 (0, 0)) := by
        rw [← made_cols]
        exact blk_alloc (blk_new _ _) _
      have hS0 : w.heap.size + 2 ≤ ((w.alloc (.cells (madeCells #[.int .u16 0] n.toNat) 29)).alloc (.cells #[.slice (some ⟨w.heap.size, 0, none⟩) n.toNat n.toNat] 28)).heap.size := by simp
      generalize (w.alloc (.cells (madeCells #[.int .u16 0] n.toNat) 29)).alloc (.cells #[.slice (some ⟨w.heap.size, 0, none⟩) n.toNat n.toNat] 28) = W0 at hk0 hO0 hM0 hS0
      clear hms hmin
      refine wp_loop (fun a' W => ∃ (j : Nat) (ds : List Nat) (u6 u7 u24 u25 u26 u27 u28 u29 u30 u31 u41 : Value),
          (j ≤ lim ∧ Keeps (fun _ => False) w W ∧ W.heap[w.heap.size + 1]? = some (.cells #[.slice (some ⟨w.heap.size, 0, none⟩) n.toNat n.toNat] 28 (0, 0)) ∧
            W.heap[w.heap.size]? = some (.cells ((colsOf rows n.toNat j).map encU).toArray 29 (0, 0)) ∧ Marks ds W ∧ (∀ D ∈ ds, w.heap.size + 2 ≤ D) ∧ w.heap.size + 2 ≤ W.heap.size) ∧
          a' = { tmps := #[.slice (some ⟨g, off, none⟩) rows.length cap, .int .i64 n, undef, undef, .slice none 0 0, .pointer (some ⟨w.heap.size + 1, 0, none⟩), u6, u7, undef, .int .i64 n, .bool (decide (n < 1)), .bool (decide (n < 1)), .int .i64 n, .bool (decide (16 < n)), .bool (decide (n < 1) || decide (16 < n)), .int .i64 n, .slice (some ⟨w.heap.size, 0, none⟩) n.toNat n.toNat, .slice (some ⟨g, off, none⟩) rows.length cap, .slice (some ⟨g, off, none⟩) rows.length cap, .int .i64 rows.length, .int .i64 lim, .slice (some ⟨g, off, none⟩) lim cap, .int .i64 lim, .int .i64 (j : Int), u24, u25, u26, u27, u28, u29, u30, u31, undef, undef, undef, undef, undef, undef, undef, undef, undef, u41, undef], defers := ds.map markOf }) (fun a' _ => lim - (intOf (a'.tmps.getD 23 undef)).toNat) ?_ ?_
      · exact ⟨0, [], undef, undef, undef, undef, undef, undef, undef, undef, undef, undef, undef, ⟨Nat.zero_le _, hk0, hO0, hM0, Marks.nil _, (fun _ h => absurd h List.not_mem_nil), hS0⟩, rfl⟩
      · rintro a' W ⟨j, ds, u6, u7, u24, u25, u26, u27, u28, u29, u30, u31, u41, ⟨hj, hK, hO, hM, hmk, hds, hsW⟩, rfl⟩
        clear hk0 hO0 hM0 hS0
        by_cases hjl : j < lim
        · have hx : rows.getD j 0 < 65536 := by
            rw [List.getD_eq_getElem?_getD, List.getElem?_eq_getElem (by omega)]
            exact hr _ (List.getElem_mem _)
          have hcj : W.cell? ⟨g, off + j, none⟩ = some (.int .u16 (rows.getD j 0 : Nat)) := by
            refine hK.cell (hcell j _ ?_) (fun h => h)
            rw [List.getElem?_map, List.getElem?_eq_getElem (by omega), List.getD_eq_getElem?_getD, List.getElem?_eq_getElem (by omega)]
            rfl
          have hjj : (j : Int) < (lim : Int) := by omega
          have hj0 : (0 : Int) ≤ (j : Int) := by omega
          generalize hxe : rows.getD j 0 = x at hx hcj
          have c1 := fun W => below_calls x n.toNat hx (by omega) W
          rw [show ((n.toNat : Nat) : Int) = n by omega] at c1
          have hx1 : x % 2 ^ n.toNat < 65536 := Nat.lt_of_le_of_lt (Nat.mod_le _ _) hx
          have hlast := colsAt_all rows n.toNat j (by omega)
          rw [hxe] at hlast
          have hbn : ∀ i ∈ bitsOf (x % 2 ^ n.toNat), i < n.toNat := fun i hi => by
            have := (mem_bitsOf.1 hi).2
            rw [has_mod, Bool.and_eq_true, decide_eq_true_eq] at this
            exact this.1
          clear hxe
          generalize x % 2 ^ n.toNat = y at c1 hx1 hlast hbn
          go_wp2_with fail
          refine (c1 _).mono ?_
          rintro e w' ⟨rfl, rfl⟩
          clear c1
          go_wp2_with fail
          refine (each_calls y _).mono ?_
          rintro e w' ⟨rfl, rfl⟩
          go_wp2_with fail
          have hI0 : IBox ((W.alloc (.cells #[.int .i64 (j : Int)] 3)).alloc (.cells #[.int .u16 (y : Int)] 29)) W.heap.size j := blk_alloc (blk_new _ _) _
          have hB0 : MBox ((W.alloc (.cells #[.int .i64 (j : Int)] 3)).alloc (.cells #[.int .u16 (y : Int)] 29)) (W.heap.size + 1) y := by
            have := blk_new (W.alloc (.cells #[.int .i64 (j : Int)] 3)) (.cells #[.int .u16 (y : Int)] 29)
            rwa [World.size_alloc] at this
          have hkW : ∀ G, Keeps G W ((W.alloc (.cells #[.int .i64 (j : Int)] 3)).alloc (.cells #[.int .u16 (y : Int)] 29)) := fun G => (Keeps.alloc _ _ _).trans (Keeps.alloc _ _ _)
          have hS2 : W.heap.size + 2 ≤ ((W.alloc (.cells #[.int .i64 (j : Int)] 3)).alloc (.cells #[.int .u16 (y : Int)] 29)).heap.size := by simp
          generalize (W.alloc (.cells #[.int .i64 (j : Int)] 3)).alloc (.cells #[.int .u16 (y : Int)] 29) = B at hI0 hB0 hkW hS2
          have hTB : Tab B := (hT.keeps hK (fun h => h)).keeps (hkW (fun _ => False)) (fun h => h)
          refine (wpIn_wide (n := 10)).1 ?_
          refine' wpIn_rangeFunc_O (F := Fence.wide) rfl (by decide) (gf := 37) (lb := #[.pointer (some ⟨W.heap.size + 1, 0, none⟩)]) rfl trivial (enters_of Tryd.func37 (by kernel_rfl) rfl)
            (each_seq 9 (W.heap.size + 1) y (by decide) (by omega) hx1 B hB0 hTB) rfl (fun _ h => .inl h) (fun k h => by rcases h with h | h <;> omega)
            (fun pre V => Keeps (fun i => i = w.heap.size) W V ∧ IBox V W.heap.size j ∧ V.heap[w.heap.size]? = some (.cells ((colsAt rows n.toNat j pre).map encU).toArray 29 (0, 0)) ∧
              V.heap[w.heap.size + 1]? = some (.cells #[.slice (some ⟨w.heap.size, 0, none⟩) n.toNat n.toNat] 28 (0, 0)) ∧ Marks ds V)
            (fun _ _ _ => False) ?mi (fun _ _ _ _ h _ => h) ⟨hkW _, hI0, by rw [colsAt_nil]; exact blk_keeps (hkW (fun _ => False)) hM (fun h => h), blk_keeps (hkW (fun _ => False)) hO (fun h => h), hmk.keeps (hkW (fun _ => False)) (fun _ _ h => h)⟩ _ ?assign ?body ?done (fun _ _ _ _ h _ => h.elim)
          case assign =>
            intro l k W K hK
            gi_wp2
            exact hK
          case mi =>
            rintro s C D ⟨h1, h2, h3, h4, h5⟩ hk
            exact ⟨h1.then hk (fun i hi h => by omega), blk_keeps hk h2 (by omega), blk_keeps hk h3 (by omega), blk_keeps hk h4 (by omega), h5.keeps hk (fun D hD h => by have := hmk.lt D hD; omega)⟩
          case body =>
            rintro pre k V ⟨h1, h2, h3, h4, h5⟩ hpre hszV
            obtain ⟨hnp, hk16, hkm⟩ := not_mem_pre hpre
            have hkn : k < n.toNat := hbn k (hpre.subset (by simp))
            obtain ⟨hget, hset⟩ := colsAt_set rows n.toNat j pre k hkn hnp
            have hci := h2.cell
            have hco : V.cell? ⟨w.heap.size + 1, 0, none⟩ = some (.slice (some ⟨w.heap.size, 0, none⟩) n.toNat n.toNat) := by rw [blk_cell h4]; rfl
            have hcm : V.cell? ⟨w.heap.size, k, none⟩ = some (.int .u16 (colOf rows k j : Nat)) := by rw [blk_cell h3]; simp [hget]
            have hfm : V.frozen? ⟨w.heap.size, k, none⟩ = false := blk_frozen h3 k
            have hor := orpow_u16 (colOf rows k j) j (colOf_lt rows k j) (by omega)
            have hnew := blk_set h3 k (.int .u16 (colOf rows k j + 2 ^ j : Nat))
            rw [List.setIfInBounds_toArray, ← List.map_set (f := encU) (a := colOf rows k j + 2 ^ j), hset] at hnew
            generalize colOf rows k j + 2 ^ j = c' at hor hnew
            generalize colOf rows k j = c at hor hcm
            have hki : (k : Int) < (n.toNat : Int) := by omega
            have hk0 : (0 : Int) ≤ (k : Int) := by omega
            have hj0' : (0 : Int) ≤ (j : Int) := by omega
            have hmx : Tryd.prog.follows .mixedOrders = true := by kernel_rfl
            have hkv : Keeps (fun i => i = w.heap.size) V (V.setCell ⟨w.heap.size, k, none⟩ (.int .u16 (c' : Int))).drew := Keeps.trans (b := V.setCell ⟨w.heap.size, k, none⟩ (.int .u16 (c' : Int))) (Keeps.setCell (fun i => i = w.heap.size) _ _ _ rfl) (Keeps.drew _ _)
            have hfin : Same (fun i => (i = W.heap.size + 1 ∨ i = 0) ∨ i = B.heap.size ∨ i = B.heap.size + 1) V (V.setCell ⟨w.heap.size, k, none⟩ (.int .u16 (c' : Int))).drew ∧
                (Keeps (fun i => i = w.heap.size) W (V.setCell ⟨w.heap.size, k, none⟩ (.int .u16 (c' : Int))).drew ∧ IBox (V.setCell ⟨w.heap.size, k, none⟩ (.int .u16 (c' : Int))).drew W.heap.size j ∧
                  (V.setCell ⟨w.heap.size, k, none⟩ (.int .u16 (c' : Int))).drew.heap[w.heap.size]? = some (.cells ((colsAt rows n.toNat j (pre ++ [k])).map encU).toArray 29 (0, 0)) ∧
                  (V.setCell ⟨w.heap.size, k, none⟩ (.int .u16 (c' : Int))).drew.heap[w.heap.size + 1]? = some (.cells #[.slice (some ⟨w.heap.size, 0, none⟩) n.toNat n.toNat] 28 (0, 0)) ∧ Marks ds (V.setCell ⟨w.heap.size, k, none⟩ (.int .u16 (c' : Int))).drew) :=
              ⟨Same.of_keeps hkv (fun i hi => ⟨by omega, by omega⟩), h1.trans hkv, blk_keeps hkv h2 (by omega), hnew, blk_keeps hkv h4 (by omega), h5.keeps hkv (fun D hD h => by have := hds D hD; omega)⟩
            clear h1 h2 h3 h4 h5 hnew hkv hpre hget hset hkm hcell hM hO
            gi_wp2
            gi_region
            all_goals exact hfin
          case done =>
            rintro V ⟨h1, h2, h3, h4, h5⟩ hD
            rw [hlast] at h3
            have hszV : B.heap.size < V.heap.size := blk_lt hD
            have hnd : B.heap.size ∉ ds := fun h => by have := hmk.lt _ h; omega
            have hmk' : Marks (B.heap.size :: ds) V := ⟨List.nodup_cons.2 ⟨hnd, hmk.1⟩, fun D hD' => by
              rcases List.mem_cons.1 hD' with rfl | h
              · exact hD
              · exact h5.2 D h⟩
            have hds' : ∀ D ∈ B.heap.size :: ds, w.heap.size + 2 ≤ D := fun D hD' => by
              rcases List.mem_cons.1 hD' with rfl | h
              · omega
              · exact hds D h
            have hKV : Keeps (fun _ => False) w V := hK.then h1 (fun i hi h => by omega)
            go_wp2_with fail
            exact ⟨⟨j + 1, B.heap.size :: ds, _, _, _, _, _, _, _, _, _, _, _, ⟨by omega, hKV, h4, h3, hmk', hds', by omega⟩, rfl⟩, by simp [intOf]; omega⟩
        · obtain rfl : j = lim := by omega
          have hc : W.cell? ⟨w.heap.size + 1, 0, none⟩ = some (.slice (some ⟨w.heap.size, 0, none⟩) n.toNat n.toNat) := by rw [blk_cell hO]; rfl
          go_wp2_with fail
          refine leavesM (G := fun i => w.heap.size + 2 ≤ i) ds W hmk hds ?_
          intro w' hk
          refine ⟨_, results_tmp rfl _ _ _, _, rfl, ?_, hK.then hk (fun i hi h => by omega), fun k hk => by cases hk; exact Nat.le_refl _⟩
          have hM' := blk_keeps hk hM (by omega)
          refine ⟨by simp, .inr ⟨w.heap.size, 0, n.toNat, _, by rw [colsOf_length]; rfl, hM', by rw [colsOf_length]; exact Nat.le_refl _, by simp only [maxLen]; omega, by simp [colsOf_length], fun i hi => by simp⟩⟩

set_option maxRecDepth 100000 in
theorem turn_out (v : Value) (rows : List Nat) (n : Int) (w : World) (hn : ¬ (1 ≤ n ∧ n ≤ 16)) :
    Calls Tryd.prog 24 #[v, .int .i64 n] w fun e w' => ∃ u, e = .returned u ∧ QS w' 29 1 u (turnI rows n).length ((turnI rows n).map encU) ∧ Keeps (fun _ => False) w w' ∧
      ∀ k, u.ownBlock = some k → w.heap.size ≤ k := by
  have ept : turnI rows n = [] := by unfold turnI; rw [if_neg hn]
  rw [ept]
  clear ept
  go_enter Tryd.func24, Tryd.ntmps24
  go_wp2_with fail
  all_goals first
    | (exfalso; omega)
    | (go_ret; exact ⟨_, rfl, QS.nil _ _ _, Keeps.refl _ _, fun k h => by cases h⟩)

theorem QS.reads {w : World} {e sz n : Nat} {v : Value} {cs : List Value} (h : QS w e sz v n cs) : Reads w w.heap.size sz v n cs := by
  refine ⟨h.1, ?_⟩
  rcases h.2 with ⟨rfl, rfl⟩ | ⟨g, off, cap, cur, rfl, hg, h1, h2, h3, h4⟩
  · exact ⟨none, 0, rfl, Nat.le_refl _, Nat.zero_le _, fun h => absurd h (Nat.lt_irrefl _)⟩
  · refine ⟨_, cap, rfl, h1, h2, fun _ => ⟨_, rfl, blk_lt hg, fun j u hu => ?_⟩⟩
    rw [Addr.add_lit, blk_cell hg, h4 j (List.getElem?_eq_some_iff.1 hu).1]; exact hu

/-- Turn. -/
theorem turn_calls (v : Value) (rows : List Nat) (n : Int) (w : World) (hT : Tab w) (hr : ∀ x ∈ rows, x < 65536) (hv : Reads w w.heap.size 1 v rows.length (rows.map encU)) :
    Calls Tryd.prog 24 #[v, .int .i64 n] w fun e w' => ∃ u, e = .returned u ∧ QS w' 29 1 u (turnI rows n).length ((turnI rows n).map encU) ∧ Keeps (fun _ => False) w w' ∧
      ∀ k, u.ownBlock = some k → w.heap.size ≤ k := by
  by_cases hn : 1 ≤ n ∧ n ≤ 16
  · rcases Nat.eq_zero_or_pos rows.length with h0 | h0
    · obtain rfl : rows = [] := List.eq_nil_of_length_eq_zero h0
      obtain ⟨_, A, c, rfl, _⟩ := hv
      have e : turnI [] n = colsOf [] n.toNat 0 := by
        unfold turnI; rw [if_pos hn]; exact colsOf_beyond [] n.toNat 16 (Nat.zero_le _)
      rw [e]
      exact turn_nil A c n w hn.1 hn.2
    · have hcm : ∀ g off c, v = .slice (some ⟨g, off, none⟩) rows.length c → c ≤ maxLen := fun g off c e => by
        obtain ⟨_, A, c', e', _, h, _⟩ := hv
        rw [e] at e'; cases e'; exact h
      obtain ⟨g, off, c, rfl, hnc, hg, hcell⟩ := hv.at_ (by simpa using h0)
      exact turn_some g off c rows n w hT hr hnc (hcm _ _ _ rfl) hg hcell hn
  · exact turn_out v rows n w hn
end Go.Proofs.YtlfohlgooomdfaaDoor
