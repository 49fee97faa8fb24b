/-
  Whether two plans are alike, walked.
-/
import Derived.Test.YtcgddbbniahimaaTreeRLayYes
import Derived.Test.YtcgddbbniahimaaTreeCheckE
import Derived.Sort.AtCall
import Derived.Deep.RegionHeld
set_option linter.unusedVariables false
set_option linter.unusedSimpArgs false
namespace Go.Proofs.Ytcgddbbniahimaa
open Go.RowKit

/-- An edge compared with itself. -/
theorem run_neq_edge (w : World) (a b : Int) : (binOp .neq 51 (.agg #[.int .i64 a, .int .i64 b]) (.agg #[.int .i64 a, .int .i64 b])).run Try.prog w = .ok (.bool false) w := by
  have h := run_eql_edge w a b a b
  rw [run_eql_struct] at h
  rw [run_neq_struct]
  generalize (Op.equalIn 10000 51 (.agg #[.int .i64 a, .int .i64 b]) (.agg #[.int .i64 a, .int .i64 b])).run Try.prog w = r at h ⊢
  cases r with
  | ok x w1 =>
    simp only [Result.andThen] at h ⊢
    injection h with h1 h2
    injection h1 with h1
    subst h1 h2
    simp
  | halt x w1 => simp [Result.andThen] at h

set_option maxRecDepth 100000 in
set_option maxHeartbeats 8000000 in
theorem alike_calls (q : Nums) (n : Int) (E : List (Nat × Nat)) (ws : List Int) (rows : List (List Nat)) (b1 b2 : Nat) (Ea Eb Wa Wb Na Nb : Option Addr) (ec ed wc wd nc nd : Nat) (w : World)
    (hEa : QS w 51 2 (.slice Ea E.length ec) E.length (ecells E)) (hEb : QS w 51 2 (.slice Eb E.length ed) E.length (ecells E))
    (hWa : Reads w w.heap.size 1 (.slice Wa ws.length wc) ws.length (ws.map encZ)) (hWb : Reads w w.heap.size 1 (.slice Wb ws.length wd) ws.length (ws.map encZ))
    (hNa : NextIs w b1 (.slice Na rows.length nc) rows) (hNb : NextIs w b2 (.slice Nb rows.length nd) rows) (hE5 : E.length ≤ 5) (hr6 : rows.length ≤ 6) :
    Calls Try.prog 20 #[.agg (q.plan n (.slice Ea E.length ec) (.slice Wa ws.length wc) (.slice Na rows.length nc)), .agg (q.plan n (.slice Eb E.length ed) (.slice Wb ws.length wd) (.slice Nb rows.length nd))] w
      fun e w' => e = .returned (.bool true) ∧ Keeps (fun _ => False) w w' := by
  obtain ⟨lanes, room, queue, rounds, every, bag, start⟩ := q
  unfold Nums.plan
  go_enter Try.func20, Try.ntmps20
  go_wp2_with fail
  obtain ⟨hP, hZ, hk0, hz0⟩ := two_boxes w #[.int .i64 n, .slice Ea E.length ec, .int .i64 lanes, .int .i64 room, .int .i64 queue, .int .i64 rounds, .int .i64 every, .int .i64 bag, .slice Wa ws.length wc, .int .u16 start, .slice Na rows.length nc] #[.int .i64 n, .slice Eb E.length ed, .int .i64 lanes, .int .i64 room, .int .i64 queue, .int .i64 rounds, .int .i64 every, .int .i64 bag, .slice Wb ws.length wd, .int .u16 start, .slice Nb rows.length nd] 29
  generalize (w.alloc (.cells #[.int .i64 n, .slice Ea E.length ec, .int .i64 lanes, .int .i64 room, .int .i64 queue, .int .i64 rounds, .int .i64 every, .int .i64 bag, .slice Wa ws.length wc, .int .u16 start, .slice Na rows.length nc] 29)).alloc (.cells #[.int .i64 n, .slice Eb E.length ed, .int .i64 lanes, .int .i64 room, .int .i64 queue, .int .i64 rounds, .int .i64 every, .int .i64 bag, .slice Wb ws.length wd, .int .u16 start, .slice Nb rows.length nd] 29) = X at hP hZ hk0 hz0 ⊢
  refine (same_calls _ _ ws X (hWa.keepsF hk0 hk0.size) (hWb.keepsF hk0 hk0.size)).mono ?_
  rintro e Y ⟨rfl, hkY⟩
  replace hP := blk_keeps hkY hP (fun h => h)
  replace hZ := blk_keeps hkY hZ (fun h => h)
  replace hk0 := hk0.trans hkY
  clear hkY hz0 X hWa hWb
  obtain ⟨x0, x1, x2, x3, x4, x5, x6, x7, x8, x9, x10, xf⟩ := PBox.all hP
  obtain ⟨y0, y1, y2, y3, y4, y5, y6, y7, y8, y9, y10, yf⟩ := PBox.all hZ
  replace hEa := hEa.keeps hk0 (fun _ _ h => h)
  replace hEb := hEb.keeps hk0 (fun _ _ h => h)
  replace hNa := hNa.keeps hk0 (fun _ _ _ h => h)
  replace hNb := hNb.keeps hk0 (fun _ _ _ h => h)
  clear hP hZ xf yf
  generalize w.heap.size = b at x0 x1 x2 x3 x4 x5 x6 x7 x8 x9 x10 y0 y1 y2 y3 y4 y5 y6 y7 y8 y9 y10 ⊢
  go_wp2_with fail
  clear x0 x2 x3 x4 x5 x6 x7 x8 x9 y0 y2 y3 y4 y5 y6 y7 y8 y9
  go_loopw [5] (fun s wr => ∃ i nq : Nat, i ≤ E.length ∧ s = .int .i64 (i : Int) ∧ wr = Y.drewN nq) (fun s _ => E.length - (intOf s).toNat)
  case atStart => exact ⟨0, 0, Nat.zero_le _, rfl, rfl⟩
  case round =>
    obtain ⟨i, nq, hi, rfl, rfl⟩ := hrel
    by_cases hil : i < E.length
    · have hii : (i : Int) < (E.length : Int) := by omega
      have hi0 : (0 : Int) ≤ (i : Int) := by omega
      obtain ⟨g, off, c, e1, _, hcell, _⟩ := hEa.cell (by omega)
      obtain ⟨g', off', c', e2, _, hcell', _⟩ := hEb.cell (by omega)
      injection e1 with e1 _ e3
      injection e2 with e2 _ e4
      subst e1 e2 e3 e4
      obtain ⟨c1, c2⟩ := ecells_two E i hil
      have v1 := hcell _ _ c1
      have v2 := hcell _ _ c2
      have u1 := hcell' _ _ c1
      have u2 := hcell' _ _ c2
      rw [← Nat.add_assoc] at v2 u2
      clear hcell hcell' c1 c2 hEa hEb hNa hNb
      generalize E[i] = e at v1 v2 u1 u2
      obtain ⟨p, q⟩ := e
      simp only at v1 v2 u1 u2
      have hr : ∀ w, (binOp .neq 51 (.agg #[encI p, encI q]) (.agg #[encI p, encI q])).run Try.prog w = .ok (.bool false) w := fun w => run_neq_edge w p q
      go_wp2_with fail
      go_quiet (fail)
      go_wp2_with fail
      go_roundw
      case rel => exact ⟨i + 1, _, by omega, by simp, rfl⟩
      case measure => simp [intOf]; omega
    · obtain rfl : i = E.length := by omega
      have hii : ¬ (E.length : Int) < (E.length : Int) := by omega
      have hkd : Keeps (fun _ => False) Y (Y.drewN nq) := Keeps.drewN _ _ _
      go_wp2_with fail
      go_loopw [6] (fun s wr => ∃ k : Nat, k ≤ rows.length ∧ s = .int .i64 (k : Int) ∧ Keeps (fun _ => False) Y wr) (fun s _ => rows.length - (intOf s).toNat)
      case atStart => exact ⟨0, Nat.zero_le _, rfl, hkd⟩
      case round =>
        clear hkd
        obtain ⟨k, hk, rfl, hkr⟩ := hrel
        by_cases hkl : k < rows.length
        · have hkk : (k : Int) < (rows.length : Int) := by omega
          have hk00 : (0 : Int) ≤ (k : Int) := by omega
          obtain ⟨vs, n1, _, _, n4⟩ := hNa
          obtain ⟨vs', m1, _, _, m4⟩ := hNb
          have hvl : vs.length = rows.length := by have := n1.1; omega
          have hvl' : vs'.length = rows.length := by have := m1.1; omega
          obtain ⟨g, off, c, e1, _, hcell, _⟩ := n1.cell (by omega)
          obtain ⟨g', off', c', e2, _, hcell', _⟩ := m1.cell (by omega)
          injection e1 with e1 _ e3
          injection e2 with e2 _ e4
          subst e1 e2 e3 e4
          obtain ⟨r1, r1'⟩ := n4 k _ _ (List.getElem?_eq_getElem (by omega)) (List.getElem?_eq_getElem hkl)
          obtain ⟨r2, r2'⟩ := m4 k _ _ (List.getElem?_eq_getElem (by omega)) (List.getElem?_eq_getElem hkl)
          have v1 := hkr.cell (hcell k _ (List.getElem?_eq_getElem (by omega))) (fun h => h)
          have u1 := hkr.cell (hcell' k _ (List.getElem?_eq_getElem (by omega))) (fun h => h)
          obtain ⟨rA, rc, h3, _, _⟩ := r1.shape
          obtain ⟨sA, sc, h4, _, _⟩ := r2.shape
          rw [h3] at v1 r1
          rw [h4] at u1 r2
          have z1 := hkr.cell x10 (fun h => h)
          have z2 := hkr.cell y10 (fun h => h)
          have SM := Lib.hid (p := ∀ V, Keeps (fun _ => False) wr V → Calls Try.prog 16 #[.slice rA rows[k].length rc, .slice sA rows[k].length sc] V fun e w' => e = .returned (.bool true) ∧ Keeps (fun _ => False) wr w') fun V hV => by
            have hq1 := (r1.keeps (hkr.trans hV) (fun _ _ h => h)).reads
            have hq2 := (r2.keeps (hkr.trans hV) (fun _ _ h => h)).reads
            have h5 := same_calls (.slice rA rows[k].length rc) (.slice sA rows[k].length sc) (rows[k].map Int.ofNat) V (by rw [List.length_map, ← encN]; exact hq1) (by rw [List.length_map, ← encN]; exact hq2)
            exact h5.mono fun _ _ ⟨q1, q2⟩ => ⟨q1, hV.trans q2⟩
          have HS := Lib.hid (p := ∀ V, Keeps (fun _ => False) wr V → V.cell? ⟨b, 10, none⟩ = some (.slice (some ⟨g, off, none⟩) rows.length nc) ∧ V.cell? ⟨b + 1, 10, none⟩ = some (.slice (some ⟨g', off', none⟩) rows.length nd) ∧
              V.cell? ⟨g, off + k, none⟩ = some (.slice rA rows[k].length rc) ∧ V.cell? ⟨g', off' + k, none⟩ = some (.slice sA rows[k].length sc)) fun V hV => ⟨hV.cell z1 (fun h => h), hV.cell z2 (fun h => h), hV.cell v1 (fun h => h), hV.cell u1 (fun h => h)⟩
          have hd : Keeps (fun _ => False) wr wr.drew := Keeps.drew _ _
          clear r1' r2' hcell hcell' n1 n4 m1 m4 r1 r2 h3 h4 v1 u1 hvl hvl' hEa hEb
          generalize rows[k].length = rl at SM HS
          go_wp2_with fail
          clear z1 z2
          first
            | go_region_held (fun w' => w'.cell? ⟨b, 10, none⟩ = some (.slice (some ⟨g, off, none⟩) rows.length nc) ∧ w'.cell? ⟨b + 1, 10, none⟩ = some (.slice (some ⟨g', off', none⟩) rows.length nd) ∧ w'.cell? ⟨g, off + k, none⟩ = some (.slice rA rl rc) ∧ w'.cell? ⟨g', off' + k, none⟩ = some (.slice sA rl sc)) (exact HS.out _ (by assumption)) (first
                | (go_at_call 16; refine (SM.out _ (by assumption)).mono ?_; rintro e V ⟨rfl, hV⟩))
            | fail
          go_wp2_with fail
          go_roundw
          case rel => exact ⟨k + 1, by omega, by simp, hkr.trans hV⟩
          case measure => simp [intOf]; omega
        · obtain rfl : k = rows.length := by omega
          have hkk : ¬ (rows.length : Int) < (rows.length : Int) := by omega
          replace x10 := hkr.cell x10 (fun h => h)
          go_wp2_with fail
          go_ret
          exact ⟨rfl, hk0.trans hkr⟩
end Go.Proofs.Ytcgddbbniahimaa
