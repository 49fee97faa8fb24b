/-
  The laws' own small functions, walked: same, known, Of.
-/
import Derived.Test.YtcgddbbniahimaaTreeLayYes
set_option linter.unusedVariables false
set_option linter.unusedSimpArgs false
namespace Go.Proofs.Ytcgddbbniahimaa
open Go.RowKit

set_option maxHeartbeats 2000000 in
/-- Two slices that hold the same. -/
theorem same_calls (a b : Value) (xs : List Int) (w : World) (ha : Reads w w.heap.size 1 a xs.length (xs.map encZ)) (hb : Reads w w.heap.size 1 b xs.length (xs.map encZ)) :
    Calls Try.prog 16 #[a, b] w fun e w' => e = .returned (.bool true) ∧ Keeps (fun _ => False) w w' := by
  obtain ⟨A, cap, hsa, hm1, hm2⟩ : ∃ A c, a = .slice A xs.length c ∧ xs.length ≤ c ∧ c ≤ maxLen := by obtain ⟨_, A, c, h, h1, h2, _⟩ := ha; exact ⟨A, c, h, h1, h2⟩
  have hmx : (xs.length : Int) ≤ 9223372036854775807 := by simp only [maxLen] at hm2; omega
  clear hm1 hm2
  obtain ⟨B, cap', hsb⟩ : ∃ A c, b = .slice A xs.length c := by obtain ⟨_, A, c, h, _⟩ := hb; exact ⟨A, c, h⟩
  subst hsa hsb
  go_enter Try.func16, Try.ntmps16
  go_wp2_with fail
  go_loopw [5] (fun v wr => ∃ (k : Nat) (nq : Nat), k ≤ xs.length ∧ v = .int .i64 (k : Int) ∧ wr = w.drewN nq) (fun v _ => xs.length - (intOf v).toNat)
  case atStart => exact ⟨0, 0, Nat.zero_le _, rfl, rfl⟩
  case round =>
    obtain ⟨k, nq, hk, rfl, rfl⟩ := hrel
    by_cases hkn : k < xs.length
    · obtain ⟨g, off, c, hg, _, _, hcell⟩ := ha.at_ (by simp; omega)
      obtain ⟨g', off', c', hg', _, _, hcell'⟩ := hb.at_ (by simp; omega)
      injection hg with hA _ hC
      injection hg' with hA' _ hC'
      subst hA hA' hC hC'
      have hx : (xs.map encZ)[k]? = some (.int .i64 xs[k]) := by rw [List.getElem?_map, List.getElem?_eq_getElem hkn]; rfl
      have h1 := hcell k _ hx
      have h2 := hcell' k _ hx
      clear hcell hcell' hx
      generalize xs[k] = x at h1 h2
      have hbig : (k : Int) + 1 ≤ 9223372036854775807 := by omega
      have hkk : (k : Int) < (xs.length : Int) := by omega
      have hx0 : (x != x) = false := by simp
      go_wp2_with fail
      go_quiet (fail)
      go_wp2_with fail
      go_roundw
      case rel => exact ⟨k + 1, _, by omega, by simp, rfl⟩
      case measure => simp [intOf]; omega
    · obtain rfl : k = xs.length := by omega
      go_wp2_with fail
      go_ret
      exact ⟨rfl, Keeps.drewN _ _ _⟩

theorem QS.reads {w : World} {e sz n : Nat} {v : Value} {cs : List Value} (h : QS w e sz v n cs) : Reads w w.heap.size sz v n cs := by
  refine ⟨h.1, ?_⟩
  rcases h.2 with ⟨rfl, rfl⟩ | ⟨g, off, cap, cur, rfl, hg, h1, h2, h3, h4⟩
  · exact ⟨none, 0, rfl, Nat.le_refl _, Nat.zero_le _, fun h => absurd h (Nat.lt_irrefl _)⟩
  · refine ⟨_, cap, rfl, h1, h2, fun _ => ⟨_, rfl, blk_lt hg, fun j u hu => ?_⟩⟩
    rw [Addr.add_lit, blk_cell hg, h4 j (List.getElem?_eq_some_iff.1 hu).1]; exact hu
theorem encN (l : List Nat) : l.map encI = (l.map Int.ofNat).map encZ := by rw [List.map_map]; rfl
/-- A slice just laid. -/
theorem reads_new (w : World) (zs : List Int) (n : Nat) (hn : n = zs.length) (hm : n ≤ 1000) : Reads (w.alloc (.cells (zs.map encZ).toArray 3)) (w.alloc (.cells (zs.map encZ).toArray 3)).heap.size 1 (.slice (some ⟨w.heap.size, 0, none⟩) n n) zs.length (zs.map encZ) := by
  subst hn
  exact QS.reads (e := 3) ⟨by simp, .inr ⟨w.heap.size, 0, zs.length, _, rfl, blk_new _ _, Nat.le_refl _, by simp only [maxLen]; omega, by simp, fun j hj => by simp⟩⟩

set_option maxHeartbeats 8000000 in
theorem known_calls (w : World) : Calls Try.prog 13 #[] w fun e w' => e = .returned (.bool true) ∧ Keeps (fun _ => False) w w' := by
  go_enter Try.func13, Try.ntmps13
  go_wp2_with fail
  refine (tpath_calls _ [0, 0, 1] 3 2 _ (reads_new w [0, 0, 1] 3 rfl (by decide))).mono ?_
  rintro e A ⟨u, rfl, hu, hkA, _⟩
  rw [show pathI [0, 0, 1] 3 2 = [3, 1, 0, 2] by decide] at hu
  have hk0 := (Keeps.alloc (fun _ => False) w (.cells ([0, 0, 1].map encZ).toArray 3)).trans hkA
  clear hkA
  go_wp2_with fail
  have cl := lay_yes Nums.zero 0 none none none 0 0 0 0 0 (some ⟨A.heap.size, 0, none⟩) 3 [0, 0, 1] [] (A.alloc (.cells ([0, 0, 1].map encZ).toArray 3)) (by unfold Tree; decide) (by decide) (by decide)
    (reads_new A [0, 0, 1] 3 rfl (by decide)) (QS.reads (e := 3) (QS.nil _ _ _)) (by decide) (by decide)
  refine cl.mono ?_
  rintro e B ⟨Ea, ec, Wa, wc, Na, nc, rfl, _, _, _, _, ⟨vs, n1, _, _, n4⟩, hkB⟩
  have er : rowsOf [0, 0, 1] ([0, 0, 1].length + 1) = [[0, 1, 2, 1], [0, 1, 0, 3], [0, 0, 2, 0], [1, 1, 1, 3]] := by decide
  rw [er] at n1 n4
  have hvl : vs.length = 4 := n1.1
  obtain ⟨gN, oN, cN, eN, _, cellN, _⟩ := n1.cell (by decide)
  injection eN with e1 _ e2
  subst e1; subst e2
  have hv3 : vs[3]? = some vs[3] := List.getElem?_eq_getElem (by omega)
  obtain ⟨hr3, _⟩ := n4 3 vs[3] [1, 1, 1, 3] hv3 rfl
  obtain ⟨gr, orr, cr, er3, _, cellr, _⟩ := hr3.cell (by decide)
  have x3 : ∀ o, (B.alloc o).cell? ⟨gN, oN + 3, none⟩ = some (.slice (some ⟨gr, orr, none⟩) 4 cr) := fun o => (Keeps.alloc (fun _ => False) B o).cell (cellN 3 _ (by rw [hv3, er3]; rfl)) (fun h => h)
  have x4 : ∀ o, (B.alloc o).cell? ⟨gr, orr + 2, none⟩ = some (.int .i64 1) := fun o => (Keeps.alloc (fun _ => False) B o).cell (cellr 2 (.int .i64 1) rfl) (fun h => h)
  obtain ⟨gu, ou, cu, eu, _, cellu, _⟩ := hu.cell (by decide)
  have hkAB : Keeps (fun _ => False) A B := (Keeps.alloc (fun _ => False) A _).trans hkB
  have y0 : ∀ o, (B.alloc o).cell? ⟨gu, ou, none⟩ = some (.int .i64 3) := fun o => (hkAB.trans (Keeps.alloc (fun _ => False) B o)).cell (cellu 0 (.int .i64 3) rfl) (fun h => h)
  have y1 : ∀ o, (B.alloc o).cell? ⟨gu, ou + 1, none⟩ = some (.int .i64 1) := fun o => (hkAB.trans (Keeps.alloc (fun _ => False) B o)).cell (cellu 1 (.int .i64 1) rfl) (fun h => h)
  have y2 : ∀ o, (B.alloc o).cell? ⟨gu, ou + 2, none⟩ = some (.int .i64 0) := fun o => (hkAB.trans (Keeps.alloc (fun _ => False) B o)).cell (cellu 2 (.int .i64 0) rfl) (fun h => h)
  have y3 : ∀ o, (B.alloc o).cell? ⟨gu, ou + 3, none⟩ = some (.int .i64 2) := fun o => (hkAB.trans (Keeps.alloc (fun _ => False) B o)).cell (cellu 3 (.int .i64 2) rfl) (fun h => h)
  subst eu
  have hkf := hk0.trans hkAB
  have he : pathI [1] 0 1 = [] := by decide
  have c5 : ∀ W, Calls Try.prog 14 #[.slice (some ⟨W.heap.size, 0, none⟩) 1 1, .int .i64 0, .int .i64 1] (W.alloc (.cells #[.int .i64 1] 3)) fun e w' =>
      ∃ u, e = .returned u ∧ (∃ A c, u = .slice A 0 c) ∧ Keeps (fun _ => False) W w' := fun W =>
    (tpath_calls _ [1] 0 1 _ (reads_new W [1] 1 rfl (by decide))).mono (by
      rintro e w' ⟨u, rfl, hu, hk, _⟩
      rw [he] at hu
      obtain ⟨A, c, e, _⟩ := hu.shape
      exact ⟨u, rfl, ⟨A, c, e⟩, (Keeps.alloc _ _ _).trans hk⟩)
  simp only [Nums.plan, Nums.zero, List.length_cons, List.length_nil, Nat.reduceAdd]
  rw [show (((3 : Nat) : Int) + 1) = 4 from rfl]
  clear n1 n4 hr3 cellN cellr cellu hu hkB hkAB hk0 cl er
  have c6 := fun o => c5 (B.alloc o)
  simp only [World.size_alloc] at c6
  go_wp2_with fail
  refine (c6 _).mono ?_
  rintro e C ⟨u, rfl, ⟨uA, uc, rfl⟩, hk⟩
  have hkf2 := hkf.trans ((Keeps.alloc (fun _ => False) B _).trans hk)
  go_wp2_with fail
  go_ret
  exact ⟨rfl, hkf2⟩

end Go.Proofs.Ytcgddbbniahimaa
