/-
  Heavy, and the document's Lay of what is no tree, walked.
-/
import Derived.Test.YtcgddbbniahimaaTreeMake
import Derived.Test.YtcgddbbniahimaaTreePlanArg
import Derived.Test.YtcgddbbniahimaaTreeRefTop
set_option linter.unusedVariables false
set_option linter.unusedSimpArgs false
namespace Go.Proofs.Ytcgddbbniahimaa
open Go.RowKit

set_option maxHeartbeats 4000000 in
theorem heavy_calls (p : Nums) (n : Int) (Ea Wa Na : Option Addr) (en ec wn wc nc : Nat) (vs : List Value) (w : World) (h : Reads w w.heap.size 1 (.slice Na vs.length nc) vs.length vs) (hvs : ∀ y ∈ vs, ∃ A l c, y = .slice A l c) :
    Calls Try.prog 18 #[.agg (p.plan n (.slice Ea en ec) (.slice Wa wn wc) (.slice Na vs.length nc))] w fun e w' => (∃ z, e = .returned (.int .i64 z)) ∧ Keeps (fun _ => False) w w' := by
  obtain ⟨lanes, room, queue, rounds, every, bag, start⟩ := p
  have hmx : (vs.length : Int) ≤ 9223372036854775807 := by obtain ⟨_, _, _, e, h1, h2, _⟩ := h; simp only [maxLen] at h2; omega
  unfold Nums.plan
  go_enter Try.func18, Try.ntmps18
  go_wp2_with fail
  have hk0 : Keeps (fun _ => False) w (w.alloc (.cells #[.int .i64 n, .slice Ea en ec, .int .i64 lanes, .int .i64 room, .int .i64 queue, .int .i64 rounds, .int .i64 every, .int .i64 bag, .slice Wa wn wc, .int .u16 start, .slice Na vs.length nc] 29)) := Keeps.alloc _ _ _
  have hP := blk_new w (.cells #[.int .i64 n, .slice Ea en ec, .int .i64 lanes, .int .i64 room, .int .i64 queue, .int .i64 rounds, .int .i64 every, .int .i64 bag, .slice Wa wn wc, .int .u16 start, .slice Na vs.length nc] 29)
  generalize w.alloc (.cells #[.int .i64 n, .slice Ea en ec, .int .i64 lanes, .int .i64 room, .int .i64 queue, .int .i64 rounds, .int .i64 every, .int .i64 bag, .slice Wa wn wc, .int .u16 start, .slice Na vs.length nc] 29) = X at hk0 hP ⊢
  generalize w.heap.size = b at hP ⊢
  obtain ⟨x0, x1, x2, x3, x4, x5, x6, x7, x8, x9, x10, xf⟩ := PBox.all hP
  have hX := h.keepsF hk0 hk0.size
  clear hP h x0 x2 x3 x4 x5 x6 x7 x9 xf
  go_loop [3, 4] (fun s i => ∃ (z : Int) (k : Nat), k ≤ vs.length ∧ s = .int .i64 z ∧ i = .int .i64 (k : Int)) (fun _ i => vs.length - (intOf i).toNat)
  case atStart => exact ⟨_, 0, Nat.zero_le _, rfl, rfl⟩
  case round =>
    obtain ⟨z, k, hk, rfl, rfl⟩ := hrel
    by_cases hkn : k < vs.length
    · have hkk : (k : Int) < (vs.length : Int) := by omega
      have hk0 : (0 : Int) ≤ (k : Int) := by omega
      obtain ⟨g, off, c, e', _, _, hcell⟩ := hX.at_ (by omega)
      injection e' with e1 _ e2
      subst e1 e2
      have y1 := hcell k _ (List.getElem?_eq_getElem hkn)
      obtain ⟨rA, rl, rc, e⟩ := hvs _ (List.getElem_mem hkn)
      rw [e] at y1
      clear hcell hX hvs e
      go_wp2_with fail
      go_round
      case rel => exact ⟨_, k + 1, by omega, rfl, by simp⟩
      case measure => simp [intOf]; omega
    · obtain rfl : k = vs.length := by omega
      have hkk : ¬ (vs.length : Int) < (vs.length : Int) := by omega
      go_wp2_with fail
      go_ret
      exact ⟨⟨_, rfl⟩, hk0⟩

set_option maxHeartbeats 4000000 in
theorem rlay_no (p : Nums) (n : Int) (Ea Wa Na : Option Addr) (en ec wn wc nn nc : Nat) (fv : Value) (ps : List Int) (w : World) (h : Reads w w.heap.size 1 fv ps.length (ps.map encZ)) (hno : rightI ps = false ∨ ps = []) :
    Calls Try.prog 19 #[.agg (p.plan n (.slice Ea en ec) (.slice Wa wn wc) (.slice Na nn nc)), fv] w fun e w' =>
      e = .returned (.tuple #[.agg (Nums.zero.plan 0 (.slice none 0 0) (.slice none 0 0) (.slice none 0 0)), .int .i64 120]) ∧ Keeps (fun _ => False) w w' := by
  obtain ⟨A, c, hsh⟩ : ∃ A c, fv = .slice A ps.length c := by obtain ⟨_, A, c, h, _⟩ := h; exact ⟨A, c, h⟩
  subst hsh
  obtain ⟨lanes, room, queue, rounds, every, bag, start⟩ := p
  unfold Nums.plan Nums.zero
  go_enter Try.func19, Try.ntmps19
  go_wp2_with fail
  obtain ⟨hP, hZ, hk0, hz0⟩ := two_boxes w #[.int .i64 n, .slice Ea en ec, .int .i64 lanes, .int .i64 room, .int .i64 queue, .int .i64 rounds, .int .i64 every, .int .i64 bag, .slice Wa wn wc, .int .u16 start, .slice Na nn nc] #[.int .i64 0, .slice none 0 0, .int .i64 0, .int .i64 0, .int .i64 0, .int .i64 0, .int .i64 0, .int .i64 0, .slice none 0 0, .int .u16 0, .slice none 0 0] 29
  generalize (w.alloc (.cells #[.int .i64 n, .slice Ea en ec, .int .i64 lanes, .int .i64 room, .int .i64 queue, .int .i64 rounds, .int .i64 every, .int .i64 bag, .slice Wa wn wc, .int .u16 start, .slice Na nn nc] 29)).alloc (.cells #[.int .i64 0, .slice none 0 0, .int .i64 0, .int .i64 0, .int .i64 0, .int .i64 0, .int .i64 0, .int .i64 0, .slice none 0 0, .int .u16 0, .slice none 0 0] 29) = X at hP hZ hk0 hz0 ⊢
  refine (rright_calls _ ps X (h.keepsF hk0 hk0.size)).mono ?_
  rintro e w' ⟨rfl, hw⟩; subst w'
  obtain ⟨z0, z1, z2, z3, z4, z5, z6, z7, z8, z9, z10, zf⟩ := PBox.all hZ
  rcases hno with hr | rfl
  · rw [hr]
    go_wp2_with fail
    obtain ⟨hV, hkV⟩ := set11 hZ (.int .i64 0) (.slice none 0 0) (.int .i64 0) (.int .i64 0) (.int .i64 0) (.int .i64 0) (.int .i64 0) (.int .i64 0) (.slice none 0 0) (.int .u16 0) (.slice none 0 0)
    obtain ⟨x0, x1, x2, x3, x4, x5, x6, x7, x8, x9, x10, xf⟩ := PBox.all hV
    refine bodyPost_ret (v := .tuple #[.agg #[.int .i64 0, .slice none 0 0, .int .i64 0, .int .i64 0, .int .i64 0, .int .i64 0, .int .i64 0, .int .i64 0, .slice none 0 0, .int .u16 0, .slice none 0 0], .int .i64 120]) ?_ rfl ?_
    · generalize World.setCell _ _ _ = V at x0 x1 x2 x3 x4 x5 x6 x7 x8 x9 x10 ⊢
      simp [results, Try.results19, go_sem, x0, x1, x2, x3, x4, x5, x6, x7, x8, x9, x10]
    · exact ⟨rfl, hk0.then hkV (fun i hi h => by omega)⟩
  · rw [show rightI [] = true from rfl]
    go_wp2_with fail
    obtain ⟨hV, hkV⟩ := set11 hZ (.int .i64 0) (.slice none 0 0) (.int .i64 0) (.int .i64 0) (.int .i64 0) (.int .i64 0) (.int .i64 0) (.int .i64 0) (.slice none 0 0) (.int .u16 0) (.slice none 0 0)
    obtain ⟨x0, x1, x2, x3, x4, x5, x6, x7, x8, x9, x10, xf⟩ := PBox.all hV
    refine bodyPost_ret (v := .tuple #[.agg #[.int .i64 0, .slice none 0 0, .int .i64 0, .int .i64 0, .int .i64 0, .int .i64 0, .int .i64 0, .int .i64 0, .slice none 0 0, .int .u16 0, .slice none 0 0], .int .i64 120]) ?_ rfl ?_
    · generalize World.setCell _ _ _ = V at x0 x1 x2 x3 x4 x5 x6 x7 x8 x9 x10 ⊢
      simp [results, Try.results19, go_sem, x0, x1, x2, x3, x4, x5, x6, x7, x8, x9, x10]
    · exact ⟨rfl, hk0.then hkV (fun i hi h => by omega)⟩
end Go.Proofs.Ytcgddbbniahimaa
