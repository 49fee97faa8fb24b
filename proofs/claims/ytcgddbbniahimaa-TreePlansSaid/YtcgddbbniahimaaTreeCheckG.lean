/-
  A plan's check, walked: a wheel's New, the rows, Check.
-/
import Derived.Test.YtcgddbbniahimaaTreeCheckF
set_option linter.unusedVariables false
set_option linter.unusedSimpArgs false
namespace Go.Proofs.Ytcgddbbniahimaa
open Go.RowKit

theorem odd_calls (x : Int) (w : World) (h1 : 1 ≤ x) (h2 : x ≤ 5) :
    Calls Try.prog 40 #[.int .i64 x] w fun e w' => e = .returned (.bool false) ∧ w' = w := by
  have h3 : ¬ x < 1 := by omega
  have h4 : ¬ (5 : Int) < x := by omega
  go_enter Try.func40, Try.ntmps40
  go_wp2_with fail
  go_ret
  exact ⟨rfl, rfl⟩

set_option maxHeartbeats 2000000 in
theorem indexf_calls (v : Value) (ws : List Int) (w : World) (h : Reads w w.heap.size 1 v ws.length (ws.map encZ)) (hw : ∀ x ∈ ws, 1 ≤ x ∧ x ≤ 5) (h3 : ws.length ≤ 3) :
    Calls Try.prog 47 #[v, .func (.func 40) #[] #[]] w fun e w' => e = .returned (.int .i64 (-1)) ∧ w' = w := by
  obtain ⟨A, c, rfl⟩ : ∃ A c, v = .slice A ws.length c := by obtain ⟨_, A, c, e, _⟩ := h; exact ⟨A, c, e⟩
  go_enter Try.func47, Try.ntmps47
  go_wp2_with fail
  go_loop [8] (fun s => ∃ i : Nat, i ≤ ws.length ∧ s = .int .i64 (i : Int)) (fun s => ws.length - (intOf s).toNat)
  case atStart => exact ⟨0, Nat.zero_le _, rfl⟩
  case round =>
    obtain ⟨i, hi, rfl⟩ := hrel
    by_cases hil : i < ws.length
    · have hii : (i : Int) < (ws.length : Int) := by omega
      have hi0 : (0 : Int) ≤ (i : Int) := by omega
      obtain ⟨g, off, c', e', _, _, hcell⟩ := h.at_ (by simp; omega)
      injection e' with e1 _ e2
      subst e1 e2
      have y1 := hcell i _ (by rw [List.getElem?_map, List.getElem?_eq_getElem hil]; rfl)
      obtain ⟨q1, q2⟩ := hw _ (List.getElem_mem hil)
      clear hcell h hw
      generalize ws[i] = x at y1 q1 q2
      go_wp2_with fail
      refine (odd_calls x w q1 q2).mono ?_
      rintro e w' ⟨rfl, hw'⟩
      subst w'
      go_wp2_with fail
      go_round
      case rel => exact ⟨i + 1, by omega, by simp⟩
      case measure => simp [intOf]; omega
    · obtain rfl : i = ws.length := by omega
      have hii : ¬ (ws.length : Int) < (ws.length : Int) := by omega
      go_wp2_with fail
      go_ret
      exact ⟨rfl, rfl⟩
theorem containsf_calls (v : Value) (ws : List Int) (w : World) (h : Reads w w.heap.size 1 v ws.length (ws.map encZ)) (hw : ∀ x ∈ ws, 1 ≤ x ∧ x ≤ 5) (h3 : ws.length ≤ 3) :
    Calls Try.prog 41 #[v, .func (.func 40) #[] #[]] w fun e w' => e = .returned (.bool false) ∧ w' = w := by
  go_enter Try.func41, Try.ntmps41
  go_wp2_with fail
  refine (indexf_calls v ws w h hw h3).mono ?_
  rintro e w' ⟨rfl, hw'⟩
  subst w'
  go_wp2_with fail
  go_ret
  exact ⟨rfl, rfl⟩

set_option maxHeartbeats 2000000 in
theorem wheel_calls (v : Value) (ws : List Int) (w : World) (h : Reads w w.heap.size 1 v ws.length (ws.map encZ)) (hw : ∀ x ∈ ws, 1 ≤ x ∧ x ≤ 5) (h0 : 0 < ws.length) (h3 : ws.length ≤ 3) :
    Calls Try.prog 32 #[v] w fun e w' => (∃ b, e = .returned (.pointer (some ⟨b, 0, none⟩))) ∧ Keeps (fun _ => False) w w' := by
  obtain ⟨A, c, rfl⟩ : ∃ A c, v = .slice A ws.length c := by obtain ⟨_, A, c, e, _⟩ := h; exact ⟨A, c, e⟩
  have h0' : ¬ (ws.length : Int) = 0 := by omega
  have h3' : ¬ (3 : Int) < (ws.length : Int) := by omega
  have hd0 : ((ws.length : Int) == 0) = false := by rw [beq_eq_false_iff_ne]; exact h0'
  have hd3 : decide ((3 : Int) < (ws.length : Int)) = false := decide_eq_false h3'
  go_enter Try.func32, Try.ntmps32
  go_wp2_with fail
  refine (containsf_calls _ ws w h hw h3).mono ?_
  rintro e w' ⟨rfl, hw'⟩
  subst w'
  go_wp2_with fail
  refine (clone_calls _ ws w h (by omega)).mono ?_
  rintro e X ⟨u, rfl, hu, hk, _⟩
  go_wp2_with fail
  refine (clone_calls _ ws X (h.keepsF hk hk.size) (by omega)).mono ?_
  rintro e Y ⟨v, rfl, hv, hk2, _⟩
  obtain ⟨uA, uc, rfl, _, _⟩ := hu.shape
  obtain ⟨vA, vc, rfl, _, _⟩ := hv.shape
  go_wp2_with fail
  go_ret
  exact ⟨⟨_, rfl⟩, (hk.trans hk2).trans (Keeps.alloc _ _ _)⟩

/-! ### Rows as many as nodes, each as long -/
theorem oddrow_calls (A : Option Addr) (n c b : Nat) (w : World) (hb : w.cell? ⟨b, 0, none⟩ = some (.int .i64 (n : Int))) :
    Calls Try.prog 29 #[.slice A n c, .pointer (some ⟨b, 0, none⟩)] w fun e w' => e = .returned (.bool false) ∧ w' = w := by
  go_enter Try.func29, Try.ntmps29
  go_wp2_with fail
  go_ret
  exact ⟨rfl, rfl⟩

set_option maxHeartbeats 2000000 in
theorem indexr_calls (n b : Nat) (v : Value) (vs : List Value) (w : World) (h : QS w 23 1 v n vs) (hr : ∀ u ∈ vs, ∃ A c, u = .slice A n c) (hn : n ≤ 6) (hb : w.cell? ⟨b, 0, none⟩ = some (.int .i64 (n : Int))) :
    Calls Try.prog 42 #[v, .func (.func 29) #[] #[.pointer (some ⟨b, 0, none⟩)]] w fun e w' => e = .returned (.int .i64 (-1)) ∧ w' = w := by
  obtain ⟨A, c, rfl, _, _⟩ := h.shape
  have hl : vs.length = n := by have := h.1; omega
  go_enter Try.func42, Try.ntmps42
  go_wp2_with fail
  go_loop [8] (fun s => ∃ i : Nat, i ≤ n ∧ s = .int .i64 (i : Int)) (fun s => n - (intOf s).toNat)
  case atStart => exact ⟨0, Nat.zero_le _, rfl⟩
  case round =>
    obtain ⟨i, hi, rfl⟩ := hrel
    by_cases hil : i < n
    · have hii : (i : Int) < (n : Int) := by omega
      have hi0 : (0 : Int) ≤ (i : Int) := by omega
      obtain ⟨g, off, c', e', _, hcell, _⟩ := h.cell (by omega)
      injection e' with e1 _ e2
      subst e1 e2
      have y1 := hcell i _ (List.getElem?_eq_getElem (by omega))
      obtain ⟨rA, rc, e⟩ := hr _ (List.getElem_mem (show i < vs.length by omega))
      rw [e] at y1
      clear hcell h hr e
      go_wp2_with fail
      refine (oddrow_calls rA n rc b w hb).mono ?_
      rintro e w' ⟨rfl, hw'⟩
      subst w'
      go_wp2_with fail
      go_round
      case rel => exact ⟨i + 1, by omega, by simp⟩
      case measure => simp [intOf]; omega
    · obtain rfl : n = i := by omega
      have hii : ¬ (n : Int) < (n : Int) := by omega
      go_wp2_with fail
      go_ret
      exact ⟨rfl, rfl⟩
theorem containsr_calls (n b : Nat) (v : Value) (vs : List Value) (w : World) (h : QS w 23 1 v n vs) (hr : ∀ u ∈ vs, ∃ A c, u = .slice A n c) (hn : n ≤ 6) (hb : w.cell? ⟨b, 0, none⟩ = some (.int .i64 (n : Int))) :
    Calls Try.prog 33 #[v, .func (.func 29) #[] #[.pointer (some ⟨b, 0, none⟩)]] w fun e w' => e = .returned (.bool false) ∧ w' = w := by
  go_enter Try.func33, Try.ntmps33
  go_wp2_with fail
  refine (indexr_calls n b v vs w h hr hn hb).mono ?_
  rintro e w' ⟨rfl, hw'⟩
  subst w'
  go_wp2_with fail
  go_ret
  exact ⟨rfl, rfl⟩

set_option maxRecDepth 100000 in
set_option maxHeartbeats 4000000 in
theorem check_calls (p : Nums) (n : Nat) (E : List (Nat × Nat)) (ws : List Int) (vs : List Value) (Ea Wa Na : Option Addr) (ec wc nc : Nat) (w : World) (hw : Within p (n : Int)) (hl : p.lanes = (ws.length : Int))
    (hE : QS w 51 2 (.slice Ea E.length ec) E.length (ecells E)) (h5 : E.length ≤ 5) (hgood : ∀ (i : Nat) (h : i < E.length), E[i].1 < E[i].2 ∧ (E[i].2 : Int) < (n : Int) ∧ ∀ e ∈ E.take i, e ≠ E[i])
    (hW : Reads w w.heap.size 1 (.slice Wa ws.length wc) ws.length (ws.map encZ)) (hws : ∀ x ∈ ws, 1 ≤ x ∧ x ≤ 5)
    (hN : QS w 23 1 (.slice Na n nc) n vs) (hr : ∀ u ∈ vs, ∃ A c, u = .slice A n c) :
    Calls Try.prog 22 #[.agg (p.plan (n : Int) (.slice Ea E.length ec) (.slice Wa ws.length wc) (.slice Na n nc))] w fun e w' => e = .returned (.int .u16 0) ∧ Keeps (fun _ => False) w w' := by
  have hw1 := hw.n
  have hw2 := hw.lanes
  obtain ⟨lanes, room, queue, rounds, every, bag, start⟩ := p
  simp only at hl hw2
  subst hl
  have cN := fun X => numbers_calls ⟨ws.length, room, queue, rounds, every, bag, start⟩ n (.slice Ea E.length ec) (.slice Wa ws.length wc) (.slice Na n nc) X hw
  have cE := fun X (hk : Keeps (fun _ => False) w X) => edges_calls ⟨ws.length, room, queue, rounds, every, bag, start⟩ n E Ea Wa Na ec ws.length wc n nc X (hE.keeps hk (fun _ _ h => h)) h5 hgood
  unfold Nums.plan at cN cE ⊢
  have CN := Lib.hid cN
  have CE := Lib.hid cE
  clear cN cE
  go_enter Try.func22, Try.ntmps22
  go_wp2_with fail
  have hk0 : Keeps (fun _ => False) w (w.alloc (.cells #[.int .i64 (n : Int), .slice Ea E.length ec, .int .i64 (ws.length : Int), .int .i64 room, .int .i64 queue, .int .i64 rounds, .int .i64 every, .int .i64 bag, .slice Wa ws.length wc, .int .u16 start, .slice Na n nc] 29)) := Keeps.alloc _ _ _
  have hP := blk_new w (.cells #[.int .i64 (n : Int), .slice Ea E.length ec, .int .i64 (ws.length : Int), .int .i64 room, .int .i64 queue, .int .i64 rounds, .int .i64 every, .int .i64 bag, .slice Wa ws.length wc, .int .u16 start, .slice Na n nc] 29)
  generalize w.alloc (.cells #[.int .i64 (n : Int), .slice Ea E.length ec, .int .i64 (ws.length : Int), .int .i64 room, .int .i64 queue, .int .i64 rounds, .int .i64 every, .int .i64 bag, .slice Wa ws.length wc, .int .u16 start, .slice Na n nc] 29) = X at hk0 hP ⊢
  generalize w.heap.size = b at hP ⊢
  refine (CN.out X).mono ?_
  rintro e A ⟨rfl, hk1⟩
  replace hP := blk_keeps hk1 hP (fun h => h)
  replace hk0 := hk0.trans hk1
  clear hk1 X
  obtain ⟨x0, x1, x2, x3, x4, x5, x6, x7, x8, x9, x10, xf⟩ := PBox.all hP
  go_wp2_with fail
  refine (CE.out A hk0).mono ?_
  rintro e B ⟨rfl, hk1⟩
  replace hP := blk_keeps hk1 hP (fun h => h)
  replace hk0 := hk0.trans hk1
  clear hk1 x0 x1 x2 x3 x4 x5 x6 x7 x8 x9 x10 xf A
  obtain ⟨x0, x1, x2, x3, x4, x5, x6, x7, x8, x9, x10, xf⟩ := PBox.all hP
  go_wp2_with fail
  refine (wheel_calls _ ws B (hW.keepsF hk0 hk0.size) hws (by omega) (by omega)).mono ?_
  rintro e C ⟨⟨g, rfl⟩, hk1⟩
  replace hP := blk_keeps hk1 hP (fun h => h)
  replace hk0 := hk0.trans hk1
  clear hk1 x0 x1 x2 x3 x4 x5 x6 x7 x8 x9 x10 xf B
  obtain ⟨x0, x1, x2, x3, x4, x5, x6, x7, x8, x9, x10, xf⟩ := PBox.all hP
  go_wp2_with fail
  refine (containsr_calls n b _ vs C (hN.keeps hk0 (fun _ _ h => h)) hr (by omega) x0).mono ?_
  rintro e D ⟨rfl, hD⟩
  subst D
  go_wp2_with fail
  go_ret
  exact ⟨rfl, hk0⟩
end Go.Proofs.Ytcgddbbniahimaa
