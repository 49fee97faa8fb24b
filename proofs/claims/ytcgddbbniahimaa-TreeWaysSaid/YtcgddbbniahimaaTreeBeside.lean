/-
  The document's Beside and Port, walked.
-/
import Derived.Test.YtcgddbbniahimaaTreePort
set_option linter.unusedVariables false
set_option linter.unusedSimpArgs false
namespace Go.Proofs.Ytcgddbbniahimaa
open Go.RowKit

def stepB (v : Nat) (R : List Nat) (e : Nat × Nat) : List Nat :=
  if e.1 = v ∧ e.2 ≠ v then layN R e.2 else if e.2 = v ∧ e.1 ≠ v then layN R e.1 else R
def besideN (E : List (Nat × Nat)) (v i : Nat) : List Nat := (E.take i).foldl (stepB v) []
theorem besideN_succ {E : List (Nat × Nat)} {v i : Nat} (h : i < E.length) : besideN E v (i + 1) = stepB v (besideN E v i) E[i] := by
  unfold besideN; rw [List.take_succ_eq_append_getElem h, List.foldl_append]; rfl
theorem stepB_length (v : Nat) (R : List Nat) (e : Nat × Nat) : (stepB v R e).length ≤ R.length + 1 := by
  unfold stepB
  split
  · exact layN_length _ _
  · split
    · exact layN_length _ _
    · omega
theorem besideN_length (E : List (Nat × Nat)) (v : Nat) : ∀ i, i ≤ E.length → (besideN E v i).length ≤ i
  | 0, _ => by simp [besideN]
  | i + 1, h => by
    rw [besideN_succ (by omega)]
    have := stepB_length v (besideN E v i) E[i]
    have := besideN_length E v i (by omega)
    omega
theorem ecells_at : ∀ (E : List (Nat × Nat)) (i : Nat) (h : i < E.length), (ecells E)[i * 2]? = some (encI E[i].1) ∧ (ecells E)[i * 2 + 1]? = some (encI E[i].2)
  | e :: E, 0, _ => ⟨rfl, rfl⟩
  | e :: E, i + 1, h => by
    obtain ⟨h1, h2⟩ := ecells_at E i (by simpa using h)
    have e1 : (ecells (e :: E))[(i + 1) * 2]? = (ecells E)[i * 2]? := by
      rw [show (i + 1) * 2 = i * 2 + 2 by omega]; rfl
    have e2 : (ecells (e :: E))[(i + 1) * 2 + 1]? = (ecells E)[i * 2 + 1]? := by
      rw [show (i + 1) * 2 + 1 = i * 2 + 1 + 2 by omega]; rfl
    rw [e1, e2]; exact ⟨h1, h2⟩

set_option maxHeartbeats 8000000 in
theorem beside_calls (p : Nums) (n : Int) (Ea Wa Na : Option Addr) (ec wn wc nn nc : Nat) (E : List (Nat × Nat)) (v : Nat) (w : World) (hE : QS w 51 2 (.slice Ea E.length ec) E.length (ecells E)) (hE5 : E.length ≤ 5) :
    Calls Try.prog 28 #[.agg (p.plan n (.slice Ea E.length ec) (.slice Wa wn wc) (.slice Na nn nc)), .int .i64 v] w fun e w' =>
      ∃ u, e = .returned u ∧ QS w' 3 1 u (besideN E v E.length).length ((besideN E v E.length).map encI) ∧ Keeps (fun _ => False) w w' := by
  obtain ⟨lanes, room, queue, rounds, every, bag, start⟩ := p
  unfold Nums.plan
  go_enter Try.func28, Try.ntmps28
  go_wp2_with fail
  have hP0 : (w.alloc (.cells #[.int .i64 n, .slice Ea E.length ec, .int .i64 lanes, .int .i64 room, .int .i64 queue, .int .i64 rounds, .int .i64 every, .int .i64 bag, .slice Wa wn wc, .int .u16 start, .slice Na nn nc] 29)).cell? ⟨w.heap.size, 1, none⟩ = some (.slice Ea E.length ec) := by rw [blk_cell (blk_new _ _)]; rfl
  have hk0 : Keeps (fun _ => False) w (w.alloc (.cells #[.int .i64 n, .slice Ea E.length ec, .int .i64 lanes, .int .i64 room, .int .i64 queue, .int .i64 rounds, .int .i64 every, .int .i64 bag, .slice Wa wn wc, .int .u16 start, .slice Na nn nc] 29)) := Keeps.alloc _ _ _
  generalize w.alloc (.cells #[.int .i64 n, .slice Ea E.length ec, .int .i64 lanes, .int .i64 room, .int .i64 queue, .int .i64 rounds, .int .i64 every, .int .i64 bag, .slice Wa wn wc, .int .u16 start, .slice Na nn nc] 29) = X at hP0 hk0 ⊢
  generalize w.heap.size = b2 at hP0 ⊢
  go_loopw [5, 6] (fun l s wr => ∃ i : Nat, i ≤ E.length ∧ s = .int .i64 (i : Int) ∧ QS wr 3 1 l (besideN E v i).length ((besideN E v i).map encI) ∧ Keeps (fun _ => False) X wr) (fun _ s _ => E.length - (intOf s).toNat)
  case atStart => exact ⟨0, Nat.zero_le _, rfl, QS.nil _ _ _, Keeps.refl _ _⟩
  case round =>
    obtain ⟨i, hi, rfl, hq, hk⟩ := hrel
    have hP := hk.cell hP0 (fun h => h)
    revert hq; generalize u5 = l; intro hq
    by_cases hil : i < E.length
    · have hii : (i : Int) < (E.length : Int) := by omega
      obtain ⟨g, off, c', e', _, hcell, _⟩ := hE.cell (by omega)
      cases e'
      obtain ⟨q1, q2⟩ := ecells_at E i hil
      have x1 := (hk0.trans hk).cell (hcell _ _ q1) (fun h => h)
      have x2 := (hk0.trans hk).cell (hcell _ _ q2) (fun h => h)
      rw [← Nat.add_assoc] at x2
      have hstep := besideN_succ (v := v) hil
      have hbl := besideN_length E v i hi
      clear hcell q1 q2
      generalize E[i] = ee at *
      obtain ⟨a, b⟩ := ee
      generalize besideN E v i = R at *
      unfold stepB at hstep
      simp only [] at hstep x1 x2
      obtain ⟨lA, lc, hsh, _, _⟩ := hq.shape
      subst hsh
      have hkn : ∀ o, Keeps (fun _ => False) X (wr.alloc o) := fun o => hk.trans (Keeps.alloc _ _ _)
      have cl : ∀ (x : Nat) o, Calls Try.prog 37 #[.slice lA R.length lc, .int .i64 x] (wr.alloc o) fun e w' => ∃ u, e = .returned u ∧ QS w' 3 1 u (layN R x).length ((layN R x).map encI) ∧ Keeps (fun _ => False) (wr.alloc o) w' := fun x o => lay12_calls _ R x _ (hq.alloc o) (by omega)
      by_cases hav : a = v
      · have ha1 : ((a : Int) == (v : Int)) = true := by rw [beq_iff_eq]; omega
        have ha2 : ((a : Int) != (v : Int)) = false := by rw [bne, ha1]; rfl
        by_cases hbv : b = v
        · rw [if_neg (fun h => h.2 hbv), if_neg (fun h => h.2 hav)] at hstep
          have hb1 : ((b : Int) == (v : Int)) = true := by rw [beq_iff_eq]; omega
          have hb2 : ((b : Int) != (v : Int)) = false := by rw [bne, hb1]; rfl
          have hst := Lib.hid hstep
          clear hstep hav hbv cl
          go_wp2_with fail
          go_roundw
          case rel => exact ⟨i + 1, by omega, by simp, by rw [hst.out]; exact hq.alloc _, hkn _⟩
          case measure => simp [intOf]; omega
        · rw [if_pos ⟨hav, hbv⟩] at hstep
          have hb1 : ((b : Int) == (v : Int)) = false := by rw [beq_eq_false_iff_ne]; omega
          have hb2 : ((b : Int) != (v : Int)) = true := by rw [bne, hb1]; rfl
          have hst := Lib.hid hstep
          have cl' := Lib.hid (cl b)
          clear hstep hav hbv cl
          go_wp2_with fail
          refine (cl'.out _).mono ?_
          rintro e B ⟨u, rfl, hu, hkB⟩
          have hkX := (hkn _).trans hkB
          have z2 := hkB.cell (show (wr.alloc (.cells #[encI a, encI b] 51)).cell? ⟨wr.heap.size, 1, none⟩ = some (encI b) by rw [blk_cell (blk_new _ _)]; rfl) (fun h => h)
          obtain ⟨uA, uc, hsh, _, _⟩ := hu.shape
          subst hsh
          go_wp2_with fail
          go_roundw
          case rel => exact ⟨i + 1, by omega, by simp, by rw [hst.out]; exact hu, hkX⟩
          case measure => simp [intOf]; omega
      · have ha1 : ((a : Int) == (v : Int)) = false := by rw [beq_eq_false_iff_ne]; omega
        have ha2 : ((a : Int) != (v : Int)) = true := by rw [bne, ha1]; rfl
        by_cases hbv : b = v
        · rw [if_neg (fun h => hav h.1), if_pos ⟨hbv, hav⟩] at hstep
          have hb1 : ((b : Int) == (v : Int)) = true := by rw [beq_iff_eq]; omega
          have hb2 : ((b : Int) != (v : Int)) = false := by rw [bne, hb1]; rfl
          have hst := Lib.hid hstep
          have cl' := Lib.hid (cl a)
          clear hstep hav hbv cl
          go_wp2_with fail
          refine (cl'.out _).mono ?_
          rintro e B ⟨u, rfl, hu, hkB⟩
          have hkX := (hkn _).trans hkB
          obtain ⟨uA, uc, hsh, _, _⟩ := hu.shape
          subst hsh
          go_wp2_with fail
          go_roundw
          case rel => exact ⟨i + 1, by omega, by simp, by rw [hst.out]; exact hu, hkX⟩
          case measure => simp [intOf]; omega
        · rw [if_neg (fun h => hav h.1), if_neg (fun h => hbv h.1)] at hstep
          have hb1 : ((b : Int) == (v : Int)) = false := by rw [beq_eq_false_iff_ne]; omega
          have hb2 : ((b : Int) != (v : Int)) = true := by rw [bne, hb1]; rfl
          have hst := Lib.hid hstep
          clear hstep hav hbv cl
          go_wp2_with fail
          go_roundw
          case rel => exact ⟨i + 1, by omega, by simp, by rw [hst.out]; exact hq.alloc _, hkn _⟩
          case measure => simp [intOf]; omega
    · obtain rfl : i = E.length := by omega
      go_wp2_with fail
      go_ret
      exact ⟨_, rfl, hq, hk0.trans hk⟩
end Go.Proofs.Ytcgddbbniahimaa
