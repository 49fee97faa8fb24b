/-
  The document's Port, walked; the ways of small trees.
-/
import Derived.Test.YtcgddbbniahimaaTreeBeside
import Derived.Test.YtcgddbbniahimaaTreeRef
set_option linter.unusedVariables false
set_option linter.unusedSimpArgs false
namespace Go.Proofs.Ytcgddbbniahimaa
open Go.RowKit

def portI (E : List (Nat × Nat)) (v x : Nat) : Int := if x ∈ besideN E v E.length then ((besideN E v E.length).idxOf x + 1 : Nat) else -1

set_option maxHeartbeats 8000000 in
theorem port_calls (p : Nums) (n : Int) (Ea Wa Na : Option Addr) (ec wn wc nn nc : Nat) (E : List (Nat × Nat)) (v x : Nat) (w : World) (hE : QS w 51 2 (.slice Ea E.length ec) E.length (ecells E)) (hE5 : E.length ≤ 5) :
    Calls Try.prog 21 #[.agg (p.plan n (.slice Ea E.length ec) (.slice Wa wn wc) (.slice Na nn nc)), .int .i64 v, .int .i64 x] w fun e w' => e = .returned (.int .i64 (portI E v x)) ∧ Keeps (fun _ => False) w w' := by
  have hbl := besideN_length E v E.length (Nat.le_refl _)
  have cb := fun o => beside_calls p n Ea Wa Na ec wn wc nn nc E v (w.alloc o) (hE.alloc o) hE5
  obtain ⟨pv, hpv⟩ : ∃ pv, portI E v x = pv := ⟨_, rfl⟩
  rw [hpv]
  unfold portI at hpv
  have hpv' := Lib.hid hpv
  clear hpv hE
  generalize besideN E v E.length = R at *
  obtain ⟨lanes, room, queue, rounds, every, bag, start⟩ := p
  unfold Nums.plan at cb ⊢
  go_enter Try.func21, Try.ntmps21
  go_wp2_with fail
  refine (cb _).mono ?_
  rintro e A ⟨u, rfl, hu, hkA⟩
  have hkW := (Keeps.alloc (fun _ => False) w _).trans hkA
  clear cb hkA
  obtain ⟨uA, uc, hsh, _, _⟩ := hu.shape
  subst hsh
  go_wp2_with fail
  go_loopw [8] (fun s wr => ∃ i : Nat, i ≤ R.length ∧ s = .int .i64 (i : Int) ∧ (∀ j (h : j < i), R.getD j 0 ≠ x) ∧ wr = A) (fun s _ => R.length - (intOf s).toNat)
  case atStart => exact ⟨0, Nat.zero_le _, rfl, (fun j h => absurd h (Nat.not_lt_zero _)), rfl⟩
  case round =>
    obtain ⟨i, hi, rfl, hno, hwr⟩ := hrel
    subst hwr
    by_cases hil : i < R.length
    · have hii : (i : Int) < (R.length : Int) := by omega
      obtain ⟨g, off, c', e', _, hcell, _⟩ := hu.cell (by omega)
      cases e'
      have hci := hcell i (encI R[i]) (by rw [List.getElem?_map, List.getElem?_eq_getElem hil]; rfl)
      have hget : R.getD i 0 = R[i] := by rw [List.getD_eq_getElem?_getD, List.getElem?_eq_getElem hil]; rfl
      have hidx := fun h => idx_at (x := x) hil h hno
      clear hcell
      generalize R[i] = y at *
      by_cases hyx : y = x
      · obtain ⟨m1, m2⟩ := hidx hyx
        have hpe : (i : Int) + 1 = pv := by rw [← hpv'.out, if_pos m1, m2]; rfl
        have heq : ((y : Int) == (x : Int)) = true := by rw [beq_iff_eq]; omega
        clear hidx hget hno m1 m2 hyx
        go_wp2_with fail
        go_ret
        exact ⟨rfl, hkW⟩
      · have heq : ((y : Int) == (x : Int)) = false := by rw [beq_eq_false_iff_ne]; omega
        have hno' : ∀ j (h : j < i + 1), R.getD j 0 ≠ x := fun j h => by
          by_cases e : j = i
          · rw [e, hget]; exact hyx
          · exact hno j (by omega)
        clear hidx hget hno hyx
        go_wp2_with fail
        go_roundw
        case rel => exact ⟨i + 1, by omega, by simp, hno', trivial⟩
        case measure => simp [intOf]; omega
    · obtain rfl : i = R.length := by omega
      have hx : x ∉ R := fun h => by
        obtain ⟨j, hj, e⟩ := List.getElem_of_mem h
        refine hno j hj ?_
        rw [List.getD_eq_getElem?_getD, List.getElem?_eq_getElem hj]; exact e
      have hpe : pv = -1 := by rw [← hpv'.out, if_neg hx]
      subst hpe
      clear hno hx
      go_wp2_with fail
      go_ret
      exact ⟨rfl, hkW⟩

/-- Ways of small trees: where they begin and end, each step an edge, none twice, the way back. -/
def chkW (t : List Nat) (v x : Nat) : Bool :=
  (pathN t v x).getD 0 0 == v && (pathN t v x).getD ((pathN t v x).length - 1) 0 == x && (pathN t x v == (pathN t v x).reverse) &&
    (List.range (pathN t v x).length).all fun i => (i == 0 || decide (1 ≤ portI (edgesOf t t.length) ((pathN t v x).getD (i - 1) 0) ((pathN t v x).getD i 0))) && (List.range i).all fun k => (pathN t v x).getD k 0 != (pathN t v x).getD i 0
theorem chkW_all : allT chkW = true := by decide +kernel
theorem chkW_at {t : List Nat} (ht : Tree t) (h5 : t.length ≤ 5) {v x : Nat} (hv : v ≤ t.length) (hx : x ≤ t.length) :
    (pathN t v x).getD 0 0 = v ∧ (pathN t v x).getD ((pathN t v x).length - 1) 0 = x ∧ pathN t x v = (pathN t v x).reverse ∧
      ∀ i, i < (pathN t v x).length → (0 < i → 1 ≤ portI (edgesOf t t.length) ((pathN t v x).getD (i - 1) 0) ((pathN t v x).getD i 0)) ∧ ∀ k, k < i → (pathN t v x).getD k 0 ≠ (pathN t v x).getD i 0 := by
  have h1 := allT_at chkW_all ht h5 hv hx
  unfold chkW at h1
  simp only [Bool.and_eq_true, beq_iff_eq] at h1
  obtain ⟨⟨⟨h2, h3⟩, h4⟩, h6⟩ := h1
  refine ⟨h2, h3, h4, fun i hi => ?_⟩
  have h7 := List.all_eq_true.1 h6 i (List.mem_range.2 hi)
  simp only [Bool.and_eq_true, Bool.or_eq_true, beq_iff_eq, decide_eq_true_eq] at h7
  refine ⟨fun h => h7.1.resolve_left (by omega), fun k hk => ?_⟩
  have := List.all_eq_true.1 h7.2 k (List.mem_range.2 hk)
  simpa using this
end Go.Proofs.Ytcgddbbniahimaa
