/-
  What the laws of trees share.
-/
import Derived.Test.YtcgddbbniahimaaTreeOf
import Derived.OpenShut
import Derived.DataShut
set_option linter.unusedVariables false
set_option linter.unusedSimpArgs false
namespace Go.Proofs.Ytcgddbbniahimaa
open Go.RowKit

theorem u8_nat {a : Int} (h : (Lit.int .u8 a).wf = true) : ∃ m : Nat, a = m ∧ m ≤ 255 := by
  rw [Lit.wf_int_iff, IntKind.min_u8, IntKind.max_u8] at h
  exact ⟨a.toNat, by omega, by omega⟩
theorem i64_range {a : Int} (h : (Lit.int .i64 a).wf = true) : -9223372036854775808 ≤ a ∧ a ≤ 9223372036854775807 := by
  rw [Lit.wf_int_iff, IntKind.min_i64, IntKind.max_i64] at h
  exact h
theorem keeps_below {w w' : World} (h : Keeps (fun _ => False) w w') : Below w.heap.size w w' := h.below (Nat.le_refl _) (fun _ _ h => h)
/-- Bytes that come in. -/
theorem bytes_of_arg {W : World} {v : Value} (h : Arg Try.prog W 22 v) : ∃ zs : List Nat, (∀ x ∈ zs, x ≤ 255) ∧ Reads W W.heap.size 1 v zs.length (zs.map encU8) := by
  obtain ⟨n, zs, hR, rfl, hz⟩ := Arg.ints Try.underlying22 Try.underlying5 (by kernel_rfl) h
  have e : zs.map (Value.int .u8) = (zs.map Int.toNat).map encU8 := by
    rw [List.map_map]
    refine List.map_congr_left fun z hz' => ?_
    obtain ⟨m, rfl, hm⟩ := u8_nat (hz z hz')
    rfl
  refine ⟨zs.map Int.toNat, fun x hx => ?_, by rw [← e, List.length_map]; exact hR⟩
  obtain ⟨z, hz', rfl⟩ := List.mem_map.1 hx
  obtain ⟨m, rfl, hm⟩ := u8_nat (hz z hz')
  exact hm
/-- Integers that come in. -/
theorem ints_of_arg {W : World} {v : Value} (h : Arg Try.prog W 23 v) : ∃ zs : List Int, (∀ x ∈ zs, (Lit.int .i64 x).wf = true) ∧ Reads W W.heap.size 1 v zs.length (zs.map encZ) := by
  obtain ⟨n, zs, hR, rfl, hz⟩ := Arg.ints Try.underlying23 Try.underlying3 (by kernel_rfl) h
  exact ⟨zs, hz, hR⟩

/-- One cell of such a slice turned. -/
theorem QS.set {w : World} {e n g off c : Nat} {cs : List Value} (h : QS w e 1 (.slice (some ⟨g, off, none⟩) n c) n cs) (k : Nat) (hk : k < n) (u : Value) :
    QS (w.setCell ⟨g, off + k, none⟩ u) e 1 (.slice (some ⟨g, off, none⟩) n c) n (cs.set k u) := by
  obtain ⟨hl, h2⟩ := h
  refine ⟨by rw [List.length_set]; exact hl, ?_⟩
  rcases h2 with ⟨hv, _⟩ | ⟨g', off', cap', cur, hv, hg, h1, h2, h3, h4⟩
  · cases hv
  · injection hv with ha _ hc'
    injection ha with ha
    injection ha with hg' ho
    subst hg'; subst ho; subst hc'
    refine .inr ⟨g, off, c, _, rfl, blk_set hg (off + k) u, h1, h2, by rw [Array.size_setIfInBounds]; exact h3, fun j hj => ?_⟩
    rw [List.length_set] at hj
    rw [Array.getElem?_setIfInBounds, List.getElem?_set]
    by_cases e : k = j
    · subst e
      rw [if_pos rfl, if_pos rfl, if_pos (by omega), if_pos hj]
    · rw [if_neg (by omega), if_neg e]; exact h4 j hj
theorem QS.spot {w : World} {e n c : Nat} {A : Option Addr} {cs : List Value} (h : QS w e 1 (.slice A n c) n cs) (k : Nat) (hk : k < n) :
    ∃ g off old, A = some ⟨g, off, none⟩ ∧ w.cell? ⟨g, off + k, none⟩ = some old ∧ w.frozen? ⟨g, off + k, none⟩ = false := by
  have hl : cs.length = n := by have := h.1; omega
  obtain ⟨g, off, c', e', _, hc, hf⟩ := h.cell (by omega)
  injection e' with e1 _ _
  exact ⟨g, off, cs[k], e1, hc k _ (List.getElem?_eq_getElem (by omega)), hf _⟩
theorem one_nats (l : List Nat) : ∀ u ∈ l.map encI, u.oneCell' = true := by
  intro u hu
  obtain ⟨z, _, rfl⟩ := List.mem_map.1 hu
  rfl
theorem map_set_encZ (l : List Nat) (k : Nat) (z : Int) : (l.map encI).set k (encZ z) = ((l.map Int.ofNat).set k z).map encZ := by
  rw [encN, List.map_set]
theorem right_bad {ps : List Int} {k : Nat} (h : k < ps.length) (z : Int) (hz : z < 0 ∨ (k : Int) < z) : rightI (ps.set k z) = false :=
  right_no (i := k) (by rw [List.length_set]; exact h) (by rw [List.getElem_set_self]; omega)
end Go.Proofs.Ytcgddbbniahimaa
