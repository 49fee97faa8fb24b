/-
  Of, walked.
-/
import Derived.Test.YtcgddbbniahimaaTreeKnown
set_option linter.unusedVariables false
set_option linter.unusedSimpArgs false
namespace Go.Proofs.Ytcgddbbniahimaa
open Go.RowKit

/-! ### Of -/
abbrev encU8 (k : Nat) : Value := .int .u8 (k : Int)
def ofN (zs : List Nat) (n : Nat) : List Nat := (List.range n).map fun i => zs.getD i 0 % (i + 1)
def ofL (zs : List Nat) : List Nat := if zs.length = 0 then [0] else ofN zs (if zs.length < 5 then zs.length else 5)
theorem ofN_length (zs : List Nat) (n : Nat) : (ofN zs n).length = n := by simp [ofN]
theorem ofN_succ (zs : List Nat) (n : Nat) : ofN zs (n + 1) = ofN zs n ++ [zs.getD n 0 % (n + 1)] := by unfold ofN; rw [List.range_succ, List.map_append]; rfl
theorem ofL_tree (zs : List Nat) : Tree (ofL zs) ∧ 0 < (ofL zs).length ∧ (ofL zs).length ≤ 5 := by
  unfold ofL
  by_cases h : zs.length = 0
  · rw [if_pos h]; exact ⟨by unfold Tree; decide, by decide, by decide⟩
  · rw [if_neg h]
    refine ⟨fun i hi => ?_, ?_, ?_⟩
    · have : (ofN zs (if zs.length < 5 then zs.length else 5))[i] = zs.getD i 0 % (i + 1) := by simp [ofN]
      rw [this]
      have := Nat.mod_lt (zs.getD i 0) (show i + 1 > 0 by omega)
      omega
    · rw [ofN_length]; by_cases h5 : zs.length < 5
      · rw [if_pos h5]; omega
      · rw [if_neg h5]; decide
    · rw [ofN_length]; by_cases h5 : zs.length < 5
      · rw [if_pos h5]; omega
      · rw [if_neg h5]; exact Nat.le_refl _

set_option maxHeartbeats 4000000 in
theorem of_calls (v : Value) (zs : List Nat) (w : World) (h : Reads w w.heap.size 1 v zs.length (zs.map encU8)) (hz : ∀ x ∈ zs, x ≤ 255) :
    Calls Try.prog 11 #[v] w fun e w' => ∃ u, e = .returned u ∧ QS w' 3 1 u (ofL zs).length ((ofL zs).map encI) ∧ Keeps (fun _ => False) w w' ∧ ∀ k, u.ownBlock = some k → w.heap.size ≤ k := by
  obtain ⟨A, c, hsh, hm1, hm2⟩ : ∃ A c, v = .slice A zs.length c ∧ zs.length ≤ c ∧ c ≤ maxLen := by obtain ⟨_, A, c, h, h1, h2, _⟩ := h; exact ⟨A, c, h, h1, h2⟩
  subst hsh
  obtain ⟨R, hR⟩ : ∃ R, ofL zs = R := ⟨_, rfl⟩
  rw [hR]
  have hR' := Lib.hid hR
  clear hR
  go_enter Try.func11, Try.ntmps11
  go_wp2_with fail
  go_loopw [3, 4] (fun l s wr => ∃ i : Nat, i ≤ zs.length ∧ i ≤ 5 ∧ s = .int .i64 (i : Int) ∧ QS wr 3 1 l i ((ofN zs i).map encI) ∧ Keeps (fun _ => False) w wr ∧ ∀ k, l.ownBlock = some k → w.heap.size ≤ k) (fun _ s _ => 5 - (intOf s).toNat)
  case atStart => exact ⟨0, Nat.zero_le _, by decide, rfl, QS.nil _ _ _, Keeps.refl _ _, fun k h => by cases h⟩
  case round =>
    obtain ⟨i, hi, hi5, rfl, hq, hk, hb⟩ := hrel
    revert hq hb; generalize u3 = l; intro hq hb
    by_cases hil : i < zs.length
    · have hii : (i : Int) < (zs.length : Int) := by omega
      by_cases h5 : i < 5
      · have h5' : (i : Int) < 5 := by omega
        obtain ⟨g, off, c', e', _, _, hcell⟩ := h.at_ (by simp; omega)
        injection e' with e1 _ e2
        subst e1; subst e2
        have hci := hk.cell (hcell i (encU8 zs[i]) (by rw [List.getElem?_map, List.getElem?_eq_getElem hil]; rfl)) (fun h => h)
        have hz1 := hz zs[i] (List.getElem_mem _)
        have hsn := ofN_succ zs i
        rw [List.getD_eq_getElem?_getD, List.getElem?_eq_getElem hil] at hsn
        rw [show (some zs[i]).getD 0 = zs[i] from rfl] at hsn
        clear hcell
        generalize zs[i] = z at *
        have hmod : (z : Int) % ((i : Int) + 1) = ((z % (i + 1) : Nat) : Int) := by rw [Int.natCast_emod]; rfl
        have hne : ¬ ((i : Int) + 1 = 0) := by omega
        generalize z % (i + 1) = q at *
        have hq0 : QS (wr.alloc (.cells #[encI q] 3)) 3 1 l i ((ofN zs i).map encI) := hq.alloc _
        have hsrc : Src Try.prog 1 23 (.slice (some ⟨wr.heap.size, 0, none⟩) 1 1) 1 [encI q] (wr.alloc (.cells #[encI q] 3)) :=
          src_blk Try.underlying23 (blk_new _ _) rfl (by intro jj hjj'; match jj, hjj' with | 0, _ => rfl) (by intro u hu; simp at hu; subst hu; rfl)
        go_wp2_with (at_builtin; refine wpList_append_QS rfl _ _ 23 23 rfl 3 _ 1 8 Try.underlying23 info_int rfl l i ((ofN zs i).map encI) rfl hq0 _ 1 [encI q] rfl hsrc (by decide) (by omega) ?_; intro A1 c1 w1 hq1 hg1 ho1)
        go_roundw
        case rel =>
          have hk1 : Keeps (fun i => l.ownBlock = some i) wr w1 := (Keeps.alloc _ _ _).trans (Keeps.grown hg1 (fun i h => h))
          refine ⟨i + 1, by omega, by omega, by simp, by rw [hsn, List.map_append]; exact hq1, hk.then hk1 (fun i hi h => by have := hb i h; omega), fun b hb' => ?_⟩
          rcases ho1 with h | ⟨i', h, hle⟩
          · exact hb b (h ▸ hb')
          · rw [hb'] at h; cases h; have := hk.size; rw [World.size_alloc] at hle; omega
        case measure => simp [intOf]; omega
      · obtain rfl : i = 5 := by omega
        have hRe : R = ofN zs 5 := by rw [← hR'.out]; unfold ofL; rw [if_neg (by omega), if_neg (by omega)]
        subst hRe
        obtain ⟨lA, lc, hsh, _, _⟩ := hq.shape
        subst hsh
        go_wp2_with fail
        go_ret
        exact ⟨_, rfl, by rw [ofN_length]; exact hq, hk, hb⟩
    · obtain rfl : i = zs.length := by omega
      obtain ⟨lA, lc, hsh, _, _⟩ := hq.shape
      subst hsh
      by_cases h0 : zs.length = 0
      · have hRe : R = [0] := by rw [← hR'.out]; unfold ofL; rw [if_pos h0]
        subst hRe
        generalize zs.length = n at *
        subst h0
        have hq0 : QS (wr.alloc (.cells #[encI 0] 3)) 3 1 (.slice lA 0 lc) 0 ((ofN zs 0).map encI) := hq.alloc _
        have hsrc : Src Try.prog 1 23 (.slice (some ⟨wr.heap.size, 0, none⟩) 1 1) 1 [encI 0] (wr.alloc (.cells #[encI 0] 3)) :=
          src_blk Try.underlying23 (blk_new _ _) rfl (by intro jj hjj'; match jj, hjj' with | 0, _ => rfl) (by intro u hu; simp at hu; subst hu; rfl)
        go_wp2_with (at_builtin; refine wpList_append_QS rfl _ _ 23 23 rfl 3 _ 1 8 Try.underlying23 info_int rfl (.slice lA 0 lc) 0 ((ofN zs 0).map encI) rfl hq0 _ 1 [encI 0] rfl hsrc (by decide) (by omega) ?_; intro A1 c1 w1 hq1 hg1 ho1)
        have hk1 : Keeps (fun i => (Value.slice lA 0 lc).ownBlock = some i) wr w1 := (Keeps.alloc _ _ _).trans (Keeps.grown hg1 (fun i h => h))
        go_ret
        refine ⟨.slice A1 1 c1, rfl, hq1, hk.then hk1 (fun i hi h => by have := hb i h; omega), fun b hb' => ?_⟩
        rcases ho1 with h | ⟨i', h, hle⟩
        · exact hb b (h ▸ hb')
        · rw [show (Value.slice A1 (0 + 1) c1) = .slice A1 1 c1 from rfl, hb'] at h; cases h; have := hk.size; rw [World.size_alloc] at hle; omega
      · have hRe : R = ofN zs zs.length := by
          rw [← hR'.out]; unfold ofL; rw [if_neg h0]
          by_cases h5 : zs.length < 5
          · rw [if_pos h5]
          · rw [if_neg h5, show zs.length = 5 by omega]
        subst hRe
        have hne : ((zs.length : Int) == 0) = false := by rw [beq_eq_false_iff_ne]; omega
        go_wp2_with fail
        go_ret
        exact ⟨_, rfl, by rw [ofN_length]; exact hq, hk, hb⟩
end Go.Proofs.Ytcgddbbniahimaa
