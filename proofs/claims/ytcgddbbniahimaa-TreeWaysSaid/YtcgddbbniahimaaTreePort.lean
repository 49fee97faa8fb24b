/-
  The document's lay, Beside and Port, walked.
-/
import Derived.Test.YtcgddbbniahimaaTreeLawKit
set_option linter.unusedVariables false
set_option linter.unusedSimpArgs false
namespace Go.Proofs.Ytcgddbbniahimaa
open Go.RowKit

def cutN (L : List Nat) (x : Nat) : Nat := (L.takeWhile fun y => decide (y < x)).length
def skipN (L : List Nat) (x : Nat) : Nat := if L[cutN L x]? = some x then cutN L x + 1 else cutN L x
def layN (L : List Nat) (x : Nat) : List Nat := L.take (cutN L x) ++ [x] ++ L.drop (skipN L x)
theorem cutN_at : ∀ (L : List Nat) (x i : Nat), i ≤ L.length → (∀ j (h : j < i) (h2 : j < L.length), L[j] < x) → (∀ h : i < L.length, ¬ L[i] < x) → cutN L x = i
  | [], x, i, hi, _, _ => by
    have : i = 0 := by simpa using hi
    subst this; rfl
  | a :: L, x, 0, _, _, h => by
    have := h (by simp)
    simp at this
    unfold cutN
    rw [List.takeWhile_cons, if_neg (by simp; omega)]; rfl
  | a :: L, x, i + 1, hi, hlt, hge => by
    have ha := hlt 0 (by omega) (by simp)
    simp at ha
    have ih := cutN_at L x i (by simpa using hi) (fun j h h2 => by have := hlt (j + 1) (by omega) (by simp; omega); simpa using this) (fun h => by have := hge (by simp; omega); simpa using this)
    unfold cutN at ih ⊢
    rw [List.takeWhile_cons, if_pos (by simpa using ha), List.length_cons, ih]
theorem cutN_le (L : List Nat) (x : Nat) : cutN L x ≤ L.length := (List.takeWhile_sublist _).length_le
theorem layN_length (L : List Nat) (x : Nat) : (layN L x).length ≤ L.length + 1 := by
  unfold layN skipN
  have := cutN_le L x
  simp only [List.length_append, List.length_take, List.length_drop, List.length_singleton]
  split <;> omega

theorem Src.zero {P : Program} {w : World} {tx e' sz : Nat} (hk : P.underlying tx = some (.slice e')) (A : Option Addr) (c : Nat) : Src P sz tx (.slice A 0 c) 0 [] w := by
  cases A with
  | none => exact Src.ofNil w hk c
  | some a => exact Src.ofSlice w hk a 0 c [] (by simp) (fun j u hu => by simp at hu) (fun u hu => by cases hu)

set_option maxHeartbeats 8000000 in
theorem lay12_calls (v : Value) (L : List Nat) (x : Nat) (w : World) (h : QS w 3 1 v L.length (L.map encI)) (hL : L.length ≤ 10) :
    Calls Try.prog 37 #[v, .int .i64 x] w fun e w' => ∃ u, e = .returned u ∧ QS w' 3 1 u (layN L x).length ((layN L x).map encI) ∧ Keeps (fun _ => False) w w' := by
  obtain ⟨lA, lc, hsh, hlc1, hlc2⟩ := h.shape
  subst hsh
  obtain ⟨R, hR⟩ : ∃ R, layN L x = R := ⟨_, rfl⟩
  rw [hR]
  have hR' := Lib.hid hR
  clear hR
  go_enter Try.func37, Try.ntmps37
  go_wp2_with fail
  go_loopw [5, 6] (fun l s wr => ∃ i : Nat, i ≤ L.length ∧ (∀ j (h : j < i) (h2 : j < L.length), L[j] < x) ∧ s = .int .i64 (i : Int) ∧ QS wr 3 1 l i ((L.take i).map encI) ∧ Keeps (fun _ => False) w wr ∧ ∀ k, l.ownBlock = some k → w.heap.size ≤ k) (fun _ s _ => L.length - (intOf s).toNat)
  case atStart => exact ⟨0, Nat.zero_le _, (fun j h => absurd h (Nat.not_lt_zero _)), rfl, QS.nil _ _ _, Keeps.refl _ _, fun k h => by cases h⟩
  case round =>
    obtain ⟨i, hi, hlt, rfl, hq, hk, hb⟩ := hrel
    revert hq hb; generalize u5 = l; intro hq hb
    have hcut := cutN_at L x i hi hlt
    -- what stands behind the loop: from i, and where to go on
    by_cases hil : i < L.length
    · have hii : (i : Int) < (L.length : Int) := by omega
      obtain ⟨g, off, c', e', _, hcell, _⟩ := h.cell (by omega)
      cases e'
      have hci := hk.cell (hcell i (encI L[i]) (by rw [List.getElem?_map, List.getElem?_eq_getElem hil]; rfl)) (fun h => h)
      have htk : L.take (i + 1) = L.take i ++ [L[i]] := List.take_succ_eq_append_getElem hil
      have hnext : L[i] < x → ∀ j (h : j < i + 1) (h2 : j < L.length), L[j] < x := fun hlx j h1 h2 => by
        by_cases e : j = i
        · subst e; exact hlx
        · exact hlt j (by omega) h2
      have hget : L[i]? = some L[i] := List.getElem?_eq_getElem hil
      generalize hyv : L[i] = y at *
      by_cases hyx : y < x
      · have hyi : (y : Int) < (x : Int) := by omega
        have hnext' := Lib.hid (hnext hyx)
        have htk' := Lib.hid htk
        clear hnext htk hget hyv hlt hcut
        have hq0 : QS (wr.alloc (.cells #[encI y] 3)) 3 1 l i ((L.take i).map encI) := hq.alloc _
        have hsrc : Src Try.prog 1 23 (.slice (some ⟨wr.heap.size, 0, none⟩) 1 1) 1 [encI y] (wr.alloc (.cells #[encI y] 3)) :=
          src_blk Try.underlying23 (blk_new _ _) rfl (by intro jj hjj'; match jj, hjj' with | 0, _ => rfl) (by intro u hu; simp at hu; subst hu; rfl)
        go_wp2_with (at_builtin; refine wpList_append_QS rfl _ _ 23 23 rfl 3 _ 1 8 Try.underlying23 info_int rfl l i ((L.take i).map encI) rfl hq0 _ 1 [encI y] rfl hsrc (by decide) (by omega) ?_; intro A1 c1 w1 hq1 hg1 ho1)
        go_roundw
        case rel =>
          have hk1 : Keeps (fun i => l.ownBlock = some i) wr w1 := (Keeps.alloc _ _ _).trans (Keeps.grown hg1 (fun i h => h))
          refine ⟨i + 1, by omega, hnext'.out, by simp, by rw [htk'.out, List.map_append]; exact hq1, hk.then hk1 (fun i hi h => by have := hb i h; omega), fun b hb' => ?_⟩
          rcases ho1 with h | ⟨i', h, hle⟩
          · exact hb b (h ▸ hb')
          · rw [hb'] at h; cases h; have := hk.size; rw [World.size_alloc] at hle; omega
        case measure => simp [intOf]; omega
      · have hyi : ¬ (y : Int) < (x : Int) := by omega
        have hc := hcut (fun _ => by rw [hyv]; exact hyx)
        clear hnext htk hcut hlt
        have hq0 : QS (wr.alloc (.cells #[encI x] 3)) 3 1 l i ((L.take i).map encI) := hq.alloc _
        have hsrc : Src Try.prog 1 23 (.slice (some ⟨wr.heap.size, 0, none⟩) 1 1) 1 [encI x] (wr.alloc (.cells #[encI x] 3)) :=
          src_blk Try.underlying23 (blk_new _ _) rfl (by intro jj hjj'; match jj, hjj' with | 0, _ => rfl) (by intro u hu; simp at hu; subst hu; rfl)
        have hHD : ∀ j, j ≤ L.length → ∀ w1, (wr.alloc (.cells #[encI x] 3)).grownBy w1 l.ownBlock → Src Try.prog 1 23 (.slice (some ⟨g, off + j, none⟩) (L.length - j) (lc - j)) (L.length - j) ((L.drop j).map encI) w1 := fun j hj w1 hg => by
          have hk1 : Keeps (fun i => l.ownBlock = some i) wr w1 := (Keeps.alloc _ _ _).trans (Keeps.grown hg (fun i h => h))
          have hd := (h.keeps (hk.then hk1 (fun i hi h' => by have := hb i h'; omega)) (fun _ _ h => h)).drop j hj
          rw [Nat.mul_one, ← List.map_drop] at hd
          exact hd.src Try.underlying23 (one_nats _)
        by_cases hyx2 : y = x
        · have hs : skipN L x = i + 1 := by unfold skipN; rw [hc, hget, if_pos (by rw [hyx2])]
          have hRe : R = L.take i ++ [x] ++ L.drop (i + 1) := by rw [← hR'.out]; unfold layN; rw [hc, hs]
          have heq : ((y : Int) == (x : Int)) = true := by rw [beq_iff_eq]; omega
          have hi1 : (i : Int) + 1 ≤ (lc : Int) := by omega
          have hi2 : (i : Int) + 1 ≤ (L.length : Int) := by omega
          clear hget hyv hyx2 hyx hc hs
          by_cases hlast : i + 1 = L.length
          · have hz0 : L.length - (i + 1) = 0 := by omega
            have hd0 : L.drop (i + 1) = [] := List.drop_of_length_le (by omega)
            rw [hd0, List.append_nil] at hRe
            clear hlast hd0 hHD
            replace hRe := Lib.hid hRe
            go_wp2_with (first | (at_builtin; refine wpList_append_QS rfl _ _ 23 23 rfl 3 _ 1 8 Try.underlying23 info_int rfl l i ((L.take i).map encI) rfl hq0 _ 1 [encI x] rfl hsrc (by decide) (by omega) ?_; intro A1 c1 w1 hq1 hg1 ho1) | (at_builtin; refine wpList_append_QS rfl _ _ 23 23 rfl 3 _ 1 8 Try.underlying23 info_int rfl (.slice A1 (i + 1) c1) (i + 1) _ rfl hq1 _ 0 [] rfl (Src.zero Try.underlying23 _ _) (by decide) (by omega) ?_; intro A2 c2 w2 hq2 hg2 ho2))
            all_goals
              have hk1 : Keeps (fun i => l.ownBlock = some i) wr w1 := (Keeps.alloc _ _ _).trans (Keeps.grown hg1 (fun i h => h))
              have hb1 : ∀ k, (Value.slice A1 (i + 1) c1).ownBlock = some k → w.heap.size ≤ k := fun b hb' => by
                rcases ho1 with h | ⟨i', h, hle⟩
                · exact hb b (h ▸ hb')
                · rw [hb'] at h; cases h; have := hk.size; rw [World.size_alloc] at hle; omega
              have hkf : Keeps (fun _ => False) w w2 := (hk.then hk1 (fun i hi h => by have := hb i h; omega)).then (Keeps.grown (F := fun b => (Value.slice A1 (i + 1) c1).ownBlock = some b) hg2 (fun b h => h)) (fun b hi h => by have := hb1 b h; omega)
              have hRl : R.length = i + 1 + 0 := by rw [hRe.out]; simp only [List.length_append, List.length_take, List.length_drop, List.length_singleton]; omega
              go_ret
              refine ⟨_, rfl, ?_, hkf⟩
              rw [hRl, hRe.out, List.map_append]
              rw [List.append_nil] at hq2
              exact hq2
          · have hne : ¬ lc = i + 1 := by omega
            have hne2 : ¬ (lc : Int) = (i : Int) + 1 := by omega
            have hlen : i + 1 + (L.length - (i + 1)) ≤ 12 := by omega
            have HD := Lib.hid (hHD (i + 1) (by omega))
            clear hlast hHD
            replace hRe := Lib.hid hRe
            go_wp2_with (first | (at_builtin; refine wpList_append_QS rfl _ _ 23 23 rfl 3 _ 1 8 Try.underlying23 info_int rfl l i ((L.take i).map encI) rfl hq0 _ 1 [encI x] rfl hsrc (by decide) (by omega) ?_; intro A1 c1 w1 hq1 hg1 ho1) | (at_builtin; refine wpList_append_QS rfl _ _ 23 23 rfl 3 _ 1 8 Try.underlying23 info_int rfl (.slice A1 (i + 1) c1) (i + 1) _ rfl hq1 _ _ _ rfl (HD.out w1 hg1) (by decide) (by omega) ?_; intro A2 c2 w2 hq2 hg2 ho2))
            have hk1 : Keeps (fun i => l.ownBlock = some i) wr w1 := (Keeps.alloc _ _ _).trans (Keeps.grown hg1 (fun i h => h))
            have hb1 : ∀ k, (Value.slice A1 (i + 1) c1).ownBlock = some k → w.heap.size ≤ k := fun b hb' => by
              rcases ho1 with h | ⟨i', h, hle⟩
              · exact hb b (h ▸ hb')
              · rw [hb'] at h; cases h; have := hk.size; rw [World.size_alloc] at hle; omega
            have hkf : Keeps (fun _ => False) w w2 := (hk.then hk1 (fun i hi h => by have := hb i h; omega)).then (Keeps.grown (F := fun b => (Value.slice A1 (i + 1) c1).ownBlock = some b) hg2 (fun b h => h)) (fun b hi h => by have := hb1 b h; omega)
            have hRl : R.length = i + 1 + (L.length - (i + 1)) := by rw [hRe.out]; simp only [List.length_append, List.length_take, List.length_drop, List.length_singleton]; omega
            go_ret
            refine ⟨_, rfl, ?_, hkf⟩
            rw [hRl, hRe.out, List.map_append, List.map_append]
            exact hq2
        · have hs : skipN L x = i := by unfold skipN; rw [hc, hget, if_neg (fun h => hyx2 (by injection h))]
          have hRe : R = L.take i ++ [x] ++ L.drop i := by rw [← hR'.out]; unfold layN; rw [hc, hs]
          have heq : ((y : Int) == (x : Int)) = false := by rw [beq_eq_false_iff_ne]; omega
          have hi1 : (i : Int) ≤ (lc : Int) := by omega
          have hi2 : (i : Int) ≤ (L.length : Int) := by omega
          have hne : ¬ lc = i := by omega
          have hne2 : ¬ (lc : Int) = (i : Int) := by omega
          have hlen : i + 1 + (L.length - i) ≤ 12 := by omega
          have HD := Lib.hid (hHD i (by omega))
          clear hget hyv hyx2 hyx hc hs hHD
          replace hRe := Lib.hid hRe
          go_wp2_with (first | (at_builtin; refine wpList_append_QS rfl _ _ 23 23 rfl 3 _ 1 8 Try.underlying23 info_int rfl l i ((L.take i).map encI) rfl hq0 _ 1 [encI x] rfl hsrc (by decide) (by omega) ?_; intro A1 c1 w1 hq1 hg1 ho1) | (at_builtin; refine wpList_append_QS rfl _ _ 23 23 rfl 3 _ 1 8 Try.underlying23 info_int rfl (.slice A1 (i + 1) c1) (i + 1) _ rfl hq1 _ _ _ rfl (HD.out w1 hg1) (by decide) (by omega) ?_; intro A2 c2 w2 hq2 hg2 ho2))
          have hk1 : Keeps (fun i => l.ownBlock = some i) wr w1 := (Keeps.alloc _ _ _).trans (Keeps.grown hg1 (fun i h => h))
          have hb1 : ∀ k, (Value.slice A1 (i + 1) c1).ownBlock = some k → w.heap.size ≤ k := fun b hb' => by
            rcases ho1 with h | ⟨i', h, hle⟩
            · exact hb b (h ▸ hb')
            · rw [hb'] at h; cases h; have := hk.size; rw [World.size_alloc] at hle; omega
          have hkf : Keeps (fun _ => False) w w2 := (hk.then hk1 (fun i hi h => by have := hb i h; omega)).then (Keeps.grown (F := fun b => (Value.slice A1 (i + 1) c1).ownBlock = some b) hg2 (fun b h => h)) (fun b hi h => by have := hb1 b h; omega)
          have hRl : R.length = i + 1 + (L.length - i) := by rw [hRe.out]; simp only [List.length_append, List.length_take, List.length_drop, List.length_singleton]; omega
          go_ret
          refine ⟨_, rfl, ?_, hkf⟩
          rw [hRl, hRe.out, List.map_append, List.map_append]
          exact hq2

    · obtain rfl : i = L.length := by omega
      have hc := hcut (fun h => absurd h (Nat.lt_irrefl _))
      have hRe : R = L.take L.length ++ [x] ++ L.drop L.length := by
        rw [← hR'.out]; unfold layN skipN; rw [hc, if_neg (by rw [List.getElem?_eq_none (Nat.le_refl _)]; exact fun h => by cases h)]
      clear hcut hc hlt
      have hq0 : QS (wr.alloc (.cells #[encI x] 3)) 3 1 l L.length ((L.take L.length).map encI) := hq.alloc _
      have hsrc : Src Try.prog 1 23 (.slice (some ⟨wr.heap.size, 0, none⟩) 1 1) 1 [encI x] (wr.alloc (.cells #[encI x] 3)) :=
        src_blk Try.underlying23 (blk_new _ _) rfl (by intro jj hjj'; match jj, hjj' with | 0, _ => rfl) (by intro u hu; simp at hu; subst hu; rfl)
      rw [List.drop_length, List.append_nil] at hRe
      have hi1 : (L.length : Int) ≤ (lc : Int) := by omega
      replace hRe := Lib.hid hRe
      go_wp2_with (first | (at_builtin; refine wpList_append_QS rfl _ _ 23 23 rfl 3 _ 1 8 Try.underlying23 info_int rfl l L.length ((L.take L.length).map encI) rfl hq0 _ 1 [encI x] rfl hsrc (by decide) (by omega) ?_; intro A1 c1 w1 hq1 hg1 ho1) | (at_builtin; refine wpList_append_QS rfl _ _ 23 23 rfl 3 _ 1 8 Try.underlying23 info_int rfl (.slice A1 (L.length + 1) c1) (L.length + 1) _ rfl hq1 _ 0 [] rfl (Src.zero Try.underlying23 _ _) (by decide) (by omega) ?_; intro A2 c2 w2 hq2 hg2 ho2))
      all_goals
        have hk1 : Keeps (fun i => l.ownBlock = some i) wr w1 := (Keeps.alloc _ _ _).trans (Keeps.grown hg1 (fun i h => h))
        have hb1 : ∀ k, (Value.slice A1 (L.length + 1) c1).ownBlock = some k → w.heap.size ≤ k := fun b hb' => by
          rcases ho1 with h | ⟨i', h, hle⟩
          · exact hb b (h ▸ hb')
          · rw [hb'] at h; cases h; have := hk.size; rw [World.size_alloc] at hle; omega
        have hkf : Keeps (fun _ => False) w w2 := (hk.then hk1 (fun i hi h => by have := hb i h; omega)).then (Keeps.grown (F := fun b => (Value.slice A1 (L.length + 1) c1).ownBlock = some b) hg2 (fun b h => h)) (fun b hi h => by have := hb1 b h; omega)
        have hRl : R.length = L.length + 1 + 0 := by rw [hRe.out]; simp only [List.length_append, List.length_take, List.length_drop, List.length_singleton]; omega
        go_ret
        refine ⟨_, rfl, ?_, hkf⟩
        rw [hRl, hRe.out, List.map_append]
        rw [List.append_nil] at hq2
        exact hq2

end Go.Proofs.Ytcgddbbniahimaa
