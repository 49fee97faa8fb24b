/-
  The document's answer on trees, walked: right, up, Path.
-/
import Derived.Test.YtcgddbbniahimaaTreeOf
set_option linter.unusedVariables false
set_option linter.unusedSimpArgs false
namespace Go.Proofs.Ytcgddbbniahimaa
open Go.RowKit

/-- How far two ways up are the same, from behind. -/
def trimI (a b : List Nat) : Nat → Nat → Nat × Nat
  | 0, j => (0, j)
  | i + 1, j => if 1 < i + 1 ∧ 1 < j ∧ a.getD (i + 1 - 2) 0 = b.getD (j - 2) 0 then trimI a b i (j - 1) else (i + 1, j)
theorem trimI_step {a b : List Nat} {i j : Nat} (h1 : 1 < i) (h2 : 1 < j) (h : a.getD (i - 2) 0 = b.getD (j - 2) 0) : trimI a b i j = trimI a b (i - 1) (j - 1) := by
  obtain ⟨k, rfl⟩ : ∃ k, i = k + 1 := ⟨i - 1, by omega⟩
  rw [trimI, if_pos ⟨h1, h2, h⟩]; rfl
theorem trimI_end {a b : List Nat} {i j : Nat} (h : ¬ (1 < i ∧ 1 < j ∧ a.getD (i - 2) 0 = b.getD (j - 2) 0)) : trimI a b i j = (i, j) := by
  cases i with
  | zero => rfl
  | succ k => rw [trimI, if_neg h]
def pathR (t : List Nat) (v x : Nat) : List Nat :=
  (upl t v).take (trimI (upl t v) (upl t x) (upl t v).length (upl t x).length).1 ++ ((upl t x).take ((trimI (upl t v) (upl t x) (upl t v).length (upl t x).length).2 - 1)).reverse

/-- All trees of so many nodes but the first. -/
def trees : Nat → List (List Nat)
  | 0 => [[]]
  | n + 1 => (trees n).flatMap fun t => (List.range (n + 1)).map fun p => t ++ [p]
theorem mem_trees : ∀ (n : Nat) (t : List Nat), t.length = n → Tree t → t ∈ trees n
  | 0, t, h, _ => by rw [List.eq_nil_of_length_eq_zero h]; exact List.mem_singleton.2 rfl
  | n + 1, t, h, ht => by
    have hne : t ≠ [] := fun e => by rw [e] at h; cases h
    have e := List.dropLast_concat_getLast hne
    have hd : t.dropLast.length = n := by rw [List.length_dropLast]; omega
    have htd : Tree t.dropLast := fun i hi => by
      rw [List.getElem_dropLast]
      exact ht i (by rw [List.length_dropLast] at hi; omega)
    refine List.mem_flatMap.2 ⟨t.dropLast, mem_trees n _ hd htd, List.mem_map.2 ⟨t.getLast hne, ?_, e⟩⟩
    have := ht (t.length - 1) (by omega)
    rw [← List.getLast_eq_getElem hne] at this
    exact List.mem_range.2 (by omega)
/-- What holds of all small trees and their nodes. -/
def allT (f : List Nat → Nat → Nat → Bool) : Bool := (List.range 6).all fun n => (trees n).all fun t => (List.range (n + 1)).all fun v => (List.range (n + 1)).all fun x => f t v x
theorem allT_at {f : List Nat → Nat → Nat → Bool} (h : allT f = true) {t : List Nat} (ht : Tree t) (h5 : t.length ≤ 5) {v x : Nat} (hv : v ≤ t.length) (hx : x ≤ t.length) : f t v x = true := by
  unfold allT at h
  have h1 := List.all_eq_true.1 h t.length (List.mem_range.2 (by omega))
  have h2 := List.all_eq_true.1 h1 t (mem_trees _ t rfl ht)
  have h3 := List.all_eq_true.1 h2 v (List.mem_range.2 (by omega))
  exact List.all_eq_true.1 h3 x (List.mem_range.2 (by omega))
theorem pathR_all : allT (fun t v x => pathR t v x == pathN t v x) = true := by decide +kernel
theorem pathR_eq {t : List Nat} (ht : Tree t) (h5 : t.length ≤ 5) {v x : Nat} (hv : v ≤ t.length) (hx : x ≤ t.length) : pathR t v x = pathN t v x := by
  have := allT_at pathR_all ht h5 hv hx
  simpa using this

set_option maxHeartbeats 2000000 in
theorem rright_calls (fv : Value) (ps : List Int) (w : World) (h : Reads w w.heap.size 1 fv ps.length (ps.map encZ)) :
    Calls Try.prog 26 #[fv] w fun e w' => e = .returned (.bool (rightI ps)) ∧ w' = w := by
  obtain ⟨A, c, hsh, hm1, hm2⟩ : ∃ A c, fv = .slice A ps.length c ∧ ps.length ≤ c ∧ c ≤ maxLen := by obtain ⟨_, A, c, h, h1, h2, _⟩ := h; exact ⟨A, c, h, h1, h2⟩
  subst hsh
  have hmx : (ps.length : Int) ≤ 9223372036854775807 := by simp only [maxLen] at hm2; omega
  clear hm1 hm2
  obtain ⟨b, hb⟩ : ∃ b, rightI ps = b := ⟨_, rfl⟩
  rw [hb]
  have hb' := Lib.hid hb
  clear hb
  go_enter Try.func26, Try.ntmps26
  go_wp2_with fail
  go_loopw [3] (fun s wr => ∃ i : Nat, i ≤ ps.length ∧ (∀ j (h : j < i) (h2 : j < ps.length), 0 ≤ ps[j] ∧ ps[j] ≤ (j : Int)) ∧ s = .int .i64 (i : Int) ∧ wr = w) (fun s _ => ps.length - (intOf s).toNat)
  case atStart => exact ⟨0, Nat.zero_le _, (fun j h => absurd h (Nat.not_lt_zero _)), rfl, rfl⟩
  case round =>
    obtain ⟨i, hi, hok, rfl, hwr⟩ := hrel
    subst hwr
    by_cases hil : i < ps.length
    · have hii : (i : Int) < (ps.length : Int) := by omega
      obtain ⟨g, off, c', e', _, _, hcell⟩ := h.at_ (by simp; omega)
      injection e' with e1 _ e2
      subst e1; subst e2
      have hci := hcell i (encZ ps[i]) (by rw [List.getElem?_map, List.getElem?_eq_getElem hil]; rfl)
      have hno := right_no hil
      have hok' : (0 ≤ ps[i] ∧ ps[i] ≤ (i : Int)) → ∀ j (h : j < i + 1) (h2 : j < ps.length), 0 ≤ ps[j] ∧ ps[j] ≤ (j : Int) := fun hg j h1 h2 => by
        by_cases e : j = i
        · subst e; exact hg
        · exact hok j (by omega) h2
      clear hcell hok
      generalize ps[i] = z at *
      by_cases hz : z < 0
      · obtain rfl : b = false := by rw [← hb'.out]; exact hno (by omega)
        clear hno hok'
        go_wp2_with fail
        go_ret
        exact ⟨rfl, rfl⟩
      · by_cases hz2 : (i : Int) < z
        · obtain rfl : b = false := by rw [← hb'.out]; exact hno (by omega)
          clear hno hok'
          go_wp2_with fail
          go_ret
          exact ⟨rfl, rfl⟩
        · have ok := Lib.hid (hok' (by omega))
          clear hno hok'
          have hbig : (i : Int) + 1 ≤ 9223372036854775807 := by omega
          go_wp2_with fail
          go_roundw
          case rel => exact ⟨i + 1, by omega, ok.out, by simp, trivial⟩
          case measure => simp [intOf]; omega
    · have er := right_yes (ps := ps) (fun j h => hok j (by omega) h)
      clear hok
      by_cases h6 : ps.length < 6
      · have h6' : (ps.length : Int) ≤ 5 := by omega
        obtain rfl : b = true := by rw [← hb'.out, er]; exact decide_eq_true h6
        clear er
        go_wp2_with fail
        go_ret
        exact ⟨rfl, rfl⟩
      · have h6' : ¬ (ps.length : Int) ≤ 5 := by omega
        obtain rfl : b = false := by rw [← hb'.out, er]; exact decide_eq_false h6
        clear er
        go_wp2_with fail
        go_ret
        exact ⟨rfl, rfl⟩

set_option maxHeartbeats 4000000 in
theorem rup_calls (A : Option Addr) (m c : Nat) (t : List Nat) (v : Nat) (ht : Tree t) (hv : v ≤ m) (hm : m ≤ 5) (w : World) (hG : Fam w A m t) :
    Calls Try.prog 27 #[.slice A m c, .int .i64 v] w fun e w' =>
      ∃ u, e = .returned u ∧ QS w' 3 1 u (upl t v).length ((upl t v).map encI) ∧ Keeps (fun _ => False) w w' ∧ ∀ k, u.ownBlock = some k → w.heap.size ≤ k := by
  have hul := upl_length ht v
  go_enter Try.func27, Try.ntmps27
  go_wp2_with fail
  have hq0 : QS (w.alloc (.cells #[encI v] 3)) 3 1 (.slice (some ⟨w.heap.size, 0, none⟩) 1 1) 1 ([v].map encI) :=
    ⟨rfl, .inr ⟨w.heap.size, 0, 1, _, rfl, blk_new _ _, Nat.le_refl _, by decide, by simp, by intro j hj; match j, hj with | 0, _ => rfl⟩⟩
  go_loopw [1, 5] (fun s l wr => ∃ (pre : List Nat) (x : Nat), upl t v = pre ++ upl t x ∧ x ≤ m ∧ s = .int .i64 (x : Int) ∧ QS wr 3 1 l (pre ++ [x]).length ((pre ++ [x]).map encI) ∧ Keeps (fun _ => False) w wr ∧ ∀ k, l.ownBlock = some k → w.heap.size ≤ k) (fun s _ _ => (intOf s).toNat)
  case atStart => exact ⟨[], v, rfl, hv, rfl, hq0, Keeps.alloc _ _ _, fun k h => by cases h; exact Nat.le_refl _⟩
  case round =>
    obtain ⟨pre, x, hx, hxm, rfl, hq, hk, hb⟩ := hrel
    revert hq hb; generalize u5 = l; intro hq hb
    by_cases hx0 : 0 < x
    · have hstep := upl_step ht hx0
      have hpar := par_lt ht hx0
      obtain ⟨j, hj1, hj2⟩ : ∃ j : Nat, (x : Int) - 1 = (j : Int) ∧ j = x - 1 := ⟨x - 1, by omega, rfl⟩
      obtain ⟨g, off, rfl, hg, hcj⟩ := (hG.keeps hk (fun _ _ h => h)).2 j (by omega)
      have hjm : (j : Int) < (m : Int) := by omega
      have hj0 : (0 : Int) ≤ (j : Int) := by omega
      rw [← hj2] at hpar hstep
      generalize t.getD j 0 = q at *
      have hlen : (pre ++ [x]).length ≤ 6 := by
        have := congrArg List.length hx
        rw [hstep, List.length_append, List.length_cons] at this
        rw [List.length_append, List.length_singleton]; omega
      have hx' : upl t v = (pre ++ [x]) ++ upl t q := by rw [hx, hstep]; simp
      have hx2 := Lib.hid hx'
      clear hj2 hx hx' hstep
      generalize pre ++ [x] = L at *
      have hq1 : QS (wr.alloc (.cells #[encI q] 3)) 3 1 l L.length (L.map encI) := hq.alloc _
      have hsrc : Src Try.prog 1 23 (.slice (some ⟨wr.heap.size, 0, none⟩) 1 1) 1 [encI q] (wr.alloc (.cells #[encI q] 3)) :=
        src_blk Try.underlying23 (blk_new _ _) rfl (by intro jj hjj'; match jj, hjj' with | 0, _ => rfl) (by intro u hu; simp at hu; subst hu; rfl)
      go_wp2_with (at_builtin; refine wpList_append_QS rfl _ _ 23 23 rfl 3 _ 1 8 Try.underlying23 info_int rfl l L.length (L.map encI) rfl hq1 _ 1 [encI q] rfl hsrc (by decide) (by omega) ?_; intro A1 c1 w1 hq2 hg1 ho1)
      go_roundw
      case rel =>
        have hk1 : Keeps (fun i => l.ownBlock = some i) wr w1 := (Keeps.alloc _ _ _).trans (Keeps.grown hg1 (fun i h => h))
        refine ⟨L, q, hx2.out, by omega, by simp, by rw [List.length_append, List.map_append]; exact hq2, hk.then hk1 (fun i hi h => by have := hb i h; omega), fun b hb' => ?_⟩
        rcases ho1 with h | ⟨i', h, hle⟩
        · exact hb b (h ▸ hb')
        · rw [hb'] at h; cases h; have := hk.size; rw [World.size_alloc] at hle; omega
      case measure => simp [intOf]; omega
    · obtain rfl : x = 0 := by omega
      go_wp2_with fail
      go_ret
      exact ⟨_, rfl, by rw [hx]; exact hq, hk, hb⟩
end Go.Proofs.Ytcgddbbniahimaa
