/-
  The way up, and a slice backward, one by one, walked: the values that 'up' and 'Backward' hand back have the contract SeqO.
-/
import Derived.Test.YtcgddbbniahimaaProg
import Derived.Test.YtcgddbbniahimaaSeqA
import Derived.BigQuiet
import Derived.Test.YtcgddbbniahimaaTreePure
import Derived.OwnWalkIn
import Derived.TacticsInMore
import Derived.LoopNIn
import Derived.LoopIn
set_option linter.unusedVariables false
set_option linter.unusedSimpArgs false
namespace Go.Proofs.Ytcgddbbniahimaa
open Go.RowKit
attribute [local go_sem] Oper.semAt_some

/-- A variable of one cell. -/
def IBox (w : World) (b : Nat) (v : Int) : Prop := w.heap[b]? = some (.cells #[.int .i64 v] 3 (0, 0))
theorem IBox.cell {w : World} {b : Nat} {v : Int} (h : IBox w b v) : w.cell? ⟨b, 0, none⟩ = some (.int .i64 v) := by rw [blk_cell h]; rfl
theorem IBox.frozen {w : World} {b : Nat} {v : Int} (h : IBox w b v) : w.frozen? ⟨b, 0, none⟩ = false := blk_frozen h 0
def FBox (w : World) (b : Nat) (v : Value) : Prop := w.heap[b]? = some (.cells #[v] 48 (0, 0))
theorem FBox.cell {w : World} {b : Nat} {v : Value} (h : FBox w b v) : w.cell? ⟨b, 0, none⟩ = some v := by rw [blk_cell h]; rfl
def SBox (w : World) (b : Nat) (v : Value) : Prop := w.heap[b]? = some (.cells #[v] 23 (0, 0))
theorem SBox.cell {w : World} {b : Nat} {v : Value} (h : SBox w b v) : w.cell? ⟨b, 0, none⟩ = some v := by rw [blk_cell h]; rfl
theorem SBox.frozen {w : World} {b : Nat} {v : Value} (h : SBox w b v) : w.frozen? ⟨b, 0, none⟩ = false := blk_frozen h 0

def intAt (w : World) (b : Nat) : Nat := match w.cell? ⟨b, 0, none⟩ with
  | some (.int _ m) => m.toNat
  | _ => 0
theorem IBox.at_ {w : World} {b m : Nat} (h : IBox w b (m : Int)) : intAt w b = m := by unfold intAt; rw [h.cell]; simp

/-- The family in memory. -/
def Fam (w : World) (A : Option Addr) (n : Nat) (t : List Nat) : Prop :=
  t.length = n ∧ ∀ j, j < n → ∃ g off, A = some ⟨g, off, none⟩ ∧ g < w.heap.size ∧ w.cell? ⟨g, off + j, none⟩ = some (encI (t.getD j 0))
def famBlock (A : Option Addr) (k : Nat) : Prop := ∃ g off, A = some ⟨g, off, none⟩ ∧ k = g
theorem Fam.same {w w' : World} {A : Option Addr} {n : Nat} {t : List Nat} (h : Fam w A n t) (hs : ∀ k, 0 < n → famBlock A k → w'.heap[k]? = w.heap[k]?) : Fam w' A n t := by
  refine ⟨h.1, fun j hj => ?_⟩
  obtain ⟨g, off, e, hg, hc⟩ := h.2 j hj
  have h2 := hs g (by omega) ⟨g, off, e, rfl⟩
  have h3 := h2
  rw [Array.getElem?_eq_getElem hg] at h3
  exact ⟨g, off, e, blk_lt h3, (World.cell?_of_block h2).trans hc⟩
theorem Fam.keeps {w w' : World} {A : Option Addr} {n : Nat} {t : List Nat} {F : Nat → Prop} (h : Fam w A n t) (hk : Keeps F w w') (hF : ∀ k, famBlock A k → ¬ F k) : Fam w' A n t := by
  refine ⟨h.1, fun j hj => ?_⟩
  obtain ⟨g, off, e, hg, hc⟩ := h.2 j hj
  exact ⟨g, off, e, Nat.lt_of_lt_of_le hg hk.size, hk.cell hc (hF g ⟨g, off, e, rfl⟩)⟩

/-- What a round of the way up turns, and what it leaves alone. -/
def upOwn (bv : Nat) (k : Nat) : Prop := k = bv
def upFixed (bv bf : Nat) (A : Option Addr) (n : Nat) (k : Nat) : Prop := k = bv ∨ k = bf ∨ (0 < n ∧ famBlock A k)

set_option maxRecDepth 100000 in
set_option maxHeartbeats 2000000 in
theorem up1_in (n l bv bf : Nat) (A : Option Addr) (m c : Nat) (t : List Nat) (v : Nat) (hn : 1 ≤ n) (ht : Tree t) (hv : v ≤ m) (hm : m ≤ 5) (hbf : bf ≠ bv) (hA : ∀ k, 0 < m → famBlock A k → k ≠ bv)
    (J Jx : List Nat → World → Prop) (W : World)
    (hJ : Minds (upOwn bv) J) (hJx : Minds (upOwn bv) Jx)
    (hY : ∀ pre x W1, J pre W1 → pre ++ [x] <+: upl t v → YieldAt Fence.wide (n - 1) Try.prog l #[encI x] W1 fun e W' =>
      (e = .returned (.bool true) ∧ J (pre ++ [x]) W' ∧ Same (upFixed bv bf A m) W1 W') ∨ (e = .returned (.bool false) ∧ Jx (pre ++ [x]) W'))
    (hB : IBox W bv (v : Int)) (hF : FBox W bf (.slice A m c)) (hG : Fam W A m t) (h0 : J [] W) :
    CallsIn Fence.wide n Try.prog 44 #[.func (.yield l) #[] #[], .pointer (some ⟨bv, 0, none⟩), .pointer (some ⟨bf, 0, none⟩)] W fun e W' => (∃ v, e = .returned v) ∧ (J (upl t v) W' ∨ ∃ pre, pre <+: upl t v ∧ Jx pre W') := by
  refine callsIn_of_wp Try.func44 rfl trivial ?_ rfl
  simp only [Try.ntmps44, List.size_toArray, List.length_cons, List.length_nil, Nat.reduceAdd, Nat.reduceSub, Array.replicate_succ, Array.replicate_zero, List.push_toArray, List.append_toArray, List.nil_append, List.cons_append]
  gi_wp2
  gi_loopw [] (fun wr => ∃ (pre : List Nat) (k : Nat), upl t v = pre ++ upl t k ∧ k ≤ m ∧ IBox wr bv (k : Int) ∧ FBox wr bf (.slice A m c) ∧ Fam wr A m t ∧ J pre wr) (fun wr => intAt wr bv)
  case atStart => exact ⟨[], v, rfl, hv, hB, hF, hG, h0⟩
  case round =>
    obtain ⟨pre, k, hx, hk, hBk, hFk, hGk, hJk⟩ := hrel
    have hc := hBk.cell
    have hf := hBk.frozen
    by_cases hk0 : k = 0
    · rw [show upl t k = [k] by rw [hk0]; rfl] at hx
      have hn0 : ¬ 0 < k := by omega
      clear hk0
      obtain ⟨fn, tmps, assign, body, hy, hR⟩ := hY pre k wr hJk (by rw [hx]; exact List.prefix_refl _)
      gi_wp2
      refine hR.mono ?_
      rintro e W3 (⟨rfl, hJ3, hs3⟩ | ⟨rfl, hJx3⟩)
      · have hB3 : IBox W3 bv k := (hs3 bv (.inl rfl)).trans hBk
        have hc3 := hB3.cell
        gi_wp2
        go_end0
        exact ⟨⟨_, rfl⟩, .inl (by rw [hx]; exact hJ3)⟩
      · gi_wp2
        go_end0
        exact ⟨⟨_, rfl⟩, .inr ⟨pre ++ [k], by rw [hx]; exact List.prefix_refl _, hJx3⟩⟩
    · have hkp : 0 < k := by omega
      have hstep := upl_step ht hkp
      have hpar := par_lt ht hkp
      obtain ⟨fn, tmps, assign, body, hy, hR⟩ := hY pre k wr hJk (by rw [hx, hstep]; exact ⟨_, by rw [List.append_assoc]; rfl⟩)
      gi_wp2
      refine hR.mono ?_
      rintro e W3 (⟨rfl, hJ3, hs3⟩ | ⟨rfl, hJx3⟩)
      · have hB3 : IBox W3 bv k := (hs3 bv (.inl rfl)).trans hBk
        have hF3 : FBox W3 bf (.slice A m c) := (hs3 bf (.inr (.inl rfl))).trans hFk
        have hG3 : Fam W3 A m t := hGk.same (fun k h1 h2 => hs3 k (.inr (.inr ⟨h1, h2⟩)))
        have hc3 := hB3.cell
        have hf3 := hB3.frozen
        have hfc3 := hF3.cell
        obtain ⟨j, hj1, hj2⟩ : ∃ j : Nat, (k : Int) - 1 = (j : Int) ∧ j = k - 1 := ⟨k - 1, by omega, rfl⟩
        obtain ⟨g, off, rfl, hg, hcj⟩ := hG3.2 j (by omega)
        rw [hj2] at hcj
        have hjm : (j : Int) < (m : Int) := by omega
        have hj0 : (0 : Int) ≤ (j : Int) := by omega
        rw [← hj2] at hcj hpar hstep
        generalize t.getD j 0 = q at *
        clear hj2
        have hks : ∀ x, Keeps (upOwn bv) W3 (W3.setCell ⟨bv, 0, none⟩ x) := fun x => Keeps.setCell _ _ _ _ rfl
        have hFn : ∀ x, FBox (W3.setCell ⟨bv, 0, none⟩ x) bf (.slice (some ⟨g, off, none⟩) m c) := fun x => blk_keeps (hks x) hF3 hbf
        have hGn : ∀ x, Fam (W3.setCell ⟨bv, 0, none⟩ x) (some ⟨g, off, none⟩) m t := fun x => hG3.keeps (hks x) (fun k h => hA k (by omega) h)
        gi_wp2
        go_roundw
        case rel => exact ⟨pre ++ [k], q, by rw [hx, hstep]; simp, by omega, blk_set hB3 0 _, hFn _, hGn _, hJ _ _ _ hJ3 (hks _)⟩
        case measure => rw [hBk.at_, IBox.at_ (m := q) (blk_set hB3 0 _)]; exact hpar
      · gi_wp2
        go_end0
        exact ⟨⟨_, rfl⟩, .inr ⟨pre ++ [k], by rw [hx, hstep]; exact ⟨_, by rw [List.append_assoc]; rfl⟩, hJx3⟩⟩

/-- 'up' boxes the family and the node, and hands back a function value over the boxes. -/
theorem up_calls (A : Option Addr) (m c : Nat) (v : Int) (w : World) :
    Calls Try.prog 35 #[.slice A m c, .int .i64 v] w fun e w' => e = .returned (.func (.func 44) #[] #[.pointer (some ⟨w.heap.size + 1, 0, none⟩), .pointer (some ⟨w.heap.size, 0, none⟩)]) ∧
      w' = (w.alloc (.cells #[.slice A m c] 48)).alloc (.cells #[.int .i64 v] 3) := by
  go_enter Try.func35, Try.ntmps35
  go_wp2_with fail
  go_ret
  exact ⟨rfl, rfl⟩

/-- The contract of that value. -/
theorem up_seq (n bv bf : Nat) (A : Option Addr) (m c : Nat) (t : List Nat) (v : Nat) (hn : 1 ≤ n) (ht : Tree t) (hv : v ≤ m) (hm : m ≤ 5) (hbf : bf ≠ bv) (hA : ∀ k, 0 < m → famBlock A k → k ≠ bv) (w : World)
    (hB : IBox w bv (v : Int)) (hF : FBox w bf (.slice A m c)) (hG : Fam w A m t) :
    SeqO Fence.wide n Try.prog 44 #[.pointer (some ⟨bv, 0, none⟩), .pointer (some ⟨bf, 0, none⟩)] (fun k : Nat => #[encI k]) (upOwn bv) (upFixed bv bf A m) (upl t v) w := by
  intro l J Jx W hs hJ hJx hY h0
  exact up1_in n l bv bf A m c t v hn ht hv hm hbf hA J Jx W hJ hJx hY ((hs bv (.inl rfl)).trans hB) ((hs bf (.inr (.inl rfl))).trans hF) (hG.same fun k h1 h2 => hs k (.inr (.inr ⟨h1, h2⟩))) h0

/-! ### Backward -/
/-- The places of a slice, from behind. -/
def backs (m : Nat) : List Nat := (List.range m).reverse
theorem backs_succ (m : Nat) : backs (m + 1) = m :: backs m := by unfold backs; rw [List.range_succ, List.reverse_append]; rfl
def backOwn (k : Nat) : Prop := False
def backFixed (b : Nat) (A : Option Addr) (n : Nat) (k : Nat) : Prop := k = b ∨ (0 < n ∧ famBlock A k)
def nth (t : List Nat) (k : Nat) : Nat := t.getD k 0
def encB (t : List Nat) (k : Nat) : Array Value := #[encI k, encI (nth t k)]

set_option maxRecDepth 100000 in
set_option maxHeartbeats 2000000 in
theorem back1_in (n l b : Nat) (A : Option Addr) (m c : Nat) (t : List Nat) (hn : 1 ≤ n) (hm : m ≤ 6)
    (J Jx : List Nat → World → Prop) (W : World)
    (hY : ∀ pre x W1, J pre W1 → pre ++ [x] <+: backs m → YieldAt Fence.wide (n - 1) Try.prog l (encB t x) W1 fun e W' =>
      (e = .returned (.bool true) ∧ J (pre ++ [x]) W' ∧ Same (backFixed b A m) W1 W') ∨ (e = .returned (.bool false) ∧ Jx (pre ++ [x]) W'))
    (hB : SBox W b (.slice A m c)) (hG : Fam W A m t) (h0 : J [] W) :
    CallsIn Fence.wide n Try.prog 45 #[.func (.yield l) #[] #[], .pointer (some ⟨b, 0, none⟩)] W fun e W' => (∃ v, e = .returned v) ∧ (J (backs m) W' ∨ ∃ pre, pre <+: backs m ∧ Jx pre W') := by
  refine callsIn_of_wp Try.func45 rfl trivial ?_ rfl
  simp only [Try.ntmps45, List.size_toArray, List.length_cons, List.length_nil, Nat.reduceAdd, Nat.reduceSub, Array.replicate_succ, Array.replicate_zero, List.push_toArray, List.append_toArray, List.nil_append, List.cons_append]
  have hc := hB.cell
  gi_wp2
  gi_loopw [3] (fun s wr => ∃ (pre : List Nat) (k : Nat), backs m = pre ++ backs k ∧ k ≤ m ∧ s = .int .i64 ((k : Int) - 1) ∧ SBox wr b (.slice A m c) ∧ Fam wr A m t ∧ J pre wr) (fun s _ => (intOf s + 1).toNat)
  case atStart => exact ⟨[], m, rfl, Nat.le_refl _, rfl, hB, hG, h0⟩
  case round =>
    obtain ⟨pre, k, hx, hk, rfl, hBk, hGk, hJk⟩ := hrel
    have hc := hBk.cell
    by_cases hk0 : k = 0
    · subst hk0
      gi_wp2
      go_end0
      exact ⟨⟨_, rfl⟩, .inl (by rw [hx]; simpa [backs] using hJk)⟩
    · obtain ⟨j, hj, hj2⟩ : ∃ j : Nat, (k : Int) - 1 = (j : Int) ∧ k = j + 1 := ⟨k - 1, by omega, by omega⟩
      rw [hj2, backs_succ] at hx
      obtain ⟨fn, tmps, assign, body, hy, hR⟩ := hY pre j wr hJk (by rw [hx]; exact ⟨_, by rw [List.append_assoc]; rfl⟩)
      unfold encB nth at hy
      obtain ⟨g, off, rfl, hg, hcj⟩ := hGk.2 j (by omega)
      have hjm : (j : Int) < (m : Int) := by omega
      have hj0 : (0 : Int) ≤ (j : Int) := by omega
      generalize t.getD j 0 = q at *
      clear hj2 hk0
      gi_wp2
      refine hR.mono ?_
      rintro e W3 (⟨rfl, hJ3, hs3⟩ | ⟨rfl, hJx3⟩)
      · have hB3 : SBox W3 b (.slice (some ⟨g, off, none⟩) m c) := (hs3 b (.inl rfl)).trans hBk
        have hG3 : Fam W3 (some ⟨g, off, none⟩) m t := hGk.same (fun k h1 h2 => hs3 k (.inr ⟨h1, h2⟩))
        gi_wp2
        go_roundw
        case rel => exact ⟨pre ++ [j], j, by rw [hx]; simp, by omega, rfl, hB3, hG3, hJ3⟩
        case measure => simp [intOf]; omega
      · gi_wp2
        refine bodyPost_ret (results_none rfl _ _ _) rfl ?_
        exact ⟨⟨_, rfl⟩, .inr ⟨pre ++ [j], by rw [hx]; exact ⟨_, by rw [List.append_assoc]; rfl⟩, hJx3⟩⟩

theorem back_calls (A : Option Addr) (m c : Nat) (w : World) :
    Calls Try.prog 36 #[.slice A m c] w fun e w' => e = .returned (.func (.func 45) #[] #[.pointer (some ⟨w.heap.size, 0, none⟩)]) ∧ w' = w.alloc (.cells #[.slice A m c] 23) := by
  go_enter Try.func36, Try.ntmps36
  go_wp2_with fail
  go_ret
  exact ⟨rfl, rfl⟩

theorem back_seq (n b : Nat) (A : Option Addr) (m c : Nat) (t : List Nat) (hn : 1 ≤ n) (hm : m ≤ 6) (w : World) (hB : SBox w b (.slice A m c)) (hG : Fam w A m t) :
    SeqO Fence.wide n Try.prog 45 #[.pointer (some ⟨b, 0, none⟩)] (encB t) backOwn (backFixed b A m) (backs m) w := by
  intro l J Jx W hs hJ hJx hY h0
  exact back1_in n l b A m c t hn hm J Jx W hY ((hs b (.inl rfl)).trans hB) (hG.same fun k h1 h2 => hs k (.inr ⟨h1, h2⟩)) h0
end Go.Proofs.Ytcgddbbniahimaa
