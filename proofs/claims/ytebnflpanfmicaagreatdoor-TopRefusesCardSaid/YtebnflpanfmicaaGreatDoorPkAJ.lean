/-
  Part 10 of the proof: TopRing, TreePure, TreeUp, AppendIn, TreePath, TreePathTop, TreeLay, TreeLayYes, TreeKnown.
-/
import Derived.Test.YtebnflpanfmicaaGreatDoorPkAI
import Derived.Test.YtebnflpanfmicaaGreatDoorPkAA
import Derived.Test.YtebnflpanfmicaaGreatDoorPkAC
import Derived.Test.YtebnflpanfmicaaGreatDoorPkAD
import Derived.Test.YtebnflpanfmicaaGreatDoorPkAE
import Derived.KernelRfl
import Derived.Test.YtebnflpanfmicaaGreatDoorProg
import Derived.BigQuiet
import Derived.OwnWalkIn
import Derived.TacticsInMore
import Derived.LoopNIn
import Derived.LoopIn
import Derived.Shelf.Abstract
import Derived.Lib.BitFns
import Derived.Lib.Tables
import Derived.WalkMore
import Derived.Deep.OwnRows
import Derived.Lib.SliceRun
set_option linter.unusedVariables false
set_option linter.unusedSimpArgs false
set_option linter.unusedSectionVars false
namespace Go.Proofs.YtebnflpanfmicaaGreatDoor
open Go.RowKit
abbrev encN (j : Nat) : Value := .int .i64 (j : Int)
def setW {α : Type} (Q : Way → α) (k : Way) (v : α) : Way → α := fun k' => if k' = k then v else Q k'
theorem setW_same {α : Type} (Q : Way → α) (k : Way) (v : α) : setW Q k v k = v := if_pos rfl
theorem setW_other {α : Type} (Q : Way → α) (k k' : Way) (v : α) (h : k' ≠ k) : setW Q k v k' = Q k' := if_neg h
def Chain (slots : List Slot) : Int → List Nat → Prop
  | t, [] => t = -1
  | t, f :: F => t = (f : Int) ∧ ∃ z, slots[f]? = some (none, z) ∧ Chain slots z F
theorem Chain.set {slots : List Slot} {j : Nat} {s : Slot} : ∀ {F : List Nat} {t : Int}, Chain slots t F → j ∉ F → Chain (slots.set j s) t F
  | [], _, h, _ => h
  | f :: F, t, ⟨h1, z, h2, h3⟩, hj => by
    refine ⟨h1, z, ?_, h3.set (fun h => hj (List.mem_cons_of_mem _ h))⟩
    rw [List.getElem?_set_ne (fun e => hj (by rw [e]; exact List.mem_cons_self))]
    exact h2
theorem Chain.mem {slots : List Slot} : ∀ {F : List Nat} {t : Int}, Chain slots t F → ∀ f ∈ F, ∃ z, slots[f]? = some (none, z)
  | f :: F, t, ⟨h1, z, h2, h3⟩, g, hg => by
    rcases List.mem_cons.1 hg with rfl | hg
    · exact ⟨z, h2⟩
    · exact h3.mem g hg
structure RingP (st : PoolS) (Q : Way → List Pkt) (sl : Way → List Nat) (F : List Nat) : Prop where
  chain : Chain st.slots st.top F
  nd : F.Nodup
  len : ∀ k, (sl k).length = (Q k).length
  at_ : ∀ k (i j : Nat) x, (sl k)[i]? = some j → (Q k)[i]? = some x → ∃ z, st.slots[j]? = some (some x, z)
  inj : ∀ k k' (i i' j : Nat), (sl k)[i]? = some j → (sl k')[i']? = some j → k = k' ∧ i = i'
  pos : 0 < st.slots.length
theorem nodup_le : ∀ (n : Nat) (l : List Nat), l.Nodup → (∀ x ∈ l, x < n) → l.length ≤ n
  | 0, [], _, _ => Nat.le_refl _
  | 0, x :: l, _, h => absurd (h x (by simp)) (Nat.not_lt_zero _)
  | n + 1, l, hd, h => by
    have h1 := nodup_le n (l.erase n) (hd.erase _) (fun x hx => by
      have h2 := h x (List.mem_of_mem_erase hx)
      have h3 : x ≠ n := fun e => by subst e; exact hd.not_mem_erase hx
      omega)
    have := List.length_erase (l := l) (a := n)
    split at this <;> omega
theorem RingP.occ {st : PoolS} {Q : Way → List Pkt} {sl : Way → List Nat} {F : List Nat} (h : RingP st Q sl F) (k : Way) (j : Nat) (hj : j ∈ sl k) : ∃ x z, st.slots[j]? = some (some x, z) := by
  obtain ⟨i, hi, e⟩ := List.mem_iff_getElem.1 hj
  have h1 : (Q k)[i]? = some ((Q k)[i]'(by rw [← h.len]; exact hi)) := List.getElem?_eq_getElem _
  obtain ⟨z, hz⟩ := h.at_ k i j _ (by rw [List.getElem?_eq_getElem hi, e]) h1
  exact ⟨_, z, hz⟩
theorem RingP.small {st : PoolS} {Q : Way → List Pkt} {sl : Way → List Nat} {F : List Nat} (h : RingP st Q sl F) (k : Way) : (sl k).length ≤ st.slots.length := by
  refine nodup_le _ _ ?_ (fun x hx => ?_)
  · rw [List.nodup_iff_pairwise_ne, List.pairwise_iff_getElem]
    intro i j hi hj hij e
    have := (h.inj k k i j (sl k)[i] (List.getElem?_eq_getElem hi) (by rw [e]; exact List.getElem?_eq_getElem hj)).2
    omega
  · obtain ⟨y, z, hz⟩ := h.occ k x hx
    exact (List.getElem?_eq_some_iff.1 hz).1
theorem RingP.top {st : PoolS} {Q : Way → List Pkt} {sl : Way → List Nat} {F : List Nat} (h : RingP st Q sl F) : -1 ≤ st.top ∧ st.top < st.slots.length := by
  have hc := h.chain
  cases F with
  | nil => have e : st.top = -1 := hc; have := h.pos; omega
  | cons f F =>
    obtain ⟨e, z, h2, _⟩ := hc
    have := (List.getElem?_eq_some_iff.1 h2).1
    omega
theorem RingP.full {st : PoolS} {Q : Way → List Pkt} {sl : Way → List Nat} {F : List Nat} (h : RingP st Q sl F) : st.top = -1 ↔ F.length = 0 := by
  have hc := h.chain
  cases F with
  | nil => exact ⟨fun _ => rfl, fun _ => hc⟩
  | cons f F => obtain ⟨e, _⟩ := hc; simp; omega
theorem get_snoc {α : Type} {l : List α} {i : Nat} {x y : α} (h : (l ++ [x])[i]? = some y) : l[i]? = some y ∨ (i = l.length ∧ y = x) := by
  rw [List.getElem?_append] at h
  split at h
  · exact .inl h
  · rename_i hi
    have h1 := (List.getElem?_eq_some_iff.1 h)
    obtain ⟨hlt, e⟩ := h1
    simp only [List.length_singleton] at hlt
    refine .inr ⟨by omega, ?_⟩
    rw [← e]
    simp
theorem RingP.put {st : PoolS} {Q : Way → List Pkt} {sl : Way → List Nat} {j : Nat} {F : List Nat} (h : RingP st Q sl (j :: F)) (k : Way) (x : Pkt) :
    st.top = (j : Int) ∧ RingP (putP st x) (setW Q k (Q k ++ [x])) (setW sl k (sl k ++ [j])) F := by
  obtain ⟨ht, z, hz, hc⟩ := h.chain
  have hd := List.nodup_cons.1 h.nd
  have hjn : ∀ k', j ∉ sl k' := fun k' hj => by
    obtain ⟨y, z', h1⟩ := h.occ k' j hj
    rw [hz] at h1; cases h1
  have hjl := (List.getElem?_eq_some_iff.1 hz).1
  rw [putP_yes st x j ht none z hz]
  refine ⟨ht, ⟨hc.set hd.1, hd.2, fun k' => ?_, fun k' i j' y h1 h2 => ?_, fun k1 k2 i1 i2 j' h1 h2 => ?_, by simpa using h.pos⟩⟩
  · unfold setW
    split
    · simp [h.len]
    · exact h.len k'
  · unfold setW at h1 h2
    have old : ∀ k', (sl k')[i]? = some j' → (Q k')[i]? = some y → ∃ z', (st.slots.set j (some x, z))[j']? = some (some y, z') := fun k' g1 g2 => by
      obtain ⟨z', g3⟩ := h.at_ k' i j' y g1 g2
      refine ⟨z', ?_⟩
      rw [List.getElem?_set_ne (fun e => hjn k' (by rw [e]; exact List.mem_of_getElem? g1))]
      exact g3
    split at h1
    · rename_i hk
      rw [if_pos hk] at h2
      rcases get_snoc h1 with h1 | ⟨h1, rfl⟩
      · rcases get_snoc h2 with h2 | ⟨h2, rfl⟩
        · exact old k h1 h2
        · have := (List.getElem?_eq_some_iff.1 h1).1
          rw [h.len] at this; omega
      · rcases get_snoc h2 with h2 | ⟨h2, rfl⟩
        · have := (List.getElem?_eq_some_iff.1 h2).1
          rw [← h.len] at this; omega
        · exact ⟨z, by rw [List.getElem?_set_self hjl]⟩
    · rename_i hk
      rw [if_neg hk] at h2
      exact old k' h1 h2
  · unfold setW at h1 h2
    split at h1
    · rename_i e1
      split at h2
      · rename_i e2
        rcases get_snoc h1 with g1 | ⟨g1, rfl⟩
        · rcases get_snoc h2 with g2 | ⟨g2, rfl⟩
          · exact ⟨e1.trans e2.symm, (h.inj k k i1 i2 j' g1 g2).2⟩
          · exact absurd (List.mem_of_getElem? g1) (hjn k)
        · rcases get_snoc h2 with h2 | ⟨h2, _⟩
          · exact absurd (List.mem_of_getElem? h2) (hjn k)
          · exact ⟨e1.trans e2.symm, by omega⟩
      · rename_i e2
        rcases get_snoc h1 with h1 | ⟨h1, rfl⟩
        · exact absurd (h.inj k k2 i1 i2 j' h1 h2).1.symm e2
        · exact absurd (List.mem_of_getElem? h2) (hjn k2)
    · rename_i e1
      split at h2
      · rcases get_snoc h2 with h2 | ⟨h2, rfl⟩
        · exact absurd (h.inj k1 k i1 i2 j' h1 h2).1 e1
        · exact absurd (List.mem_of_getElem? h1) (hjn k1)
      · exact h.inj k1 k2 i1 i2 j' h1 h2
theorem RingP.first {st : PoolS} {Q : Way → List Pkt} {sl : Way → List Nat} {F : List Nat} (h : RingP st Q sl F) {k : Way} {j : Nat} {r : List Nat} {x : Pkt} {q : List Pkt} (hs : sl k = j :: r) (hq : Q k = x :: q) : slotAt st (j : Int) = some (j, x) := by
  obtain ⟨z, hz⟩ := h.at_ k 0 j x (by rw [hs]; rfl) (by rw [hq]; rfl)
  unfold slotAt
  rw [if_neg (by omega), Int.toNat_natCast, hz]
theorem RingP.drop {st : PoolS} {Q : Way → List Pkt} {sl : Way → List Nat} {F : List Nat} (h : RingP st Q sl F) {k : Way} {j : Nat} {r : List Nat} {x : Pkt} {q : List Pkt} (hs : sl k = j :: r) (hq : Q k = x :: q) :
    RingP (dropP st (j : Int)) (setW Q k q) (setW sl k r) (j :: F) := by
  unfold dropP
  rw [h.first hs hq]
  obtain ⟨z, hz⟩ := h.at_ k 0 j x (by rw [hs]; rfl) (by rw [hq]; rfl)
  have hjl := (List.getElem?_eq_some_iff.1 hz).1
  have hjF : j ∉ F := fun hj => by
    obtain ⟨z', h1⟩ := h.chain.mem j hj
    rw [hz] at h1; cases h1
  have tl : ∀ (k' : Way) (i j' : Nat), (setW sl k r k')[i]? = some j' → ∃ i', (sl k')[i']? = some j' ∧ (k' = k → i' = i + 1) ∧ (k' ≠ k → i' = i) := fun k' i j' h1 => by
    unfold setW at h1
    split at h1
    · rename_i e; subst e
      exact ⟨i + 1, by rw [hs]; exact h1, fun _ => rfl, fun h => absurd rfl h⟩
    · rename_i e
      exact ⟨i, h1, fun h => absurd h e, fun _ => rfl⟩
  have tq : ∀ (k' : Way) (i : Nat) (y : Pkt), (setW Q k q k')[i]? = some y → ∃ i', (Q k')[i']? = some y ∧ (k' = k → i' = i + 1) ∧ (k' ≠ k → i' = i) := fun k' i y h1 => by
    unfold setW at h1
    split at h1
    · rename_i e; subst e
      exact ⟨i + 1, by rw [hq]; exact h1, fun _ => rfl, fun h => absurd rfl h⟩
    · rename_i e
      exact ⟨i, h1, fun h => absurd h e, fun _ => rfl⟩
  have hne : ∀ (k' : Way) (i j' : Nat), (setW sl k r k')[i]? = some j' → j' ≠ j := fun k' i j' h1 e => by
    obtain ⟨i', h2, h3, h4⟩ := tl k' i j' h1
    have h5 := h.inj k' k i' 0 j' h2 (by rw [e, hs]; rfl)
    have := h3 h5.1
    omega
  refine ⟨⟨rfl, st.top, by rw [List.getElem?_set_self hjl], h.chain.set hjF⟩, List.nodup_cons.2 ⟨hjF, h.nd⟩, fun k' => ?_, fun k' i j' y h1 h2 => ?_, fun k1 k2 i1 i2 j' h1 h2 => ?_, by simpa using h.pos⟩
  · unfold setW
    split
    · have := h.len k; rw [hs, hq] at this; simpa using this
    · exact h.len k'
  · have hn := hne k' i j' h1
    obtain ⟨i', g1, g2, g3⟩ := tl k' i j' h1
    obtain ⟨i'', f1, f2, f3⟩ := tq k' i y h2
    have e : i'' = i' := by
      by_cases hk : k' = k
      · rw [f2 hk, g2 hk]
      · rw [f3 hk, g3 hk]
    subst e
    obtain ⟨z', hz'⟩ := h.at_ k' _ j' y g1 f1
    exact ⟨z', by rw [List.getElem?_set_ne (Ne.symm hn)]; exact hz'⟩
  · obtain ⟨a1, g1, g2, g3⟩ := tl k1 i1 j' h1
    obtain ⟨a2, f1, f2, f3⟩ := tl k2 i2 j' h2
    obtain ⟨e1, e2⟩ := h.inj k1 k2 a1 a2 j' g1 f1
    refine ⟨e1, ?_⟩
    subst e1
    by_cases hk : k1 = k
    · have := g2 hk; have := f2 hk; omega
    · have := g3 hk; have := f3 hk; omega
theorem chain_new (n : Nat) : ∀ (m i : Nat), i + m = n → 0 < n → Chain (poolNew n).slots (if i = n then -1 else (i : Int)) (List.range' i m)
  | 0, i, h, h0 => by show (if i = n then (-1 : Int) else (i : Int)) = -1; rw [if_pos (by omega)]
  | m + 1, i, h, h0 => by
    rw [List.range'_succ]
    refine ⟨if_neg (by omega), _, ?_, chain_new n m (i + 1) (by omega) h0⟩
    unfold poolNew
    simp only [List.getElem?_map]
    rw [List.getElem?_range (by omega)]
    simp only [Option.map_some]
    congr 2
theorem RingP.new (n : Nat) (h : 0 < n) : RingP (poolNew n) (fun _ => []) (fun _ => []) (List.range' 0 n) :=
  ⟨by have := chain_new n n 0 (by omega) h; rw [if_neg (by omega)] at this; exact this, List.nodup_range', fun _ => rfl, fun _ _ _ _ h => by simp at h, fun _ _ _ _ _ h => by simp at h, by simpa [poolNew] using h⟩
end Go.Proofs.YtebnflpanfmicaaGreatDoor
namespace Go.Proofs.YtebnflpanfmicaaGreatDoor
open Go.RowKit
def Tree (t : List Nat) : Prop := ∀ i (h : i < t.length), t[i] ≤ i
def upF (t : List Nat) : Nat → Nat → List Nat
  | 0, v => [v]
  | k + 1, v => if v = 0 then [v] else v :: upF t k (t.getD (v - 1) 0)
def upl (t : List Nat) (v : Nat) : List Nat := upF t v v
theorem upF_more {t : List Nat} (ht : Tree t) : ∀ k j v, v ≤ k → v ≤ j → upF t k v = upF t j v
  | 0, 0, v, _, _ => rfl
  | 0, j + 1, v, h, _ => by
    obtain rfl : v = 0 := by omega
    rfl
  | k + 1, 0, v, _, h => by
    obtain rfl : v = 0 := by omega
    rfl
  | k + 1, j + 1, v, h1, h2 => by
    unfold upF
    by_cases hv : v = 0
    · rw [if_pos hv, if_pos hv]
    · rw [if_neg hv, if_neg hv]
      have hp : t.getD (v - 1) 0 ≤ v - 1 := by
        rw [List.getD_eq_getElem?_getD]
        by_cases h : v - 1 < t.length
        · rw [List.getElem?_eq_getElem h]; exact ht _ h
        · rw [List.getElem?_eq_none (by omega)]; exact Nat.zero_le _
      rw [upF_more ht k j _ (by omega) (by omega)]
theorem par_lt {t : List Nat} (ht : Tree t) {v : Nat} (h : 0 < v) : t.getD (v - 1) 0 < v := by
  rw [List.getD_eq_getElem?_getD]
  by_cases h' : v - 1 < t.length
  · rw [List.getElem?_eq_getElem h']; have := ht _ h'; simp; omega
  · rw [List.getElem?_eq_none (by omega)]; exact h
theorem upl_zero (t : List Nat) : upl t 0 = [0] := rfl
theorem upl_step {t : List Nat} (ht : Tree t) {v : Nat} (h : 0 < v) : upl t v = v :: upl t (t.getD (v - 1) 0) := by
  have hp := par_lt ht h
  obtain ⟨k, rfl⟩ : ∃ k, v = k + 1 := ⟨v - 1, by omega⟩
  have e : upl t (k + 1) = (k + 1) :: upF t k (t.getD (k + 1 - 1) 0) := by
    show upF t (k + 1) (k + 1) = _
    rw [upF, if_neg (by omega)]
  rw [e]
  congr 1
  exact upF_more ht _ _ _ (by omega) (Nat.le_refl _)
theorem zero_mem_upl {t : List Nat} (ht : Tree t) (v : Nat) : 0 ∈ upl t v := by
  induction v using Nat.strongRecOn with
  | _ v ih =>
    by_cases h : v = 0
    · subst h; simp [upl_zero]
    · rw [upl_step ht (by omega)]; exact List.mem_cons_of_mem _ (ih _ (par_lt ht (by omega)))
theorem upl_length {t : List Nat} (ht : Tree t) (v : Nat) : (upl t v).length ≤ v + 1 := by
  induction v using Nat.strongRecOn with
  | _ v ih =>
    by_cases h : v = 0
    · subst h; simp [upl_zero]
    · have hp := par_lt ht (show 0 < v by omega)
      have := ih _ hp
      rw [upl_step ht (by omega), List.length_cons]; omega
def climb (d : List Nat) : List Nat → List Nat × Nat
  | [] => ([], 0)
  | x :: l => if x ∈ d then ([x], d.idxOf x) else (x :: (climb d l).1, (climb d l).2)
def pathN (t : List Nat) (v w : Nat) : List Nat := (climb (upl t w) (upl t v)).1 ++ ((upl t w).take (climb (upl t w) (upl t v)).2).reverse
def rightI (ps : List Int) : Bool := (List.range ps.length).all (fun i => decide (0 ≤ ps.getD i 0 ∧ ps.getD i 0 ≤ (i : Int))) && decide (ps.length < 6)
end Go.Proofs.YtebnflpanfmicaaGreatDoor
namespace Go.Proofs.YtebnflpanfmicaaGreatDoor
open Go.RowKit
def SBox (w : World) (b : Nat) (v : Value) : Prop := w.heap[b]? = some (.cells #[v] 35 (0, 0))
theorem SBox.cell {w : World} {b : Nat} {v : Value} (h : SBox w b v) : w.cell? ⟨b, 0, none⟩ = some v := by rw [blk_cell h]; rfl
theorem SBox.frozen {w : World} {b : Nat} {v : Value} (h : SBox w b v) : w.frozen? ⟨b, 0, none⟩ = false := blk_frozen h 0
def intAt (w : World) (b : Nat) : Nat := match w.cell? ⟨b, 0, none⟩ with
  | some (.int _ m) => m.toNat
  | _ => 0
theorem IBox.at_ {w : World} {b m : Nat} (h : IBox w b (m : Int)) : intAt w b = m := by unfold intAt; rw [h.cell]; simp
def Fam (w : World) (A : Option Addr) (n : Nat) (t : List Nat) : Prop :=
  t.length = n ∧ ∀ j, j < n → ∃ g off, A = some ⟨g, off, none⟩ ∧ g < w.heap.size ∧ w.cell? ⟨g, off + j, none⟩ = some (encI (t.getD j 0))
def famBlock (A : Option Addr) (k : Nat) : Prop := ∃ g off, A = some ⟨g, off, none⟩ ∧ k = g
theorem Fam.same {w w' : World} {A : Option Addr} {n : Nat} {t : List Nat} (h : Fam w A n t) (hs : ∀ k, 0 < n → famBlock A k → w'.heap[k]? = w.heap[k]?) : Fam w' A n t := by
  refine ⟨h.1, fun j hj => ?_⟩
  obtain ⟨g, off, e, hg, hc⟩ := h.2 j hj
  have h2 := hs g (by omega) ⟨g, off, e, rfl⟩
  have h3 := h2
  rw [Array.getElem?_eq_getElem hg] at h3
  exact ⟨g, off, e, blk_lt h3, (World.cell?_of_block h2).trans hc⟩
theorem Fam.keeps {w w' : World} {A : Option Addr} {n : Nat} {t : List Nat} {F : Nat → Prop} (h : Fam w A n t) (hk : Keeps F w w') (hF : ∀ k, famBlock A k → ¬ F k) : Fam w' A n t := by
  refine ⟨h.1, fun j hj => ?_⟩
  obtain ⟨g, off, e, hg, hc⟩ := h.2 j hj
  exact ⟨g, off, e, Nat.lt_of_lt_of_le hg hk.size, hk.cell hc (hF g ⟨g, off, e, rfl⟩)⟩
end Go.Proofs.YtebnflpanfmicaaGreatDoor
namespace Go.Proofs.YtebnflpanfmicaaGreatDoor
open Go.RowKit
end Go.Proofs.YtebnflpanfmicaaGreatDoor
namespace Go.Proofs.YtebnflpanfmicaaGreatDoor
open Go.RowKit Go.Shelf
theorem QS.fam {w : World} {e n : Nat} {A : Option Addr} {c : Nat} {t : List Nat} (h : QS w e 1 (.slice A n c) n (t.map encI)) : Fam w A n t := by
  have hl : t.length = n := by have := h.1; simpa using this
  refine ⟨hl, fun j hj => ?_⟩
  obtain ⟨g, off, c', e', _, hc, _⟩ := h.cell (by omega)
  injection e' with e1 _ _
  refine ⟨g, off, e1, h.lt g (by rw [e1]; rfl), hc j _ ?_⟩
  rw [List.getElem?_map, List.getD_eq_getElem?_getD, List.getElem?_eq_getElem (by omega)]; rfl
theorem Fam.take {w : World} {A : Option Addr} {n i : Nat} {t : List Nat} (h : Fam w A n t) (hi : i ≤ n) : Fam w A i (t.take i) := by
  refine ⟨by rw [List.length_take, h.1]; omega, fun j hj => ?_⟩
  obtain ⟨g, off, e, hg, hc⟩ := h.2 j (by omega)
  refine ⟨g, off, e, hg, ?_⟩
  rw [List.getD_eq_getElem?_getD, List.getElem?_take_of_lt hj, ← List.getD_eq_getElem?_getD]
  exact hc
end Go.Proofs.YtebnflpanfmicaaGreatDoor
namespace Go.Proofs.YtebnflpanfmicaaGreatDoor
open Go.RowKit
abbrev encZ (z : Int) : Value := .int .i64 z
theorem getD_int {ps : List Int} {i : Nat} (h : i < ps.length) : ps.getD i 0 = ps[i] := by rw [List.getD_eq_getElem?_getD, List.getElem?_eq_getElem h]; rfl
theorem tright_no {ps : List Int} {i : Nat} (h : i < ps.length) (hb : ¬ (0 ≤ ps[i] ∧ ps[i] ≤ (i : Int))) : rightI ps = false := by
  unfold rightI
  rw [Bool.and_eq_false_iff]
  left
  rw [List.all_eq_false]
  refine ⟨i, by simpa using h, ?_⟩
  rw [getD_int h]; simpa using hb
theorem tright_yes {ps : List Int} (hb : ∀ j (h : j < ps.length), 0 ≤ ps[j] ∧ ps[j] ≤ (j : Int)) : rightI ps = decide (ps.length < 6) := by
  unfold rightI
  rw [(List.all_eq_true (l := List.range ps.length)).2 (fun i hi => by
    have hi' : i < ps.length := by simpa using hi
    rw [getD_int hi']; exact decide_eq_true (hb i hi')), Bool.true_and]
theorem Reads.fam {w : World} {B n c : Nat} {A : Option Addr} {t : List Nat} (h : Reads w B 1 (.slice A n c) n (t.map encI)) (hB : B ≤ w.heap.size) : Fam w A n t ∧ ∀ k, 0 < n → famBlock A k → k < B := by
  have hl : t.length = n := by have := h.1; simpa using this
  refine ⟨⟨hl, fun j hj => ?_⟩, fun k hn hk => ?_⟩
  · obtain ⟨g, off, c', e', _, hg, hc⟩ := h.at_ (by simp; omega)
    injection e' with e1 _ _
    refine ⟨g, off, e1, by omega, hc j _ ?_⟩
    rw [List.getElem?_map, List.getD_eq_getElem?_getD, List.getElem?_eq_getElem (by omega)]; rfl
  · obtain ⟨g, off, c', e', _, hg, hc⟩ := h.at_ (by simp; omega)
    injection e' with e1 _ _
    subst e1
    obtain ⟨g', off', e2, rfl⟩ := hk
    injection e2 with e2
    injection e2 with e2 _ _
    omega
end Go.Proofs.YtebnflpanfmicaaGreatDoor
namespace Go.Proofs.YtebnflpanfmicaaGreatDoor
open Go.RowKit
theorem one_ints (zs : List Int) : ∀ u ∈ zs.map encZ, u.oneCell' = true := by
  intro u hu
  obtain ⟨z, _, rfl⟩ := List.mem_map.1 hu
  rfl
set_option maxHeartbeats 2000000 in
theorem tclone_calls (fv : Value) (ps : List Int) (w : World) (h : Reads w w.heap.size 1 fv ps.length (ps.map encZ)) (hb : ps.length * 8 ≤ 140737488355328) :
    Calls Tryz.prog 77 #[fv] w fun e w' => ∃ u, e = .returned u ∧ QS w' 3 1 u ps.length (ps.map encZ) ∧ Keeps (fun _ => False) w w' ∧ ∀ k, u.ownBlock = some k → w.heap.size ≤ k := by
  obtain ⟨A, c, hsh⟩ : ∃ A c, fv = .slice A ps.length c := by obtain ⟨_, A, c, h, _⟩ := h; exact ⟨A, c, h⟩
  subst hsh
  cases A with
  | none =>
    have hn : ps.length = 0 := by
      obtain ⟨_, A, c', e, _, _, h5⟩ := h
      injection e with e1 _ _
      rcases Nat.eq_zero_or_pos ps.length with h0 | h0
      · exact h0
      · obtain ⟨ad, e2, _⟩ := h5 h0
        rw [← e1] at e2; cases e2
    obtain rfl := List.eq_nil_of_length_eq_zero hn
    have he := fun w => Go.Lib.run_eql_slice_nil (P := Tryz.prog) w 35 3 none 0 c 0 0 Tryz.underlying35
    simp only [Option.isNone] at he
    go_enter Tryz.func77, Tryz.ntmps77
    go_wp2_with fail
    go_ret
    exact ⟨_, rfl, QS.nil _ _ _, Keeps.refl _ _, fun k h => by cases h⟩
  | some a =>
    have h2 : Reads (w.alloc (.cells #[] 3)) (w.alloc (.cells #[] 3)).heap.size 1 (.slice (some a) ps.length c) ps.length (ps.map encZ) := by
      obtain ⟨h1, A, c', e, h2, h3, h5⟩ := h
      refine ⟨h1, A, c', e, h2, h3, fun hn => ?_⟩
      obtain ⟨ad, e, hlt, hc⟩ := h5 hn
      exact ⟨ad, e, by rw [World.size_alloc]; omega, fun j u hu => (Keeps.alloc (fun _ => False) w _).cell (hc j u hu) (fun h => h)⟩
    have he := fun w => Go.Lib.run_eql_slice_nil (P := Tryz.prog) w 35 3 (some a) ps.length c 0 0 Tryz.underlying35
    simp only [Option.isNone] at he
    have hsrc := h2.src Tryz.underlying35 (one_ints ps)
    have hq0 : QS (w.alloc (.cells #[] 3)) 3 1 (.slice (some ⟨w.heap.size, 0, none⟩) 0 0) 0 [] := ⟨rfl, .inr ⟨w.heap.size, 0, 0, _, rfl, blk_new _ _, Nat.le_refl _, Nat.zero_le _, by simp, fun j hj => absurd hj (Nat.not_lt_zero _)⟩⟩
    go_enter Tryz.func77, Tryz.ntmps77
    go_wp2_with (at_builtin; refine wpList_append_QS rfl _ _ 35 35 rfl 3 _ 1 8 Tryz.underlying35 info_int rfl (.slice (some ⟨w.heap.size, 0, none⟩) 0 0) 0 [] rfl hq0 _ ps.length (ps.map encZ) rfl hsrc (by decide) (by omega) ?_; intro A1 c1 w1 hq1 hg1 ho1; rw [Nat.zero_add] at hq1 ho1 ⊢; rw [List.nil_append] at hq1)
    go_ret
    refine ⟨.slice A1 ps.length c1, rfl, hq1, ?_, fun k hk => ?_⟩
    · exact (Keeps.alloc (fun _ => False) w (.cells #[] 3)).then (Keeps.grown (F := fun k => k = w.heap.size) hg1 (fun k h => by simpa [Value.ownBlock] using h.symm)) (fun i hi h => by omega)
    · rcases ho1 with h | ⟨i', h, hle⟩
      · rw [hk] at h; simp [Value.ownBlock] at h; omega
      · rw [hk] at h; cases h; rw [World.size_alloc] at hle; omega
def nxt (t : List Nat) (v x : Nat) : Nat := (pathN t v x).getD (if (pathN t v x).length = 1 then 0 else 1) 0
def trowOf (t : List Nat) (v : Nat) : List Nat := (List.range (t.length + 1)).map (nxt t v)
def rowsOf (t : List Nat) (v : Nat) : List (List Nat) := (List.range v).map (trowOf t)
def edgesOf (t : List Nat) (i : Nat) : List (Nat × Nat) := (List.range i).map fun j => (t.getD j 0, j + 1)
def ecells (l : List (Nat × Nat)) : List Value := l.flatMap fun e => [encI e.1, encI e.2]
theorem ecells_length (l : List (Nat × Nat)) : (ecells l).length = l.length * 2 := by
  induction l with
  | nil => rfl
  | cons x l ih => simp only [ecells, List.flatMap_cons, List.length_append, List.length_cons, List.length_nil] at ih ⊢; omega
theorem ecells_append (l m : List (Nat × Nat)) : ecells (l ++ m) = ecells l ++ ecells m := by simp [ecells]
theorem edgesOf_succ (t : List Nat) (i : Nat) : edgesOf t (i + 1) = edgesOf t i ++ [(t.getD i 0, i + 1)] := by unfold edgesOf; rw [List.range_succ, List.map_append]; rfl
theorem edgesOf_length (t : List Nat) (i : Nat) : (edgesOf t i).length = i := by simp [edgesOf]
theorem rowsOf_succ (t : List Nat) (v : Nat) : rowsOf t (v + 1) = rowsOf t v ++ [trowOf t v] := by unfold rowsOf; rw [List.range_succ, List.map_append]; rfl
theorem rowsOf_length (t : List Nat) (v : Nat) : (rowsOf t v).length = v := by simp [rowsOf]
theorem rowOf_length (t : List Nat) (v : Nat) : (trowOf t v).length = t.length + 1 := by simp [trowOf]
def part (f : Nat → Nat) (n j : Nat) : List Nat := (List.range n).map fun k => if k < j then f k else 0
def NextIs (w : World) (base : Nat) (nv : Value) (rows : List (List Nat)) : Prop :=
  ∃ vs : List Value, QS w 35 1 nv rows.length vs ∧ (∀ k, nv.ownBlock = some k → base ≤ k) ∧ (∀ u ∈ vs, u.oneCell' = true) ∧
    ∀ (i : Nat) (v : Value) (r : List Nat), vs[i]? = some v → rows[i]? = some r → QS w 3 1 v r.length (r.map encI) ∧ ∀ k, v.ownBlock = some k → base ≤ k
theorem NextIs.nil (w : World) (base : Nat) : NextIs w base (.slice none 0 0) [] := by
  refine ⟨[], QS.nil _ _ _, ?_, ?_, ?_⟩
  · intro k h; cases h
  · intro u h; cases h
  · intro i v r h; cases h
theorem NextIs.keeps {w w' : World} {base : Nat} {nv : Value} {rows : List (List Nat)} {F : Nat → Prop} (h : NextIs w base nv rows) (hk : Keeps F w w') (hF : ∀ k, base ≤ k → k < w.heap.size → ¬ F k) : NextIs w' base nv rows := by
  obtain ⟨vs, h1, h2, h3, h4⟩ := h
  refine ⟨vs, h1.keeps hk (fun k hv => hF k (h2 k hv) (h1.lt k hv)), h2, h3, fun i v r hv hr => ?_⟩
  obtain ⟨h5, h6⟩ := h4 i v r hv hr
  exact ⟨h5.keeps hk (fun k hv => hF k (h6 k hv) (h5.lt k hv)), h6⟩
theorem QS.ne {w : World} {e e' sz sz' n n' : Nat} {v v' : Value} {cs cs' : List Value} (h : QS w e sz v n cs) (h' : QS w e' sz' v' n' cs') (hne : e ≠ e') : ∀ k, v.ownBlock = some k → v'.ownBlock ≠ some k := by
  intro k hk hk'
  obtain ⟨c, hc⟩ := h.typed k hk
  obtain ⟨c', hc'⟩ := h'.typed k hk'
  rw [hc] at hc'
  injection hc' with hc'
  injection hc' with _ e1
  exact hne e1
theorem Reads.keepsF {w w' : World} {B B' sz n : Nat} {v : Value} {cs : List Value} (h : Reads w B sz v n cs) (hk : Keeps (fun _ => False) w w') (hB : B ≤ B') : Reads w' B' sz v n cs := by
  obtain ⟨h1, A, c, e, h2, h3, h5⟩ := h
  refine ⟨h1, A, c, e, h2, h3, fun hn => ?_⟩
  obtain ⟨ad, e, hlt, hc⟩ := h5 hn
  exact ⟨ad, e, by omega, fun j u hu => hk.cell (hc j u hu) (fun h => h)⟩
structure Nums where
  lanes : Int
  room : Int
  queue : Int
  rounds : Int
  every : Int
  bag : Int
  start : Int
def Nums.plan (p : Nums) (n : Int) (e wt nx : Value) : Array Value :=
  #[.int .i64 n, e, .int .i64 p.lanes, .int .i64 p.room, .int .i64 p.queue, .int .i64 p.rounds, .int .i64 p.every, .int .i64 p.bag, wt, .int .u16 p.start, nx]
def Nums.zero : Nums := ⟨0, 0, 0, 0, 0, 0, 0⟩
def PBox (w : World) (b : Nat) (cs : Array Value) : Prop := w.heap[b]? = some (.cells cs 38 (0, 0))
theorem info_edge : (Tryz.prog.info? 149).map (fun i => (i.zero, i.size, i.bytes)) = some (some (.agg #[.int .i64 0, .int .i64 0]), 2, 16) := by kernel_rfl
theorem info_ints : (Tryz.prog.info? 35).map (fun i => (i.zero, i.size, i.bytes)) = some (some (.slice none 0 0), 1, 24) := by kernel_rfl
end Go.Proofs.YtebnflpanfmicaaGreatDoor
namespace Go.Proofs.YtebnflpanfmicaaGreatDoor
open Go.RowKit
theorem PBox.at_ {w : World} {b : Nat} {p : Nums} {n : Int} {e wt nx : Value} (h : PBox w b (p.plan n e wt nx)) :
    w.cell? ⟨b, 0, none⟩ = some (.int .i64 n) ∧ w.cell? ⟨b, 1, none⟩ = some e ∧ w.cell? ⟨b, 8, none⟩ = some wt ∧ w.cell? ⟨b, 10, none⟩ = some nx ∧ ∀ i, w.frozen? ⟨b, i, none⟩ = false :=
  ⟨by rw [blk_cell h]; rfl, by rw [blk_cell h]; rfl, by rw [blk_cell h]; rfl, by rw [blk_cell h]; rfl, fun i => blk_frozen h i⟩
theorem PBox.edges {w : World} {b : Nat} {p : Nums} {n : Int} {e wt nx : Value} (h : PBox w b (p.plan n e wt nx)) (e' : Value) : PBox (w.setCell ⟨b, 1, none⟩ e') b (p.plan n e' wt nx) := blk_set h 1 e'
theorem PBox.weights {w : World} {b : Nat} {p : Nums} {n : Int} {e wt nx : Value} (h : PBox w b (p.plan n e wt nx)) (e' : Value) : PBox (w.setCell ⟨b, 8, none⟩ e') b (p.plan n e e' nx) := blk_set h 8 e'
theorem PBox.next {w : World} {b : Nat} {p : Nums} {n : Int} {e wt nx : Value} (h : PBox w b (p.plan n e wt nx)) (e' : Value) : PBox (w.setCell ⟨b, 10, none⟩ e') b (p.plan n e wt e') := blk_set h 10 e'
def NextIn (w : World) (base lim : Nat) (nv : Value) (rows : List (List Nat)) : Prop :=
  ∃ vs : List Value, QS w 35 1 nv rows.length vs ∧ (∀ k, nv.ownBlock = some k → base ≤ k ∧ k < lim) ∧ (∀ u ∈ vs, u.oneCell' = true) ∧
    ∀ (i : Nat) (v : Value) (r : List Nat), vs[i]? = some v → rows[i]? = some r → QS w 3 1 v r.length (r.map encI) ∧ ∀ k, v.ownBlock = some k → base ≤ k ∧ k < lim
theorem NextIn.is {w : World} {base base' lim : Nat} {nv : Value} {rows : List (List Nat)} (h : NextIn w base lim nv rows) (hb : base' ≤ base) : NextIs w base' nv rows := by
  obtain ⟨vs, h1, h2, h3, h4⟩ := h
  refine ⟨vs, h1, fun k hk => Nat.le_trans hb (h2 k hk).1, h3, fun i v r hv hr => ?_⟩
  obtain ⟨h5, h6⟩ := h4 i v r hv hr
  exact ⟨h5, fun k hk => Nat.le_trans hb (h6 k hk).1⟩
theorem NextIn.nil (w : World) (base lim : Nat) : NextIn w base lim (.slice none 0 0) [] := by
  refine ⟨[], QS.nil _ _ _, ?_, ?_, ?_⟩
  · intro k h; cases h
  · intro u h; cases h
  · intro i v r h; cases h
theorem NextIn.keeps {w w' : World} {base lim : Nat} {nv : Value} {rows : List (List Nat)} {F : Nat → Prop} (h : NextIn w base lim nv rows) (hk : Keeps F w w')
    (hF : ∀ k, F k → base ≤ k → k < lim → ∃ cur, w.heap[k]? = some (.cells cur 149 (0, 0))) : NextIn w' base lim nv rows := by
  have ty : ∀ (k : Nat) (e : Nat) (cur : Array Value), e ≠ 149 → base ≤ k → k < lim → w.heap[k]? = some (.cells cur e (0, 0)) → ¬ F k := fun k e cur hne h1 h2 hc hf => by
    obtain ⟨cur', hc'⟩ := hF k hf h1 h2
    rw [hc] at hc'
    injection hc' with hc'
    injection hc' with _ e1
    exact hne e1
  obtain ⟨vs, h1, h2, h3, h4⟩ := h
  refine ⟨vs, h1.keeps hk (fun k hv => ?_), h2, h3, fun i v r hv hr => ?_⟩
  · obtain ⟨cur, hc⟩ := h1.typed k hv
    exact ty k _ cur (by decide) (h2 k hv).1 (h2 k hv).2 hc
  · obtain ⟨h5, h6⟩ := h4 i v r hv hr
    refine ⟨h5.keeps hk (fun k hv => ?_), h6⟩
    obtain ⟨cur, hc⟩ := h5.typed k hv
    exact ty k _ cur (by decide) (h6 k hv).1 (h6 k hv).2 hc
theorem PBox.all {w : World} {b : Nat} {a0 a1 a2 a3 a4 a5 a6 a7 a8 a9 a10 : Value} (h : PBox w b #[a0, a1, a2, a3, a4, a5, a6, a7, a8, a9, a10]) :
    w.cell? ⟨b, 0, none⟩ = some a0 ∧ w.cell? ⟨b, 1, none⟩ = some a1 ∧ w.cell? ⟨b, 2, none⟩ = some a2 ∧ w.cell? ⟨b, 3, none⟩ = some a3 ∧ w.cell? ⟨b, 4, none⟩ = some a4 ∧ w.cell? ⟨b, 5, none⟩ = some a5 ∧
    w.cell? ⟨b, 6, none⟩ = some a6 ∧ w.cell? ⟨b, 7, none⟩ = some a7 ∧ w.cell? ⟨b, 8, none⟩ = some a8 ∧ w.cell? ⟨b, 9, none⟩ = some a9 ∧ w.cell? ⟨b, 10, none⟩ = some a10 ∧ ∀ i, w.frozen? ⟨b, i, none⟩ = false :=
  ⟨by rw [blk_cell h]; rfl, by rw [blk_cell h]; rfl, by rw [blk_cell h]; rfl, by rw [blk_cell h]; rfl, by rw [blk_cell h]; rfl, by rw [blk_cell h]; rfl, by rw [blk_cell h]; rfl, by rw [blk_cell h]; rfl, by rw [blk_cell h]; rfl, by rw [blk_cell h]; rfl, by rw [blk_cell h]; rfl, fun i => blk_frozen h i⟩
theorem set11 {w : World} {b : Nat} {c0 c1 c2 c3 c4 c5 c6 c7 c8 c9 c10 : Value} (h : PBox w b #[c0, c1, c2, c3, c4, c5, c6, c7, c8, c9, c10]) (a0 a1 a2 a3 a4 a5 a6 a7 a8 a9 a10 : Value) :
    PBox (((((((((((w.setCell ⟨b, 0, none⟩ a0).setCell ⟨b, 1, none⟩ a1).setCell ⟨b, 2, none⟩ a2).setCell ⟨b, 3, none⟩ a3).setCell ⟨b, 4, none⟩ a4).setCell ⟨b, 5, none⟩ a5).setCell ⟨b, 6, none⟩ a6).setCell ⟨b, 7, none⟩ a7).setCell ⟨b, 8, none⟩ a8).setCell ⟨b, 9, none⟩ a9).setCell ⟨b, 10, none⟩ a10) b #[a0, a1, a2, a3, a4, a5, a6, a7, a8, a9, a10] ∧ Keeps (fun k => k = b) w (((((((((((w.setCell ⟨b, 0, none⟩ a0).setCell ⟨b, 1, none⟩ a1).setCell ⟨b, 2, none⟩ a2).setCell ⟨b, 3, none⟩ a3).setCell ⟨b, 4, none⟩ a4).setCell ⟨b, 5, none⟩ a5).setCell ⟨b, 6, none⟩ a6).setCell ⟨b, 7, none⟩ a7).setCell ⟨b, 8, none⟩ a8).setCell ⟨b, 9, none⟩ a9).setCell ⟨b, 10, none⟩ a10) := by
  have h0 : PBox (w.setCell ⟨b, 0, none⟩ a0) b #[a0, c1, c2, c3, c4, c5, c6, c7, c8, c9, c10] := blk_set h 0 a0
  have h1 : PBox ((w.setCell ⟨b, 0, none⟩ a0).setCell ⟨b, 1, none⟩ a1) b #[a0, a1, c2, c3, c4, c5, c6, c7, c8, c9, c10] := blk_set h0 1 a1
  have h2 : PBox (((w.setCell ⟨b, 0, none⟩ a0).setCell ⟨b, 1, none⟩ a1).setCell ⟨b, 2, none⟩ a2) b #[a0, a1, a2, c3, c4, c5, c6, c7, c8, c9, c10] := blk_set h1 2 a2
  have h3 : PBox ((((w.setCell ⟨b, 0, none⟩ a0).setCell ⟨b, 1, none⟩ a1).setCell ⟨b, 2, none⟩ a2).setCell ⟨b, 3, none⟩ a3) b #[a0, a1, a2, a3, c4, c5, c6, c7, c8, c9, c10] := blk_set h2 3 a3
  have h4 : PBox (((((w.setCell ⟨b, 0, none⟩ a0).setCell ⟨b, 1, none⟩ a1).setCell ⟨b, 2, none⟩ a2).setCell ⟨b, 3, none⟩ a3).setCell ⟨b, 4, none⟩ a4) b #[a0, a1, a2, a3, a4, c5, c6, c7, c8, c9, c10] := blk_set h3 4 a4
  have h5 : PBox ((((((w.setCell ⟨b, 0, none⟩ a0).setCell ⟨b, 1, none⟩ a1).setCell ⟨b, 2, none⟩ a2).setCell ⟨b, 3, none⟩ a3).setCell ⟨b, 4, none⟩ a4).setCell ⟨b, 5, none⟩ a5) b #[a0, a1, a2, a3, a4, a5, c6, c7, c8, c9, c10] := blk_set h4 5 a5
  have h6 : PBox (((((((w.setCell ⟨b, 0, none⟩ a0).setCell ⟨b, 1, none⟩ a1).setCell ⟨b, 2, none⟩ a2).setCell ⟨b, 3, none⟩ a3).setCell ⟨b, 4, none⟩ a4).setCell ⟨b, 5, none⟩ a5).setCell ⟨b, 6, none⟩ a6) b #[a0, a1, a2, a3, a4, a5, a6, c7, c8, c9, c10] := blk_set h5 6 a6
  have h7 : PBox ((((((((w.setCell ⟨b, 0, none⟩ a0).setCell ⟨b, 1, none⟩ a1).setCell ⟨b, 2, none⟩ a2).setCell ⟨b, 3, none⟩ a3).setCell ⟨b, 4, none⟩ a4).setCell ⟨b, 5, none⟩ a5).setCell ⟨b, 6, none⟩ a6).setCell ⟨b, 7, none⟩ a7) b #[a0, a1, a2, a3, a4, a5, a6, a7, c8, c9, c10] := blk_set h6 7 a7
  have h8 : PBox (((((((((w.setCell ⟨b, 0, none⟩ a0).setCell ⟨b, 1, none⟩ a1).setCell ⟨b, 2, none⟩ a2).setCell ⟨b, 3, none⟩ a3).setCell ⟨b, 4, none⟩ a4).setCell ⟨b, 5, none⟩ a5).setCell ⟨b, 6, none⟩ a6).setCell ⟨b, 7, none⟩ a7).setCell ⟨b, 8, none⟩ a8) b #[a0, a1, a2, a3, a4, a5, a6, a7, a8, c9, c10] := blk_set h7 8 a8
  have h9 : PBox ((((((((((w.setCell ⟨b, 0, none⟩ a0).setCell ⟨b, 1, none⟩ a1).setCell ⟨b, 2, none⟩ a2).setCell ⟨b, 3, none⟩ a3).setCell ⟨b, 4, none⟩ a4).setCell ⟨b, 5, none⟩ a5).setCell ⟨b, 6, none⟩ a6).setCell ⟨b, 7, none⟩ a7).setCell ⟨b, 8, none⟩ a8).setCell ⟨b, 9, none⟩ a9) b #[a0, a1, a2, a3, a4, a5, a6, a7, a8, a9, c10] := blk_set h8 9 a9
  have h10 : PBox (((((((((((w.setCell ⟨b, 0, none⟩ a0).setCell ⟨b, 1, none⟩ a1).setCell ⟨b, 2, none⟩ a2).setCell ⟨b, 3, none⟩ a3).setCell ⟨b, 4, none⟩ a4).setCell ⟨b, 5, none⟩ a5).setCell ⟨b, 6, none⟩ a6).setCell ⟨b, 7, none⟩ a7).setCell ⟨b, 8, none⟩ a8).setCell ⟨b, 9, none⟩ a9).setCell ⟨b, 10, none⟩ a10) b #[a0, a1, a2, a3, a4, a5, a6, a7, a8, a9, a10] := blk_set h9 10 a10
  refine ⟨h10, ?_⟩
  have k : ∀ (x : World) (i : Nat) (v : Value), Keeps (fun k => k = b) x (x.setCell ⟨b, i, none⟩ v) := fun _ _ _ => Keeps.setCell _ _ _ _ rfl
  exact (((((((((((k _ _ _)).trans (k _ _ _)).trans (k _ _ _)).trans (k _ _ _)).trans (k _ _ _)).trans (k _ _ _)).trans (k _ _ _)).trans (k _ _ _)).trans (k _ _ _)).trans (k _ _ _)).trans (k _ _ _)
structure LayAt (w : World) (p : Nums) (t : List Nat) (ws : List Int) (i v lim : Nat) (X : World) : Prop where
  keeps : Keeps (fun _ => False) w X
  size : w.heap.size + 2 ≤ X.heap.size
  lim1 : w.heap.size + 2 ≤ lim
  res : PBox X (w.heap.size + 1) (Nums.zero.plan 0 (.slice none 0 0) (.slice none 0 0) (.slice none 0 0))
  box : ∃ Ea ec Wa wc Na nc, PBox X w.heap.size (p.plan ((t.length : Int) + 1) (.slice Ea i ec) (.slice Wa ws.length wc) (.slice Na v nc)) ∧
    QS X 149 2 (.slice Ea i ec) i (ecells (edgesOf t i)) ∧ (∀ k, (Value.slice Ea i ec).ownBlock = some k → w.heap.size + 2 ≤ k ∧ k < lim) ∧
    QS X 3 1 (.slice Wa ws.length wc) ws.length (ws.map encZ) ∧ (∀ k, (Value.slice Wa ws.length wc).ownBlock = some k → w.heap.size + 2 ≤ k ∧ k < lim) ∧
    NextIn X (w.heap.size + 2) lim (.slice Na v nc) (rowsOf t v)
theorem LayAt.calm {w : World} {p : Nums} {t : List Nat} {ws : List Int} {i v lim : Nat} {X Y : World} {F : Nat → Prop} (h : LayAt w p t ws i v lim X) (hk : Keeps F X Y) (hF : ∀ k, F k → lim ≤ k) : LayAt w p t ws i v lim Y := by
  obtain ⟨h1, h2, h2', h3, Ea, ec, Wa, wc, Na, nc, h4, h5, h6, h7, h8, h9⟩ := h
  refine ⟨h1.then hk (fun i hi h => by have := hF _ h; omega), Nat.le_trans h2 hk.size, h2', blk_keeps hk h3 (fun h => by have := hF _ h; omega), Ea, ec, Wa, wc, Na, nc, blk_keeps hk h4 (fun h => by have := hF _ h; omega),
    h5.keeps hk (fun k hv h => by have := hF _ h; have := h6 k hv; omega), h6, h7.keeps hk (fun k hv h => by have := hF _ h; have := h8 k hv; omega), h8, h9.keeps hk (fun k h h1 h2 => by have := hF _ h; omega)⟩
theorem LayAt.now {w : World} {p : Nums} {t : List Nat} {ws : List Int} {i v lim : Nat} {X : World} (h : LayAt w p t ws i v lim X) : LayAt w p t ws i v X.heap.size X := by
  obtain ⟨h1, h2, h2', h3, Ea, ec, Wa, wc, Na, nc, h4, h5, h6, h7, h8, vs, q1, q2, q3, q4⟩ := h
  refine ⟨h1, h2, h2, h3, Ea, ec, Wa, wc, Na, nc, h4, h5, fun k hv => ⟨(h6 k hv).1, h5.lt k hv⟩, h7, fun k hv => ⟨(h8 k hv).1, h7.lt k hv⟩, vs, q1, fun k hv => ⟨(q2 k hv).1, q1.lt k hv⟩, q3, fun i v r hv hr => ?_⟩
  obtain ⟨q5, q6⟩ := q4 i v r hv hr
  exact ⟨q5, fun k hv => ⟨(q6 k hv).1, q5.lt k hv⟩⟩
theorem two_boxes (w : World) (a b : Array Value) (T : Nat) : ((w.alloc (.cells a T)).alloc (.cells b T)).heap[w.heap.size]? = some (.cells a T (0, 0)) ∧ ((w.alloc (.cells a T)).alloc (.cells b T)).heap[w.heap.size + 1]? = some (.cells b T (0, 0)) ∧
    Keeps (fun _ => False) w ((w.alloc (.cells a T)).alloc (.cells b T)) ∧ ((w.alloc (.cells a T)).alloc (.cells b T)).heap.size = w.heap.size + 2 := by
  refine ⟨blk_alloc (blk_new _ _) _, ?_, (Keeps.alloc _ _ _).trans (Keeps.alloc _ _ _), by simp⟩
  have := blk_new (w.alloc (.cells a T)) (.cells b T)
  rwa [World.size_alloc] at this
end Go.Proofs.YtebnflpanfmicaaGreatDoor
namespace Go.Proofs.YtebnflpanfmicaaGreatDoor
open Go.RowKit
theorem tencN (l : List Nat) : l.map encI = (l.map Int.ofNat).map encZ := by rw [List.map_map]; rfl
end Go.Proofs.YtebnflpanfmicaaGreatDoor
