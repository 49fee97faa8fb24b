/-
  slices.Clone at packets; Got.
-/
import Derived.Test.YtikoldphpehppaaHostW3
set_option linter.unusedVariables false
set_option linter.unusedSimpArgs false
namespace Go.Proofs.Ytikoldphpehppaa
open Go.RowKit

set_option maxHeartbeats 400000 in
theorem clone_nil (w : World) : Calls Try.prog 23 #[.slice none 0 0] w fun e w' => e = .returned (.slice none 0 0) ∧ w = w' := by
  have hn := Lib.run_eql_slice_nil (P := Try.prog) w 31 27 none 0 0 0 0 Try.underlying31
  go_enter Try.func23, Try.ntmps23
  go_wp2
  go_ret
  exact ⟨rfl, rfl⟩

set_option maxHeartbeats 400000 in
theorem clone_some (a : Addr) (n cap : Nat) (cs : List Value) (w : World) (hQ : QS w 27 4 (.slice (some a) n cap) n cs) (h1 : ∀ u ∈ cs, u.oneCell' = true) (hn : n ≤ 1000000000) :
    Calls Try.prog 23 #[.slice (some a) n cap] w fun e w' => ∃ A c, e = .returned (.slice A n c) ∧ QS w' 27 4 (.slice A n c) n cs ∧ Keeps (fun _ => False) w w' ∧ (∀ k, (Value.slice A n c).ownBlock = some k → w.heap.size ≤ k) := by
  have hnn := Lib.run_eql_slice_nil (P := Try.prog) w 31 27 (some a) n cap 0 0 Try.underlying31
  have h0 : QS (w.alloc (.cells #[] 27)) 27 4 (.slice (some ⟨w.heap.size, 0, none⟩) 0 0) 0 [] := ⟨rfl, .inr ⟨_, 0, 0, #[], rfl, blk_new w _, Nat.le_refl _, Nat.zero_le _, by simp, fun j hj => absurd hj (Nat.not_lt_zero _)⟩⟩
  have hS := (hQ.alloc (.cells #[] 27)).src Try.underlying31 h1
  have hbnd : (0 + n) * 32 ≤ 140737488355328 := by omega
  have h32 : 0 < 32 := by decide
  go_enter Try.func23, Try.ntmps23
  go_wp2_with (at_builtin; refine wpList_append_QS rfl (.tmp 5) (.tmp 6) 31 31 rfl 27 _ 4 32 Try.underlying31 info_pkt rfl _ 0 [] rfl h0 _ n cs rfl hS h32 hbnd ?_; intro A c w1 hq1 hg1 hb1)
  have hg2 : (w.alloc (.cells #[] 27)).grownBy w1 (some w.heap.size) := hg1
  go_ret
  refine ⟨A, c, rfl, by simpa using hq1, ⟨hg2.os, hg2.tape, hg2.output, Nat.le_trans (by simp) hg2.size, fun i hi _ => (hg2.block i (by simp; omega) (fun e => by injection e with e; omega)).trans (Below.heap_alloc _ _ _ hi)⟩, fun k hk => ?_⟩
  rw [Nat.zero_add] at hb1
  rcases hb1 with h | ⟨b, h, h'⟩
  · have h2 : (Value.slice A n c).ownBlock = some w.heap.size := h
    rw [hk] at h2; injection h2 with h2; omega
  · rw [hk] at h; injection h with h; simp at h'; omega

theorem clone_ok (n : Nat) (v : Value) (cs : List Value) (w : World) (hQ : QS w 27 4 v n cs) (h1 : ∀ u ∈ cs, u.oneCell' = true) (hn : n ≤ 1000000000) :
    Calls Try.prog 23 #[v] w fun e w' => ∃ A c, e = .returned (.slice A n c) ∧ QS w' 27 4 (.slice A n c) n cs ∧ Keeps (fun _ => False) w w' ∧ (∀ k, (Value.slice A n c).ownBlock = some k → w.heap.size ≤ k) := by
  rcases hQ.2 with ⟨rfl, rfl⟩ | ⟨g, off, cap, cur, rfl, _⟩
  · refine (clone_nil w).mono ?_
    rintro e w' ⟨rfl, rfl⟩
    exact ⟨none, 0, rfl, hQ, Keeps.refl _ _, fun _ h => by cases h⟩
  · exact clone_some _ n cap cs w hQ h1 hn

set_option maxHeartbeats 400000 in
theorem got_low (b n : Nat) (v : Value) (hv : ∃ A c, v = .slice A n c) (cs : List Value) (w : World) (hc : w.cell? ⟨b, 3, none⟩ = some v) (hQ : QS w 27 4 v n cs) (h1 : ∀ u ∈ cs, u.oneCell' = true) (hn : n ≤ 1000000000) :
    Calls Try.prog 12 #[.pointer (some ⟨b, 0, none⟩)] w fun e w' => ∃ A c, e = .returned (.slice A n c) ∧ QS w' 27 4 (.slice A n c) n cs ∧ Keeps (fun _ => False) w w' ∧ (∀ k, (Value.slice A n c).ownBlock = some k → w.heap.size ≤ k) := by
  obtain ⟨A0, c0, rfl⟩ := hv
  go_enter Try.func12, Try.ntmps12
  go_wp2_with (go_at_call 23; refine (clone_ok n _ cs _ hQ h1 hn).mono ?_; rintro e w' ⟨A, c, rfl, hq, hk, ho⟩)
  go_ret
  exact ⟨A, c, rfl, hq, hk, ho⟩

theorem got_ok {S : Nat → Prop} {T : Nat} {q : Nat → List Pkt} (b : Nat) (lanes queue : Int) (w : World) (h : HostV w S T 27 b lanes queue q) (hn : (q 3).length ≤ 1000000000) :
    Calls Try.prog 12 #[.pointer (some ⟨b, 0, none⟩)] w fun e w' => ∃ A c, e = .returned (.slice A (q 3).length c) ∧ QS w' 27 4 (.slice A (q 3).length c) (q 3).length (pcells (q 3)) ∧ Keeps (fun _ => False) w w' ∧ (∀ k, (Value.slice A (q 3).length c).ownBlock = some k → w.heap.size ≤ k) := by
  obtain ⟨v, hb, hr⟩ := h
  obtain ⟨A, c, hv, _⟩ := (hr.rows 3 (by omega)).shape
  exact got_low b _ (v 3) ⟨A, c, hv⟩ _ w (by rw [blk_cell hb]; rfl) (hr.rows 3 (by omega)) (pcells_one _) hn

/-- The same, the numbers named. -/
theorem got_as {S : Nat → Prop} {T : Nat} {q : Nat → List Pkt} (b : Nat) (lanes queue : Int) (w : World) (h : HostV w S T 27 b lanes queue q) (l : List Pkt) (n : Nat) (hl : q 3 = l) (hn' : l.length = n) (hn : n ≤ 1000000000) :
    Calls Try.prog 12 #[.pointer (some ⟨b, 0, none⟩)] w fun e w' => ∃ A c, e = .returned (.slice A n c) ∧ QS w' 27 4 (.slice A n c) n (pcells l) ∧ Keeps (fun _ => False) w w' ∧ (∀ k, (Value.slice A n c).ownBlock = some k → w.heap.size ≤ k) := by
  subst hl; subst hn'
  exact got_ok b lanes queue w h hn
theorem waits_as {S : Nat → Prop} {T E : Nat} {q : Nat → List Pkt} (b : Nat) (l lanes queue : Int) (w : World) (h : HostV w S T E b lanes queue q) (h0 : 0 ≤ l) (h1 : l < lanes) (h3 : lanes ≤ 3) (n : Int) (hn : ((q l.toNat).length : Int) = n) :
    Calls Try.prog 11 #[.pointer (some ⟨b, 0, none⟩), .int .i64 l] w fun e w' => e = .returned (.int .i64 n) ∧ w = w' := by
  subst hn
  exact waits_ok b l lanes queue w h h0 h1 h3
theorem HostV.same {w : World} {S : Nat → Prop} {T E b : Nat} {lanes queue : Int} {q q' : Nat → List Pkt} (h : HostV w S T E b lanes queue q) (e : ∀ i, i < 4 → q i = q' i) : HostV w S T E b lanes queue q' := by
  obtain ⟨v, hb, hr⟩ := h
  exact ⟨v, hb, ⟨fun i hi => e i hi ▸ hr.rows i hi, hr.self, hr.off, hr.apart, hr.own, hr.lt⟩⟩
def qf (q0 q1 q2 q3 : List Pkt) : Nat → List Pkt
  | 0 => q0
  | 1 => q1
  | 2 => q2
  | _ => q3
theorem HostV.qf {w : World} {S : Nat → Prop} {T E b : Nat} {lanes queue : Int} {q : Nat → List Pkt} (h : HostV w S T E b lanes queue q) {q0 q1 q2 q3 : List Pkt} (e0 : q 0 = q0) (e1 : q 1 = q1) (e2 : q 2 = q2) (e3 : q 3 = q3) : HostV w S T E b lanes queue (qf q0 q1 q2 q3) :=
  h.same fun i hi => by
    match i, hi with
    | 0, _ => exact e0
    | 1, _ => exact e1
    | 2, _ => exact e2
    | 3, _ => exact e3

end Go.Proofs.Ytikoldphpehppaa
