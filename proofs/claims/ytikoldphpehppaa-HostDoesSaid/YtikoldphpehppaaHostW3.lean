/-
  The walks over package host, the rest: Next, Got.
-/
import Derived.Test.YtikoldphpehppaaHostW2
set_option linter.unusedVariables false
set_option linter.unusedSimpArgs false
namespace Go.Proofs.Ytikoldphpehppaa
open Go.RowKit

set_option maxHeartbeats 400000 in
theorem next_none (b : Nat) (l : Int) (w : World) (hw : ∀ W : World, Keeps (fun _ => False) w W → Calls Try.prog 11 #[.pointer (some ⟨b, 0, none⟩), .int .i64 l] W fun e w' => e = .returned (.int .i64 0) ∧ W = w') :
    Calls Try.prog 10 #[.pointer (some ⟨b, 0, none⟩), .int .i64 l] w fun e w' => e = .returned (.tuple #[.agg #[.int .i64 0, .int .i64 0, .int .i64 0, .int .u32 0], .bool false]) ∧ Keeps (fun _ => False) w w' := by
  have hw' := Lib.hid hw
  clear hw
  go_enter Try.func10, Try.ntmps10
  go_wp2_with (go_at_call 11; refine (hw'.out _ (Keeps.alloc _ _ _)).mono ?_; rintro e w' ⟨rfl, rfl⟩)
  exact bodyPost_ret (v := .tuple #[.agg #[.int .i64 0, .int .i64 0, .int .i64 0, .int .u32 0], .bool false]) (by simp [results, Try.results10, go_sem]) rfl ⟨rfl, Keeps.alloc _ _ _⟩

set_option maxHeartbeats 400000 in
theorem next_low (b l g off m cap : Nat) (x0 x1 x2 x3 : Int) (w : World) (hb : b < w.heap.size) (hl3 : l < 3)
    (hl : w.cell? ⟨b, l, none⟩ = some (.slice (some ⟨g, off, none⟩) (m + 1) (cap + 1))) (hf : w.frozen? ⟨b, l, none⟩ = false) (hg : g < w.heap.size)
    (c0 : w.cell? ⟨g, off, none⟩ = some (.int .i64 x0)) (c1 : w.cell? ⟨g, off + 1, none⟩ = some (.int .i64 x1)) (c2 : w.cell? ⟨g, off + 2, none⟩ = some (.int .i64 x2)) (c3 : w.cell? ⟨g, off + 3, none⟩ = some (.int .u32 x3))
    (hw : ∀ W : World, Keeps (fun _ => False) w W → Calls Try.prog 11 #[.pointer (some ⟨b, 0, none⟩), .int .i64 l] W fun e w' => e = .returned (.int .i64 ((m : Int) + 1)) ∧ W = w') :
    Calls Try.prog 10 #[.pointer (some ⟨b, 0, none⟩), .int .i64 l] w fun e w' => e = .returned (.tuple #[.agg #[.int .i64 x0, .int .i64 x1, .int .i64 x2, .int .u32 x3], .bool true]) ∧
      Keeps (fun _ => False) (w.setCell ⟨b, l, none⟩ (.slice (some ⟨g, if cap = 0 then off else off + 4, none⟩) m cap)) w' := by
  have hw' := Lib.hid hw
  clear hw
  have hl3' : (l : Int) < 3 := by omega
  have hm0 : ((m : Int) + 1 == 0) = false := beq_eq_false_iff_ne.2 (by omega)
  have hm1 : (0 : Int) < (m : Int) + 1 := by omega
  go_enter Try.func10, Try.ntmps10
  go_wp2_with (go_at_call 11; refine (hw'.out _ (Keeps.alloc _ _ _)).mono ?_; rintro e w' ⟨rfl, rfl⟩)
  go_region
  all_goals go_wp2
  all_goals
    exact bodyPost_ret (v := .tuple #[.agg #[.int .i64 x0, .int .i64 x1, .int .i64 x2, .int .u32 x3], .bool true]) (by simp [results, Try.results10, go_sem]) rfl
      ⟨rfl, ((Keeps.alloc _ _ _).trans (Keeps.alloc _ _ _)).trans (Keeps.drew _ _)⟩

theorem HostV.blk {w : World} {S : Nat → Prop} {T E b : Nat} {lanes queue : Int} {q : Nat → List Pkt} (h : HostV w S T E b lanes queue q) : b < w.heap.size := by
  obtain ⟨v, hb, _⟩ := h; exact blk_lt hb

theorem next_empty {S : Nat → Prop} {T E : Nat} {q : Nat → List Pkt} (b : Nat) (l lanes queue : Int) (w : World) (h : HostV w S T E b lanes queue q) (h3 : lanes ≤ 3) (hl : l < 0 ∨ (0 ≤ l ∧ lanes ≤ l) ∨ (0 ≤ l ∧ l < lanes ∧ q l.toNat = [])) :
    Calls Try.prog 10 #[.pointer (some ⟨b, 0, none⟩), .int .i64 l] w fun e w' => e = .returned (.tuple #[.agg #[.int .i64 0, .int .i64 0, .int .i64 0, .int .u32 0], .bool false]) ∧ Keeps (fun _ => False) w w' := by
  refine next_none b l w fun W hk => ?_
  have h' := h.keeps hk (fun _ _ h => h)
  rcases hl with hl | hl | ⟨h0, h1, he⟩
  · exact waits_no b l lanes W h'.lanes (.inl hl)
  · exact waits_no b l lanes W h'.lanes (.inr hl)
  · have := waits_ok b l lanes queue W h' h0 h1 h3
    rwa [he] at this

theorem host_at (v : Nat → Value) (a c : Value) (l : Nat) (h : l < 4) : (#[v 0, v 1, v 2, v 3, a, c] : Array Value)[l]? = some (v l) := by
  match l, h with
  | 0, _ => rfl
  | 1, _ => rfl
  | 2, _ => rfl
  | 3, _ => rfl

theorem next_ok {S : Nat → Prop} {T : Nat} {q : Nat → List Pkt} (b : Nat) (l lanes queue : Int) (w : World) (h : HostV w S T 27 b lanes queue q) (h3 : lanes ≤ 3) (h0 : 0 ≤ l) (h1 : l < lanes) (x : Pkt) (r : List Pkt) (hq : q l.toNat = x :: r) :
    Calls Try.prog 10 #[.pointer (some ⟨b, 0, none⟩), .int .i64 l] w fun e w' => e = .returned (.tuple #[.agg #[.int .i64 x.src, .int .i64 x.dst, .int .i64 x.lane, .int .u32 x.body], .bool true]) ∧
      HostNow w w' S T 27 b lanes queue (setAt q l.toNat r) := by
  have hw : ∀ W : World, Keeps (fun _ => False) w W → Calls Try.prog 11 #[.pointer (some ⟨b, 0, none⟩), .int .i64 l] W fun e w' => e = .returned (.int .i64 ((r.length : Int) + 1)) ∧ W = w' := fun W hk => by
    have := waits_ok b l lanes queue W (h.keeps hk (fun _ _ h => h)) h0 h1 h3
    rwa [hq, List.length_cons] at this
  obtain ⟨l, rfl⟩ := Int.eq_ofNat_of_zero_le h0
  simp only [Int.toNat_natCast] at hq ⊢
  obtain ⟨v, hb, hr⟩ := h
  have hl3 : l < 3 := by omega
  have hQ := hr.rows l (by omega)
  rw [hq] at hQ
  obtain ⟨g, off, cap, hv, hnc, hcell, hfr⟩ := hQ.cell (by simp)
  rw [List.length_cons] at hv hnc
  have hcl : w.cell? ⟨b, l, none⟩ = some (v l) := (blk_cell hb l).trans (host_at v _ _ l (by omega))
  obtain ⟨cap, rfl⟩ : ∃ c, cap = c + 1 := ⟨cap - 1, by omega⟩
  have hx : ∀ j u, x.cells[j]? = some u → w.cell? ⟨g, off + j, none⟩ = some u := fun j u hu => hcell j u (by rw [pcells_cons, List.getElem?_append_left (List.getElem?_eq_some_iff.1 hu).1]; exact hu)
  refine (next_low b l g off r.length cap x.src x.dst x.lane x.body w (blk_lt hb) hl3 (by rw [hcl, hv]) (blk_frozen hb l) (hQ.lt g (by rw [hv]; rfl)) (hx 0 _ rfl) (hx 1 _ rfl) (hx 2 _ rfl) (hx 3 _ rfl) hw).mono ?_
  rintro e w' ⟨rfl, hk⟩
  have hQ2 : QS w 27 4 (.slice (some ⟨g, if cap = 0 then off else off + 4, none⟩) r.length cap) r.length (pcells r) := by
    rw [hv, List.length_cons] at hQ
    by_cases hc : cap = 0
    · subst hc
      obtain rfl : r = [] := List.eq_nil_of_length_eq_zero (by omega)
      exact hQ.dropAll
    · rw [if_neg hc]
      exact hQ.drop 1 (by omega)
  obtain ⟨r1, r2⟩ := HostV.put hb hr (i := l) (by omega) (Keeps.refl _ w) (l' := r) hQ2 (.inl (by rw [hv]; rfl))
  exact ⟨rfl, _, r1.keeps hk (fun _ _ h => h), r2.trans (hk.mono (fun _ _ h => h.elim)), fun k hk => hk.imp id And.left⟩

end Go.Proofs.Ytikoldphpehppaa
