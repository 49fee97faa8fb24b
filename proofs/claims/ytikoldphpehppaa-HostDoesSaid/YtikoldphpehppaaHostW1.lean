/-
  The walks over package host: New, right, Waits, Put, Next, Eject, Got.
-/
import Derived.Test.YtikoldphpehppaaProg
import Derived.Test.YtikoldphpehppaaHostRep
import Derived.BigQuiet
set_option linter.unusedVariables false
set_option linter.unusedSimpArgs false
namespace Go.Proofs.Ytikoldphpehppaa
open Go.RowKit

theorem info_pkt : (Try.prog.info? 27).map (fun i => (i.zero, i.size, i.bytes)) = some (some (.agg #[.int .i64 0, .int .i64 0, .int .i64 0, .int .u32 0]), 4, 32) := by kernel_rfl

abbrev hostCells (lanes queue : Int) : Array Value := #[.slice none 0 0, .slice none 0 0, .slice none 0 0, .slice none 0 0, .int .i64 lanes, .int .i64 queue]

set_option maxHeartbeats 400000 in
theorem hnew_ok (lanes queue : Int) (w : World) (h1 : 1 ≤ lanes) (h2 : lanes ≤ 3) (h3 : 1 ≤ queue) (h4 : queue ≤ 8) :
    Calls Try.prog 8 #[.int .i64 lanes, .int .i64 queue] w fun e w' => e = .returned (.pointer (some ⟨w.heap.size, 0, none⟩)) ∧ w' = w.alloc (.cells (hostCells lanes queue) 55) := by
  go_enter Try.func8, Try.ntmps8
  go_wp2
  go_ret
  exact ⟨rfl, rfl⟩

set_option maxHeartbeats 400000 in
theorem hnew_bad (lanes queue : Int) (w : World) (h : lanes < 1 ∨ (1 ≤ lanes ∧ 3 < lanes) ∨ (1 ≤ lanes ∧ lanes ≤ 3 ∧ queue < 1) ∨ (1 ≤ lanes ∧ lanes ≤ 3 ∧ 1 ≤ queue ∧ 8 < queue)) :
    Calls Try.prog 8 #[.int .i64 lanes, .int .i64 queue] w fun e w' => e = .returned (.pointer none) ∧ w = w' := by
  rcases h with h1 | ⟨h1, h2⟩ | ⟨h1, h2, h3⟩ | ⟨h1, h2, h3, h4⟩
  all_goals
    go_enter Try.func8, Try.ntmps8
    go_wp2
    go_ret
    exact ⟨rfl, rfl⟩

theorem HostV.new (w : World) (lanes queue : Int) (T E : Nat) : HostV (w.alloc (.cells (hostCells lanes queue) T)) (fun k => k = w.heap.size) T E w.heap.size lanes queue (fun _ => []) :=
  ⟨fun _ => .slice none 0 0, blk_new w _, ⟨fun _ _ => QS.nil _ _ _, rfl, fun _ _ h => (by cases h), fun _ _ _ _ _ _ h => (by cases h), fun _ _ _ h => (by cases h), fun k (hk : k = w.heap.size) => (by rw [hk]; simp)⟩⟩

set_option maxHeartbeats 400000 in
theorem right_yes (b : Nat) (l n : Int) (w : World) (hc : w.cell? ⟨b, 4, none⟩ = some (.int .i64 n)) (h0 : 0 ≤ l) (h1 : l < n) :
    Calls Try.prog 22 #[.pointer (some ⟨b, 0, none⟩), .int .i64 l] w fun e w' => e = .returned (.bool true) ∧ w = w' := by
  go_enter Try.func22, Try.ntmps22
  go_wp2
  go_ret
  exact ⟨rfl, rfl⟩
set_option maxHeartbeats 400000 in
theorem right_no (b : Nat) (l n : Int) (w : World) (hc : w.cell? ⟨b, 4, none⟩ = some (.int .i64 n)) (h : l < 0 ∨ (0 ≤ l ∧ n ≤ l)) :
    Calls Try.prog 22 #[.pointer (some ⟨b, 0, none⟩), .int .i64 l] w fun e w' => e = .returned (.bool false) ∧ w = w' := by
  rcases h with h0 | ⟨h0, h1⟩
  · go_enter Try.func22, Try.ntmps22
    go_wp2
    go_ret
    exact ⟨rfl, rfl⟩
  · go_enter Try.func22, Try.ntmps22
    go_wp2
    go_ret
    exact ⟨by simp; omega, rfl⟩

set_option maxHeartbeats 400000 in
theorem waits_low (b l : Nat) (n : Int) (A : Option Addr) (len cap : Nat) (w : World) (hc : w.cell? ⟨b, 4, none⟩ = some (.int .i64 n)) (h1 : (l : Int) < n) (hn : l < 3)
    (hs : w.cell? ⟨b, l, none⟩ = some (.slice A len cap)) :
    Calls Try.prog 11 #[.pointer (some ⟨b, 0, none⟩), .int .i64 l] w fun e w' => e = .returned (.int .i64 len) ∧ w = w' := by
  go_enter Try.func11, Try.ntmps11
  go_wp2_with (go_at_call 22; refine (right_yes _ _ _ _ hc (by omega) h1).mono ?_; rintro e w' ⟨rfl, rfl⟩)
  go_ret
  exact ⟨rfl, rfl⟩
set_option maxHeartbeats 400000 in
theorem waits_no (b : Nat) (l n : Int) (w : World) (hc : w.cell? ⟨b, 4, none⟩ = some (.int .i64 n)) (h : l < 0 ∨ (0 ≤ l ∧ n ≤ l)) :
    Calls Try.prog 11 #[.pointer (some ⟨b, 0, none⟩), .int .i64 l] w fun e w' => e = .returned (.int .i64 0) ∧ w = w' := by
  have h' := Lib.hid h
  clear h
  go_enter Try.func11, Try.ntmps11
  go_wp2_with (go_at_call 22; refine (right_no _ _ _ _ hc h'.out).mono ?_; rintro e w' ⟨rfl, rfl⟩)
  go_ret
  exact ⟨rfl, rfl⟩

theorem HostV.cell {w : World} {S : Nat → Prop} {T E b : Nat} {lanes queue : Int} {q : Nat → List Pkt} (h : HostV w S T E b lanes queue q) (i : Nat) (hi : i < 4) :
    ∃ A cap, w.cell? ⟨b, i, none⟩ = some (.slice A (q i).length cap) := by
  obtain ⟨v, hb, hr⟩ := h
  obtain ⟨A, cap, e, _⟩ := (hr.rows i hi).shape
  refine ⟨A, cap, ?_⟩
  rw [blk_cell hb, ← e]
  match i, hi with
  | 0, _ => rfl
  | 1, _ => rfl
  | 2, _ => rfl
  | 3, _ => rfl
theorem HostV.lanes {w : World} {S : Nat → Prop} {T E b : Nat} {lanes queue : Int} {q : Nat → List Pkt} (h : HostV w S T E b lanes queue q) : w.cell? ⟨b, 4, none⟩ = some (.int .i64 lanes) := by
  obtain ⟨v, hb, hr⟩ := h; rw [blk_cell hb]; rfl
theorem HostV.queue {w : World} {S : Nat → Prop} {T E b : Nat} {lanes queue : Int} {q : Nat → List Pkt} (h : HostV w S T E b lanes queue q) : w.cell? ⟨b, 5, none⟩ = some (.int .i64 queue) := by
  obtain ⟨v, hb, hr⟩ := h; rw [blk_cell hb]; rfl

theorem waits_ok {S : Nat → Prop} {T E : Nat} {q : Nat → List Pkt} (b : Nat) (l lanes queue : Int) (w : World) (h : HostV w S T E b lanes queue q) (h0 : 0 ≤ l) (h1 : l < lanes) (h3 : lanes ≤ 3) :
    Calls Try.prog 11 #[.pointer (some ⟨b, 0, none⟩), .int .i64 l] w fun e w' => e = .returned (.int .i64 (q l.toNat).length) ∧ w = w' := by
  obtain ⟨l, rfl⟩ := Int.eq_ofNat_of_zero_le h0
  obtain ⟨A, cap, hc⟩ := h.cell l (by omega)
  exact waits_low b l lanes A _ cap w h.lanes h1 (by omega) hc

set_option maxHeartbeats 400000 in
theorem eject_low (b : Nat) (x : Pkt) (v0 v1 v2 v3 v4 v5 : Value) (n : Nat) (cs : List Value) (w : World) (hb : w.heap[b]? = some (.cells #[v0, v1, v2, v3, v4, v5] 55 (0, 0)))
    (hQ : QS w 27 4 v3 n cs) (hd : v3.ownBlock ≠ some b) (hn : n ≤ 1000000000) :
    Calls Try.prog 17 #[.pointer (some ⟨b, 0, none⟩), .agg #[.int .i64 x.src, .int .i64 x.dst, .int .i64 x.lane, .int .u32 x.body]] w fun e w' => e = .returned (.tuple #[]) ∧
      ∃ A c w1, w' = w1.setCell ⟨b, 3, none⟩ (.slice A (n + 1) c) ∧ QS w1 27 4 (.slice A (n + 1) c) (n + 1) (cs ++ x.cells) ∧
        Keeps (fun k => v3.ownBlock = some k) w w1 ∧ ((Value.slice A (n + 1) c).ownBlock = v3.ownBlock ∨ ∃ b, (Value.slice A (n + 1) c).ownBlock = some b ∧ w.heap.size ≤ b) := by
  obtain ⟨A0, c0, rfl, hnc, hcm⟩ := hQ.shape
  have hlt := blk_lt hb
  have hc3 : w.cell? ⟨b, 3, none⟩ = some (.slice A0 n c0) := by rw [blk_cell hb]; rfl
  have hf3 : w.frozen? ⟨b, 3, none⟩ = false := blk_frozen hb 3
  obtain ⟨O, hO⟩ : ∃ O : Obj, O = .cells #[.int .i64 x.src, .int .i64 x.dst, .int .i64 x.lane, .int .u32 x.body] 27 := ⟨_, rfl⟩
  have hQ' := ((hQ.alloc O).alloc O).drew
  have hS : Src Try.prog 4 31 (.slice (some ⟨w.heap.size + 1, 0, none⟩) 1 1) 1 x.cells (((w.alloc O).alloc O).drew) :=
    src_pkt Try.underlying31 x (by rw [hO]; have := blk_new (w.alloc O) O; rw [World.size_alloc, hO] at this; exact this)
  have hbnd : (n + 1) * 32 ≤ 140737488355328 := by omega
  have h32 : 0 < 32 := by decide
  have HB := Lib.hid (p := ∀ w1, World.grownBy ((w.alloc O).alloc O).drew w1 (Value.slice A0 n c0).ownBlock → w1.heap[b]? = some (.cells #[v0, v1, v2, .slice A0 n c0, v4, v5] 55 (0, 0)))
    (fun w1 hg => (hg.block b (by simp; omega) (fun e => hd e.symm)).trans (blk_alloc (blk_alloc hb _) _))
  subst hO
  go_enter Try.func17, Try.ntmps17
  go_wp2_with fail
  go_region_law (refine step_append_QS rfl (.tmp 8) (.tmp 10) 31 31 rfl 27 _ 4 32 Try.underlying31 info_pkt rfl _ n cs rfl hQ' _ 1 _ rfl hS h32 hbnd ?_; intro A c w1 hq1 hg1 hb1; have k3 := blk_cell (HB.out w1 hg1) 3; have f3 := blk_frozen (HB.out w1 hg1) 3)
  all_goals
    go_end0
    refine ⟨rfl, A, c, w1, rfl, hq1, ?_, ?_⟩
    · exact (((Keeps.alloc _ w _).trans (Keeps.alloc _ _ _)).trans (Keeps.drew _ _)).trans (Keeps.grown hg1 (fun k hk => hk))
    · rcases hb1 with h | ⟨b', h, h'⟩
      · exact .inl h
      · exact .inr ⟨b', h, by simp at h'; omega⟩

/-- What a call that may have turned a host has left. -/
def HostNow (w w' : World) (S : Nat → Prop) (T E b : Nat) (lanes queue : Int) (q : Nat → List Pkt) : Prop :=
  ∃ S' : Nat → Prop, HostV w' S' T E b lanes queue q ∧ Keeps S w w' ∧ ∀ k, S' k → S k ∨ w.heap.size ≤ k

theorem eject_ok {S : Nat → Prop} {q : Nat → List Pkt} (b : Nat) (x : Pkt) (lanes queue : Int) (w : World) (h : HostV w S 55 27 b lanes queue q) (hn : (q 3).length ≤ 1000000000) :
    Calls Try.prog 17 #[.pointer (some ⟨b, 0, none⟩), .agg #[.int .i64 x.src, .int .i64 x.dst, .int .i64 x.lane, .int .u32 x.body]] w fun e w' => e = .returned (.tuple #[]) ∧
      HostNow w w' S 55 27 b lanes queue (setAt q 3 (q 3 ++ [x])) := by
  obtain ⟨v, hb, hr⟩ := h
  refine (eject_low b x _ _ _ _ _ _ _ _ w hb (hr.rows 3 (by omega)) (hr.off 3 (by omega)) hn).mono ?_
  rintro e w' ⟨rfl, A, c, w1, rfl, hq, hk, ho⟩
  obtain ⟨r1, r2⟩ := HostV.put hb hr (i := 3) (by omega) hk (l' := q 3 ++ [x]) (by rw [pcells_snoc, List.length_append]; exact hq) ho
  exact ⟨rfl, _, r1, r2, fun k hk => hk.imp id And.left⟩

end Go.Proofs.Ytikoldphpehppaa
