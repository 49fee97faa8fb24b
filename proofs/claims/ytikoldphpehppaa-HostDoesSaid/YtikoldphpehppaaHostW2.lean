/-
  The walks over package host, more: Put, Next, Got.
-/
import Derived.Test.YtikoldphpehppaaHostW1
set_option linter.unusedVariables false
set_option linter.unusedSimpArgs false
namespace Go.Proofs.Ytikoldphpehppaa
open Go.RowKit

set_option maxHeartbeats 400000 in
theorem put_arg (b : Nat) (x : Pkt) (n : Int) (w : World) (hb : b < w.heap.size) (hc : w.cell? ⟨b, 4, none⟩ = some (.int .i64 n)) (h : x.lane < 0 ∨ (0 ≤ x.lane ∧ n ≤ x.lane)) :
    Calls Try.prog 13 #[.pointer (some ⟨b, 0, none⟩), .agg #[.int .i64 x.src, .int .i64 x.dst, .int .i64 x.lane, .int .u32 x.body]] w fun e w' => e = .returned (.int .u16 1) ∧ Keeps (fun _ => False) w w' := by
  have h' := Lib.hid h
  clear h
  have hc' : (w.alloc (.cells #[.int .i64 x.src, .int .i64 x.dst, .int .i64 x.lane, .int .u32 x.body] 27)).cell? ⟨b, 4, none⟩ = some (.int .i64 n) := (World.cell?_of_block (Below.heap_alloc w _ b hb)).trans hc
  go_enter Try.func13, Try.ntmps13
  go_wp2_with (go_at_call 22; refine (right_no _ _ _ _ hc' h'.out).mono ?_; rintro e w' ⟨rfl, rfl⟩)
  go_ret
  exact ⟨rfl, Keeps.alloc _ _ _⟩

set_option maxHeartbeats 400000 in
theorem put_back (b l : Nat) (s d q : Int) (n k : Int) (A : Option Addr) (len cap : Nat) (w : World) (hb : b < w.heap.size) (hc : w.cell? ⟨b, 4, none⟩ = some (.int .i64 n)) (hc5 : w.cell? ⟨b, 5, none⟩ = some (.int .i64 k)) (hl : (l : Int) < n) (hl3 : l < 3)
    (hs : w.cell? ⟨b, l, none⟩ = some (.slice A len cap)) (hk : ((len : Int) == k) = true) :
    Calls Try.prog 13 #[.pointer (some ⟨b, 0, none⟩), .agg #[.int .i64 s, .int .i64 d, .int .i64 l, .int .u32 q]] w fun e w' => e = .returned (.int .u16 150) ∧ Keeps (fun _ => False) w w' := by
  have hc' : (w.alloc (.cells #[.int .i64 s, .int .i64 d, .int .i64 l, .int .u32 q] 27)).cell? ⟨b, 4, none⟩ = some (.int .i64 n) := (World.cell?_of_block (Below.heap_alloc w _ b hb)).trans hc
  go_enter Try.func13, Try.ntmps13
  go_wp2_with (go_at_call 22; refine (right_yes _ _ _ _ hc' (by omega) hl).mono ?_; rintro e w' ⟨rfl, rfl⟩)
  go_quiet (fail)
  go_wp2
  go_ret
  exact ⟨rfl, (Keeps.alloc _ _ _).trans (Keeps.drewN _ _ _)⟩

set_option maxHeartbeats 1000000 in
theorem put_low (b l : Nat) (x : Pkt) (hxl : x.lane = l) (n k : Int) (v : Nat → Value) (m : Nat) (cs : List Value) (w : World) (hb : w.heap[b]? = some (.cells #[v 0, v 1, v 2, v 3, .int .i64 n, .int .i64 k] 55 (0, 0))) (hl : (l : Int) < n) (hl3 : l < 3)
    (hQ : QS w 27 4 (v l) m cs) (hd : (v l).ownBlock ≠ some b) (hn : m ≤ 1000000000) (hk : ((m : Int) == k) = false) :
    Calls Try.prog 13 #[.pointer (some ⟨b, 0, none⟩), .agg #[.int .i64 x.src, .int .i64 x.dst, .int .i64 x.lane, .int .u32 x.body]] w fun e w' => e = .returned (.int .u16 0) ∧
      ∃ A c w1, w' = w1.setCell ⟨b, l, none⟩ (.slice A (m + 1) c) ∧ QS w1 27 4 (.slice A (m + 1) c) (m + 1) (cs ++ x.cells) ∧
        Keeps (fun k => (v l).ownBlock = some k) w w1 ∧ ((Value.slice A (m + 1) c).ownBlock = (v l).ownBlock ∨ ∃ b, (Value.slice A (m + 1) c).ownBlock = some b ∧ w.heap.size ≤ b) := by
  obtain ⟨s, d, lane, q⟩ := x
  obtain rfl : lane = l := hxl
  obtain ⟨A0, c0, hv, hnc, hcm⟩ := hQ.shape
  have hlt := blk_lt hb
  have hcl : w.cell? ⟨b, l, none⟩ = some (.slice A0 m c0) := by
    rw [blk_cell hb, ← hv]
    match l, hl3 with
    | 0, _ => rfl
    | 1, _ => rfl
    | 2, _ => rfl
  have hc4 : w.cell? ⟨b, 4, none⟩ = some (.int .i64 n) := by rw [blk_cell hb]; rfl
  have hc5 : w.cell? ⟨b, 5, none⟩ = some (.int .i64 k) := by rw [blk_cell hb]; rfl
  rw [hv] at hQ hd ⊢
  clear hv
  obtain ⟨O, hO⟩ : ∃ O : Obj, O = .cells #[.int .i64 s, .int .i64 d, .int .i64 l, .int .u32 q] 27 := ⟨_, rfl⟩
  have hc' : (w.alloc O).cell? ⟨b, 4, none⟩ = some (.int .i64 n) := (World.cell?_of_block (Below.heap_alloc w _ b hlt)).trans hc4
  subst hO
  go_enter Try.func13, Try.ntmps13
  go_wp2_with (go_at_call 22; refine (right_yes _ _ _ _ hc' (by omega) hl).mono ?_; rintro e w' ⟨rfl, rfl⟩)
  go_quiet (fail)
  go_wp2
  obtain ⟨W, hW⟩ : ∃ W, (w.alloc (.cells #[.int .i64 s, .int .i64 d, .int .i64 l, .int .u32 q] 27)).drewN nq = W := ⟨_, rfl⟩
  have hKW : Keeps (fun _ => False) w W := by rw [← hW]; exact (Keeps.alloc _ _ _).trans (Keeps.drewN _ _ _)
  have hnew : W.heap[w.heap.size]? = some (.cells #[.int .i64 s, .int .i64 d, .int .i64 l, .int .u32 q] 27 (0, 0)) := by rw [← hW]; exact blk_new w _
  have hsz : w.heap.size < W.heap.size := blk_lt hnew
  have hbW := blk_keeps hKW hb (fun h => h)
  have hQW := hQ.keeps hKW (fun _ _ h => h)
  have x0 := blk_cell hnew 0
  have x1 := blk_cell hnew 1
  have x2 := blk_cell hnew 2
  have x3 := blk_cell hnew 3
  have hclW : W.cell? ⟨b, l, none⟩ = some (.slice A0 m c0) := hKW.cell hcl (fun h => h)
  have hQ' := (hQW.alloc (.cells #[.int .i64 s, .int .i64 d, .int .i64 l, .int .u32 q] 27)).drew
  have hS : Src Try.prog 4 31 (.slice (some ⟨W.heap.size, 0, none⟩) 1 1) 1 [.int .i64 s, .int .i64 d, .int .i64 l, .int .u32 q] ((W.alloc (.cells #[.int .i64 s, .int .i64 d, .int .i64 l, .int .u32 q] 27)).drew) :=
    src_pkt Try.underlying31 ⟨s, d, l, q⟩ (blk_new W _)
  have hbnd : (m + 1) * 32 ≤ 140737488355328 := by omega
  have h32 : 0 < 32 := by decide
  have HB := Lib.hid (p := ∀ w1, World.grownBy (W.alloc (.cells #[.int .i64 s, .int .i64 d, .int .i64 l, .int .u32 q] 27)).drew w1 (Value.slice A0 m c0).ownBlock → w1.cell? ⟨b, l, none⟩ = some (.slice A0 m c0) ∧ w1.frozen? ⟨b, l, none⟩ = false ∧ w1.cell? ⟨w.heap.size, 2, none⟩ = some (.int .i64 l))
    (fun w1 hg => by
      have hb1 := (hg.block b (by simp; omega) (fun e => hd e.symm)).trans (blk_alloc hbW _)
      have hn1 := (hg.block w.heap.size (by simp; omega) (fun e => by have := hQ.lt _ e.symm; omega)).trans (blk_alloc hnew _)
      exact ⟨(World.cell?_of_block (a := ⟨b, l, none⟩) (hb1.trans hbW.symm)).trans hclW, blk_frozen hb1 l, blk_cell hn1 2⟩)
  rw [hW]
  clear hW hbW hb hcl hc4 hc5 hc' hQ hQW hnew
  simp only [List.getElem?_toArray] at x0 x1 x2 x3
  have hl3' : (l : Int) < 3 := by omega
  have hbsz : b < W.heap.size := by omega
  go_region_law (refine step_append_QS rfl (.tmp 34) (.tmp 36) 31 31 rfl 27 _ 4 32 Try.underlying31 info_pkt rfl _ m cs rfl hQ' _ 1 _ rfl hS h32 hbnd ?_; intro A c w1 hq1 hg1 hb1; obtain ⟨k3, f3, g3⟩ := HB.out w1 hg1)
  all_goals
    go_wp2
    go_ret
    refine ⟨rfl, A, c, w1, rfl, hq1, ?_, ?_⟩
    · exact (hKW.mono (fun _ _ h => h.elim)).trans (((Keeps.alloc _ W _).trans (Keeps.drew _ _)).trans (Keeps.grown hg1 (fun k hk => hk)))
    · rcases hb1 with h | ⟨b', h, h'⟩
      · exact .inl h
      · exact .inr ⟨b', h, by simp at h'; omega⟩

theorem put_ok {S : Nat → Prop} {q : Nat → List Pkt} (b : Nat) (x : Pkt) (lanes queue : Int) (w : World) (h : HostV w S 55 27 b lanes queue q) (h3 : lanes ≤ 3) (h8 : queue ≤ 8) (h0 : 0 ≤ x.lane) (h1 : x.lane < lanes)
    (hn : ((q x.lane.toNat).length : Int) < queue) :
    Calls Try.prog 13 #[.pointer (some ⟨b, 0, none⟩), .agg #[.int .i64 x.src, .int .i64 x.dst, .int .i64 x.lane, .int .u32 x.body]] w fun e w' => e = .returned (.int .u16 0) ∧
      HostNow w w' S 55 27 b lanes queue (setAt q x.lane.toNat (q x.lane.toNat ++ [x])) := by
  obtain ⟨v, hb, hr⟩ := h
  have hl : x.lane = (x.lane.toNat : Int) := (Int.toNat_of_nonneg h0).symm
  have hl3 : x.lane.toNat < 3 := by omega
  refine (put_low b x.lane.toNat x hl lanes queue v _ _ w hb (by omega) hl3 (hr.rows _ (by omega)) (hr.off _ (by omega)) (by omega) (beq_eq_false_iff_ne.2 (by omega))).mono ?_
  rintro e w' ⟨rfl, A, c, w1, rfl, hq, hk, ho⟩
  obtain ⟨r1, r2⟩ := HostV.put hb hr (i := x.lane.toNat) (by omega) hk (l' := q x.lane.toNat ++ [x]) (by rw [pcells_snoc, List.length_append]; exact hq) ho
  exact ⟨rfl, _, r1, r2, fun k hk => hk.imp id And.left⟩

theorem put_full {S : Nat → Prop} {q : Nat → List Pkt} (b : Nat) (x : Pkt) (lanes queue : Int) (w : World) (h : HostV w S 55 27 b lanes queue q) (h3 : lanes ≤ 3) (h0 : 0 ≤ x.lane) (h1 : x.lane < lanes)
    (hn : ((q x.lane.toNat).length : Int) = queue) :
    Calls Try.prog 13 #[.pointer (some ⟨b, 0, none⟩), .agg #[.int .i64 x.src, .int .i64 x.dst, .int .i64 x.lane, .int .u32 x.body]] w fun e w' => e = .returned (.int .u16 150) ∧ Keeps (fun _ => False) w w' := by
  obtain ⟨A, cap, hc⟩ := h.cell x.lane.toNat (by omega)
  have := put_back b x.lane.toNat x.src x.dst x.body lanes queue A _ cap w (by obtain ⟨v, hb, _⟩ := h; exact blk_lt hb) h.lanes h.queue (by omega) (by omega) hc (beq_iff_eq.2 hn)
  rwa [Int.toNat_of_nonneg h0] at this

theorem put_bad {S : Nat → Prop} {q : Nat → List Pkt} (b : Nat) (x : Pkt) (lanes queue : Int) (w : World) (h : HostV w S 55 27 b lanes queue q) (hl : x.lane < 0 ∨ (0 ≤ x.lane ∧ lanes ≤ x.lane)) :
    Calls Try.prog 13 #[.pointer (some ⟨b, 0, none⟩), .agg #[.int .i64 x.src, .int .i64 x.dst, .int .i64 x.lane, .int .u32 x.body]] w fun e w' => e = .returned (.int .u16 1) ∧ Keeps (fun _ => False) w w' :=
  put_arg b x lanes w (by obtain ⟨v, hb, _⟩ := h; exact blk_lt hb) h.lanes hl

end Go.Proofs.Ytikoldphpehppaa
