/-
  The walk over shunterref15's Put.
-/
import Derived.Test.YtikoldphpehppaaRefRep
set_option linter.unusedVariables false
set_option linter.unusedSimpArgs false
namespace Go.Proofs.Ytikoldphpehppaa
open Go.RowKit

theorem RefV.cells {w : World} {S : Nat → Prop} {T E b : Nat} {lanes queue : Int} {l g : List Pkt} (h : RefV w S T E b lanes queue l g) :
    b < w.heap.size ∧ w.cell? ⟨b, 0, none⟩ = some (.int .i64 lanes) ∧ w.cell? ⟨b, 1, none⟩ = some (.int .i64 queue) := by
  obtain ⟨v, hb, hr⟩ := h
  exact ⟨blk_lt hb, by rw [blk_cell hb]; rfl, by rw [blk_cell hb]; rfl⟩

abbrev pktObj (x : Pkt) (E : Nat) : Obj := .cells #[.int .i64 x.src, .int .i64 x.dst, .int .i64 x.lane, .int .u32 x.body] E

set_option maxHeartbeats 1000000 in
theorem rput_arg {S : Nat → Prop} {T : Nat} {l g : List Pkt} (b : Nat) (x : Pkt) (lanes queue : Int) (w : World) (h : RefV w S T 27 b lanes queue l g) (hl : x.lane < 0 ∨ (0 ≤ x.lane ∧ lanes ≤ x.lane)) :
    Calls Try.prog 19 #[.pointer (some ⟨b, 0, none⟩), .agg #[.int .i64 x.src, .int .i64 x.dst, .int .i64 x.lane, .int .u32 x.body]] w fun e w' => e = .returned (.int .i64 1) ∧ Keeps (fun _ => False) w w' := by
  obtain ⟨hb, c0, c1⟩ := h.cells
  clear h
  rcases hl with hl | ⟨h0, h1⟩
  · have hd : decide (x.lane < 0) = true := by simp; omega
    go_enter Try.func19, Try.ntmps19
    go_wp2_with fail
    go_quiet (fail)
    go_wp2_with fail
    go_ret
    exact ⟨rfl, (Keeps.alloc _ _ _).trans (Keeps.drewN _ _ _)⟩
  · have hd : decide (x.lane < 0) = false := by simp; omega
    have hd2 : decide (lanes ≤ x.lane) = true := by simp; omega
    go_enter Try.func19, Try.ntmps19
    go_wp2_with fail
    go_quiet (fail)
    go_wp2_with fail
    go_ret
    exact ⟨rfl, (Keeps.alloc _ _ _).trans (Keeps.drewN _ _ _)⟩

set_option maxHeartbeats 1000000 in
theorem rput_full {S : Nat → Prop} {T : Nat} {l g : List Pkt} (b : Nat) (x : Pkt) (lanes queue : Int) (w : World) (h : RefV w S T 27 b lanes queue l g) (h0 : 0 ≤ x.lane) (h1 : x.lane < lanes) (hn : l.length ≤ 1000000000) (hq : queue ≤ ((ofLane l x.lane).length : Int)) :
    Calls Try.prog 19 #[.pointer (some ⟨b, 0, none⟩), .agg #[.int .i64 x.src, .int .i64 x.dst, .int .i64 x.lane, .int .u32 x.body]] w fun e w' => e = .returned (.int .i64 150) ∧ Keeps (fun _ => False) w w' := by
  obtain ⟨hb, c0, c1⟩ := h.cells
  have hd : decide (x.lane < 0) = false := by simp; omega
  have hd2 : decide (lanes ≤ x.lane) = false := by simp; omega
  have HW := Lib.hid (p := ∀ W n, Keeps (fun _ => False) w W → Calls Try.prog 21 #[.pointer (some ⟨b, 0, none⟩), .int .i64 x.lane] (W.drewN n) fun e w' => e = .returned (.int .i64 (ofLane l x.lane).length) ∧ w' = W.drewN n)
    (fun W n hk => (rwaits_ok b x.lane lanes queue (W.drewN n) ((h.keeps hk (fun _ _ h => h)).keeps (Keeps.drewN (fun _ => False) _ _) (fun _ _ h => h)) hn).mono (fun e w' ⟨a, b⟩ => ⟨a, b.symm⟩))
  generalize hm : (ofLane l x.lane).length = m at *
  have hm' := Lib.hid hm
  clear hm h
  have hd3 : decide (queue ≤ (m : Int)) = true := by simp; omega
  go_enter Try.func19, Try.ntmps19
  go_wp2_with fail
  go_quiet (fail)
  go_wp2_with fail
  obtain ⟨W, hW⟩ : ∃ W, (w.alloc (pktObj x 27)).drewN nq = W := ⟨_, rfl⟩
  have hKW : Keeps (fun _ => False) w W := by rw [← hW]; exact (Keeps.alloc _ _ _).trans (Keeps.drewN _ _ _)
  have hnew : W.heap[w.heap.size]? = some (.cells #[.int .i64 x.src, .int .i64 x.dst, .int .i64 x.lane, .int .u32 x.body] 27 (0, 0)) := by rw [← hW]; exact blk_new w _
  have x2 := blk_cell hnew 2
  have c1W : W.cell? ⟨b, 1, none⟩ = some (.int .i64 queue) := hKW.cell c1 (fun h => h)
  rw [hW]
  clear hW hnew c0 c1
  simp only [List.getElem?_toArray] at x2
  go_quiet ((go_at_call 21; exact Calls.quiet_of_same (HW.out W _ hKW)))
  go_wp2_with fail
  go_ret
  exact ⟨rfl, hKW.trans (Keeps.drewN _ _ _)⟩

set_option maxHeartbeats 2000000 in
theorem rput_low (b : Nat) (x : Pkt) (lanes queue : Int) (v : Nat → Value) (k : Nat) (cs : List Value) (m : Nat) (w : World) (hb : w.heap[b]? = some (.cells #[.int .i64 lanes, .int .i64 queue, v 0, v 1] 48 (0, 0)))
    (hQ : QS w 27 4 (v 0) k cs) (hoff : (v 0).ownBlock ≠ some b) (hk : k ≤ 1000000000) (h0 : 0 ≤ x.lane) (h1 : x.lane < lanes) (hq : (m : Int) < queue)
    (HW0 : ∀ W n, Keeps (fun _ => False) w W → Calls Try.prog 21 #[.pointer (some ⟨b, 0, none⟩), .int .i64 x.lane] (W.drewN n) fun e w' => e = .returned (.int .i64 m) ∧ w' = W.drewN n) :
    Calls Try.prog 19 #[.pointer (some ⟨b, 0, none⟩), .agg #[.int .i64 x.src, .int .i64 x.dst, .int .i64 x.lane, .int .u32 x.body]] w fun e w' => e = .returned (.int .i64 0) ∧
      ∃ A c w1, w' = w1.setCell ⟨b, 2, none⟩ (.slice A (k + 1) c) ∧ QS w1 27 4 (.slice A (k + 1) c) (k + 1) (cs ++ x.cells) ∧
        Keeps (fun i => (v 0).ownBlock = some i) w w1 ∧ ((Value.slice A (k + 1) c).ownBlock = (v 0).ownBlock ∨ ∃ b, (Value.slice A (k + 1) c).ownBlock = some b ∧ w.heap.size ≤ b) := by
  have HW := Lib.hid HW0
  clear HW0
  have hlt := blk_lt hb
  obtain ⟨A0, cp, hv, hnc, hcm⟩ := hQ.shape
  have c0 : w.cell? ⟨b, 0, none⟩ = some (.int .i64 lanes) := by rw [blk_cell hb]; rfl
  have c1 : w.cell? ⟨b, 1, none⟩ = some (.int .i64 queue) := by rw [blk_cell hb]; rfl
  rw [hv] at hQ hoff hb ⊢
  clear hv
  have c2 : w.cell? ⟨b, 2, none⟩ = some (.slice A0 k cp) := by rw [blk_cell hb]; rfl
  have hd : decide (x.lane < 0) = false := by simp; omega
  have hd2 : decide (lanes ≤ x.lane) = false := by simp; omega
  have hd3 : decide (queue ≤ (m : Int)) = false := by simp; omega
  go_enter Try.func19, Try.ntmps19
  go_wp2_with fail
  go_quiet (fail)
  go_wp2_with fail
  obtain ⟨W, hW⟩ : ∃ W, (w.alloc (pktObj x 27)).drewN nq = W := ⟨_, rfl⟩
  have hKW : Keeps (fun _ => False) w W := by rw [← hW]; exact (Keeps.alloc _ _ _).trans (Keeps.drewN _ _ _)
  have hnew : W.heap[w.heap.size]? = some (.cells #[.int .i64 x.src, .int .i64 x.dst, .int .i64 x.lane, .int .u32 x.body] 27 (0, 0)) := by rw [← hW]; exact blk_new w _
  have x2 := blk_cell hnew 2
  have c1W : W.cell? ⟨b, 1, none⟩ = some (.int .i64 queue) := hKW.cell c1 (fun h => h)
  rw [hW]
  clear hW
  simp only [List.getElem?_toArray] at x2
  go_quiet ((go_at_call 21; exact Calls.quiet_of_same (HW.out W _ hKW)))
  go_wp2_with fail
  obtain ⟨V, hV⟩ : ∃ V, W.drewN nq = V := ⟨_, rfl⟩
  have hKV : Keeps (fun _ => False) w V := by rw [← hV]; exact hKW.trans (Keeps.drewN _ _ _)
  have hnewV : V.heap[w.heap.size]? = some (.cells #[.int .i64 x.src, .int .i64 x.dst, .int .i64 x.lane, .int .u32 x.body] 27 (0, 0)) := by rw [← hV]; exact hnew
  have hsz : w.heap.size < V.heap.size := blk_lt hnewV
  have hbsz : b < V.heap.size := by omega
  have hbV := blk_keeps hKV hb (fun h => h)
  have hQV := hQ.keeps hKV (fun _ _ h => h)
  have y0 := blk_cell hnewV 0
  have y1 := blk_cell hnewV 1
  have y2 := blk_cell hnewV 2
  have y3 := blk_cell hnewV 3
  have c2V : V.cell? ⟨b, 2, none⟩ = some (.slice A0 k cp) := hKV.cell c2 (fun h => h)
  have f2V : V.frozen? ⟨b, 2, none⟩ = false := blk_frozen hbV 2
  have hQ' := (hQV.alloc (pktObj x 27)).drew
  have hS : Src Try.prog 4 31 (.slice (some ⟨V.heap.size, 0, none⟩) 1 1) 1 x.cells ((V.alloc (pktObj x 27)).drew) :=
    src_pkt Try.underlying31 x (blk_new V _)
  have hbnd : (k + 1) * 32 ≤ 140737488355328 := by omega
  have h32 : 0 < 32 := by decide
  have HB := Lib.hid (p := ∀ w1, World.grownBy (V.alloc (pktObj x 27)).drew w1 (Value.slice A0 k cp).ownBlock → w1.cell? ⟨b, 2, none⟩ = some (.slice A0 k cp) ∧ w1.frozen? ⟨b, 2, none⟩ = false)
    (fun w1 hg => by
      have hb1 := (hg.block b (by simp; omega) (fun e => hoff e.symm)).trans (blk_alloc hbV _)
      exact ⟨(World.cell?_of_block (a := ⟨b, 2, none⟩) (hb1.trans hbV.symm)).trans c2V, blk_frozen hb1 2⟩)
  rw [hV]
  clear hV hnew hnewV hbV hb hQ hQV c0 c1 c2 c1W x2
  simp only [List.getElem?_toArray] at y0 y1 y2 y3
  go_region_law (refine step_append_QS rfl (.tmp 30) (.tmp 32) 31 31 rfl 27 _ 4 32 Try.underlying31 info_pkt rfl _ k cs rfl hQ' _ 1 _ rfl hS h32 hbnd ?_; intro A c w1 hq1 hg1 hb1; obtain ⟨k3, f3⟩ := HB.out w1 hg1)
  all_goals
    go_wp2
    go_ret
    refine ⟨rfl, A, c, w1, rfl, hq1, ?_, ?_⟩
    · exact (hKV.mono (fun _ _ h => h.elim)).trans (((Keeps.alloc _ V _).trans (Keeps.drew _ _)).trans (Keeps.grown hg1 (fun k hk => hk)))
    · rcases hb1 with h | ⟨b', h, h'⟩
      · exact .inl h
      · exact .inr ⟨b', h, by simp at h'; omega⟩

theorem rput_ok {S : Nat → Prop} {l g : List Pkt} (b : Nat) (x : Pkt) (lanes queue : Int) (w : World) (h : RefV w S 48 27 b lanes queue l g) (h0 : 0 ≤ x.lane) (h1 : x.lane < lanes) (hn : l.length ≤ 1000000000) (hq : ((ofLane l x.lane).length : Int) < queue) :
    Calls Try.prog 19 #[.pointer (some ⟨b, 0, none⟩), .agg #[.int .i64 x.src, .int .i64 x.dst, .int .i64 x.lane, .int .u32 x.body]] w fun e w' => e = .returned (.int .i64 0) ∧
      RefNow w w' S 48 27 b lanes queue (l ++ [x]) g := by
  have HW : ∀ W n, Keeps (fun _ => False) w W → Calls Try.prog 21 #[.pointer (some ⟨b, 0, none⟩), .int .i64 x.lane] (W.drewN n) fun e w' => e = .returned (.int .i64 (ofLane l x.lane).length) ∧ w' = W.drewN n :=
    fun W n hk => (rwaits_ok b x.lane lanes queue (W.drewN n) ((h.keeps hk (fun _ _ h => h)).keeps (Keeps.drewN (fun _ => False) _ _) (fun _ _ h => h)) hn).mono (fun e w' ⟨a, b⟩ => ⟨a, b.symm⟩)
  obtain ⟨v, hb, hr⟩ := h
  refine (rput_low b x lanes queue v l.length (pcells l) _ w hb (hr.rows 0 (by omega)) (hr.off 0 (by omega)) hn h0 h1 hq HW).mono ?_
  rintro e w' ⟨rfl, A, c, w1, rfl, hq, hk, ho⟩
  obtain ⟨r1, r2⟩ := RefV.put hb hr (i := 0) (by omega) (l' := l ++ [x]) (l2 := l ++ [x]) (g2 := g) (fun j hj => by
    match j, hj with
    | 0, _ => rfl
    | 1, _ => rfl) hk (by rw [pcells_snoc, List.length_append]; exact hq) ho
  exact ⟨rfl, _, r1, r2, fun k hk => hk.imp id And.left⟩

end Go.Proofs.Ytikoldphpehppaa
