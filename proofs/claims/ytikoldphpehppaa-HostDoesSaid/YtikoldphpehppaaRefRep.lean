/-
  The document's host (shunterref15): its memory, and the walks over New, Waits, Eject.
-/
import Derived.Test.YtikoldphpehppaaHostSame
set_option linter.unusedVariables false
set_option linter.unusedSimpArgs false
namespace Go.Proofs.Ytikoldphpehppaa
open Go.RowKit

def two (l g : List Pkt) : Nat → List Pkt := fun i => if i = 0 then l else g

/-- The document's host behind block b: l: what waits; g: what came. -/
def RefV (w : World) (S : Nat → Prop) (T E b : Nat) (lanes queue : Int) (l g : List Pkt) : Prop :=
  ∃ v : Nat → Value, w.heap[b]? = some (.cells #[.int .i64 lanes, .int .i64 queue, v 0, v 1] T (0, 0)) ∧ RowsOf w S b E 2 v (two l g)

theorem RefV.keeps {w w' : World} {S F : Nat → Prop} {T E b : Nat} {lanes queue : Int} {l g : List Pkt} (h : RefV w S T E b lanes queue l g) (hk : Keeps F w w') (hF : ∀ k, S k → ¬ F k) : RefV w' S T E b lanes queue l g := by
  obtain ⟨v, hb, hr⟩ := h
  exact ⟨v, blk_keeps hk hb (hF b hr.self), hr.keeps hk hF⟩

theorem RefV.put {w w1 : World} {S : Nat → Prop} {T E b : Nat} {lanes queue : Int} {v : Nat → Value} {l g l2 g2 : List Pkt} (hb : w.heap[b]? = some (.cells #[.int .i64 lanes, .int .i64 queue, v 0, v 1] T (0, 0))) (h : RowsOf w S b E 2 v (two l g))
    {i : Nat} (hi : i < 2) {v' : Value} {l' : List Pkt} (e : ∀ j, j < 2 → setAt (two l g) i l' j = two l2 g2 j)
    (hk : Keeps (fun k => (v i).ownBlock = some k) w w1) (hq : QS w1 E 4 v' l'.length (pcells l')) (ho : v'.ownBlock = (v i).ownBlock ∨ ∃ g, v'.ownBlock = some g ∧ w.heap.size ≤ g) :
    RefV (w1.setCell ⟨b, 2 + i, none⟩ v') (fun k => S k ∨ (w.heap.size ≤ k ∧ k < w1.heap.size)) T E b lanes queue l2 g2 ∧ Keeps S w (w1.setCell ⟨b, 2 + i, none⟩ v') := by
  obtain ⟨r1, r2⟩ := h.put (o := 2 + i) hi hk hq ho
  refine ⟨⟨setAt v i v', ?_, ⟨fun j hj => e j hj ▸ r1.rows j hj, r1.self, r1.off, r1.apart, r1.own, r1.lt⟩⟩, r2⟩
  rw [blk_set (blk_keeps hk hb (fun e => h.off i hi e)) (2 + i) v']
  match i, hi with
  | 0, _ => rfl
  | 1, _ => rfl

theorem two_nil (i : Nat) : two [] [] i = [] := by unfold two; split <;> rfl

theorem RefV.new (w : World) (lanes queue : Int) (T E : Nat) : RefV (w.alloc (.cells #[.int .i64 lanes, .int .i64 queue, .slice none 0 0, .slice none 0 0] T)) (fun k => k = w.heap.size) T E w.heap.size lanes queue [] [] :=
  ⟨fun _ => .slice none 0 0, blk_new w _, ⟨fun i _ => (by rw [two_nil]; exact QS.nil _ _ _), rfl, fun _ _ h => (by cases h), fun _ _ _ _ _ _ h => (by cases h), fun _ _ _ h => (by cases h), fun k (hk : k = w.heap.size) => (by rw [hk]; simp)⟩⟩

/-- What a call that may have turned it has left. -/
def RefNow (w w' : World) (S : Nat → Prop) (T E b : Nat) (lanes queue : Int) (l g : List Pkt) : Prop :=
  ∃ S' : Nat → Prop, RefV w' S' T E b lanes queue l g ∧ Keeps S w w' ∧ ∀ k, S' k → S k ∨ w.heap.size ≤ k

set_option maxHeartbeats 400000 in
theorem rnew_ok (lanes queue : Int) (w : World) (h1 : 1 ≤ lanes) (h2 : lanes ≤ 3) (h3 : 1 ≤ queue) (h4 : queue ≤ 8) :
    Calls Try.prog 14 #[.int .i64 lanes, .int .i64 queue] w fun e w' => e = .returned (.pointer (some ⟨w.heap.size, 0, none⟩)) ∧ w' = w.alloc (.cells #[.int .i64 lanes, .int .i64 queue, .slice none 0 0, .slice none 0 0] 48) := by
  go_enter Try.func14, Try.ntmps14
  go_wp2
  go_ret
  exact ⟨rfl, rfl⟩

set_option maxHeartbeats 400000 in
theorem rnew_bad (lanes queue : Int) (w : World) (h : lanes < 1 ∨ (1 ≤ lanes ∧ 3 < lanes) ∨ (1 ≤ lanes ∧ lanes ≤ 3 ∧ queue < 1) ∨ (1 ≤ lanes ∧ lanes ≤ 3 ∧ 1 ≤ queue ∧ 8 < queue)) :
    Calls Try.prog 14 #[.int .i64 lanes, .int .i64 queue] w fun e w' => e = .returned (.pointer none) ∧ w = w' := by
  rcases h with h1 | ⟨h1, h2⟩ | ⟨h1, h2, h3⟩ | ⟨h1, h2, h3, h4⟩
  all_goals
    go_enter Try.func14, Try.ntmps14
    go_wp2
    go_ret
    exact ⟨rfl, rfl⟩

def ofLane (l : List Pkt) (lane : Int) : List Pkt := l.filter fun x => x.lane == lane
theorem ofLane_take (l : List Pkt) (lane : Int) (k : Nat) (x : Pkt) (hx : l[k]? = some x) : ofLane (l.take (k + 1)) lane = ofLane (l.take k) lane ++ (if (x.lane == lane) = true then [x] else []) := by
  unfold ofLane
  rw [List.take_add_one, hx, List.filter_append]
  congr 1
  simp [List.filter_cons]
theorem ofLane_le (l : List Pkt) (lane : Int) : (ofLane l lane).length ≤ l.length := List.length_filter_le _ _

set_option maxHeartbeats 1000000 in
theorem rwaits_low (b n : Nat) (lane : Int) (A : Option Addr) (c : Nat) (l : List Pkt) (w : World) (hc : w.cell? ⟨b, 2, none⟩ = some (.slice A n c)) (hR : Reads w w.heap.size 4 (.slice A n c) n (pcells l)) (hn : n ≤ 1000000000) :
    Calls Try.prog 21 #[.pointer (some ⟨b, 0, none⟩), .int .i64 lane] w fun e w' => e = .returned (.int .i64 (ofLane l lane).length) ∧ w = w' := by
  have hl : l.length = n := by have := hR.1; rw [pcells_length] at this; omega
  have hl' := Lib.hid hl
  clear hl
  go_enter Try.func21, Try.ntmps21
  go_wp2_with fail
  go_loop [5, 6] (fun a i => ∃ k : Nat, k ≤ n ∧ i = .int .i64 k ∧ a = .int .i64 (ofLane (l.take k) lane).length) (fun a i => n - (intOf i).toNat)
  case atStart => exact ⟨0, by omega, rfl, rfl⟩
  case round =>
    obtain ⟨k, hk, rfl, rfl⟩ := hrel
    have hle : (ofLane (l.take k) lane).length ≤ k := Nat.le_trans (ofLane_le _ _) (List.length_take_le _ _)
    by_cases hlt : k < n
    · obtain ⟨x, hx⟩ : ∃ x, l[k]? = some x := ⟨_, List.getElem?_eq_getElem (by rw [hl'.out]; exact hlt)⟩
      obtain ⟨g, o, d, e1, gB, p0, p1, p2, p3⟩ := hR.pkt x hx
      injection e1 with e1 _ e1'
      subst e1; subst e1'
      have hs := Lib.hid (ofLane_take l lane k x hx)
      generalize hm : (ofLane (l.take k) lane).length = m at *
      have hm' := Lib.hid hm
      clear hm hx hR
      have hlt' : (k : Int) < n := by omega
      by_cases hxl : (x.lane == lane) = true
      · have hs1 := Lib.hid (show ((ofLane (l.take (k + 1)) lane).length : Int) = (m : Int) + 1 by rw [hs.out, if_pos hxl, List.length_append, hm'.out]; rfl)
        go_wp2_with fail
        go_round
        case rel => exact ⟨k + 1, by omega, by go_num, by rw [hs1.out]⟩
        case measure => simp [intOf]; omega
      · have hxl' : (x.lane == lane) = false := by simpa using hxl
        have hs1 := Lib.hid (show ((ofLane (l.take (k + 1)) lane).length : Int) = (m : Int) by rw [hs.out, if_neg hxl, List.append_nil, hm'.out])
        clear hxl
        go_wp2_with fail
        go_round
        case rel => exact ⟨k + 1, by omega, by go_num, by rw [hs1.out]⟩
        case measure => simp [intOf]; omega
    · obtain rfl : n = k := by omega
      go_wp2_with fail
      go_ret
      exact ⟨by rw [List.take_of_length_le (by rw [hl'.out]; exact Nat.le_refl _)]; rfl, rfl⟩

theorem rwaits_ok {S : Nat → Prop} {T : Nat} {l g : List Pkt} (b : Nat) (lane lanes queue : Int) (w : World) (h : RefV w S T 27 b lanes queue l g) (hn : l.length ≤ 1000000000) :
    Calls Try.prog 21 #[.pointer (some ⟨b, 0, none⟩), .int .i64 lane] w fun e w' => e = .returned (.int .i64 (ofLane l lane).length) ∧ w = w' := by
  obtain ⟨v, hb, hr⟩ := h
  have hQ : QS w 27 4 (v 0) l.length (pcells l) := hr.rows 0 (by omega)
  obtain ⟨A, c, hv, _⟩ := hQ.shape
  have hc : w.cell? ⟨b, 2, none⟩ = some (v 0) := by rw [blk_cell hb]; rfl
  rw [hv] at hQ hc
  exact rwaits_low b _ lane A c l w hc (hQ.reads (by decide)) hn

set_option maxHeartbeats 400000 in
theorem reject_low (b : Nat) (x : Pkt) (v0 v1 v2 v3 : Value) (n : Nat) (cs : List Value) (w : World) (hb : w.heap[b]? = some (.cells #[v0, v1, v2, v3] 48 (0, 0)))
    (hQ : QS w 27 4 v3 n cs) (hd : v3.ownBlock ≠ some b) (hn : n ≤ 1000000000) :
    Calls Try.prog 18 #[.pointer (some ⟨b, 0, none⟩), .agg #[.int .i64 x.src, .int .i64 x.dst, .int .i64 x.lane, .int .u32 x.body]] w fun e w' => e = .returned (.tuple #[]) ∧
      ∃ A c w1, w' = w1.setCell ⟨b, 3, none⟩ (.slice A (n + 1) c) ∧ QS w1 27 4 (.slice A (n + 1) c) (n + 1) (cs ++ x.cells) ∧
        Keeps (fun k => v3.ownBlock = some k) w w1 ∧ ((Value.slice A (n + 1) c).ownBlock = v3.ownBlock ∨ ∃ b, (Value.slice A (n + 1) c).ownBlock = some b ∧ w.heap.size ≤ b) := by
  obtain ⟨A0, c0, rfl, hnc, hcm⟩ := hQ.shape
  have hlt := blk_lt hb
  have hc3 : w.cell? ⟨b, 3, none⟩ = some (.slice A0 n c0) := by rw [blk_cell hb]; rfl
  have hf3 : w.frozen? ⟨b, 3, none⟩ = false := blk_frozen hb 3
  obtain ⟨O, hO⟩ : ∃ O : Obj, O = .cells #[.int .i64 x.src, .int .i64 x.dst, .int .i64 x.lane, .int .u32 x.body] 27 := ⟨_, rfl⟩
  have hQ' := ((hQ.alloc O).alloc O).drew
  have hS : Src Try.prog 4 31 (.slice (some ⟨w.heap.size + 1, 0, none⟩) 1 1) 1 x.cells (((w.alloc O).alloc O).drew) :=
    src_pkt Try.underlying31 x (by rw [hO]; have := blk_new (w.alloc O) O; rw [World.size_alloc, hO] at this; exact this)
  have hbnd : (n + 1) * 32 ≤ 140737488355328 := by omega
  have h32 : 0 < 32 := by decide
  have HB := Lib.hid (p := ∀ w1, World.grownBy ((w.alloc O).alloc O).drew w1 (Value.slice A0 n c0).ownBlock → w1.heap[b]? = some (.cells #[v0, v1, v2, .slice A0 n c0] 48 (0, 0)))
    (fun w1 hg => (hg.block b (by simp; omega) (fun e => hd e.symm)).trans (blk_alloc (blk_alloc hb _) _))
  subst hO
  go_enter Try.func18, Try.ntmps18
  go_wp2_with fail
  go_region_law (refine step_append_QS rfl (.tmp 8) (.tmp 10) 31 31 rfl 27 _ 4 32 Try.underlying31 info_pkt rfl _ n cs rfl hQ' _ 1 _ rfl hS h32 hbnd ?_; intro A c w1 hq1 hg1 hb1; have k3 := blk_cell (HB.out w1 hg1) 3; have f3 := blk_frozen (HB.out w1 hg1) 3)
  all_goals
    go_end0
    refine ⟨rfl, A, c, w1, rfl, hq1, ?_, ?_⟩
    · exact (((Keeps.alloc _ w _).trans (Keeps.alloc _ _ _)).trans (Keeps.drew _ _)).trans (Keeps.grown hg1 (fun k hk => hk))
    · rcases hb1 with h | ⟨b', h, h'⟩
      · exact .inl h
      · exact .inr ⟨b', h, by simp at h'; omega⟩

theorem reject_ok {S : Nat → Prop} {l g : List Pkt} (b : Nat) (x : Pkt) (lanes queue : Int) (w : World) (h : RefV w S 48 27 b lanes queue l g) (hn : g.length ≤ 1000000000) :
    Calls Try.prog 18 #[.pointer (some ⟨b, 0, none⟩), .agg #[.int .i64 x.src, .int .i64 x.dst, .int .i64 x.lane, .int .u32 x.body]] w fun e w' => e = .returned (.tuple #[]) ∧
      RefNow w w' S 48 27 b lanes queue l (g ++ [x]) := by
  obtain ⟨v, hb, hr⟩ := h
  refine (reject_low b x _ _ _ _ _ _ w hb (hr.rows 1 (by omega)) (hr.off 1 (by omega)) hn).mono ?_
  rintro e w' ⟨rfl, A, c, w1, rfl, hq, hk, ho⟩
  obtain ⟨r1, r2⟩ := RefV.put hb hr (i := 1) (by omega) (l' := g ++ [x]) (l2 := l) (g2 := g ++ [x]) (fun j hj => by
    match j, hj with
    | 0, _ => rfl
    | 1, _ => rfl) hk (by rw [pcells_snoc, List.length_append]; exact hq) ho
  exact ⟨rfl, _, r1, r2, fun k hk => hk.imp id And.left⟩

end Go.Proofs.Ytikoldphpehppaa
