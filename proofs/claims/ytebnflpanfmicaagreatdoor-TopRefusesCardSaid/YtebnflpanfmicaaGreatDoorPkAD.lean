/-
  Part 4 of the proof: HostRep, HostW1, HostW2, HostW3, HostW4.
-/
import Derived.Test.YtebnflpanfmicaaGreatDoorPkAA
import Derived.Test.YtebnflpanfmicaaGreatDoorProg
import Derived.BigQuiet
set_option linter.unusedVariables false
set_option linter.unusedSimpArgs false
set_option linter.unusedSectionVars false
namespace Go.Proofs.YtebnflpanfmicaaGreatDoor
open Go.RowKit
structure Pkt where
  src : Int
  dst : Int
  lane : Int
  body : Int
  deriving DecidableEq
abbrev Pkt.cells (p : Pkt) : List Value := [.int .i64 p.src, .int .i64 p.dst, .int .i64 p.lane, .int .u32 p.body]
def pcells (l : List Pkt) : List Value := l.flatMap Pkt.cells
theorem pcells_snoc (l : List Pkt) (x : Pkt) : pcells (l ++ [x]) = pcells l ++ x.cells := by simp [pcells]
theorem pcells_cons (x : Pkt) (l : List Pkt) : pcells (x :: l) = x.cells ++ pcells l := by simp [pcells]
theorem pcells_append (l m : List Pkt) : pcells (l ++ m) = pcells l ++ pcells m := by simp [pcells]
theorem pcells_drop (l : List Pkt) : ∀ k, (pcells l).drop (k * 4) = pcells (l.drop k) := by
  induction l with
  | nil => intro k; simp [pcells]
  | cons x l ih =>
    intro k
    match k with
    | 0 => simp
    | k + 1 => rw [pcells_cons, List.drop_succ_cons, ← ih k, show (k + 1) * 4 = 4 + k * 4 by omega, ← List.drop_drop]; rfl
theorem pcells_at (l : List Pkt) (j : Nat) (x : Pkt) (h : l[j]? = some x) (i : Nat) (u : Value) (hu : x.cells[i]? = some u) : (pcells l)[j * 4 + i]? = some u := by
  rw [← List.getElem?_drop, pcells_drop]
  have hj := (List.getElem?_eq_some_iff.1 h)
  obtain ⟨hlt, rfl⟩ := hj
  rw [List.drop_eq_getElem_cons hlt, pcells_cons, List.getElem?_append_left (List.getElem?_eq_some_iff.1 hu).1]
  exact hu
theorem pcells_one (l : List Pkt) : ∀ u ∈ pcells l, u.oneCell' = true := by
  intro u hu
  unfold pcells at hu
  obtain ⟨x, _, hx⟩ := List.mem_flatMap.1 hu
  simp at hx
  rcases hx with rfl | rfl | rfl | rfl <;> rfl
theorem src_pkt {P : Program} {W : World} {tx e' e : TypeId} (hk : P.underlying tx = some (.slice e')) {g c : Nat} (x : Pkt)
    (hg : W.heap[g]? = some (.cells #[.int .i64 x.src, .int .i64 x.dst, .int .i64 x.lane, .int .u32 x.body] e (0, 0))) : Src P 4 tx (.slice (some ⟨g, 0, none⟩) 1 c) 1 x.cells W :=
  src_blk hk hg rfl (by intro j hj; match j, hj with | 0, _ => rfl | 1, _ => rfl | 2, _ => rfl | 3, _ => rfl) (by intro u hu; simp at hu; rcases hu with rfl | rfl | rfl | rfl <;> rfl)
structure RowsOf (w : World) (S : Nat → Prop) (b e N : Nat) (v : Nat → Value) (q : Nat → List Pkt) : Prop where
  rows : ∀ i, i < N → QS w e 4 (v i) (q i).length (pcells (q i))
  self : S b
  off : ∀ i, i < N → (v i).ownBlock ≠ some b
  apart : ∀ i j, i < N → j < N → i ≠ j → ∀ k, (v i).ownBlock = some k → (v j).ownBlock ≠ some k
  own : ∀ i, i < N → ∀ k, (v i).ownBlock = some k → S k
  lt : ∀ k, S k → k < w.heap.size
theorem RowsOf.keeps {w w' : World} {S F : Nat → Prop} {b e N : Nat} {v : Nat → Value} {q : Nat → List Pkt} (h : RowsOf w S b e N v q) (hk : Keeps F w w') (hF : ∀ k, S k → ¬ F k) : RowsOf w' S b e N v q :=
  ⟨fun i hi => (h.rows i hi).keeps hk (fun k hk' => hF k (h.own i hi k hk')), h.self, h.off, h.apart, h.own, fun k hk' => Nat.lt_of_lt_of_le (h.lt k hk') hk.size⟩
def setAt {α : Type} (f : Nat → α) (i : Nat) (x : α) : Nat → α := fun j => if j = i then x else f j
theorem setAt_same {α : Type} (f : Nat → α) (i : Nat) (x : α) : setAt f i x i = x := by simp [setAt]
theorem setAt_other {α : Type} (f : Nat → α) (i j : Nat) (x : α) (h : j ≠ i) : setAt f i x j = f j := by simp [setAt, h]
theorem RowsOf.put {w w1 : World} {S : Nat → Prop} {b e N : Nat} {v : Nat → Value} {q : Nat → List Pkt} (h : RowsOf w S b e N v q) {i o : Nat} (hi : i < N) {v' : Value} {l' : List Pkt}
    (hk : Keeps (fun k => (v i).ownBlock = some k) w w1) (hq : QS w1 e 4 v' l'.length (pcells l')) (ho : v'.ownBlock = (v i).ownBlock ∨ ∃ g, v'.ownBlock = some g ∧ w.heap.size ≤ g) :
    RowsOf (w1.setCell ⟨b, o, none⟩ v') (fun k => S k ∨ (w.heap.size ≤ k ∧ k < w1.heap.size)) b e N (setAt v i v') (setAt q i l') ∧ Keeps S w (w1.setCell ⟨b, o, none⟩ v') := by
  have hb := h.lt b h.self
  have hnb : v'.ownBlock ≠ some b := by
    rcases ho with ho | ⟨g, hg, hge⟩
    · rw [ho]; exact h.off i hi
    · rw [hg]; intro e; injection e with e; omega
  have hsz : (w1.setCell ⟨b, o, none⟩ v').heap.size = w1.heap.size := by simp [World.setCell]
  refine ⟨⟨fun j hj => ?_, .inl h.self, fun j hj => ?_, fun j k hj hk' hne g hg => ?_, fun j hj k hk' => ?_, fun k hk' => ?_⟩, ?_⟩
  · by_cases e : j = i
    · subst e
      rw [setAt_same, setAt_same]
      exact hq.other _ _ (fun k hk' e' => hnb (by rw [hk', e']))
    · rw [setAt_other _ _ _ _ e, setAt_other _ _ _ _ e]
      exact ((h.rows j hj).keeps hk (fun k hk' e' => h.apart j i hj hi e k hk' e')).other _ _ (fun k hk' e' => h.off j hj (by rw [hk', e']))
  · by_cases e : j = i
    · subst e; rw [setAt_same]; exact hnb
    · rw [setAt_other _ _ _ _ e]; exact h.off j hj
  · by_cases e : j = i
    · subst e
      rw [setAt_same] at hg
      rw [setAt_other _ _ _ _ (Ne.symm hne)]
      rcases ho with ho | ⟨g', hg', hge⟩
      · exact h.apart j k hj hk' hne g (ho ▸ hg)
      · intro e'
        rw [hg'] at hg; injection hg with hg; subst hg
        have := h.lt _ (h.own k hk' _ e'); omega
    · rw [setAt_other _ _ _ _ e] at hg
      by_cases e2 : k = i
      · subst e2
        rw [setAt_same]
        rcases ho with ho | ⟨g', hg', hge⟩
        · rw [ho]; exact h.apart j k hj hk' hne g hg
        · intro e'
          rw [hg'] at e'; injection e' with e'; subst e'
          have := h.lt _ (h.own j hj _ hg); omega
      · rw [setAt_other _ _ _ _ e2]; exact h.apart j k hj hk' hne g hg
  · by_cases e : j = i
    · subst e
      rw [setAt_same] at hk'
      rcases ho with ho | ⟨g', hg', hge⟩
      · exact .inl (h.own j hj k (ho ▸ hk'))
      · rw [hg'] at hk'; injection hk' with hk'; subst hk'
        exact .inr ⟨hge, hq.lt _ hg'⟩
    · rw [setAt_other _ _ _ _ e] at hk'
      exact .inl (h.own j hj k hk')
  · rw [hsz]
    rcases hk' with hk' | hk'
    · have := h.lt k hk'; have := hk.size; omega
    · exact hk'.2
  · exact (hk.mono (fun k _ hk' => h.own i hi k hk')).trans (Keeps.setCell _ _ _ _ h.self)
def HostV (w : World) (S : Nat → Prop) (T E b : Nat) (lanes queue : Int) (q : Nat → List Pkt) : Prop :=
  ∃ v : Nat → Value, w.heap[b]? = some (.cells #[v 0, v 1, v 2, v 3, .int .i64 lanes, .int .i64 queue] T (0, 0)) ∧ RowsOf w S b E 4 v q
theorem HostV.keeps {w w' : World} {S F : Nat → Prop} {T E b : Nat} {lanes queue : Int} {q : Nat → List Pkt} (h : HostV w S T E b lanes queue q) (hk : Keeps F w w') (hF : ∀ k, S k → ¬ F k) : HostV w' S T E b lanes queue q := by
  obtain ⟨v, hb, hr⟩ := h
  exact ⟨v, blk_keeps hk hb (hF b hr.self), hr.keeps hk hF⟩
theorem HostV.put {w w1 : World} {S : Nat → Prop} {T E b : Nat} {lanes queue : Int} {v : Nat → Value} {q : Nat → List Pkt} (hb : w.heap[b]? = some (.cells #[v 0, v 1, v 2, v 3, .int .i64 lanes, .int .i64 queue] T (0, 0))) (h : RowsOf w S b E 4 v q)
    {i : Nat} (hi : i < 4) {v' : Value} {l' : List Pkt}
    (hk : Keeps (fun k => (v i).ownBlock = some k) w w1) (hq : QS w1 E 4 v' l'.length (pcells l')) (ho : v'.ownBlock = (v i).ownBlock ∨ ∃ g, v'.ownBlock = some g ∧ w.heap.size ≤ g) :
    HostV (w1.setCell ⟨b, i, none⟩ v') (fun k => S k ∨ (w.heap.size ≤ k ∧ k < w1.heap.size)) T E b lanes queue (setAt q i l') ∧ Keeps S w (w1.setCell ⟨b, i, none⟩ v') := by
  obtain ⟨r1, r2⟩ := h.put (o := i) hi hk hq ho
  refine ⟨⟨_, ?_, r1⟩, r2⟩
  rw [blk_set (blk_keeps hk hb (fun e => h.off i hi e)) i v']
  match i, hi with
  | 0, _ => rfl
  | 1, _ => rfl
  | 2, _ => rfl
  | 3, _ => rfl
end Go.Proofs.YtebnflpanfmicaaGreatDoor
namespace Go.Proofs.YtebnflpanfmicaaGreatDoor
open Go.RowKit
theorem info_pkt : (Tryz.prog.info? 31).map (fun i => (i.zero, i.size, i.bytes)) = some (some (.agg #[.int .i64 0, .int .i64 0, .int .i64 0, .int .u32 0]), 4, 32) := by kernel_rfl
abbrev hostCells (lanes queue : Int) : Array Value := #[.slice none 0 0, .slice none 0 0, .slice none 0 0, .slice none 0 0, .int .i64 lanes, .int .i64 queue]
set_option maxHeartbeats 400000 in
theorem hnew_ok (lanes queue : Int) (w : World) (h1 : 1 ≤ lanes) (h2 : lanes ≤ 3) (h3 : 1 ≤ queue) (h4 : queue ≤ 8) :
    Calls Tryz.prog 80 #[.int .i64 lanes, .int .i64 queue] w fun e w' => e = .returned (.pointer (some ⟨w.heap.size, 0, none⟩)) ∧ w' = w.alloc (.cells (hostCells lanes queue) 200) := by
  go_enter Tryz.func80, Tryz.ntmps80
  go_wp2
  go_ret
  exact ⟨rfl, rfl⟩
theorem HostV.new (w : World) (lanes queue : Int) (T E : Nat) : HostV (w.alloc (.cells (hostCells lanes queue) T)) (fun k => k = w.heap.size) T E w.heap.size lanes queue (fun _ => []) :=
  ⟨fun _ => .slice none 0 0, blk_new w _, ⟨fun _ _ => QS.nil _ _ _, rfl, fun _ _ h => (by cases h), fun _ _ _ _ _ _ h => (by cases h), fun _ _ _ h => (by cases h), fun k (hk : k = w.heap.size) => (by rw [hk]; simp)⟩⟩
set_option maxHeartbeats 400000 in
theorem right_yes (b : Nat) (l n : Int) (w : World) (hc : w.cell? ⟨b, 4, none⟩ = some (.int .i64 n)) (h0 : 0 ≤ l) (h1 : l < n) :
    Calls Tryz.prog 132 #[.pointer (some ⟨b, 0, none⟩), .int .i64 l] w fun e w' => e = .returned (.bool true) ∧ w = w' := by
  go_enter Tryz.func132, Tryz.ntmps132
  go_wp2
  go_ret
  exact ⟨rfl, rfl⟩
set_option maxHeartbeats 400000 in
theorem right_no (b : Nat) (l n : Int) (w : World) (hc : w.cell? ⟨b, 4, none⟩ = some (.int .i64 n)) (h : l < 0 ∨ (0 ≤ l ∧ n ≤ l)) :
    Calls Tryz.prog 132 #[.pointer (some ⟨b, 0, none⟩), .int .i64 l] w fun e w' => e = .returned (.bool false) ∧ w = w' := by
  rcases h with h0 | ⟨h0, h1⟩
  · go_enter Tryz.func132, Tryz.ntmps132
    go_wp2
    go_ret
    exact ⟨rfl, rfl⟩
  · go_enter Tryz.func132, Tryz.ntmps132
    go_wp2
    go_ret
    exact ⟨by simp; omega, rfl⟩
set_option maxHeartbeats 400000 in
theorem waits_low (b l : Nat) (n : Int) (A : Option Addr) (len cap : Nat) (w : World) (hc : w.cell? ⟨b, 4, none⟩ = some (.int .i64 n)) (h1 : (l : Int) < n) (hn : l < 3)
    (hs : w.cell? ⟨b, l, none⟩ = some (.slice A len cap)) :
    Calls Tryz.prog 67 #[.pointer (some ⟨b, 0, none⟩), .int .i64 l] w fun e w' => e = .returned (.int .i64 len) ∧ w = w' := by
  go_enter Tryz.func67, Tryz.ntmps67
  go_wp2_with (go_at_call 132; refine (right_yes _ _ _ _ hc (by omega) h1).mono ?_; rintro e w' ⟨rfl, rfl⟩)
  go_ret
  exact ⟨rfl, rfl⟩
set_option maxHeartbeats 400000 in
theorem waits_no (b : Nat) (l n : Int) (w : World) (hc : w.cell? ⟨b, 4, none⟩ = some (.int .i64 n)) (h : l < 0 ∨ (0 ≤ l ∧ n ≤ l)) :
    Calls Tryz.prog 67 #[.pointer (some ⟨b, 0, none⟩), .int .i64 l] w fun e w' => e = .returned (.int .i64 0) ∧ w = w' := by
  have h' := Lib.hid h
  clear h
  go_enter Tryz.func67, Tryz.ntmps67
  go_wp2_with (go_at_call 132; refine (right_no _ _ _ _ hc h'.out).mono ?_; rintro e w' ⟨rfl, rfl⟩)
  go_ret
  exact ⟨rfl, rfl⟩
theorem HostV.cell {w : World} {S : Nat → Prop} {T E b : Nat} {lanes queue : Int} {q : Nat → List Pkt} (h : HostV w S T E b lanes queue q) (i : Nat) (hi : i < 4) :
    ∃ A cap, w.cell? ⟨b, i, none⟩ = some (.slice A (q i).length cap) := by
  obtain ⟨v, hb, hr⟩ := h
  obtain ⟨A, cap, e, _⟩ := (hr.rows i hi).shape
  refine ⟨A, cap, ?_⟩
  rw [blk_cell hb, ← e]
  match i, hi with
  | 0, _ => rfl
  | 1, _ => rfl
  | 2, _ => rfl
  | 3, _ => rfl
theorem HostV.lanes {w : World} {S : Nat → Prop} {T E b : Nat} {lanes queue : Int} {q : Nat → List Pkt} (h : HostV w S T E b lanes queue q) : w.cell? ⟨b, 4, none⟩ = some (.int .i64 lanes) := by
  obtain ⟨v, hb, hr⟩ := h; rw [blk_cell hb]; rfl
theorem HostV.queue {w : World} {S : Nat → Prop} {T E b : Nat} {lanes queue : Int} {q : Nat → List Pkt} (h : HostV w S T E b lanes queue q) : w.cell? ⟨b, 5, none⟩ = some (.int .i64 queue) := by
  obtain ⟨v, hb, hr⟩ := h; rw [blk_cell hb]; rfl
theorem waits_ok {S : Nat → Prop} {T E : Nat} {q : Nat → List Pkt} (b : Nat) (l lanes queue : Int) (w : World) (h : HostV w S T E b lanes queue q) (h0 : 0 ≤ l) (h1 : l < lanes) (h3 : lanes ≤ 3) :
    Calls Tryz.prog 67 #[.pointer (some ⟨b, 0, none⟩), .int .i64 l] w fun e w' => e = .returned (.int .i64 (q l.toNat).length) ∧ w = w' := by
  obtain ⟨l, rfl⟩ := Int.eq_ofNat_of_zero_le h0
  obtain ⟨A, cap, hc⟩ := h.cell l (by omega)
  exact waits_low b l lanes A _ cap w h.lanes h1 (by omega) hc
set_option maxHeartbeats 400000 in
theorem eject_low (b : Nat) (x : Pkt) (v0 v1 v2 v3 v4 v5 : Value) (n : Nat) (cs : List Value) (w : World) (hb : w.heap[b]? = some (.cells #[v0, v1, v2, v3, v4, v5] 200 (0, 0)))
    (hQ : QS w 31 4 v3 n cs) (hd : v3.ownBlock ≠ some b) (hn : n ≤ 1000000000) :
    Calls Tryz.prog 184 #[.pointer (some ⟨b, 0, none⟩), .agg #[.int .i64 x.src, .int .i64 x.dst, .int .i64 x.lane, .int .u32 x.body]] w fun e w' => e = .returned (.tuple #[]) ∧
      ∃ A c w1, w' = w1.setCell ⟨b, 3, none⟩ (.slice A (n + 1) c) ∧ QS w1 31 4 (.slice A (n + 1) c) (n + 1) (cs ++ x.cells) ∧
        Keeps (fun k => v3.ownBlock = some k) w w1 ∧ ((Value.slice A (n + 1) c).ownBlock = v3.ownBlock ∨ ∃ b, (Value.slice A (n + 1) c).ownBlock = some b ∧ w.heap.size ≤ b) := by
  obtain ⟨A0, c0, rfl, hnc, hcm⟩ := hQ.shape
  have hlt := blk_lt hb
  have hc3 : w.cell? ⟨b, 3, none⟩ = some (.slice A0 n c0) := by rw [blk_cell hb]; rfl
  have hf3 : w.frozen? ⟨b, 3, none⟩ = false := blk_frozen hb 3
  obtain ⟨O, hO⟩ : ∃ O : Obj, O = .cells #[.int .i64 x.src, .int .i64 x.dst, .int .i64 x.lane, .int .u32 x.body] 31 := ⟨_, rfl⟩
  have hQ' := ((hQ.alloc O).alloc O).drew
  have hS : Src Tryz.prog 4 40 (.slice (some ⟨w.heap.size + 1, 0, none⟩) 1 1) 1 x.cells (((w.alloc O).alloc O).drew) :=
    src_pkt Tryz.underlying40 x (by rw [hO]; have := blk_new (w.alloc O) O; rw [World.size_alloc, hO] at this; exact this)
  have hbnd : (n + 1) * 32 ≤ 140737488355328 := by omega
  have h32 : 0 < 32 := by decide
  have HB := Lib.hid (p := ∀ w1, World.grownBy ((w.alloc O).alloc O).drew w1 (Value.slice A0 n c0).ownBlock → w1.heap[b]? = some (.cells #[v0, v1, v2, .slice A0 n c0, v4, v5] 200 (0, 0)))
    (fun w1 hg => (hg.block b (by simp; omega) (fun e => hd e.symm)).trans (blk_alloc (blk_alloc hb _) _))
  subst hO
  go_enter Tryz.func184, Tryz.ntmps184
  go_wp2_with fail
  go_region_law (refine step_append_QS rfl (.tmp 8) (.tmp 10) 40 40 rfl 31 _ 4 32 Tryz.underlying40 info_pkt rfl _ n cs rfl hQ' _ 1 _ rfl hS h32 hbnd ?_; intro A c w1 hq1 hg1 hb1; have k3 := blk_cell (HB.out w1 hg1) 3; have f3 := blk_frozen (HB.out w1 hg1) 3)
  all_goals
    go_end0
    refine ⟨rfl, A, c, w1, rfl, hq1, ?_, ?_⟩
    · exact (((Keeps.alloc _ w _).trans (Keeps.alloc _ _ _)).trans (Keeps.drew _ _)).trans (Keeps.grown hg1 (fun k hk => hk))
    · rcases hb1 with h | ⟨b', h, h'⟩
      · exact .inl h
      · exact .inr ⟨b', h, by simp at h'; omega⟩
def HostNow (w w' : World) (S : Nat → Prop) (T E b : Nat) (lanes queue : Int) (q : Nat → List Pkt) : Prop :=
  ∃ S' : Nat → Prop, HostV w' S' T E b lanes queue q ∧ Keeps S w w' ∧ ∀ k, S' k → S k ∨ w.heap.size ≤ k
theorem eject_ok {S : Nat → Prop} {q : Nat → List Pkt} (b : Nat) (x : Pkt) (lanes queue : Int) (w : World) (h : HostV w S 200 31 b lanes queue q) (hn : (q 3).length ≤ 1000000000) :
    Calls Tryz.prog 184 #[.pointer (some ⟨b, 0, none⟩), .agg #[.int .i64 x.src, .int .i64 x.dst, .int .i64 x.lane, .int .u32 x.body]] w fun e w' => e = .returned (.tuple #[]) ∧
      HostNow w w' S 200 31 b lanes queue (setAt q 3 (q 3 ++ [x])) := by
  obtain ⟨v, hb, hr⟩ := h
  refine (eject_low b x _ _ _ _ _ _ _ _ w hb (hr.rows 3 (by omega)) (hr.off 3 (by omega)) hn).mono ?_
  rintro e w' ⟨rfl, A, c, w1, rfl, hq, hk, ho⟩
  obtain ⟨r1, r2⟩ := HostV.put hb hr (i := 3) (by omega) hk (l' := q 3 ++ [x]) (by rw [pcells_snoc, List.length_append]; exact hq) ho
  exact ⟨rfl, _, r1, r2, fun k hk => hk.imp id And.left⟩
end Go.Proofs.YtebnflpanfmicaaGreatDoor
namespace Go.Proofs.YtebnflpanfmicaaGreatDoor
open Go.RowKit
set_option maxHeartbeats 400000 in
theorem put_arg (b : Nat) (x : Pkt) (n : Int) (w : World) (hb : b < w.heap.size) (hc : w.cell? ⟨b, 4, none⟩ = some (.int .i64 n)) (h : x.lane < 0 ∨ (0 ≤ x.lane ∧ n ≤ x.lane)) :
    Calls Tryz.prog 71 #[.pointer (some ⟨b, 0, none⟩), .agg #[.int .i64 x.src, .int .i64 x.dst, .int .i64 x.lane, .int .u32 x.body]] w fun e w' => e = .returned (.int .u16 1) ∧ Keeps (fun _ => False) w w' := by
  have h' := Lib.hid h
  clear h
  have hc' : (w.alloc (.cells #[.int .i64 x.src, .int .i64 x.dst, .int .i64 x.lane, .int .u32 x.body] 31)).cell? ⟨b, 4, none⟩ = some (.int .i64 n) := (World.cell?_of_block (Below.heap_alloc w _ b hb)).trans hc
  go_enter Tryz.func71, Tryz.ntmps71
  go_wp2_with (go_at_call 132; refine (right_no _ _ _ _ hc' h'.out).mono ?_; rintro e w' ⟨rfl, rfl⟩)
  go_ret
  exact ⟨rfl, Keeps.alloc _ _ _⟩
set_option maxHeartbeats 400000 in
theorem put_back (b l : Nat) (s d q : Int) (n k : Int) (A : Option Addr) (len cap : Nat) (w : World) (hb : b < w.heap.size) (hc : w.cell? ⟨b, 4, none⟩ = some (.int .i64 n)) (hc5 : w.cell? ⟨b, 5, none⟩ = some (.int .i64 k)) (hl : (l : Int) < n) (hl3 : l < 3)
    (hs : w.cell? ⟨b, l, none⟩ = some (.slice A len cap)) (hk : ((len : Int) == k) = true) :
    Calls Tryz.prog 71 #[.pointer (some ⟨b, 0, none⟩), .agg #[.int .i64 s, .int .i64 d, .int .i64 l, .int .u32 q]] w fun e w' => e = .returned (.int .u16 150) ∧ Keeps (fun _ => False) w w' := by
  have hc' : (w.alloc (.cells #[.int .i64 s, .int .i64 d, .int .i64 l, .int .u32 q] 31)).cell? ⟨b, 4, none⟩ = some (.int .i64 n) := (World.cell?_of_block (Below.heap_alloc w _ b hb)).trans hc
  go_enter Tryz.func71, Tryz.ntmps71
  go_wp2_with (go_at_call 132; refine (right_yes _ _ _ _ hc' (by omega) hl).mono ?_; rintro e w' ⟨rfl, rfl⟩)
  go_quiet (fail)
  go_wp2
  go_ret
  exact ⟨rfl, (Keeps.alloc _ _ _).trans (Keeps.drewN _ _ _)⟩
set_option maxHeartbeats 1000000 in
theorem put_low (b l : Nat) (x : Pkt) (hxl : x.lane = l) (n k : Int) (v : Nat → Value) (m : Nat) (cs : List Value) (w : World) (hb : w.heap[b]? = some (.cells #[v 0, v 1, v 2, v 3, .int .i64 n, .int .i64 k] 200 (0, 0))) (hl : (l : Int) < n) (hl3 : l < 3)
    (hQ : QS w 31 4 (v l) m cs) (hd : (v l).ownBlock ≠ some b) (hn : m ≤ 1000000000) (hk : ((m : Int) == k) = false) :
    Calls Tryz.prog 71 #[.pointer (some ⟨b, 0, none⟩), .agg #[.int .i64 x.src, .int .i64 x.dst, .int .i64 x.lane, .int .u32 x.body]] w fun e w' => e = .returned (.int .u16 0) ∧
      ∃ A c w1, w' = w1.setCell ⟨b, l, none⟩ (.slice A (m + 1) c) ∧ QS w1 31 4 (.slice A (m + 1) c) (m + 1) (cs ++ x.cells) ∧
        Keeps (fun k => (v l).ownBlock = some k) w w1 ∧ ((Value.slice A (m + 1) c).ownBlock = (v l).ownBlock ∨ ∃ b, (Value.slice A (m + 1) c).ownBlock = some b ∧ w.heap.size ≤ b) := by
  obtain ⟨s, d, lane, q⟩ := x
  obtain rfl : lane = l := hxl
  obtain ⟨A0, c0, hv, hnc, hcm⟩ := hQ.shape
  have hlt := blk_lt hb
  have hcl : w.cell? ⟨b, l, none⟩ = some (.slice A0 m c0) := by
    rw [blk_cell hb, ← hv]
    match l, hl3 with
    | 0, _ => rfl
    | 1, _ => rfl
    | 2, _ => rfl
  have hc4 : w.cell? ⟨b, 4, none⟩ = some (.int .i64 n) := by rw [blk_cell hb]; rfl
  have hc5 : w.cell? ⟨b, 5, none⟩ = some (.int .i64 k) := by rw [blk_cell hb]; rfl
  rw [hv] at hQ hd ⊢
  clear hv
  obtain ⟨O, hO⟩ : ∃ O : Obj, O = .cells #[.int .i64 s, .int .i64 d, .int .i64 l, .int .u32 q] 31 := ⟨_, rfl⟩
  have hc' : (w.alloc O).cell? ⟨b, 4, none⟩ = some (.int .i64 n) := (World.cell?_of_block (Below.heap_alloc w _ b hlt)).trans hc4
  subst hO
  go_enter Tryz.func71, Tryz.ntmps71
  go_wp2_with (go_at_call 132; refine (right_yes _ _ _ _ hc' (by omega) hl).mono ?_; rintro e w' ⟨rfl, rfl⟩)
  go_quiet (fail)
  go_wp2
  obtain ⟨W, hW⟩ : ∃ W, (w.alloc (.cells #[.int .i64 s, .int .i64 d, .int .i64 l, .int .u32 q] 31)).drewN nq = W := ⟨_, rfl⟩
  have hKW : Keeps (fun _ => False) w W := by rw [← hW]; exact (Keeps.alloc _ _ _).trans (Keeps.drewN _ _ _)
  have hnew : W.heap[w.heap.size]? = some (.cells #[.int .i64 s, .int .i64 d, .int .i64 l, .int .u32 q] 31 (0, 0)) := by rw [← hW]; exact blk_new w _
  have hsz : w.heap.size < W.heap.size := blk_lt hnew
  have hbW := blk_keeps hKW hb (fun h => h)
  have hQW := hQ.keeps hKW (fun _ _ h => h)
  have x0 := blk_cell hnew 0
  have x1 := blk_cell hnew 1
  have x2 := blk_cell hnew 2
  have x3 := blk_cell hnew 3
  have hclW : W.cell? ⟨b, l, none⟩ = some (.slice A0 m c0) := hKW.cell hcl (fun h => h)
  have hQ' := (hQW.alloc (.cells #[.int .i64 s, .int .i64 d, .int .i64 l, .int .u32 q] 31)).drew
  have hS : Src Tryz.prog 4 40 (.slice (some ⟨W.heap.size, 0, none⟩) 1 1) 1 [.int .i64 s, .int .i64 d, .int .i64 l, .int .u32 q] ((W.alloc (.cells #[.int .i64 s, .int .i64 d, .int .i64 l, .int .u32 q] 31)).drew) :=
    src_pkt Tryz.underlying40 ⟨s, d, l, q⟩ (blk_new W _)
  have hbnd : (m + 1) * 32 ≤ 140737488355328 := by omega
  have h32 : 0 < 32 := by decide
  have HB := Lib.hid (p := ∀ w1, World.grownBy (W.alloc (.cells #[.int .i64 s, .int .i64 d, .int .i64 l, .int .u32 q] 31)).drew w1 (Value.slice A0 m c0).ownBlock → w1.cell? ⟨b, l, none⟩ = some (.slice A0 m c0) ∧ w1.frozen? ⟨b, l, none⟩ = false ∧ w1.cell? ⟨w.heap.size, 2, none⟩ = some (.int .i64 l))
    (fun w1 hg => by
      have hb1 := (hg.block b (by simp; omega) (fun e => hd e.symm)).trans (blk_alloc hbW _)
      have hn1 := (hg.block w.heap.size (by simp; omega) (fun e => by have := hQ.lt _ e.symm; omega)).trans (blk_alloc hnew _)
      exact ⟨(World.cell?_of_block (a := ⟨b, l, none⟩) (hb1.trans hbW.symm)).trans hclW, blk_frozen hb1 l, blk_cell hn1 2⟩)
  rw [hW]
  clear hW hbW hb hcl hc4 hc5 hc' hQ hQW hnew
  simp only [List.getElem?_toArray] at x0 x1 x2 x3
  have hl3' : (l : Int) < 3 := by omega
  have hbsz : b < W.heap.size := by omega
  go_region_law (refine step_append_QS rfl (.tmp 34) (.tmp 36) 40 40 rfl 31 _ 4 32 Tryz.underlying40 info_pkt rfl _ m cs rfl hQ' _ 1 _ rfl hS h32 hbnd ?_; intro A c w1 hq1 hg1 hb1; obtain ⟨k3, f3, g3⟩ := HB.out w1 hg1)
  all_goals
    go_wp2
    go_ret
    refine ⟨rfl, A, c, w1, rfl, hq1, ?_, ?_⟩
    · exact (hKW.mono (fun _ _ h => h.elim)).trans (((Keeps.alloc _ W _).trans (Keeps.drew _ _)).trans (Keeps.grown hg1 (fun k hk => hk)))
    · rcases hb1 with h | ⟨b', h, h'⟩
      · exact .inl h
      · exact .inr ⟨b', h, by simp at h'; omega⟩
theorem put_ok {S : Nat → Prop} {q : Nat → List Pkt} (b : Nat) (x : Pkt) (lanes queue : Int) (w : World) (h : HostV w S 200 31 b lanes queue q) (h3 : lanes ≤ 3) (h8 : queue ≤ 8) (h0 : 0 ≤ x.lane) (h1 : x.lane < lanes)
    (hn : ((q x.lane.toNat).length : Int) < queue) :
    Calls Tryz.prog 71 #[.pointer (some ⟨b, 0, none⟩), .agg #[.int .i64 x.src, .int .i64 x.dst, .int .i64 x.lane, .int .u32 x.body]] w fun e w' => e = .returned (.int .u16 0) ∧
      HostNow w w' S 200 31 b lanes queue (setAt q x.lane.toNat (q x.lane.toNat ++ [x])) := by
  obtain ⟨v, hb, hr⟩ := h
  have hl : x.lane = (x.lane.toNat : Int) := (Int.toNat_of_nonneg h0).symm
  have hl3 : x.lane.toNat < 3 := by omega
  refine (put_low b x.lane.toNat x hl lanes queue v _ _ w hb (by omega) hl3 (hr.rows _ (by omega)) (hr.off _ (by omega)) (by omega) (beq_eq_false_iff_ne.2 (by omega))).mono ?_
  rintro e w' ⟨rfl, A, c, w1, rfl, hq, hk, ho⟩
  obtain ⟨r1, r2⟩ := HostV.put hb hr (i := x.lane.toNat) (by omega) hk (l' := q x.lane.toNat ++ [x]) (by rw [pcells_snoc, List.length_append]; exact hq) ho
  exact ⟨rfl, _, r1, r2, fun k hk => hk.imp id And.left⟩
theorem put_full {S : Nat → Prop} {q : Nat → List Pkt} (b : Nat) (x : Pkt) (lanes queue : Int) (w : World) (h : HostV w S 200 31 b lanes queue q) (h3 : lanes ≤ 3) (h0 : 0 ≤ x.lane) (h1 : x.lane < lanes)
    (hn : ((q x.lane.toNat).length : Int) = queue) :
    Calls Tryz.prog 71 #[.pointer (some ⟨b, 0, none⟩), .agg #[.int .i64 x.src, .int .i64 x.dst, .int .i64 x.lane, .int .u32 x.body]] w fun e w' => e = .returned (.int .u16 150) ∧ Keeps (fun _ => False) w w' := by
  obtain ⟨A, cap, hc⟩ := h.cell x.lane.toNat (by omega)
  have := put_back b x.lane.toNat x.src x.dst x.body lanes queue A _ cap w (by obtain ⟨v, hb, _⟩ := h; exact blk_lt hb) h.lanes h.queue (by omega) (by omega) hc (beq_iff_eq.2 hn)
  rwa [Int.toNat_of_nonneg h0] at this
theorem put_bad {S : Nat → Prop} {q : Nat → List Pkt} (b : Nat) (x : Pkt) (lanes queue : Int) (w : World) (h : HostV w S 200 31 b lanes queue q) (hl : x.lane < 0 ∨ (0 ≤ x.lane ∧ lanes ≤ x.lane)) :
    Calls Tryz.prog 71 #[.pointer (some ⟨b, 0, none⟩), .agg #[.int .i64 x.src, .int .i64 x.dst, .int .i64 x.lane, .int .u32 x.body]] w fun e w' => e = .returned (.int .u16 1) ∧ Keeps (fun _ => False) w w' :=
  put_arg b x lanes w (by obtain ⟨v, hb, _⟩ := h; exact blk_lt hb) h.lanes hl
end Go.Proofs.YtebnflpanfmicaaGreatDoor
namespace Go.Proofs.YtebnflpanfmicaaGreatDoor
open Go.RowKit
set_option maxHeartbeats 400000 in
theorem next_none (b : Nat) (l : Int) (w : World) (hw : ∀ W : World, Keeps (fun _ => False) w W → Calls Tryz.prog 67 #[.pointer (some ⟨b, 0, none⟩), .int .i64 l] W fun e w' => e = .returned (.int .i64 0) ∧ W = w') :
    Calls Tryz.prog 175 #[.pointer (some ⟨b, 0, none⟩), .int .i64 l] w fun e w' => e = .returned (.tuple #[.agg #[.int .i64 0, .int .i64 0, .int .i64 0, .int .u32 0], .bool false]) ∧ Keeps (fun _ => False) w w' := by
  have hw' := Lib.hid hw
  clear hw
  go_enter Tryz.func175, Tryz.ntmps175
  go_wp2_with (go_at_call 67; refine (hw'.out _ (Keeps.alloc _ _ _)).mono ?_; rintro e w' ⟨rfl, rfl⟩)
  exact bodyPost_ret (v := .tuple #[.agg #[.int .i64 0, .int .i64 0, .int .i64 0, .int .u32 0], .bool false]) (by simp [results, Tryz.results175, go_sem]) rfl ⟨rfl, Keeps.alloc _ _ _⟩
set_option maxHeartbeats 400000 in
theorem next_low (b l g off m cap : Nat) (x0 x1 x2 x3 : Int) (w : World) (hb : b < w.heap.size) (hl3 : l < 3)
    (hl : w.cell? ⟨b, l, none⟩ = some (.slice (some ⟨g, off, none⟩) (m + 1) (cap + 1))) (hf : w.frozen? ⟨b, l, none⟩ = false) (hg : g < w.heap.size)
    (c0 : w.cell? ⟨g, off, none⟩ = some (.int .i64 x0)) (c1 : w.cell? ⟨g, off + 1, none⟩ = some (.int .i64 x1)) (c2 : w.cell? ⟨g, off + 2, none⟩ = some (.int .i64 x2)) (c3 : w.cell? ⟨g, off + 3, none⟩ = some (.int .u32 x3))
    (hw : ∀ W : World, Keeps (fun _ => False) w W → Calls Tryz.prog 67 #[.pointer (some ⟨b, 0, none⟩), .int .i64 l] W fun e w' => e = .returned (.int .i64 ((m : Int) + 1)) ∧ W = w') :
    Calls Tryz.prog 175 #[.pointer (some ⟨b, 0, none⟩), .int .i64 l] w fun e w' => e = .returned (.tuple #[.agg #[.int .i64 x0, .int .i64 x1, .int .i64 x2, .int .u32 x3], .bool true]) ∧
      Keeps (fun _ => False) (w.setCell ⟨b, l, none⟩ (.slice (some ⟨g, if cap = 0 then off else off + 4, none⟩) m cap)) w' := by
  have hw' := Lib.hid hw
  clear hw
  have hl3' : (l : Int) < 3 := by omega
  have hm0 : ((m : Int) + 1 == 0) = false := beq_eq_false_iff_ne.2 (by omega)
  have hm1 : (0 : Int) < (m : Int) + 1 := by omega
  go_enter Tryz.func175, Tryz.ntmps175
  go_wp2_with (go_at_call 67; refine (hw'.out _ (Keeps.alloc _ _ _)).mono ?_; rintro e w' ⟨rfl, rfl⟩)
  go_region
  all_goals go_wp2
  all_goals
    exact bodyPost_ret (v := .tuple #[.agg #[.int .i64 x0, .int .i64 x1, .int .i64 x2, .int .u32 x3], .bool true]) (by simp [results, Tryz.results175, go_sem]) rfl
      ⟨rfl, ((Keeps.alloc _ _ _).trans (Keeps.alloc _ _ _)).trans (Keeps.drew _ _)⟩
theorem HostV.blk {w : World} {S : Nat → Prop} {T E b : Nat} {lanes queue : Int} {q : Nat → List Pkt} (h : HostV w S T E b lanes queue q) : b < w.heap.size := by
  obtain ⟨v, hb, _⟩ := h; exact blk_lt hb
theorem next_empty {S : Nat → Prop} {T E : Nat} {q : Nat → List Pkt} (b : Nat) (l lanes queue : Int) (w : World) (h : HostV w S T E b lanes queue q) (h3 : lanes ≤ 3) (hl : l < 0 ∨ (0 ≤ l ∧ lanes ≤ l) ∨ (0 ≤ l ∧ l < lanes ∧ q l.toNat = [])) :
    Calls Tryz.prog 175 #[.pointer (some ⟨b, 0, none⟩), .int .i64 l] w fun e w' => e = .returned (.tuple #[.agg #[.int .i64 0, .int .i64 0, .int .i64 0, .int .u32 0], .bool false]) ∧ Keeps (fun _ => False) w w' := by
  refine next_none b l w fun W hk => ?_
  have h' := h.keeps hk (fun _ _ h => h)
  rcases hl with hl | hl | ⟨h0, h1, he⟩
  · exact waits_no b l lanes W h'.lanes (.inl hl)
  · exact waits_no b l lanes W h'.lanes (.inr hl)
  · have := waits_ok b l lanes queue W h' h0 h1 h3
    rwa [he] at this
theorem host_at (v : Nat → Value) (a c : Value) (l : Nat) (h : l < 4) : (#[v 0, v 1, v 2, v 3, a, c] : Array Value)[l]? = some (v l) := by
  match l, h with
  | 0, _ => rfl
  | 1, _ => rfl
  | 2, _ => rfl
  | 3, _ => rfl
theorem next_ok {S : Nat → Prop} {T : Nat} {q : Nat → List Pkt} (b : Nat) (l lanes queue : Int) (w : World) (h : HostV w S T 31 b lanes queue q) (h3 : lanes ≤ 3) (h0 : 0 ≤ l) (h1 : l < lanes) (x : Pkt) (r : List Pkt) (hq : q l.toNat = x :: r) :
    Calls Tryz.prog 175 #[.pointer (some ⟨b, 0, none⟩), .int .i64 l] w fun e w' => e = .returned (.tuple #[.agg #[.int .i64 x.src, .int .i64 x.dst, .int .i64 x.lane, .int .u32 x.body], .bool true]) ∧
      HostNow w w' S T 31 b lanes queue (setAt q l.toNat r) := by
  have hw : ∀ W : World, Keeps (fun _ => False) w W → Calls Tryz.prog 67 #[.pointer (some ⟨b, 0, none⟩), .int .i64 l] W fun e w' => e = .returned (.int .i64 ((r.length : Int) + 1)) ∧ W = w' := fun W hk => by
    have := waits_ok b l lanes queue W (h.keeps hk (fun _ _ h => h)) h0 h1 h3
    rwa [hq, List.length_cons] at this
  obtain ⟨l, rfl⟩ := Int.eq_ofNat_of_zero_le h0
  simp only [Int.toNat_natCast] at hq ⊢
  obtain ⟨v, hb, hr⟩ := h
  have hl3 : l < 3 := by omega
  have hQ := hr.rows l (by omega)
  rw [hq] at hQ
  obtain ⟨g, off, cap, hv, hnc, hcell, hfr⟩ := hQ.cell (by simp)
  rw [List.length_cons] at hv hnc
  have hcl : w.cell? ⟨b, l, none⟩ = some (v l) := (blk_cell hb l).trans (host_at v _ _ l (by omega))
  obtain ⟨cap, rfl⟩ : ∃ c, cap = c + 1 := ⟨cap - 1, by omega⟩
  have hx : ∀ j u, x.cells[j]? = some u → w.cell? ⟨g, off + j, none⟩ = some u := fun j u hu => hcell j u (by rw [pcells_cons, List.getElem?_append_left (List.getElem?_eq_some_iff.1 hu).1]; exact hu)
  refine (next_low b l g off r.length cap x.src x.dst x.lane x.body w (blk_lt hb) hl3 (by rw [hcl, hv]) (blk_frozen hb l) (hQ.lt g (by rw [hv]; rfl)) (hx 0 _ rfl) (hx 1 _ rfl) (hx 2 _ rfl) (hx 3 _ rfl) hw).mono ?_
  rintro e w' ⟨rfl, hk⟩
  have hQ2 : QS w 31 4 (.slice (some ⟨g, if cap = 0 then off else off + 4, none⟩) r.length cap) r.length (pcells r) := by
    rw [hv, List.length_cons] at hQ
    by_cases hc : cap = 0
    · subst hc
      obtain rfl : r = [] := List.eq_nil_of_length_eq_zero (by omega)
      exact hQ.dropAll
    · rw [if_neg hc]
      exact hQ.drop 1 (by omega)
  obtain ⟨r1, r2⟩ := HostV.put hb hr (i := l) (by omega) (Keeps.refl _ w) (l' := r) hQ2 (.inl (by rw [hv]; rfl))
  exact ⟨rfl, _, r1.keeps hk (fun _ _ h => h), r2.trans (hk.mono (fun _ _ h => h.elim)), fun k hk => hk.imp id And.left⟩
end Go.Proofs.YtebnflpanfmicaaGreatDoor
namespace Go.Proofs.YtebnflpanfmicaaGreatDoor
open Go.RowKit
set_option maxHeartbeats 400000 in
theorem clone_nil (w : World) : Calls Tryz.prog 105 #[.slice none 0 0] w fun e w' => e = .returned (.slice none 0 0) ∧ w = w' := by
  have hn := Lib.run_eql_slice_nil (P := Tryz.prog) w 40 31 none 0 0 0 0 Tryz.underlying40
  go_enter Tryz.func105, Tryz.ntmps105
  go_wp2
  go_ret
  exact ⟨rfl, rfl⟩
set_option maxHeartbeats 400000 in
theorem clone_some (a : Addr) (n cap : Nat) (cs : List Value) (w : World) (hQ : QS w 31 4 (.slice (some a) n cap) n cs) (h1 : ∀ u ∈ cs, u.oneCell' = true) (hn : n ≤ 1000000000) :
    Calls Tryz.prog 105 #[.slice (some a) n cap] w fun e w' => ∃ A c, e = .returned (.slice A n c) ∧ QS w' 31 4 (.slice A n c) n cs ∧ Keeps (fun _ => False) w w' ∧ (∀ k, (Value.slice A n c).ownBlock = some k → w.heap.size ≤ k) := by
  have hnn := Lib.run_eql_slice_nil (P := Tryz.prog) w 40 31 (some a) n cap 0 0 Tryz.underlying40
  have h0 : QS (w.alloc (.cells #[] 31)) 31 4 (.slice (some ⟨w.heap.size, 0, none⟩) 0 0) 0 [] := ⟨rfl, .inr ⟨_, 0, 0, #[], rfl, blk_new w _, Nat.le_refl _, Nat.zero_le _, by simp, fun j hj => absurd hj (Nat.not_lt_zero _)⟩⟩
  have hS := (hQ.alloc (.cells #[] 31)).src Tryz.underlying40 h1
  have hbnd : (0 + n) * 32 ≤ 140737488355328 := by omega
  have h32 : 0 < 32 := by decide
  go_enter Tryz.func105, Tryz.ntmps105
  go_wp2_with (at_builtin; refine wpList_append_QS rfl (.tmp 5) (.tmp 6) 40 40 rfl 31 _ 4 32 Tryz.underlying40 info_pkt rfl _ 0 [] rfl h0 _ n cs rfl hS h32 hbnd ?_; intro A c w1 hq1 hg1 hb1)
  have hg2 : (w.alloc (.cells #[] 31)).grownBy w1 (some w.heap.size) := hg1
  go_ret
  refine ⟨A, c, rfl, by simpa using hq1, ⟨hg2.os, hg2.tape, hg2.output, Nat.le_trans (by simp) hg2.size, fun i hi _ => (hg2.block i (by simp; omega) (fun e => by injection e with e; omega)).trans (Below.heap_alloc _ _ _ hi)⟩, fun k hk => ?_⟩
  rw [Nat.zero_add] at hb1
  rcases hb1 with h | ⟨b, h, h'⟩
  · have h2 : (Value.slice A n c).ownBlock = some w.heap.size := h
    rw [hk] at h2; injection h2 with h2; omega
  · rw [hk] at h; injection h with h; simp at h'; omega
theorem clone_ok (n : Nat) (v : Value) (cs : List Value) (w : World) (hQ : QS w 31 4 v n cs) (h1 : ∀ u ∈ cs, u.oneCell' = true) (hn : n ≤ 1000000000) :
    Calls Tryz.prog 105 #[v] w fun e w' => ∃ A c, e = .returned (.slice A n c) ∧ QS w' 31 4 (.slice A n c) n cs ∧ Keeps (fun _ => False) w w' ∧ (∀ k, (Value.slice A n c).ownBlock = some k → w.heap.size ≤ k) := by
  rcases hQ.2 with ⟨rfl, rfl⟩ | ⟨g, off, cap, cur, rfl, _⟩
  · refine (clone_nil w).mono ?_
    rintro e w' ⟨rfl, rfl⟩
    exact ⟨none, 0, rfl, hQ, Keeps.refl _ _, fun _ h => by cases h⟩
  · exact clone_some _ n cap cs w hQ h1 hn
set_option maxHeartbeats 400000 in
theorem got_low (b n : Nat) (v : Value) (hv : ∃ A c, v = .slice A n c) (cs : List Value) (w : World) (hc : w.cell? ⟨b, 3, none⟩ = some v) (hQ : QS w 31 4 v n cs) (h1 : ∀ u ∈ cs, u.oneCell' = true) (hn : n ≤ 1000000000) :
    Calls Tryz.prog 58 #[.pointer (some ⟨b, 0, none⟩)] w fun e w' => ∃ A c, e = .returned (.slice A n c) ∧ QS w' 31 4 (.slice A n c) n cs ∧ Keeps (fun _ => False) w w' ∧ (∀ k, (Value.slice A n c).ownBlock = some k → w.heap.size ≤ k) := by
  obtain ⟨A0, c0, rfl⟩ := hv
  go_enter Tryz.func58, Tryz.ntmps58
  go_wp2_with (go_at_call 105; refine (clone_ok n _ cs _ hQ h1 hn).mono ?_; rintro e w' ⟨A, c, rfl, hq, hk, ho⟩)
  go_ret
  exact ⟨A, c, rfl, hq, hk, ho⟩
theorem got_ok {S : Nat → Prop} {T : Nat} {q : Nat → List Pkt} (b : Nat) (lanes queue : Int) (w : World) (h : HostV w S T 31 b lanes queue q) (hn : (q 3).length ≤ 1000000000) :
    Calls Tryz.prog 58 #[.pointer (some ⟨b, 0, none⟩)] w fun e w' => ∃ A c, e = .returned (.slice A (q 3).length c) ∧ QS w' 31 4 (.slice A (q 3).length c) (q 3).length (pcells (q 3)) ∧ Keeps (fun _ => False) w w' ∧ (∀ k, (Value.slice A (q 3).length c).ownBlock = some k → w.heap.size ≤ k) := by
  obtain ⟨v, hb, hr⟩ := h
  obtain ⟨A, c, hv, _⟩ := (hr.rows 3 (by omega)).shape
  exact got_low b _ (v 3) ⟨A, c, hv⟩ _ w (by rw [blk_cell hb]; rfl) (hr.rows 3 (by omega)) (pcells_one _) hn
theorem got_as {S : Nat → Prop} {T : Nat} {q : Nat → List Pkt} (b : Nat) (lanes queue : Int) (w : World) (h : HostV w S T 31 b lanes queue q) (l : List Pkt) (n : Nat) (hl : q 3 = l) (hn' : l.length = n) (hn : n ≤ 1000000000) :
    Calls Tryz.prog 58 #[.pointer (some ⟨b, 0, none⟩)] w fun e w' => ∃ A c, e = .returned (.slice A n c) ∧ QS w' 31 4 (.slice A n c) n (pcells l) ∧ Keeps (fun _ => False) w w' ∧ (∀ k, (Value.slice A n c).ownBlock = some k → w.heap.size ≤ k) := by
  subst hl; subst hn'
  exact got_ok b lanes queue w h hn
theorem waits_as {S : Nat → Prop} {T E : Nat} {q : Nat → List Pkt} (b : Nat) (l lanes queue : Int) (w : World) (h : HostV w S T E b lanes queue q) (h0 : 0 ≤ l) (h1 : l < lanes) (h3 : lanes ≤ 3) (n : Int) (hn : ((q l.toNat).length : Int) = n) :
    Calls Tryz.prog 67 #[.pointer (some ⟨b, 0, none⟩), .int .i64 l] w fun e w' => e = .returned (.int .i64 n) ∧ w = w' := by
  subst hn
  exact waits_ok b l lanes queue w h h0 h1 h3
theorem HostV.same {w : World} {S : Nat → Prop} {T E b : Nat} {lanes queue : Int} {q q' : Nat → List Pkt} (h : HostV w S T E b lanes queue q) (e : ∀ i, i < 4 → q i = q' i) : HostV w S T E b lanes queue q' := by
  obtain ⟨v, hb, hr⟩ := h
  exact ⟨v, hb, ⟨fun i hi => e i hi ▸ hr.rows i hi, hr.self, hr.off, hr.apart, hr.own, hr.lt⟩⟩
def qf (q0 q1 q2 q3 : List Pkt) : Nat → List Pkt
  | 0 => q0
  | 1 => q1
  | 2 => q2
  | _ => q3
theorem HostV.qf {w : World} {S : Nat → Prop} {T E b : Nat} {lanes queue : Int} {q : Nat → List Pkt} (h : HostV w S T E b lanes queue q) {q0 q1 q2 q3 : List Pkt} (e0 : q 0 = q0) (e1 : q 1 = q1) (e2 : q 2 = q2) (e3 : q 3 = q3) : HostV w S T E b lanes queue (qf q0 q1 q2 q3) :=
  h.same fun i hi => by
    match i, hi with
    | 0, _ => exact e0
    | 1, _ => exact e1
    | 2, _ => exact e2
    | 3, _ => exact e3
end Go.Proofs.YtebnflpanfmicaaGreatDoor
