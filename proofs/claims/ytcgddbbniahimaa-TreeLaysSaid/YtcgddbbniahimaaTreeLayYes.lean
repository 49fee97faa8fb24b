/-
  Lay, of a tree, walked.
-/
import Derived.Test.YtcgddbbniahimaaTreeLay
set_option linter.unusedVariables false
set_option linter.unusedSimpArgs false
namespace Go.Proofs.Ytcgddbbniahimaa
open Go.RowKit

/-- What Lay hands back. -/
def Laid (W w' : World) (p : Nums) (t : List Nat) (ws : List Int) (e : Ending) : Prop :=
  ∃ Ea ec Wa wc Na nc, e = .returned (.tuple #[.agg (p.plan ((t.length : Int) + 1) (.slice Ea t.length ec) (.slice Wa ws.length wc) (.slice Na (t.length + 1) nc)), .int .u16 0]) ∧
    QS w' 51 2 (.slice Ea t.length ec) t.length (ecells (edgesOf t t.length)) ∧ (∀ k, (Value.slice Ea t.length ec).ownBlock = some k → W.heap.size ≤ k) ∧
    QS w' 3 1 (.slice Wa ws.length wc) ws.length (ws.map encZ) ∧ (∀ k, (Value.slice Wa ws.length wc).ownBlock = some k → W.heap.size ≤ k) ∧
    NextIs w' W.heap.size (.slice Na (t.length + 1) nc) (rowsOf t (t.length + 1)) ∧ Keeps (fun _ => False) W w'

theorem PBox.at_ {w : World} {b : Nat} {p : Nums} {n : Int} {e wt nx : Value} (h : PBox w b (p.plan n e wt nx)) :
    w.cell? ⟨b, 0, none⟩ = some (.int .i64 n) ∧ w.cell? ⟨b, 1, none⟩ = some e ∧ w.cell? ⟨b, 8, none⟩ = some wt ∧ w.cell? ⟨b, 10, none⟩ = some nx ∧ ∀ i, w.frozen? ⟨b, i, none⟩ = false :=
  ⟨by rw [blk_cell h]; rfl, by rw [blk_cell h]; rfl, by rw [blk_cell h]; rfl, by rw [blk_cell h]; rfl, fun i => blk_frozen h i⟩
theorem PBox.edges {w : World} {b : Nat} {p : Nums} {n : Int} {e wt nx : Value} (h : PBox w b (p.plan n e wt nx)) (e' : Value) : PBox (w.setCell ⟨b, 1, none⟩ e') b (p.plan n e' wt nx) := blk_set h 1 e'
theorem PBox.weights {w : World} {b : Nat} {p : Nums} {n : Int} {e wt nx : Value} (h : PBox w b (p.plan n e wt nx)) (e' : Value) : PBox (w.setCell ⟨b, 8, none⟩ e') b (p.plan n e e' nx) := blk_set h 8 e'
theorem PBox.next {w : World} {b : Nat} {p : Nums} {n : Int} {e wt nx : Value} (h : PBox w b (p.plan n e wt nx)) (e' : Value) : PBox (w.setCell ⟨b, 10, none⟩ e') b (p.plan n e wt e') := blk_set h 10 e'

/-- A list of rows in memory, between two bounds. -/
def NextIn (w : World) (base lim : Nat) (nv : Value) (rows : List (List Nat)) : Prop :=
  ∃ vs : List Value, QS w 23 1 nv rows.length vs ∧ (∀ k, nv.ownBlock = some k → base ≤ k ∧ k < lim) ∧ (∀ u ∈ vs, u.oneCell' = true) ∧
    ∀ (i : Nat) (v : Value) (r : List Nat), vs[i]? = some v → rows[i]? = some r → QS w 3 1 v r.length (r.map encI) ∧ ∀ k, v.ownBlock = some k → base ≤ k ∧ k < lim
theorem NextIn.is {w : World} {base base' lim : Nat} {nv : Value} {rows : List (List Nat)} (h : NextIn w base lim nv rows) (hb : base' ≤ base) : NextIs w base' nv rows := by
  obtain ⟨vs, h1, h2, h3, h4⟩ := h
  refine ⟨vs, h1, fun k hk => Nat.le_trans hb (h2 k hk).1, h3, fun i v r hv hr => ?_⟩
  obtain ⟨h5, h6⟩ := h4 i v r hv hr
  exact ⟨h5, fun k hk => Nat.le_trans hb (h6 k hk).1⟩
theorem NextIn.nil (w : World) (base lim : Nat) : NextIn w base lim (.slice none 0 0) [] := by
  refine ⟨[], QS.nil _ _ _, ?_, ?_, ?_⟩
  · intro k h; cases h
  · intro u h; cases h
  · intro i v r h; cases h
/-- What turns is below, above, or no list of rows and no row. -/
theorem NextIn.keeps {w w' : World} {base lim : Nat} {nv : Value} {rows : List (List Nat)} {F : Nat → Prop} (h : NextIn w base lim nv rows) (hk : Keeps F w w')
    (hF : ∀ k, F k → base ≤ k → k < lim → ∃ cur, w.heap[k]? = some (.cells cur 51 (0, 0))) : NextIn w' base lim nv rows := by
  have ty : ∀ (k : Nat) (e : Nat) (cur : Array Value), e ≠ 51 → base ≤ k → k < lim → w.heap[k]? = some (.cells cur e (0, 0)) → ¬ F k := fun k e cur hne h1 h2 hc hf => by
    obtain ⟨cur', hc'⟩ := hF k hf h1 h2
    rw [hc] at hc'
    injection hc' with hc'
    injection hc' with _ e1
    exact hne e1
  obtain ⟨vs, h1, h2, h3, h4⟩ := h
  refine ⟨vs, h1.keeps hk (fun k hv => ?_), h2, h3, fun i v r hv hr => ?_⟩
  · obtain ⟨cur, hc⟩ := h1.typed k hv
    exact ty k _ cur (by decide) (h2 k hv).1 (h2 k hv).2 hc
  · obtain ⟨h5, h6⟩ := h4 i v r hv hr
    refine ⟨h5.keeps hk (fun k hv => ?_), h6⟩
    obtain ⟨cur, hc⟩ := h5.typed k hv
    exact ty k _ cur (by decide) (h6 k hv).1 (h6 k hv).2 hc

theorem climb_pos {d : List Nat} : ∀ {l : List Nat}, l ≠ [] → 0 < (climb d l).1.length
  | [], h => absurd rfl h
  | x :: l, _ => by
    rw [climb]
    by_cases hx : x ∈ d
    · rw [if_pos hx]; exact Nat.zero_lt_one
    · rw [if_neg hx]; exact Nat.succ_pos _
theorem pathN_pos (t : List Nat) (ht : Tree t) (v x : Nat) : 0 < (pathN t v x).length := by
  unfold pathN
  rw [List.length_append]
  have := climb_pos (d := upl t x) (l := upl t v) (fun h => by have := zero_mem_upl ht v; rw [h] at this; cases this)
  omega
theorem made_row (f : Nat → Nat) (n : Nat) : madeCells #[.int .i64 0] n = ((part f n 0).map encI).toArray := by
  apply Array.ext
  · simp [madeCells, part]
  · intro i h1 h2
    simp [madeCells, part, Nat.mod_one]

theorem PBox.all {w : World} {b : Nat} {a0 a1 a2 a3 a4 a5 a6 a7 a8 a9 a10 : Value} (h : PBox w b #[a0, a1, a2, a3, a4, a5, a6, a7, a8, a9, a10]) :
    w.cell? ⟨b, 0, none⟩ = some a0 ∧ w.cell? ⟨b, 1, none⟩ = some a1 ∧ w.cell? ⟨b, 2, none⟩ = some a2 ∧ w.cell? ⟨b, 3, none⟩ = some a3 ∧ w.cell? ⟨b, 4, none⟩ = some a4 ∧ w.cell? ⟨b, 5, none⟩ = some a5 ∧
    w.cell? ⟨b, 6, none⟩ = some a6 ∧ w.cell? ⟨b, 7, none⟩ = some a7 ∧ w.cell? ⟨b, 8, none⟩ = some a8 ∧ w.cell? ⟨b, 9, none⟩ = some a9 ∧ w.cell? ⟨b, 10, none⟩ = some a10 ∧ ∀ i, w.frozen? ⟨b, i, none⟩ = false :=
  ⟨by rw [blk_cell h]; rfl, by rw [blk_cell h]; rfl, by rw [blk_cell h]; rfl, by rw [blk_cell h]; rfl, by rw [blk_cell h]; rfl, by rw [blk_cell h]; rfl, by rw [blk_cell h]; rfl, by rw [blk_cell h]; rfl, by rw [blk_cell h]; rfl, by rw [blk_cell h]; rfl, by rw [blk_cell h]; rfl, fun i => blk_frozen h i⟩

theorem set11 {w : World} {b : Nat} {c0 c1 c2 c3 c4 c5 c6 c7 c8 c9 c10 : Value} (h : PBox w b #[c0, c1, c2, c3, c4, c5, c6, c7, c8, c9, c10]) (a0 a1 a2 a3 a4 a5 a6 a7 a8 a9 a10 : Value) :
    PBox (((((((((((w.setCell ⟨b, 0, none⟩ a0).setCell ⟨b, 1, none⟩ a1).setCell ⟨b, 2, none⟩ a2).setCell ⟨b, 3, none⟩ a3).setCell ⟨b, 4, none⟩ a4).setCell ⟨b, 5, none⟩ a5).setCell ⟨b, 6, none⟩ a6).setCell ⟨b, 7, none⟩ a7).setCell ⟨b, 8, none⟩ a8).setCell ⟨b, 9, none⟩ a9).setCell ⟨b, 10, none⟩ a10) b #[a0, a1, a2, a3, a4, a5, a6, a7, a8, a9, a10] ∧ Keeps (fun k => k = b) w (((((((((((w.setCell ⟨b, 0, none⟩ a0).setCell ⟨b, 1, none⟩ a1).setCell ⟨b, 2, none⟩ a2).setCell ⟨b, 3, none⟩ a3).setCell ⟨b, 4, none⟩ a4).setCell ⟨b, 5, none⟩ a5).setCell ⟨b, 6, none⟩ a6).setCell ⟨b, 7, none⟩ a7).setCell ⟨b, 8, none⟩ a8).setCell ⟨b, 9, none⟩ a9).setCell ⟨b, 10, none⟩ a10) := by
  have h0 : PBox (w.setCell ⟨b, 0, none⟩ a0) b #[a0, c1, c2, c3, c4, c5, c6, c7, c8, c9, c10] := blk_set h 0 a0
  have h1 : PBox ((w.setCell ⟨b, 0, none⟩ a0).setCell ⟨b, 1, none⟩ a1) b #[a0, a1, c2, c3, c4, c5, c6, c7, c8, c9, c10] := blk_set h0 1 a1
  have h2 : PBox (((w.setCell ⟨b, 0, none⟩ a0).setCell ⟨b, 1, none⟩ a1).setCell ⟨b, 2, none⟩ a2) b #[a0, a1, a2, c3, c4, c5, c6, c7, c8, c9, c10] := blk_set h1 2 a2
  have h3 : PBox ((((w.setCell ⟨b, 0, none⟩ a0).setCell ⟨b, 1, none⟩ a1).setCell ⟨b, 2, none⟩ a2).setCell ⟨b, 3, none⟩ a3) b #[a0, a1, a2, a3, c4, c5, c6, c7, c8, c9, c10] := blk_set h2 3 a3
  have h4 : PBox (((((w.setCell ⟨b, 0, none⟩ a0).setCell ⟨b, 1, none⟩ a1).setCell ⟨b, 2, none⟩ a2).setCell ⟨b, 3, none⟩ a3).setCell ⟨b, 4, none⟩ a4) b #[a0, a1, a2, a3, a4, c5, c6, c7, c8, c9, c10] := blk_set h3 4 a4
  have h5 : PBox ((((((w.setCell ⟨b, 0, none⟩ a0).setCell ⟨b, 1, none⟩ a1).setCell ⟨b, 2, none⟩ a2).setCell ⟨b, 3, none⟩ a3).setCell ⟨b, 4, none⟩ a4).setCell ⟨b, 5, none⟩ a5) b #[a0, a1, a2, a3, a4, a5, c6, c7, c8, c9, c10] := blk_set h4 5 a5
  have h6 : PBox (((((((w.setCell ⟨b, 0, none⟩ a0).setCell ⟨b, 1, none⟩ a1).setCell ⟨b, 2, none⟩ a2).setCell ⟨b, 3, none⟩ a3).setCell ⟨b, 4, none⟩ a4).setCell ⟨b, 5, none⟩ a5).setCell ⟨b, 6, none⟩ a6) b #[a0, a1, a2, a3, a4, a5, a6, c7, c8, c9, c10] := blk_set h5 6 a6
  have h7 : PBox ((((((((w.setCell ⟨b, 0, none⟩ a0).setCell ⟨b, 1, none⟩ a1).setCell ⟨b, 2, none⟩ a2).setCell ⟨b, 3, none⟩ a3).setCell ⟨b, 4, none⟩ a4).setCell ⟨b, 5, none⟩ a5).setCell ⟨b, 6, none⟩ a6).setCell ⟨b, 7, none⟩ a7) b #[a0, a1, a2, a3, a4, a5, a6, a7, c8, c9, c10] := blk_set h6 7 a7
  have h8 : PBox (((((((((w.setCell ⟨b, 0, none⟩ a0).setCell ⟨b, 1, none⟩ a1).setCell ⟨b, 2, none⟩ a2).setCell ⟨b, 3, none⟩ a3).setCell ⟨b, 4, none⟩ a4).setCell ⟨b, 5, none⟩ a5).setCell ⟨b, 6, none⟩ a6).setCell ⟨b, 7, none⟩ a7).setCell ⟨b, 8, none⟩ a8) b #[a0, a1, a2, a3, a4, a5, a6, a7, a8, c9, c10] := blk_set h7 8 a8
  have h9 : PBox ((((((((((w.setCell ⟨b, 0, none⟩ a0).setCell ⟨b, 1, none⟩ a1).setCell ⟨b, 2, none⟩ a2).setCell ⟨b, 3, none⟩ a3).setCell ⟨b, 4, none⟩ a4).setCell ⟨b, 5, none⟩ a5).setCell ⟨b, 6, none⟩ a6).setCell ⟨b, 7, none⟩ a7).setCell ⟨b, 8, none⟩ a8).setCell ⟨b, 9, none⟩ a9) b #[a0, a1, a2, a3, a4, a5, a6, a7, a8, a9, c10] := blk_set h8 9 a9
  have h10 : PBox (((((((((((w.setCell ⟨b, 0, none⟩ a0).setCell ⟨b, 1, none⟩ a1).setCell ⟨b, 2, none⟩ a2).setCell ⟨b, 3, none⟩ a3).setCell ⟨b, 4, none⟩ a4).setCell ⟨b, 5, none⟩ a5).setCell ⟨b, 6, none⟩ a6).setCell ⟨b, 7, none⟩ a7).setCell ⟨b, 8, none⟩ a8).setCell ⟨b, 9, none⟩ a9).setCell ⟨b, 10, none⟩ a10) b #[a0, a1, a2, a3, a4, a5, a6, a7, a8, a9, a10] := blk_set h9 10 a10
  refine ⟨h10, ?_⟩
  have k : ∀ (x : World) (i : Nat) (v : Value), Keeps (fun k => k = b) x (x.setCell ⟨b, i, none⟩ v) := fun _ _ _ => Keeps.setCell _ _ _ _ rfl
  exact (((((((((((k _ _ _)).trans (k _ _ _)).trans (k _ _ _)).trans (k _ _ _)).trans (k _ _ _)).trans (k _ _ _)).trans (k _ _ _)).trans (k _ _ _)).trans (k _ _ _)).trans (k _ _ _)).trans (k _ _ _)

/-- What the loops carry. -/
structure LayAt (w : World) (p : Nums) (t : List Nat) (ws : List Int) (i v lim : Nat) (X : World) : Prop where
  keeps : Keeps (fun _ => False) w X
  size : w.heap.size + 2 ≤ X.heap.size
  lim1 : w.heap.size + 2 ≤ lim
  res : PBox X (w.heap.size + 1) (Nums.zero.plan 0 (.slice none 0 0) (.slice none 0 0) (.slice none 0 0))
  box : ∃ Ea ec Wa wc Na nc, PBox X w.heap.size (p.plan ((t.length : Int) + 1) (.slice Ea i ec) (.slice Wa ws.length wc) (.slice Na v nc)) ∧
    QS X 51 2 (.slice Ea i ec) i (ecells (edgesOf t i)) ∧ (∀ k, (Value.slice Ea i ec).ownBlock = some k → w.heap.size + 2 ≤ k ∧ k < lim) ∧
    QS X 3 1 (.slice Wa ws.length wc) ws.length (ws.map encZ) ∧ (∀ k, (Value.slice Wa ws.length wc).ownBlock = some k → w.heap.size + 2 ≤ k ∧ k < lim) ∧
    NextIn X (w.heap.size + 2) lim (.slice Na v nc) (rowsOf t v)
theorem LayAt.calm {w : World} {p : Nums} {t : List Nat} {ws : List Int} {i v lim : Nat} {X Y : World} {F : Nat → Prop} (h : LayAt w p t ws i v lim X) (hk : Keeps F X Y) (hF : ∀ k, F k → lim ≤ k) : LayAt w p t ws i v lim Y := by
  obtain ⟨h1, h2, h2', h3, Ea, ec, Wa, wc, Na, nc, h4, h5, h6, h7, h8, h9⟩ := h
  refine ⟨h1.then hk (fun i hi h => by have := hF _ h; omega), Nat.le_trans h2 hk.size, h2', blk_keeps hk h3 (fun h => by have := hF _ h; omega), Ea, ec, Wa, wc, Na, nc, blk_keeps hk h4 (fun h => by have := hF _ h; omega),
    h5.keeps hk (fun k hv h => by have := hF _ h; have := h6 k hv; omega), h6, h7.keeps hk (fun k hv h => by have := hF _ h; have := h8 k hv; omega), h8, h9.keeps hk (fun k h h1 h2 => by have := hF _ h; omega)⟩
theorem LayAt.now {w : World} {p : Nums} {t : List Nat} {ws : List Int} {i v lim : Nat} {X : World} (h : LayAt w p t ws i v lim X) : LayAt w p t ws i v X.heap.size X := by
  obtain ⟨h1, h2, h2', h3, Ea, ec, Wa, wc, Na, nc, h4, h5, h6, h7, h8, vs, q1, q2, q3, q4⟩ := h
  refine ⟨h1, h2, h2, h3, Ea, ec, Wa, wc, Na, nc, h4, h5, fun k hv => ⟨(h6 k hv).1, h5.lt k hv⟩, h7, fun k hv => ⟨(h8 k hv).1, h7.lt k hv⟩, vs, q1, fun k hv => ⟨(q2 k hv).1, q1.lt k hv⟩, q3, fun i v r hv hr => ?_⟩
  obtain ⟨q5, q6⟩ := q4 i v r hv hr
  exact ⟨q5, fun k hv => ⟨(q6 k hv).1, q5.lt k hv⟩⟩

theorem two_boxes (w : World) (a b : Array Value) (T : Nat) : ((w.alloc (.cells a T)).alloc (.cells b T)).heap[w.heap.size]? = some (.cells a T (0, 0)) ∧ ((w.alloc (.cells a T)).alloc (.cells b T)).heap[w.heap.size + 1]? = some (.cells b T (0, 0)) ∧
    Keeps (fun _ => False) w ((w.alloc (.cells a T)).alloc (.cells b T)) ∧ ((w.alloc (.cells a T)).alloc (.cells b T)).heap.size = w.heap.size + 2 := by
  refine ⟨blk_alloc (blk_new _ _) _, ?_, (Keeps.alloc _ _ _).trans (Keeps.alloc _ _ _), by simp⟩
  have := blk_new (w.alloc (.cells a T)) (.cells b T)
  rwa [World.size_alloc] at this

set_option maxHeartbeats 8000000 in
theorem lay_yes (p : Nums) (n : Int) (Ea Wa Na : Option Addr) (en ec wc nn nc : Nat) (A : Option Addr) (c : Nat) (t : List Nat) (ws : List Int) (w : World) (ht : Tree t) (h0 : 0 < t.length) (h5 : t.length ≤ 5)
    (h : Reads w w.heap.size 1 (.slice A t.length c) t.length (t.map encI)) (hw : Reads w w.heap.size 1 (.slice Wa ws.length wc) ws.length (ws.map encZ)) (hwb : ws.length * 8 ≤ 140737488355328) (hr : rightI (t.map Int.ofNat) = true) :
    Calls Try.prog 12 #[.agg (p.plan n (.slice Ea en ec) (.slice Wa ws.length wc) (.slice Na nn nc)), .slice A t.length c] w fun e w' => Laid w w' p t ws e := by
  obtain ⟨lanes, room, queue, rounds, every, bag, start⟩ := p
  have hps : t.map encI = (t.map Int.ofNat).map encZ := by rw [List.map_map]; rfl
  have hlp : (t.map Int.ofNat).length = t.length := by simp
  unfold Nums.plan
  go_enter Try.func12, Try.ntmps12
  go_wp2_with fail
  have c1 := right_calls (.slice A t.length c) (t.map Int.ofNat) _ (by rw [hlp, ← hps]; exact h.keepsF ((Keeps.alloc (fun _ => False) w (.cells #[.int .i64 n, .slice Ea en ec, .int .i64 lanes, .int .i64 room, .int .i64 queue, .int .i64 rounds, .int .i64 every, .int .i64 bag, .slice Wa ws.length wc, .int .u16 start, .slice Na nn nc] 29)).trans (Keeps.alloc _ _ (.cells #[.int .i64 0, .slice none 0 0, .int .i64 0, .int .i64 0, .int .i64 0, .int .i64 0, .int .i64 0, .int .i64 0, .slice none 0 0, .int .u16 0, .slice none 0 0] 29))) (by simp only [World.size_alloc]; omega))
  rw [hr] at c1
  refine c1.mono ?_
  rintro e w' ⟨rfl, hww⟩; subst w'
  clear c1 hr hps hlp
  have ht0 : (0 : Int) < (t.length : Int) := by omega
  have hne : ((t.length : Int) == 0) = false := by rw [beq_eq_false_iff_ne]; omega
  have hsm : (t.length : Int) + 1 ≤ 6 := by omega
  go_wp2_with fail
  obtain ⟨hP, hZ, hk0, hz0⟩ := two_boxes w #[.int .i64 ((t.length : Int) + 1), .slice none 0 0, .int .i64 lanes, .int .i64 room, .int .i64 queue, .int .i64 rounds, .int .i64 every, .int .i64 bag, .slice Wa ws.length wc, .int .u16 start, .slice none 0 0] #[.int .i64 0, .slice none 0 0, .int .i64 0, .int .i64 0, .int .i64 0, .int .i64 0, .int .i64 0, .int .i64 0, .slice none 0 0, .int .u16 0, .slice none 0 0] 29
  generalize (w.alloc (.cells #[.int .i64 ((t.length : Int) + 1), .slice none 0 0, .int .i64 lanes, .int .i64 room, .int .i64 queue, .int .i64 rounds, .int .i64 every, .int .i64 bag, .slice Wa ws.length wc, .int .u16 start, .slice none 0 0] 29)).alloc (.cells #[.int .i64 0, .slice none 0 0, .int .i64 0, .int .i64 0, .int .i64 0, .int .i64 0, .int .i64 0, .int .i64 0, .slice none 0 0, .int .u16 0, .slice none 0 0] 29) = X at hP hZ hk0 hz0
  refine (clone_calls (.slice Wa ws.length wc) ws X (hw.keepsF hk0 (by omega)) hwb).mono ?_
  rintro e Y ⟨u, rfl, hu, hkY, hou⟩
  obtain ⟨Wa', wc', hsh, _, _⟩ := hu.shape
  subst hsh
  have hPY : PBox Y w.heap.size (Nums.plan ⟨lanes, room, queue, rounds, every, bag, start⟩ ((t.length : Int) + 1) (.slice none 0 0) (.slice Wa ws.length wc) (.slice none 0 0)) := blk_keeps hkY hP (fun h => h)
  have hk8 : Keeps (fun k => k = w.heap.size) Y (Y.setCell ⟨w.heap.size, 8, none⟩ (.slice Wa' ws.length wc')) := Keeps.setCell _ _ _ _ rfl
  have hL0 : LayAt w ⟨lanes, room, queue, rounds, every, bag, start⟩ t ws 0 0 (Y.setCell ⟨w.heap.size, 8, none⟩ (.slice Wa' ws.length wc')).heap.size (Y.setCell ⟨w.heap.size, 8, none⟩ (.slice Wa' ws.length wc')) := by
    have hs := hkY.size
    have hs2 := hk8.size
    refine ⟨(hk0.trans hkY).then hk8 (fun i hi h => by omega), by omega, by omega, blk_keeps hk8 (blk_keeps hkY hZ (fun h => h)) (by omega), none, 0, Wa', wc', none, 0, hPY.weights _, QS.nil _ _ _, ?_, hu.keeps hk8 (fun k hv => by have := hou k hv; omega), ?_, NextIn.nil _ _ _⟩
    · intro k h; cases h
    · intro k hv; exact ⟨by have := hou k hv; omega, Nat.lt_of_lt_of_le (hu.lt k hv) hs2⟩
  obtain ⟨_, _, y8, _, yf⟩ := hPY.at_
  clear hu hou hP hZ hk0 hz0 hkY hPY hk8
  go_wp2_with fail
  generalize Y.setCell ⟨w.heap.size, 8, none⟩ (.slice Wa' ws.length wc') = Z at hL0 ⊢
  clear y8 yf
  generalize hpe : (⟨lanes, room, queue, rounds, every, bag, start⟩ : Nums) = p at *
  have hpe' := Lib.hid hpe
  clear hpe
  have hcells : ∀ i, i < t.length → ∃ g off, A = some ⟨g, off, none⟩ ∧ w.cell? ⟨g, off + i, none⟩ = some (encI (t.getD i 0)) := fun i hi => by
    obtain ⟨g, off, e, _, hc⟩ := (h.fam (Nat.le_refl _)).1.2 i hi
    exact ⟨g, off, e, hc⟩
  go_loopw [35] (fun s wr => ∃ i : Nat, i ≤ t.length ∧ s = .int .i64 (i : Int) ∧ LayAt w p t ws i 0 wr.heap.size wr) (fun s _ => t.length - (intOf s).toNat)
  case atStart => exact ⟨0, Nat.zero_le _, rfl, hL0⟩
  case round =>
    obtain ⟨i, hi, rfl, hL⟩ := hrel
    clear hL0
    by_cases hil : i < t.length
    · have hii : (i : Int) < (t.length : Int) := by omega
      obtain ⟨g, off, rfl, hc0⟩ := hcells i hil
      have hci := hL.keeps.cell hc0 (fun h => h)
      clear hc0
      have hes := edgesOf_succ t i
      obtain ⟨g1, g2, g3, g4, Eb, eb, Wb, wb, Nb, nb, k1, k2, k3, k4, k5, k6⟩ := hL
      obtain ⟨_, y1, _, _, yf⟩ := k1.at_
      generalize t.getD i 0 = q at *
      have hq0 : QS (wr.alloc (.cells #[encI q, .int .i64 ((i : Int) + 1)] 51)) 51 2 (.slice Eb i eb) i (ecells (edgesOf t i)) := k2.alloc _
      have hsrc : Src Try.prog 2 25 (.slice (some ⟨wr.heap.size, 0, none⟩) 1 1) 1 [encI q, .int .i64 ((i : Int) + 1)] (wr.alloc (.cells #[encI q, .int .i64 ((i : Int) + 1)] 51)) :=
        src_blk Try.underlying25 (blk_new _ _) rfl (by intro jj hjj'; match jj, hjj' with | 0, _ => rfl | 1, _ => rfl) (by intro u hu; simp at hu; rcases hu with rfl | rfl <;> rfl)
      have HB : Hid (∀ w1, (wr.alloc (.cells #[encI q, .int .i64 ((i : Int) + 1)] 51)).grownBy w1 (Value.slice Eb i eb).ownBlock → Keeps (fun k => (Value.slice Eb i eb).ownBlock = some k) wr w1 ∧
          PBox w1 w.heap.size (p.plan ((t.length : Int) + 1) (.slice Eb i eb) (.slice Wb ws.length wb) (.slice Nb 0 nb)) ∧ w1.cell? ⟨w.heap.size, 1, none⟩ = some (.slice Eb i eb) ∧ w1.frozen? ⟨w.heap.size, 1, none⟩ = false) := Lib.hid fun w1 hg => by
        have hk : Keeps (fun k => (Value.slice Eb i eb).ownBlock = some k) wr w1 := (Keeps.alloc _ _ _).trans (Keeps.grown hg (fun i h => h))
        have hb := blk_keeps hk k1 (fun e => by have := k3 _ e; omega)
        obtain ⟨_, y1, _, _, yf⟩ := PBox.at_ hb
        exact ⟨hk, hb, y1, yf 1⟩
      go_wp2_with (at_builtin; refine wpList_append_QS rfl _ _ 25 25 rfl 51 _ 2 16 Try.underlying25 info_edge rfl (.slice Eb i eb) i (ecells (edgesOf t i)) rfl hq0 _ 1 [encI q, .int .i64 ((i : Int) + 1)] rfl hsrc (by decide) (by omega) ?_; intro A1 c1 w1 hq1 hg1 ho1; obtain ⟨hk1, hb1, hc1, hf1⟩ := HB.out w1 hg1)
      have hk2 : Keeps (fun k => k = w.heap.size) w1 (w1.setCell ⟨w.heap.size, 1, none⟩ (.slice A1 (i + 1) c1)) := Keeps.setCell _ _ _ _ rfl
      have ho : ∀ k, (Value.slice A1 (i + 1) c1).ownBlock = some k → w.heap.size + 2 ≤ k := by
        intro k hk
        rcases ho1 with h | ⟨k', h, hle⟩
        · exact (k3 k (h ▸ hk)).1
        · rw [hk] at h; cases h; rw [World.size_alloc] at hle; omega
      have hs1 := hk1.size
      have hs2 := hk2.size
      have hke := k2.ne k4 (by decide)
      have hnew : LayAt w p t ws (i + 1) 0 (w1.setCell ⟨w.heap.size, 1, none⟩ (.slice A1 (i + 1) c1)).heap.size (w1.setCell ⟨w.heap.size, 1, none⟩ (.slice A1 (i + 1) c1)) := by
        refine ⟨(g1.then hk1 (fun k hk h => by have := k3 _ h; omega)).then hk2 (fun k hk h => by omega), by omega, by omega, blk_keeps hk2 (blk_keeps hk1 g4 (fun h => by have := k3 _ h; omega)) (by omega), A1, c1, Wb, wb, Nb, nb, PBox.edges hb1 _, ?_, ?_,
          (k4.keeps hk1 (fun k hv h => hke k h hv)).keeps hk2 (fun k hv h => by have := k5 k hv; omega), fun k hv => ⟨(k5 k hv).1, by have := (k5 k hv).2; omega⟩, ?_⟩
        · rw [hes, ecells_append]
          exact hq1.keeps hk2 (fun k hv h => by have := ho k hv; omega)
        · intro k hv
          exact ⟨ho k hv, Nat.lt_of_lt_of_le (hq1.lt k hv) hs2⟩
        · obtain ⟨vs, q1, q2, q3, q4⟩ := k6
          have hn2 : NextIn wr (w.heap.size + 2) wr.heap.size (.slice Nb 0 nb) (rowsOf t 0) := ⟨vs, q1, q2, q3, q4⟩
          have hn3 := (hn2.keeps hk1 (fun k hv _ _ => k2.typed k hv)).keeps hk2 (fun k h h1 h2 => by omega)
          obtain ⟨vs, q1, q2, q3, q4⟩ := hn3
          exact ⟨vs, q1, fun k hv => ⟨(q2 k hv).1, by have := (q2 k hv).2; omega⟩, q3, fun i v r hv hr => ⟨(q4 i v r hv hr).1, fun k hk => ⟨((q4 i v r hv hr).2 k hk).1, by have := ((q4 i v r hv hr).2 k hk).2; omega⟩⟩⟩
      go_roundw
      case rel => exact ⟨i + 1, by omega, by simp, hnew⟩
      case measure => simp [intOf]; omega
    · obtain rfl : i = t.length := by omega
      obtain ⟨_, _, _, _, _, _, _, _, _, _, e1, _⟩ := id hL
      obtain ⟨y0, _, _, _, _⟩ := e1.at_
      clear e1 hi
      go_wp2_with fail
      clear y0
      go_loopw [52] (fun s wr => ∃ v : Nat, v ≤ t.length + 1 ∧ s = .int .i64 (v : Int) ∧ LayAt w p t ws t.length v wr.heap.size wr) (fun s _ => t.length + 1 - (intOf s).toNat)
      case atStart => exact ⟨0, Nat.zero_le _, rfl, hL⟩
      case round =>
        clear hL
        obtain ⟨v, hv, rfl, hL⟩ := hrel
        by_cases hvl : v < t.length + 1
        · have hvi : (v : Int) < (t.length : Int) + 1 := by omega
          obtain ⟨_, _, _, _, _, _, _, _, _, _, e1, _⟩ := id hL
          obtain ⟨y0, _, _, _, _⟩ := e1.at_
          clear e1
          have hms := fun w => run_make_row' (P := Try.prog) 23 3 (.int .i64 0) 8 Try.underlying23 info_int rfl .i64 .i64 (t.length + 1) (by omega) (by omega) w
          rw [show ((t.length + 1 : Nat) : Int) = (t.length : Int) + 1 by omega] at hms
          go_wp2_with fail
          clear hms y0
          have hM0 : (wr.alloc (.cells (madeCells #[.int .i64 0] (t.length + 1)) 3)).heap[wr.heap.size]? = some (.cells ((part (nxt t v) (t.length + 1) 0).map encI).toArray 3 (0, 0)) := by rw [← made_row]; exact blk_new _ _
          have hLi : LayAt w p t ws t.length v wr.heap.size (wr.alloc (.cells (madeCells #[.int .i64 0] (t.length + 1)) 3)) := hL.calm (Keeps.alloc (fun _ => False) _ _) (fun _ h => h.elim)
          have hH := hL.size
          clear hL
          generalize wr.alloc (.cells (madeCells #[.int .i64 0] (t.length + 1)) 3) = V0 at hM0 hLi ⊢
          generalize wr.heap.size = H at hM0 hLi hH ⊢
          go_loopw [60] (fun s X => ∃ x : Nat, x ≤ t.length + 1 ∧ s = .int .i64 (x : Int) ∧ LayAt w p t ws t.length v H X ∧ X.heap[H]? = some (.cells ((part (nxt t v) (t.length + 1) x).map encI).toArray 3 (0, 0))) (fun s _ => t.length + 1 - (intOf s).toNat)
          case atStart => exact ⟨0, Nat.zero_le _, rfl, hLi, hM0⟩
          case round =>
            clear hLi hM0
            obtain ⟨x, hx, rfl, hLx, hMx⟩ := hrel
            by_cases hxl : x < t.length + 1
            · have hxi : (x : Int) < (t.length : Int) + 1 := by omega
              obtain ⟨hFw, hAw⟩ := h.fam (Nat.le_refl _)
              have c2 := path_calls A t.length c t v x ht (by omega) (by omega) h5 wr (hFw.keeps hLx.keeps (fun _ _ h => h)) (fun k h1 h2 => by have := hAw k h1 h2; have := hLx.size; omega)
              clear hFw hAw
              have hpos := pathN_pos t ht v x
              obtain ⟨q, hq⟩ : ∃ q, nxt t v x = q := ⟨_, rfl⟩
              have hset := part_set (nxt t v) (t.length + 1) x hxl
              have hq1 : q = (pathN t v x).getD (if (pathN t v x).length = 1 then 0 else 1) 0 := hq.symm
              rw [hq] at hset
              clear hq
              generalize pathN t v x = L at c2 hpos hq1
              go_wp2_with fail
              refine c2.mono ?_
              rintro e Y ⟨u, rfl, hqs, hk, _⟩
              clear c2
              obtain ⟨uA, uc, hsh, hu1, hu2⟩ := hqs.shape
              subst hsh
              have hLy := hLx.calm hk (fun _ h => h.elim)
              have hMy := blk_keeps hk hMx (fun h => h)
              clear hLx hMx hk
              have hks : Keeps (fun k => k = H) Y (Y.setCell ⟨H, x, none⟩ (encI q)) := Keeps.setCell _ _ _ _ rfl
              have hLn := hLy.calm hks (fun k h => by omega)
              have hMn := blk_set hMy x (encI q)
              rw [List.setIfInBounds_toArray, ← List.map_set (f := encI) (a := q), hset] at hMn
              have hcx : Y.cell? ⟨H, x, none⟩ = some (encI ((part (nxt t v) (t.length + 1) x).getD x 0)) := by
                rw [blk_cell hMy, List.getElem?_toArray, List.getElem?_map, List.getD_eq_getElem?_getD, List.getElem?_eq_getElem (by rw [part_length]; exact hxl)]; rfl
              have hfx : Y.frozen? ⟨H, x, none⟩ = false := blk_frozen hMy x
              clear hset hMy hLy hks
              generalize (part (nxt t v) (t.length + 1) x).getD x 0 = old at hcx
              obtain ⟨g, off, c', e', _, hcell, _⟩ := hqs.cell hpos
              injection e' with e1 _ e2
              subst e1; subst e2
              have hmx : (L.length : Int) ≤ 9223372036854775807 := by simp only [maxLen] at hu2; omega
              by_cases hL1 : L.length = 1
              · have h1 : Y.cell? ⟨g, off, none⟩ = some (encI q) := hcell 0 (encI q) (by rw [List.getElem?_map, hq1, if_pos hL1, List.getD_eq_getElem?_getD, List.getElem?_eq_getElem hpos]; rfl)
                clear hcell hq1 hqs
                generalize L.length = l at *
                subst hL1
                go_wp2_with fail
                go_roundw
                case rel => exact ⟨x + 1, by omega, by simp, hLn, hMn⟩
                case measure => simp [intOf]; omega
              · have h1 := hcell 1 (encI q) (by rw [List.getElem?_map, hq1, if_neg hL1, List.getD_eq_getElem?_getD, List.getElem?_eq_getElem (by omega)]; rfl)
                clear hcell hq1 hqs
                have hl2 : ¬ ((L.length : Int) - 1 < 1) := by omega
                have hl3 : (1 : Int) < (L.length : Int) := by omega
                generalize L.length = l at *
                clear hL1
                go_wp2_with fail
                go_roundw
                case rel => exact ⟨x + 1, by omega, by simp, hLn, hMn⟩
                case measure => simp [intOf]; omega
            · obtain rfl : x = t.length + 1 := by omega
              rw [part_all] at hMx
              have hrs := rowsOf_succ t v
              have hrl := rowOf_length t v
              have hrow : QS wr 3 1 (.slice (some ⟨H, 0, none⟩) (t.length + 1) (t.length + 1)) (rowOf t v).length ((rowOf t v).map encI) :=
                ⟨by simp, .inr ⟨H, 0, t.length + 1, _, by rw [hrl], hMx, by rw [hrl]; exact Nat.le_refl _, by simp only [maxLen]; omega, by simp [hrl], fun j hj => by simp⟩⟩
              have hHl : H < wr.heap.size := blk_lt hMx
              clear hMx
              generalize rowOf t v = ro at hrow hrs hrl
              obtain ⟨g1, g2, g3, g4, Eb, eb, Wb, wb, Nb, nb, k1, k2, k3, k4, k5, vs, k6, k7, k8, k9⟩ := hLx
              rw [rowsOf_length] at k6
              obtain ⟨_, _, _, y1, yf⟩ := k1.at_
              have hq0 : QS (wr.alloc (.cells #[.slice (some ⟨H, 0, none⟩) (t.length + 1) (t.length + 1)] 23)) 23 1 (.slice Nb v nb) v vs := k6.alloc _
              have hsrc : Src Try.prog 1 27 (.slice (some ⟨wr.heap.size, 0, none⟩) 1 1) 1 [.slice (some ⟨H, 0, none⟩) (t.length + 1) (t.length + 1)] (wr.alloc (.cells #[.slice (some ⟨H, 0, none⟩) (t.length + 1) (t.length + 1)] 23)) :=
                src_blk Try.underlying27 (blk_new _ _) rfl (by intro jj hjj'; match jj, hjj' with | 0, _ => rfl) (by intro u hu; simp at hu; subst hu; rfl)
              have HB : Hid (∀ w1, (wr.alloc (.cells #[.slice (some ⟨H, 0, none⟩) (t.length + 1) (t.length + 1)] 23)).grownBy w1 (Value.slice Nb v nb).ownBlock → Keeps (fun k => (Value.slice Nb v nb).ownBlock = some k) wr w1 ∧
                  PBox w1 w.heap.size (p.plan ((t.length : Int) + 1) (.slice Eb t.length eb) (.slice Wb ws.length wb) (.slice Nb v nb)) ∧ w1.cell? ⟨w.heap.size, 10, none⟩ = some (.slice Nb v nb) ∧ w1.frozen? ⟨w.heap.size, 10, none⟩ = false) := Lib.hid fun w1 hg => by
                have hk : Keeps (fun k => (Value.slice Nb v nb).ownBlock = some k) wr w1 := (Keeps.alloc _ _ _).trans (Keeps.grown hg (fun i h => h))
                have hb := blk_keeps hk k1 (fun e => by have := k7 _ e; omega)
                obtain ⟨_, _, _, y1, yf⟩ := PBox.at_ hb
                exact ⟨hk, hb, y1, yf 10⟩
              go_wp2_with (at_builtin; refine wpList_append_QS rfl _ _ 27 27 rfl 23 _ 1 24 Try.underlying27 info_ints rfl (.slice Nb v nb) v vs rfl hq0 _ 1 [.slice (some ⟨H, 0, none⟩) (t.length + 1) (t.length + 1)] rfl hsrc (by decide) (by omega) ?_; intro A1 c1 w1 hq1 hg1 ho1; obtain ⟨hk1, hb1, hc1, hf1⟩ := HB.out w1 hg1)
              have hk2 : Keeps (fun k => k = w.heap.size) w1 (w1.setCell ⟨w.heap.size, 10, none⟩ (.slice A1 (v + 1) c1)) := Keeps.setCell _ _ _ _ rfl
              have ho : ∀ k, (Value.slice A1 (v + 1) c1).ownBlock = some k → w.heap.size + 2 ≤ k := by
                intro k hk
                rcases ho1 with h | ⟨k', h, hle⟩
                · exact (k7 k (h ▸ hk)).1
                · rw [hk] at h; cases h; rw [World.size_alloc] at hle; omega
              have hs1 := hk1.size
              have hs2 := hk2.size
              have hke := k6.ne k2 (by decide)
              have hkw := k6.ne k4 (by decide)
              have hkr := k6.ne hrow (by decide)
              have hnew : LayAt w p t ws t.length (v + 1) (w1.setCell ⟨w.heap.size, 10, none⟩ (.slice A1 (v + 1) c1)).heap.size (w1.setCell ⟨w.heap.size, 10, none⟩ (.slice A1 (v + 1) c1)) := by
                refine ⟨(g1.then hk1 (fun k hk h => by have := k7 _ h; omega)).then hk2 (fun k hk h => by omega), by omega, by omega, blk_keeps hk2 (blk_keeps hk1 g4 (fun h => by have := k7 _ h; omega)) (by omega), Eb, eb, Wb, wb, A1, c1, PBox.next hb1 _,
                  (k2.keeps hk1 (fun k hv h => hke k h hv)).keeps hk2 (fun k hv h => by have := k3 k hv; omega), fun k hv => ⟨(k3 k hv).1, by have := (k3 k hv).2; omega⟩,
                  (k4.keeps hk1 (fun k hv h => hkw k h hv)).keeps hk2 (fun k hv h => by have := k5 k hv; omega), fun k hv => ⟨(k5 k hv).1, by have := (k5 k hv).2; omega⟩,
                  vs ++ [.slice (some ⟨H, 0, none⟩) (t.length + 1) (t.length + 1)], ?_, ?_, ?_, ?_⟩
                · rw [rowsOf_length]; exact hq1.keeps hk2 (fun k hv h => by have := ho k hv; omega)
                · intro k hv; exact ⟨ho k hv, Nat.lt_of_lt_of_le (hq1.lt k hv) hs2⟩
                · intro u hu
                  rcases List.mem_append.1 hu with h | h
                  · exact k8 u h
                  · rw [List.mem_singleton.1 h]; rfl
                · intro i u r hu hr
                  have hvl2 : vs.length = v := by have := k6.1; omega
                  rw [hrs] at hr
                  by_cases hi : i < v
                  · rw [List.getElem?_append_left (by omega)] at hu
                    rw [List.getElem?_append_left (by rw [rowsOf_length]; exact hi)] at hr
                    obtain ⟨q1, q2⟩ := k9 i u r hu hr
                    refine ⟨(q1.keeps hk1 (fun k hv h => (k6.ne q1 (by decide)) k h hv)).keeps hk2 (fun k hv h => by have := q2 k hv; omega), fun k hv => ⟨(q2 k hv).1, by have := (q2 k hv).2; omega⟩⟩
                  · rw [List.getElem?_append_right (by omega)] at hu
                    rw [List.getElem?_append_right (by rw [rowsOf_length]; omega)] at hr
                    obtain ⟨hi0, rfl⟩ : i - vs.length = 0 ∧ Value.slice (some ⟨H, 0, none⟩) (t.length + 1) (t.length + 1) = u := by
                      cases hd : i - vs.length with
                      | zero => rw [hd] at hu; exact ⟨rfl, by simpa using hu⟩
                      | succ k => rw [hd] at hu; simp at hu
                    have hr' : ro = r := by
                      rw [rowsOf_length, show i - v = 0 by omega] at hr; simpa using hr
                    subst hr'
                    refine ⟨(hrow.keeps hk1 (fun k hv h => hkr k h hv)).keeps hk2 (fun k hv h => by simp [Value.ownBlock] at hv; omega), fun k hv => ?_⟩
                    simp [Value.ownBlock] at hv; omega
              clear hq1 hb1 hc1 hf1 ho1 hg1 hk1 hk2 k1 k2 k4 k6 k9 hrow hrs hq0 hsrc HB
              go_wp2_with fail
              exact ⟨⟨v + 1, by omega, by simp, hnew⟩, by simp [intOf]; omega⟩
        · obtain rfl : v = t.length + 1 := by omega
          obtain ⟨g1, g2, g3, g4, Eb, eb, Wb, wb, Nb, nb, k1, k2, k3, k4, k5, k6⟩ := hL
          obtain rfl := hpe'.out
          obtain ⟨x0, x1, x2, x3, x4, x5, x6, x7, x8, x9, x10, xf⟩ := PBox.all k1
          obtain ⟨z0, z1, z2, z3, z4, z5, z6, z7, z8, z9, z10, zf⟩ := PBox.all g4
          go_wp2_with fail
          obtain ⟨hV, hkV⟩ := set11 g4 (.int .i64 ((t.length : Int) + 1)) (.slice Eb t.length eb) (.int .i64 lanes) (.int .i64 room) (.int .i64 queue) (.int .i64 rounds) (.int .i64 every) (.int .i64 bag) (.slice Wb ws.length wb) (.int .u16 start) (.slice Nb (t.length + 1) nb)
          obtain ⟨x0, x1, x2, x3, x4, x5, x6, x7, x8, x9, x10, xf⟩ := PBox.all hV
          refine bodyPost_ret (v := .tuple #[.agg #[.int .i64 ((t.length : Int) + 1), .slice Eb t.length eb, .int .i64 lanes, .int .i64 room, .int .i64 queue, .int .i64 rounds, .int .i64 every, .int .i64 bag, .slice Wb ws.length wb, .int .u16 start, .slice Nb (t.length + 1) nb], .int .u16 0]) ?_ rfl ?_
          · generalize World.setCell _ _ _ = V at x0 x1 x2 x3 x4 x5 x6 x7 x8 x9 x10 ⊢
            simp [results, Try.results12, go_sem, x0, x1, x2, x3, x4, x5, x6, x7, x8, x9, x10]
          · exact ⟨Eb, eb, Wb, wb, Nb, nb, rfl, k2.keeps hkV (fun k hv h => by have := k3 k hv; omega), fun k hv => by have := k3 k hv; omega, k4.keeps hkV (fun k hv h => by have := k5 k hv; omega), fun k hv => by have := k5 k hv; omega,
              (k6.keeps hkV (fun k h h1 h2 => by omega)).is (by omega), g1.then hkV (fun k h h1 => by omega)⟩
end Go.Proofs.Ytcgddbbniahimaa
