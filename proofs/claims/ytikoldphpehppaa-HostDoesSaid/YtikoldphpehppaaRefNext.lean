/-
  The walk over shunterref15's Next.
-/
import Derived.Test.YtikoldphpehppaaRefPut
set_option linter.unusedVariables false
set_option linter.unusedSimpArgs false
namespace Go.Proofs.Ytikoldphpehppaa
open Go.RowKit

theorem ofLane_snoc_no (l : List Pkt) (lane : Int) (k : Nat) (x : Pkt) (hx : l[k]? = some x) (hn : (x.lane == lane) = false) (h : ofLane (l.take k) lane = []) : ofLane (l.take (k + 1)) lane = [] := by
  rw [ofLane_take l lane k x hx, h, hn]; rfl

/-- One row of a struct's has turned, and the struct's own block. -/
theorem RowsOf.turned {w w' : World} {S : Nat → Prop} {b e N : Nat} {v : Nat → Value} {q : Nat → List Pkt} (h : RowsOf w S b e N v q) {i : Nat} (hi : i < N) {v' : Value} {l' : List Pkt}
    (hk : Keeps (fun k => k = b ∨ (v i).ownBlock = some k) w w') (hq : QS w' e 4 v' l'.length (pcells l')) (ho : v'.ownBlock = none ∨ v'.ownBlock = (v i).ownBlock ∨ ∃ g, v'.ownBlock = some g ∧ w.heap.size ≤ g) :
    RowsOf w' (fun k => S k ∨ (w.heap.size ≤ k ∧ k < w'.heap.size)) b e N (setAt v i v') (setAt q i l') ∧ Keeps S w w' := by
  have hb := h.lt b h.self
  have hnb : v'.ownBlock ≠ some b := by
    rcases ho with ho | ho | ⟨g, hg, hge⟩
    · rw [ho]; intro e; cases e
    · rw [ho]; exact h.off i hi
    · rw [hg]; intro e; injection e with e; omega
  refine ⟨⟨fun j hj => ?_, .inl h.self, fun j hj => ?_, fun j k hj hk' hne g hg => ?_, fun j hj k hk' => ?_, fun k hk' => ?_⟩, ?_⟩
  · by_cases e : j = i
    · subst e
      rw [setAt_same, setAt_same]
      exact hq
    · rw [setAt_other _ _ _ _ e, setAt_other _ _ _ _ e]
      exact (h.rows j hj).keeps hk (fun k hk' e' => e'.elim (fun e' => h.off j hj (by rw [hk', e'])) (fun e' => h.apart j i hj hi e k hk' e'))
  · by_cases e : j = i
    · subst e; rw [setAt_same]; exact hnb
    · rw [setAt_other _ _ _ _ e]; exact h.off j hj
  · by_cases e : j = i
    · subst e
      rw [setAt_same] at hg
      rw [setAt_other _ _ _ _ (Ne.symm hne)]
      rcases ho with ho | ho | ⟨g', hg', hge⟩
      · rw [ho] at hg; cases hg
      · exact h.apart j k hj hk' hne g (ho ▸ hg)
      · intro e'
        rw [hg'] at hg; injection hg with hg; subst hg
        have := h.lt _ (h.own k hk' _ e'); omega
    · rw [setAt_other _ _ _ _ e] at hg
      by_cases e2 : k = i
      · subst e2
        rw [setAt_same]
        rcases ho with ho | ho | ⟨g', hg', hge⟩
        · rw [ho]; intro e; cases e
        · rw [ho]; exact h.apart j k hj hk' hne g hg
        · intro e'
          rw [hg'] at e'; injection e' with e'; subst e'
          have := h.lt _ (h.own j hj _ hg); omega
      · rw [setAt_other _ _ _ _ e2]; exact h.apart j k hj hk' hne g hg
  · by_cases e : j = i
    · subst e
      rw [setAt_same] at hk'
      rcases ho with ho | ho | ⟨g', hg', hge⟩
      · rw [ho] at hk'; cases hk'
      · exact .inl (h.own j hj k (ho ▸ hk'))
      · rw [hg'] at hk'; injection hk' with hk'; subst hk'
        exact .inr ⟨hge, hq.lt _ hg'⟩
    · rw [setAt_other _ _ _ _ e] at hk'
      exact .inl (h.own j hj k hk')
  · rcases hk' with hk' | hk'
    · have := h.lt k hk'; have := hk.size; omega
    · exact hk'.2
  · exact hk.mono (fun k _ hk' => hk'.elim (fun e => e ▸ h.self) (fun hk' => h.own i hi k hk'))

/-- What Next has come to. -/
def RNext (w : World) (T E b n : Nat) (lane : Int) (l : List Pkt) (lanes queue vG : Value) (e : Ending) (w' : World) : Prop :=
  (ofLane l lane = [] ∧ e = .returned (.tuple #[.agg #[.int .i64 0, .int .i64 0, .int .i64 0, .int .u32 0], .bool false]) ∧ Keeps (fun _ => False) w w') ∨
  ∃ (k : Nat) (x : Pkt) (A : Option Addr) (c : Nat), l[k]? = some x ∧ (x.lane == lane) = true ∧ ofLane (l.take k) lane = [] ∧
    e = .returned (.tuple #[.agg #[.int .i64 x.src, .int .i64 x.dst, .int .i64 x.lane, .int .u32 x.body], .bool true]) ∧
    Keeps (fun i => i = b) w w' ∧ w'.heap[b]? = some (.cells #[lanes, queue, .slice A (n - 1) c, vG] T (0, 0)) ∧
    QS w' E 4 (.slice A (n - 1) c) (n - 1) (pcells (l.take k ++ l.drop (k + 1))) ∧ (∀ i, (Value.slice A (n - 1) c).ownBlock = some i → w.heap.size ≤ i)

/-- The last steps: the row is stored, the result is laid into its cell. -/
theorem rnext_end {w w2 : World} {T E b n m : Nat} {lane : Int} {l : List Pkt} {lanes queue vG v2 : Value} (hb : w.heap[b]? = some (.cells #[lanes, queue, v2, vG] T (0, 0))) (hk : Keeps (fun _ => False) w w2) {k : Nat} {x : Pkt} {A : Option Addr} {c : Nat}
    (hm : m = n - 1) (hx : l[k]? = some x) (hl : (x.lane == lane) = true) (hno : ofLane (l.take k) lane = []) (hq : QS w2 E 4 (.slice A m c) m (pcells (l.take k ++ l.drop (k + 1)))) (hsz : w.heap.size < w2.heap.size)
    (ho : (Value.slice A m c).ownBlock = none ∨ ∃ i, (Value.slice A m c).ownBlock = some i ∧ w.heap.size + 1 ≤ i) (u0 u1 u2 u3 : Value) :
    RNext w T E b n lane l lanes queue vG (.returned (.tuple #[.agg #[.int .i64 x.src, .int .i64 x.dst, .int .i64 x.lane, .int .u32 x.body], .bool true]))
      (((((w2.setCell ⟨b, 2, none⟩ (.slice A m c)).setCell ⟨w.heap.size, 0, none⟩ u0).setCell ⟨w.heap.size, 1, none⟩ u1).setCell ⟨w.heap.size, 2, none⟩ u2).setCell ⟨w.heap.size, 3, none⟩ u3) := by
  have hbl := blk_lt hb
  subst hm
  have hob : ∀ i, (Value.slice A (n - 1) c).ownBlock = some i → w.heap.size + 1 ≤ i := fun i hi => by
    rcases ho with h | ⟨j, h, h'⟩
    · rw [h] at hi; cases hi
    · rw [h] at hi; injection hi with hi; omega
  refine .inr ⟨k, x, A, c, hx, hl, hno, rfl, ?_, ?_, ?_, fun i hi => by have := hob i hi; omega⟩
  · exact (((((hk.mono (fun _ _ h => h.elim)).trans (Keeps.setCell (fun i => i = b) _ ⟨b, 2, none⟩ _ rfl)).then (Keeps.setCell (fun i => i = w.heap.size) _ ⟨w.heap.size, 0, none⟩ _ rfl) (fun i hi h => by omega)).then (Keeps.setCell (fun i => i = w.heap.size) _ ⟨w.heap.size, 1, none⟩ _ rfl) (fun i hi h => by omega)).then (Keeps.setCell (fun i => i = w.heap.size) _ ⟨w.heap.size, 2, none⟩ _ rfl) (fun i hi h => by omega)).then (Keeps.setCell (fun i => i = w.heap.size) _ ⟨w.heap.size, 3, none⟩ _ rfl) (fun i hi h => by omega)
  · have h1 := blk_set (blk_keeps hk hb (fun h => h)) 2 (.slice A (n - 1) c)
    exact blk_other (blk_other (blk_other (blk_other h1 _ _ (by show b ≠ w.heap.size; omega)) _ _ (by show b ≠ w.heap.size; omega)) _ _ (by show b ≠ w.heap.size; omega)) _ _ (by show b ≠ w.heap.size; omega)
  · have hne : ∀ i, (Value.slice A (n - 1) c).ownBlock = some i → i ≠ w.heap.size := fun i hi => by have := hob i hi; omega
    exact ((((hq.other ⟨b, 2, none⟩ _ (fun i hi => by have := hob i hi; show i ≠ b; omega)).other ⟨w.heap.size, 0, none⟩ _ hne).other ⟨w.heap.size, 1, none⟩ _ hne).other ⟨w.heap.size, 2, none⟩ _ hne).other ⟨w.heap.size, 3, none⟩ _ hne

/-- The result's cell, behind these steps. -/
theorem rnext_cells {w2 : World} {b z E : Nat} {e0 e1 e2 e3 u0 u1 u2 u3 s : Value} (hz : w2.heap[z]? = some (.cells #[e0, e1, e2, e3] E (0, 0))) (hne : z ≠ b) :
    (((((w2.setCell ⟨b, 2, none⟩ s).setCell ⟨z, 0, none⟩ u0).setCell ⟨z, 1, none⟩ u1).setCell ⟨z, 2, none⟩ u2).setCell ⟨z, 3, none⟩ u3).heap[z]? = some (.cells #[u0, u1, u2, u3] E (0, 0)) :=
  blk_set (blk_set (blk_set (blk_set (blk_other hz _ _ hne) 0 u0) 1 u1) 2 u2) 3 u3

set_option maxHeartbeats 2000000 in
theorem rnext_low (b n g o cp : Nat) (lane : Int) (l : List Pkt) (lanes queue : Value) (vG : Value) (w : World) (hb : w.heap[b]? = some (.cells #[lanes, queue, .slice (some ⟨g, o, none⟩) n cp, vG] 48 (0, 0)))
    (hQ : QS w 27 4 (.slice (some ⟨g, o, none⟩) n cp) n (pcells l)) (hgb : g ≠ b) (hn : n ≤ 1000000000) (hncp : n ≤ cp) :
    Calls Try.prog 16 #[.pointer (some ⟨b, 0, none⟩), .int .i64 lane] w (RNext w 48 27 b n lane l lanes queue vG) := by
  have hl : l.length = n := by have := hQ.1; rw [pcells_length] at this; omega
  have hl' := Lib.hid hl
  clear hl
  go_enter Try.func16, Try.ntmps16
  go_wp2_with fail
  have hbl := blk_lt hb
  have hgl := hQ.lt g rfl
  have c2 : w.cell? ⟨b, 2, none⟩ = some (.slice (some ⟨g, o, none⟩) n cp) := by rw [blk_cell hb]; rfl
  have f2 : w.frozen? ⟨b, 2, none⟩ = false := blk_frozen hb 2
  have hR := hQ.reads (by decide)
  go_loop [6] (fun i => ∃ k : Nat, k ≤ n ∧ i = .int .i64 k ∧ ofLane (l.take k) lane = []) (fun i => n - (intOf i).toNat)
  case atStart => exact ⟨0, by omega, rfl, rfl⟩
  case round =>
    obtain ⟨k, hk, rfl, hno⟩ := hrel
    have hno' := Lib.hid hno
    clear hno
    by_cases hlt : k < n
    · obtain ⟨x, hx⟩ : ∃ x, l[k]? = some x := ⟨_, List.getElem?_eq_getElem (by rw [hl'.out]; exact hlt)⟩
      obtain ⟨g', o', d', e1, gB, p0, p1, p2, p3⟩ := hR.pkt x hx
      injection e1 with e1 _ e1'
      injection e1 with e1
      injection e1 with e1 e2
      subst e1; subst e2; subst e1'
      have hx' := Lib.hid hx
      clear hx
      have hlt' : (k : Int) < n := by omega
      by_cases hxl : (x.lane == lane) = true
      · by_cases hcap : cp = k + 1
        · obtain rfl : n = k + 1 := by omega
          subst hcap
          obtain ⟨W, hW⟩ : ∃ W, (w.alloc (.cells #[.int .i64 0, .int .i64 0, .int .i64 0, .int .u32 0] 27)).alloc (pktObj x 27) = W := ⟨_, rfl⟩
          have hKW : Keeps (fun _ => False) w W := by rw [← hW]; exact (Keeps.alloc _ _ _).trans (Keeps.alloc _ _ _)
          have hxW : W.heap[w.heap.size + 1]? = some (.cells #[.int .i64 x.src, .int .i64 x.dst, .int .i64 x.lane, .int .u32 x.body] 27 (0, 0)) := by
            rw [← hW]; have := blk_new (w.alloc (.cells #[.int .i64 0, .int .i64 0, .int .i64 0, .int .u32 0] 27)) (pktObj x 27); rwa [World.size_alloc] at this
          have hzW : W.heap[w.heap.size]? = some (.cells #[.int .i64 0, .int .i64 0, .int .i64 0, .int .u32 0] 27 (0, 0)) := by
            rw [← hW]; exact blk_alloc (blk_new w _) _
          have hszW : W.heap.size = w.heap.size + 2 := by rw [← hW]; simp
          have hS1 := ((hQ.keeps hKW (fun _ _ h => h)).take k hk).src (P := Try.prog) (tx := 31) Try.underlying31 (fun u hu => pcells_one l u (List.mem_of_mem_take hu))
          have hb1 : (0 + k) * 32 ≤ 140737488355328 := by omega
          have h32 : 0 < 32 := by decide
          have hb2 : (k + 0) * 32 ≤ 140737488355328 := by omega
          have HB1 := Lib.hid (p := ∀ w1, W.grownBy w1 (Value.slice none 0 0).ownBlock → Keeps (fun _ => False) W w1 ∧ w1.cell? ⟨b, 2, none⟩ = some (.slice (some ⟨g, o, none⟩) (k + 1) (k + 1)) ∧ Src Try.prog 4 31 (.slice (some ⟨g, o, none⟩) 0 0) 0 ([]) w1)
            (fun w1 hg => by
              have hk0 : Keeps (fun _ => False) W w1 := Keeps.grown hg (fun i hi => by cases hi)
              have hk1 : Keeps (fun _ => False) w w1 := hKW.trans hk0
              exact ⟨hk0, hk1.cell c2 (fun h => h), ((hQ.keeps hk1 (fun _ _ h => h)).dropAll).src (P := Try.prog) (tx := 31) Try.underlying31 (fun u hu => by cases hu)⟩)
          have HB2 := Lib.hid (p := ∀ w1 w2 (A1 : Option Addr) (c1 : Nat), Keeps (fun _ => False) W w1 → w1.grownBy w2 (Value.slice A1 k c1).ownBlock → ((Value.slice A1 k c1).ownBlock = none ∨ ∃ b, (Value.slice A1 k c1).ownBlock = some b ∧ W.heap.size ≤ b) →
              Keeps (fun _ => False) w w2 ∧ w2.cell? ⟨b, 2, none⟩ = some (.slice (some ⟨g, o, none⟩) (k + 1) (k + 1)) ∧ w2.frozen? ⟨b, 2, none⟩ = false ∧ w2.heap[w.heap.size]? = some (.cells #[.int .i64 0, .int .i64 0, .int .i64 0, .int .u32 0] 27 (0, 0)) ∧ w2.heap[w.heap.size + 1]? = some (.cells #[.int .i64 x.src, .int .i64 x.dst, .int .i64 x.lane, .int .u32 x.body] 27 (0, 0)))
            (fun w1 w2 A1 c1 hk0 hg ho => by
              have hk2 : Keeps (fun _ => False) W w2 := hk0.then (Keeps.grown (F := fun i => W.heap.size ≤ i) hg (fun i hi => by
                rcases ho with h | ⟨b', h, h'⟩
                · rw [h] at hi; cases hi
                · rw [h] at hi; injection hi with hi; omega)) (fun i hi h => by omega)
              have hk3 := hKW.trans hk2
              exact ⟨hk3, hk3.cell c2 (fun h => h), (hk3.frozen c2 (fun h => h)).trans f2, blk_keeps hk2 hzW (fun h => h), blk_keeps hk2 hxW (fun h => h)⟩)
          rw [← hW] at hS1 HB1
          clear hKW
          subst hW
          go_wp2_with (first | (at_builtin; refine wpList_append_QS rfl (.tmp 35) (.tmp 41) 31 31 rfl 27 _ 4 32 Try.underlying31 info_pkt rfl _ 0 [] rfl (QS.nil _ _ _) _ k _ rfl hS1 h32 hb1 ?_; intro A1 c1 w1 hq1 hg1 ho1; obtain ⟨hk1, c21, hS2⟩ := HB1.out w1 hg1; simp only [Nat.zero_add, List.nil_append] at hq1 ho1) | (at_builtin; refine wpList_append_QS rfl (.tmp 43) (.tmp 50) 31 31 rfl 27 _ 4 32 Try.underlying31 info_pkt rfl _ k _ rfl hq1 _ 0 _ rfl hS2 h32 hb2 ?_; intro A2 c2' w2 hq2 hg2 ho2; obtain ⟨hk2, c22, f22, hz2, hx2⟩ := HB2.out w1 w2 A1 c1 hk1 hg2 ho1; have z0 := blk_cell hz2 0; have z1 := blk_cell hz2 1; have z2 := blk_cell hz2 2; have z3 := blk_cell hz2 3; have zf0 := blk_frozen hz2 0; have zf1 := blk_frozen hz2 1; have zf2 := blk_frozen hz2 2; have zf3 := blk_frozen hz2 3; have xx0 := blk_cell hx2 0; have xx1 := blk_cell hx2 1; have xx2 := blk_cell hx2 2; have xx3 := blk_cell hx2 3; simp only [List.getElem?_toArray] at z0 z1 z2 z3 xx0 xx1 xx2 xx3))
          have hsz2 : w.heap.size < w2.heap.size := blk_lt hz2
          have hfin := rnext_cells (s := .slice A2 k c2') (u0 := .int .i64 x.src) (u1 := .int .i64 x.dst) (u2 := .int .i64 x.lane) (u3 := .int .u32 x.body) hz2 (show w.heap.size ≠ b by omega)
          have r0 := blk_cell hfin 0
          have r1 := blk_cell hfin 1
          have r2 := blk_cell hfin 2
          have r3 := blk_cell hfin 3
          simp only [List.getElem?_toArray] at r0 r1 r2 r3
          refine bodyPost_ret (v := .tuple #[.agg #[.int .i64 x.src, .int .i64 x.dst, .int .i64 x.lane, .int .u32 x.body], .bool true]) (by simp [results, Try.results16, go_sem, r0, r1, r2, r3]) rfl ?_
          refine rnext_end hb hk2 (by omega) hx'.out hxl hno'.out ?_ hsz2 ?_ _ _ _ _
          · have e1 : pcells (l.take k ++ l.drop (k + 1)) = (pcells l).take (k * 4) := by
              rw [show l.drop (k + 1) = [] from List.drop_of_length_le (by rw [hl'.out]; exact Nat.le_refl _), List.append_nil, pcells_take]
            rw [e1]; simpa using hq2
          · rcases ho2 with h | ⟨i, h, h'⟩
            · rcases ho1 with g1 | ⟨j, g1, g2⟩
              · exact .inl (h.trans g1)
              · exact .inr ⟨j, h.trans g1, by simp at g2; omega⟩
            · exact .inr ⟨i, h, by have := hk1.size; simp at this; omega⟩
        · have hcap' : (cp == k + 1) = false := beq_eq_false_iff_ne.2 hcap
          obtain ⟨W, hW⟩ : ∃ W, (w.alloc (.cells #[.int .i64 0, .int .i64 0, .int .i64 0, .int .u32 0] 27)).alloc (pktObj x 27) = W := ⟨_, rfl⟩
          have hKW : Keeps (fun _ => False) w W := by rw [← hW]; exact (Keeps.alloc _ _ _).trans (Keeps.alloc _ _ _)
          have hxW : W.heap[w.heap.size + 1]? = some (.cells #[.int .i64 x.src, .int .i64 x.dst, .int .i64 x.lane, .int .u32 x.body] 27 (0, 0)) := by
            rw [← hW]; have := blk_new (w.alloc (.cells #[.int .i64 0, .int .i64 0, .int .i64 0, .int .u32 0] 27)) (pktObj x 27); rwa [World.size_alloc] at this
          have hzW : W.heap[w.heap.size]? = some (.cells #[.int .i64 0, .int .i64 0, .int .i64 0, .int .u32 0] 27 (0, 0)) := by
            rw [← hW]; exact blk_alloc (blk_new w _) _
          have hszW : W.heap.size = w.heap.size + 2 := by rw [← hW]; simp
          have hS1 := ((hQ.keeps hKW (fun _ _ h => h)).take k hk).src (P := Try.prog) (tx := 31) Try.underlying31 (fun u hu => pcells_one l u (List.mem_of_mem_take hu))
          have hb1 : (0 + k) * 32 ≤ 140737488355328 := by omega
          have h32 : 0 < 32 := by decide
          have hb2 : (k + (n - (k + 1))) * 32 ≤ 140737488355328 := by omega
          have HB1 := Lib.hid (p := ∀ w1, W.grownBy w1 (Value.slice none 0 0).ownBlock → Keeps (fun _ => False) W w1 ∧ w1.cell? ⟨b, 2, none⟩ = some (.slice (some ⟨g, o, none⟩) n cp) ∧ Src Try.prog 4 31 (.slice (some ⟨g, o + (k + 1) * 4, none⟩) (n - (k + 1)) (cp - (k + 1))) (n - (k + 1)) ((pcells l).drop ((k + 1) * 4)) w1)
            (fun w1 hg => by
              have hk0 : Keeps (fun _ => False) W w1 := Keeps.grown hg (fun i hi => by cases hi)
              have hk1 : Keeps (fun _ => False) w w1 := hKW.trans hk0
              exact ⟨hk0, hk1.cell c2 (fun h => h), ((hQ.keeps hk1 (fun _ _ h => h)).drop (k + 1) hlt).src (P := Try.prog) (tx := 31) Try.underlying31 (fun u hu => pcells_one l u (List.mem_of_mem_drop hu))⟩)
          have HB2 := Lib.hid (p := ∀ w1 w2 (A1 : Option Addr) (c1 : Nat), Keeps (fun _ => False) W w1 → w1.grownBy w2 (Value.slice A1 k c1).ownBlock → ((Value.slice A1 k c1).ownBlock = none ∨ ∃ b, (Value.slice A1 k c1).ownBlock = some b ∧ W.heap.size ≤ b) →
              Keeps (fun _ => False) w w2 ∧ w2.cell? ⟨b, 2, none⟩ = some (.slice (some ⟨g, o, none⟩) n cp) ∧ w2.frozen? ⟨b, 2, none⟩ = false ∧ w2.heap[w.heap.size]? = some (.cells #[.int .i64 0, .int .i64 0, .int .i64 0, .int .u32 0] 27 (0, 0)) ∧ w2.heap[w.heap.size + 1]? = some (.cells #[.int .i64 x.src, .int .i64 x.dst, .int .i64 x.lane, .int .u32 x.body] 27 (0, 0)))
            (fun w1 w2 A1 c1 hk0 hg ho => by
              have hk2 : Keeps (fun _ => False) W w2 := hk0.then (Keeps.grown (F := fun i => W.heap.size ≤ i) hg (fun i hi => by
                rcases ho with h | ⟨b', h, h'⟩
                · rw [h] at hi; cases hi
                · rw [h] at hi; injection hi with hi; omega)) (fun i hi h => by omega)
              have hk3 := hKW.trans hk2
              exact ⟨hk3, hk3.cell c2 (fun h => h), (hk3.frozen c2 (fun h => h)).trans f2, blk_keeps hk2 hzW (fun h => h), blk_keeps hk2 hxW (fun h => h)⟩)
          rw [← hW] at hS1 HB1
          clear hKW
          subst hW
          go_wp2_with (first | (at_builtin; refine wpList_append_QS rfl (.tmp 35) (.tmp 41) 31 31 rfl 27 _ 4 32 Try.underlying31 info_pkt rfl _ 0 [] rfl (QS.nil _ _ _) _ k _ rfl hS1 h32 hb1 ?_; intro A1 c1 w1 hq1 hg1 ho1; obtain ⟨hk1, c21, hS2⟩ := HB1.out w1 hg1; simp only [Nat.zero_add, List.nil_append] at hq1 ho1) | (at_builtin; refine wpList_append_QS rfl (.tmp 43) (.tmp 50) 31 31 rfl 27 _ 4 32 Try.underlying31 info_pkt rfl _ k _ rfl hq1 _ (n - (k + 1)) _ rfl hS2 h32 hb2 ?_; intro A2 c2' w2 hq2 hg2 ho2; obtain ⟨hk2, c22, f22, hz2, hx2⟩ := HB2.out w1 w2 A1 c1 hk1 hg2 ho1; have z0 := blk_cell hz2 0; have z1 := blk_cell hz2 1; have z2 := blk_cell hz2 2; have z3 := blk_cell hz2 3; have zf0 := blk_frozen hz2 0; have zf1 := blk_frozen hz2 1; have zf2 := blk_frozen hz2 2; have zf3 := blk_frozen hz2 3; have xx0 := blk_cell hx2 0; have xx1 := blk_cell hx2 1; have xx2 := blk_cell hx2 2; have xx3 := blk_cell hx2 3; simp only [List.getElem?_toArray] at z0 z1 z2 z3 xx0 xx1 xx2 xx3))
          have hsz2 : w.heap.size < w2.heap.size := blk_lt hz2
          have hfin := rnext_cells (s := .slice A2 (k + (n - (k + 1))) c2') (u0 := .int .i64 x.src) (u1 := .int .i64 x.dst) (u2 := .int .i64 x.lane) (u3 := .int .u32 x.body) hz2 (show w.heap.size ≠ b by omega)
          have r0 := blk_cell hfin 0
          have r1 := blk_cell hfin 1
          have r2 := blk_cell hfin 2
          have r3 := blk_cell hfin 3
          simp only [List.getElem?_toArray] at r0 r1 r2 r3
          refine bodyPost_ret (v := .tuple #[.agg #[.int .i64 x.src, .int .i64 x.dst, .int .i64 x.lane, .int .u32 x.body], .bool true]) (by simp [results, Try.results16, go_sem, r0, r1, r2, r3]) rfl ?_
          refine rnext_end hb hk2 (by omega) hx'.out hxl hno'.out ?_ hsz2 ?_ _ _ _ _
          · have e1 : pcells (l.take k ++ l.drop (k + 1)) = (pcells l).take (k * 4) ++ (pcells l).drop ((k + 1) * 4) := by
              rw [pcells_append, pcells_take, pcells_drop]
            rw [e1]; exact hq2
          · rcases ho2 with h | ⟨i, h, h'⟩
            · rcases ho1 with g1 | ⟨j, g1, g2⟩
              · exact .inl (h.trans g1)
              · exact .inr ⟨j, h.trans g1, by simp at g2; omega⟩
            · exact .inr ⟨i, h, by have := hk1.size; simp at this; omega⟩
      · have hxl' : (x.lane == lane) = false := by simpa using hxl
        have hno1 := Lib.hid (ofLane_snoc_no l lane k x hx'.out hxl' hno'.out)
        clear hxl
        go_wp2_with fail
        go_round
        case rel => exact ⟨k + 1, by omega, by go_num, hno1.out⟩
        case measure => simp [intOf]; omega
    · obtain rfl : n = k := by omega
      have hno1 : ofLane l lane = [] := by have := hno'.out; rwa [List.take_of_length_le (by rw [hl'.out]; exact Nat.le_refl _)] at this
      have hno1' := Lib.hid hno1
      clear hno1
      go_wp2_with fail
      refine bodyPost_ret (v := .tuple #[.agg #[.int .i64 0, .int .i64 0, .int .i64 0, .int .u32 0], .bool false]) (by simp [results, Try.results16, go_sem]) rfl (.inl ⟨hno1'.out, rfl, ?_⟩)
      exact Keeps.alloc _ _ _

/-- What is left when the k-th is taken out. -/
def without (l : List Pkt) (k : Nat) : List Pkt := l.take k ++ l.drop (k + 1)
theorem without_length (l : List Pkt) (k : Nat) (h : k < l.length) : (without l k).length = l.length - 1 := by
  unfold without; rw [List.length_append, List.length_take, List.length_drop]; omega
theorem split_at (l : List Pkt) (k : Nat) (x : Pkt) (h : l[k]? = some x) : l = l.take k ++ x :: l.drop (k + 1) := by
  obtain ⟨hk, rfl⟩ := List.getElem?_eq_some_iff.1 h
  rw [← List.drop_eq_getElem_cons hk, List.take_append_drop]
theorem ofLane_split (l : List Pkt) (k : Nat) (x : Pkt) (lane : Int) (h : l[k]? = some x) : ofLane l lane = ofLane (l.take k) lane ++ ((if (x.lane == lane) = true then [x] else []) ++ ofLane (l.drop (k + 1)) lane) := by
  have := congrArg (fun l => ofLane l lane) (split_at l k x h)
  simp only [ofLane, List.filter_append, List.filter_cons] at this ⊢
  rw [this]
  split <;> simp
theorem ofLane_without (l : List Pkt) (k : Nat) (lane : Int) : ofLane (without l k) lane = ofLane (l.take k) lane ++ ofLane (l.drop (k + 1)) lane := by
  unfold without ofLane; rw [List.filter_append]

/-- Next, told by lists. -/
theorem rnext_ok {S : Nat → Prop} {l g : List Pkt} (b : Nat) (lane lanes queue : Int) (w : World) (h : RefV w S 48 27 b lanes queue l g) (hn : l.length ≤ 1000000000) (x : Pkt) (r : List Pkt) (hx : ofLane l lane = x :: r) :
    Calls Try.prog 16 #[.pointer (some ⟨b, 0, none⟩), .int .i64 lane] w fun e w' => e = .returned (.tuple #[.agg #[.int .i64 x.src, .int .i64 x.dst, .int .i64 x.lane, .int .u32 x.body], .bool true]) ∧
      ∃ l', RefNow w w' S 48 27 b lanes queue l' g ∧ ofLane l' lane = r ∧ (∀ m, m ≠ lane → ofLane l' m = ofLane l m) ∧ l'.length + 1 = l.length ∧ ∀ y ∈ l', y ∈ l := by
  obtain ⟨v, hb, hr⟩ := h
  have hQ : QS w 27 4 (v 0) l.length (pcells l) := hr.rows 0 (by omega)
  have hlen : 0 < l.length := by
    cases l with
    | nil => cases hx
    | cons a l => simp
  obtain ⟨gg, o, cp, hv, hncp, _, _⟩ := hQ.cell hlen
  have hoff := hr.off 0 (by omega)
  have hb' := hb
  rw [hv] at hQ hb' hoff
  refine (rnext_low b l.length gg o cp lane l _ _ _ w hb' hQ (fun e => hoff (by rw [e]; rfl)) hn hncp).mono ?_
  rintro e w' (⟨h0, _⟩ | ⟨k, y, A, c, hy, hyl, hno, rfl, hk, hb2, hq, ho⟩)
  · rw [h0] at hx; cases hx
  · have hs := ofLane_split l k y lane hy
    rw [hno, if_pos hyl, hx] at hs
    simp only [List.nil_append, List.cons_append, List.cons.injEq] at hs
    obtain ⟨rfl, hr2⟩ := hs
    have hkl := (List.getElem?_eq_some_iff.1 hy).1
    have hwl := without_length l k hkl
    obtain ⟨r1, r2⟩ := hr.turned (w' := w') (i := 0) (by omega) (v' := .slice A (l.length - 1) c) (l' := without l k) (hk.mono (fun _ _ h => .inl h)) (by rw [hwl]; exact hq)
      (by
        cases hA : (Value.slice A (l.length - 1) c).ownBlock with
        | some i => exact .inr (.inr ⟨i, rfl, ho i hA⟩)
        | none => exact .inl rfl)
    refine ⟨rfl, without l k, ⟨_, ⟨setAt v 0 (.slice A (l.length - 1) c), hb2, ⟨fun j hj => ?_, r1.self, r1.off, r1.apart, r1.own, r1.lt⟩⟩, r2, fun k hk => hk.imp id And.left⟩, ?_, fun m hm => ?_, by omega, fun y hy => ?_⟩
    · have := r1.rows j hj
      match j, hj with
      | 0, _ => exact this
      | 1, _ => exact this
    · rw [ofLane_without, hno, hr2]; rfl
    · rw [ofLane_without, ofLane_split l k x m hy, if_neg (by have : x.lane = lane := by simpa using hyl
                                                              simp; omega)]; rfl
    · rcases List.mem_append.1 hy with hy | hy
      · exact List.mem_of_mem_take hy
      · exact List.mem_of_mem_drop hy

set_option maxHeartbeats 400000 in
theorem rnext_zero (b cp : Nat) (A : Option Addr) (lane : Int) (w : World) (hb : b < w.heap.size) (c2 : w.cell? ⟨b, 2, none⟩ = some (.slice A 0 cp)) :
    Calls Try.prog 16 #[.pointer (some ⟨b, 0, none⟩), .int .i64 lane] w fun e w' => e = .returned (.tuple #[.agg #[.int .i64 0, .int .i64 0, .int .i64 0, .int .u32 0], .bool false]) ∧ Keeps (fun _ => False) w w' := by
  go_enter Try.func16, Try.ntmps16
  go_wp2_with fail
  go_loop [6] (fun i => i = .int .i64 0) (fun i => 0)
  case atStart => rfl
  case round =>
    subst hrel
    go_wp2_with fail
    exact bodyPost_ret (v := .tuple #[.agg #[.int .i64 0, .int .i64 0, .int .i64 0, .int .u32 0], .bool false]) (by simp [results, Try.results16, go_sem]) rfl ⟨rfl, Keeps.alloc _ _ _⟩

theorem rnext_none {S : Nat → Prop} {l g : List Pkt} (b : Nat) (lane lanes queue : Int) (w : World) (h : RefV w S 48 27 b lanes queue l g) (hn : l.length ≤ 1000000000) (hx : ofLane l lane = []) :
    Calls Try.prog 16 #[.pointer (some ⟨b, 0, none⟩), .int .i64 lane] w fun e w' => e = .returned (.tuple #[.agg #[.int .i64 0, .int .i64 0, .int .i64 0, .int .u32 0], .bool false]) ∧ Keeps (fun _ => False) w w' := by
  obtain ⟨v, hb, hr⟩ := h
  have hQ : QS w 27 4 (v 0) l.length (pcells l) := hr.rows 0 (by omega)
  rcases Nat.eq_zero_or_pos l.length with h0 | hlen
  · obtain ⟨A, cp, hv, _⟩ := hQ.shape
    rw [h0] at hv
    exact rnext_zero b cp A lane w (blk_lt hb) (by rw [blk_cell hb]; show some (v 0) = _; rw [hv])
  · obtain ⟨gg, o, cp, hv, hncp, _, _⟩ := hQ.cell hlen
    have hoff := hr.off 0 (by omega)
    rw [hv] at hQ hb hoff
    refine (rnext_low b l.length gg o cp lane l _ _ _ w hb hQ (fun e => hoff (by rw [e]; rfl)) hn hncp).mono ?_
    rintro e w' (⟨_, he, hk⟩ | ⟨k, y, A, c, hy, hyl, hno, _⟩)
    · exact ⟨he, hk⟩
    · have hs := ofLane_split l k y lane hy
      rw [hno, if_pos hyl, hx] at hs
      cases hs

end Go.Proofs.Ytikoldphpehppaa
