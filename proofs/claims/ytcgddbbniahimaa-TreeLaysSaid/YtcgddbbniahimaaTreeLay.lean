/-
  Clone, and Lay, walked.
-/
import Derived.Test.YtcgddbbniahimaaTreePathTop
import Derived.Deep.OwnRows
import Derived.Lib.SliceRun
set_option linter.unusedVariables false
set_option linter.unusedSimpArgs false
namespace Go.Proofs.Ytcgddbbniahimaa
open Go.RowKit

theorem Reads.src {P : Program} {w : World} {tx e' B sz n : Nat} {v : Value} {cs : List Value} (h : Reads w B sz v n cs) (hk : P.underlying tx = some (.slice e')) (h1 : ∀ u ∈ cs, u.oneCell' = true) : Src P sz tx v n cs w := by
  rcases Nat.eq_zero_or_pos cs.length with h0 | h0
  · obtain rfl := List.eq_nil_of_length_eq_zero h0
    obtain ⟨hl, A, c, rfl, hnc, _, h5⟩ := h
    rcases Nat.eq_zero_or_pos n with hn | hn
    · subst hn
      cases A with
      | none => exact Src.ofNil w hk c
      | some a => exact Src.ofSlice w hk a 0 c [] (by simp) (fun j u hu => by simp at hu) h1
    · obtain ⟨ad, rfl, _, _⟩ := h5 hn
      exact Src.ofSlice w hk ad n c [] hl (fun j u hu => by simp at hu) h1
  · obtain ⟨g, off, c, rfl, _, _, hc⟩ := h.at_ h0
    exact Src.ofSlice w hk _ _ _ _ h.1 (fun j u hu => by rw [Addr.add_lit]; exact hc j u hu) h1
theorem one_ints (zs : List Int) : ∀ u ∈ zs.map encZ, u.oneCell' = true := by
  intro u hu
  obtain ⟨z, _, rfl⟩ := List.mem_map.1 hu
  rfl

set_option maxHeartbeats 2000000 in
theorem clone_calls (fv : Value) (ps : List Int) (w : World) (h : Reads w w.heap.size 1 fv ps.length (ps.map encZ)) (hb : ps.length * 8 ≤ 140737488355328) :
    Calls Try.prog 24 #[fv] w fun e w' => ∃ u, e = .returned u ∧ QS w' 3 1 u ps.length (ps.map encZ) ∧ Keeps (fun _ => False) w w' ∧ ∀ k, u.ownBlock = some k → w.heap.size ≤ k := by
  obtain ⟨A, c, hsh⟩ : ∃ A c, fv = .slice A ps.length c := by obtain ⟨_, A, c, h, _⟩ := h; exact ⟨A, c, h⟩
  subst hsh
  cases A with
  | none =>
    have hn : ps.length = 0 := by
      obtain ⟨_, A, c', e, _, _, h5⟩ := h
      injection e with e1 _ _
      rcases Nat.eq_zero_or_pos ps.length with h0 | h0
      · exact h0
      · obtain ⟨ad, e2, _⟩ := h5 h0
        rw [← e1] at e2; cases e2
    obtain rfl := List.eq_nil_of_length_eq_zero hn
    have he := fun w => Go.Lib.run_eql_slice_nil (P := Try.prog) w 23 3 none 0 c 0 0 Try.underlying23
    simp only [Option.isNone] at he
    go_enter Try.func24, Try.ntmps24
    go_wp2_with fail
    go_ret
    exact ⟨_, rfl, QS.nil _ _ _, Keeps.refl _ _, fun k h => by cases h⟩
  | some a =>
    have h2 : Reads (w.alloc (.cells #[] 3)) (w.alloc (.cells #[] 3)).heap.size 1 (.slice (some a) ps.length c) ps.length (ps.map encZ) := by
      obtain ⟨h1, A, c', e, h2, h3, h5⟩ := h
      refine ⟨h1, A, c', e, h2, h3, fun hn => ?_⟩
      obtain ⟨ad, e, hlt, hc⟩ := h5 hn
      exact ⟨ad, e, by rw [World.size_alloc]; omega, fun j u hu => (Keeps.alloc (fun _ => False) w _).cell (hc j u hu) (fun h => h)⟩
    have he := fun w => Go.Lib.run_eql_slice_nil (P := Try.prog) w 23 3 (some a) ps.length c 0 0 Try.underlying23
    simp only [Option.isNone] at he
    have hsrc := h2.src Try.underlying23 (one_ints ps)
    have hq0 : QS (w.alloc (.cells #[] 3)) 3 1 (.slice (some ⟨w.heap.size, 0, none⟩) 0 0) 0 [] := ⟨rfl, .inr ⟨w.heap.size, 0, 0, _, rfl, blk_new _ _, Nat.le_refl _, Nat.zero_le _, by simp, fun j hj => absurd hj (Nat.not_lt_zero _)⟩⟩
    go_enter Try.func24, Try.ntmps24
    go_wp2_with (at_builtin; refine wpList_append_QS rfl _ _ 23 23 rfl 3 _ 1 8 Try.underlying23 info_int rfl (.slice (some ⟨w.heap.size, 0, none⟩) 0 0) 0 [] rfl hq0 _ ps.length (ps.map encZ) rfl hsrc (by decide) (by omega) ?_; intro A1 c1 w1 hq1 hg1 ho1; rw [Nat.zero_add] at hq1 ho1 ⊢; rw [List.nil_append] at hq1)
    go_ret
    refine ⟨.slice A1 ps.length c1, rfl, hq1, ?_, fun k hk => ?_⟩
    · exact (Keeps.alloc (fun _ => False) w (.cells #[] 3)).then (Keeps.grown (F := fun k => k = w.heap.size) hg1 (fun k h => by simpa [Value.ownBlock] using h.symm)) (fun i hi h => by omega)
    · rcases ho1 with h | ⟨i', h, hle⟩
      · rw [hk] at h; simp [Value.ownBlock] at h; omega
      · rw [hk] at h; cases h; rw [World.size_alloc] at hle; omega

/-! ### Lay -/
def nxt (t : List Nat) (v x : Nat) : Nat := (pathN t v x).getD (if (pathN t v x).length = 1 then 0 else 1) 0
def rowOf (t : List Nat) (v : Nat) : List Nat := (List.range (t.length + 1)).map (nxt t v)
def rowsOf (t : List Nat) (v : Nat) : List (List Nat) := (List.range v).map (rowOf t)
def edgesOf (t : List Nat) (i : Nat) : List (Nat × Nat) := (List.range i).map fun j => (t.getD j 0, j + 1)
def ecells (l : List (Nat × Nat)) : List Value := l.flatMap fun e => [encI e.1, encI e.2]
theorem ecells_length (l : List (Nat × Nat)) : (ecells l).length = l.length * 2 := by
  induction l with
  | nil => rfl
  | cons x l ih => simp only [ecells, List.flatMap_cons, List.length_append, List.length_cons, List.length_nil] at ih ⊢; omega
theorem ecells_append (l m : List (Nat × Nat)) : ecells (l ++ m) = ecells l ++ ecells m := by simp [ecells]
theorem edgesOf_succ (t : List Nat) (i : Nat) : edgesOf t (i + 1) = edgesOf t i ++ [(t.getD i 0, i + 1)] := by unfold edgesOf; rw [List.range_succ, List.map_append]; rfl
theorem edgesOf_length (t : List Nat) (i : Nat) : (edgesOf t i).length = i := by simp [edgesOf]
theorem rowsOf_succ (t : List Nat) (v : Nat) : rowsOf t (v + 1) = rowsOf t v ++ [rowOf t v] := by unfold rowsOf; rw [List.range_succ, List.map_append]; rfl
theorem rowsOf_length (t : List Nat) (v : Nat) : (rowsOf t v).length = v := by simp [rowsOf]
theorem rowOf_length (t : List Nat) (v : Nat) : (rowOf t v).length = t.length + 1 := by simp [rowOf]

/-- A row half made. -/
def part (f : Nat → Nat) (n j : Nat) : List Nat := (List.range n).map fun k => if k < j then f k else 0
theorem part_length (f : Nat → Nat) (n j : Nat) : (part f n j).length = n := by simp [part]
theorem part_set (f : Nat → Nat) (n j : Nat) (h : j < n) : (part f n j).set j (f j) = part f n (j + 1) := by
  refine List.ext_getElem (by simp [part]) fun k h1 h2 => ?_
  rw [List.getElem_set]
  by_cases e : j = k
  · subst e; simp [part]
  · rw [if_neg e]; simp only [part, List.getElem_map, List.getElem_range]
    by_cases h3 : k < j
    · rw [if_pos h3, if_pos (by omega)]
    · rw [if_neg h3, if_neg (by omega)]
theorem part_all (t : List Nat) (v : Nat) : part (nxt t v) (t.length + 1) (t.length + 1) = rowOf t v := by
  unfold part rowOf
  refine List.map_congr_left fun k hk => ?_
  rw [if_pos (by simpa using hk)]

/-- A list of rows in memory. -/
def NextIs (w : World) (base : Nat) (nv : Value) (rows : List (List Nat)) : Prop :=
  ∃ vs : List Value, QS w 23 1 nv rows.length vs ∧ (∀ k, nv.ownBlock = some k → base ≤ k) ∧ (∀ u ∈ vs, u.oneCell' = true) ∧
    ∀ (i : Nat) (v : Value) (r : List Nat), vs[i]? = some v → rows[i]? = some r → QS w 3 1 v r.length (r.map encI) ∧ ∀ k, v.ownBlock = some k → base ≤ k
theorem NextIs.nil (w : World) (base : Nat) : NextIs w base (.slice none 0 0) [] := by
  refine ⟨[], QS.nil _ _ _, ?_, ?_, ?_⟩
  · intro k h; cases h
  · intro u h; cases h
  · intro i v r h; cases h
theorem NextIs.keeps {w w' : World} {base : Nat} {nv : Value} {rows : List (List Nat)} {F : Nat → Prop} (h : NextIs w base nv rows) (hk : Keeps F w w') (hF : ∀ k, base ≤ k → k < w.heap.size → ¬ F k) : NextIs w' base nv rows := by
  obtain ⟨vs, h1, h2, h3, h4⟩ := h
  refine ⟨vs, h1.keeps hk (fun k hv => hF k (h2 k hv) (h1.lt k hv)), h2, h3, fun i v r hv hr => ?_⟩
  obtain ⟨h5, h6⟩ := h4 i v r hv hr
  exact ⟨h5.keeps hk (fun k hv => hF k (h6 k hv) (h5.lt k hv)), h6⟩
theorem QS.ne {w : World} {e e' sz sz' n n' : Nat} {v v' : Value} {cs cs' : List Value} (h : QS w e sz v n cs) (h' : QS w e' sz' v' n' cs') (hne : e ≠ e') : ∀ k, v.ownBlock = some k → v'.ownBlock ≠ some k := by
  intro k hk hk'
  obtain ⟨c, hc⟩ := h.typed k hk
  obtain ⟨c', hc'⟩ := h'.typed k hk'
  rw [hc] at hc'
  injection hc' with hc'
  injection hc' with _ e1
  exact hne e1
theorem Reads.keepsF {w w' : World} {B B' sz n : Nat} {v : Value} {cs : List Value} (h : Reads w B sz v n cs) (hk : Keeps (fun _ => False) w w') (hB : B ≤ B') : Reads w' B' sz v n cs := by
  obtain ⟨h1, A, c, e, h2, h3, h5⟩ := h
  refine ⟨h1, A, c, e, h2, h3, fun hn => ?_⟩
  obtain ⟨ad, e, hlt, hc⟩ := h5 hn
  exact ⟨ad, e, by omega, fun j u hu => hk.cell (hc j u hu) (fun h => h)⟩

/-- The numbers of a plan that Lay leaves as they are. -/
structure Nums where
  lanes : Int
  room : Int
  queue : Int
  rounds : Int
  every : Int
  bag : Int
  start : Int
def Nums.plan (p : Nums) (n : Int) (e wt nx : Value) : Array Value :=
  #[.int .i64 n, e, .int .i64 p.lanes, .int .i64 p.room, .int .i64 p.queue, .int .i64 p.rounds, .int .i64 p.every, .int .i64 p.bag, wt, .int .u16 p.start, nx]
def Nums.zero : Nums := ⟨0, 0, 0, 0, 0, 0, 0⟩
def PBox (w : World) (b : Nat) (cs : Array Value) : Prop := w.heap[b]? = some (.cells cs 29 (0, 0))

theorem info_edge : (Try.prog.info? 51).map (fun i => (i.zero, i.size, i.bytes)) = some (some (.agg #[.int .i64 0, .int .i64 0]), 2, 16) := by kernel_rfl
theorem info_ints : (Try.prog.info? 23).map (fun i => (i.zero, i.size, i.bytes)) = some (some (.slice none 0 0), 1, 24) := by kernel_rfl

set_option maxHeartbeats 4000000 in
theorem lay_no (p : Nums) (n : Int) (Ea Wa Na : Option Addr) (en ec wn wc nn nc : Nat) (fv : Value) (ps : List Int) (w : World) (h : Reads w w.heap.size 1 fv ps.length (ps.map encZ)) (hno : rightI ps = false ∨ ps = []) :
    Calls Try.prog 12 #[.agg (p.plan n (.slice Ea en ec) (.slice Wa wn wc) (.slice Na nn nc)), fv] w fun e w' =>
      e = .returned (.tuple #[.agg (Nums.zero.plan 0 (.slice none 0 0) (.slice none 0 0) (.slice none 0 0)), .int .u16 120]) ∧ Keeps (fun _ => False) w w' := by
  obtain ⟨A, c, hsh⟩ : ∃ A c, fv = .slice A ps.length c := by obtain ⟨_, A, c, h, _⟩ := h; exact ⟨A, c, h⟩
  subst hsh
  obtain ⟨lanes, room, queue, rounds, every, bag, start⟩ := p
  unfold Nums.plan Nums.zero
  go_enter Try.func12, Try.ntmps12
  go_wp2_with fail
  refine (right_calls _ ps _ (h.keepsF ((Keeps.alloc _ _ _).trans (Keeps.alloc _ _ _)) (by simp only [World.size_alloc]; omega))).mono ?_
  rintro e w' ⟨rfl, hw⟩; subst w'
  rcases hno with hr | rfl
  · rw [hr]
    go_wp2_with fail
    exact bodyPost_ret (v := .tuple #[.agg #[.int .i64 0, .slice none 0 0, .int .i64 0, .int .i64 0, .int .i64 0, .int .i64 0, .int .i64 0, .int .i64 0, .slice none 0 0, .int .u16 0, .slice none 0 0], .int .u16 120]) (by simp [results, Try.results12, go_sem]) rfl ⟨rfl, (Keeps.alloc _ _ _).trans (Keeps.alloc _ _ _)⟩
  · rw [show rightI [] = true from rfl]
    go_wp2_with fail
    exact bodyPost_ret (v := .tuple #[.agg #[.int .i64 0, .slice none 0 0, .int .i64 0, .int .i64 0, .int .i64 0, .int .i64 0, .int .i64 0, .int .i64 0, .slice none 0 0, .int .u16 0, .slice none 0 0], .int .u16 120]) (by simp [results, Try.results12, go_sem]) rfl ⟨rfl, (Keeps.alloc _ _ _).trans (Keeps.alloc _ _ _)⟩
end Go.Proofs.Ytcgddbbniahimaa
