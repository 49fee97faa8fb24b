/-
  Collect over the way up, and the path, walked.
-/
import Derived.Test.YtcgddbbniahimaaTreeUp
import Derived.Test.YtcgddbbniahimaaAppendIn
import Derived.Shelf.Abstract
import Derived.Lib.BitFns
import Derived.Lib.Tables
import Derived.WalkMore
set_option linter.unusedVariables false
set_option linter.unusedSimpArgs false
namespace Go.Proofs.Ytcgddbbniahimaa
open Go.RowKit Go.Shelf
attribute [local go_sem] Oper.semAt_some

theorem info_int : (Try.prog.info? 3).map (fun i => (i.zero, i.size, i.bytes)) = some (some (.int .i64 0), 1, 8) := by kernel_rfl

set_option maxRecDepth 100000 in
set_option maxHeartbeats 4000000 in
theorem appendSeq_calls (bv bf : Nat) (A : Option Addr) (m c : Nat) (t : List Nat) (v : Nat) (ht : Tree t) (hv : v ≤ m) (hm : m ≤ 5) (hbf : bf ≠ bv) (hA : ∀ k, 0 < m → famBlock A k → k ≠ bv) (w : World)
    (hB : IBox w bv (v : Int)) (hF : FBox w bf (.slice A m c)) (hG : Fam w A m t) (hAw : ∀ k, 0 < m → famBlock A k → k < w.heap.size) :
    Calls Try.prog 43 #[.slice none 0 0, .func (.func 44) #[] #[.pointer (some ⟨bv, 0, none⟩), .pointer (some ⟨bf, 0, none⟩)]] w fun e w' =>
      ∃ u, e = .returned u ∧ QS w' 3 1 u (upl t v).length ((upl t v).map encI) ∧ Keeps (fun k => k = bv) w w' ∧ ∀ k, u.ownBlock = some k → w.heap.size ≤ k := by
  refine (callsIn_wide (n := 10)).1 ?_
  have hbv : bv < w.heap.size := blk_lt hB
  have hbfw : bf < w.heap.size := blk_lt hF
  refine callsIn_of_wp_marks Try.func43 rfl trivial ?_ rfl
  simp only [Try.ntmps43, List.size_toArray, List.length_cons, List.length_nil, Nat.reduceAdd, Nat.reduceSub, Array.replicate_succ, Array.replicate_zero, List.push_toArray, List.append_toArray, List.nil_append, List.cons_append]
  refine wpIn_wide.2 ?_
  go_wp2_with fail
  have hk0 : Keeps (fun k => k = bv) w (w.alloc (.cells #[.slice none 0 0] 23)) := Keeps.alloc _ _ _
  have hS0 : SBox (w.alloc (.cells #[.slice none 0 0] 23)) w.heap.size (.slice none 0 0) := blk_new _ _
  have hB0 : IBox (w.alloc (.cells #[.slice none 0 0] 23)) bv v := blk_alloc hB _
  have hF0 : FBox (w.alloc (.cells #[.slice none 0 0] 23)) bf (.slice A m c) := blk_alloc hF _
  have hG0 : Fam (w.alloc (.cells #[.slice none 0 0] 23)) A m t := hG.keeps (Keeps.alloc (fun _ => False) _ _) (fun _ _ h => h)
  have hsz : w.heap.size + 1 ≤ (w.alloc (.cells #[.slice none 0 0] 23)).heap.size := by simp
  generalize w.alloc (.cells #[.slice none 0 0] 23) = B at hk0 hS0 hB0 hF0 hG0 hsz
  have h16 := upl_length ht v
  have fixlt : ∀ k, upFixed bv bf A m k → k < B.heap.size := fun k h => by
    rcases h with h | h | ⟨h1, h2⟩
    · omega
    · omega
    · have := hAw k h1 h2; omega
  refine (wpIn_wide (n := 10)).1 ?_
  refine' wpIn_rangeFunc_O (F := Fence.wide) rfl (by decide) (gf := 44) (lb := #[.pointer (some ⟨bv, 0, none⟩), .pointer (some ⟨bf, 0, none⟩)]) rfl trivial (enters_of Try.func44 (by kernel_rfl) rfl)
    (up_seq 9 bv bf A m c t v (by decide) ht hv hm hbf hA B hB0 hF0 hG0) (fun _ => rfl) (fun _ h => .inl h) (fun k h => fixlt k h)
    (fun pre W => Keeps (fun k => k = bv) w W ∧ ∃ v, SBox W w.heap.size v ∧ QS W 3 1 v pre.length (pre.map encI) ∧ ∀ k, v.ownBlock = some k → w.heap.size < k ∧ k ≠ B.heap.size ∧ k ≠ B.heap.size + 1)
    (fun _ _ _ => False) ?mi (fun _ _ _ _ h _ => h) ⟨hk0, _, hS0, QS.nil _ _ _, fun k h => by cases h⟩ _ ?assign ?body ?done (fun _ _ _ _ h _ => h.elim)
  case assign =>
    intro l k W K hK
    gi_wp2
    exact hK
  case mi =>
    rintro s C D ⟨h1, v, h2, h3, h4⟩ hk
    exact ⟨h1.then hk (fun i hi h => by unfold upOwn at h; omega), v, blk_keeps hk h2 (by unfold upOwn; omega), h3.keeps hk (fun k hv => by have := h4 k hv; unfold upOwn; omega), h4⟩
  case body =>
    rintro pre k W ⟨h1, v, h2, h3, h4⟩ hpre hszW
    have hlen : pre.length + 1 ≤ 6 := by have := hpre.length_le; simp at this; omega
    have hc := h2.cell
    have hq : QS (W.alloc (.cells #[encI k] 3)) 3 1 v pre.length (pre.map encI) := h3.alloc _
    have hsrc : Src Try.prog 1 23 (.slice (some ⟨W.heap.size, 0, none⟩) 1 1) 1 [encI k] (W.alloc (.cells #[encI k] 3)) :=
      src_blk Try.underlying23 (blk_new _ _) rfl (by intro j hj; match j, hj with | 0, _ => rfl) (by intro u hu; simp at hu; subst hu; rfl)
    have HB : Hid (∀ w1, (W.alloc (.cells #[encI k] 3)).grownBy w1 v.ownBlock → Keeps (fun i => v.ownBlock = some i) W w1 ∧ SBox w1 w.heap.size v ∧ w1.cell? ⟨w.heap.size, 0, none⟩ = some v ∧ w1.frozen? ⟨w.heap.size, 0, none⟩ = false) := Lib.hid fun w1 hg => by
      have hk : Keeps (fun i => v.ownBlock = some i) W w1 := (Keeps.alloc _ _ _).trans (Keeps.grown hg (fun i h => h))
      have hb := blk_keeps hk h2 (fun e => by have := h4 _ e; omega)
      exact ⟨hk, hb, by rw [blk_cell hb]; rfl, blk_frozen hb 0⟩
    gi_wp2_with (gi_at_builtin; refine wpListIn_append_QS rfl _ _ 23 23 rfl 3 _ 1 8 Try.underlying23 info_int rfl v pre.length (pre.map encI) rfl hq _ 1 [encI k] rfl hsrc (by decide) (by omega) ?_; intro A1 c1 w1 hq1 hg1 ho1; obtain ⟨hk1, hb1, hc1, hf1⟩ := HB.out w1 hg1)
    have hk2 : Keeps (fun i => i = w.heap.size) w1 (w1.setCell ⟨w.heap.size, 0, none⟩ (.slice A1 (pre.length + 1) c1)) := Keeps.setCell _ _ _ _ rfl
    have ho : ∀ i, (Value.slice A1 (pre.length + 1) c1).ownBlock = some i → w.heap.size < i ∧ i ≠ B.heap.size ∧ i ≠ B.heap.size + 1 := by
      intro i hi
      rcases ho1 with h | ⟨i', h, hle⟩
      · exact h4 i (h ▸ hi)
      · rw [hi] at h; cases h; rw [World.size_alloc] at hle; omega
    have hkb : Keeps (fun i => w.heap.size = i ∨ v.ownBlock = some i) W (w1.setCell ⟨w.heap.size, 0, none⟩ (.slice A1 (pre.length + 1) c1)) := (hk1.mono (fun i _ h => .inr h)).trans (hk2.mono (fun i _ h => .inl h.symm))
    refine ⟨Same.of_keeps hkb (fun i hi => ⟨?_, fun h => ?_⟩), h1.then hkb (fun i hi h => ?_), _, blk_set hb1 0 _, ?_, ho⟩
    · rcases hi with (h | h | ⟨h1, h2⟩) | h | h
      · omega
      · omega
      · have := hAw i h1 h2; omega
      · omega
      · omega
    · have hi' : i < w.heap.size ∨ i = B.heap.size ∨ i = B.heap.size + 1 := by
        rcases hi with (h | h | ⟨h1, h2⟩) | h | h
        · omega
        · omega
        · have := hAw i h1 h2; omega
        · omega
        · omega
      rcases h with h | h
      · omega
      · have := h4 i h; omega
    · rcases h with h | h
      · omega
      · have := h4 i h; omega
    · rw [List.length_append, List.map_append]
      exact hq1.keeps hk2 (fun i hi => by have := ho i hi; omega)
  case done =>
    rintro W ⟨h1, v, h2, h3, h4⟩ hD
    have hc := h2.cell
    go_wp2_with fail
    refine leavesM (G := fun i => i = B.heap.size) [B.heap.size] W ⟨by simp, by simpa using hD⟩ (by simp) ?_
    intro w' hk
    exact ⟨_, results_tmp rfl _ _ _, v, rfl, h3.keeps hk (fun k hv => by have := h4 k hv; omega), h1.then hk (fun i hi h => by omega), fun k hk => by have := h4 k hk; omega⟩

theorem collect_calls (bv bf : Nat) (A : Option Addr) (m c : Nat) (t : List Nat) (v : Nat) (ht : Tree t) (hv : v ≤ m) (hm : m ≤ 5) (hbf : bf ≠ bv) (hA : ∀ k, 0 < m → famBlock A k → k ≠ bv) (w : World)
    (hB : IBox w bv (v : Int)) (hF : FBox w bf (.slice A m c)) (hG : Fam w A m t) (hAw : ∀ k, 0 < m → famBlock A k → k < w.heap.size) :
    Calls Try.prog 34 #[.func (.func 44) #[] #[.pointer (some ⟨bv, 0, none⟩), .pointer (some ⟨bf, 0, none⟩)]] w fun e w' =>
      ∃ u, e = .returned u ∧ QS w' 3 1 u (upl t v).length ((upl t v).map encI) ∧ Keeps (fun k => k = bv) w w' ∧ ∀ k, u.ownBlock = some k → w.heap.size ≤ k := by
  go_enter Try.func34, Try.ntmps34
  go_wp2_with fail
  refine (appendSeq_calls bv bf A m c t v ht hv hm hbf hA w hB hF hG hAw).mono ?_
  rintro e w' ⟨v, rfl, hq, hk, ho⟩
  go_wp2_with fail
  go_ret
  exact ⟨_, rfl, hq, hk, ho⟩

theorem QS.fam {w : World} {e n : Nat} {A : Option Addr} {c : Nat} {t : List Nat} (h : QS w e 1 (.slice A n c) n (t.map encI)) : Fam w A n t := by
  have hl : t.length = n := by have := h.1; simpa using this
  refine ⟨hl, fun j hj => ?_⟩
  obtain ⟨g, off, c', e', _, hc, _⟩ := h.cell (by omega)
  injection e' with e1 _ _
  refine ⟨g, off, e1, h.lt g (by rw [e1]; rfl), hc j _ ?_⟩
  rw [List.getElem?_map, List.getD_eq_getElem?_getD, List.getElem?_eq_getElem (by omega)]; rfl
theorem famBlock_own {A : Option Addr} {n c k : Nat} (h : famBlock A k) : (Value.slice A n c).ownBlock = some k := by
  obtain ⟨g, off, rfl, rfl⟩ := h; rfl
theorem idx_at {d : List Nat} {x i : Nat} (hi : i < d.length) (hx : d[i] = x) (hn : ∀ j (h : j < i), d.getD j 0 ≠ x) : x ∈ d ∧ d.idxOf x = i := by
  have hmem : x ∈ d := hx ▸ List.getElem_mem hi
  refine ⟨hmem, ?_⟩
  have hlt : d.idxOf x < d.length := List.idxOf_lt_length_iff.2 hmem
  have hget : d[d.idxOf x] = x := List.getElem_idxOf hlt
  rcases Nat.lt_trichotomy (d.idxOf x) i with h | h | h
  · have := hn _ h
    rw [List.getD_eq_getElem?_getD, List.getElem?_eq_getElem hlt] at this
    exact absurd hget this
  · exact h
  · have := List.not_of_lt_findIdx (xs := d) (p := (· == x)) (i := i) (by simpa [List.idxOf] using h)
    simp [hx] at this

theorem Fam.take {w : World} {A : Option Addr} {n i : Nat} {t : List Nat} (h : Fam w A n t) (hi : i ≤ n) : Fam w A i (t.take i) := by
  refine ⟨by rw [List.length_take, h.1]; omega, fun j hj => ?_⟩
  obtain ⟨g, off, e, hg, hc⟩ := h.2 j (by omega)
  refine ⟨g, off, e, hg, ?_⟩
  rw [List.getD_eq_getElem?_getD, List.getElem?_take_of_lt hj, ← List.getD_eq_getElem?_getD]
  exact hc
theorem backs_map (t : List Nat) : ∀ i, i ≤ t.length → (backs i).map (nth (t.take i)) = (t.take i).reverse := by
  intro i hi
  have e : (backs i).map (nth (t.take i)) = ((List.range i).map (nth (t.take i))).reverse := by unfold backs; rw [List.map_reverse]
  rw [e]
  congr 1
  refine List.ext_getElem (by simp; omega) fun k h1 h2 => ?_
  rw [List.getElem_map, List.getElem_range, nth, List.getD_eq_getElem?_getD, List.getElem?_eq_getElem h2]; rfl

set_option maxRecDepth 100000 in
set_option maxHeartbeats 8000000 in
theorem path_calls (A : Option Addr) (m c : Nat) (t : List Nat) (v x : Nat) (ht : Tree t) (hv : v ≤ m) (hx : x ≤ m) (hm : m ≤ 5) (w : World) (hG : Fam w A m t) (hAw : ∀ k, 0 < m → famBlock A k → k < w.heap.size) :
    Calls Try.prog 25 #[.slice A m c, .int .i64 v, .int .i64 x] w fun e w' =>
      ∃ u, e = .returned u ∧ QS w' 3 1 u (pathN t v x).length ((pathN t v x).map encI) ∧ Keeps (fun _ => False) w w' ∧ ∀ k, u.ownBlock = some k → w.heap.size ≤ k := by
  have hR0 : Hid (pathN t v x = (climb (upl t x) (upl t v)).1 ++ ((upl t x).take (climb (upl t x) (upl t v)).2).reverse) := Lib.hid rfl
  generalize pathN t v x = R at hR0 ⊢
  refine (callsIn_wide (n := 10)).1 ?_
  refine callsIn_of_wp_marks Try.func25 rfl trivial ?_ rfl
  simp only [Try.ntmps25, List.size_toArray, List.length_cons, List.length_nil, Nat.reduceAdd, Nat.reduceSub, Array.replicate_succ, Array.replicate_zero, List.push_toArray, List.append_toArray, List.nil_append, List.cons_append]
  refine wpIn_wide.2 ?_
  go_wp2_with fail
  apply wp_scope_straight
  go_wp2_with fail
  have hk0 : Keeps (fun _ => False) w (w.alloc (.cells #[.slice none 0 0] 23)) := Keeps.alloc _ _ _
  have hS0 : SBox (w.alloc (.cells #[.slice none 0 0] 23)) w.heap.size (.slice none 0 0) := blk_new _ _
  have hz0 : (w.alloc (.cells #[.slice none 0 0] 23)).heap.size = w.heap.size + 1 := by simp
  generalize w.alloc (.cells #[.slice none 0 0] 23) = A0 at hk0 hS0 hz0
  refine (up_calls A m c x A0).mono ?_
  rintro e w' ⟨rfl, rfl⟩
  have hk1 : Keeps (fun _ => False) w ((A0.alloc (.cells #[.slice A m c] 48)).alloc (.cells #[.int .i64 (x : Int)] 3)) := (hk0.trans (Keeps.alloc _ _ _)).trans (Keeps.alloc _ _ _)
  have hS1 : SBox ((A0.alloc (.cells #[.slice A m c] 48)).alloc (.cells #[.int .i64 (x : Int)] 3)) w.heap.size (.slice none 0 0) := blk_alloc (blk_alloc hS0 _) _
  have hF1 : FBox ((A0.alloc (.cells #[.slice A m c] 48)).alloc (.cells #[.int .i64 (x : Int)] 3)) A0.heap.size (.slice A m c) := blk_alloc (blk_new _ _) _
  have hB1 : IBox ((A0.alloc (.cells #[.slice A m c] 48)).alloc (.cells #[.int .i64 (x : Int)] 3)) (A0.heap.size + 1) x := by
    have := blk_new (A0.alloc (.cells #[.slice A m c] 48)) (.cells #[.int .i64 (x : Int)] 3)
    rwa [World.size_alloc] at this
  have hz1 : ((A0.alloc (.cells #[.slice A m c] 48)).alloc (.cells #[.int .i64 (x : Int)] 3)).heap.size = w.heap.size + 3 := by simp [hz0]
  generalize (A0.alloc (.cells #[.slice A m c] 48)).alloc (.cells #[.int .i64 (x : Int)] 3) = A1 at hk1 hS1 hF1 hB1 hz1
  rw [hz0] at hF1 hB1 ⊢
  clear hk0 hS0 hz0
  have hG1 : Fam A1 A m t := hG.keeps hk1 (fun _ _ h => h)
  go_wp2_with fail
  refine (collect_calls (w.heap.size + 1 + 1) (w.heap.size + 1) A m c t x ht hx hm (by omega) (fun k h1 h2 => by have := hAw k h1 h2; omega) A1 hB1 hF1 hG1 (fun k h1 h2 => by have := hAw k h1 h2; omega)).mono ?_
  rintro e A2 ⟨d, rfl, hd2, hk12, hdo⟩
  have hk2 : Keeps (fun _ => False) w A2 := hk1.then hk12 (fun i hi h => by omega)
  have hS2 : SBox A2 w.heap.size (.slice none 0 0) := blk_keeps hk12 hS1 (by omega)
  have hz2 : w.heap.size + 3 ≤ A2.heap.size := by have := hk12.size; omega
  have hdl := upl_length ht x
  have hD0 := zero_mem_upl ht x
  rw [hz1] at hdo
  have hdlt := hd2.lt
  obtain ⟨dA, dc, hsh, hdc1, hdc2⟩ := hd2.shape
  subst hsh
  clear hk1 hS1 hF1 hB1 hG1 hk12 hz1
  generalize upl t x = D at *
  go_wp2_with fail
  have hk3 : Keeps (fun _ => False) w ((A2.alloc (.cells #[.slice dA D.length dc] 23)).alloc (.cells #[.int .i64 0] 3)) := (hk2.trans (Keeps.alloc _ _ _)).trans (Keeps.alloc _ _ _)
  have hk23 : Keeps (fun _ => False) A2 ((A2.alloc (.cells #[.slice dA D.length dc] 23)).alloc (.cells #[.int .i64 0] 3)) := (Keeps.alloc _ _ _).trans (Keeps.alloc _ _ _)
  have hO3 : SBox ((A2.alloc (.cells #[.slice dA D.length dc] 23)).alloc (.cells #[.int .i64 0] 3)) w.heap.size (.slice none 0 0) := blk_alloc (blk_alloc hS2 _) _
  have hS3 : SBox ((A2.alloc (.cells #[.slice dA D.length dc] 23)).alloc (.cells #[.int .i64 0] 3)) A2.heap.size (.slice dA D.length dc) := blk_alloc (blk_new _ _) _
  have hM3 : IBox ((A2.alloc (.cells #[.slice dA D.length dc] 23)).alloc (.cells #[.int .i64 0] 3)) (A2.heap.size + 1) 0 := by
    have := blk_new (A2.alloc (.cells #[.slice dA D.length dc] 23)) (.cells #[.int .i64 0] 3)
    rwa [World.size_alloc] at this
  have hz3 : ((A2.alloc (.cells #[.slice dA D.length dc] 23)).alloc (.cells #[.int .i64 0] 3)).heap.size = A2.heap.size + 2 := by simp
  generalize (A2.alloc (.cells #[.slice dA D.length dc] 23)).alloc (.cells #[.int .i64 0] 3) = A3 at hk3 hk23 hO3 hS3 hM3 hz3
  have hd3 := hd2.keeps hk23 (fun _ _ h => h)
  clear hS2 hd2 hk2 hk23
  generalize A2.heap.size = h8 at hz2 hdlt hS3 hM3 hz3 ⊢
  clear A2
  apply wp_label
  go_wp2_with fail
  refine (up_calls A m c v A3).mono ?_
  rintro e w' ⟨rfl, rfl⟩
  have hk4 : Keeps (fun _ => False) w ((A3.alloc (.cells #[.slice A m c] 48)).alloc (.cells #[.int .i64 (v : Int)] 3)) := (hk3.trans (Keeps.alloc _ _ _)).trans (Keeps.alloc _ _ _)
  have hk34 : Keeps (fun _ => False) A3 ((A3.alloc (.cells #[.slice A m c] 48)).alloc (.cells #[.int .i64 (v : Int)] 3)) := (Keeps.alloc _ _ _).trans (Keeps.alloc _ _ _)
  have hF4 : FBox ((A3.alloc (.cells #[.slice A m c] 48)).alloc (.cells #[.int .i64 (v : Int)] 3)) A3.heap.size (.slice A m c) := blk_alloc (blk_new _ _) _
  have hB4 : IBox ((A3.alloc (.cells #[.slice A m c] 48)).alloc (.cells #[.int .i64 (v : Int)] 3)) (A3.heap.size + 1) v := by
    have := blk_new (A3.alloc (.cells #[.slice A m c] 48)) (.cells #[.int .i64 (v : Int)] 3)
    rwa [World.size_alloc] at this
  have hz4 : ((A3.alloc (.cells #[.slice A m c] 48)).alloc (.cells #[.int .i64 (v : Int)] 3)).heap.size = h8 + 4 := by simp [hz3]
  generalize (A3.alloc (.cells #[.slice A m c] 48)).alloc (.cells #[.int .i64 (v : Int)] 3) = B at hk4 hk34 hF4 hB4 hz4
  have hO4 : SBox B w.heap.size (.slice none 0 0) := blk_keeps hk34 hO3 (fun h => h)
  have hS4 : SBox B h8 (.slice dA D.length dc) := blk_keeps hk34 hS3 (fun h => h)
  have hM4 : IBox B (h8 + 1) 0 := blk_keeps hk34 hM3 (fun h => h)
  have hd4 := hd3.keeps hk34 (fun _ _ h => h)
  rw [hz3] at hF4 hB4 ⊢
  clear hk3 hk34 hO3 hS3 hM3 hd3 hz3 A3
  have hG4 : Fam B A m t := hG.keeps hk4 (fun _ _ h => h)
  go_wp2_with fail
  have fixlt : ∀ k, upFixed (h8 + 2 + 1) (h8 + 2) A m k → k < w.heap.size ∨ k = h8 + 2 ∨ k = h8 + 3 := fun k h => by
    rcases h with h | h | ⟨h1, h2⟩
    · omega
    · omega
    · have := hAw k h1 h2; omega
  have hul := upl_length ht v
  have hU0 := zero_mem_upl ht v
  refine (wpIn_wide (n := 10)).1 ?_
  refine' wpIn_rangeFunc_O (F := Fence.wide) rfl (by decide) (gf := 44) (lb := #[.pointer (some ⟨h8 + 2 + 1, 0, none⟩), .pointer (some ⟨h8 + 2, 0, none⟩)]) rfl trivial (enters_of Try.func44 (by kernel_rfl) rfl)
    (up_seq 9 (h8 + 2 + 1) (h8 + 2) A m c t v (by decide) ht hv hm (by omega) (fun k h1 h2 => by have := hAw k h1 h2; omega) B hB4 hF4 hG4) (fun _ => rfl) (fun _ h => .inl h) (fun k h => by have := fixlt k h; omega)
    (fun pre W => Keeps (fun _ => False) w W ∧ SBox W h8 (.slice dA D.length dc) ∧ IBox W (h8 + 1) 0 ∧ QS W 3 1 (.slice dA D.length dc) D.length (D.map encI) ∧ (∀ y ∈ pre, y ∉ D) ∧
      ∃ o, SBox W w.heap.size o ∧ QS W 3 1 o pre.length (pre.map encI) ∧ ∀ k, o.ownBlock = some k → h8 + 6 ≤ k)
    (fun cc pre W => cc = .exit 0 ∧ ∃ p y, pre = p ++ [y] ∧ (∀ z ∈ p, z ∉ D) ∧ y ∈ D ∧ Keeps (fun _ => False) w W ∧ SBox W h8 (.slice dA D.length dc) ∧ IBox W (h8 + 1) (D.idxOf y : Nat) ∧ QS W 3 1 (.slice dA D.length dc) D.length (D.map encI) ∧
      ∃ o, SBox W w.heap.size o ∧ QS W 3 1 o pre.length (pre.map encI) ∧ ∀ k, o.ownBlock = some k → h8 + 6 ≤ k) ?mi ?mx ⟨hk4, hS4, hM4, hd4, (fun _ h => by cases h), _, hO4, QS.nil _ _ _, fun k h => by cases h⟩ _ ?assign ?body ?done ?stop
  case assign =>
    intro l k W K hK
    gi_wp2
    exact hK
  case mi =>
    rintro s C E ⟨h1, h2, h3, h4, h5, o, h6, h7, h9⟩ hk
    have hn : ∀ k, (upOwn (h8 + 2 + 1) k ∨ k = B.heap.size ∨ k = B.heap.size + 1) → k = h8 + 3 ∨ k = h8 + 4 ∨ k = h8 + 5 := fun k h => by unfold upOwn at h; omega
    exact ⟨h1.then hk (fun i hi h => by have := hn _ h; omega), blk_keeps hk h2 (fun h => by have := hn _ h; omega), blk_keeps hk h3 (fun h => by have := hn _ h; omega), h4.keeps hk (fun k hv h => by have := hn _ h; have := hdlt _ hv; omega), h5, o,
      blk_keeps hk h6 (fun h => by have := hn _ h; omega), h7.keeps hk (fun k hv h => by have := hn _ h; have := h9 _ hv; omega), h9⟩
  case mx =>
    rintro cc s C E ⟨rfl, p, y, rfl, hp, hy, h1, h2, h3, h4, o, h6, h7, h9⟩ hk
    have hn : ∀ k, (upOwn (h8 + 2 + 1) k ∨ k = B.heap.size ∨ k = B.heap.size + 1) → k = h8 + 3 ∨ k = h8 + 4 ∨ k = h8 + 5 := fun k h => by unfold upOwn at h; omega
    exact ⟨rfl, p, y, rfl, hp, hy, h1.then hk (fun i hi h => by have := hn _ h; omega), blk_keeps hk h2 (fun h => by have := hn _ h; omega), blk_keeps hk h3 (fun h => by have := hn _ h; omega), h4.keeps hk (fun k hv h => by have := hn _ h; have := hdlt _ hv; omega), o,
      blk_keeps hk h6 (fun h => by have := hn _ h; omega), h7.keeps hk (fun k hv h => by have := hn _ h; have := h9 _ hv; omega), h9⟩
  case body =>
    rintro pre k W ⟨h1, h2, h3, h4, h5, o, h6, h7, h9⟩ hpre hszW
    have hlen : pre.length + 1 ≤ 6 := by have := hpre.length_le; simp at this; omega
    have hc := h6.cell
    have hq : QS (W.alloc (.cells #[encI k] 3)) 3 1 o pre.length (pre.map encI) := h7.alloc _
    have hsrc : Src Try.prog 1 23 (.slice (some ⟨W.heap.size, 0, none⟩) 1 1) 1 [encI k] (W.alloc (.cells #[encI k] 3)) :=
      src_blk Try.underlying23 (blk_new _ _) rfl (by intro j hj; match j, hj with | 0, _ => rfl) (by intro u hu; simp at hu; subst hu; rfl)
    have HB : Hid (∀ w1, (W.alloc (.cells #[encI k] 3)).grownBy w1 o.ownBlock → Keeps (fun i => o.ownBlock = some i) W w1 ∧ SBox w1 w.heap.size o ∧ w1.cell? ⟨w.heap.size, 0, none⟩ = some o ∧ w1.frozen? ⟨w.heap.size, 0, none⟩ = false ∧
        (∀ y, (w1.setCell ⟨w.heap.size, 0, none⟩ y).cell? ⟨h8, 0, none⟩ = some (.slice dA D.length dc))) := Lib.hid fun w1 hg => by
      have hk : Keeps (fun i => o.ownBlock = some i) W w1 := (Keeps.alloc _ _ _).trans (Keeps.grown hg (fun i h => h))
      have hb := blk_keeps hk h6 (fun e => by have := h9 _ e; omega)
      have hb2 : SBox w1 h8 (.slice dA D.length dc) := blk_keeps hk h2 (fun e => by have := h9 _ e; omega)
      refine ⟨hk, hb, by rw [blk_cell hb]; rfl, blk_frozen hb 0, fun y => ?_⟩
      have hk2 : Keeps (fun i => i = w.heap.size) w1 (w1.setCell ⟨w.heap.size, 0, none⟩ y) := Keeps.setCell _ _ _ _ rfl
      exact hk2.cell hb2.cell (by simp; omega)
    gi_wp2_with (gi_at_builtin; refine wpListIn_append_QS rfl _ _ 23 23 rfl 3 _ 1 8 Try.underlying23 info_int rfl o pre.length (pre.map encI) rfl hq _ 1 [encI k] rfl hsrc (by decide) (by omega) ?_; intro A1 c1 w1 hq1 hg1 ho1; obtain ⟨hk1, hb1, hc1, hf1, hd1⟩ := HB.out w1 hg1)
    have hk2 : Keeps (fun i => i = w.heap.size) w1 (w1.setCell ⟨w.heap.size, 0, none⟩ (.slice A1 (pre.length + 1) c1)) := Keeps.setCell _ _ _ _ rfl
    have ho : ∀ i, (Value.slice A1 (pre.length + 1) c1).ownBlock = some i → h8 + 6 ≤ i := by
      intro i hi
      rcases ho1 with h | ⟨i', h, hle⟩
      · exact h9 i (h ▸ hi)
      · rw [hi] at h; cases h; rw [World.size_alloc] at hle; omega
    have hkb : Keeps (fun i => w.heap.size = i ∨ h8 + 6 ≤ i) W (w1.setCell ⟨w.heap.size, 0, none⟩ (.slice A1 (pre.length + 1) c1)) := (hk1.mono (fun i _ h => .inr (h9 i h))).trans (hk2.mono (fun i _ h => .inl h.symm))
    have hsame : ∀ V, Keeps (fun i => i = h8 + 1) (w1.setCell ⟨w.heap.size, 0, none⟩ (.slice A1 (pre.length + 1) c1)) V → Same (fun k => upFixed (h8 + 2 + 1) (h8 + 2) A m k ∨ k = B.heap.size ∨ k = B.heap.size + 1) W V := fun V hv =>
      Same.of_keeps ((hkb.mono (G := fun i => i = h8 + 1 ∨ w.heap.size = i ∨ h8 + 6 ≤ i) (fun i _ h => .inr h)).trans (hv.mono (fun i _ h => .inl h))) (fun i hi => by
        have : i < w.heap.size ∨ i = h8 + 2 ∨ i = h8 + 3 ∨ i = h8 + 4 ∨ i = h8 + 5 := by
          rcases hi with h | h | h
          · have := fixlt i h; omega
          · omega
          · omega
        omega)
    have g1 := h1.then hkb (F := fun _ => False) (fun i hi h => by omega)
    have g2 : SBox _ h8 (.slice dA D.length dc) := blk_keeps hkb h2 (by omega)
    have g3 : IBox _ (h8 + 1) 0 := blk_keeps hkb h3 (by omega)
    have g4 := h4.keeps hkb (fun k hv => by have := hdlt k hv; have := hdo k hv; omega)
    have g6 : SBox (w1.setCell ⟨w.heap.size, 0, none⟩ (.slice A1 (pre.length + 1) c1)) w.heap.size (.slice A1 (pre.length + 1) c1) := blk_set hb1 0 _
    have g7 : QS (w1.setCell ⟨w.heap.size, 0, none⟩ (.slice A1 (pre.length + 1) c1)) 3 1 (.slice A1 (pre.length + 1) c1) (pre ++ [k]).length ((pre ++ [k]).map encI) := by
      rw [List.length_append, List.map_append]
      exact hq1.keeps hk2 (fun i hi => by have := ho i hi; omega)
    clear hkb hk1 hb1 hc1 hf1 hd1 hq1 hg1 ho1 hk2 HB hq hsrc hc h1 h2 h3 h4 h6 h7
    generalize w1.setCell ⟨w.heap.size, 0, none⟩ (.slice A1 (pre.length + 1) c1) = V at *
    have hcount : ∀ j, j < D.length → (V.cell? ⟨h8, 0, none⟩ = some (.slice dA D.length dc)) := fun j _ => g2.cell
    gi_loopw [29] (fun s wr => ∃ i : Nat, i ≤ D.length ∧ (∀ j, j < i → D.getD j 0 ≠ k) ∧ s = .int .i64 (i : Int) ∧ wr = V) (fun s _ => D.length - (intOf s).toNat)
    case atStart => exact ⟨0, Nat.zero_le _, (fun j h => absurd h (Nat.not_lt_zero _)), rfl, rfl⟩
    case round =>
      obtain ⟨i, hi, hno, rfl, hwr⟩ := hrel
      subst hwr
      by_cases hil : i < D.length
      · have hii : (i : Int) < (D.length : Int) := by omega
        obtain ⟨g, off, c', e', _, hcell, _⟩ := g4.cell (by omega)
        injection e' with e1 _ e2
        have hci := hcell i (encI (D[i])) (by rw [List.getElem?_map, List.getElem?_eq_getElem hil]; rfl)
        have hget : D.getD i 0 = D[i] := by rw [List.getD_eq_getElem?_getD, List.getElem?_eq_getElem hil]; rfl
        have hidx := fun h => idx_at (x := k) hil h hno
        subst e1
        subst e2
        clear hcell
        generalize D[i] = q at *
        by_cases hqk : q = k
        · obtain ⟨hm1, hm2⟩ := hidx hqk
          have heq : ((k : Int) == (q : Int)) = true := by simp [hqk]
          clear hidx hget hqk hno
          have hcm := g3.cell
          have hfm := g3.frozen
          have hk3 : Keeps (fun j => j = h8 + 1) wr (wr.setCell ⟨h8 + 1, 0, none⟩ (.int .i64 (i : Int))) := Keeps.setCell _ _ _ _ rfl
          have hfin := hsame _ hk3
          rw [hz4] at hfin
          gi_wp2
          refine ⟨hfin, rfl, pre, k, rfl, h5, hm1, g1.then hk3 (fun i hi h => by omega), blk_keeps hk3 g2 (by omega), by rw [hm2]; exact blk_set g3 0 _, g4.keeps hk3 (fun k hv => ?_), _, blk_keeps hk3 g6 (by omega), g7.keeps hk3 (fun k hv => by have := ho k hv; omega), ho⟩
          have := hdlt k hv; omega
        · have heq : ((k : Int) == (q : Int)) = false := by simp; omega
          clear hidx
          have hno' : ∀ j, j < i + 1 → D.getD j 0 ≠ k := fun j hj => by
            by_cases e : j = i
            · rw [e, hget]; exact hqk
            · exact hno j (by omega)
          clear hget hqk hno
          gi_wp2
          go_roundw
          case rel => exact ⟨i + 1, by omega, hno', by simp, trivial⟩
          case measure => simp [intOf]; omega
      · obtain rfl : i = D.length := by omega
        have hkn : k ∉ D := fun h => by
          obtain ⟨j, hj, e⟩ := List.getElem_of_mem h
          refine hno j hj ?_
          rw [List.getD_eq_getElem?_getD, List.getElem?_eq_getElem hj]; exact e
        have hfin := hsame _ (Keeps.refl _ _)
        gi_wp2
        refine ⟨hfin, g1, g2, g3, g4, fun y hy => ?_, _, g6, g7, ho⟩
        rcases List.mem_append.1 hy with h | h
        · exact h5 y h
        · rw [List.mem_singleton.1 h]; exact hkn
  case done =>
    rintro W ⟨h1, h2, h3, h4, h5, o, h6, h7, h9⟩ hD
    exact absurd hD0 (h5 _ hU0)
  case stop =>
    rintro cc pre W hpre ⟨rfl, p, y, rfl, hp, hy, h1, h2, h3, h4, o, h6, h7, h9⟩ hDD
    obtain ⟨r, hr⟩ := hpre
    have hRe : R = p ++ [y] ++ (D.take (D.idxOf y)).reverse := by
      have hcl : climb D (upl t v) = (p ++ [y], D.idxOf y) := by rw [← hr, List.append_assoc]; exact climb_at hp hy
      rw [hR0.out, hcl]
    have hiD : D.idxOf y < D.length := List.idxOf_lt_length_iff.2 hy
    have hpl : (p ++ [y]).length ≤ 6 := by
      have := congrArg List.length hr
      rw [List.length_append] at this; omega
    generalize D.idxOf y = i at *
    generalize p ++ [y] = L at *
    clear hp hy hr hR0
    subst hRe
    have hmap := backs_map D i (by omega)
    have hi0 : (0 : Int) ≤ (i : Int) := by omega
    have hic : (i : Int) ≤ (dc : Int) := by omega
    have hcS := h2.cell
    have hcM := h3.cell
    obtain ⟨g, off, c', e', _, _, _⟩ := h4.cell (by omega)
    injection e' with e1 _ e2
    subst e1
    subst e2
    clear hG4 hd4 hM4 hS4 hO4 hB4 hF4 hk4
    gi_wp2
    go_wp2_with fail
    refine (back_calls (some ⟨g, off, none⟩) i dc W).mono ?_
    rintro e w' ⟨rfl, rfl⟩
    have hkC : Keeps (fun _ => False) W (W.alloc (.cells #[.slice (some ⟨g, off, none⟩) i dc] 23)) := Keeps.alloc _ _ _
    have hBC : SBox (W.alloc (.cells #[.slice (some ⟨g, off, none⟩) i dc] 23)) W.heap.size (.slice (some ⟨g, off, none⟩) i dc) := blk_new _ _
    have hzC : (W.alloc (.cells #[.slice (some ⟨g, off, none⟩) i dc] 23)).heap.size = W.heap.size + 1 := by simp
    generalize W.alloc (.cells #[.slice (some ⟨g, off, none⟩) i dc] 23) = C at hkC hBC hzC
    have k1 := h1.trans hkC
    have k6 : SBox C w.heap.size o := blk_keeps hkC h6 (fun h => h)
    have k7 := h7.keeps hkC (fun _ _ h => h)
    have kF : Fam C (some ⟨g, off, none⟩) i (D.take i) := (h4.fam.take (by omega)).keeps hkC (fun _ _ h => h)
    have kD : C.heap[B.heap.size]? = some (.deferred (some [])) := blk_keeps hkC hDD (fun h => h)
    have hol := h7.lt
    have hWz : h8 + 4 < W.heap.size := by have := blk_lt hDD; omega
    rw [hz4] at kD
    clear hDD h1 h2 h3 h4 h6 h7 hcS hcM hkC
    go_wp2_with fail
    have fixlt2 : ∀ k, backFixed W.heap.size (some ⟨g, off, none⟩) i k → k < h8 ∨ k = W.heap.size := fun k h => by
      rcases h with h | ⟨_, h⟩
      · exact .inr h
      · exact .inl (hdlt k (famBlock_own h))
    refine (wpIn_wide (n := 10)).1 ?_
    refine' wpIn_rangeFunc_O (F := Fence.wide) rfl (by decide) (gf := 45) (lb := #[.pointer (some ⟨W.heap.size, 0, none⟩)]) rfl trivial (enters_of Try.func45 (by kernel_rfl) rfl)
      (back_seq 9 W.heap.size (some ⟨g, off, none⟩) i dc (D.take i) (by decide) (by omega) C hBC kF) (fun _ => rfl) (fun _ h => h.elim) (fun k h => by have := fixlt2 k h; omega)
      (fun pre V => Keeps (fun _ => False) w V ∧ V.heap[h8 + 4]? = some (.deferred (some [])) ∧
        ∃ u, SBox V w.heap.size u ∧ QS V 3 1 u (L ++ pre.map (nth (D.take i))).length ((L ++ pre.map (nth (D.take i))).map encI) ∧ ∀ k, u.ownBlock = some k → h8 + 6 ≤ k ∧ (k < W.heap.size ∨ C.heap.size + 2 ≤ k))
      (fun _ _ _ => False) ?mi2 (fun _ _ _ _ h _ => h) ⟨k1, kD, _, k6, by rw [List.map_nil, List.append_nil]; exact k7, fun k h => ⟨h9 k h, .inl (hol k h)⟩⟩ _ ?assign2 ?body2 ?done2 (fun _ _ _ _ h _ => h.elim)
    case assign2 =>
      intro l k W K hK
      unfold encB
      gi_wp2
      exact hK
    case mi2 =>
      rintro s E G ⟨q1, q2, u, q3, q4, q5⟩ hk
      have hn : ∀ k, (backOwn k ∨ k = C.heap.size ∨ k = C.heap.size + 1) → k = C.heap.size ∨ k = C.heap.size + 1 := fun k h => h.elim (fun h => h.elim) id
      exact ⟨q1.then hk (fun i hi h => by have := hn _ h; omega), blk_keeps hk q2 (fun h => by have := hn _ h; omega), u, blk_keeps hk q3 (fun h => by have := hn _ h; omega), q4.keeps hk (fun k hv h => by have := hn _ h; have := q5 _ hv; omega), q5⟩
    case body2 =>
      rintro pre k V ⟨q1, q2, u, q3, q4, q5⟩ hpre hszV
      have hlen : (L ++ pre.map (nth (D.take i))).length + 1 ≤ 12 := by
        have := hpre.length_le
        have hb : (backs i).length = i := by unfold backs; simp
        simp at this ⊢; omega
      have hmp : (L ++ (pre ++ [k]).map (nth (D.take i))) = (L ++ pre.map (nth (D.take i))) ++ [nth (D.take i) k] := by rw [List.map_append, ← List.append_assoc]; rfl
      generalize (L ++ pre.map (nth (D.take i))) = Y at *
      generalize nth (D.take i) k = y at *
      have hc := q3.cell
      have hq : QS (V.alloc (.cells #[encI y] 3)) 3 1 u Y.length (Y.map encI) := q4.alloc _
      have hsrc : Src Try.prog 1 23 (.slice (some ⟨V.heap.size, 0, none⟩) 1 1) 1 [encI y] (V.alloc (.cells #[encI y] 3)) :=
        src_blk Try.underlying23 (blk_new _ _) rfl (by intro j hj; match j, hj with | 0, _ => rfl) (by intro u hu; simp at hu; subst hu; rfl)
      have HB : Hid (∀ w1, (V.alloc (.cells #[encI y] 3)).grownBy w1 u.ownBlock → Keeps (fun i => u.ownBlock = some i) V w1 ∧ SBox w1 w.heap.size u ∧ w1.cell? ⟨w.heap.size, 0, none⟩ = some u ∧ w1.frozen? ⟨w.heap.size, 0, none⟩ = false) := Lib.hid fun w1 hg => by
        have hk : Keeps (fun i => u.ownBlock = some i) V w1 := (Keeps.alloc _ _ _).trans (Keeps.grown hg (fun i h => h))
        have hb := blk_keeps hk q3 (fun e => by have := q5 _ e; omega)
        exact ⟨hk, hb, by rw [blk_cell hb]; rfl, blk_frozen hb 0⟩
      gi_wp2_with (gi_at_builtin; refine wpListIn_append_QS rfl _ _ 23 23 rfl 3 _ 1 8 Try.underlying23 info_int rfl u Y.length (Y.map encI) rfl hq _ 1 [encI y] rfl hsrc (by decide) (by omega) ?_; intro A1 c1 w1 hq1 hg1 ho1; obtain ⟨hk1, hb1, hc1, hf1⟩ := HB.out w1 hg1)
      have hk2 : Keeps (fun i => i = w.heap.size) w1 (w1.setCell ⟨w.heap.size, 0, none⟩ (.slice A1 (Y.length + 1) c1)) := Keeps.setCell _ _ _ _ rfl
      have ho : ∀ i, (Value.slice A1 (Y.length + 1) c1).ownBlock = some i → h8 + 6 ≤ i ∧ (i < W.heap.size ∨ C.heap.size + 2 ≤ i) := by
        intro i hi
        rcases ho1 with h | ⟨i', h, hle⟩
        · exact q5 i (h ▸ hi)
        · rw [hi] at h; cases h; rw [World.size_alloc] at hle; omega
      have hkb : Keeps (fun i => w.heap.size = i ∨ (h8 + 6 ≤ i ∧ (i < W.heap.size ∨ C.heap.size + 2 ≤ i))) V (w1.setCell ⟨w.heap.size, 0, none⟩ (.slice A1 (Y.length + 1) c1)) := (hk1.mono (fun i _ h => .inr (q5 i h))).trans (hk2.mono (fun i _ h => .inl h.symm))
      refine ⟨Same.of_keeps hkb (fun i hi => ?_), q1.then hkb (fun i hi h => by omega), blk_keeps hkb q2 (by omega), _, blk_set hb1 0 _, ?_, ho⟩
      · have : i < h8 ∨ i = W.heap.size ∨ i = C.heap.size ∨ i = C.heap.size + 1 := by
          rcases hi with h | h | h
          · have := fixlt2 i h; omega
          · omega
          · omega
        have : i ≠ w.heap.size := by
          rcases hi with h | h | h
          · rcases h with h | ⟨_, h⟩
            · omega
            · have := hdo _ (famBlock_own h); omega
          · omega
          · omega
        omega
      · rw [hmp, List.length_append, List.map_append]
        exact hq1.keeps hk2 (fun i hi => by have := ho i hi; omega)
    case done2 =>
      rintro V ⟨q1, q2, u, q3, q4, q5⟩ hD2
      rw [hmap] at q4
      have hc := q3.cell
      go_wp2_with fail
      rw [Exit.noGoto_ret]
      refine leavesM (G := fun i => i = C.heap.size ∨ i = h8 + 4) [C.heap.size, h8 + 4] V ⟨by simp; omega, by simpa using ⟨hD2, q2⟩⟩ (by simp) ?_
      intro w' hk
      exact ⟨_, results_tmp rfl _ _ _, u, rfl, q4.keeps hk (fun k hv => by have := q5 k hv; omega), q1.then hk (fun i hi h => by omega), fun k hk => by have := q5 k hk; omega⟩
end Go.Proofs.Ytcgddbbniahimaa
