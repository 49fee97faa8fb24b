/-
  Bits (Collect, AppendSeq over 'each') and Count, walked.
-/
import Derived.Test.YtjhhkdkemgkcgaaDoorMaskEach
import Derived.Test.YtjhhkdkemgkcgaaDoorAppendIn
import Derived.Shelf.Abstract
import Derived.Lib.BitFns
import Derived.Lib.Tables
set_option linter.unusedVariables false
set_option linter.unusedSimpArgs false
namespace Go.Proofs.YtjhhkdkemgkcgaaDoor
open Go.RowKit Go.Shelf
attribute [local go_sem] Oper.semAt_some

theorem info_int : (Tryd.prog.info? 3).map (fun i => (i.zero, i.size, i.bytes)) = some (some (.int .i64 0), 1, 8) := by kernel_rfl

set_option maxRecDepth 100000 in
set_option maxHeartbeats 4000000 in
theorem appendSeq_calls (m b : Nat) (hm : m < 65536) (w : World) (hb : b ≠ 0) (hbw : b < w.heap.size) (hB : MBox w b m) (hT : Tab w) :
    Calls Tryd.prog 32 #[.slice none 0 0, .func (.func 30) #[] #[.pointer (some ⟨b, 0, none⟩)]] w fun e w' =>
      ∃ v, e = .returned v ∧ QS w' 3 1 v (bitsOf m).length ((bitsOf m).map encI) ∧ Keeps (fun k => k = b) w w' := by
  refine (callsIn_wide (n := 10)).1 ?_
  have hpos := hT.pos
  refine callsIn_of_wp_marks Tryd.func32 rfl trivial ?_ rfl
  simp only [Tryd.ntmps32, List.size_toArray, List.length_cons, List.length_nil, Nat.reduceAdd, Nat.reduceSub, Array.replicate_succ, Array.replicate_zero, List.push_toArray, List.append_toArray, List.nil_append, List.cons_append]
  refine wpIn_wide.2 ?_
  go_wp2_with fail
  have hk0 : Keeps (fun k => k = b) w (w.alloc (.cells #[.slice none 0 0] 32)) := Keeps.alloc _ _ _
  have hS0 : (w.alloc (.cells #[.slice none 0 0] 32)).heap[w.heap.size]? = some (.cells #[.slice none 0 0] 32 (0, 0)) := blk_new _ _
  have hB0 : MBox (w.alloc (.cells #[.slice none 0 0] 32)) b m := blk_alloc hB _
  have hsz : w.heap.size + 1 ≤ (w.alloc (.cells #[.slice none 0 0] 32)).heap.size := by simp
  generalize w.alloc (.cells #[.slice none 0 0] 32) = A at hk0 hS0 hB0 hsz
  have hTA : Tab A := hT.keeps hk0 (fun h => hb h.symm)
  have h16 := bitsOf_length_le m
  refine (wpIn_wide (n := 10)).1 ?_
  refine' wpIn_rangeFunc_O (F := Fence.wide) rfl (by decide) (gf := 30) (lb := #[.pointer (some ⟨b, 0, none⟩)]) rfl trivial (enters_of Tryd.func30 (by kernel_rfl) rfl)
    (each_seq 9 b m (by decide) hb hm A hB0 hTA) rfl (fun _ h => .inl h) (fun k h => by rcases h with h | h <;> omega)
    (fun pre W => Keeps (fun k => k = b) w W ∧ ∃ v, W.heap[w.heap.size]? = some (.cells #[v] 32 (0, 0)) ∧ QS W 3 1 v pre.length (pre.map encI) ∧ ∀ k, v.ownBlock = some k → w.heap.size < k ∧ k ≠ A.heap.size ∧ k ≠ A.heap.size + 1)
    (fun _ _ _ => False) ?mi (fun _ _ _ _ h _ => h) ⟨hk0, _, hS0, QS.nil _ _ _, fun k h => by cases h⟩ _ ?assign ?body ?done (fun _ _ _ _ h _ => h.elim)
  case assign =>
    intro l k W K hK
    gi_wp2
    exact hK
  case mi =>
    rintro s C D ⟨h1, v, h2, h3, h4⟩ hk
    exact ⟨h1.then hk (fun i hi h => by omega), v, blk_keeps hk h2 (by omega), h3.keeps hk (fun k hv => by have := h4 k hv; omega), h4⟩
  case body =>
    rintro pre k W ⟨h1, v, h2, h3, h4⟩ hpre hszW
    have hlen : pre.length + 1 ≤ 16 := by have := hpre.length_le; simp at this; omega
    have hc : W.cell? ⟨w.heap.size, 0, none⟩ = some v := by rw [blk_cell h2]; rfl
    have hq : QS (W.alloc (.cells #[encI k] 3)) 3 1 v pre.length (pre.map encI) := h3.alloc _
    have hsrc : Src Tryd.prog 1 32 (.slice (some ⟨W.heap.size, 0, none⟩) 1 1) 1 [encI k] (W.alloc (.cells #[encI k] 3)) :=
      src_blk Tryd.underlying32 (blk_new _ _) rfl (by intro j hj; match j, hj with | 0, _ => rfl) (by intro u hu; simp at hu; subst hu; rfl)
    have HB : Hid (∀ w1, (W.alloc (.cells #[encI k] 3)).grownBy w1 v.ownBlock → Keeps (fun i => v.ownBlock = some i) W w1 ∧ w1.heap[w.heap.size]? = some (.cells #[v] 32 (0, 0)) ∧ w1.cell? ⟨w.heap.size, 0, none⟩ = some v ∧ w1.frozen? ⟨w.heap.size, 0, none⟩ = false) := Lib.hid fun w1 hg => by
      have hk : Keeps (fun i => v.ownBlock = some i) W w1 := (Keeps.alloc _ _ _).trans (Keeps.grown hg (fun i h => h))
      have hb := blk_keeps hk h2 (fun e => by have := h4 _ e; omega)
      exact ⟨hk, hb, by rw [blk_cell hb]; rfl, blk_frozen hb 0⟩
    gi_wp2_with (gi_at_builtin; refine wpListIn_append_QS rfl _ _ 32 32 rfl 3 _ 1 8 Tryd.underlying32 info_int rfl v pre.length (pre.map encI) rfl hq _ 1 [encI k] rfl hsrc (by decide) (by omega) ?_; intro A1 c1 w1 hq1 hg1 ho1; obtain ⟨hk1, hb1, hc1, hf1⟩ := HB.out w1 hg1)
    have hk2 : Keeps (fun i => i = w.heap.size) w1 (w1.setCell ⟨w.heap.size, 0, none⟩ (.slice A1 (pre.length + 1) c1)) := Keeps.setCell _ _ _ _ rfl
    have ho : ∀ i, (Value.slice A1 (pre.length + 1) c1).ownBlock = some i → w.heap.size < i ∧ i ≠ A.heap.size ∧ i ≠ A.heap.size + 1 := by
      intro i hi
      rcases ho1 with h | ⟨i', h, hle⟩
      · exact h4 i (h ▸ hi)
      · rw [hi] at h; cases h; rw [World.size_alloc] at hle; omega
    have hkb : Keeps (fun i => w.heap.size = i ∨ v.ownBlock = some i) W (w1.setCell ⟨w.heap.size, 0, none⟩ (.slice A1 (pre.length + 1) c1)) := (hk1.mono (fun i _ h => .inr h)).trans (hk2.mono (fun i _ h => .inl h.symm))
    refine ⟨Same.of_keeps hkb (fun i hi => ⟨by omega, fun h => ?_⟩), h1.then hkb (fun i hi h => ?_), _, blk_set hb1 0 _, ?_, ho⟩
    · rcases h with h | h
      · omega
      · have := h4 i h; omega
    · rcases h with h | h
      · omega
      · have := h4 i h; omega
    · rw [List.length_append, List.map_append]
      exact hq1.keeps hk2 (fun i hi => by have := ho i hi; omega)
  case done =>
    rintro W ⟨h1, v, h2, h3, h4⟩ hD
    have hc : W.cell? ⟨w.heap.size, 0, none⟩ = some v := by rw [blk_cell h2]; rfl
    go_wp2_with fail
    refine leavesM (G := fun i => i = A.heap.size) [A.heap.size] W ⟨by simp, by simpa using hD⟩ (by simp) ?_
    intro w' hk
    exact ⟨_, results_tmp rfl _ _ _, v, rfl, h3.keeps hk (fun k hv => by have := h4 k hv; omega), h1.then hk (fun i hi h => by omega)⟩

/-- Bits. -/
theorem bits_calls (m : Nat) (hm : m < 65536) (w : World) (hT : Tab w) :
    Calls Tryd.prog 20 #[.int .u16 m] w fun e w' => ∃ v, e = .returned v ∧ QS w' 3 1 v (bitsOf m).length ((bitsOf m).map encI) ∧ Keeps (fun _ => False) w w' := by
  have hpos := hT.pos
  go_enter Tryd.func20, Tryd.ntmps20
  go_wp2_with fail
  refine (each_calls m _).mono ?_
  rintro e w' ⟨rfl, rfl⟩
  have hk0 : Keeps (fun _ => False) w (w.alloc (.cells #[.int .u16 (m : Int)] 22)) := Keeps.alloc _ _ _
  have hB : MBox (w.alloc (.cells #[.int .u16 (m : Int)] 22)) w.heap.size m := blk_new _ _
  have hsz : w.heap.size < (w.alloc (.cells #[.int .u16 (m : Int)] 22)).heap.size := by simp
  generalize w.alloc (.cells #[.int .u16 (m : Int)] 22) = A at hk0 hB hsz
  have hTA : Tab A := hT.keeps hk0 (fun h => h)
  go_wp2_with fail
  refine Calls.mono (R := fun e w' => ∃ v, e = .returned v ∧ QS w' 3 1 v (bitsOf m).length ((bitsOf m).map encI) ∧ Keeps (fun k => k = w.heap.size) A w') ?_ ?_
  · go_enter Tryd.func29, Tryd.ntmps29
    go_wp2_with fail
    refine (appendSeq_calls m w.heap.size hm A (by omega) hsz hB hTA).mono ?_
    rintro e w' ⟨v, rfl, hq, hk⟩
    go_wp2_with fail
    go_ret
    exact ⟨_, rfl, hq, hk⟩
  · rintro e w' ⟨v, rfl, hq, hk⟩
    go_wp2_with fail
    go_ret
    exact ⟨_, rfl, hq, hk0.then hk (fun i hi h => by omega)⟩
end Go.Proofs.YtjhhkdkemgkcgaaDoor
