/-
  Clone, and an arbiter's New, Grants, Accepts, walked.
-/
import Derived.Test.YtlfohlgooomdfaaDoorMaskTurn
import Derived.Test.YtlfohlgooomdfaaDoorArgs
import Derived.BigQuiet
import Derived.Lib.SliceRun
import Derived.Deep.OwnRows
import Derived.Deep.RegionHeld
set_option linter.unusedVariables false
set_option linter.unusedSimpArgs false
namespace Go.Proofs.YtlfohlgooomdfaaDoor
open Go.RowKit

theorem info_int : (Tryd.prog.info? 3).map (fun i => (i.zero, i.size, i.bytes)) = some (some (.int .i64 0), 1, 8) := by kernel_rfl
theorem Reads.src {P : Program} {w : World} {tx e' B sz n : Nat} {v : Value} {cs : List Value} (h : Reads w B sz v n cs) (hk : P.underlying tx = some (.slice e')) (h1 : ∀ u ∈ cs, u.oneCell' = true) : Src P sz tx v n cs w := by
  rcases Nat.eq_zero_or_pos cs.length with h0 | h0
  · obtain rfl := List.eq_nil_of_length_eq_zero h0
    obtain ⟨hl, A, c, rfl, hnc, _, h5⟩ := h
    rcases Nat.eq_zero_or_pos n with hn | hn
    · subst hn
      cases A with
      | none => exact Src.ofNil w hk c
      | some a => exact Src.ofSlice w hk a 0 c [] (by simp) (fun j u hu => by simp at hu) h1
    · obtain ⟨ad, rfl, _, _⟩ := h5 hn
      exact Src.ofSlice w hk ad n c [] hl (fun j u hu => by simp at hu) h1
  · obtain ⟨g, off, c, rfl, _, _, hc⟩ := h.at_ h0
    exact Src.ofSlice w hk _ _ _ _ h.1 (fun j u hu => by rw [Addr.add_lit]; exact hc j u hu) h1
theorem one_nats (l : List Nat) : ∀ u ∈ l.map encI, u.oneCell' = true := by
  intro u hu
  obtain ⟨z, _, rfl⟩ := List.mem_map.1 hu
  rfl

/-- An arbiter in memory: where outputs look first, where inputs look first. -/
structure Arb (w : World) (b n : Nat) (G A : List Nat) (g a : Nat) : Prop where
  box : w.heap[b]? = some (.cells #[.slice (some ⟨g, 0, none⟩) n n, .slice (some ⟨a, 0, none⟩) n n] 48 (0, 0))
  gr : w.heap[g]? = some (.cells (G.map encI).toArray 3 (0, 0))
  ac : w.heap[a]? = some (.cells (A.map encI).toArray 3 (0, 0))
  ne : g ≠ a
  lenG : G.length = n
  lenA : A.length = n
theorem made_zeros (n : Nat) : madeCells #[.int .i64 0] n = ((List.replicate n 0).map encI).toArray := by
  apply Array.ext
  · simp [madeCells]
  · intro i h1 h2
    simp [madeCells, Nat.mod_one]

theorem three_boxes (w : World) (a b c : Array Value) (S T U : Nat) : (((w.alloc (.cells a S)).alloc (.cells b T)).alloc (.cells c U)).heap[w.heap.size]? = some (.cells a S (0, 0)) ∧
    (((w.alloc (.cells a S)).alloc (.cells b T)).alloc (.cells c U)).heap[w.heap.size + 1]? = some (.cells b T (0, 0)) ∧ (((w.alloc (.cells a S)).alloc (.cells b T)).alloc (.cells c U)).heap[w.heap.size + 1 + 1]? = some (.cells c U (0, 0)) ∧
    Keeps (fun _ => False) w (((w.alloc (.cells a S)).alloc (.cells b T)).alloc (.cells c U)) := by
  refine ⟨blk_alloc (blk_alloc (blk_new _ _) _) _, blk_alloc ?_ _, ?_, ((Keeps.alloc _ _ _).trans (Keeps.alloc _ _ _)).trans (Keeps.alloc _ _ _)⟩
  · have := blk_new (w.alloc (.cells a S)) (.cells b T)
    rwa [World.size_alloc] at this
  · have := blk_new ((w.alloc (.cells a S)).alloc (.cells b T)) (.cells c U)
    rwa [World.size_alloc, World.size_alloc] at this

set_option maxHeartbeats 2000000 in
theorem new_calls (n : Nat) (h1 : 1 ≤ n) (h2 : n ≤ 16) (w : World) :
    Calls Tryd.prog 11 #[.int .i64 n] w fun e w' => ∃ b g a, e = .returned (.pointer (some ⟨b, 0, none⟩)) ∧ Arb w' b n (List.replicate n 0) (List.replicate n 0) g a ∧ Keeps (fun _ => False) w w' ∧ w.heap.size ≤ b ∧ w.heap.size ≤ g ∧ w.heap.size ≤ a := by
  have hms := fun w => run_make_row' (P := Tryd.prog) 25 3 (.int .i64 0) 8 Tryd.underlying25 info_int rfl .i64 .i64 n (by omega) (by omega) w
  have hn1 : ¬ (n : Int) < 1 := by omega
  have hn2 : ¬ (16 : Int) < (n : Int) := by omega
  go_enter Tryd.func11, Tryd.ntmps11
  go_wp2_with fail
  go_region
  · obtain ⟨q1, q2, q3, hk⟩ := three_boxes w (madeCells #[.int .i64 0] n) (madeCells #[.int .i64 0] n) #[.slice (some ⟨w.heap.size, 0, none⟩) n n, .slice (some ⟨w.heap.size + 1, 0, none⟩) n n] 3 3 48
    go_wp2_with fail
    go_ret
    refine ⟨_, w.heap.size, w.heap.size + 1, rfl, ⟨q3, by rw [← made_zeros]; exact q1, by rw [← made_zeros]; exact q2, by omega, by simp, by simp⟩, ?_, by omega, by omega, by omega⟩
    first | exact hk | exact hk.trans (Keeps.drew _ _)
  · obtain ⟨q1, q2, q3, hk⟩ := three_boxes w (madeCells #[.int .i64 0] n) (madeCells #[.int .i64 0] n) #[.slice (some ⟨w.heap.size + 1, 0, none⟩) n n, .slice (some ⟨w.heap.size, 0, none⟩) n n] 3 3 48
    go_wp2_with fail
    go_ret
    refine ⟨_, w.heap.size + 1, w.heap.size, rfl, ⟨q3, by rw [← made_zeros]; exact q2, by rw [← made_zeros]; exact q1, by omega, by simp, by simp⟩, ?_, by omega, by omega, by omega⟩
    first | exact hk | exact hk.trans (Keeps.drew _ _)

theorem new_none (n : Int) (h : n < 1 ∨ 16 < n) (w : World) : Calls Tryd.prog 11 #[.int .i64 n] w fun e w' => e = .returned (.pointer none) ∧ w' = w := by
  go_enter Tryd.func11, Tryd.ntmps11
  by_cases h1 : n < 1
  · go_wp2_with fail
    go_ret
    exact ⟨rfl, rfl⟩
  · have h2 : (16 : Int) < n := by omega
    go_wp2_with fail
    go_ret
    exact ⟨rfl, rfl⟩

set_option maxHeartbeats 2000000 in
/-- A copy of a list that is there. -/
theorem clone_calls (g n : Nat) (l : List Nat) (w : World) (hg : w.heap[g]? = some (.cells (l.map encI).toArray 3 (0, 0))) (hl : l.length = n) (hn : n ≤ 1000) :
    Calls Tryd.prog 22 #[.slice (some ⟨g, 0, none⟩) n n] w fun e w' => ∃ u, e = .returned u ∧ QS w' 3 1 u n (l.map encI) ∧ Keeps (fun _ => False) w w' ∧ ∀ k, u.ownBlock = some k → w.heap.size ≤ k := by
  have he := fun w => Go.Lib.run_eql_slice_nil (P := Tryd.prog) w 25 3 (some ⟨g, 0, none⟩) n n 0 0 Tryd.underlying25
  simp only [Option.isNone] at he
  have hgA : (w.alloc (.cells #[] 3)).heap[g]? = some (.cells (l.map encI).toArray 3 (0, 0)) := blk_alloc hg _
  have hsrc : Src Tryd.prog 1 25 (.slice (some ⟨g, 0, none⟩) n n) n (l.map encI) (w.alloc (.cells #[] 3)) := src_blk Tryd.underlying25 hgA (by simp [hl]) (fun j hj => by simp) (one_nats l)
  have hq0 : QS (w.alloc (.cells #[] 3)) 3 1 (.slice (some ⟨w.heap.size, 0, none⟩) 0 0) 0 [] := ⟨rfl, .inr ⟨w.heap.size, 0, 0, _, rfl, blk_new _ _, Nat.le_refl _, Nat.zero_le _, by simp, fun j hj => absurd hj (Nat.not_lt_zero _)⟩⟩
  go_enter Tryd.func22, Tryd.ntmps22
  go_wp2_with (at_builtin; refine wpList_append_QS rfl _ _ 25 25 rfl 3 _ 1 8 Tryd.underlying25 info_int rfl (.slice (some ⟨w.heap.size, 0, none⟩) 0 0) 0 [] rfl hq0 _ n (l.map encI) rfl hsrc (by decide) (by omega) ?_; intro A1 c1 w1 hq1 hg1 ho1; rw [Nat.zero_add] at hq1 ho1 ⊢; rw [List.nil_append] at hq1)
  go_ret
  refine ⟨.slice A1 n c1, rfl, hq1, ?_, fun k hk => ?_⟩
  · exact (Keeps.alloc (fun _ => False) w (.cells #[] 3)).then (Keeps.grown (F := fun k => k = w.heap.size) hg1 (fun k h => by simpa [Value.ownBlock] using h.symm)) (fun i hi h => by omega)
  · rcases ho1 with h | ⟨i', h, hle⟩
    · rw [hk] at h; simp [Value.ownBlock] at h; omega
    · rw [hk] at h; cases h; rw [World.size_alloc] at hle; omega

theorem Arb.keeps {w w' : World} {b n : Nat} {G A : List Nat} {g a : Nat} {F : Nat → Prop} (h : Arb w b n G A g a) (hk : Keeps F w w') (hF : ∀ k, k = b ∨ k = g ∨ k = a → ¬ F k) : Arb w' b n G A g a :=
  ⟨blk_keeps hk h.box (hF b (.inl rfl)), blk_keeps hk h.gr (hF g (.inr (.inl rfl))), blk_keeps hk h.ac (hF a (.inr (.inr rfl))), h.ne, h.lenG, h.lenA⟩
theorem Arb.cells {w : World} {b n : Nat} {G A : List Nat} {g a : Nat} (h : Arb w b n G A g a) : w.cell? ⟨b, 0, none⟩ = some (.slice (some ⟨g, 0, none⟩) n n) ∧ w.cell? ⟨b, 1, none⟩ = some (.slice (some ⟨a, 0, none⟩) n n) :=
  ⟨by rw [blk_cell h.box]; rfl, by rw [blk_cell h.box]; rfl⟩

theorem grants_calls (b n g a : Nat) (G A : List Nat) (w : World) (h : Arb w b n G A g a) (hn : n ≤ 1000) :
    Calls Tryd.prog 13 #[.pointer (some ⟨b, 0, none⟩)] w fun e w' => ∃ u, e = .returned u ∧ QS w' 3 1 u n (G.map encI) ∧ Keeps (fun _ => False) w w' := by
  have c1 := clone_calls g n G w h.gr h.lenG hn
  obtain ⟨x0, x1⟩ := h.cells
  go_enter Tryd.func13, Tryd.ntmps13
  go_wp2_with fail
  refine c1.mono ?_
  rintro e w' ⟨u, rfl, hu, hk, _⟩
  obtain ⟨uA, uc, hsh, _, _⟩ := hu.shape
  subst hsh
  go_wp2_with fail
  go_ret
  exact ⟨_, rfl, hu, hk⟩
theorem accepts_calls (b n g a : Nat) (G A : List Nat) (w : World) (h : Arb w b n G A g a) (hn : n ≤ 1000) :
    Calls Tryd.prog 14 #[.pointer (some ⟨b, 0, none⟩)] w fun e w' => ∃ u, e = .returned u ∧ QS w' 3 1 u n (A.map encI) ∧ Keeps (fun _ => False) w w' := by
  have c1 := clone_calls a n A w h.ac h.lenA hn
  obtain ⟨x0, x1⟩ := h.cells
  go_enter Tryd.func14, Tryd.ntmps14
  go_wp2_with fail
  refine c1.mono ?_
  rintro e w' ⟨u, rfl, hu, hk, _⟩
  obtain ⟨uA, uc, hsh, _, _⟩ := hu.shape
  subst hsh
  go_wp2_with fail
  go_ret
  exact ⟨_, rfl, hu, hk⟩
end Go.Proofs.YtlfohlgooomdfaaDoor
