/-
  The document's Run, walked.
-/
import Derived.Test.YtlfohlgooomdfaaDoorIslipRound
set_option linter.unusedVariables false
set_option linter.unusedSimpArgs false
namespace Go.Proofs.YtlfohlgooomdfaaDoor
open Go.RowKit Go.Sort

set_option maxRecDepth 100000 in
set_option maxHeartbeats 4000000 in
theorem rrun_calls (G A : Nat → Nat) (n b g a rounds : Nat) (v : Value) (reqs : List Nat) (h1 : 1 ≤ n) (h2 : n ≤ 16) (hr1 : 1 ≤ rounds) (hr2 : rounds ≤ 16) (w : World) (hA : RArb w b n (lst n G) (lst n A) g a)
    (hG : ∀ k, k < n → G k < n) (hAl : ∀ k, k < n → A k < n) (hv : Reads w w.heap.size 1 v n (reqs.map encU)) (hvb : ∀ k, v.ownBlock = some k → k ≠ g ∧ k ≠ a) (hq : ∀ x ∈ reqs, x < 65536) (hlen : reqs.length = n) :
    Calls Tryd.prog 20 #[.pointer (some ⟨b, 0, none⟩), v, .int .i64 rounds] w fun e w' => ∃ u, e = .returned u ∧ QS w' 3 1 u n ((lst n (roundsP (asks reqs) n (start G A) rounds).m).map (Value.int .i64)) ∧
      RArb w' b n (lst n (roundsP (asks reqs) n (start G A) rounds).G) (lst n (roundsP (asks reqs) n (start G A) rounds).A) g a ∧ Keeps (fun k => k = g ∨ k = a) w w' ∧ ∀ k, u.ownBlock = some k → w.heap.size ≤ k := by
  have hF0 := fit_start hG hAl
  have hm0 : (start G A).m = fun _ => -1 := rfl
  replace hA : RArb w b n (lst n (start G A).G) (lst n (start G A).A) g a := hA
  clear hG hAl
  obtain ⟨g1, o1, c1, rfl, _, hg1l, hcell⟩ := hv.at_ (by simp; omega)
  have hgv := hvb g1 rfl
  have hvK : ∀ {W : World}, Keeps (fun k => k = g ∨ k = a) w W → Reads W W.heap.size 1 (.slice (some ⟨g1, o1, none⟩) n c1) n (reqs.map encU) := fun {W} hW =>
    ⟨hv.1, some ⟨g1, o1, none⟩, c1, rfl, by obtain ⟨_, A, c, e, h, _⟩ := hv; cases e; exact h, by obtain ⟨_, A, c, e, _, h, _⟩ := hv; cases e; exact h, fun _ => ⟨_, rfl, Nat.lt_of_lt_of_le hg1l hW.size, fun j u hu => by
      rw [Addr.add_lit]; exact hW.cell (hcell j u hu) (fun h => by rcases h with h | h; exact hgv.1 h; exact hgv.2 h)⟩⟩
  have HR := Lib.hid (p := ∀ (s : St) (f : Bool) (vA : Option Addr) (vc : Nat) (W : World), Keeps (fun k => k = g ∨ k = a) w W → RArb W b n (lst n s.G) (lst n s.A) g a → Fit n s → QS W 3 1 (.slice vA n vc) n ((lst n s.m).map (Value.int .i64)) → (∀ k, (Value.slice vA n vc).ownBlock = some k → k ≠ g ∧ k ≠ a) →
    Calls Tryd.prog 27 #[.pointer (some ⟨b, 0, none⟩), .slice (some ⟨g1, o1, none⟩) n c1, .slice vA n vc, .bool f] W fun e w' => ∃ u, e = .returned u ∧ QS w' 3 1 u n ((lst n (roundP (asks reqs) n f s).m).map (Value.int .i64)) ∧
      RArb w' b n (lst n (roundP (asks reqs) n f s).G) (lst n (roundP (asks reqs) n f s).A) g a ∧ Keeps (fun k => k = g ∨ k = a) W w' ∧ ∀ k, u.ownBlock = some k → W.heap.size ≤ k)
    fun s f vA vc W hW hA hF hm hne => round_calls reqs s n b g a f h1 h2 _ vA vc W hA hF hlen hq (hvK hW) hm hne
  clear hv hvb hcell hvK hq
  generalize start G A = s0 at *
  generalize asks reqs = R at *
  clear G A
  obtain ⟨x0, x1⟩ := hA.cells
  have hgl := blk_lt hA.gr
  have hal := blk_lt hA.ac
  have hbl := blk_lt hA.box
  have hb1 : ¬ (rounds : Int) < 1 := by omega
  have hb2 : ¬ (16 : Int) < (rounds : Int) := by omega
  have hgb : b ≠ g := fun e => by have h1 := hA.box; rw [e, hA.gr] at h1; simp at h1
  have hab : b ≠ a := fun e => by have h1 := hA.box; rw [e, hA.ac] at h1; simp at h1
  have hA0 := Lib.hid hA
  clear hA
  go_enter Tryd.func20, Tryd.ntmps20
  go_wp2_with fail
  go_loopw [7, 8] (fun mt i wr => ∃ j : Nat, j ≤ n ∧ QS wr 3 1 mt j (List.replicate j (.int .i64 (-1))) ∧ (∀ k, mt.ownBlock = some k → w.heap.size ≤ k) ∧ Keeps (fun _ => False) w wr ∧ i = .int .i64 (j : Int)) (fun _ i _ => n - (intOf i).toNat)
  case atStart => exact ⟨0, Nat.zero_le _, QS.nil _ _ _, (fun k h => by cases h), Keeps.refl _ _, rfl⟩
  case round =>
    obtain ⟨j, hjn, hqn, hob, hkq, rfl⟩ := hrel
    revert hqn hob
    generalize u7 = mt
    intro hqn hob
    by_cases hjl : j < n
    · have hjl' : (j : Int) < (n : Int) := by omega
      have hq0 : QS (wr.alloc (.cells #[.int .i64 (-1)] 3)) 3 1 mt j (List.replicate j (.int .i64 (-1))) := hqn.alloc _
      have hsrc : Src Tryd.prog 1 25 (.slice (some ⟨wr.heap.size, 0, none⟩) 1 1) 1 [.int .i64 (-1)] (wr.alloc (.cells #[.int .i64 (-1)] 3)) :=
        src_blk Tryd.underlying25 (blk_new _ _) rfl (by intro jj hjj'; match jj, hjj' with | 0, _ => rfl) (by intro u hu; simp at hu; subst hu; rfl)
      go_wp2_with (at_builtin; refine wpList_append_QS rfl _ _ 25 25 rfl 3 _ 1 8 Tryd.underlying25 info_int rfl mt j (List.replicate j (.int .i64 (-1))) rfl hq0 _ 1 [.int .i64 (-1)] rfl hsrc (by decide) (by omega) ?_; intro A1 c1 w1 hq1 hg1 ho1)
      go_roundw
      case rel =>
        have hk1 : Keeps (fun i => mt.ownBlock = some i) wr w1 := (Keeps.alloc _ _ _).trans (Keeps.grown hg1 (fun i h => h))
        refine ⟨j + 1, by omega, by rw [List.replicate_succ']; exact hq1, fun b hb' => ?_, hkq.then hk1 (fun i hi h => by have := hob i h; omega), by simp⟩
        rcases ho1 with h | ⟨i', h, hle⟩
        · exact hob b (h ▸ hb')
        · rw [hb'] at h; cases h; have := hkq.size; rw [World.size_alloc] at hle; omega
      case measure => simp [intOf]; omega
    · obtain rfl : j = n := by omega
      have hjl' : ¬ (j : Int) < (j : Int) := by omega
      have hA1 : RArb wr b j (lst j (roundsP R j s0 0).G) (lst j (roundsP R j s0 0).A) g a := hA0.out.keeps hkq (fun _ _ h => h)
      have hq2 : QS wr 3 1 mt j ((lst j (roundsP R j s0 0).m).map (Value.int .i64)) := by rw [roundsP, hm0, lst_const, List.map_replicate]; exact hqn
      have hk2 : Keeps (fun k => k = g ∨ k = a) w wr := hkq.mono (fun _ _ h => h.elim)
      clear hqn hkq x0 x1 hm0
      go_wp2_with fail
      go_loopw [7, 9] (fun mt i wq => ∃ c : Nat, c ≤ rounds ∧ QS wq 3 1 mt j ((lst j (roundsP R j s0 c).m).map (Value.int .i64)) ∧ (∀ k, mt.ownBlock = some k → w.heap.size ≤ k) ∧ Keeps (fun k => k = g ∨ k = a) w wq ∧ RArb wq b j (lst j (roundsP R j s0 c).G) (lst j (roundsP R j s0 c).A) g a ∧ i = .int .i64 (c : Int)) (fun _ i _ => rounds - (intOf i).toNat)
      case atStart => exact ⟨0, Nat.zero_le _, hq2, hob, hk2, hA1, rfl⟩
      case round =>
        clear hA1 hq2 hk2 hob
        obtain ⟨c, hcr, hqn, hob, hkq, hA, rfl⟩ := hrel
        revert hqn hob
        generalize u7 = mt
        intro hqn hob
        obtain ⟨mA, mc, rfl, _, _⟩ := hqn.shape
        by_cases hcl : c < rounds
        · have hcl' : (c : Int) < (rounds : Int) := by omega
          have hcr := HR.out (roundsP R j s0 c) (c == 0) mA mc _ hkq hA (fit_rounds hF0 c) hqn (fun k h => by have := hob k h; omega)
          rw [show roundP R j (c == 0) (roundsP R j s0 c) = roundsP R j s0 (c + 1) from rfl] at hcr
          have hcb : ((c : Int) == 0) = (c == 0) := by rw [Bool.eq_iff_iff, beq_iff_eq, beq_iff_eq]; omega
          generalize (c == 0) = f at hcr hcb
          go_wp2_with fail
          refine hcr.mono ?_
          rintro e X ⟨u, rfl, hu, hA3, hkX, huo⟩
          clear hcr hqn hA hob
          have hwz := hkq.size
          go_wp2_with fail
          go_roundw
          case rel => exact ⟨c + 1, by omega, hu, (fun k h => by have := huo k h; omega), hkq.trans hkX, hA3, rfl⟩
          case measure => simp [intOf]; omega
        · obtain rfl : c = rounds := by omega
          have hcl' : ¬ (c : Int) < (c : Int) := by omega
          go_wp2_with fail
          go_ret
          exact ⟨_, rfl, hqn, hA, hkq, hob⟩

set_option maxRecDepth 100000 in
theorem rrun_no (G A : List Nat) (n b g a k : Nat) (rounds : Int) (vA : Option Addr) (vc : Nat) (w : World) (hA : RArb w b n G A g a) (h : k ≠ n ∨ rounds < 1 ∨ 16 < rounds) :
    Calls Tryd.prog 20 #[.pointer (some ⟨b, 0, none⟩), .slice vA k vc, .int .i64 rounds] w fun e w' => e = .returned (.slice none 0 0) ∧ w' = w := by
  obtain ⟨x0, x1⟩ := hA.cells
  go_enter Tryd.func20, Tryd.ntmps20
  by_cases h1 : k = n
  · subst h1
    by_cases h2 : rounds < 1
    · go_wp2_with fail
      go_ret
      exact ⟨rfl, rfl⟩
    · have h3 : 16 < rounds := by omega
      go_wp2_with fail
      go_ret
      exact ⟨rfl, rfl⟩
  · have h2 : ¬ (k : Int) = (n : Int) := by omega
    go_wp2_with fail
    go_ret
    exact ⟨rfl, rfl⟩
end Go.Proofs.YtlfohlgooomdfaaDoor
