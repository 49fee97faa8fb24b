/-
  A plan's check, walked: within, numbers, the edges.
-/
import Derived.Test.YtcgddbbniahimaaTreeMake
set_option linter.unusedVariables false
set_option linter.unusedSimpArgs false
namespace Go.Proofs.Ytcgddbbniahimaa
open Go.RowKit

theorem within_calls (x lo hi : Int) (w : World) (h1 : lo ≤ x) (h2 : x ≤ hi) :
    Calls Try.prog 38 #[.int .i64 x, .int .i64 lo, .int .i64 hi] w fun e w' => e = .returned (.bool true) ∧ w' = w := by
  go_enter Try.func38, Try.ntmps38
  go_wp2_with fail
  go_ret
  exact ⟨rfl, rfl⟩

/-- The numbers of a plan that may be. -/
structure Within (p : Nums) (n : Int) : Prop where
  n : 2 ≤ n ∧ n ≤ 6
  lanes : 1 ≤ p.lanes ∧ p.lanes ≤ 3
  room : 1 ≤ p.room ∧ p.room ≤ 8
  queue : 1 ≤ p.queue ∧ p.queue ≤ 8
  rounds : 1 ≤ p.rounds ∧ p.rounds ≤ 4
  every : 1 ≤ p.every ∧ p.every ≤ 8
  bag : 1 ≤ p.bag ∧ p.bag ≤ 64

set_option maxHeartbeats 4000000 in
theorem numbers_calls (p : Nums) (n : Int) (e wt nx : Value) (w : World) (h : Within p n) :
    Calls Try.prog 30 #[.agg (p.plan n e wt nx)] w fun e w' => e = .returned (.bool true) ∧ Keeps (fun _ => False) w w' := by
  obtain ⟨lanes, room, queue, rounds, every, bag, start⟩ := p
  obtain ⟨⟨a1, b1⟩, ⟨a2, b2⟩, ⟨a3, b3⟩, ⟨a4, b4⟩, ⟨a5, b5⟩, ⟨a6, b6⟩, ⟨a7, b7⟩⟩ := h
  simp only at a2 b2 a3 b3 a4 b4 a5 b5 a6 b6 a7 b7
  unfold Nums.plan
  go_enter Try.func30, Try.ntmps30
  go_wp2_with fail
  have hk0 : Keeps (fun _ => False) w (w.alloc (.cells #[.int .i64 n, e, .int .i64 lanes, .int .i64 room, .int .i64 queue, .int .i64 rounds, .int .i64 every, .int .i64 bag, wt, .int .u16 start, nx] 29)) := Keeps.alloc _ _ _
  have hP := blk_new w (.cells #[.int .i64 n, e, .int .i64 lanes, .int .i64 room, .int .i64 queue, .int .i64 rounds, .int .i64 every, .int .i64 bag, wt, .int .u16 start, nx] 29)
  generalize w.alloc (.cells #[.int .i64 n, e, .int .i64 lanes, .int .i64 room, .int .i64 queue, .int .i64 rounds, .int .i64 every, .int .i64 bag, wt, .int .u16 start, nx] 29) = X at hk0 hP ⊢
  obtain ⟨x0, x1, x2, x3, x4, x5, x6, x7, x8, x9, x10, _⟩ := PBox.all hP
  clear hP
  refine (within_calls n 2 6 X a1 b1).mono ?_
  rintro e w' ⟨rfl, hw⟩; subst w'
  go_wp2_with fail
  refine (within_calls lanes 1 3 X a2 b2).mono ?_
  rintro e w' ⟨rfl, hw⟩; subst w'
  go_wp2_with fail
  refine (within_calls room 1 8 X a3 b3).mono ?_
  rintro e w' ⟨rfl, hw⟩; subst w'
  go_wp2_with fail
  refine (within_calls queue 1 8 X a4 b4).mono ?_
  rintro e w' ⟨rfl, hw⟩; subst w'
  go_wp2_with fail
  refine (within_calls rounds 1 4 X a5 b5).mono ?_
  rintro e w' ⟨rfl, hw⟩; subst w'
  go_wp2_with fail
  refine (within_calls every 1 8 X a6 b6).mono ?_
  rintro e w' ⟨rfl, hw⟩; subst w'
  go_wp2_with fail
  refine (within_calls bag 1 64 X a7 b7).mono ?_
  rintro e w' ⟨rfl, hw⟩; subst w'
  go_wp2_with fail
  go_ret
  exact ⟨rfl, hk0⟩

/-- Two edges compared. -/
theorem run_eql_edge (w : World) (a b p q : Int) : (binOp .eql 51 (.agg #[.int .i64 a, .int .i64 b]) (.agg #[.int .i64 p, .int .i64 q])).run Try.prog w = .ok (.bool (decide (a = p) && b == q)) w := by
  have hf : Try.prog.underlying 51 = some (.struct (Try.prog.fieldsOf 51)) := by simp only [Program.fieldsOf, Try.underlying51]
  have hs : Try.prog.stoodInHeld 51 = false := by kernel_rfl
  rw [run_eql_struct, run_equalIn_struct w 9999 51 _ _ hf hs]
  simp only [Program.fieldsOf, Try.underlying51]
  have h3 : ∀ w : World, (sizeOf 3).run Try.prog w = .ok 1 w := fun w => by kernel_rfl
  have e3 : ∀ (d : Nat) (x y : Int) (w : World), (Op.equalIn (d + 1) 3 (.int .i64 x) (.int .i64 y)).run Try.prog w = .ok (x == y) w := fun d x y w => run_equalIn_int w d 3 .i64 .i64 x y Try.underlying3
  have e4 := e3 9998
  simp [Op.eqFields, Go.part, h3, e4]
  by_cases h1 : a = p <;> by_cases h2 : b = q <;> simp [h1, h2]

theorem ecells_two : ∀ (E : List (Nat × Nat)) (i : Nat) (h : i < E.length), (ecells E)[i * 2]? = some (encI E[i].1) ∧ (ecells E)[i * 2 + 1]? = some (encI E[i].2)
  | e :: E, 0, _ => ⟨rfl, rfl⟩
  | e :: E, i + 1, h => by
    obtain ⟨h1, h2⟩ := ecells_two E i (by simpa using h)
    have e1 : (ecells (e :: E))[(i + 1) * 2]? = (ecells E)[i * 2]? := by
      rw [show (i + 1) * 2 = i * 2 + 2 by omega]; rfl
    have e2 : (ecells (e :: E))[(i + 1) * 2 + 1]? = (ecells E)[i * 2 + 1]? := by
      rw [show (i + 1) * 2 + 1 = i * 2 + 1 + 2 by omega]; rfl
    rw [e1, e2]; exact ⟨h1, h2⟩

set_option maxHeartbeats 4000000 in
theorem eindex_calls (E : List (Nat × Nat)) (Ea : Option Addr) (ec a b : Nat) (w : World) (h : Reads w w.heap.size 2 (.slice Ea E.length ec) E.length (ecells E)) (hno : ∀ e ∈ E, e ≠ (a, b)) (h5 : E.length ≤ 5) :
    Calls Try.prog 46 #[.slice Ea E.length ec, .agg #[encI a, encI b]] w fun e w' => e = .returned (.int .i64 (-1)) ∧ Keeps (fun _ => False) w w' := by
  go_enter Try.func46, Try.ntmps46
  go_wp2_with fail
  have hk0 : Keeps (fun _ => False) w (w.alloc (.cells #[encI a, encI b] 51)) := Keeps.alloc _ _ _
  have hP := blk_new w (.cells #[encI a, encI b] 51)
  have hz : w.heap.size < (w.alloc (.cells #[encI a, encI b] 51)).heap.size := by simp
  generalize hb2 : w.heap.size = b2 at hP hz ⊢
  generalize w.alloc (.cells #[encI a, encI b] 51) = X at hk0 hP hz ⊢
  have x0 : X.cell? ⟨b2, 0, none⟩ = some (encI a) := by rw [blk_cell hP]; rfl
  have x1 : X.cell? ⟨b2, 1, none⟩ = some (encI b) := by rw [blk_cell hP]; rfl
  go_loopw [8] (fun s wr => ∃ i nq : Nat, i ≤ E.length ∧ s = .int .i64 (i : Int) ∧ wr = X.drewN nq) (fun s _ => E.length - (intOf s).toNat)
  case atStart => exact ⟨0, 0, Nat.zero_le _, rfl, rfl⟩
  case round =>
    obtain ⟨i, nq, hi, rfl, rfl⟩ := hrel
    by_cases hil : i < E.length
    · have hii : (i : Int) < (E.length : Int) := by omega
      have hi0 : (0 : Int) ≤ (i : Int) := by omega
      obtain ⟨g, off, c, e', _, _, hcell⟩ := h.at_ (by rw [ecells_length]; omega)
      injection e' with e1 _ e2
      subst e1 e2
      obtain ⟨c1, c2⟩ := ecells_two E i hil
      have y1 := hk0.cell (hcell _ _ c1) (fun h => h)
      have y2 := hk0.cell (hcell _ _ c2) (fun h => h)
      have hne := hno _ (List.getElem_mem hil)
      rw [← Nat.add_assoc] at y2
      clear hcell h c1 c2 hP hno
      generalize E[i] = e at y1 y2 hne
      obtain ⟨p, q⟩ := e
      have hne2 : ¬ ((a : Int) = (p : Int) ∧ (b : Int) = (q : Int)) := fun ⟨h1, h2⟩ => hne (by rw [show p = a by omega, show q = b by omega])
      simp only at y1 y2
      have hr : ∀ w, (binOp .eql 51 (.agg #[encI a, encI b]) (.agg #[encI p, encI q])).run Try.prog w = .ok (.bool false) w := fun w => by
        rw [run_eql_edge]
        by_cases h1 : (a : Int) = (p : Int)
        · by_cases h2 : (b : Int) = (q : Int)
          · exact absurd ⟨h1, h2⟩ hne2
          · have : ((b : Int) == (q : Int)) = false := by rw [beq_eq_false_iff_ne]; exact h2
            rw [this, Bool.and_false]
        · rw [decide_eq_false h1, Bool.false_and]
      clear hne2 hne
      go_wp2_with fail
      go_quiet (fail)
      go_wp2_with fail
      go_roundw
      case rel => exact ⟨i + 1, _, by omega, by simp, rfl⟩
      case measure => simp [intOf]; omega
    · obtain rfl : i = E.length := by omega
      have hii : ¬ (E.length : Int) < (E.length : Int) := by omega
      go_wp2_with fail
      go_ret
      exact ⟨rfl, hk0.trans (Keeps.drewN _ _ _)⟩
end Go.Proofs.Ytcgddbbniahimaa
