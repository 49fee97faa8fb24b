/-
  Repeat of one number, walked (with the product of two small words).
-/
import Derived.Test.YtlfohlgooomdfaaDoorIslipNew
import Derived.Test.YtlfohlgooomdfaaDoorIslipPure
import Derived.Laws.CopyOwn
set_option linter.unusedVariables false
set_option linter.unusedSimpArgs false
namespace Go.Proofs.YtlfohlgooomdfaaDoor
open Go.RowKit

theorem and_u64 : ∀ k : Nat, k ≤ 16 → bits .and .u64 (k : Int) 4294967295 = (k : Int) := by decide +kernel

theorem mul64_calls (n : Nat) (h : n ≤ 16) (w : World) :
    Calls Tryd.prog 36 #[.int .u64 1, .int .u64 n] w fun e w' => e = .returned (.tuple #[.int .u64 0, .int .u64 n]) ∧ w' = w := by
  have h1 : bits .and .u64 1 4294967295 = 1 := and_u64 1 (by decide)
  have h2 := and_u64 n h
  have h3 : (n : Int) / 4294967296 = 0 := by omega
  have h4 : (n : Int) / 2 ^ 32 = 0 := by omega
  have h0 : bits .and .u64 0 4294967295 = 0 := and_u64 0 (by decide)
  go_enter Tryd.func36, Tryd.ntmps36
  go_wp2_with fail
  go_ret2
  simp_all
theorem mul_calls (n : Nat) (h : n ≤ 16) (w : World) :
    Calls Tryd.prog 28 #[.int .u64 1, .int .u64 n] w fun e w' => e = .returned (.tuple #[.int .u64 0, .int .u64 n]) ∧ w' = w := by
  go_enter Tryd.func28, Tryd.ntmps28
  go_wp2_with fail
  refine (mul64_calls n h _).mono ?_
  rintro e w' ⟨rfl, rfl⟩
  go_wp2_with fail
  go_ret2
  exact ⟨rfl, rfl⟩

theorem wrap_nat (x : Nat) (h : x ≤ 1000) : IntKind.i64.wrap (x : Int) = (x : Int) := by simp [IntKind.wrap, IntKind.bits, IntKind.signed]; omega
/-- The row: so many are there. -/
def rp (n j : Nat) : List Value := List.replicate j (.int .i64 (-1)) ++ List.replicate (n - j) (.int .i64 0)
theorem rp_length {n j : Nat} (h : j ≤ n) : (rp n j).length = n := by simp [rp]; omega
theorem rp_splice {n j c : Nat} (h : j + c ≤ n) : splice (rp n j) j (List.replicate c (.int .i64 (-1))) = rp n (j + c) := by
  unfold splice rp
  rw [List.take_append_of_le_length (by simp), List.take_of_length_le (by simp), List.length_replicate, ← List.append_assoc, List.replicate_append_replicate, List.drop_append, List.drop_of_length_le (by simp), List.nil_append, List.drop_replicate, List.length_replicate]
  congr 2
  omega
theorem rp_at {n j i : Nat} (h : i < j) : (rp n j)[i]? = some (.int .i64 (-1)) := by
  unfold rp
  rw [List.getElem?_append_left (by simpa using h)]
  simp [h]
theorem made_rp (n : Nat) : madeCells #[.int .i64 0] n = (rp n 0).toArray := by
  apply Array.ext
  · simp [madeCells, rp]
  · intro i h1 h2
    simp [madeCells, Nat.mod_one, rp]
theorem rp_all (n : Nat) : rp n n = List.replicate n (.int .i64 (-1)) := by simp [rp]

set_option maxHeartbeats 2000000 in
theorem repeat_calls (k n : Nat) (h1 : 1 ≤ n) (h2 : n ≤ 16) (w : World) (hk : w.cell? ⟨k, 0, none⟩ = some (.int .i64 (-1))) :
    Calls Tryd.prog 23 #[.slice (some ⟨k, 0, none⟩) 1 1, .int .i64 n] w fun e w' => ∃ m, e = .returned (.slice (some ⟨m, 0, none⟩) n n) ∧ w'.heap[m]? = some (.cells (rp n n).toArray 3 (0, 0)) ∧ Keeps (fun _ => False) w w' ∧ w.heap.size ≤ m := by
  have hms := fun w => run_make_row' (P := Tryd.prog) 25 3 (.int .i64 0) 8 Tryd.underlying25 info_int rfl .i64 .i64 n (by omega) (by omega) w
  have hn0 : ¬ (n : Int) < 0 := by omega
  have hnb : ¬ (9223372036854775807 : Int) < (n : Int) := by omega
  have hw : IntKind.u64.wrap (n : Int) = (n : Int) := by simp [IntKind.wrap, IntKind.bits, IntKind.signed]; omega
  have hw2 : IntKind.i64.wrap (n : Int) = (n : Int) := by simp [IntKind.wrap, IntKind.bits, IntKind.signed]; omega
  have hkl := World.block_lt_of_cell? _ _ hk
  go_enter Tryd.func23, Tryd.ntmps23
  go_wp2_with fail
  refine (mul_calls n h2 _).mono ?_
  rintro e w2 ⟨rfl, hw2'⟩
  subst w2
  have hcp := run_copy_row Tryd.prog (w.alloc (.cells (madeCells #[.int .i64 0] n) 3)) 25 25 3 3 w.heap.size 0 n n ⟨k, 0, none⟩ 1 1 (rp n 0).toArray 3 (List.replicate 1 (.int .i64 (-1)))
    Tryd.underlying25 rfl (by rw [made_rp]; exact blk_new _ _) (by show 1 = min 1 n; omega)
    (fun j v hj => by
      obtain ⟨h, hv⟩ := List.getElem?_eq_some_iff.1 hj
      rw [List.length_replicate] at h
      obtain rfl : j = 0 := by omega
      subst hv
      exact (Keeps.alloc (fun _ => False) w _).cell hk (fun h => h)) (by simp [rp_length]; omega) (by simp [Value.oneCell'])
  rw [show ((rp n 0).toArray.toList.take 0 ++ List.replicate 1 (Value.int .i64 (-1)) ++ (rp n 0).toArray.toList.drop (0 + (List.replicate 1 (Value.int .i64 (-1))).length)) = rp n 1 from rp_splice (n := n) (j := 0) (c := 1) h1] at hcp
  have hM : ((w.alloc (.cells (madeCells #[.int .i64 0] n) 3)).setRow w.heap.size (rp n 1).toArray).heap[w.heap.size]? = some (.cells (rp n 1).toArray 3 (0, 0)) := setRow_heap _ _ _ _ _ _ (blk_new _ _)
  have hK : Keeps (fun _ => False) w ((w.alloc (.cells (madeCells #[.int .i64 0] n) 3)).setRow w.heap.size (rp n 1).toArray) := by
    refine (Keeps.alloc (fun _ => False) w _).then (G := fun i => i = w.heap.size) ⟨rfl, rfl, rfl, by simp [World.setRow], fun i hi hne => setRow_other _ _ _ _ hne⟩ (fun i hi h => by omega)
  go_wp2_with fail
  clear hcp hms hw hw2 hk
  generalize (w.alloc (.cells (madeCells #[.int .i64 0] n) 3)).setRow w.heap.size (rp n 1).toArray = W0 at hM hK ⊢
  go_loopw [8] (fun s wr => ∃ j : Nat, 1 ≤ j ∧ j ≤ n ∧ s = .int .i64 (j : Int) ∧ Keeps (fun _ => False) w wr ∧ wr.heap[w.heap.size]? = some (.cells (rp n j).toArray 3 (0, 0))) (fun s _ => n - (intOf s).toNat)
  case atStart => exact ⟨1, Nat.le_refl _, h1, rfl, hK, hM⟩
  case round =>
    obtain ⟨j, hj1, hjn, rfl, hk, hm⟩ := hrel
    clear hK hM
    by_cases hlt : j < n
    · have hlt' : (j : Int) < (n : Int) := by omega
      have hle' : (j : Int) ≤ (n : Int) := by omega
      have hj0 : (0 : Int) ≤ (j : Int) := by omega
      obtain ⟨c, hc, hc0, hcn⟩ : ∃ c : Nat, min j (n - j) = c ∧ 0 < c ∧ j + c ≤ n := ⟨_, rfl, by omega, by omega⟩
      have hcp := run_copy_row Tryd.prog wr.drew 25 25 3 3 w.heap.size j (n - j) (n - j) ⟨w.heap.size, 0, none⟩ j n (rp n j).toArray 3 (List.replicate c (.int .i64 (-1)))
        Tryd.underlying25 rfl hm (by rw [List.length_replicate]; exact hc.symm)
        (fun i v hi => by
          obtain ⟨h, hv⟩ := List.getElem?_eq_some_iff.1 hi
          rw [List.length_replicate] at h
          rw [List.getElem_replicate] at hv
          subst hv
          have hb : wr.drew.heap[w.heap.size]? = some (.cells (rp n j).toArray 3 (0, 0)) := hm
          rw [Addr.add_lit, blk_cell hb, Nat.zero_add]
          simp only [List.getElem?_toArray]
          exact rp_at (by omega)) (by simp [rp_length hjn]; omega) (by simp [Value.oneCell'])
      rw [show ((rp n j).toArray.toList.take j ++ List.replicate c (Value.int .i64 (-1)) ++ (rp n j).toArray.toList.drop (j + (List.replicate c (Value.int .i64 (-1))).length)) = rp n (j + c) by rw [← rp_splice hcn, splice, List.append_assoc]] at hcp
      simp only [List.length_replicate] at hcp
      have hwr : IntKind.i64.wrap ((j : Int) + (c : Int)) = (j : Int) + (c : Int) := wrap_nat (j + c) (by omega)
      have hM2 : (wr.drew.setRow w.heap.size (rp n (j + c)).toArray).heap[w.heap.size]? = some (.cells (rp n (j + c)).toArray 3 (0, 0)) := setRow_heap _ _ _ _ _ _ hm
      have hK2 : Keeps (fun _ => False) w (wr.drew.setRow w.heap.size (rp n (j + c)).toArray) := by
        refine hk.then (G := fun i => i = w.heap.size) ⟨rfl, rfl, rfl, by rw [World.setRow, Array.size_modify]; exact Nat.le_refl _, fun i hi hne => setRow_other _ _ _ _ hne⟩ (fun i hi h => by omega)
      go_wp2_with fail
      go_region
      all_goals (go_wp2_with fail; go_roundw)
      all_goals first | exact ⟨j + c, by omega, hcn, rfl, hK2, hM2⟩ | (simp [intOf]; omega)
    · obtain rfl : j = n := by omega
      have hlt' : ¬ (j : Int) < (j : Int) := by omega
      go_wp2_with fail
      go_ret
      exact ⟨_, rfl, hm, hk, Nat.le_refl _⟩
end Go.Proofs.YtlfohlgooomdfaaDoor
