/-
  The mask's small functions, walked: Has, below, TrailingZeros16.
-/
import Derived.Test.YtlfohlgooomdfaaDoorProg
import Derived.Test.YtlfohlgooomdfaaDoorMaskPure
import Derived.Test.YtlfohlgooomdfaaDoorSeq
import Derived.BigQuiet
set_option linter.unusedVariables false
set_option linter.unusedSimpArgs false
namespace Go.Proofs.YtlfohlgooomdfaaDoor
open Go.RowKit

/-- The table of the library's that a lowest bit is looked up in. -/
def Tab (w : World) : Prop := ∀ i : Nat, i < 32 → w.cell? ⟨0, i, none⟩ = some (.int .u8 (tzt i : Nat))
theorem Tab.keeps {F : Nat → Prop} {A B : World} (h : Tab A) (hk : Keeps F A B) (hF : ¬ F 0) : Tab B := fun i hi => hk.cell (h i hi) hF
theorem Tab.same {F : Nat → Prop} {A B : World} (h : Tab A) (hk : Same F A B) (hF : F 0) : Tab B := fun i hi => (World.cell?_of_block (hk 0 hF)).trans (h i hi)
theorem Tab.pos {A : World} (h : Tab A) : 0 < A.heap.size := World.block_lt_of_cell? A ⟨0, 0, none⟩ (h 0 (by decide))
theorem Tab.below {A B : World} (h : Tab A) (hb : Below A.heap.size A B) : Tab B := h.keeps (Keeps.of_below (F := fun _ => False) hb) (fun h => h)
theorem Tab.drewN {A : World} (h : Tab A) (n : Nat) : Tab (A.drewN n) := fun i hi => h i hi
theorem Tab.alloc {A : World} (h : Tab A) (o : Obj) : Tab (A.alloc o) := h.keeps (Keeps.alloc (fun _ => False) A o) (fun h => h)

theorem tz_facts (m : Nat) (hm : m < 65536) (h0 : m ≠ 0) : ∃ lo j : Nat, bits .and .u16 (m : Int) (IntKind.u16.wrap (-(m : Int))) = (lo : Int) ∧ lo < 65536 ∧ j = lo * 125613361 % 4294967296 / 134217728 ∧ j < 32 ∧ tzt j = tzOf m :=
  ⟨lowb m, tzi m, lowb_u16 m hm h0, Nat.lt_of_le_of_lt Nat.and_le_left hm, rfl, tzi_lt m, rfl⟩

set_option maxHeartbeats 1000000 in
theorem tz_calls (m : Nat) (hm : m < 65536) (h0 : m ≠ 0) (w : World) (ht : Tab w) :
    Calls Tryd.prog 38 #[.int .u16 m] w fun e w' => e = .returned (.int .i64 (tzOf m : Nat)) ∧ w' = w := by
  have a0 : (m : Int) ≠ 0 := by omega
  have a1 : ((m : Int) == 0) = false := by simpa using h0
  obtain ⟨lo, j, el, hlo, ej, hi, hT⟩ := tz_facts m hm h0
  have hc := ht j hi
  have h15 := (tz_at m hm h0).2.2
  rw [hT] at hc
  generalize tzOf m = t at hc h15 ⊢
  clear hT
  subst ej
  go_enter Tryd.func38, Tryd.ntmps38
  go_wp2_with fail
  go_ret
  exact ⟨rfl, rfl⟩

set_option maxHeartbeats 1000000 in
/-- Has. -/
theorem has_calls (m : Nat) (i : Int) (hm : m < 65536) (w : World) :
    Calls Tryd.prog 31 #[.int .u16 m, .int .i64 i] w fun e w' => e = .returned (.bool (hasI m i)) ∧ w' = w := by
  unfold hasI
  go_enter Tryd.func31, Tryd.ntmps31
  by_cases h1 : 0 ≤ i
  · by_cases h2 : i < 16
    · have e : (bits .and .u16 ((m : Int) / 2 ^ i.toNat) 1 == 1) = has m i.toNat := and1_u16 m i.toNat hm
      rw [decide_eq_true h1, Bool.true_and]
      go_wp2_with fail
      go_ret
      exact ⟨rfl, rfl⟩
    · have e : has m i.toNat = false := by
        cases e : has m i.toNat with
        | false => rfl
        | true => have := has_lt (n := 16) hm e; omega
      rw [e, Bool.and_false]
      have g1 : 16 ≤ i := by omega
      go_wp2_with fail
      go_ret
      exact ⟨rfl, rfl⟩
  · rw [decide_eq_false h1, Bool.false_and]
    have g1 : i < 0 := by omega
    go_wp2_with fail
    go_ret
    exact ⟨rfl, rfl⟩

set_option maxHeartbeats 1000000 in
/-- below. -/
theorem below_calls (m k : Nat) (hm : m < 65536) (hk : k ≤ 16) (w : World) :
    Calls Tryd.prog 30 #[.int .u16 m, .int .i64 k] w fun e w' => e = .returned (.int .u16 (m % 2 ^ k : Nat)) ∧ w' = w := by
  have e := below_u16 m k hm hk
  have a0 : (0 : Int) ≤ k := by omega
  have e1 : ((k : Int)).toNat = k := by omega
  go_enter Tryd.func30, Tryd.ntmps30
  go_wp2_with fail
  have e2 : ((m : Int) % 2 ^ k) = ((m % 2 ^ k : Nat) : Int) := by rw [Int.natCast_emod, Int.natCast_pow]; rfl
  rw [e2]
  go_ret
  exact ⟨rfl, rfl⟩
end Go.Proofs.YtlfohlgooomdfaaDoor
