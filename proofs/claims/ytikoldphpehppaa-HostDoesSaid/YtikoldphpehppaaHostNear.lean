/-
  The walk over 'near'.
-/
import Derived.Test.YtikoldphpehppaaHostArgs
import Derived.Test.YtikoldphpehppaaHostW4
set_option linter.unusedVariables false
set_option linter.unusedSimpArgs false
namespace Go.Proofs.Ytikoldphpehppaa
open Go.RowKit

def nearOp (o : HOp) : HOp := if o.near = true then { o with x := { o.x with lane := max o.x.lane 0 % 3 }, lane := max o.lane 0 % 3 } else o

set_option maxHeartbeats 1000000 in
theorem near_any (o : HOp) (w : World) (h1 : o.x.lane ≤ 9223372036854775807) (h2 : o.lane ≤ 9223372036854775807) :
    Calls Try.prog 15 #[.agg #[.int .u8 o.kind, .int .i64 o.x.src, .int .i64 o.x.dst, .int .i64 o.x.lane, .int .u32 o.x.body, .int .i64 o.lane, .bool o.near]] w fun e w' =>
      e = .returned (.agg (nearOp o).cells.toArray) ∧ Keeps (fun _ => False) w w' := by
  obtain ⟨k, ⟨s, d, xl, b⟩, l, nr⟩ := o
  cases nr with
  | false =>
    go_enter Try.func15, Try.ntmps15
    go_wp2_with fail
    exact bodyPost_ret (v := .agg #[.int .u8 k, .int .i64 s, .int .i64 d, .int .i64 xl, .int .u32 b, .int .i64 l, .bool false]) (by simp [results, Try.results15, go_sem]) rfl ⟨rfl, (Keeps.alloc _ _ _).trans (Keeps.alloc _ _ _)⟩
  | true =>
    simp only at h1 h2
    rcases Int.lt_or_le xl 0 with hx | hx <;> rcases Int.lt_or_le l 0 with hy | hy
    · have e : nearOp ⟨k, ⟨s, d, xl, b⟩, l, true⟩ = ⟨k, ⟨s, d, 0, b⟩, 0, true⟩ := by
        have e1 : max xl 0 % 3 = 0 := by omega
        have e2 : max l 0 % 3 = 0 := by omega
        simp [nearOp, e1, e2]
      rw [e]
      clear e
      go_enter Try.func15, Try.ntmps15
      go_wp2_with fail
      exact bodyPost_ret (v := .agg #[.int .u8 k, .int .i64 s, .int .i64 d, .int .i64 0, .int .u32 b, .int .i64 0, .bool true]) (by simp [results, Try.results15, go_sem]) rfl ⟨rfl, (Keeps.alloc _ _ _).trans (Keeps.alloc _ _ _)⟩
    · have e : nearOp ⟨k, ⟨s, d, xl, b⟩, l, true⟩ = ⟨k, ⟨s, d, 0, b⟩, (l % 3), true⟩ := by
        have e1 : max xl 0 % 3 = 0 := by omega
        have e2 : max l 0 % 3 = (l % 3) := by omega
        simp [nearOp, e1, e2]
      rw [e]
      clear e
      go_enter Try.func15, Try.ntmps15
      go_wp2_with fail
      exact bodyPost_ret (v := .agg #[.int .u8 k, .int .i64 s, .int .i64 d, .int .i64 0, .int .u32 b, .int .i64 (l % 3), .bool true]) (by simp [results, Try.results15, go_sem]) rfl ⟨rfl, (Keeps.alloc _ _ _).trans (Keeps.alloc _ _ _)⟩
    · have e : nearOp ⟨k, ⟨s, d, xl, b⟩, l, true⟩ = ⟨k, ⟨s, d, (xl % 3), b⟩, 0, true⟩ := by
        have e1 : max xl 0 % 3 = (xl % 3) := by omega
        have e2 : max l 0 % 3 = 0 := by omega
        simp [nearOp, e1, e2]
      rw [e]
      clear e
      go_enter Try.func15, Try.ntmps15
      go_wp2_with fail
      exact bodyPost_ret (v := .agg #[.int .u8 k, .int .i64 s, .int .i64 d, .int .i64 (xl % 3), .int .u32 b, .int .i64 0, .bool true]) (by simp [results, Try.results15, go_sem]) rfl ⟨rfl, (Keeps.alloc _ _ _).trans (Keeps.alloc _ _ _)⟩
    · have e : nearOp ⟨k, ⟨s, d, xl, b⟩, l, true⟩ = ⟨k, ⟨s, d, (xl % 3), b⟩, (l % 3), true⟩ := by
        have e1 : max xl 0 % 3 = (xl % 3) := by omega
        have e2 : max l 0 % 3 = (l % 3) := by omega
        simp [nearOp, e1, e2]
      rw [e]
      clear e
      go_enter Try.func15, Try.ntmps15
      go_wp2_with fail
      exact bodyPost_ret (v := .agg #[.int .u8 k, .int .i64 s, .int .i64 d, .int .i64 (xl % 3), .int .u32 b, .int .i64 (l % 3), .bool true]) (by simp [results, Try.results15, go_sem]) rfl ⟨rfl, (Keeps.alloc _ _ _).trans (Keeps.alloc _ _ _)⟩

end Go.Proofs.Ytikoldphpehppaa
