/-
  The bits of a mask, one by one, walked: the value that 'each' hands back has the contract SeqO.
-/
import Derived.Test.YtlfohlgooomdfaaDoorMaskW1
import Derived.OwnWalkIn
import Derived.TacticsInMore
import Derived.LoopNIn
import Derived.LoopIn
set_option linter.unusedVariables false
set_option linter.unusedSimpArgs false
namespace Go.Proofs.YtlfohlgooomdfaaDoor
open Go.RowKit
attribute [local go_sem] Oper.semAt_some

def maskAt (w : World) (b : Nat) : Nat := match w.cell? ⟨b, 0, none⟩ with
  | some (.int _ m) => m.toNat
  | _ => 0
/-- Block b is the variable of a mask. -/
def MBox (w : World) (b m : Nat) : Prop := w.heap[b]? = some (.cells #[.int .u16 (m : Int)] 29 (0, 0))
theorem MBox.cell {w : World} {b m : Nat} (h : MBox w b m) : w.cell? ⟨b, 0, none⟩ = some (.int .u16 m) := by rw [blk_cell h]; rfl
theorem MBox.frozen {w : World} {b m : Nat} (h : MBox w b m) : w.frozen? ⟨b, 0, none⟩ = false := blk_frozen h 0
theorem MBox.at_ {w : World} {b m : Nat} (h : MBox w b m) : maskAt w b = m := by unfold maskAt; rw [h.cell]; simp

/-- A variable of one cell. -/
def IBox (w : World) (b : Nat) (v : Int) : Prop := w.heap[b]? = some (.cells #[.int .i64 v] 3 (0, 0))
theorem IBox.cell {w : World} {b : Nat} {v : Int} (h : IBox w b v) : w.cell? ⟨b, 0, none⟩ = some (.int .i64 v) := by rw [blk_cell h]; rfl
theorem IBox.frozen {w : World} {b : Nat} {v : Int} (h : IBox w b v) : w.frozen? ⟨b, 0, none⟩ = false := blk_frozen h 0

abbrev encI (k : Nat) : Value := .int .i64 (k : Int)

set_option maxRecDepth 100000 in
set_option maxHeartbeats 2000000 in
theorem each1_in (n l b m : Nat) (hn : 1 ≤ n) (hb : b ≠ 0) (hm : m < 65536) (J Jx : List Nat → World → Prop) (W : World)
    (hJ : Minds (fun k => k = b) J) (hJx : Minds (fun k => k = b) Jx)
    (hY : ∀ pre x W1, J pre W1 → pre ++ [x] <+: bitsOf m → YieldAt Fence.wide (n - 1) Tryd.prog l #[encI x] W1 fun e W' =>
      (e = .returned (.bool true) ∧ J (pre ++ [x]) W' ∧ Same (fun k => k = b ∨ k = 0) W1 W') ∨ (e = .returned (.bool false) ∧ Jx (pre ++ [x]) W'))
    (hB : MBox W b m) (hT : Tab W) (h0 : J [] W) :
    CallsIn Fence.wide n Tryd.prog 37 #[.func (.yield l) #[] #[], .pointer (some ⟨b, 0, none⟩)] W fun e W' => (∃ v, e = .returned v) ∧ (J (bitsOf m) W' ∨ ∃ pre, pre <+: bitsOf m ∧ Jx pre W') := by
  refine callsIn_of_wp Tryd.func37 rfl trivial ?_ rfl
  simp only [Tryd.ntmps37, List.size_toArray, List.length_cons, List.length_nil, Nat.reduceAdd, Nat.reduceSub, Array.replicate_succ, Array.replicate_zero, List.push_toArray, List.append_toArray, List.nil_append, List.cons_append]
  have hfT : Fence.wide.fn 38 := trivial
  gi_wp2
  gi_loopw [] (fun wr => ∃ (pre : List Nat) (k : Nat), bitsOf m = pre ++ bitsOf k ∧ k < 65536 ∧ MBox wr b k ∧ Tab wr ∧ J pre wr) (fun wr => maskAt wr b)
  case atStart => exact ⟨[], m, rfl, hm, hB, hT, h0⟩
  case round =>
    obtain ⟨pre, k, hx, hk, hBk, hTk, hJk⟩ := hrel
    have hc := hBk.cell
    have hf := hBk.frozen
    by_cases hk0 : k = 0
    · subst hk0
      rw [bitsOf_zero, List.append_nil] at hx
      gi_wp2
      go_end0
      exact ⟨⟨_, rfl⟩, .inl (by rw [hx]; exact hJk)⟩
    · have hk1 : ((k : Int) != 0) = true := by simpa using hk0
      obtain ⟨fn, tmps, assign, body, hy, hR⟩ := hY pre (tzOf k) wr hJk (by rw [hx, bitsOf_cons k hk hk0]; simp)
      gi_wp2_with (gi_at_call 38; refine (callsIn_wide.2 (tz_calls k hk hk0 wr hTk)).mono ?_; rintro e w' ⟨rfl, rfl⟩)
      refine hR.mono ?_
      rintro e W3 (⟨rfl, hJ3, hs3⟩ | ⟨rfl, hJx3⟩)
      · have hB3 : MBox W3 b k := (hs3 b (.inl rfl)).trans hBk
        have hT3 : Tab W3 := hTk.same hs3 (.inr rfl)
        have hc3 := hB3.cell
        have hf3 := hB3.frozen
        have ep : bits .and .u16 (k : Int) ((k : Int) - 1) = ((k &&& (k - 1) : Nat) : Int) := pred_u16 k hk hk0
        have ew : IntKind.u16.wrap ((k : Int) - 1) = (k : Int) - 1 := wraps_u16 _ (by omega) (by show (k : Int) - 1 < (65536 : Int); omega)
        gi_wp2
        go_roundw
        case rel => exact ⟨pre ++ [tzOf k], k &&& (k - 1), by rw [hx, bitsOf_cons k hk hk0]; simp, and_pred_lt k hk, blk_set hB3 0 _, hT3.keeps (F := fun i => i = b) (Keeps.setCell _ _ _ _ rfl) (fun h => hb h.symm), hJ _ _ _ hJ3 (Keeps.setCell _ _ _ _ rfl)⟩
        case measure => rw [hBk.at_, MBox.at_ (m := k &&& (k - 1)) (blk_set hB3 0 _)]; exact and_pred_lt' k hk0
      · gi_wp2
        refine bodyPost_ret (results_none rfl _ _ _) rfl ?_
        exact ⟨⟨_, rfl⟩, .inr ⟨pre ++ [tzOf k], by rw [hx, bitsOf_cons k hk hk0]; simp, hJx3⟩⟩

/-- 'each' boxes the mask and hands back a function value over the box. -/
theorem each_calls (m : Nat) (w : World) :
    Calls Tryd.prog 29 #[.int .u16 m] w fun e w' => e = .returned (.func (.func 37) #[] #[.pointer (some ⟨w.heap.size, 0, none⟩)]) ∧ w' = w.alloc (.cells #[.int .u16 (m : Int)] 29) := by
  go_enter Tryd.func29, Tryd.ntmps29
  go_wp2_with fail
  go_ret
  exact ⟨rfl, rfl⟩

/-- The contract of that value, in every world in which the box and the table lie as they lay. -/
theorem each_seq (n b m : Nat) (hn : 1 ≤ n) (hb : b ≠ 0) (hm : m < 65536) (w : World) (hB : MBox w b m) (hT : Tab w) :
    SeqO Fence.wide n Tryd.prog 37 #[.pointer (some ⟨b, 0, none⟩)] encI (fun k => k = b) (fun k => k = b ∨ k = 0) (bitsOf m) w := by
  intro l J Jx W hs hJ hJx hY h0
  exact each1_in n l b m hn hb hm J Jx W hJ hJx hY ((hs b (.inl rfl)).trans hB) (hT.same hs (.inr rfl)) h0
end Go.Proofs.YtlfohlgooomdfaaDoor
