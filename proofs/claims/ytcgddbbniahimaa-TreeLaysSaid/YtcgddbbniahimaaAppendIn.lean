/-
  append onto a slice that may begin inside its block (QS), inside a fence.
-/
import Derived.Test.YtcgddbbniahimaaBase
import Derived.OwnWalkIn
namespace Go.Proofs.Ytcgddbbniahimaa
open Go.RowKit

theorem wpListIn_append_QS {F : Fence} {n0 : Nat} {P : Program} {w : World} {ops : Array Oper} {rest : List Oper} {o : Oper} {a : Act} {Q : Exit → Act → World → Prop} (hgd : o.guard = none) (s x : Operand) (t tx : TypeId) (ho : o.op = .call { callee := .builtin .append, args := #[s, x], argTypes := #[t, tx] })
    (e : TypeId) (z : Value) (sz bytes : Nat) (ht : P.underlying t = some (.slice e)) (hinfo : (P.info? e).map (fun i => (i.zero, i.size, i.bytes)) = some (some z, sz, bytes)) (hz : z.cells.size = sz)
    (v : Value) (n : Nat) (cs : List Value) (hv : a.eval s = v) (hQ : QS w e sz v n cs) (xv : Value) (m : Nat) (news : List Value) (hx : a.eval x = xv) (hs : Src P sz tx xv m news w) (hb0 : 0 < bytes) (hb : (n + m) * bytes ≤ 140737488355328)
    (h : ∀ A c w', QS w' e sz (.slice A (n + m) c) (n + m) (cs ++ news) → w.grownBy w' v.ownBlock → ((Value.slice A (n + m) c).ownBlock = v.ownBlock ∨ ∃ b, (Value.slice A (n + m) c).ownBlock = some b ∧ w.heap.size ≤ b) → wpListIn F n0 P ops Q rest (a.put o.dst (.slice A (n + m) c)) w') :
    wpListIn F n0 P ops Q (o :: rest) a w := by
  refine wpListIn_plain hgd fun K hK' => ?_
  obtain ⟨A, c, w', hrun, r1, r2, r3⟩ := run_append_QS (P := P) w t tx o.type e z sz bytes ht hinfo hz v n cs hQ xv m news hs hb0 hb
  unfold Oper.wpIn
  refine ⟨?_, ?_⟩
  · simp [Oper.about, ho, resolve, Target.leads, Sem.run_pure]
  · rw [Oper.semAt_plain F _ _ (by rw [ho]; intro c hc'; cases hc')]
    simp [execOp, ho, resolve, invoke, builtin, hv, hx, hrun, Result.andThen]
    exact hK' _ _ (h A c w' r1 r2 r3)
end Go.Proofs.Ytcgddbbniahimaa
