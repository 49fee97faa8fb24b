/-
  From each node of a path on, the rest is its path: all small trees.
-/
import Derived.Test.YtcgddbbniahimaaTreeRef
namespace Go.Proofs.Ytcgddbbniahimaa

def chkP (t : List Nat) (v x : Nat) : Bool := (List.range (pathN t v x).length).all fun i =>
  decide ((pathN t v x).getD i 0 ≤ t.length) && (pathN t ((pathN t v x).getD i 0) x == (pathN t v x).drop i) && (pathN t v ((pathN t v x).getD i 0) == (pathN t v x).take (i + 1))
theorem chkP_all : allT chkP = true := by decide +kernel
theorem chkP_at {t : List Nat} (ht : Tree t) (h5 : t.length ≤ 5) {v x : Nat} (hv : v ≤ t.length) (hx : x ≤ t.length) {i : Nat} (hi : i < (pathN t v x).length) :
    (pathN t v x).getD i 0 ≤ t.length ∧ pathN t ((pathN t v x).getD i 0) x = (pathN t v x).drop i ∧ pathN t v ((pathN t v x).getD i 0) = (pathN t v x).take (i + 1) := by
  have h1 := allT_at chkP_all ht h5 hv hx
  have h2 := List.all_eq_true.1 h1 i (List.mem_range.2 hi)
  simp only [Bool.and_eq_true, beq_iff_eq, decide_eq_true_eq] at h2
  exact ⟨h2.1.1, h2.1.2, h2.2⟩

end Go.Proofs.Ytcgddbbniahimaa
