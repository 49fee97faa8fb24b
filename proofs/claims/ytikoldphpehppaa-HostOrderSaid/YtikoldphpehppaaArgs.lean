/-
  What a law is told of an argument that is no integer: that it reads as data.
-/
import Derived.ProofKit
import Derived.Deep.Slices
import Derived.Deep.Fields
import Derived.ChangeSame
import Derived.Lib.SmallJoins
import Derived.WalkKit
set_option linter.unusedVariables false
set_option linter.unusedSimpArgs false
namespace Go.Proofs.Ytikoldphpehppaa
open Go.ChangeShapes Go.WideShapes Go.Deep Go.RowKit

/-- The value v of type T reads as data in W. -/
def Arg (P : Program) (W : World) (T : TypeId) (v : Value) : Prop :=
  ∃ (H : Type) (enc : TypeId × Value → H) (base : Nat) (d : DataW H) (p : List MemPlace), DataW.Trod enc P W 0 (fun _ => true) true T v d p ∧ Value.okWide P W .any base T v

/-- A slice whose cells are there: n elements of sz cells. -/
def Reads (w : World) (B sz : Nat) (v : Value) (n : Nat) (cs : List Value) : Prop :=
  cs.length = n * sz ∧ ∃ A c, v = .slice A n c ∧ n ≤ c ∧ c ≤ maxLen ∧ (0 < n → ∃ ad, A = some ad ∧ ad.block < B ∧ ∀ j u, cs[j]? = some u → w.cell? (ad.add j) = some u)

theorem blk_of_add (a : Addr) (n : Nat) : (a.add n).block = a.block := by unfold Addr.add; split <;> rfl

theorem Reads.below {w w' : World} {B sz n : Nat} {v : Value} {cs : List Value} (h : Reads w B sz v n cs) (hb : Below B w w') : Reads w' B sz v n cs := by
  obtain ⟨h1, A, c, h2, h3, h4, h5⟩ := h
  refine ⟨h1, A, c, h2, h3, h4, fun hn => ?_⟩
  obtain ⟨ad, e, hlt, hc⟩ := h5 hn
  exact ⟨ad, e, hlt, fun j u hu => (hb.cell (by rw [blk_of_add]; exact hlt)).trans (hc j u hu)⟩

/-- Integers that came in. -/
theorem Arg.ints {P : Program} {W : World} {T E : TypeId} {k : IntKind} {v : Value} (hT : P.underlying T = some (.slice E)) (hE : P.underlying E = some (.int k)) (hC : P.cellsOf E = 1) (h : Arg P W T v) :
    ∃ (n : Nat) (zs : List Int), Reads W W.heap.size 1 v n (zs.map (Value.int k)) ∧ zs.length = n ∧ ∀ z ∈ zs, (Lit.int k z).wf = true := by
  obtain ⟨H, enc, base, d, p, ht, ho⟩ := h
  obtain ⟨a, len, cap, rfl⟩ := okWide_slice hT ho
  have lt : ∀ x ∈ p, x.block < W.heap.size := by obtain ⟨m, hm⟩ := ht; exact DataW.trod_lt m _ _ _ hm
  obtain ⟨fuel, hf⟩ := ht
  rcases open_ints hT hE hC hf with ⟨hcs, _⟩ | ⟨x, l, c, zs, hcs, _, hl, hm, hz, _, hcell, hwz⟩
  · simp [Value.cells] at hcs
    obtain ⟨rfl, rfl, rfl⟩ := hcs
    exact ⟨0, [], ⟨rfl, none, 0, rfl, Nat.le_refl _, Nat.zero_le _, fun h => absurd h (Nat.lt_irrefl _)⟩, rfl, fun _ h => by cases h⟩
  · simp [Value.cells] at hcs
    obtain ⟨rfl, rfl, rfl⟩ := hcs
    simp at hz
    have hlen : (zs.take len).length = len := by rw [List.length_take]; omega
    refine ⟨len, zs.take len, ⟨by rw [List.length_map, hlen, Nat.mul_one], some x, cap, rfl, hl, hm, fun hn => ⟨x, rfl, ?_, fun j u hu => ?_⟩⟩, hlen, fun z hz' => hwz z (List.mem_of_mem_take hz')⟩
    · have := World.block_lt_of_cell? W _ (hcell 0 (by omega))
      rwa [blk_of_add] at this
    · rw [List.getElem?_map] at hu
      obtain ⟨z, hz', rfl⟩ := Option.map_eq_some_iff.1 hu
      rw [List.getElem?_take] at hz'
      split at hz'
      · rename_i hj
        rw [hcell j (by omega)]
        rw [List.getD_eq_getElem?_getD, hz']; rfl
      · cases hz'

end Go.Proofs.Ytikoldphpehppaa
