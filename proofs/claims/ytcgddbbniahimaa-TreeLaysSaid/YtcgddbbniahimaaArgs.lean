/-
  What a law is told of an argument that is no integer: that it reads as data.
-/
import Derived.ProofKit
import Derived.Deep.Slices
import Derived.Deep.Fields
import Derived.ChangeSame
import Derived.Lib.SmallJoins
import Derived.WalkKit
set_option linter.unusedVariables false
set_option linter.unusedSimpArgs false
namespace Go.Proofs.Ytcgddbbniahimaa
open Go.ChangeShapes Go.WideShapes Go.Deep Go.RowKit

/-- The value v of type T reads as data in W. -/
def Arg (P : Program) (W : World) (T : TypeId) (v : Value) : Prop :=
  ∃ (H : Type) (enc : TypeId × Value → H) (base : Nat) (d : DataW H) (p : List MemPlace), DataW.Trod enc P W 0 (fun _ => true) true T v d p ∧ Value.okWide P W .any base T v

/-- A slice whose cells are there: n elements of sz cells. -/
def Reads (w : World) (B sz : Nat) (v : Value) (n : Nat) (cs : List Value) : Prop :=
  cs.length = n * sz ∧ ∃ A c, v = .slice A n c ∧ n ≤ c ∧ c ≤ maxLen ∧ (0 < n → ∃ ad, A = some ad ∧ ad.block < B ∧ ∀ j u, cs[j]? = some u → w.cell? (ad.add j) = some u)

theorem blk_of_add (a : Addr) (n : Nat) : (a.add n).block = a.block := by unfold Addr.add; split <;> rfl

theorem Reads.below {w w' : World} {B sz n : Nat} {v : Value} {cs : List Value} (h : Reads w B sz v n cs) (hb : Below B w w') : Reads w' B sz v n cs := by
  obtain ⟨h1, A, c, h2, h3, h4, h5⟩ := h
  refine ⟨h1, A, c, h2, h3, h4, fun hn => ?_⟩
  obtain ⟨ad, e, hlt, hc⟩ := h5 hn
  exact ⟨ad, e, hlt, fun j u hu => (hb.cell (by rw [blk_of_add]; exact hlt)).trans (hc j u hu)⟩

/-- The address of what is there is a plain one. -/
theorem Reads.at_ {w : World} {B sz n : Nat} {v : Value} {cs : List Value} (h : Reads w B sz v n cs) (hp : 0 < cs.length) :
    ∃ g off c, v = .slice (some ⟨g, off, none⟩) n c ∧ n ≤ c ∧ g < B ∧ ∀ j u, cs[j]? = some u → w.cell? ⟨g, off + j, none⟩ = some u := by
  obtain ⟨hl, A, c, rfl, hnc, _, h5⟩ := h
  have hn : 0 < n := by rcases Nat.eq_zero_or_pos n with h0 | h0 <;> simp_all
  obtain ⟨⟨g, off, spot⟩, rfl, hb, hc⟩ := h5 hn
  have h0 := hc 0 _ (List.getElem?_eq_getElem hp)
  have hs : spot = none := by
    cases spot with
    | none => rfl
    | some s =>
      exfalso
      simp only [Addr.add, if_true, World.cell?] at h0
      split at h0 <;> simp_all
  subst hs
  exact ⟨g, off, c, rfl, hnc, hb, fun j u hu => by have := hc j u hu; rwa [Addr.add_lit] at this⟩

/-- Integers that came in. -/
theorem Arg.ints {P : Program} {W : World} {T E : TypeId} {k : IntKind} {v : Value} (hT : P.underlying T = some (.slice E)) (hE : P.underlying E = some (.int k)) (hC : P.cellsOf E = 1) (h : Arg P W T v) :
    ∃ (n : Nat) (zs : List Int), Reads W W.heap.size 1 v n (zs.map (Value.int k)) ∧ zs.length = n ∧ ∀ z ∈ zs, (Lit.int k z).wf = true := by
  obtain ⟨H, enc, base, d, p, ht, ho⟩ := h
  obtain ⟨a, len, cap, rfl⟩ := okWide_slice hT ho
  have lt : ∀ x ∈ p, x.block < W.heap.size := by obtain ⟨m, hm⟩ := ht; exact DataW.trod_lt m _ _ _ hm
  obtain ⟨fuel, hf⟩ := ht
  rcases open_ints hT hE hC hf with ⟨hcs, _⟩ | ⟨x, l, c, zs, hcs, _, hl, hm, hz, _, hcell, hwz⟩
  · simp [Value.cells] at hcs
    obtain ⟨rfl, rfl, rfl⟩ := hcs
    exact ⟨0, [], ⟨rfl, none, 0, rfl, Nat.le_refl _, Nat.zero_le _, fun h => absurd h (Nat.lt_irrefl _)⟩, rfl, fun _ h => by cases h⟩
  · simp [Value.cells] at hcs
    obtain ⟨rfl, rfl, rfl⟩ := hcs
    simp at hz
    have hlen : (zs.take len).length = len := by rw [List.length_take]; omega
    refine ⟨len, zs.take len, ⟨by rw [List.length_map, hlen, Nat.mul_one], some x, cap, rfl, hl, hm, fun hn => ⟨x, rfl, ?_, fun j u hu => ?_⟩⟩, hlen, fun z hz' => hwz z (List.mem_of_mem_take hz')⟩
    · have := World.block_lt_of_cell? W _ (hcell 0 (by omega))
      rwa [blk_of_add] at this
    · rw [List.getElem?_map] at hu
      obtain ⟨z, hz', rfl⟩ := Option.map_eq_some_iff.1 hu
      rw [List.getElem?_take] at hz'
      split at hz'
      · rename_i hj
        rw [hcell j (by omega)]
        rw [List.getD_eq_getElem?_getD, hz']; rfl
      · cases hz'

theorem add_of_add (a : Addr) (i j : Nat) : (a.add i).add j = a.add (i + j) := by
  unfold Addr.add
  by_cases hi : i = 0 <;> by_cases hj : j = 0 <;> simp [hi, hj, Nat.add_assoc]

theorem list_of_all {α : Type} {Q : Nat → α → Prop} : ∀ n, (∀ i, i < n → ∃ a, Q i a) → ∃ l : List α, l.length = n ∧ ∀ i a, l[i]? = some a → Q i a
  | 0, _ => ⟨[], rfl, fun i a h => by simp at h⟩
  | n + 1, h => by
    obtain ⟨l, hl, hq⟩ := list_of_all n (fun i hi => h i (by omega))
    obtain ⟨a, ha⟩ := h n (by omega)
    refine ⟨l ++ [a], by simp [hl], fun i b hb => ?_⟩
    by_cases hi : i < l.length
    · rw [List.getElem?_append_left hi] at hb; exact hq i b hb
    · rw [List.getElem?_append_right (by omega)] at hb
      have h0 : i - l.length = 0 := by have := (List.getElem?_eq_some_iff.1 hb).1; simp at this; omega
      rw [h0] at hb
      simp at hb
      subst hb
      rwa [show i = n by omega]

theorem flat_at {α β : Type} {f : α → List β} {sz : Nat} (hf : ∀ a, (f a).length = sz) : ∀ (l : List α) (J : Nat) (u : β), (l.flatMap f)[J]? = some u → ∃ i j a, J = i * sz + j ∧ l[i]? = some a ∧ (f a)[j]? = some u
  | [], J, u, h => by simp at h
  | a :: l, J, u, h => by
    rw [List.flatMap_cons] at h
    by_cases hJ : J < sz
    · rw [List.getElem?_append_left (by rw [hf]; exact hJ)] at h
      exact ⟨0, J, a, by omega, rfl, h⟩
    · rw [List.getElem?_append_right (by rw [hf]; omega), hf] at h
      obtain ⟨i, j, b, e, h1, h2⟩ := flat_at hf l _ u h
      exact ⟨i + 1, j, b, by rw [Nat.add_mul]; omega, h1, h2⟩

theorem flat_len {α β : Type} {f : α → List β} {sz : Nat} (hf : ∀ a, (f a).length = sz) (l : List α) : (l.flatMap f).length = l.length * sz := by
  induction l with
  | nil => simp
  | cons a l ih => rw [List.flatMap_cons, List.length_append, hf, ih, List.length_cons, Nat.add_mul]; omega

/-- A slice of elements of several cells that came in: f: the cells of an element. -/
theorem Arg.rows {α : Type} {P : Program} {W : World} {T E : TypeId} {v : Value} (f : α → List Value) (good : α → Prop) (sz : Nat) (hf : ∀ a, (f a).length = sz) (hT : P.underlying T = some (.slice E)) (hC : P.cellsOf E = sz)
    (hel : ∀ (H : Type) (enc : TypeId × Value → H) (n : Nat) (cs : List Value) (x : DataW H × List MemPlace), DataW.trod enc P W 0 (fun _ => true) true n E cs = some x → ∃ a : α, cs = f a ∧ good a) (hpos : 0 < sz) (h : Arg P W T v) :
    ∃ (n : Nat) (l : List α), Reads W W.heap.size sz v n (l.flatMap f) ∧ l.length = n ∧ ∀ a ∈ l, good a := by
  obtain ⟨H, enc, base, d, p, ht, ho⟩ := h
  obtain ⟨A, len, cap, rfl⟩ := okWide_slice hT ho
  obtain ⟨fuel, hf'⟩ := ht
  rcases DataW.trod_slice hT hf' with ⟨hcs, _⟩ | ⟨a, len', cap', elems, rest, n, _, hcs, _, _, hl, hm, hlen, hel', _, _⟩
  · simp [Value.cells] at hcs
    obtain ⟨rfl, rfl, rfl⟩ := hcs
    exact ⟨0, [], ⟨by simp, none, 0, rfl, Nat.le_refl _, Nat.zero_le _, fun h => absurd h (Nat.lt_irrefl _)⟩, rfl, fun _ h => by cases h⟩
  · simp [Value.cells] at hcs
    obtain ⟨rfl, rfl, rfl⟩ := hcs
    have hall : ∀ i, i < len → ∃ b : α, good b ∧ ∀ j, j < sz → W.cell? ((a.add (i * sz)).add j) = (f b)[j]? := by
      intro i hi
      have h1 := hel' i hi
      rw [List.getElem?_eq_getElem (by omega), hC] at h1
      obtain ⟨cs', hc1, hc2⟩ := Option.bind_eq_some_iff.1 h1
      obtain ⟨_, _, hc3⟩ := World.cells?_some hc1
      obtain ⟨b, rfl, hg⟩ := hel _ _ _ _ _ hc2
      exact ⟨b, hg, hc3⟩
    obtain ⟨l, hll, hlq⟩ := list_of_all (Q := fun i b => good b ∧ ∀ j, j < sz → W.cell? ((a.add (i * sz)).add j) = (f b)[j]?) len hall
    have hcell : ∀ J u, (l.flatMap f)[J]? = some u → W.cell? (a.add J) = some u := by
      intro J u hu
      obtain ⟨i, j, b, rfl, hi, hj⟩ := flat_at hf l J u hu
      have := (hlq i b hi).2 j (by rw [← hf b]; exact (List.getElem?_eq_some_iff.1 hj).1)
      rw [add_of_add] at this
      rw [this, hj]
    refine ⟨len, l, ⟨by rw [flat_len hf, hll], some a, cap, rfl, hl, hm, fun hn => ⟨a, rfl, ?_, hcell⟩⟩, hll, fun b hb => ?_⟩
    · have hp : 0 < (l.flatMap f).length := by rw [flat_len hf, hll]; exact Nat.mul_pos hn hpos
      have := World.block_lt_of_cell? W _ (hcell 0 _ (List.getElem?_eq_getElem hp))
      rwa [blk_of_add] at this
    · obtain ⟨i, hi⟩ := List.getElem?_of_mem hb
      exact (hlq i b hi).1

/-- One field of one cell, an integer. -/
theorem field_int {H : Type} {enc : TypeId × Value → H} {P : Program} {w : World} {n : Nat} {t : TypeId} {k : IntKind} {cs : List Value} {o c : Nat} {r : Option (DataW H × List MemPlace)} (ht : P.underlying t = some (.int k)) (hc : P.cellsOf t = c) (hc1 : c = 1) (ho : o < cs.length) (hr : r.isSome = true)
    (h : DataW.trod enc P w 0 (fun _ => true) true n t ((cs.drop o).take (P.cellsOf t)) = r) : ∃ z : Int, cs[o]? = some (.int k z) ∧ (Lit.int k z).wf = true := by
  obtain ⟨y, rfl⟩ := Option.isSome_iff_exists.1 hr
  rw [hc, hc1, List.drop_eq_getElem_cons ho, List.take_succ_cons, List.take_zero] at h
  obtain ⟨z, hz, _, hw⟩ := DataW.trod_int ht h
  injection hz with hz
  exact ⟨z, by rw [List.getElem?_eq_getElem ho, hz], hw⟩
theorem field_bool {H : Type} {enc : TypeId × Value → H} {P : Program} {w : World} {n : Nat} {t : TypeId} {cs : List Value} {o c : Nat} {r : Option (DataW H × List MemPlace)} (ht : P.underlying t = some .bool) (hc : P.cellsOf t = c) (hc1 : c = 1) (ho : o < cs.length) (hr : r.isSome = true)
    (h : DataW.trod enc P w 0 (fun _ => true) true n t ((cs.drop o).take (P.cellsOf t)) = r) : ∃ z : Bool, cs[o]? = some (.bool z) := by
  obtain ⟨y, rfl⟩ := Option.isSome_iff_exists.1 hr
  rw [hc, hc1, List.drop_eq_getElem_cons ho, List.take_succ_cons, List.take_zero] at h
  obtain ⟨z, hz, _⟩ := DataW.trod_bool ht h
  injection hz with hz
  exact ⟨z, by rw [List.getElem?_eq_getElem ho, hz]⟩

end Go.Proofs.Ytcgddbbniahimaa
