/-
  A plan that came in.
-/
import Derived.Test.YtcgddbbniahimaaTreeMake
import Derived.SizedLaws
set_option linter.unusedVariables false
set_option linter.unusedSimpArgs false
namespace Go.Proofs.Ytcgddbbniahimaa
open Go.ChangeShapes Go.WideShapes Go.Deep Go.RowKit

theorem one_field {cs : List Value} {o c : Nat} (hc1 : c = 1) (ho : o < cs.length) : (cs.drop o).take c = [cs[o]] := by
  rw [hc1, List.drop_eq_getElem_cons ho, List.take_succ_cons, List.take_zero]
/-- A slice of numbers in a field. -/
theorem ints_in {H : Type} {enc : TypeId × Value → H} {W : World} {n : Nat} {u : Value} {x : DataW H × List MemPlace} (h : DataW.trod enc Try.prog W 0 (fun _ => true) true n 23 [u] = some x) :
    ∃ (A : Option Addr) (c : Nat) (ws : List Int), u = .slice A ws.length c ∧ Reads W W.heap.size 1 (.slice A ws.length c) ws.length (ws.map encZ) ∧ ∀ big, (∀ y ∈ x.1.weights Try.prog 23, y ≤ big) → ws.length * 8 ≤ big := by
  rcases open_ints Try.underlying23 Try.underlying3 (by kernel_rfl) h with ⟨hcs, rfl⟩ | ⟨ad, l, c, zs, hcs, _, hl, hm, hz, rfl, hcell, hwz⟩
  · injection hcs with hcs _
    subst hcs
    exact ⟨none, 0, [], rfl, ⟨rfl, none, 0, rfl, Nat.le_refl _, Nat.zero_le _, fun h => absurd h (Nat.lt_irrefl _)⟩, fun big _ => by simp⟩
  · injection hcs with hcs _
    subst hcs
    simp at hz
    have hlen : (zs.take l).length = l := by rw [List.length_take]; omega
    refine ⟨some ad, c, zs.take l, by rw [hlen], ?_, fun big hb => ?_⟩
    · rw [hlen]
      refine ⟨by rw [List.length_map, hlen, Nat.mul_one], some ad, c, rfl, hl, hm, fun hn => ⟨ad, rfl, ?_, fun j u hu => ?_⟩⟩
      · have := World.block_lt_of_cell? W _ (hcell 0 (by omega))
        rwa [blk_of_add] at this
      · rw [List.getElem?_map] at hu
        obtain ⟨z, hz', rfl⟩ := Option.map_eq_some_iff.1 hu
        rw [List.getElem?_take] at hz'
        split at hz'
        · rename_i hj
          rw [hcell j (by omega)]
          rw [List.getD_eq_getElem?_getD, hz']; rfl
        · cases hz'
    · rw [hlen]
      have h8 : Try.prog.bytesOf 3 = 8 := by kernel_rfl
      have hw : ((lits IntKind.i64 (zs.take l) : List (DataW H)).length + (lits IntKind.i64 (zs.drop l) : List (DataW H)).length) * 8 ∈ (DataW.slice (lits IntKind.i64 (zs.take l)) (lits IntKind.i64 (zs.drop l)) : DataW H).weights Try.prog 23 := by
        rw [DataW.weights, Try.underlying23]
        simp only [h8]
        exact List.mem_cons_self ..
      have := hb _ hw
      have hl1 : (lits IntKind.i64 (zs.take l) : List (DataW H)).length = l := by rw [show (lits IntKind.i64 (zs.take l) : List (DataW H)).length = (zs.take l).length by simp [lits], hlen]
      rw [hl1] at this
      omega
/-- A slice in a field: its shape. -/
theorem slice_in {H : Type} {enc : TypeId × Value → H} {W : World} {n : Nat} {u : Value} {T E : TypeId} {x : DataW H × List MemPlace} (hT : Try.prog.underlying T = some (.slice E)) (h : DataW.trod enc Try.prog W 0 (fun _ => true) true n T [u] = some x) : ∃ A l c, u = .slice A l c := by
  rcases DataW.trod_slice hT h with ⟨hcs, _⟩ | ⟨a, l, c, _, _, _, _, hcs, _⟩
  · injection hcs with hcs _; exact ⟨none, 0, 0, hcs⟩
  · injection hcs with hcs _; exact ⟨some a, l, c, hcs⟩
/-- Rows in a field. -/
theorem rows_in {H : Type} {enc : TypeId × Value → H} {W : World} {n : Nat} {u : Value} {x : DataW H × List MemPlace} (h : DataW.trod enc Try.prog W 0 (fun _ => true) true n 27 [u] = some x) :
    ∃ (A : Option Addr) (c : Nat) (vs : List Value), u = .slice A vs.length c ∧ Reads W W.heap.size 1 (.slice A vs.length c) vs.length vs ∧ ∀ y ∈ vs, ∃ A l c, y = .slice A l c := by
  rcases DataW.trod_slice Try.underlying27 h with ⟨hcs, _⟩ | ⟨a, l, c, elems, rest, m, _, hcs, _, _, hl, hm, hlen, hel, _, _⟩
  · injection hcs with hcs _
    subst hcs
    exact ⟨none, 0, [], rfl, ⟨rfl, none, 0, rfl, Nat.le_refl _, Nat.zero_le _, fun h => absurd h (Nat.lt_irrefl _)⟩, fun y hy => by cases hy⟩
  · injection hcs with hcs _
    subst hcs
    have hC : Try.prog.cellsOf 23 = 1 := by kernel_rfl
    have hall : ∀ i, i < l → ∃ y : Value, (∃ A l c, y = .slice A l c) ∧ W.cell? (a.add i) = some y := by
      intro i hi
      have h1 := hel i hi
      rw [List.getElem?_eq_getElem (by omega), hC, Nat.mul_one] at h1
      obtain ⟨cs', hc1, hc2⟩ := Option.bind_eq_some_iff.1 h1
      obtain ⟨hl1, _, hc3⟩ := World.cells?_some hc1
      have hc0 := hc3 0 (by decide)
      match cs', hl1 with
      | [y], _ =>
        refine ⟨y, slice_in Try.underlying23 hc2, ?_⟩
        rw [add_of_add, Nat.add_zero] at hc0
        exact hc0
    obtain ⟨vs, hvl, hvq⟩ := list_of_all (Q := fun i (y : Value) => (∃ A l c, y = .slice A l c) ∧ W.cell? (a.add i) = some y) l hall
    refine ⟨some a, c, vs, by rw [hvl], ?_, fun y hy => ?_⟩
    · rw [hvl]
      refine ⟨by omega, some a, c, rfl, hl, hm, fun hn => ⟨a, rfl, ?_, fun j u hu => (hvq j u hu).2⟩⟩
      have h0 := (hvq 0 _ (List.getElem?_eq_getElem (show 0 < vs.length by omega))).2
      have := World.block_lt_of_cell? W _ h0
      rwa [blk_of_add] at this
    · obtain ⟨i, hi⟩ := List.getElem?_of_mem hy
      exact (hvq i y hi).1

/-- A plan that came in. -/
theorem plan_in {H : Type} {enc : TypeId × Value → H} {W : World} {v : Value} {d : DataW H} {p : List MemPlace} (ht : DataW.Trod enc Try.prog W 0 (fun _ => true) true 29 v d p) {base : Nat} (ho : Value.okWide Try.prog W .any base 29 v) :
    ∃ (q : Nums) (n0 : Int) (Ea Wa Na : Option Addr) (en ec wc nc : Nat) (ws : List Int) (vs : List Value), v = .agg (q.plan n0 (.slice Ea en ec) (.slice Wa ws.length wc) (.slice Na vs.length nc)) ∧
      Reads W W.heap.size 1 (.slice Wa ws.length wc) ws.length (ws.map encZ) ∧ (∀ big, (∀ y ∈ d.weights Try.prog 29, y ≤ big) → ws.length * 8 ≤ big) ∧
      Reads W W.heap.size 1 (.slice Na vs.length nc) vs.length vs ∧ ∀ y ∈ vs, ∃ A l c, y = .slice A l c := by
  obtain ⟨cs, rfl, hcs⟩ := okWide_struct Try.underlying29 ho
  have hcs11 : cs.size = 11 := hcs.trans (by kernel_rfl)
  obtain ⟨fuel, hf'⟩ := ht
  have hcells : (Value.agg cs).cells = cs := by simp [Value.cells]
  rw [hcells] at hf'
  obtain ⟨xs, n', rfl, hx, hl, hxl, hf⟩ := DataW.trod_struct Try.underlying29 hf'
  have hl11 : cs.toList.length = 11 := by simpa using hcs11
  have hx11 : xs.length = 11 := hxl
  have cI : Try.prog.cellsOf 3 = 1 := by kernel_rfl
  have cE : Try.prog.cellsOf 25 = 1 := by kernel_rfl
  have cL : Try.prog.cellsOf 23 = 1 := by kernel_rfl
  have cR : Try.prog.cellsOf 27 = 1 := by kernel_rfl
  obtain ⟨z0, h0, _⟩ := field_int (o := 0) Try.underlying3 cI rfl (by omega) (by rw [List.getElem?_eq_getElem (by omega)]; rfl) (hf 0 _ rfl)
  have f1 : DataW.trod enc Try.prog W 0 (fun _ => true) true n' 25 ((cs.toList.drop 1).take (Try.prog.cellsOf 25)) = xs[1]? := hf 1 _ rfl
  obtain ⟨z2, h2, _⟩ := field_int (o := 2) Try.underlying3 cI rfl (by omega) (by rw [List.getElem?_eq_getElem (by omega)]; rfl) (hf 2 _ rfl)
  obtain ⟨z3, h3, _⟩ := field_int (o := 3) Try.underlying3 cI rfl (by omega) (by rw [List.getElem?_eq_getElem (by omega)]; rfl) (hf 3 _ rfl)
  obtain ⟨z4, h4, _⟩ := field_int (o := 4) Try.underlying3 cI rfl (by omega) (by rw [List.getElem?_eq_getElem (by omega)]; rfl) (hf 4 _ rfl)
  obtain ⟨z5, h5, _⟩ := field_int (o := 5) Try.underlying3 cI rfl (by omega) (by rw [List.getElem?_eq_getElem (by omega)]; rfl) (hf 5 _ rfl)
  obtain ⟨z6, h6, _⟩ := field_int (o := 6) Try.underlying3 cI rfl (by omega) (by rw [List.getElem?_eq_getElem (by omega)]; rfl) (hf 6 _ rfl)
  obtain ⟨z7, h7, _⟩ := field_int (o := 7) Try.underlying3 cI rfl (by omega) (by rw [List.getElem?_eq_getElem (by omega)]; rfl) (hf 7 _ rfl)
  have f8 : DataW.trod enc Try.prog W 0 (fun _ => true) true n' 23 ((cs.toList.drop 8).take (Try.prog.cellsOf 23)) = xs[8]? := hf 8 _ rfl
  obtain ⟨z9, h9, _⟩ := field_int (o := 9) Try.underlying26 (by kernel_rfl) rfl (by omega) (by rw [List.getElem?_eq_getElem (by omega)]; rfl) (hf 9 _ rfl)
  have f10 : DataW.trod enc Try.prog W 0 (fun _ => true) true n' 27 ((cs.toList.drop 10).take (Try.prog.cellsOf 27)) = xs[10]? := hf 10 _ rfl
  rw [List.getElem?_eq_getElem (by omega)] at f1 f8 f10
  rw [cE, one_field rfl (by omega)] at f1
  rw [cL, one_field rfl (by omega)] at f8
  rw [cR, one_field rfl (by omega)] at f10
  obtain ⟨Ea, en, ec, e1⟩ := slice_in Try.underlying25 f1
  obtain ⟨Wa, wc, ws, e8, g8, k8⟩ := ints_in f8
  obtain ⟨Na, nc, vs, e10, g10, k10⟩ := rows_in f10
  refine ⟨⟨z2, z3, z4, z5, z6, z7, z9⟩, z0, Ea, Wa, Na, en, ec, wc, nc, ws, vs, ?_, g8, fun big hb => k8 big fun y hy => ?_, g10, k10⟩
  · congr 1
    apply Array.ext'
    obtain ⟨l⟩ := cs
    match l, hl11 with
    | [c0, c1, c2, c3, c4, c5, c6, c7, c8, c9, c10], _ =>
      simp at h0 h2 h3 h4 h5 h6 h7 h9 e1 e8 e10
      subst h0 h2 h3 h4 h5 h6 h7 h9 e1 e8 e10
      rfl
  · refine hb y ?_
    injection hx with hd _
    subst hd
    rw [DataW.weights, Try.underlying29]
    exact DataW.weights_mem_each (j := 8) rfl (by rw [List.getElem?_map, List.getElem?_eq_getElem (by omega)]; rfl) y hy
end Go.Proofs.Ytcgddbbniahimaa
