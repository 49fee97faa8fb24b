/-
  What the matchings' laws are told: rows, lists of rows, rounds.
-/
import Derived.Test.YtlfohlgooomdfaaDoorIslipSmall
set_option linter.unusedVariables false
set_option linter.unusedSimpArgs false
namespace Go.Proofs.YtlfohlgooomdfaaDoor
open Go.ChangeShapes Go.WideShapes Go.Deep Go.RowKit Go.Sort

theorem u16_nat {a : Int} (h : (Lit.int .u16 a).wf = true) : ∃ m : Nat, a = m ∧ m < 65536 := by
  rw [Lit.wf_int_iff, IntKind.min_u16, IntKind.max_u16] at h
  exact ⟨a.toNat, by omega, by omega⟩
theorem rows_nat {zs : List Int} (hz : ∀ z ∈ zs, (Lit.int .u16 z).wf = true) : zs.map (Value.int .u16) = (zs.map Int.toNat).map encU ∧ ∀ x ∈ zs.map Int.toNat, x < 65536 := by
  refine ⟨?_, fun x hx => ?_⟩
  · rw [List.map_map]
    refine List.map_congr_left fun z hz' => ?_
    obtain ⟨m, rfl, hm⟩ := u16_nat (hz z hz')
    rfl
  · obtain ⟨z, hz', rfl⟩ := List.mem_map.1 hx
    obtain ⟨m, rfl, hm⟩ := u16_nat (hz z hz')
    exact hm
/-- Rows that come in. -/
theorem rows_of_arg {W : World} {v : Value} (h : Arg Tryd.prog W 28 v) : ∃ rows : List Nat, (∀ x ∈ rows, x < 65536) ∧ Reads W W.heap.size 1 v rows.length (rows.map encU) := by
  obtain ⟨n, zs, hR, rfl, hz⟩ := Arg.ints Tryd.underlying28 Tryd.underlying29 (by kernel_rfl) h
  obtain ⟨e, hl⟩ := rows_nat hz
  exact ⟨_, hl, by rw [← e, List.length_map]; exact hR⟩
/-- Rows of rows that come in. -/
theorem lists_of_arg {W : World} {v : Value} (h : Arg Tryd.prog W 35 v) : ∃ l : List (Value × List Nat), Reads W W.heap.size 1 v l.length (l.map (·.1)) ∧ ∀ x ∈ l, (∀ y ∈ x.2, y < 65536) ∧ Reads W W.heap.size 1 x.1 x.2.length (x.2.map encU) := by
  obtain ⟨n, l, hR, rfl, hg⟩ := Arg.rows (α := Value × List Nat) (fun x => [x.1]) (fun x => (∀ y ∈ x.2, y < 65536) ∧ Reads W W.heap.size 1 x.1 x.2.length (x.2.map encU)) 1 (fun _ => rfl) Tryd.underlying35 (by kernel_rfl)
    (fun H enc n cs x hx => by
      rcases open_ints Tryd.underlying28 Tryd.underlying29 (by kernel_rfl) hx with ⟨hcs, _⟩ | ⟨ad, l, c, zs, hcs, _, hl, hm, hz, _, hcell, hwz⟩
      · exact ⟨(.slice none 0 0, []), hcs, (fun _ h => by cases h), rfl, none, 0, rfl, Nat.le_refl _, Nat.zero_le _, fun h => absurd h (Nat.lt_irrefl _)⟩
      · simp at hz
        have hlen : (zs.take l).length = l := by rw [List.length_take]; omega
        obtain ⟨e, hlt⟩ := rows_nat (zs := zs.take l) (fun z hz' => hwz z (List.mem_of_mem_take hz'))
        refine ⟨(.slice (some ad) l c, (zs.take l).map Int.toNat), hcs, hlt, ?_⟩
        rw [← e, List.length_map, hlen]
        refine ⟨by rw [List.length_map, hlen, Nat.mul_one], some ad, c, rfl, hl, hm, fun hn => ⟨ad, rfl, ?_, fun j u hu => ?_⟩⟩
        · have := World.block_lt_of_cell? W _ (hcell 0 (by omega))
          rwa [blk_of_add] at this
        · rw [List.getElem?_map] at hu
          obtain ⟨z, hz', rfl⟩ := Option.map_eq_some_iff.1 hu
          rw [List.getElem?_take] at hz'
          split at hz'
          · rename_i hj
            rw [hcell j (by omega)]
            rw [List.getD_eq_getElem?_getD, hz']; rfl
          · cases hz') (by decide) h
  refine ⟨l, ?_, hg⟩
  have e : ∀ l : List (Value × List Nat), l.flatMap (fun x => [x.1]) = l.map (·.1) := fun l => by
    induction l with
    | nil => rfl
    | cons a l ih => rw [List.flatMap_cons, ih]; rfl
  rwa [e] at hR
/-- Numbers that come in. -/
theorem nums_of_arg {W : World} {v : Value} (h : Arg Tryd.prog W 25 v) : ∃ zs : List Int, Reads W W.heap.size 1 v zs.length (zs.map (Value.int .i64)) := by
  obtain ⟨n, zs, hR, rfl, hz⟩ := Arg.ints Tryd.underlying25 Tryd.underlying3 (by kernel_rfl) h
  exact ⟨zs, hR⟩
end Go.Proofs.YtlfohlgooomdfaaDoor
