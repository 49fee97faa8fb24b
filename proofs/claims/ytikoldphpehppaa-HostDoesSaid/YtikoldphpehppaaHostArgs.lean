/-
  Slices of packets, and of calls on a host, that came in.
-/
import Derived.Test.YtikoldphpehppaaProg
import Derived.Test.YtikoldphpehppaaArgs
import Derived.Test.YtikoldphpehppaaHostRep
set_option linter.unusedVariables false
set_option linter.unusedSimpArgs false
namespace Go.Proofs.Ytikoldphpehppaa
open Go.RowKit

structure Pkt.good (p : Pkt) : Prop where
  src : (Lit.int .i64 p.src).wf = true
  dst : (Lit.int .i64 p.dst).wf = true
  lane : (Lit.int .i64 p.lane).wf = true
  body : (Lit.int .u32 p.body).wf = true

theorem list4 {cs : List Value} {a b c d : Value} (hl : cs.length = 4) (h0 : cs[0]? = some a) (h1 : cs[1]? = some b) (h2 : cs[2]? = some c) (h3 : cs[3]? = some d) : cs = [a, b, c, d] := by
  match cs, hl with
  | [x0, x1, x2, x3], _ => simp at h0 h1 h2 h3; subst h0; subst h1; subst h2; subst h3; rfl

theorem pkt_in (H : Type) (enc : TypeId × Value → H) (W : World) (n : Nat) (cs : List Value) (x : DataW H × List MemPlace) (h : DataW.trod enc Try.prog W 0 (fun _ => true) true n 27 cs = some x) : ∃ a : Pkt, cs = a.cells ∧ a.good := by
  obtain ⟨xs, n', rfl, _, hl, hxl, hf⟩ := DataW.trod_struct Try.underlying27 h
  have hl4 : cs.length = 4 := hl.trans (by kernel_rfl)
  have hx4 : xs.length = 4 := hxl
  obtain ⟨s, h0, g0⟩ := field_int (o := 0) Try.underlying3 (by kernel_rfl) rfl (by omega) (by rw [List.getElem?_eq_getElem (by omega)]; rfl) (hf 0 _ rfl)
  obtain ⟨d, h1, g1⟩ := field_int (o := 1) Try.underlying3 (by kernel_rfl) rfl (by omega) (by rw [List.getElem?_eq_getElem (by omega)]; rfl) (hf 1 _ rfl)
  obtain ⟨l, h2, g2⟩ := field_int (o := 2) Try.underlying3 (by kernel_rfl) rfl (by omega) (by rw [List.getElem?_eq_getElem (by omega)]; rfl) (hf 2 _ rfl)
  obtain ⟨q, h3, g3⟩ := field_int (o := 3) Try.underlying25 (by kernel_rfl) rfl (by omega) (by rw [List.getElem?_eq_getElem (by omega)]; rfl) (hf 3 _ rfl)
  exact ⟨⟨s, d, l, q⟩, list4 hl4 h0 h1 h2 h3, g0, g1, g2, g3⟩

theorem pkts_in {W : World} {v : Value} (h : Arg Try.prog W 31 v) : ∃ (n : Nat) (l : List Pkt), Reads W W.heap.size 4 v n (pcells l) ∧ l.length = n ∧ ∀ a ∈ l, a.good :=
  h.rows Pkt.cells Pkt.good 4 (fun _ => rfl) Try.underlying31 (by kernel_rfl) (fun H enc n cs x hx => pkt_in H enc W n cs x hx) (by decide)

/-- A call on a host. -/
structure HOp where
  kind : Int
  x : Pkt
  lane : Int
  near : Bool
abbrev HOp.cells (o : HOp) : List Value := [.int .u8 o.kind, .int .i64 o.x.src, .int .i64 o.x.dst, .int .i64 o.x.lane, .int .u32 o.x.body, .int .i64 o.lane, .bool o.near]
structure HOp.good (o : HOp) : Prop where
  kind : (Lit.int .u8 o.kind).wf = true
  x : o.x.good
  lane : (Lit.int .i64 o.lane).wf = true

theorem op_in (H : Type) (enc : TypeId × Value → H) (W : World) (n : Nat) (cs : List Value) (x : DataW H × List MemPlace) (h : DataW.trod enc Try.prog W 0 (fun _ => true) true n 42 cs = some x) : ∃ a : HOp, cs = a.cells ∧ a.good := by
  obtain ⟨xs, n', rfl, _, hl, hxl, hf⟩ := DataW.trod_struct Try.underlying42 h
  have hl7 : cs.length = 7 := hl.trans (by kernel_rfl)
  have hx4 : xs.length = 4 := hxl
  obtain ⟨k, h0, g0⟩ := field_int (o := 0) Try.underlying5 (by kernel_rfl) rfl (by omega) (by rw [List.getElem?_eq_getElem (by omega)]; rfl) (hf 0 _ rfl)
  obtain ⟨l, h5, g5⟩ := field_int (o := 5) Try.underlying3 (by kernel_rfl) rfl (by omega) (by rw [List.getElem?_eq_getElem (by omega)]; rfl) (hf 2 _ rfl)
  obtain ⟨b, h6⟩ := field_bool (o := 6) Try.underlying4 (by kernel_rfl) rfl (by omega) (by rw [List.getElem?_eq_getElem (by omega)]; rfl) (hf 3 _ rfl)
  have hX := hf 1 _ rfl
  rw [List.getElem?_eq_getElem (by omega)] at hX
  obtain ⟨p, hp, gp⟩ := pkt_in H enc W _ _ _ hX
  have hC : Try.prog.cellsOf 27 = 4 := by kernel_rfl
  match cs, hl7 with
  | [c0, c1, c2, c3, c4, c5, c6], _ =>
    have hp' : [c1, c2, c3, c4] = p.cells := by rw [← hp]; show _ = ([c0, c1, c2, c3, c4, c5, c6].drop 1).take (Try.prog.cellsOf 27); rw [hC]; rfl
    simp at h0 h5 h6 hp'
    obtain ⟨rfl, rfl, rfl, rfl⟩ := hp'
    subst h0; subst h5; subst h6
    exact ⟨⟨k, p, l, b⟩, rfl, g0, gp, g5⟩

theorem ops_in {W : World} {v : Value} (h : Arg Try.prog W 38 v) : ∃ (n : Nat) (l : List HOp), Reads W W.heap.size 7 v n (l.flatMap HOp.cells) ∧ l.length = n ∧ ∀ a ∈ l, a.good :=
  h.rows HOp.cells HOp.good 7 (fun _ => rfl) Try.underlying38 (by kernel_rfl) (fun H enc n cs x hx => op_in H enc W n cs x hx) (by decide)

end Go.Proofs.Ytikoldphpehppaa
