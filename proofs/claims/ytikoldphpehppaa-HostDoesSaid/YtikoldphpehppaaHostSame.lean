/-
  shunterref08.Same over two slices of packets that read alike.
-/
import Derived.Test.YtikoldphpehppaaHostArgs
import Derived.Test.YtikoldphpehppaaHostW4
set_option linter.unusedVariables false
set_option linter.unusedSimpArgs false
namespace Go.Proofs.Ytikoldphpehppaa
open Go.RowKit

theorem QS.reads {w : World} {e sz n : Nat} {v : Value} {cs : List Value} (h : QS w e sz v n cs) (hpos : 0 < sz) : Reads w w.heap.size sz v n cs := by
  obtain ⟨A, c, rfl, h1, h2⟩ := h.shape
  refine ⟨h.1, A, c, rfl, h1, h2, fun hn => ?_⟩
  obtain ⟨g, off, cap, hv, _, hc, _⟩ := h.cell hn
  injection hv with hA
  subst hA
  exact ⟨_, rfl, h.lt g rfl, fun j u hu => by rw [Addr.add_lit]; exact hc j u hu⟩

/-- The four cells of packet k of such a slice. -/
theorem Reads.pkt {w : World} {B n k : Nat} {v : Value} {l : List Pkt} (h : Reads w B 4 v n (pcells l)) (x : Pkt) (hx : l[k]? = some x) :
    ∃ g off c, v = .slice (some ⟨g, off, none⟩) n c ∧ g < B ∧ w.cell? ⟨g, off + k * 4, none⟩ = some (.int .i64 x.src) ∧ w.cell? ⟨g, off + k * 4 + 1, none⟩ = some (.int .i64 x.dst) ∧ w.cell? ⟨g, off + k * 4 + 2, none⟩ = some (.int .i64 x.lane) ∧ w.cell? ⟨g, off + k * 4 + 3, none⟩ = some (.int .u32 x.body) := by
  obtain ⟨g, off, c, hv, _, hb, hc⟩ := h.at_ (by rw [pcells_length]; have := (List.getElem?_eq_some_iff.1 hx).1; omega)
  exact ⟨g, off, c, hv, hb, hc _ _ (pcells_at l k x hx 0 _ rfl), hc _ _ (pcells_at l k x hx 1 _ rfl), hc _ _ (pcells_at l k x hx 2 _ rfl), hc _ _ (pcells_at l k x hx 3 _ rfl)⟩

set_option maxHeartbeats 1000000 in
theorem same_yes (v1 v2 : Value) (n : Nat) (l : List Pkt) (w : World) (h1 : Reads w w.heap.size 4 v1 n (pcells l)) (h2 : Reads w w.heap.size 4 v2 n (pcells l)) (hn : n ≤ 1000000000) :
    Calls Try.prog 20 #[v1, v2] w fun e w' => e = .returned (.bool true) ∧ Keeps (fun _ => False) w w' := by
  have hl : l.length = n := by have := h1.1; rw [pcells_length] at this; omega
  obtain ⟨_, A1, c1, rfl, _⟩ := id h1
  obtain ⟨_, A2, c2, rfl, _⟩ := id h2
  have hl' := Lib.hid hl
  clear hl
  go_enter Try.func20, Try.ntmps20
  go_wp2_with fail
  go_loopw [5] (fun i wr => ∃ k : Nat, k ≤ n ∧ i = .int .i64 k ∧ Keeps (fun _ => False) w wr) (fun i wr => n - (intOf i).toNat)
  case atStart => exact ⟨0, by omega, rfl, Keeps.refl _ _⟩
  case round =>
    obtain ⟨k, hk, rfl, hK⟩ := hrel
    by_cases hlt : k < n
    · have hB : Below w.heap.size w wr := hK.below (Nat.le_refl _) (fun _ _ h => h)
      obtain ⟨x, hx⟩ : ∃ x, l[k]? = some x := ⟨_, List.getElem?_eq_getElem (by rw [hl'.out]; exact hlt)⟩
      obtain ⟨a1, o1, d1, e1, b1, p0, p1, p2, p3⟩ := (h1.below hB).pkt x hx
      obtain ⟨a2, o2, d2, e2, b2, q0, q1, q2, q3⟩ := (h2.below hB).pkt x hx
      injection e1 with e1 _ e1'
      injection e2 with e2 _ e2'
      subst e1; subst e1'; subst e2; subst e2'
      have hlt' : (k : Int) < n := by omega
      clear hB hx h1 h2
      go_wp2_with fail
      go_quiet (fail)
      go_wp2_with fail
      exact ⟨⟨k + 1, by omega, by go_num, hK.trans (Keeps.drewN _ _ _)⟩, by simp [intOf]; omega⟩
    · obtain rfl : n = k := by omega
      go_wp2_with fail
      go_ret
      exact ⟨by simp, hK⟩

end Go.Proofs.Ytikoldphpehppaa
