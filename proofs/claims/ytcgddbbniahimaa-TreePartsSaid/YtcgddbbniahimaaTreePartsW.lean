/-
  The law TreeParts, walked.
-/
import Derived.Test.YtcgddbbniahimaaTreeStarW
import Derived.Test.YtcgddbbniahimaaTreePartsPure
import Derived.Sort.AtCall
import Derived.Deep.RegionHeld
set_option linter.unusedVariables false
set_option linter.unusedSimpArgs false
namespace Go.Proofs.Ytcgddbbniahimaa
open Go.RowKit

set_option maxHeartbeats 8000000 in
theorem treeParts_walk (v0 : Value) (a1 a2 : Int) (W : World) (w0 : Arg Try.prog W 22 v0) (w1 : (Lit.int .u8 a1).wf = true) (w2 : (Lit.int .u8 a2).wf = true) :
    Calls Try.prog 5 #[v0, .int .u8 a1, .int .u8 a2] W fun e w' => e = .returned (.bool true) ∧ Below W.heap.size W w' := by
  obtain ⟨zs, hz, hR⟩ := bytes_of_arg w0
  obtain ⟨a, rfl, ha⟩ := u8_nat w1
  obtain ⟨b, rfl, hb⟩ := u8_nat w2
  obtain ⟨htree, hp, h5⟩ := ofL_tree zs
  clear w0 w1 w2
  go_enter Try.func5, Try.ntmps5
  go_wp2_with fail
  refine (of_calls v0 zs W hR hz).mono ?_
  rintro e C ⟨u, rfl, hu, hkC, _⟩
  generalize ofL zs = T at *
  obtain ⟨uA, uc, hsh, _, _⟩ := hu.shape
  subst hsh
  have hnz : ¬ ((T.length : Int) + 1 = 0) := by omega
  obtain ⟨v, hv, hvl⟩ : ∃ k : Nat, (a : Int) % ((T.length : Int) + 1) = (k : Int) ∧ k ≤ T.length := ⟨a % (T.length + 1), by rw [Int.natCast_emod]; rfl, by have := Nat.mod_lt a (show T.length + 1 > 0 by omega); omega⟩
  obtain ⟨x, hx, hxl⟩ : ∃ k : Nat, (b : Int) % ((T.length : Int) + 1) = (k : Int) ∧ k ≤ T.length := ⟨b % (T.length + 1), by rw [Int.natCast_emod]; rfl, by have := Nat.mod_lt b (show T.length + 1 > 0 by omega); omega⟩
  have hT := pathNs T hu
  go_wp2_with fail
  have hp1 := tpath_calls (.slice uA T.length uc) (T.map Int.ofNat) v x _ hT
  rw [pathI_tree htree h5 hvl hxl] at hp1
  refine hp1.mono ?_
  rintro e D ⟨l, rfl, hl, hkD, _⟩
  clear hp1
  have chk := fun i hi => chkP_at htree h5 hvl hxl (i := i) hi
  have hlpos := pathN_pos T htree v x
  have hpy : ∀ (y z : Nat) B, Keeps (fun _ => False) C B → y ≤ T.length → z ≤ T.length → Calls Try.prog 14 #[.slice uA T.length uc, .int .i64 y, .int .i64 z] B fun e w' =>
      ∃ u, e = .returned u ∧ QS w' 3 1 u (pathN T y z).length ((pathN T y z).map encI) ∧ Keeps (fun _ => False) B w' := fun y z B hB hy hz => by
    have := tpath_calls (.slice uA T.length uc) (T.map Int.ofNat) y z B (hT.keepsF hB hB.size)
    rw [pathI_tree htree h5 hy hz] at this
    exact this.mono fun e w' ⟨u, h1, h2, h3, _⟩ => ⟨u, h1, h2, h3⟩
  clear hT hu
  generalize hL : pathN T v x = L at *
  obtain ⟨lA, lc, hsh, hlc, hlc2⟩ := hl.shape
  subst hsh
  have hmx : (L.length : Int) ≤ 9223372036854775807 := by simp only [maxLen] at hlc2; omega
  go_wp2_with fail
  go_loopw [11] (fun s wr => ∃ i : Nat, i ≤ L.length ∧ s = .int .i64 (i : Int) ∧ Keeps (fun _ => False) D wr) (fun s _ => L.length - (intOf s).toNat)
  case atStart => exact ⟨0, Nat.zero_le _, rfl, Keeps.refl _ _⟩
  case round =>
    obtain ⟨i, hi, rfl, hk⟩ := hrel
    by_cases hil : i < L.length
    · have hii : (i : Int) < (L.length : Int) := by omega
      obtain ⟨k1, k2, k3⟩ := chk i hil
      have hlw := hl.keeps hk (fun _ _ h => h)
      obtain ⟨g, off, c', e', _, hcell, _⟩ := hlw.cell (by omega)
      cases e'
      have hcd : ∀ B, Keeps (fun _ => False) wr B → B.cell? ⟨g, off + i, none⟩ = some (encI (L.getD i 0)) := fun B hB => hB.cell (hcell i _ (by rw [List.getElem?_map, List.getD_eq_getElem?_getD, List.getElem?_eq_getElem hil]; rfl)) (fun h => h)
      generalize L.getD i 0 = y at *
      have hW := hkC.trans (hkD.trans hk)
      have hCw := hkD.trans hk
      have hS1 : ∀ B u, Keeps (fun _ => False) wr B → QS B 3 1 u (pathN T y x).length ((pathN T y x).map encI) → Calls Try.prog 16 #[u, .slice (some ⟨g, off + i, none⟩) (L.length - i) (lc - i)] B fun e w' => e = .returned (.bool true) ∧ Keeps (fun _ => False) wr w' := fun B u hB hu => by
        rw [k2] at hu
        have hd := (hlw.keeps hB (fun _ _ h => h)).drop i (by omega)
        rw [Nat.mul_one, ← List.map_drop] at hd
        exact (same_calls u _ ((L.drop i).map Int.ofNat) B (pathNs _ hu) (pathNs _ (by rw [List.length_drop]; exact hd))).mono fun e w' ⟨h1, h2⟩ => ⟨h1, hB.trans h2⟩
      have hS2 : ∀ B u, Keeps (fun _ => False) wr B → QS B 3 1 u (pathN T v y).length ((pathN T v y).map encI) → Calls Try.prog 16 #[u, .slice (some ⟨g, off, none⟩) (i + 1) lc] B fun e w' => e = .returned (.bool true) ∧ Keeps (fun _ => False) wr w' := fun B u hB hu => by
        rw [k3] at hu
        have hd := (hlw.keeps hB (fun _ _ h => h)).take (i + 1) (by omega)
        rw [Nat.mul_one, ← List.map_take] at hd
        exact (same_calls u _ ((L.take (i + 1)).map Int.ofNat) B (pathNs _ hu) (pathNs _ (by rw [List.length_take, Nat.min_eq_left (by omega)]; exact hd))).mono fun e w' ⟨h1, h2⟩ => ⟨h1, hB.trans h2⟩
      have P1 := Lib.hid (p := ∀ B, Keeps (fun _ => False) wr B → Calls Try.prog 14 #[.slice uA T.length uc, .int .i64 y, .int .i64 x] B fun e w' => ∃ u, e = .returned u ∧ (∃ A c, u = .slice A (pathN T y x).length c) ∧ Keeps (fun _ => False) wr w' ∧
          Calls Try.prog 16 #[u, .slice (some ⟨g, off + i, none⟩) (L.length - i) (lc - i)] w' fun e w' => e = .returned (.bool true) ∧ Keeps (fun _ => False) wr w') fun B hB =>
        (hpy y x B (hCw.trans hB) k1 hxl).mono fun e w' ⟨u, h1, h2, h3⟩ => ⟨u, h1, by obtain ⟨A, c, e, _⟩ := h2.shape; exact ⟨A, c, e⟩, hB.trans h3, hS1 w' u (hB.trans h3) h2⟩
      have P2 := Lib.hid (p := ∀ B, Keeps (fun _ => False) wr B → Calls Try.prog 14 #[.slice uA T.length uc, .int .i64 v, .int .i64 y] B fun e w' => ∃ u, e = .returned u ∧ (∃ A c, u = .slice A (pathN T v y).length c) ∧ Keeps (fun _ => False) wr w' ∧
          Calls Try.prog 16 #[u, .slice (some ⟨g, off, none⟩) (i + 1) lc] w' fun e w' => e = .returned (.bool true) ∧ Keeps (fun _ => False) wr w') fun B hB =>
        (hpy v y B (hCw.trans hB) hvl k1).mono fun e w' ⟨u, h1, h2, h3⟩ => ⟨u, h1, by obtain ⟨A, c, e, _⟩ := h2.shape; exact ⟨A, c, e⟩, hB.trans h3, hS2 w' u (hB.trans h3) h2⟩
      have hc0 := hcd wr.drew (Keeps.drew _ _)
      have hcd' := Lib.hid hcd
      have h0 : Keeps (fun _ => False) wr wr.drew := Keeps.drew _ _
      have i1 : (i : Int) ≤ (lc : Int) := by omega
      have i2 : (0 : Int) ≤ (i : Int) := by omega
      have i5 : ¬ lc = i := by omega
      have i6 : ¬ (lc : Int) = (i : Int) := by omega
      have i3 : (i : Int) + 1 ≤ (lc : Int) := by omega
      have i7 : (0 : Int) ≤ (i : Int) + 1 := by omega
      have i8 : i + 1 ≤ lc := by omega
      have i9 : i < lc := by omega
      have i12 : ¬ lc = 0 := by omega
      have i13 : (i : Int) < (lc : Int) := by omega
      have i16 : (i : Int) + 1 ≤ 9223372036854775807 := by omega
      have i17 : IntKind.i64.wrap ((i : Int) + 1) = (i : Int) + 1 := by simp [IntKind.wrap, IntKind.bits, IntKind.signed]; omega
      have i14 : (0 : Int) < (lc : Int) := by omega
      have i15 : (0 : Int) ≤ (i : Int) + 1 ∧ (i : Int) + 1 ≤ (lc : Int) := ⟨by omega, by omega⟩
      have hsl : ∀ w, (Instr.sliceAt 23 (.slice (some ⟨g, off, none⟩) L.length lc) none (some (.int .i64 ((i : Int) + 1))) none).run Try.prog w = .ok (.slice (some ⟨g, off, none⟩) (i + 1) lc) w := by
        intro w
        go_simp
      have hsl2 : ∀ w, (Instr.slice 23 (.slice (some ⟨g, off, none⟩) L.length lc) none (some (.int .i64 ((i : Int) + 1))) none).run Try.prog w = .ok (.slice (some ⟨g, off, none⟩) (i + 1) lc) w := by
        intro w
        go_simp
      have i10 : ¬ (i : Int) + 1 < 0 := by omega
      have i11 : ¬ (lc : Int) < (i : Int) + 1 := by omega
      have i4 : (i : Int) ≤ (L.length : Int) := by omega
      clear hcd hS1 hS2 hpy hcell hlw hL chk k1 k2 k3 hlpos
      go_wp2_with fail
      go_region_held (fun w' => w'.cell? ⟨g, off + i, none⟩ = some (encI y)) (exact hcd'.out _ (by assumption)) (first
        | (go_at_call_of 14 (Value.int .i64 x); refine (P1.out _ h0).mono ?_; rintro e B1 ⟨u1, rfl, ⟨A1, d1, rfl⟩, hB1, hs1⟩)
        | (go_at_call_of 14 (Value.int .i64 v); refine (P2.out _ hB2).mono ?_; rintro e B3 ⟨u3, rfl, ⟨A3, d3, rfl⟩, hB3, hs3⟩)
        | (go_at_call_of 16 (Value.slice A1 (pathN T y x).length d1); refine hs1.mono ?_; rintro e B2 ⟨rfl, hB2⟩)
        | (go_at_call_of 16 (Value.slice A3 (pathN T v y).length d3); refine hs3.mono ?_; rintro e B4 ⟨rfl, hB4⟩))
      go_wp2_with fail
      go_roundw
      case rel => exact ⟨i + 1, by omega, by simp, hk.trans hB4⟩
      case measure => simp [intOf]; omega
    · have hii : ¬ (i : Int) < (L.length : Int) := by omega
      have hpi : (0 : Int) < (L.length : Int) := by omega
      go_wp2_with fail
      refine (known_calls _).mono ?_
      rintro e A ⟨rfl, hkA⟩
      go_wp2_with fail
      go_ret
      exact ⟨rfl, keeps_below (((hkC.trans hkD).trans hk).trans hkA)⟩
end Go.Proofs.Ytcgddbbniahimaa
