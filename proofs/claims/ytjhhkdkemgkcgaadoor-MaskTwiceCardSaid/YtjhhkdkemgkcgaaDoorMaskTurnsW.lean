/-
  The law MaskTurns, walked.
-/
import Derived.Test.YtjhhkdkemgkcgaaDoorMaskTk
set_option linter.unusedVariables false
set_option linter.unusedSimpArgs false
namespace Go.Proofs.YtjhhkdkemgkcgaaDoor
open Go.RowKit

theorem Reads.mono {w : World} {B B' sz n : Nat} {v : Value} {cs : List Value} (h : Reads w B sz v n cs) (hb : B ≤ B') : Reads w B' sz v n cs := by
  obtain ⟨h1, A, c, h2, h3, h4, h5⟩ := h
  refine ⟨h1, A, c, h2, h3, h4, fun hn => ?_⟩
  obtain ⟨ad, e, hlt, hc⟩ := h5 hn
  exact ⟨ad, e, Nat.lt_of_lt_of_le hlt hb, hc⟩
/-- Rows that come in. -/
theorem rows_of_arg {W : World} {v : Value} (h : Arg Tryd.prog W 27 v) : ∃ rows : List Nat, (∀ x ∈ rows, x < 65536) ∧ Reads W W.heap.size 1 v rows.length (rows.map encU) := by
  obtain ⟨n, zs, hR, rfl, hz⟩ := Arg.ints Tryd.underlying27 Tryd.underlying22 (by kernel_rfl) h
  have e : zs.map (Value.int .u16) = (zs.map Int.toNat).map encU := by
    rw [List.map_map]
    refine List.map_congr_left fun z hz' => ?_
    obtain ⟨m, rfl, hm⟩ := u16_nat (hz z hz')
    rfl
  refine ⟨zs.map Int.toNat, fun x hx => ?_, by rw [← e, List.length_map]; exact hR⟩
  obtain ⟨z, hz', rfl⟩ := List.mem_map.1 hx
  obtain ⟨m, rfl, hm⟩ := u16_nat (hz z hz')
  exact hm
theorem turn_tk {W A : World} (v : Value) (rows : List Nat) (n : Int) (h : TK W A) (hr : ∀ x ∈ rows, x < 65536) (hv : Reads W W.heap.size 1 v rows.length (rows.map encU)) :
    Calls Tryd.prog 15 #[v, .int .i64 n] A fun e w' => ∃ u, e = .returned u ∧ QS w' 22 1 u (turnI rows n).length ((turnI rows n).map encU) ∧ TK W w' ∧ Keeps (fun _ => False) A w' :=
  (turn_calls v rows n A h.tab hr ((hv.below h.below).mono h.keeps.size)).mono fun _ _ ⟨u, h1, h2, h3, _⟩ => ⟨u, h1, h2, h.next h3, h3⟩
theorem rturn_tk {W A : World} (v : Value) (rows : List Nat) (n : Int) (h : TK W A) (hr : ∀ x ∈ rows, x < 65536) (hv : Reads W W.heap.size 1 v rows.length (rows.map encU)) :
    Calls Tryd.prog 24 #[v, .int .i64 n] A fun e w' => ∃ u, e = .returned u ∧ QS w' 22 1 u (turnI rows n).length ((turnI rows n).map encU) ∧ TK W w' ∧ Keeps (fun _ => False) A w' :=
  (rturn_calls v rows n A hr ((hv.below h.below).mono h.keeps.size)).mono fun _ _ ⟨u, h1, h2, h3⟩ => ⟨u, h1, h2, h.next h3, h3⟩
theorem alike_tk {W A : World} (u v : Value) (xs : List Nat) (h : TK W A) (hu : QS A 22 1 u xs.length (xs.map encU)) (hv : QS A 22 1 v xs.length (xs.map encU)) :
    Calls Tryd.prog 23 #[u, v] A fun e w' => e = .returned (.bool true) ∧ TK W w' :=
  (alike_calls u v xs A hu hv).mono fun _ _ ⟨h1, h2⟩ => ⟨h1, h.next h2⟩

attribute [local irreducible] turnI
set_option maxHeartbeats 2000000 in
theorem maskTurns_walk {W : World} (v0 : Value) (a1 a2 : Int) (w0 : Arg Tryd.prog W 27 v0) (w1 : (Lit.int .i64 a1).wf = true) (w2 : (Lit.int .u8 a2).wf = true) (hT : Tab W) :
    Calls Tryd.prog 7 #[v0, .int .i64 a1, .int .u8 a2] W fun e w' => e = .returned (.bool true) ∧ Below W.heap.size W w' := by
  obtain ⟨rows, hr, hR⟩ := rows_of_arg w0
  obtain ⟨h3, h3'⟩ := u8_range w2
  clear w0 w1 w2
  have ht : TK W W := TK.refl hT
  obtain ⟨A0, c0, rfl⟩ : ∃ A c, v0 = .slice A rows.length c := by obtain ⟨_, A, c, h, _⟩ := hR; exact ⟨A, c, h⟩
  go_enter Tryd.func7, Tryd.ntmps7
  by_cases hl : 100 < rows.length
  · have hl' : (100 : Int) < (rows.length : Int) := by omega
    go_wp2_with fail
    refine (known_tk ht).mono ?_
    rintro e A ⟨rfl, hA⟩
    go_wp2_with fail
    go_ret
    exact ⟨rfl, hA.below⟩
  · have hl' : ¬ (100 : Int) < (rows.length : Int) := by omega
    go_wp2_with fail
    refine (known_tk ht).mono ?_
    rintro e A ⟨rfl, hA⟩
    go_wp2_with fail
    refine (turn_tk _ rows a1 hA hr hR).mono ?_
    rintro e B ⟨u, rfl, hu, hB, _⟩
    clear hA
    go_wp2_with fail
    refine (rturn_tk _ rows a1 hB hr hR).mono ?_
    rintro e A ⟨v, rfl, hv, hA, hk⟩
    replace hu := hu.keeps hk (fun _ _ h => h)
    clear hB hk
    go_wp2_with fail
    refine (alike_tk u v _ hA hu hv).mono ?_
    rintro e B ⟨rfl, hB⟩
    clear hA hu hv
    go_wp2_with fail
    refine (turn_tk _ rows _ hB hr hR).mono ?_
    rintro e A ⟨u, rfl, hu, hA, _⟩
    clear hB
    go_wp2_with fail
    refine (rturn_tk _ rows _ hA hr hR).mono ?_
    rintro e B ⟨v, rfl, hv, hB, hk⟩
    replace hu := hu.keeps hk (fun _ _ h => h)
    clear hA hk
    go_wp2_with fail
    refine (alike_tk u v _ hB hu hv).mono ?_
    rintro e A ⟨rfl, hA⟩
    clear hB hu hv
    go_wp2_with fail
    go_ret
    exact ⟨rfl, hA.below⟩
end Go.Proofs.YtjhhkdkemgkcgaaDoor
