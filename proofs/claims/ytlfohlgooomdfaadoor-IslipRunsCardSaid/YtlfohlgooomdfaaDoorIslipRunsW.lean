/-
  The law IslipRuns, walked.
-/
import Derived.Test.YtlfohlgooomdfaaDoorIslipRoundsW
import Derived.Deep.RegionHeld
set_option linter.unusedVariables false
set_option linter.unusedSimpArgs false
namespace Go.Proofs.YtlfohlgooomdfaaDoor
open Go.RowKit Go.Sort

/-- The document's arbiter, of our own. -/
structure RAK (w : World) (b n : Nat) (G A : Nat → Nat) (g a : Nat) : Prop where
  arb : RArb w b n (lst n G) (lst n A) g a
  g : ∀ k, k < n → G k < n
  a : ∀ k, k < n → A k < n
theorem RAK.keeps {w w' : World} {b n g a : Nat} {G A : Nat → Nat} {F : Nat → Prop} (h : RAK w b n G A g a) (hk : Keeps F w w') (hF : ∀ k, k = b ∨ k = g ∨ k = a → ¬ F k) : RAK w' b n G A g a := ⟨h.arb.keeps hk hF, h.g, h.a⟩
theorem RAK.lt {w : World} {b n g a : Nat} {G A : Nat → Nat} (h : RAK w b n G A g a) : b < w.heap.size ∧ g < w.heap.size ∧ a < w.heap.size := ⟨blk_lt h.arb.box, blk_lt h.arb.gr, blk_lt h.arb.ac⟩
theorem RAK.rows {w : World} {b n g a : Nat} {G A : Nat → Nat} (h : RAK w b n G A g a) (hn : n ≤ 16) :
    QS w 3 1 (.slice (some ⟨g, 0, none⟩) n n) n (((lst n G).map Int.ofNat).map (Value.int .i64)) ∧ QS w 3 1 (.slice (some ⟨a, 0, none⟩) n n) n (((lst n A).map Int.ofNat).map (Value.int .i64)) := by
  rw [← enc_ints, ← enc_ints]
  exact ⟨⟨by simp [lst_length], .inr ⟨g, 0, n, _, rfl, h.arb.gr, Nat.le_refl _, by simp only [maxLen]; omega, by simp [lst_length], fun j hj => by simp only [Nat.zero_add, List.getElem?_toArray]⟩⟩,
    ⟨by simp [lst_length], .inr ⟨a, 0, n, _, rfl, h.arb.ac, Nat.le_refl _, by simp only [maxLen]; omega, by simp [lst_length], fun j hj => by simp only [Nat.zero_add, List.getElem?_toArray]⟩⟩⟩

/-- What a run comes to, of any rows, any rounds. -/
def good (n : Nat) (rows : List Nat) (many : Int) : Prop := rows.length = n ∧ 1 ≤ many ∧ many ≤ 16
instance (n : Nat) (rows : List Nat) (many : Int) : Decidable (good n rows many) := inferInstanceAs (Decidable (_ ∧ _ ∧ _))
def runM (n : Nat) (G A : Nat → Nat) (rows : List Nat) (many : Int) : List Int := if good n rows many then lst n (roundsP (asks rows) n (start G A) many.toNat).m else []
def runG (n : Nat) (G A : Nat → Nat) (rows : List Nat) (many : Int) : Nat → Nat := if good n rows many then (roundsP (asks rows) n (start G A) many.toNat).G else G
def runA (n : Nat) (G A : Nat → Nat) (rows : List Nat) (many : Int) : Nat → Nat := if good n rows many then (roundsP (asks rows) n (start G A) many.toNat).A else A

theorem run_any (G A : Nat → Nat) (n b g a : Nat) (many : Int) (v : Value) (rows : List Nat) (h1 : 1 ≤ n) (h2 : n ≤ 16) (w : World) (hT : Tab w) (hA : AK w b n G A g a)
    (hv : Reads w w.heap.size 1 v rows.length (rows.map encU)) (hq : ∀ x ∈ rows, x < 65536) :
    Calls Tryd.prog 16 #[.pointer (some ⟨b, 0, none⟩), v, .int .i64 many] w fun e w' => ∃ uA uc, e = .returned (.slice uA (runM n G A rows many).length uc) ∧ QS w' 3 1 (.slice uA (runM n G A rows many).length uc) (runM n G A rows many).length ((runM n G A rows many).map (Value.int .i64)) ∧
      AK w' b n (runG n G A rows many) (runA n G A rows many) g a ∧ Keeps (fun k => k = g ∨ k = a) w w' ∧ ∀ k, (Value.slice uA (runM n G A rows many).length uc).ownBlock = some k → w.heap.size ≤ k := by
  unfold runM runG runA
  by_cases h : good n rows many
  · simp only [if_pos h]
    obtain ⟨hl, hm1, hm2⟩ := h
    obtain ⟨r, rfl⟩ : ∃ r : Nat, many = r := ⟨many.toNat, by omega⟩
    rw [hl] at hv
    refine (run_ak G A n b g a r v rows h1 h2 (by omega) (by omega) w hT hA hv hq hl).mono ?_
    rintro e w' ⟨u, rfl, hu, hA', hk, ho⟩
    rw [Int.toNat_natCast, lst_length]
    obtain ⟨uA, uc, rfl, _, _⟩ := hu.shape
    exact ⟨uA, uc, rfl, hu, hA', hk, ho⟩
  · simp only [if_neg h]
    obtain ⟨vA, vc, rfl⟩ : ∃ A c, v = .slice A rows.length c := by obtain ⟨_, A, c, e, _⟩ := hv; exact ⟨A, c, e⟩
    refine (run_no _ _ n b g a rows.length many vA vc w hA.arb (by unfold good at h; omega)).mono ?_
    rintro e w' ⟨rfl, rfl⟩
    exact ⟨none, 0, rfl, QS.nil _ _ _, hA, Keeps.refl _ _, fun k h => by cases h⟩
theorem rrun_any (G A : Nat → Nat) (n b g a : Nat) (many : Int) (v : Value) (rows : List Nat) (h1 : 1 ≤ n) (h2 : n ≤ 16) (w : World) (hA : RAK w b n G A g a)
    (hv : Reads w w.heap.size 1 v rows.length (rows.map encU)) (hvb : 0 < rows.length → ∀ k, v.ownBlock = some k → k ≠ g ∧ k ≠ a) (hq : ∀ x ∈ rows, x < 65536) :
    Calls Tryd.prog 20 #[.pointer (some ⟨b, 0, none⟩), v, .int .i64 many] w fun e w' => ∃ uA uc, e = .returned (.slice uA (runM n G A rows many).length uc) ∧ QS w' 3 1 (.slice uA (runM n G A rows many).length uc) (runM n G A rows many).length ((runM n G A rows many).map (Value.int .i64)) ∧
      RAK w' b n (runG n G A rows many) (runA n G A rows many) g a ∧ Keeps (fun k => k = g ∨ k = a) w w' ∧ ∀ k, (Value.slice uA (runM n G A rows many).length uc).ownBlock = some k → w.heap.size ≤ k := by
  unfold runM runG runA
  by_cases h : good n rows many
  · simp only [if_pos h]
    obtain ⟨hl, hm1, hm2⟩ := h
    obtain ⟨r, rfl⟩ : ∃ r : Nat, many = r := ⟨many.toNat, by omega⟩
    rw [hl] at hv
    refine (rrun_calls G A n b g a r v rows h1 h2 (by omega) (by omega) w hA.arb hA.g hA.a hv (hvb (by omega)) hq hl).mono ?_
    rintro e w' ⟨u, rfl, hu, hA', hk, ho⟩
    rw [Int.toNat_natCast, lst_length]
    obtain ⟨uA, uc, rfl, _, _⟩ := hu.shape
    exact ⟨uA, uc, rfl, hu, ⟨hA', (fit_rounds (fit_start hA.g hA.a) r).g, (fit_rounds (fit_start hA.g hA.a) r).a⟩, hk, ho⟩
  · simp only [if_neg h]
    obtain ⟨vA, vc, rfl⟩ : ∃ A c, v = .slice A rows.length c := by obtain ⟨_, A, c, e, _⟩ := hv; exact ⟨A, c, e⟩
    refine (rrun_no _ _ n b g a rows.length many vA vc w hA.arb (by unfold good at h; omega)).mono ?_
    rintro e w' ⟨rfl, rfl⟩
    exact ⟨none, 0, rfl, QS.nil _ _ _, hA, Keeps.refl _ _, fun k h => by cases h⟩

/-- The box of the document's arbiter, by cells. -/
abbrev BoxAt (b g a n : Nat) (w : World) : Prop := w.cell? ⟨b, 0, none⟩ = some (.slice (some ⟨g, 0, none⟩) n n) ∧ w.cell? ⟨b, 1, none⟩ = some (.slice (some ⟨a, 0, none⟩) n n)
theorem RAK.cells {w : World} {b n g a : Nat} {G A : Nat → Nat} (h : RAK w b n G A g a) : BoxAt b g a n w := h.arb.cells
/-- Both arbiters. -/
structure Both (W w : World) (n b g a b' g' a' : Nat) (G A : Nat → Nat) : Prop where
  tk : TK W w
  ak : AK w b n G A g a
  rk : RAK w b' n G A g' a'
  far : b < b' ∧ b < g' ∧ b < a' ∧ g < b' ∧ g < g' ∧ g < a' ∧ a < b' ∧ a < g' ∧ a < a'
  own : W.heap.size ≤ b ∧ W.heap.size ≤ g ∧ W.heap.size ≤ a
theorem Both.next {W w w' : World} {n b g a b' g' a' : Nat} {G A : Nat → Nat} (h : Both W w n b g a b' g' a' G A) (hk : Keeps (fun _ => False) w w') : Both W w' n b g a b' g' a' G A :=
  ⟨h.tk.next hk, h.ak.keeps hk (fun _ _ h => h), h.rk.keeps hk (fun _ _ h => h), h.far, h.own⟩

/-- All calls of a round of the law, one behind the other. -/
theorem chain {W w : World} {n b g a b' g' a' : Nat} {G A : Nat → Nat} (h : Both W w n b g a b' g' a' G A) (h1 : 1 ≤ n) (h2 : n ≤ 16) (many : Int) (v : Value) (rows : List Nat)
    (hv : Reads w w.heap.size 1 v rows.length (rows.map encU)) (hvb : 0 < rows.length → ∀ k, v.ownBlock = some k → k ≠ g ∧ k ≠ a ∧ k ≠ g' ∧ k ≠ a') (hq : ∀ x ∈ rows, x < 65536) :
    Calls Tryd.prog 16 #[.pointer (some ⟨b, 0, none⟩), v, .int .i64 many] w fun e X => ∃ uA uc L, e = .returned (.slice uA L uc) ∧ BoxAt b' g' a' n X ∧
      Calls Tryd.prog 20 #[.pointer (some ⟨b', 0, none⟩), v, .int .i64 many] X fun e Y => ∃ vA vc, e = .returned (.slice vA L vc) ∧ BoxAt b' g' a' n Y ∧
        Calls Tryd.prog 17 #[.slice uA L uc, .slice vA L vc] Y fun e Z => e = .returned (.bool true) ∧ BoxAt b' g' a' n Z ∧
          Calls Tryd.prog 13 #[.pointer (some ⟨b, 0, none⟩)] Z fun e Z2 => ∃ pA pc, e = .returned (.slice pA n pc) ∧ BoxAt b' g' a' n Z2 ∧
            Calls Tryd.prog 17 #[.slice pA n pc, .slice (some ⟨g', 0, none⟩) n n] Z2 fun e Z3 => e = .returned (.bool true) ∧ BoxAt b' g' a' n Z3 ∧
              Calls Tryd.prog 14 #[.pointer (some ⟨b, 0, none⟩)] Z3 fun e Z4 => ∃ qA qc, e = .returned (.slice qA n qc) ∧ BoxAt b' g' a' n Z4 ∧
                Calls Tryd.prog 17 #[.slice qA n qc, .slice (some ⟨a', 0, none⟩) n n] Z4 fun e Z5 => e = .returned (.bool true) ∧ BoxAt b' g' a' n Z5 ∧
                  ∃ G2 A2, Both W Z5 n b g a b' g' a' G2 A2 := by
  obtain ⟨f1, f2, f3, f4, f5, f6, f7, f8, f9⟩ := h.far
  obtain ⟨o1, o2, o3⟩ := h.own
  have hlt := h.rk.lt
  refine (run_any G A n b g a many v rows h1 h2 w h.tk.tab h.ak hv hq).mono ?_
  rintro e X ⟨uA, uc, rfl, hu, hA, hk, ho⟩
  have hrX := h.rk.keeps hk (fun k h h' => by have h2 : k = g ∨ k = a := h'; omega)
  have htX := h.tk.then hk (fun i hi h' => by have h2 : i = g ∨ i = a := h'; omega)
  have hlX := hk.size
  refine ⟨uA, uc, _, rfl, hrX.cells, ?_⟩
  have hvX : Reads X X.heap.size 1 v rows.length (rows.map encU) := by
    obtain ⟨r1, r2, r3, r4, r5, r6, r7⟩ := hv
    refine ⟨r1, r2, r3, r4, r5, r6, fun hn => ?_⟩
    obtain ⟨ad, e, hb, hc⟩ := r7 hn
    subst e r4
    have := hvb hn ad.block rfl
    exact ⟨ad, rfl, Nat.lt_of_lt_of_le hb hlX, fun j u hj => hk.cell (hc j u hj) (by rw [blk_of_add]; exact fun h => by have h2 : ad.block = g ∨ ad.block = a := h; omega)⟩
  refine (rrun_any G A n b' g' a' many v rows h1 h2 X hrX hvX (fun hp k hk => by have := hvb hp k hk; omega) hq).mono ?_
  rintro e Y ⟨vA, vc, rfl, hvY, hR, hkY, hoY⟩
  have hAY := hA.keeps hkY (fun k h h' => by have h2 : k = g' ∨ k = a' := h'; omega)
  have htY := htX.then hkY (fun i hi h' => by have h2 : i = g' ∨ i = a' := h'; omega)
  have huY := hu.keeps hkY (fun k h h' => by have h2 : k = g' ∨ k = a' := h'; have := ho k h; omega)
  have B1 : Both W Y n b g a b' g' a' _ _ := ⟨htY, hAY, hR, h.far, h.own⟩
  refine ⟨vA, vc, rfl, hR.cells, ?_⟩
  refine (same_calls _ _ _ _ Y rfl huY hvY).mono ?_
  rintro e Z ⟨rfl, hkZ⟩
  have B2 := B1.next hkZ
  refine ⟨rfl, B2.rk.cells, ?_⟩
  refine (grants_ak b n g a _ _ Z B2.ak h2).mono ?_
  rintro e Z2 ⟨p, rfl, hp, hk2⟩
  obtain ⟨pA, pc, rfl, _, _⟩ := hp.shape
  have B3 := B2.next hk2
  refine ⟨pA, pc, rfl, B3.rk.cells, ?_⟩
  refine (same_calls _ _ n _ Z2 (by simp [lst_length]) hp (B3.rk.rows h2).1).mono ?_
  rintro e Z3 ⟨rfl, hk3⟩
  have B4 := B3.next hk3
  refine ⟨rfl, B4.rk.cells, ?_⟩
  refine (accepts_ak b n g a _ _ Z3 B4.ak h2).mono ?_
  rintro e Z4 ⟨q, rfl, hq', hk4⟩
  obtain ⟨qA, qc, rfl, _, _⟩ := hq'.shape
  have B5 := B4.next hk4
  refine ⟨qA, qc, rfl, B5.rk.cells, ?_⟩
  refine (same_calls _ _ n _ Z4 (by simp [lst_length]) hq' (B5.rk.rows h2).2).mono ?_
  rintro e Z5 ⟨rfl, hk5⟩
  exact ⟨rfl, (B5.next hk5).rk.cells, _, _, B5.next hk5⟩

set_option maxRecDepth 100000 in
set_option maxHeartbeats 8000000 in
theorem islipRuns_walk {W : World} (a0 a1 : Int) (v2 v3 : Value) (w0 : (Lit.int .i64 a0).wf = true) (w1 : (Lit.int .u8 a1).wf = true) (w2 : Arg Tryd.prog W 35 v2) (w3 : Arg Tryd.prog W 25 v3) (hT : Tab W) :
    Calls Tryd.prog 6 #[.int .i64 a0, .int .u8 a1, v2, v3] W fun e w' => e = .returned (.bool true) ∧ Below W.heap.size W w' := by
  obtain ⟨k1, rfl, hk1⟩ := u8_nat w1
  obtain ⟨ls, hR, hg⟩ := lists_of_arg w2
  obtain ⟨zs, hZ⟩ := nums_of_arg w3
  clear w0 w1 w2 w3
  have ht : TK W W := TK.refl hT
  obtain ⟨vA, vc, rfl, hlm⟩ : ∃ A c, v2 = .slice A ls.length c ∧ (ls.length : Int) ≤ 9223372036854775807 := by
    obtain ⟨_, A, c, e, h3, h4, _⟩ := hR
    exact ⟨A, c, e, by simp only [maxLen] at h4; omega⟩
  obtain ⟨zA, zc, rfl⟩ : ∃ A c, v3 = .slice A zs.length c := by obtain ⟨_, A, c, e, _⟩ := hZ; exact ⟨A, c, e⟩
  have HE := Lib.hid (p := ∀ i : Nat, i < ls.length → ∃ vg vo : Nat, vA = some ⟨vg, vo, none⟩ ∧ ∃ (xA : Option Addr) (xc : Nat) (rows : List Nat), W.cell? ⟨vg, vo + i, none⟩ = some (.slice xA rows.length xc) ∧ (∀ y ∈ rows, y < 65536) ∧ Reads W W.heap.size 1 (.slice xA rows.length xc) rows.length (rows.map encU)) fun i hil => by
    obtain ⟨q1, q2⟩ := hg _ (List.getElem_mem hil)
    obtain ⟨vg, vo, vc', e, _, _, hcell⟩ := hR.at_ (by simp; omega)
    injection e with e1 _ e2
    have c1 := hcell i _ (by rw [List.getElem?_map, List.getElem?_eq_getElem hil]; rfl)
    generalize ls[i] = x at q1 q2 c1
    obtain ⟨xv, rows⟩ := x
    obtain ⟨xA, xc, e⟩ : ∃ A c, xv = .slice A rows.length c := by obtain ⟨_, A, c, e, _⟩ := q2; exact ⟨A, c, e⟩
    subst e
    exact ⟨vg, vo, e1, xA, xc, rows, c1, q1, q2⟩
  have HZ := Lib.hid (p := ∀ i : Nat, i < zs.length → ∃ (vg vo : Nat) (z : Int), zA = some ⟨vg, vo, none⟩ ∧ W.cell? ⟨vg, vo + i, none⟩ = some (.int .i64 z)) fun i hil => by
    obtain ⟨vg, vo, vc', e, _, _, hcell⟩ := hZ.at_ (by simp; omega)
    injection e with e1 _ e2
    exact ⟨vg, vo, zs[i], e1, hcell i _ (by rw [List.getElem?_map, List.getElem?_eq_getElem hil]; rfl)⟩
  clear hR hg hZ
  generalize ls.length = L at *
  generalize zs.length = Z at *
  go_enter Tryd.func6, Tryd.ntmps6
  go_wp2_with fail
  go_loop [9, 10] (fun x i => ∃ (z : Int) (k : Nat), k ≤ L ∧ x = .int .i64 z ∧ i = .int .i64 (k : Int)) (fun _ i => L - (intOf i).toNat)
  case atStart => exact ⟨0, 0, Nat.zero_le _, rfl, rfl⟩
  case round =>
    obtain ⟨z, k, hk, rfl, rfl⟩ := hrel
    by_cases hkL : k < L
    · have hkk : (k : Int) < (L : Int) := by omega
      have hk0 : (0 : Int) ≤ (k : Int) := by omega
      obtain ⟨vg, vo, rfl, xA, xc, rows, c1, _, _⟩ := HE.out k hkL
      go_wp2_with fail
      go_round
      case rel => exact ⟨_, k + 1, by omega, rfl, by simp⟩
      case measure => simp [intOf]; omega
    · obtain rfl : L = k := by omega
      have hkk : ¬ (L : Int) < (L : Int) := by omega
      by_cases hl : 30 < L
      · have hl' : (30 : Int) < (L : Int) := by omega
        go_wp2_with fail
        refine (known_tk ht).mono ?_
        rintro e B ⟨rfl, hB⟩
        go_wp2_with fail
        go_ret
        exact ⟨rfl, hB.below⟩
      have hl' : ¬ (30 : Int) < (L : Int) := by omega
      by_cases hz : 500 < z
      · go_wp2_with fail
        refine (known_tk ht).mono ?_
        rintro e B ⟨rfl, hB⟩
        go_wp2_with fail
        go_ret
        exact ⟨rfl, hB.below⟩
      by_cases hrz : 100 < Z
      · have hrz' : (100 : Int) < (Z : Int) := by omega
        go_wp2_with fail
        refine (known_tk ht).mono ?_
        rintro e B ⟨rfl, hB⟩
        go_wp2_with fail
        go_ret
        exact ⟨rfl, hB.below⟩
      have hrz' : ¬ (100 : Int) < (Z : Int) := by omega
      go_wp2_with fail
      refine (known_tk ht).mono ?_
      rintro e B ⟨rfl, hB⟩
      clear hl hl' hz hrz hrz' ht
      by_cases hr : 1 ≤ a0 ∧ a0 ≤ 16
      · obtain ⟨n, rfl⟩ : ∃ n : Nat, a0 = n := ⟨a0.toNat, by omega⟩
        have h1 : 1 ≤ n := by omega
        have h2 : n ≤ 16 := by omega
        clear hr
        go_wp2_with fail
        refine (new_ak n h1 h2 B).mono ?_
        rintro e C ⟨b, g, a, rfl, hA, hk, hb, hg, ha⟩
        have hC := hB.next hk
        have hle := hB.le
        have hlt := hA.lt
        clear hB hk
        go_wp2_with fail
        refine (rnew_calls n h1 h2 C).mono ?_
        rintro e D ⟨b', g', a', rfl, hR, hk, hb', hg', ha'⟩
        have hBoth : Both W D n b g a b' g' a' (fun _ => 0) (fun _ => 0) :=
          ⟨hC.next hk, hA.keeps hk (fun _ _ h => h), ⟨by rw [lst_const]; exact hR, fun _ _ => h1, fun _ _ => h1⟩, by omega, by omega⟩
        clear hC hA hR hk
        go_wp2_with fail
        go_loopw [13] (fun x wr => ∃ (i : Nat) (G A : Nat → Nat), i ≤ L ∧ x = .int .i64 (i : Int) ∧ Both W wr n b g a b' g' a' G A) (fun x _ => L - (intOf x).toNat)
        case atStart => exact ⟨0, _, _, Nat.zero_le _, rfl, hBoth⟩
        case round =>
          clear hBoth
          obtain ⟨i, G, A, hi, rfl, hB⟩ := hrel
          by_cases hil : i < L
          · have hil' : (i : Int) < (L : Int) := by omega
            have hi0 : (0 : Int) ≤ (i : Int) := by omega
            obtain ⟨vg, vo, rfl, xA, xc, rows, c0, q1, q2⟩ := HE.out i hil
            have c1 := hB.tk.keeps.cell c0 (fun h => h)
            clear c0
            obtain ⟨f1, f2, f3, f4, f5, f6, f7, f8, f9⟩ := hB.far
            obtain ⟨o1, o2, o3⟩ := hB.own
            have hlr := hB.rk.lt
            have hle := hB.tk.le
            by_cases h8 : (k1 : Int) % 8 > 0
            · have h8' : (0 : Int) < (k1 : Int) % 8 := h8
              go_wp2_with fail
              refine (square_tk (.slice xA rows.length xc) rows n h1 h2 hB.tk q2).mono ?_
              rintro e V ⟨l, rfl, hl, hV, hk, hlm⟩
              replace hB := hB.next hk
              have hq := sq_lt q1 n
              have hread : Reads V V.heap.size 1 (.slice (some ⟨l, 0, none⟩) n n) (sq rows n).length ((sq rows n).map encU) := by rw [sq_length]; exact hl.reads
              have hvb : 0 < (sq rows n).length → ∀ k, (Value.slice (some ⟨l, 0, none⟩) n n).ownBlock = some k → k ≠ g ∧ k ≠ a ∧ k ≠ g' ∧ k ≠ a' := fun _ k h => by
                have h3 : some l = some k := h
                injection h3
                omega
              clear hk hl hV q1 q2 c1
              generalize sq rows n = rows' at *
              by_cases hiz : i < Z
              · have hiz' : (i : Int) < (Z : Int) := by omega
                obtain ⟨zg, zo, z, rfl, d0⟩ := HZ.out i hiz
                have d1 := hB.tk.keeps.cell d0 (fun h => h)
                clear d0 HZ HE
                have hD0 := hB.next (Keeps.drew (fun _ => False) V)
                have hbx := hD0.rk.cells
                have hc := chain hD0 h1 h2 z _ _ hread hvb hq
                clear hD0 hB
                go_wp2_with fail
                go_region_held (fun w' => w'.cell? ⟨b', 0, none⟩ = some (.slice (some ⟨g', 0, none⟩) n n) ∧ w'.cell? ⟨b', 1, none⟩ = some (.slice (some ⟨a', 0, none⟩) n n)) (assumption) (first
                  | (go_at_call 16; refine hc.mono ?_; rintro e X1 ⟨uA, uc, L1, rfl, bX, hc1⟩)
                  | (go_at_call 20; refine hc1.mono ?_; rintro e X2 ⟨uA2, uc2, rfl, bX2, hc2⟩)
                  | (go_at_call_of 17 (Value.slice uA L1 uc); refine hc2.mono ?_; rintro e X3 ⟨rfl, bX3, hc3⟩)
                  | (go_at_call 13; refine hc3.mono ?_; rintro e X4 ⟨pA, pc, rfl, bX4, hc4⟩)
                  | (go_at_call_of 17 (Value.slice pA n pc); refine hc4.mono ?_; rintro e X5 ⟨rfl, bX5, hc5⟩)
                  | (go_at_call 14; refine hc5.mono ?_; rintro e X6 ⟨qA, qc, rfl, bX6, hc6⟩)
                  | (go_at_call_of 17 (Value.slice qA n qc); refine hc6.mono ?_; rintro e X7 ⟨rfl, bX7, hc7⟩))
                obtain ⟨G2, A2, hB2⟩ := hc7
                go_wp2_with fail
                go_roundw
                case rel => exact ⟨i + 1, _, _, by omega, by simp, hB2⟩
                case measure => simp [intOf]; omega
              · have hiz' : ¬ (i : Int) < (Z : Int) := by omega
                clear HZ HE
                have hD0 := hB.next (Keeps.drew (fun _ => False) V)
                have hbx := hD0.rk.cells
                have hc := chain hD0 h1 h2 1 _ _ hread hvb hq
                clear hD0 hB
                go_wp2_with fail
                go_region_held (fun w' => w'.cell? ⟨b', 0, none⟩ = some (.slice (some ⟨g', 0, none⟩) n n) ∧ w'.cell? ⟨b', 1, none⟩ = some (.slice (some ⟨a', 0, none⟩) n n)) (assumption) (first
                  | (go_at_call 16; refine hc.mono ?_; rintro e X1 ⟨uA, uc, L1, rfl, bX, hc1⟩)
                  | (go_at_call 20; refine hc1.mono ?_; rintro e X2 ⟨uA2, uc2, rfl, bX2, hc2⟩)
                  | (go_at_call_of 17 (Value.slice uA L1 uc); refine hc2.mono ?_; rintro e X3 ⟨rfl, bX3, hc3⟩)
                  | (go_at_call 13; refine hc3.mono ?_; rintro e X4 ⟨pA, pc, rfl, bX4, hc4⟩)
                  | (go_at_call_of 17 (Value.slice pA n pc); refine hc4.mono ?_; rintro e X5 ⟨rfl, bX5, hc5⟩)
                  | (go_at_call 14; refine hc5.mono ?_; rintro e X6 ⟨qA, qc, rfl, bX6, hc6⟩)
                  | (go_at_call_of 17 (Value.slice qA n qc); refine hc6.mono ?_; rintro e X7 ⟨rfl, bX7, hc7⟩))
                obtain ⟨G2, A2, hB2⟩ := hc7
                go_wp2_with fail
                go_roundw
                case rel => exact ⟨i + 1, _, _, by omega, by simp, hB2⟩
                case measure => simp [intOf]; omega
            · have hread : Reads wr wr.heap.size 1 (.slice xA rows.length xc) rows.length (rows.map encU) := (q2.below hB.tk.below).wider hB.tk.le
              have hvb : 0 < rows.length → ∀ k, (Value.slice xA rows.length xc).ownBlock = some k → k ≠ g ∧ k ≠ a ∧ k ≠ g' ∧ k ≠ a' := fun hp k h => by
                obtain ⟨_, A, c, e, _, _, h5⟩ := q2
                obtain ⟨ad, e2, hb3, _⟩ := h5 hp
                cases e
                subst e2
                have h3 : some ad.block = some k := h
                injection h3
                omega
              have hq := q1
              have h8' : ¬ (0 : Int) < (k1 : Int) % 8 := h8
              clear q1 q2
              rename World => V
              by_cases hiz : i < Z
              · have hiz' : (i : Int) < (Z : Int) := by omega
                obtain ⟨zg, zo, z, rfl, d0⟩ := HZ.out i hiz
                have d1 := hB.tk.keeps.cell d0 (fun h => h)
                clear d0 HZ HE
                have hD0 := hB.next (Keeps.drew (fun _ => False) V)
                have hbx := hD0.rk.cells
                have hc := chain hD0 h1 h2 z _ _ hread hvb hq
                clear hD0 hB
                go_wp2_with fail
                go_region_held (fun w' => w'.cell? ⟨b', 0, none⟩ = some (.slice (some ⟨g', 0, none⟩) n n) ∧ w'.cell? ⟨b', 1, none⟩ = some (.slice (some ⟨a', 0, none⟩) n n)) (assumption) (first
                  | (go_at_call 16; refine hc.mono ?_; rintro e X1 ⟨uA, uc, L1, rfl, bX, hc1⟩)
                  | (go_at_call 20; refine hc1.mono ?_; rintro e X2 ⟨uA2, uc2, rfl, bX2, hc2⟩)
                  | (go_at_call_of 17 (Value.slice uA L1 uc); refine hc2.mono ?_; rintro e X3 ⟨rfl, bX3, hc3⟩)
                  | (go_at_call 13; refine hc3.mono ?_; rintro e X4 ⟨pA, pc, rfl, bX4, hc4⟩)
                  | (go_at_call_of 17 (Value.slice pA n pc); refine hc4.mono ?_; rintro e X5 ⟨rfl, bX5, hc5⟩)
                  | (go_at_call 14; refine hc5.mono ?_; rintro e X6 ⟨qA, qc, rfl, bX6, hc6⟩)
                  | (go_at_call_of 17 (Value.slice qA n qc); refine hc6.mono ?_; rintro e X7 ⟨rfl, bX7, hc7⟩))
                obtain ⟨G2, A2, hB2⟩ := hc7
                go_wp2_with fail
                go_roundw
                case rel => exact ⟨i + 1, _, _, by omega, by simp, hB2⟩
                case measure => simp [intOf]; omega
              · have hiz' : ¬ (i : Int) < (Z : Int) := by omega
                clear HZ HE
                have hD0 := hB.next (Keeps.drew (fun _ => False) V)
                have hbx := hD0.rk.cells
                have hc := chain hD0 h1 h2 1 _ _ hread hvb hq
                clear hD0 hB
                go_wp2_with fail
                go_region_held (fun w' => w'.cell? ⟨b', 0, none⟩ = some (.slice (some ⟨g', 0, none⟩) n n) ∧ w'.cell? ⟨b', 1, none⟩ = some (.slice (some ⟨a', 0, none⟩) n n)) (assumption) (first
                  | (go_at_call 16; refine hc.mono ?_; rintro e X1 ⟨uA, uc, L1, rfl, bX, hc1⟩)
                  | (go_at_call 20; refine hc1.mono ?_; rintro e X2 ⟨uA2, uc2, rfl, bX2, hc2⟩)
                  | (go_at_call_of 17 (Value.slice uA L1 uc); refine hc2.mono ?_; rintro e X3 ⟨rfl, bX3, hc3⟩)
                  | (go_at_call 13; refine hc3.mono ?_; rintro e X4 ⟨pA, pc, rfl, bX4, hc4⟩)
                  | (go_at_call_of 17 (Value.slice pA n pc); refine hc4.mono ?_; rintro e X5 ⟨rfl, bX5, hc5⟩)
                  | (go_at_call 14; refine hc5.mono ?_; rintro e X6 ⟨qA, qc, rfl, bX6, hc6⟩)
                  | (go_at_call_of 17 (Value.slice qA n qc); refine hc6.mono ?_; rintro e X7 ⟨rfl, bX7, hc7⟩))
                obtain ⟨G2, A2, hB2⟩ := hc7
                go_wp2_with fail
                go_roundw
                case rel => exact ⟨i + 1, _, _, by omega, by simp, hB2⟩
                case measure => simp [intOf]; omega
          · obtain rfl : L = i := by omega
            have hil' : ¬ (L : Int) < (L : Int) := by omega
            go_wp2_with fail
            go_ret
            exact ⟨rfl, hB.tk.below⟩
      · go_wp2_with fail
        refine (new_none a0 (by omega) B).mono ?_
        rintro e B' ⟨rfl, hB'⟩
        subst B'
        go_wp2_with fail
        refine (rnew_none a0 (by omega) B).mono ?_
        rintro e B' ⟨rfl, hB'⟩
        subst B'
        go_wp2_with fail
        go_ret
        exact ⟨rfl, hB.below⟩
end Go.Proofs.YtlfohlgooomdfaaDoor
