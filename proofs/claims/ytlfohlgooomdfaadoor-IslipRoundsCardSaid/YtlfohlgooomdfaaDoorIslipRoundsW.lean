/-
  The law IslipRounds, walked.
-/
import Derived.Test.YtlfohlgooomdfaaDoorIslipArgs
set_option linter.unusedVariables false
set_option linter.unusedSimpArgs false
namespace Go.Proofs.YtlfohlgooomdfaaDoor
open Go.RowKit Go.Sort

theorem AK.lt {w : World} {b n g a : Nat} {G A : Nat → Nat} (h : AK w b n G A g a) : b < w.heap.size ∧ g < w.heap.size ∧ a < w.heap.size := ⟨blk_lt h.arb.box, blk_lt h.arb.gr, blk_lt h.arb.ac⟩
theorem rounds_G1 (R : Nat → Nat → Bool) (s : St) (n : Nat) {c : Nat} (h : 1 ≤ c) : (roundsP R n s c).G = (roundsP R n s 1).G := by
  obtain ⟨d, rfl⟩ : ∃ d, c = d + 1 := ⟨c - 1, by omega⟩
  exact rounds_G R s n d
theorem rounds_A1 (R : Nat → Nat → Bool) (s : St) (n : Nat) {c : Nat} (h : 1 ≤ c) : (roundsP R n s c).A = (roundsP R n s 1).A := by
  obtain ⟨d, rfl⟩ : ∃ d, c = d + 1 := ⟨c - 1, by omega⟩
  exact rounds_A R s n d
/-- Requests as many as ports, then a run. -/
theorem square_tk {W A : World} (v : Value) (rows : List Nat) (n : Nat) (h1 : 1 ≤ n) (h2 : n ≤ 16) (h : TK W A) (hv : Reads W W.heap.size 1 v rows.length (rows.map encU)) :
    Calls Tryd.prog 19 #[v, .int .i64 n] A fun e w' => ∃ m, e = .returned (.slice (some ⟨m, 0, none⟩) n n) ∧ QS w' 29 1 (.slice (some ⟨m, 0, none⟩) n n) n ((sq rows n).map encU) ∧ TK W w' ∧ Keeps (fun _ => False) A w' ∧ A.heap.size ≤ m :=
  (square_calls v rows n A h1 h2 ((hv.below h.below).wider h.le)).mono fun _ _ ⟨q1, q2, q3⟩ => ⟨_, q1, q2, h.next q3, q3, Nat.le_refl _⟩

set_option maxRecDepth 100000 in
set_option maxHeartbeats 4000000 in
theorem islipRounds_walk {W : World} (a0 : Int) (v1 : Value) (a2 a3 : Int) (w0 : (Lit.int .u8 a0).wf = true) (w1 : Arg Tryd.prog W 28 v1) (w2 : (Lit.int .u8 a2).wf = true) (w3 : (Lit.int .u8 a3).wf = true) (hT : Tab W) :
    Calls Tryd.prog 10 #[.int .u8 a0, v1, .int .u8 a2, .int .u8 a3] W fun e w' => e = .returned (.bool true) ∧ Below W.heap.size W w' := by
  obtain ⟨k0, rfl, hk0⟩ := u8_nat w0
  obtain ⟨k2, rfl, hk2⟩ := u8_nat w2
  obtain ⟨k3, rfl, hk3⟩ := u8_nat w3
  obtain ⟨rows, hr, hR⟩ := rows_of_arg w1
  clear w0 w1 w2 w3
  have ht : TK W W := TK.refl hT
  go_enter Tryd.func10, Tryd.ntmps10
  have hn : (1 : Int) + (k0 : Int) % 16 = ((1 + k0 % 16 : Nat) : Int) := by omega
  have h1 : 1 ≤ 1 + k0 % 16 := by omega
  have h2 : 1 + k0 % 16 ≤ 16 := by omega
  generalize 1 + k0 % 16 = n at hn h1 h2
  go_wp2_with fail
  refine (new_ak n h1 h2 W).mono ?_
  rintro e A ⟨b, g, a, rfl, hA, hk, hb, hg, ha⟩
  replace ht := ht.next hk
  clear hn hk
  go_wp2_with fail
  refine (new_ak n h1 h2 A).mono ?_
  rintro e B ⟨b', g', a', rfl, hB, hk, hb', hg', ha'⟩
  obtain ⟨l1, l2, l3⟩ := hA.lt
  replace hA := hA.keeps hk (fun _ _ h => h)
  replace ht := ht.next hk
  clear hk
  go_wp2_with fail
  refine (known_calls B ht.tab).mono ?_
  rintro e C ⟨rfl, hk⟩
  replace hA := hA.keeps hk (fun _ _ h => h)
  replace hB := hB.keeps hk (fun _ _ h => h)
  replace ht := ht.next hk
  clear hk hk0
  obtain ⟨c, hc, hc1, hc2⟩ : ∃ c : Nat, (1 : Int) + (k2 : Int) % 16 = (c : Int) ∧ 1 ≤ c ∧ c ≤ 16 := ⟨1 + k2 % 16, by omega, by omega, by omega⟩
  obtain ⟨d, hd, hd1⟩ : ∃ d : Nat, (k3 : Int) % 4 = (d : Int) ∧ d ≤ 3 := ⟨k3 % 4, by omega, by omega⟩
  obtain ⟨m, hm, hm1, hm2⟩ : ∃ m : Nat, m = min (c + d) 16 ∧ c ≤ m ∧ m ≤ 16 := ⟨min (c + d) 16, rfl, by omega, by omega⟩
  obtain ⟨z, hz⟩ : ∃ z : Nat, m = c + z := ⟨m - c, by omega⟩
  have hkeep := fun (i : Nat) (h0 : 0 ≤ (roundsP (asks (sq rows n)) n (start (fun _ => 0) (fun _ => 0)) c).m i) => rounds_keep h0 z
  have hsG : (roundsP (asks (sq rows n)) n (start (fun _ => 0) (fun _ => 0)) m).G = (roundsP (asks (sq rows n)) n (start (fun _ => 0) (fun _ => 0)) c).G :=
    (rounds_G1 _ _ _ (by omega)).trans (rounds_G1 _ _ _ hc1).symm
  have hsA : (roundsP (asks (sq rows n)) n (start (fun _ => 0) (fun _ => 0)) m).A = (roundsP (asks (sq rows n)) n (start (fun _ => 0) (fun _ => 0)) c).A :=
    (rounds_A1 _ _ _ (by omega)).trans (rounds_A1 _ _ _ hc1).symm
  rw [← hz] at hkeep
  have hlo := (fit_rounds (R := asks (sq rows n)) (fit_start hA.g hA.a) c).lo
  have HR1 := Lib.hid (fun (X : World) (v : Value) (hT : Tab X) (hA : AK X b n (fun _ => 0) (fun _ => 0) g a) (hv : QS X 29 1 v n ((sq rows n).map encU)) => run_ak _ _ n b g a c v (sq rows n) h1 h2 hc1 hc2 X hT hA hv.reads (sq_lt hr n) (sq_length _ _))
  have HR2 := Lib.hid (fun (X : World) (v : Value) (hT : Tab X) (hA : AK X b' n (fun _ => 0) (fun _ => 0) g' a') (hv : QS X 29 1 v n ((sq rows n).map encU)) => run_ak _ _ n b' g' a' m v (sq rows n) h1 h2 (by omega) hm2 X hT hA hv.reads (sq_lt hr n) (sq_length _ _))
  have hmx : (c : Int) + (d : Int) ≤ 16 → (c : Int) + (d : Int) = (m : Int) := by omega
  have hmy : ¬ (c : Int) + (d : Int) ≤ 16 → (16 : Int) = (m : Int) := by omega
  have HM := Lib.hid hmx
  have HN := Lib.hid hmy
  clear hmx hmy hm hz
  go_wp2_with fail
  all_goals
    refine (square_tk v1 rows n h1 h2 ht hR).mono ?_
    rintro e D ⟨l, rfl, hl, hD, hk, hlm⟩
    replace hA := hA.keeps hk (fun _ _ h => h)
    replace hB := hB.keeps hk (fun _ _ h => h)
    have hgB0 := hB.lt
    clear ht hk
    go_wp2_with fail
    refine (HR1.out D _ hD.tab hA hl).mono ?_
    rintro e E ⟨u, rfl, hu, hA2, hk, huo⟩
    have hE := hD.then hk (fun i hi h => by have := hA.lt; omega)
    replace hB := hB.keeps hk (fun k h h' => by omega)
    have hDE := hk.size
    clear hD hA hk hl
    obtain ⟨ug, uo, uc, rfl, _, _, _⟩ := hu.cell h1
    have hug := huo ug rfl
    have hgD := hA2.lt
    clear huo
    go_wp2_with fail
    refine (square_tk v1 rows n h1 h2 hE hR).mono ?_
    rintro e F ⟨l, rfl, hl, hF, hk, hlm⟩
    replace hA2 := hA2.keeps hk (fun _ _ h => h)
    replace hB := hB.keeps hk (fun _ _ h => h)
    replace hu := hu.keeps hk (fun _ _ h => h)
    clear hE hk
    go_wp2_with fail
    try rw [HM.out (by assumption)]
    try rw [HN.out (by omega)]
    refine (HR2.out F _ hF.tab hB hl).mono ?_
    rintro e X ⟨v, rfl, hv, hB2, hk, hvo⟩
    have hgB := hB.lt
    have hX := hF.then hk (fun i hi h => by omega)
    replace hA2 := hA2.keeps hk (fun k h h' => by omega)
    replace hu := hu.keeps hk (fun k h h' => by have h2 : k = g' ∨ k = a' := h'; have h3 : some ug = some k := h; injection h3; omega)
    clear hF hB hk hl hvo
    obtain ⟨vg, vo, vc, rfl, _, hcv, _⟩ := hv.cell h1
    obtain ⟨_, _, _, e1, _, hcu, _⟩ := hu.cell h1
    injection e1 with e1 _ e2
    injection e1 with e1
    injection e1 with e1 e3
    subst e1 e2 e3
    rw [hsG, hsA] at hB2
    have hU := Lib.hid hcu
    have hV := Lib.hid hcv
    have HK := Lib.hid hkeep
    clear hcu hcv hkeep hsG hsA HR1 HR2 HM HN hu hv
    generalize roundsP (asks (sq rows n)) n (start (fun _ => 0) (fun _ => 0)) m = Y at *
    generalize roundsP (asks (sq rows n)) n (start (fun _ => 0) (fun _ => 0)) c = S at *
    go_wp2_with fail
    go_loopw [16] (fun x wr => ∃ (k nq : Nat), k ≤ n ∧ x = .int .i64 (k : Int) ∧ wr = X.drewN nq) (fun x _ => n - (intOf x).toNat)
    case atStart => exact ⟨0, 0, Nat.zero_le _, rfl, rfl⟩
    case round =>
      obtain ⟨k, nq, hk, rfl, rfl⟩ := hrel
      by_cases hkn : k < n
      · have hkk : (k : Int) < (n : Int) := by omega
        have y1 := hU.out k _ (by rw [List.getElem?_map, lst_at _ hkn]; rfl)
        have y2 := hV.out k _ (by rw [List.getElem?_map, lst_at _ hkn]; rfl)
        have h3 := HK.out k
        by_cases h0 : 0 ≤ S.m k
        · rw [h3 h0] at y2
          have hx0 : (S.m k != S.m k) = false := by simp
          clear h3
          go_wp2_with fail
          go_quiet (fail)
          go_wp2_with fail
          go_roundw
          case rel => exact ⟨k + 1, _, by omega, rfl, rfl⟩
          case measure => simp [intOf]; omega
        · clear h3
          have hng : S.m k < 0 := by omega
          have hdn : decide (0 ≤ S.m k) = false := decide_eq_false h0
          go_wp2_with fail
          go_quiet (fail)
          go_wp2_with fail
          go_roundw
          case rel => exact ⟨k + 1, _, by omega, rfl, rfl⟩
          case measure => simp [intOf]; omega
      · obtain rfl : n = k := by omega
        have hkk : ¬ (n : Int) < (n : Int) := by omega
        have hk0 : Keeps (fun _ => False) X (X.drewN nq) := Keeps.drewN _ _ _
        generalize X.drewN nq = X1 at hk0 ⊢
        replace hX := hX.next hk0
        replace hA2 := hA2.keeps hk0 (fun _ _ h => h)
        replace hB2 := hB2.keeps hk0 (fun _ _ h => h)
        clear hk0 hU hV
        go_wp2_with fail
        refine (grants_ak b n g a _ _ X1 hA2 h2).mono ?_
        rintro e X2 ⟨p, rfl, hp, hk⟩
        replace hX := hX.next hk
        replace hA2 := hA2.keeps hk (fun _ _ h => h)
        replace hB2 := hB2.keeps hk (fun _ _ h => h)
        clear hk
        go_wp2_with fail
        refine (grants_ak b' n g' a' _ _ X2 hB2 h2).mono ?_
        rintro e X3 ⟨q, rfl, hq, hk⟩
        replace hX := hX.next hk
        replace hA2 := hA2.keeps hk (fun _ _ h => h)
        replace hB2 := hB2.keeps hk (fun _ _ h => h)
        replace hp := hp.keeps hk (fun _ _ h => h)
        clear hk
        go_wp2_with fail
        refine (same_calls p q n _ X3 (by simp [lst_length]) hp hq).mono ?_
        rintro e X4 ⟨rfl, hk⟩
        replace hX := hX.next hk
        replace hA2 := hA2.keeps hk (fun _ _ h => h)
        replace hB2 := hB2.keeps hk (fun _ _ h => h)
        clear hk hp hq
        go_wp2_with fail
        refine (accepts_ak b n g a _ _ X4 hA2 h2).mono ?_
        rintro e X5 ⟨p', rfl, hp, hk⟩
        replace hX := hX.next hk
        replace hB2 := hB2.keeps hk (fun _ _ h => h)
        clear hk
        go_wp2_with fail
        refine (accepts_ak b' n g' a' _ _ X5 hB2 h2).mono ?_
        rintro e X6 ⟨q', rfl, hq, hk⟩
        replace hX := hX.next hk
        replace hp := hp.keeps hk (fun _ _ h => h)
        clear hk
        go_wp2_with fail
        refine (same_calls p' q' n _ X6 (by simp [lst_length]) hp hq).mono ?_
        rintro e X7 ⟨rfl, hk⟩
        replace hX := hX.next hk
        go_wp2_with fail
        go_ret
        exact ⟨rfl, hX.below⟩
end Go.Proofs.YtlfohlgooomdfaaDoor
