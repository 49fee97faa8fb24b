/-
  The law IslipOne, walked.
-/
import Derived.Test.YtlfohlgooomdfaaDoorIslipSmall
set_option linter.unusedVariables false
set_option linter.unusedSimpArgs false
namespace Go.Proofs.YtlfohlgooomdfaaDoor
open Go.RowKit Go.Sort

theorem made_u16z (n : Nat) : madeCells #[.int .u16 0] n = ((lst n fun _ => 0).map encU).toArray := by
  apply Array.ext
  · simp [madeCells, lst]
  · intro i h1 h2
    simp [madeCells, Nat.mod_one, lst]
/-- One row that asks for one. -/
theorem one_asks {n p q : Nat} (hp : p < n) (i k : Nat) : asks ((lst n fun _ => 0).set p (2 ^ q)) i k = (decide (i = p) && decide (k = q)) := by
  unfold asks
  rw [lst_set, List.getD_eq_getElem?_getD]
  by_cases hi : i < n
  · rw [lst_at _ hi, Option.getD_some]
    unfold upd
    by_cases e : i = p
    · rw [if_pos e, has_pow]; simp [e]
    · rw [if_neg e, has_zero]; simp [e]
  · rw [List.getElem?_eq_none (by rw [lst_length]; omega), Option.getD_none, has_zero]
    have : i ≠ p := by omega
    simp [this]

set_option maxRecDepth 100000 in
set_option maxHeartbeats 2000000 in
theorem islipOne_walk {W : World} (a0 a1 a2 : Int) (w0 : (Lit.int .u8 a0).wf = true) (w1 : (Lit.int .u8 a1).wf = true) (w2 : (Lit.int .u8 a2).wf = true) (hT : Tab W) :
    Calls Tryd.prog 4 #[.int .u8 a0, .int .u8 a1, .int .u8 a2] W fun e w' => e = .returned (.bool true) ∧ Below W.heap.size W w' := by
  obtain ⟨k0, rfl, hk0⟩ := u8_nat w0
  obtain ⟨k1, rfl, hk1⟩ := u8_nat w1
  obtain ⟨k2, rfl, hk2⟩ := u8_nat w2
  clear w0 w1 w2
  have ht : TK W W := TK.refl hT
  go_enter Tryd.func4, Tryd.ntmps4
  have hn : (1 : Int) + (k0 : Int) % 16 = ((1 + k0 % 16 : Nat) : Int) := by omega
  have h1 : 1 ≤ 1 + k0 % 16 := by omega
  have h2 : 1 + k0 % 16 ≤ 16 := by omega
  generalize 1 + k0 % 16 = n at hn h1 h2
  go_wp2_with fail
  refine (new_ak n h1 h2 W).mono ?_
  rintro e A ⟨b, g, a, rfl, hA, hk, hb, hg, ha⟩
  clear hn hk0
  replace ht := ht.next hk
  have hle := hk.size
  have hgl := blk_lt hA.arb.gr
  have hal := blk_lt hA.arb.ac
  have hbl := blk_lt hA.arb.box
  obtain ⟨p, hp, hpn⟩ : ∃ p : Nat, (k1 : Int) % (n : Int) = (p : Int) ∧ p < n := ⟨k1 % n, by rw [Int.natCast_emod], Nat.mod_lt _ (by omega)⟩
  obtain ⟨q, hq, hqn⟩ : ∃ p : Nat, (k2 : Int) % (n : Int) = (p : Int) ∧ p < n := ⟨k2 % n, by rw [Int.natCast_emod], Nat.mod_lt _ (by omega)⟩
  have hnz : ¬ (n : Int) = 0 := by omega
  have hpn' : (p : Int) < (n : Int) := by omega
  have hqn' : (q : Int) < (n : Int) := by omega
  have hms := fun w => run_make_row' (P := Tryd.prog) 28 29 (.int .u16 0) 2 Tryd.underlying28 info_u16 rfl .i64 .i64 n (by omega) (by omega) w
  go_wp2_with fail
  clear hms
  have hk2 : Keeps (fun _ => False) A (A.alloc (.cells (madeCells #[.int .u16 0] n) 29)) := Keeps.alloc _ _ _
  have hM : (A.alloc (.cells (madeCells #[.int .u16 0] n) 29)).heap[A.heap.size]? = some (.cells ((lst n fun _ => 0).map encU).toArray 29 (0, 0)) := by
    rw [← made_u16z]; exact blk_new _ _
  have hz : (A.alloc (.cells (madeCells #[.int .u16 0] n) 29)).heap.size = A.heap.size + 1 := by simp
  generalize A.heap.size = l at hM hz hle hgl hal hbl ⊢
  generalize A.alloc (.cells (madeCells #[.int .u16 0] n) 29) = B at hk2 hM hz ⊢
  have hcb : B.cell? ⟨l, p, none⟩ = some (.int .u16 0) := by rw [blk_cell hM]; simp [lst_at _ hpn]
  have hfb : B.frozen? ⟨l, p, none⟩ = false := blk_frozen hM p
  have cB := rbit_calls q (by omega) B
  have hnew := blk_set hM p (encU (2 ^ q))
  rw [List.setIfInBounds_toArray, ← List.map_set (f := encU) (a := 2 ^ q)] at hnew
  have has := one_asks (n := n) (p := p) (q := q) hpn
  have hx : 2 ^ q < 65536 := Nat.lt_of_le_of_lt (Nat.pow_le_pow_right (by decide) (show q ≤ 15 by omega)) (by decide)
  generalize 2 ^ q = x at cB hnew has hx
  refine cB.mono ?_
  rintro e B' ⟨rfl, hB'⟩
  subst B'
  clear cB
  go_wp2_with fail
  clear hcb hfb
  have hk3 : Keeps (fun k => k = l) B (B.setCell ⟨l, p, none⟩ (.int .u16 (x : Int))) := Keeps.setCell _ _ _ _ rfl
  have hz2 : (B.setCell ⟨l, p, none⟩ (.int .u16 (x : Int))).heap.size = l + 1 := by rw [← hz]; simp [World.setCell]
  replace hnew : (B.setCell ⟨l, p, none⟩ (.int .u16 (x : Int))).heap[l]? = _ := hnew
  generalize B.setCell ⟨l, p, none⟩ (.int .u16 (x : Int)) = C at hk3 hnew hz2 ⊢
  have htC : TK W C := (ht.next hk2).then hk3 (fun i hi h => by omega)
  have hAC : AK C b n (fun _ => 0) (fun _ => 0) g a := (hA.keeps hk2 (fun _ _ h => h)).keeps hk3 (fun k h h' => by omega)
  clear hk hk2 hk3 hM hA ht hz
  have hreq : ((lst n fun _ => 0).set p x).length = n := by rw [List.length_set, lst_length]
  refine (run_ak _ _ n b g a 1 _ ((lst n fun _ => 0).set p x) h1 h2 (by decide) (by decide) C htC.tab hAC
    (QS.reads (e := 29) ⟨by simp [lst_length], .inr ⟨l, 0, n, _, rfl, hnew, Nat.le_refl _, by simp only [maxLen]; omega, by simp [lst_length], fun j hj => by simp⟩⟩)
    (fun y hy => by
      rcases List.mem_or_eq_of_mem_set hy with h | h
      · obtain ⟨_, _, rfl⟩ := List.mem_map.1 h; decide
      · rw [h]; exact hx) hreq).mono ?_
  rintro e D ⟨u, rfl, hu, hD, hkD, huo⟩
  obtain ⟨r1, r2, r3⟩ := one_round (fit_start hAC.g hAC.a) hpn hqn (fun _ => rfl) has
  rw [r2, r3] at hD
  have hm : ∀ i, i < n → (roundsP (asks ((lst n fun _ => 0).set p x)) n (start (fun _ => 0) (fun _ => 0)) 1).m i = if i = p then (q : Int) else -1 := r1
  have htD := htC.then hkD (fun i hi h => by omega)
  rw [lst_congr hm] at hu
  clear r1 r2 r3 hm has hAC htC hnew hreq hx hkD huo
  have hD' : AK D b n (upd (fun _ => 0) q ((p + 1) % n)) (upd (fun _ => 0) p ((q + 1) % n)) g a := hD
  clear hD
  obtain ⟨ug, uo, uc, rfl, _, hcu, _⟩ := hu.cell h1
  have hU := Lib.hid hcu
  have hu' := Lib.hid hu
  clear hcu hu
  go_wp2_with fail
  go_loop [13] (fun v => ∃ k : Nat, k ≤ n ∧ v = .int .i64 (k : Int)) (fun v => n - (intOf v).toNat)
  case atStart => exact ⟨0, Nat.zero_le _, rfl⟩
  case round =>
    obtain ⟨k, hk, rfl⟩ := hrel
    by_cases hkn : k < n
    · have hkk : (k : Int) < (n : Int) := by omega
      have c1 := hU.out k _ (by rw [List.getElem?_map, lst_at _ hkn]; rfl)
      by_cases e : k = p
      · subst e
        rw [if_pos rfl] at c1
        go_wp2_with fail
        go_round
        case rel => exact ⟨k + 1, by omega, rfl⟩
        case measure => simp [intOf]; omega
      · rw [if_neg e] at c1
        have e' : ¬ (k : Int) = (p : Int) := by omega
        go_wp2_with fail
        go_round
        case rel => exact ⟨k + 1, by omega, rfl⟩
        case measure => simp [intOf]; omega
    · obtain rfl : n = k := by omega
      have hkk : ¬ (n : Int) < (n : Int) := by omega
      go_wp2_with fail
      refine (grants_ak b n g a _ _ D hD' h2).mono ?_
      rintro e E ⟨v, rfl, hv, kE⟩
      obtain ⟨vg, vo, vc, rfl, _, hcv, _⟩ := hv.cell h1
      go_wp2_with fail
      refine (accepts_ak b n g a _ _ E (hD'.keeps kE (fun _ _ h => h)) h2).mono ?_
      rintro e F ⟨y, rfl, hy, kF⟩
      obtain ⟨yg, yo, yc, rfl, _, hcy, _⟩ := hy.cell h1
      have htF := (htD.next kE).next kF
      have d1 := kF.cell (hcv q _ (by rw [List.getElem?_map, List.getElem?_map, lst_at _ hqn]; rfl)) (fun h => h)
      have d2 := hcy p _ (by rw [List.getElem?_map, List.getElem?_map, lst_at _ hpn]; rfl)
      clear hv hy hcv hcy kE kF htD hD' hU hu'
      obtain ⟨gp, hgp, hgp'⟩ : ∃ x : Nat, ((p : Int) + 1) % (n : Int) = (x : Int) ∧ x = (p + 1) % n := ⟨(p + 1) % n, by rw [Int.natCast_emod]; rfl, rfl⟩
      obtain ⟨aq, haq, haq'⟩ : ∃ x : Nat, ((q : Int) + 1) % (n : Int) = (x : Int) ∧ x = (q + 1) % n := ⟨(q + 1) % n, by rw [Int.natCast_emod]; rfl, rfl⟩
      rw [show upd (fun _ => 0) q ((p + 1) % n) q = gp by unfold upd; rw [if_pos rfl]; exact hgp'.symm] at d1
      rw [show upd (fun _ => 0) p ((q + 1) % n) p = aq by unfold upd; rw [if_pos rfl]; exact haq'.symm] at d2
      clear hgp' haq'
      have d1' : F.cell? ⟨vg, vo + q, none⟩ = some (.int .i64 (gp : Int)) := d1
      have d2' : F.cell? ⟨yg, yo + p, none⟩ = some (.int .i64 (aq : Int)) := d2
      have HS := Lib.hid (p := ∀ V, Keeps (fun _ => False) F V → V.cell? ⟨vg, vo + q, none⟩ = some (.int .i64 (gp : Int)) ∧ V.cell? ⟨yg, yo + p, none⟩ = some (.int .i64 (aq : Int)))
        fun V hV => ⟨hV.cell d1' (fun h => h), hV.cell d2' (fun h => h)⟩
      have htj : ((p : Int) + 1).tmod n = (gp : Int) := by rw [Int.tmod_eq_emod_of_nonneg (by omega)]; exact hgp
      have htk : ((q : Int) + 1).tmod n = (aq : Int) := by rw [Int.tmod_eq_emod_of_nonneg (by omega)]; exact haq
      have hwp : IntKind.i64.wrap ((p : Int) + 1) = (p : Int) + 1 := wrap_nat (p + 1) (by omega)
      have hwq : IntKind.i64.wrap ((q : Int) + 1) = (q : Int) + 1 := wrap_nat (q + 1) (by omega)
      have hp0 : (0 : Int) ≤ (p : Int) := by omega
      have hq0 : (0 : Int) ≤ (q : Int) := by omega
      have hnz2 : ¬ n = 0 := by omega
      have hd : Keeps (fun _ => False) F F.drew := Keeps.drew _ _
      have KK := Lib.hid (p := ∀ A, Keeps (fun _ => False) F A → Calls Tryd.prog 12 #[] A fun e w' => e = .returned (.bool true) ∧ TK W w' ∧ Keeps (fun _ => False) F w')
        fun A hA => (known_calls A (htF.next hA).tab).mono fun _ _ ⟨h1, h2⟩ => ⟨h1, (htF.next hA).next h2, hA.trans h2⟩
      clear d1 d2 d1' d2' htF
      go_wp2_with fail
      go_region_held (fun w' => w'.cell? ⟨vg, vo + q, none⟩ = some (.int .i64 (gp : Int)) ∧ w'.cell? ⟨yg, yo + p, none⟩ = some (.int .i64 (aq : Int))) (exact HS.out _ (by assumption)) (first | (go_at_call 12; refine (KK.out _ (by assumption)).mono ?_; rintro e X ⟨rfl, htX, hX⟩))
      go_wp2_with fail
      go_ret
      exact ⟨rfl, htX.below⟩
end Go.Proofs.YtlfohlgooomdfaaDoor
