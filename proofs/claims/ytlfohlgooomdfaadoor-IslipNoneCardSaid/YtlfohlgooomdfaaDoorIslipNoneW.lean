/-
  The law IslipNone, walked.
-/
import Derived.Test.YtlfohlgooomdfaaDoorIslipOneW
set_option linter.unusedVariables false
set_option linter.unusedSimpArgs false
namespace Go.Proofs.YtlfohlgooomdfaaDoor
open Go.RowKit Go.Sort

theorem no_asks (n i k : Nat) : asks (lst n fun _ => 0) i k = false := by
  unfold asks
  rw [List.getD_eq_getElem?_getD]
  by_cases hi : i < n
  · rw [lst_at _ hi, Option.getD_some, has_zero]
  · rw [List.getElem?_eq_none (by rw [lst_length]; omega), Option.getD_none, has_zero]
theorem lst_zero_lt (n : Nat) : ∀ y ∈ lst n (fun _ => 0), y < 65536 := fun y hy => by obtain ⟨_, _, rfl⟩ := List.mem_map.1 hy; decide
/-- A row that was made, of numbers. -/
theorem qs_made {V : World} {m n : Nat} (h : V.heap[m]? = some (.cells (madeCells #[.int .i64 0] n) 3 (0, 0))) (hn : n ≤ 17) : QS V 3 1 (.slice (some ⟨m, 0, none⟩) n n) n (((lst n fun _ => 0).map Int.ofNat).map (Value.int .i64)) := by
  rw [lst_const, ← enc_ints]
  rw [made_zeros] at h
  exact ⟨by simp, .inr ⟨m, 0, n, _, rfl, h, Nat.le_refl _, by simp only [maxLen]; omega, by simp, fun j hj => by simp only [Nat.zero_add, List.getElem?_toArray]⟩⟩
theorem reads_made {V : World} {m n : Nat} (h : V.heap[m]? = some (.cells (madeCells #[.int .u16 0] n) 29 (0, 0))) (hn : n ≤ 17) : Reads V V.heap.size 1 (.slice (some ⟨m, 0, none⟩) n n) n ((lst n fun _ => 0).map encU) := by
  rw [made_u16z] at h
  exact QS.reads (e := 29) ⟨by simp [lst_length], .inr ⟨m, 0, n, _, rfl, h, Nat.le_refl _, by simp only [maxLen]; omega, by simp [lst_length], fun j hj => by simp⟩⟩
/-- Where none asks. -/
theorem run_nil (n b g a rounds m : Nat) (h1 : 1 ≤ n) (h2 : n ≤ 16) (hr1 : 1 ≤ rounds) (hr2 : rounds ≤ 16) (w : World) (hT : Tab w) (hA : AK w b n (fun _ => 0) (fun _ => 0) g a) (hm : w.heap[m]? = some (.cells (madeCells #[.int .u16 0] n) 29 (0, 0))) :
    Calls Tryd.prog 16 #[.pointer (some ⟨b, 0, none⟩), .slice (some ⟨m, 0, none⟩) n n, .int .i64 rounds] w fun e w' => ∃ uA uc, e = .returned (.slice uA n uc) ∧ QS w' 3 1 (.slice uA n uc) n (List.replicate n (.int .i64 (-1))) ∧
      AK w' b n (fun _ => 0) (fun _ => 0) g a ∧ Keeps (fun k => k = g ∨ k = a) w w' := by
  refine (run_ak _ _ n b g a rounds _ _ h1 h2 hr1 hr2 w hT hA (reads_made hm (by omega)) (lst_zero_lt n) (lst_length _ _)).mono ?_
  rintro e w' ⟨u, rfl, hu, hA', hk, _⟩
  rw [none_rounds (fit_start hA.g hA.a) (no_asks n)] at hu hA'
  obtain ⟨uA, uc, rfl, _, _⟩ := hu.shape
  have e1 : lst n (start (fun _ => 0) (fun _ => 0)).m = List.replicate n (-1) := lst_const n (-1)
  rw [e1, List.map_replicate] at hu
  exact ⟨uA, uc, rfl, hu, hA', hk⟩

set_option maxRecDepth 100000 in
set_option maxHeartbeats 4000000 in
theorem islipNone_walk {W : World} (a0 a1 : Int) (w0 : (Lit.int .u8 a0).wf = true) (w1 : (Lit.int .i64 a1).wf = true) (hT : Tab W) :
    Calls Tryd.prog 5 #[.int .u8 a0, .int .i64 a1] W fun e w' => e = .returned (.bool true) ∧ Below W.heap.size W w' := by
  obtain ⟨k0, rfl, hk0⟩ := u8_nat w0
  clear w0 w1
  have ht : TK W W := TK.refl hT
  go_enter Tryd.func5, Tryd.ntmps5
  have hn : (1 : Int) + (k0 : Int) % 16 = ((1 + k0 % 16 : Nat) : Int) := by omega
  have h1 : 1 ≤ 1 + k0 % 16 := by omega
  have h2 : 1 + k0 % 16 ≤ 16 := by omega
  generalize 1 + k0 % 16 = n at hn h1 h2
  go_wp2_with fail
  refine (new_ak n h1 h2 W).mono ?_
  rintro e A ⟨b, g, a, rfl, hA, hk, hb, hg, ha⟩
  clear hn hk0
  replace ht := ht.next hk
  have hle := hk.size
  have hms := fun w => run_make_row' (P := Tryd.prog) 28 29 (.int .u16 0) 2 Tryd.underlying28 info_u16 rfl .i64 .i64 n (by omega) (by omega) w
  have hms1 := fun w => run_make_row' (P := Tryd.prog) 28 29 (.int .u16 0) 2 Tryd.underlying28 info_u16 rfl .i64 .i64 (n + 1) (by omega) (by omega) w
  rw [Int.natCast_add, Int.natCast_one] at hms1
  have hms2 := fun w => run_make_row' (P := Tryd.prog) 25 3 (.int .i64 0) 8 Tryd.underlying25 info_int rfl .i64 .i64 n (by omega) (by omega) w
  have hwn : IntKind.i64.wrap ((n : Int) + 1) = (n : Int) + 1 := wrap_nat (n + 1) (by omega)
  go_wp2_with fail
  have hk2 : Keeps (fun _ => False) A (A.alloc (.cells (madeCells #[.int .u16 0] n) 29)) := Keeps.alloc _ _ _
  have hM := blk_new A (.cells (madeCells #[.int .u16 0] n) 29)
  generalize A.alloc (.cells (madeCells #[.int .u16 0] n) 29) = B at hk2 hM ⊢
  replace ht := ht.next hk2
  refine (run_nil n b g a 1 _ h1 h2 (by decide) (by decide) B ht.tab (hA.keeps hk2 (fun _ _ h => h)) hM).mono ?_
  rintro e C ⟨uA, uc, rfl, hu, hAC, hkC⟩
  replace ht := ht.then hkC (fun i hi h => by omega)
  clear hk hk2 hkC hM hA
  obtain ⟨ug, uo, _, eu, _, hcu, _⟩ := hu.cell h1
  injection eu with eu _ eu2
  subst eu eu2
  have hU := Lib.hid hcu
  clear hcu hu
  go_wp2_with fail
  go_loop [8] (fun v => ∃ k : Nat, k ≤ n ∧ v = .int .i64 (k : Int)) (fun v => n - (intOf v).toNat)
  case atStart => exact ⟨0, Nat.zero_le _, rfl⟩
  case round =>
    obtain ⟨k, hk, rfl⟩ := hrel
    by_cases hkn : k < n
    · have hkk : (k : Int) < (n : Int) := by omega
      have c1 := hU.out k _ (by rw [List.getElem?_replicate, if_pos hkn])
      go_wp2_with fail
      go_round
      case rel => exact ⟨k + 1, by omega, rfl⟩
      case measure => simp [intOf]; omega
    · obtain rfl : n = k := by omega
      have hkk : ¬ (n : Int) < (n : Int) := by omega
      clear hU
      go_wp2_with fail
      have hk3 : Keeps (fun _ => False) C (C.alloc (.cells (madeCells #[.int .u16 0] (n + 1)) 29)) := Keeps.alloc _ _ _
      generalize hl : C.heap.size = l
      generalize C.alloc (.cells (madeCells #[.int .u16 0] (n + 1)) 29) = D at hk3 ⊢
      replace hAC := hAC.keeps hk3 (fun _ _ h => h)
      replace ht := ht.next hk3
      refine (run_no _ _ n b g a (n + 1) 1 (some ⟨l, 0, none⟩) (n + 1) D hAC.arb (.inl (by omega))).mono ?_
      rintro e D' ⟨rfl, hD'⟩
      subst D'
      clear hl hk3
      go_wp2_with fail
      have hk4 : Keeps (fun _ => False) D (D.alloc (.cells (madeCells #[.int .u16 0] n) 29)) := Keeps.alloc _ _ _
      have hM := blk_new D (.cells (madeCells #[.int .u16 0] n) 29)
      generalize D.heap.size = l2 at hM ⊢
      generalize D.alloc (.cells (madeCells #[.int .u16 0] n) 29) = E at hk4 hM ⊢
      replace hAC := hAC.keeps hk4 (fun _ _ h => h)
      replace ht := ht.next hk4
      clear hk4 hms hms1
      by_cases hr : 1 ≤ a1 ∧ a1 ≤ 16
      · obtain ⟨r, rfl⟩ : ∃ r : Nat, a1 = r := ⟨a1.toNat, by omega⟩
        refine (run_nil n b g a r _ h1 h2 (by omega) (by omega) E ht.tab hAC hM).mono ?_
        rintro e F ⟨vA, vc, rfl, _, hAF, hkF⟩
        have htF := ht.then hkF (fun i hi h => by omega)
        clear hkF hM hAC ht
        have hr1 : ¬ (r : Int) < 1 := by omega
        have hr2 : ¬ (16 : Int) < (r : Int) := by omega
        have hn0 : ((n : Int) == 0) = false := by rw [beq_eq_false_iff_ne]; omega
        have hn0' : ¬ (n : Int) = 0 := by omega
        have hn0'' : ¬ n = 0 := by omega
        have hd1 : decide ((r : Int) < 1) = false := decide_eq_false hr1
        have hd2 : decide ((16 : Int) < (r : Int)) = false := decide_eq_false hr2
        clear hr
        have KK := Lib.hid (p := ∀ V, Keeps (fun _ => False) F V → Calls Tryd.prog 12 #[] V fun e w' => e = .returned (.bool true) ∧ Keeps (fun _ => False) F w')
          fun V hV => (known_calls V (htF.next hV).tab).mono fun _ _ ⟨h1, h2⟩ => ⟨h1, hV.trans h2⟩
        have KG := Lib.hid (p := ∀ V, Keeps (fun _ => False) F V → Calls Tryd.prog 13 #[.pointer (some ⟨b, 0, none⟩)] V fun e w' => ∃ yA yc, e = .returned (.slice yA n yc) ∧ QS w' 3 1 (.slice yA n yc) n (((lst n fun _ => 0).map Int.ofNat).map (Value.int .i64)) ∧ Keeps (fun _ => False) V w' ∧ Keeps (fun _ => False) F w')
          fun V hV => (grants_ak b n g a _ _ V (hAF.keeps hV (fun _ _ h => h)) h2).mono fun _ _ ⟨u, q1, q2, q3⟩ => by obtain ⟨yA, yc, rfl, _, _⟩ := q2.shape; exact ⟨yA, yc, q1, q2, q3, hV.trans q3⟩
        have KA := Lib.hid (p := ∀ V, Keeps (fun _ => False) F V → Calls Tryd.prog 14 #[.pointer (some ⟨b, 0, none⟩)] V fun e w' => ∃ yA yc, e = .returned (.slice yA n yc) ∧ QS w' 3 1 (.slice yA n yc) n (((lst n fun _ => 0).map Int.ofNat).map (Value.int .i64)) ∧ Keeps (fun _ => False) V w' ∧ Keeps (fun _ => False) F w')
          fun V hV => (accepts_ak b n g a _ _ V (hAF.keeps hV (fun _ _ h => h)) h2).mono fun _ _ ⟨u, q1, q2, q3⟩ => by obtain ⟨yA, yc, rfl, _, _⟩ := q2.shape; exact ⟨yA, yc, q1, q2, q3, hV.trans q3⟩
        have KS := Lib.hid (p := ∀ V (u : Value) (m : Nat), Keeps (fun _ => False) F V → QS V 3 1 u n (((lst n fun _ => 0).map Int.ofNat).map (Value.int .i64)) → V.heap[m]? = some (.cells (madeCells #[.int .i64 0] n) 3 (0, 0)) →
            Calls Tryd.prog 17 #[u, .slice (some ⟨m, 0, none⟩) n n] V fun e w' => e = .returned (.bool true) ∧ Keeps (fun _ => False) F w')
          fun V u m hV hu hm => (same_calls _ _ n _ V (by simp [lst_length]) hu (qs_made hm (by omega))).mono fun _ _ ⟨q1, q2⟩ => ⟨q1, hV.trans q2⟩
        have hd : Keeps (fun _ => False) F F.drew := Keeps.drew _ _
        clear hAF
        go_wp2_with fail
        first | go_region_held (fun w' => Keeps (fun _ => False) F w') (first | assumption | exact Keeps.trans (by assumption) (Keeps.alloc _ _ _)) (first
          | (go_at_call 12; refine (KK.out _ (by assumption)).mono ?_; rintro e X ⟨rfl, hX⟩)
          | (go_at_call 13; refine (KG.out _ (by assumption)).mono ?_; rintro e Y ⟨yA, yc, rfl, hY, hAY, hFY⟩)
          | (go_at_call 14; refine (KA.out _ (by assumption)).mono ?_; rintro e Y2 ⟨yA2, yc2, rfl, hY2, hAY2, hFY2⟩)
          | (go_at_call_of 17 (Value.slice yA n yc); refine (KS.out _ _ _ (by assumption) hY (blk_keeps hAY (blk_new _ _) (fun h => h))).mono ?_; rintro e Z ⟨rfl, hFZ⟩)
          | (go_at_call_of 17 (Value.slice yA n yc); refine (KS.out _ _ _ (by assumption) (hY.alloc _) (blk_new _ _)).mono ?_; rintro e Z ⟨rfl, hFZ⟩)
          | (go_at_call_of 17 (Value.slice yA2 n yc2); refine (KS.out _ _ _ (by assumption) hY2 (blk_keeps hAY2 (blk_new _ _) (fun h => h))).mono ?_; rintro e Z2 ⟨rfl, hFZ2⟩)
          | (go_at_call_of 17 (Value.slice yA2 n yc2); refine (KS.out _ _ _ (by assumption) (hY2.alloc _) (blk_new _ _)).mono ?_; rintro e Z2 ⟨rfl, hFZ2⟩)) | fail
        all_goals
          go_wp2_with fail
          go_ret
          exact ⟨rfl, (htF.next hFZ2).below⟩
      · refine (run_no _ _ n b g a n a1 (some ⟨l2, 0, none⟩) n E hAC.arb (.inr (by omega))).mono ?_
        rintro e F ⟨rfl, hF'⟩
        subst F
        rename World => F
        have hAF := hAC
        have htF := ht
        clear hAC ht hM
        by_cases hr1 : a1 < 1
        · clear hr
          have hd1 : decide (a1 < 1) = true := decide_eq_true hr1
          have KK := Lib.hid (p := ∀ V, Keeps (fun _ => False) F V → Calls Tryd.prog 12 #[] V fun e w' => e = .returned (.bool true) ∧ Keeps (fun _ => False) F w')
            fun V hV => (known_calls V (htF.next hV).tab).mono fun _ _ ⟨h1, h2⟩ => ⟨h1, hV.trans h2⟩
          have KG := Lib.hid (p := ∀ V, Keeps (fun _ => False) F V → Calls Tryd.prog 13 #[.pointer (some ⟨b, 0, none⟩)] V fun e w' => ∃ yA yc, e = .returned (.slice yA n yc) ∧ QS w' 3 1 (.slice yA n yc) n (((lst n fun _ => 0).map Int.ofNat).map (Value.int .i64)) ∧ Keeps (fun _ => False) V w' ∧ Keeps (fun _ => False) F w')
            fun V hV => (grants_ak b n g a _ _ V (hAF.keeps hV (fun _ _ h => h)) h2).mono fun _ _ ⟨u, q1, q2, q3⟩ => by obtain ⟨yA, yc, rfl, _, _⟩ := q2.shape; exact ⟨yA, yc, q1, q2, q3, hV.trans q3⟩
          have KA := Lib.hid (p := ∀ V, Keeps (fun _ => False) F V → Calls Tryd.prog 14 #[.pointer (some ⟨b, 0, none⟩)] V fun e w' => ∃ yA yc, e = .returned (.slice yA n yc) ∧ QS w' 3 1 (.slice yA n yc) n (((lst n fun _ => 0).map Int.ofNat).map (Value.int .i64)) ∧ Keeps (fun _ => False) V w' ∧ Keeps (fun _ => False) F w')
            fun V hV => (accepts_ak b n g a _ _ V (hAF.keeps hV (fun _ _ h => h)) h2).mono fun _ _ ⟨u, q1, q2, q3⟩ => by obtain ⟨yA, yc, rfl, _, _⟩ := q2.shape; exact ⟨yA, yc, q1, q2, q3, hV.trans q3⟩
          have KS := Lib.hid (p := ∀ V (u : Value) (m : Nat), Keeps (fun _ => False) F V → QS V 3 1 u n (((lst n fun _ => 0).map Int.ofNat).map (Value.int .i64)) → V.heap[m]? = some (.cells (madeCells #[.int .i64 0] n) 3 (0, 0)) →
              Calls Tryd.prog 17 #[u, .slice (some ⟨m, 0, none⟩) n n] V fun e w' => e = .returned (.bool true) ∧ Keeps (fun _ => False) F w')
            fun V u m hV hu hm => (same_calls _ _ n _ V (by simp [lst_length]) hu (qs_made hm (by omega))).mono fun _ _ ⟨q1, q2⟩ => ⟨q1, hV.trans q2⟩
          have hd : Keeps (fun _ => False) F F.drew := Keeps.drew _ _
          clear hAF
          go_wp2_with fail
          first | go_region_held (fun w' => Keeps (fun _ => False) F w') (first | assumption | exact Keeps.trans (by assumption) (Keeps.alloc _ _ _)) (first
            | (go_at_call 12; refine (KK.out _ (by assumption)).mono ?_; rintro e X ⟨rfl, hX⟩)
            | (go_at_call 13; refine (KG.out _ (by assumption)).mono ?_; rintro e Y ⟨yA, yc, rfl, hY, hAY, hFY⟩)
            | (go_at_call 14; refine (KA.out _ (by assumption)).mono ?_; rintro e Y2 ⟨yA2, yc2, rfl, hY2, hAY2, hFY2⟩)
            | (go_at_call_of 17 (Value.slice yA n yc); refine (KS.out _ _ _ (by assumption) hY (blk_keeps hAY (blk_new _ _) (fun h => h))).mono ?_; rintro e Z ⟨rfl, hFZ⟩)
            | (go_at_call_of 17 (Value.slice yA n yc); refine (KS.out _ _ _ (by assumption) (hY.alloc _) (blk_new _ _)).mono ?_; rintro e Z ⟨rfl, hFZ⟩)
            | (go_at_call_of 17 (Value.slice yA2 n yc2); refine (KS.out _ _ _ (by assumption) hY2 (blk_keeps hAY2 (blk_new _ _) (fun h => h))).mono ?_; rintro e Z2 ⟨rfl, hFZ2⟩)
            | (go_at_call_of 17 (Value.slice yA2 n yc2); refine (KS.out _ _ _ (by assumption) (hY2.alloc _) (blk_new _ _)).mono ?_; rintro e Z2 ⟨rfl, hFZ2⟩)) | fail
          all_goals
            go_wp2_with fail
            go_ret
            exact ⟨rfl, (htF.next hFZ2).below⟩
        · have hr2 : (16 : Int) < a1 := by omega
          clear hr
          have hd1 : decide (a1 < 1) = false := decide_eq_false hr1
          have hd2 : decide ((16 : Int) < a1) = true := decide_eq_true hr2
          have KK := Lib.hid (p := ∀ V, Keeps (fun _ => False) F V → Calls Tryd.prog 12 #[] V fun e w' => e = .returned (.bool true) ∧ Keeps (fun _ => False) F w')
            fun V hV => (known_calls V (htF.next hV).tab).mono fun _ _ ⟨h1, h2⟩ => ⟨h1, hV.trans h2⟩
          have KG := Lib.hid (p := ∀ V, Keeps (fun _ => False) F V → Calls Tryd.prog 13 #[.pointer (some ⟨b, 0, none⟩)] V fun e w' => ∃ yA yc, e = .returned (.slice yA n yc) ∧ QS w' 3 1 (.slice yA n yc) n (((lst n fun _ => 0).map Int.ofNat).map (Value.int .i64)) ∧ Keeps (fun _ => False) V w' ∧ Keeps (fun _ => False) F w')
            fun V hV => (grants_ak b n g a _ _ V (hAF.keeps hV (fun _ _ h => h)) h2).mono fun _ _ ⟨u, q1, q2, q3⟩ => by obtain ⟨yA, yc, rfl, _, _⟩ := q2.shape; exact ⟨yA, yc, q1, q2, q3, hV.trans q3⟩
          have KA := Lib.hid (p := ∀ V, Keeps (fun _ => False) F V → Calls Tryd.prog 14 #[.pointer (some ⟨b, 0, none⟩)] V fun e w' => ∃ yA yc, e = .returned (.slice yA n yc) ∧ QS w' 3 1 (.slice yA n yc) n (((lst n fun _ => 0).map Int.ofNat).map (Value.int .i64)) ∧ Keeps (fun _ => False) V w' ∧ Keeps (fun _ => False) F w')
            fun V hV => (accepts_ak b n g a _ _ V (hAF.keeps hV (fun _ _ h => h)) h2).mono fun _ _ ⟨u, q1, q2, q3⟩ => by obtain ⟨yA, yc, rfl, _, _⟩ := q2.shape; exact ⟨yA, yc, q1, q2, q3, hV.trans q3⟩
          have KS := Lib.hid (p := ∀ V (u : Value) (m : Nat), Keeps (fun _ => False) F V → QS V 3 1 u n (((lst n fun _ => 0).map Int.ofNat).map (Value.int .i64)) → V.heap[m]? = some (.cells (madeCells #[.int .i64 0] n) 3 (0, 0)) →
              Calls Tryd.prog 17 #[u, .slice (some ⟨m, 0, none⟩) n n] V fun e w' => e = .returned (.bool true) ∧ Keeps (fun _ => False) F w')
            fun V u m hV hu hm => (same_calls _ _ n _ V (by simp [lst_length]) hu (qs_made hm (by omega))).mono fun _ _ ⟨q1, q2⟩ => ⟨q1, hV.trans q2⟩
          have hd : Keeps (fun _ => False) F F.drew := Keeps.drew _ _
          clear hAF
          go_wp2_with fail
          first | go_region_held (fun w' => Keeps (fun _ => False) F w') (first | assumption | exact Keeps.trans (by assumption) (Keeps.alloc _ _ _)) (first
            | (go_at_call 12; refine (KK.out _ (by assumption)).mono ?_; rintro e X ⟨rfl, hX⟩)
            | (go_at_call 13; refine (KG.out _ (by assumption)).mono ?_; rintro e Y ⟨yA, yc, rfl, hY, hAY, hFY⟩)
            | (go_at_call 14; refine (KA.out _ (by assumption)).mono ?_; rintro e Y2 ⟨yA2, yc2, rfl, hY2, hAY2, hFY2⟩)
            | (go_at_call_of 17 (Value.slice yA n yc); refine (KS.out _ _ _ (by assumption) hY (blk_keeps hAY (blk_new _ _) (fun h => h))).mono ?_; rintro e Z ⟨rfl, hFZ⟩)
            | (go_at_call_of 17 (Value.slice yA n yc); refine (KS.out _ _ _ (by assumption) (hY.alloc _) (blk_new _ _)).mono ?_; rintro e Z ⟨rfl, hFZ⟩)
            | (go_at_call_of 17 (Value.slice yA2 n yc2); refine (KS.out _ _ _ (by assumption) hY2 (blk_keeps hAY2 (blk_new _ _) (fun h => h))).mono ?_; rintro e Z2 ⟨rfl, hFZ2⟩)
            | (go_at_call_of 17 (Value.slice yA2 n yc2); refine (KS.out _ _ _ (by assumption) (hY2.alloc _) (blk_new _ _)).mono ?_; rintro e Z2 ⟨rfl, hFZ2⟩)) | fail
          all_goals
            go_wp2_with fail
            go_ret
            exact ⟨rfl, (htF.next hFZ2).below⟩
end Go.Proofs.YtlfohlgooomdfaaDoor
