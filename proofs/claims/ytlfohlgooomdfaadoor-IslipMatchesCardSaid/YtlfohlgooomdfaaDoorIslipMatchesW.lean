/-
  The law IslipMatches, walked.
-/
import Derived.Test.YtlfohlgooomdfaaDoorIslipRoundsW
set_option linter.unusedVariables false
set_option linter.unusedSimpArgs false
namespace Go.Proofs.YtlfohlgooomdfaaDoor
open Go.RowKit Go.Sort

/-- Who was seen among the first j. -/
def seenL (M : Nat → Int) (n j : Nat) : List Nat := lst n fun k => if freeB M j k = true then 0 else 1
theorem seenL_at (M : Nat → Int) {n : Nat} (j : Nat) {k : Nat} (h : k < n) : (seenL M n j)[k]? = some (if freeB M j k = true then 0 else 1) := lst_at _ h
theorem free_succ (M : Nat → Int) (j k : Nat) : freeB M (j + 1) k = (freeB M j k && (M j != (k : Int))) := by
  unfold freeB
  rw [List.range_succ, List.all_append]
  simp
theorem seenL_set {M : Nat → Int} {n j k : Nat} (h : M j = (k : Int)) : (seenL M n j).set k 1 = seenL M n (j + 1) := by
  unfold seenL
  rw [lst_set]
  refine lst_congr fun i _ => ?_
  unfold upd
  rw [free_succ, h]
  by_cases e : i = k
  · subst e; simp
  · have : ((k : Int) != (i : Int)) = true := by rw [bne_iff_ne]; omega
    simp [e, this]
theorem seenL_no {M : Nat → Int} {n j : Nat} (h : M j < 0) : seenL M n j = seenL M n (j + 1) := by
  unfold seenL
  refine lst_congr fun i _ => ?_
  have : (M j != (i : Int)) = true := by rw [bne_iff_ne]; omega
  rw [free_succ, this, Bool.and_true]
theorem seenL_zero (M : Nat → Int) (n : Nat) : seenL M n 0 = lst n fun _ => 0 := by
  unfold seenL
  refine lst_congr fun i _ => ?_
  simp [freeB]
theorem made_seen (M : Nat → Int) (n : Nat) : madeCells #[.int .i64 0] n = ((seenL M n 0).map encI).toArray := by
  rw [seenL_zero, lst_const]; exact made_zeros n
theorem sq_asks {rows : List Nat} {n i k : Nat} (hi : i < n) : asks (sq rows n) i k = has (rows.getD i 0) k := by
  unfold asks sq
  rw [List.getD_eq_getElem?_getD, lst_at _ hi]; rfl

set_option maxRecDepth 100000 in
set_option maxHeartbeats 4000000 in
theorem islipMatches_walk {W : World} (a0 : Int) (v1 : Value) (a2 : Int) (w0 : (Lit.int .u8 a0).wf = true) (w1 : Arg Tryd.prog W 35 v1) (w2 : (Lit.int .u8 a2).wf = true) (hT : Tab W) :
    Calls Tryd.prog 7 #[.int .u8 a0, v1, .int .u8 a2] W fun e w' => e = .returned (.bool true) ∧ Below W.heap.size W w' := by
  obtain ⟨k0, rfl, hk0⟩ := u8_nat w0
  obtain ⟨k2, rfl, hk2⟩ := u8_nat w2
  obtain ⟨ls, hR, hg⟩ := lists_of_arg w1
  clear w0 w1 w2
  have ht : TK W W := TK.refl hT
  obtain ⟨vA, vc, rfl⟩ : ∃ A c, v1 = .slice A ls.length c := by obtain ⟨_, A, c, e, _⟩ := hR; exact ⟨A, c, e⟩
  go_enter Tryd.func7, Tryd.ntmps7
  have hn : (1 : Int) + (k0 : Int) % 16 = ((1 + k0 % 16 : Nat) : Int) := by omega
  have h1 : 1 ≤ 1 + k0 % 16 := by omega
  have h2 : 1 + k0 % 16 ≤ 16 := by omega
  generalize 1 + k0 % 16 = n at hn h1 h2
  go_wp2_with fail
  refine (new_ak n h1 h2 W).mono ?_
  rintro e A ⟨b, g, a, rfl, hA, hk, hb, hg', ha⟩
  have htA := ht.next hk
  clear hn hk
  by_cases hl : 30 < ls.length
  · have hl' : (30 : Int) < (ls.length : Int) := by omega
    go_wp2_with fail
    refine (known_tk htA).mono ?_
    rintro e B ⟨rfl, hB⟩
    go_wp2_with fail
    go_ret
    exact ⟨rfl, hB.below⟩
  · have hl' : ¬ (30 : Int) < (ls.length : Int) := by omega
    obtain ⟨r, hr, hr1, hr2⟩ : ∃ r : Nat, (1 : Int) + (k2 : Int) % 16 = (r : Int) ∧ 1 ≤ r ∧ r ≤ 16 := ⟨1 + k2 % 16, by omega, by omega, by omega⟩
    have hms2 := fun w => run_make_row' (P := Tryd.prog) 25 3 (.int .i64 0) 8 Tryd.underlying25 info_int rfl .i64 .i64 n (by omega) (by omega) w
    clear ht
    go_wp2_with fail
    go_loopw [9] (fun x wr => ∃ (i : Nat) (G A' : Nat → Nat), i ≤ ls.length ∧ x = .int .i64 (i : Int) ∧ TK W wr ∧ AK wr b n G A' g a) (fun x _ => ls.length - (intOf x).toNat)
    case atStart => exact ⟨0, _, _, Nat.zero_le _, rfl, htA, hA⟩
    case round =>
      clear htA hA
      obtain ⟨i, G, Af, hi, rfl, ht, hA⟩ := hrel
      by_cases hil : i < ls.length
      · have hil' : (i : Int) < (ls.length : Int) := by omega
        have hi0 : (0 : Int) ≤ (i : Int) := by omega
        obtain ⟨q1, q2⟩ := hg _ (List.getElem_mem hil)
        obtain ⟨vg, vo, vc', e, _, _, hcell⟩ := hR.at_ (by simp; omega)
        injection e with e1 _ e2
        subst e1 e2
        have c1 := ht.keeps.cell (hcell i _ (by rw [List.getElem?_map, List.getElem?_eq_getElem hil]; rfl)) (fun h => h)
        clear hcell
        generalize hx : ls[i] = x at q1 q2 c1
        clear hx
        obtain ⟨xv, rows⟩ := x
        have c2 : wr.cell? ⟨vg, vo + i, none⟩ = some xv := c1
        clear c1
        go_wp2_with fail
        refine (square_tk xv rows n h1 h2 ht q2).mono ?_
        rintro e D ⟨l, rfl, hl, hD, hk, hlm⟩
        have hgl0 := hA.lt
        replace hA := hA.keeps hk (fun _ _ h => h)
        have q3 := hl.reads
        clear hk ht c2
        go_wp2_with fail
        refine (run_ak G Af n b g a r _ (sq rows n) h1 h2 hr1 hr2 D hD.tab hA q3 (sq_lt q1 n) (sq_length _ _)).mono ?_
        rintro e E ⟨u, rfl, hu, hA2, hk, huo⟩
        have hE := hD.then hk (fun i hi h => by omega)
        have hlne : ∀ k, (Value.slice (some ⟨l, 0, none⟩) n n).ownBlock = some k → ¬ (k = g ∨ k = a) := fun k h => by have h3 : some l = some k := h; injection h3; omega
        replace hl := hl.keeps hk hlne
        have hlD := hl.lt l rfl
        have hfit := fit_rounds (R := asks (sq rows n)) (fit_start hA.g hA.a) r
        have hask := asked_rounds (R := asks (sq rows n)) (fit_start hA.g hA.a) (asked_start _ n G Af) r
        clear hk hD hlne hA q3
        generalize roundsP (asks (sq rows n)) n (start G Af) r = S at *
        obtain ⟨ug, uo, uc, rfl, _, hcu, _⟩ := hu.cell h1
        have huD := hu.lt ug rfl
        obtain ⟨_, _, _, e, _, hcl, _⟩ := hl.cell h1
        injection e with e _ e2
        injection e with e
        injection e with e e3
        subst e e2 e3
        clear hu hl huo
        go_wp2_with fail
        have hF : TK W (E.alloc (.cells (madeCells #[.int .i64 0] n) 3)) := hE.next (Keeps.alloc _ _ _)
        have hAF : AK (E.alloc (.cells (madeCells #[.int .i64 0] n) 3)) b n S.G S.A g a := hA2.keeps (Keeps.alloc (fun _ => False) _ _) (fun _ _ h => h)
        have hcu' := fun j u h => (Keeps.alloc (fun _ => False) E (.cells (madeCells #[.int .i64 0] n) 3)).cell (hcu j u h) (fun h => h)
        have hcl' := fun j u h => (Keeps.alloc (fun _ => False) E (.cells (madeCells #[.int .i64 0] n) 3)).cell (hcl j u h) (fun h => h)
        have hM : (E.alloc (.cells (madeCells #[.int .i64 0] n) 3)).heap[E.heap.size]? = some (.cells ((seenL S.m n 0).map encI).toArray 3 (0, 0)) := by rw [← made_seen]; exact blk_new _ _
        have hle := hE.le
        have hgE := hA2.lt
        have hU := Lib.hid hcu'
        have hL := Lib.hid hcl'
        clear hcu hcl hcu' hcl' hE hA2
        generalize E.heap.size = sm at hM hle hgE hlD huD ⊢
        generalize E.alloc (.cells (madeCells #[.int .i64 0] n) 3) = F at *
        go_loopw [13] (fun x wq => ∃ j : Nat, j ≤ n ∧ x = .int .i64 (j : Int) ∧ Keeps (fun k => k = sm) F wq ∧ wq.heap[sm]? = some (.cells ((seenL S.m n j).map encI).toArray 3 (0, 0))) (fun x _ => n - (intOf x).toNat)
        case atStart => exact ⟨0, Nat.zero_le _, rfl, Keeps.refl _ _, hM⟩
        case round =>
          obtain ⟨j, hj, rfl, hk, hm⟩ := hrel
          clear hM
          by_cases hjn : j < n
          · have hjj : (j : Int) < (n : Int) := by omega
            have hj0 : (0 : Int) ≤ (j : Int) := by omega
            have y1 := hk.cell (hU.out j _ (by rw [List.getElem?_map, lst_at _ hjn]; rfl)) (show ¬ ug = sm by omega)
            have y2 := hk.cell (hL.out j _ (by rw [List.getElem?_map, sq, lst_at _ hjn]; rfl)) (show ¬ l = sm by omega)
            rw [Nat.zero_add] at y2
            have y3 : wr.cell? ⟨l, j, none⟩ = some (.int .u16 (rows.getD j 0 : Nat)) := y2
            clear y2
            have hlo := hfit.lo j
            have hhi := hfit.hi j
            by_cases hneg : S.m j < 0
            · have hn1 : ¬ S.m j < -1 := by omega
              have hn2 : ¬ (n : Int) ≤ S.m j := by omega
              rw [seenL_no hneg] at hm
              clear y3
              go_wp2_with fail
              go_roundw
              case rel => exact ⟨j + 1, by omega, rfl, hk, hm⟩
              case measure => simp [intOf]; omega
            · obtain ⟨k, hkk⟩ : ∃ k : Nat, S.m j = (k : Int) := ⟨(S.m j).toNat, by omega⟩
              have hask' := hask j hjn (by omega)
              rw [hkk, Int.toNat_natCast, sq_asks hjn] at hask'
              have hfree : freeB S.m j k = true := by
                rw [free_iff]
                intro i hi e
                have := hfit.one j i hjn (by omega) (by omega) (by rw [hkk, e])
                omega
              have hxl : rows.getD j 0 < 65536 := by
                rw [List.getD_eq_getElem?_getD]
                cases hi : rows[j]? with
                | none => simp
                | some y => simpa using q1 y (List.mem_of_getElem? hi)
              rw [hkk] at y1 hlo hhi hneg
              have hkn : k < n := by omega
              have hn1 : ¬ (k : Int) < -1 := by omega
              have hn2 : ¬ (n : Int) ≤ (k : Int) := by omega
              have y4 : wr.cell? ⟨sm, k, none⟩ = some (.int .i64 0) := by rw [blk_cell hm]; simp [seenL_at _ _ hkn, hfree]
              have f4 : wr.frozen? ⟨sm, k, none⟩ = false := blk_frozen hm k
              have hnew := blk_set hm k (encI 1)
              rw [List.setIfInBounds_toArray, ← List.map_set (f := encI) (a := 1), seenL_set hkk] at hnew
              have c1 := fun w => rhas_calls (rows.getD j 0) (k : Int) hxl w
              rw [hasI_nat, hask'] at c1
              have H1 := Lib.hid c1
              clear c1 hask' hxl hfree hkk hlo hhi hask
              generalize rows.getD j 0 = x at y3 H1
              go_wp2_with fail
              go_quiet ((go_at_call 21; exact Calls.quiet_of_same (H1.out _)))
              have hkq : Keeps (fun _ => False) wr (wr.drewN nq) := Keeps.drewN _ _ _
              have y1' : (wr.drewN nq).cell? ⟨ug, uo + j, none⟩ = some (.int .i64 (k : Int)) := y1
              have y4' : (wr.drewN nq).cell? ⟨sm, k, none⟩ = some (.int .i64 0) := y4
              have f4' : (wr.drewN nq).frozen? ⟨sm, k, none⟩ = false := f4
              have hnew' : ((wr.drewN nq).setCell ⟨sm, k, none⟩ (.int .i64 1)).heap[sm]? = some (.cells ((seenL S.m n (j + 1)).map encI).toArray 3 (0, 0)) := hnew
              replace hk := (hk.trans (hkq.mono (fun _ _ h => h.elim))).trans (Keeps.setCell (fun i => i = sm) (wr.drewN nq) ⟨sm, k, none⟩ (.int .i64 1) rfl)
              clear y1 y3 y4 f4 hnew hm hkq H1
              generalize wr.drewN nq = V at *
              go_wp2_with fail
              go_roundw
              case rel => exact ⟨j + 1, by omega, rfl, hk, hnew'⟩
              case measure => simp [intOf]; omega
          · obtain rfl : n = j := by omega
            have hjj : ¬ (n : Int) < (n : Int) := by omega
            have ht2 := hF.then hk (fun i hi h => by have h' : i = sm := h; omega)
            have hA2 := hAF.keeps hk (fun k h h' => by have h2 : k = sm := h'; omega)
            clear hF hAF hk hm hU hL
            go_wp2_with fail
            go_roundw
            case rel => exact ⟨i + 1, _, _, by omega, by simp, ht2, hA2⟩
            case measure => simp [intOf]; omega
      · obtain rfl : i = ls.length := by omega
        have hil' : ¬ (ls.length : Int) < (ls.length : Int) := by omega
        clear hms2
        go_wp2_with fail
        refine (known_tk ht).mono ?_
        rintro e B ⟨rfl, hB⟩
        go_wp2_with fail
        go_ret
        exact ⟨rfl, hB.below⟩
end Go.Proofs.YtlfohlgooomdfaaDoor
