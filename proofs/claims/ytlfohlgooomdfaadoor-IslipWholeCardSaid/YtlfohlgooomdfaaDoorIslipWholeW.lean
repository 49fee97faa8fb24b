/-
  The law IslipWhole, walked.
-/
import Derived.Test.YtlfohlgooomdfaaDoorIslipMatchesW
set_option linter.unusedVariables false
set_option linter.unusedSimpArgs false
namespace Go.Proofs.YtlfohlgooomdfaaDoor
open Go.RowKit Go.Sort

set_option maxRecDepth 100000 in
set_option maxHeartbeats 4000000 in
theorem islipWhole_walk {W : World} (a0 : Int) (v1 : Value) (w0 : (Lit.int .u8 a0).wf = true) (w1 : Arg Tryd.prog W 35 v1) (hT : Tab W) :
    Calls Tryd.prog 8 #[.int .u8 a0, v1] W fun e w' => e = .returned (.bool true) ∧ Below W.heap.size W w' := by
  obtain ⟨k0, rfl, hk0⟩ := u8_nat w0
  obtain ⟨ls, hR, hg⟩ := lists_of_arg w1
  clear w0 w1
  have ht : TK W W := TK.refl hT
  obtain ⟨vA, vc, rfl⟩ : ∃ A c, v1 = .slice A ls.length c := by obtain ⟨_, A, c, e, _⟩ := hR; exact ⟨A, c, e⟩
  go_enter Tryd.func8, Tryd.ntmps8
  have hn : (1 : Int) + (k0 : Int) % 16 = ((1 + k0 % 16 : Nat) : Int) := by omega
  have h1 : 1 ≤ 1 + k0 % 16 := by omega
  have h2 : 1 + k0 % 16 ≤ 16 := by omega
  generalize 1 + k0 % 16 = n at hn h1 h2
  go_wp2_with fail
  refine (new_ak n h1 h2 W).mono ?_
  rintro e A ⟨b, g, a, rfl, hA, hk, hb, hg', ha⟩
  have htA := ht.next hk
  clear hn hk
  by_cases hl : 30 < ls.length
  · have hl' : (30 : Int) < (ls.length : Int) := by omega
    go_wp2_with fail
    refine (known_tk htA).mono ?_
    rintro e B ⟨rfl, hB⟩
    go_wp2_with fail
    go_ret
    exact ⟨rfl, hB.below⟩
  · have hl' : ¬ (30 : Int) < (ls.length : Int) := by omega
    have hms2 := fun w => run_make_row' (P := Tryd.prog) 25 3 (.int .i64 0) 8 Tryd.underlying25 info_int rfl .i64 .i64 n (by omega) (by omega) w
    clear ht
    go_wp2_with fail
    go_loopw [7] (fun x wr => ∃ (i : Nat) (G A' : Nat → Nat), i ≤ ls.length ∧ x = .int .i64 (i : Int) ∧ TK W wr ∧ AK wr b n G A' g a) (fun x _ => ls.length - (intOf x).toNat)
    case atStart => exact ⟨0, _, _, Nat.zero_le _, rfl, htA, hA⟩
    case round =>
      clear htA hA
      obtain ⟨i, G, Af, hi, rfl, ht, hA⟩ := hrel
      by_cases hil : i < ls.length
      · have hil' : (i : Int) < (ls.length : Int) := by omega
        have hi0 : (0 : Int) ≤ (i : Int) := by omega
        obtain ⟨q1, q2⟩ := hg _ (List.getElem_mem hil)
        obtain ⟨vg, vo, vc', e, _, _, hcell⟩ := hR.at_ (by simp; omega)
        injection e with e1 _ e2
        subst e1 e2
        have c1 := ht.keeps.cell (hcell i _ (by rw [List.getElem?_map, List.getElem?_eq_getElem hil]; rfl)) (fun h => h)
        clear hcell
        generalize hx : ls[i] = x at q1 q2 c1
        clear hx
        obtain ⟨xv, rows⟩ := x
        have c2 : wr.cell? ⟨vg, vo + i, none⟩ = some xv := c1
        clear c1
        go_wp2_with fail
        refine (square_tk xv rows n h1 h2 ht q2).mono ?_
        rintro e D ⟨l, rfl, hl, hD, hk, hlm⟩
        have hgl0 := hA.lt
        replace hA := hA.keeps hk (fun _ _ h => h)
        have q3 := hl.reads
        clear hk ht c2
        go_wp2_with fail
        refine (run_ak G Af n b g a n _ (sq rows n) h1 h2 h1 h2 D hD.tab hA q3 (sq_lt q1 n) (sq_length _ _)).mono ?_
        rintro e E ⟨u, rfl, hu, hA2, hk, huo⟩
        have hE := hD.then hk (fun i hi h => by omega)
        have hlne : ∀ k, (Value.slice (some ⟨l, 0, none⟩) n n).ownBlock = some k → ¬ (k = g ∨ k = a) := fun k h => by have h3 : some l = some k := h; injection h3; omega
        replace hl := hl.keeps hk hlne
        have hlD := hl.lt l rfl
        have hfit := fit_rounds (R := asks (sq rows n)) (fit_start hA.g hA.a) n
        have hwhole := fun (i k : Nat) (hi : i < n) (hk : k < n) => rounds_whole (R := asks (sq rows n)) (fit_start hA.g hA.a) hi hk
        clear hk hD hlne hA q3
        generalize roundsP (asks (sq rows n)) n (start G Af) n = S at *
        obtain ⟨ug, uo, uc, rfl, _, hcu, _⟩ := hu.cell h1
        have huD := hu.lt ug rfl
        obtain ⟨_, _, _, e, _, hcl, _⟩ := hl.cell h1
        injection e with e _ e2
        injection e with e
        injection e with e e3
        subst e e2 e3
        clear hu hl huo
        go_wp2_with fail
        have hF : TK W (E.alloc (.cells (madeCells #[.int .i64 0] n) 3)) := hE.next (Keeps.alloc _ _ _)
        have hAF : AK (E.alloc (.cells (madeCells #[.int .i64 0] n) 3)) b n S.G S.A g a := hA2.keeps (Keeps.alloc (fun _ => False) _ _) (fun _ _ h => h)
        have hcu' := fun j u h => (Keeps.alloc (fun _ => False) E (.cells (madeCells #[.int .i64 0] n) 3)).cell (hcu j u h) (fun h => h)
        have hcl' := fun j u h => (Keeps.alloc (fun _ => False) E (.cells (madeCells #[.int .i64 0] n) 3)).cell (hcl j u h) (fun h => h)
        have hM : (E.alloc (.cells (madeCells #[.int .i64 0] n) 3)).heap[E.heap.size]? = some (.cells ((seenL S.m n 0).map encI).toArray 3 (0, 0)) := by rw [← made_seen]; exact blk_new _ _
        have hle := hE.le
        have hgE := hA2.lt
        have hU := Lib.hid hcu'
        have hL := Lib.hid hcl'
        clear hcu hcl hcu' hcl' hE hA2
        generalize E.heap.size = sm at hM hle hgE hlD huD ⊢
        generalize E.alloc (.cells (madeCells #[.int .i64 0] n) 3) = F at *
        go_loopw [11] (fun x wq => ∃ j : Nat, j ≤ n ∧ x = .int .i64 (j : Int) ∧ Keeps (fun k => k = sm) F wq ∧ wq.heap[sm]? = some (.cells ((seenL S.m n j).map encI).toArray 3 (0, 0))) (fun x _ => n - (intOf x).toNat)
        case atStart => exact ⟨0, Nat.zero_le _, rfl, Keeps.refl _ _, hM⟩
        case round =>
          obtain ⟨j, hj, rfl, hk, hm⟩ := hrel
          clear hM
          by_cases hjn : j < n
          · have hjj : (j : Int) < (n : Int) := by omega
            have hj0 : (0 : Int) ≤ (j : Int) := by omega
            have y1 := hk.cell (hU.out j _ (by rw [List.getElem?_map, lst_at _ hjn]; rfl)) (show ¬ ug = sm by omega)
            have hlo := hfit.lo j
            have hhi := hfit.hi j
            by_cases hneg : S.m j < 0
            · have hn1 : ¬ 0 ≤ S.m j := by omega
              rw [seenL_no hneg] at hm
              go_wp2_with fail
              go_roundw
              case rel => exact ⟨j + 1, by omega, rfl, hk, hm⟩
              case measure => simp [intOf]; omega
            · obtain ⟨k, hkk⟩ : ∃ k : Nat, S.m j = (k : Int) := ⟨(S.m j).toNat, by omega⟩
              rw [hkk] at y1 hlo hhi hneg
              have hkn : k < n := by omega
              have hn1 : (0 : Int) ≤ (k : Int) := by omega
              obtain ⟨old, y4⟩ : ∃ z : Int, wr.cell? ⟨sm, k, none⟩ = some (.int .i64 z) := ⟨_, by rw [blk_cell hm]; simp [seenL_at _ _ hkn]; rfl⟩
              have f4 : wr.frozen? ⟨sm, k, none⟩ = false := blk_frozen hm k
              have hnew := blk_set hm k (encI 1)
              rw [List.setIfInBounds_toArray, ← List.map_set (f := encI) (a := 1), seenL_set hkk] at hnew
              replace hk := hk.trans (Keeps.setCell (fun i => i = sm) wr ⟨sm, k, none⟩ (.int .i64 1) rfl)
              have hnew' : (wr.setCell ⟨sm, k, none⟩ (.int .i64 1)).heap[sm]? = some (.cells ((seenL S.m n (j + 1)).map encI).toArray 3 (0, 0)) := hnew
              clear hkk hlo hm hnew
              go_wp2_with fail
              go_roundw
              case rel => exact ⟨j + 1, by omega, rfl, hk, hnew'⟩
              case measure => simp [intOf]; omega
          · obtain rfl : n = j := by omega
            have hjj : ¬ (n : Int) < (n : Int) := by omega
            have ht2 := hF.then hk (fun i hi h => by have h' : i = sm := h; omega)
            have hA2 := hAF.keeps hk (fun k h h' => by have h2 : k = sm := h'; omega)
            have hU2 := Lib.hid (fun j u h => hk.cell (hU.out j u h) (show ¬ ug = sm by omega))
            have hL2 := Lib.hid (fun j u h => hk.cell (hL.out j u h) (show ¬ l = sm by omega))
            have hS2 := Lib.hid (p := ∀ k, k < n → wr.cell? ⟨sm, k, none⟩ = some (.int .i64 (if freeB S.m n k = true then 0 else 1 : Nat))) fun k hk => by rw [blk_cell hm]; simp [seenL_at _ _ hk]
            have HW := Lib.hid hwhole
            clear hF hAF hk hm hU hL hwhole hfit
            rename World => V
            go_wp2_with fail
            go_loop [12] (fun x => ∃ p : Nat, p ≤ n ∧ x = .int .i64 (p : Int)) (fun x => n - (intOf x).toNat)
            case atStart => exact ⟨0, Nat.zero_le _, rfl⟩
            case round =>
              obtain ⟨p, hp, rfl⟩ := hrel
              by_cases hpn : p < n
              · have hpp : (p : Int) < (n : Int) := by omega
                have hp0 : (0 : Int) ≤ (p : Int) := by omega
                have y1 := hU2.out p _ (by rw [List.getElem?_map, lst_at _ hpn]; rfl)
                have y2 := hL2.out p _ (by rw [List.getElem?_map, sq, lst_at _ hpn]; rfl)
                rw [Nat.zero_add] at y2
                have y3 : V.cell? ⟨l, p, none⟩ = some (.int .u16 (rows.getD p 0 : Nat)) := y2
                clear y2
                have hxl : rows.getD p 0 < 65536 := by
                  rw [List.getD_eq_getElem?_getD]
                  cases hi : rows[p]? with
                  | none => simp
                  | some y => simpa using q1 y (List.mem_of_getElem? hi)
                have hno := fun q hq => HW.out p q hpn hq
                simp only [sq_asks hpn] at hno
                have HN := Lib.hid hno
                clear hno
                generalize hx : rows.getD p 0 = x at y3 hxl HN
                clear hx
                generalize S.m p = z at y1 HN
                have H1 := Lib.hid (fun (q : Nat) => rhas_calls x (q : Int) hxl V)
                clear hxl
                go_wp2_with fail
                go_loop [13] (fun x => ∃ q : Nat, q ≤ n ∧ x = .int .i64 (q : Int)) (fun x => n - (intOf x).toNat)
                case atStart => exact ⟨0, Nat.zero_le _, rfl⟩
                case round =>
                  obtain ⟨q, hq, rfl⟩ := hrel
                  by_cases hqn : q < n
                  · have hqq : (q : Int) < (n : Int) := by omega
                    have hq0 : (0 : Int) ≤ (q : Int) := by omega
                    have y4 := hS2.out q hqn
                    have h3 := HN.out q hqn
                    have h4 := H1.out q
                    rw [hasI_nat] at h4
                    by_cases hz : z < 0
                    · cases hf : freeB S.m n q with
                      | true =>
                        rw [h3 hz hf] at h4
                        rw [if_pos hf] at y4
                        have y4' : V.cell? ⟨sm, q, none⟩ = some (.int .i64 0) := y4
                        clear y4 h3
                        go_wp2_with fail
                        refine h4.mono ?_
                        rintro e V' ⟨rfl, hV'⟩
                        subst V'
                        clear h4
                        go_wp2_with fail
                        go_round
                        case rel => exact ⟨q + 1, by omega, rfl⟩
                        case measure => simp [intOf]; omega
                      | false =>
                        rw [if_neg (by rw [hf]; decide)] at y4
                        have y4' : V.cell? ⟨sm, q, none⟩ = some (.int .i64 1) := y4
                        clear y4 h3 h4
                        go_wp2_with fail
                        go_round
                        case rel => exact ⟨q + 1, by omega, rfl⟩
                        case measure => simp [intOf]; omega
                    · clear y4 h3 h4
                      go_wp2_with fail
                      go_round
                      case rel => exact ⟨q + 1, by omega, rfl⟩
                      case measure => simp [intOf]; omega
                  · obtain rfl : n = q := by omega
                    have hqq : ¬ (n : Int) < (n : Int) := by omega
                    go_wp2_with fail
                    go_round
                    case rel => exact ⟨p + 1, by omega, rfl⟩
                    case measure => simp [intOf]; omega
              · obtain rfl : n = p := by omega
                have hpp : ¬ (n : Int) < (n : Int) := by omega
                clear hU2 hL2 hS2 HW
                go_wp2_with fail
                go_roundw
                case rel => exact ⟨i + 1, _, _, by omega, by simp, ht2, hA2⟩
                case measure => simp [intOf]; omega
      · obtain rfl : i = ls.length := by omega
        have hil' : ¬ (ls.length : Int) < (ls.length : Int) := by omega
        clear hms2
        go_wp2_with fail
        refine (known_tk ht).mono ?_
        rintro e B ⟨rfl, hB⟩
        go_wp2_with fail
        go_ret
        exact ⟨rfl, hB.below⟩
end Go.Proofs.YtlfohlgooomdfaaDoor
