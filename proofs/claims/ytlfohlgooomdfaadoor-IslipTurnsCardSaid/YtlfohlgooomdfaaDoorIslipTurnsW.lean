/-
  The law IslipTurns, walked.
-/
import Derived.Test.YtlfohlgooomdfaaDoorIslipRoundsW
import Derived.Test.YtlfohlgooomdfaaDoorIslipTurnsPure
import Derived.Deep.RegionWith
set_option linter.unusedVariables false
set_option linter.unusedSimpArgs false
namespace Go.Proofs.YtlfohlgooomdfaaDoor
open Go.RowKit Go.Sort

theorem made_u16f (n : Nat) : madeCells #[.int .u16 0] n = ((lst n fun _ => 0).map encU).toArray := by
  apply Array.ext
  · simp [madeCells, lst]
  · intro i h1 h2
    simp [madeCells, Nat.mod_one, lst]
theorem AK.fn {w : World} {b n g a : Nat} {G A : Nat → Nat} (h : AK w b n G A g a) : AK w b n (fn (lst n G)) (fn (lst n A)) g a :=
  ⟨by rw [lst_fn, lst_fn]; exact h.arb, fun k hk => by rw [fn_lst _ hk]; exact h.g k hk, fun k hk => by rw [fn_lst _ hk]; exact h.a k hk⟩

set_option maxRecDepth 100000 in
set_option maxHeartbeats 8000000 in
theorem islipTurns_walk {W : World} (a0 : Int) (w0 : (Lit.int .u8 a0).wf = true) (hT : Tab W) :
    Calls Tryd.prog 9 #[.int .u8 a0] W fun e w' => e = .returned (.bool true) ∧ Below W.heap.size W w' := by
  obtain ⟨k0, rfl, hk0⟩ := u8_nat w0
  clear w0
  have ht : TK W W := TK.refl hT
  go_enter Tryd.func9, Tryd.ntmps9
  have hn : (1 : Int) + (k0 : Int) % 6 = ((1 + k0 % 6 : Nat) : Int) := by omega
  have h1 : 1 ≤ 1 + k0 % 6 := by omega
  have h2 : 1 + k0 % 6 ≤ 6 := by omega
  generalize 1 + k0 % 6 = n at hn h1 h2
  go_wp2_with fail
  refine (new_ak n h1 (by omega) W).mono ?_
  rintro e A ⟨b, g, a, rfl, hA, hk, hb, hg, ha⟩
  clear hn hk0
  replace ht := ht.next hk
  have hle := hk.size
  have hlt := hA.lt
  clear hk
  have hms := fun w => run_make_row' (P := Tryd.prog) 28 29 (.int .u16 0) 2 Tryd.underlying28 info_u16 rfl .i64 .i64 n (by omega) (by omega) w
  go_wp2_with fail
  clear hms
  have hk2 : Keeps (fun _ => False) A (A.alloc (.cells (madeCells #[.int .u16 0] n) 29)) := Keeps.alloc _ _ _
  have hM : (A.alloc (.cells (madeCells #[.int .u16 0] n) 29)).heap[A.heap.size]? = some (.cells ((fullTo n 0 0).map encU).toArray 29 (0, 0)) := by
    rw [fullTo_zero, ← made_u16f]; exact blk_new _ _
  generalize A.heap.size = l at hM hle hlt ⊢
  generalize A.alloc (.cells (madeCells #[.int .u16 0] n) 29) = B at hk2 hM ⊢
  replace ht := ht.next hk2
  replace hA := hA.keeps hk2 (fun _ _ h => h)
  clear hk2
  have hlB := blk_lt hM
  go_loopw [6] (fun x wr => ∃ i : Nat, i ≤ n ∧ x = .int .i64 (i : Int) ∧ Keeps (fun k => k = l) B wr ∧ wr.heap[l]? = some (.cells ((fullTo n i 0).map encU).toArray 29 (0, 0))) (fun x _ => n - (intOf x).toNat)
  case atStart => exact ⟨0, Nat.zero_le _, rfl, Keeps.refl _ _, hM⟩
  case round =>
    obtain ⟨i, hi, rfl, hk, hm⟩ := hrel
    clear hM
    by_cases hin : i < n
    · have hii : (i : Int) < (n : Int) := by omega
      have hi0 : (0 : Int) ≤ (i : Int) := by omega
      go_wp2_with fail
      go_loopw [7] (fun x wr => ∃ j : Nat, j ≤ n ∧ x = .int .i64 (j : Int) ∧ Keeps (fun k => k = l) B wr ∧ wr.heap[l]? = some (.cells ((fullTo n i j).map encU).toArray 29 (0, 0))) (fun x _ => n - (intOf x).toNat)
      case atStart => exact ⟨0, Nat.zero_le _, rfl, hk, hm⟩
      case round =>
        clear hk hm
        obtain ⟨j, hj, rfl, hk, hm⟩ := hrel
        by_cases hjn : j < n
        · have hjj : (j : Int) < (n : Int) := by omega
          have hcm : wr.cell? ⟨l, i, none⟩ = some (.int .u16 (2 ^ j - 1 : Nat)) := by rw [blk_cell hm]; simp only [List.getElem?_toArray, List.getElem?_map, fullTo_at _ _ _ hin]; rfl
          have hfm : wr.frozen? ⟨l, i, none⟩ = false := blk_frozen hm i
          have hnew := blk_set hm i (encU (2 ^ j - 1 + 2 ^ j))
          rw [List.setIfInBounds_toArray, ← List.map_set (f := encU) (a := 2 ^ j - 1 + 2 ^ j), fullTo_set] at hnew
          have hadd := add_bit (2 ^ j - 1) j (by have := Nat.two_pow_pos j; omega) (by omega)
          have c2 := fun w => rbit_calls j (by omega) w
          generalize 2 ^ j - 1 + 2 ^ j = s at hnew hadd
          generalize 2 ^ j - 1 = q at hcm hadd
          generalize 2 ^ j = p at hadd c2
          have hnew2 : (wr.setCell ⟨l, i, none⟩ (.int .u16 (s : Int))).drew.heap[l]? = some (.cells ((fullTo n i (j + 1)).map encU).toArray 29 (0, 0)) := hnew
          have hk2 := (hk.trans (Keeps.setCell (fun k => k = l) wr ⟨l, i, none⟩ (.int .u16 (s : Int)) rfl)).trans (Keeps.drew _ _)
          clear hm hk hnew
          go_wp2_with fail
          go_region_with (go_at_call 15; refine (c2 _).mono ?_; rintro e w'' ⟨rfl, rfl⟩)
          all_goals
            go_wp2_with fail
            go_roundw
            case rel => exact ⟨j + 1, by omega, rfl, hk2, hnew2⟩
            case measure => simp [intOf]; omega
        · obtain rfl : n = j := by omega
          have hjj : ¬ (n : Int) < (n : Int) := by omega
          rw [fullTo_next] at hm
          go_wp2_with fail
          go_roundw
          case rel => exact ⟨i + 1, by omega, by simp, hk, hm⟩
          case measure => simp [intOf]; omega
    · obtain rfl : n = i := by omega
      have hii : ¬ (n : Int) < (n : Int) := by omega
      rw [fullTo_end] at hm
      replace ht := ht.then hk (fun i hi h => by have h' : i = l := h; omega)
      replace hA := hA.keeps hk (fun k h h' => by have h2 : k = l := h'; omega)
      have hlw := hk.size
      clear hk
      obtain ⟨q, hq⟩ : ∃ q : Nat, n * n = q := ⟨_, rfl⟩
      have hsq : (n : Int) * (n : Int) = (q : Int) := by rw [← hq, Int.natCast_mul]
      have hq36 : q ≤ 36 := by rw [← hq]; exact Nat.mul_le_mul h2 h2
      have hq1 : 1 ≤ q := by rw [← hq]; exact Nat.mul_le_mul h1 h1
      have hms2 := fun w => run_make_row' (P := Tryd.prog) 25 3 (.int .i64 0) 8 Tryd.underlying25 info_int rfl .i64 .i64 q (by omega) (by omega) w
      have hwq : IntKind.i64.wrap (q : Int) = (q : Int) := wrap_nat q (by omega)
      have hq2 : (2 : Int) * (n : Int) * (n : Int) = 2 * (q : Int) := by rw [Int.mul_assoc, hsq]
      have hw2 : IntKind.i64.wrap (2 * (q : Int)) = 2 * (q : Int) := wrap_nat (2 * q) (by omega)
      have HQ := Lib.hid hq
      clear hq
      go_wp2_with fail
      have hT1 : TK W (wr.alloc (.cells (madeCells #[.int .i64 0] q) 3)) := ht.next (Keeps.alloc _ _ _)
      have hA1 : AK (wr.alloc (.cells (madeCells #[.int .i64 0] q) 3)) b n (fn (ticks n 0).G) (fn (ticks n 0).A) g a := by
        have h3 := (hA.keeps (Keeps.alloc (fun _ => False) wr (.cells (madeCells #[.int .i64 0] q) 3)) (fun _ _ h => h)).fn
        rw [lst_const] at h3
        exact h3
      have hL1 : (wr.alloc (.cells (madeCells #[.int .i64 0] q) 3)).heap[l]? = some (.cells ((full n).map encU).toArray 29 (0, 0)) := blk_alloc hm _
      have hC1 : (wr.alloc (.cells (madeCells #[.int .i64 0] q) 3)).heap[wr.heap.size]? = some (.cells (((ticks n 0).C).map encI).toArray 3 (0, 0)) := by
        have e : madeCells #[.int .i64 0] q = (((ticks n 0).C).map encI).toArray := by rw [← HQ.out]; exact made_zeros (n * n)
        rw [← e]
        exact blk_new _ _
      have hls : l < wr.heap.size := by omega
      clear hms2 hm hA ht
      generalize wr.heap.size = sb at hC1 hls ⊢
      generalize wr.alloc (.cells (madeCells #[.int .i64 0] q) 3) = V at *
      have hfull : (full n).length = n := by simp [full]
      have hfl : ∀ y ∈ full n, y < 65536 := fun y hy => by
        obtain ⟨_, rfl⟩ := List.mem_replicate.1 hy
        exact Nat.lt_of_le_of_lt (Nat.sub_le _ _) (Nat.lt_of_le_of_lt (Nat.pow_le_pow_right (by decide) (show n ≤ 15 by omega)) (by decide))
      have hend := fine_all h1 h2
      unfold fine at hend
      rw [Nat.mul_assoc, HQ.out] at hend
      have HEnd := Lib.hid hend
      have HFl := Lib.hid hfl
      clear hend hfl
      go_loopw [9] (fun x wq => ∃ t : Nat, t ≤ 2 * q + 2 * n ∧ x = .int .i64 (t : Int) ∧ TK W wq ∧ AK wq b n (fn (ticks n t).G) (fn (ticks n t).A) g a ∧ wq.heap[l]? = some (.cells ((full n).map encU).toArray 29 (0, 0)) ∧
        wq.heap[sb]? = some (.cells (((ticks n t).C).map encI).toArray 3 (0, 0))) (fun x _ => 2 * q + 2 * n - (intOf x).toNat)
      case atStart => exact ⟨0, Nat.zero_le _, rfl, hT1, hA1, hL1, hC1⟩
      case round =>
        clear hT1 hA1 hL1 hC1
        obtain ⟨t, hT, rfl, ht, hA, hL, hC⟩ := hrel
        by_cases htT : t < 2 * q + 2 * n
        · have htT' : (t : Int) < 2 * (q : Int) + 2 * (n : Int) := by omega
          go_wp2_with fail
          refine (run_ak _ _ n b g a 1 _ (full n) h1 (by omega) (by decide) (by decide) wr ht.tab hA
            (QS.reads (e := 29) ⟨by simp [hfull], .inr ⟨l, 0, n, _, rfl, hL, Nat.le_refl _, by simp only [maxLen]; omega, by simp [hfull], fun j hj => by simp only [Nat.zero_add, List.getElem?_toArray]⟩⟩) HFl.out hfull).mono ?_
          rintro e X ⟨u, rfl, hu, hAX, hk, huo⟩
          have hX := ht.then hk (fun i hi h => by have h' : i = g ∨ i = a := h; omega)
          have hLX := blk_keeps hk hL (show ¬ (l = g ∨ l = a) by omega)
          have hCX := blk_keeps hk hC (show ¬ (sb = g ∨ sb = a) by omega)
          have hsw := blk_lt hC
          have hfit := fit_rounds (R := asks (full n)) (fit_start hA.g hA.a) 1
          have hAX2 := hAX.fn
          rw [show (roundsP (asks (full n)) n (start (fn (ticks n t).G) (fn (ticks n t).A)) 1) = tickS n (ticks n t).G (ticks n t).A from rfl] at hu hAX2 hfit
          rw [show lst n (tickS n (ticks n t).G (ticks n t).A).G = (ticks n (t + 1)).G from rfl, show lst n (tickS n (ticks n t).G (ticks n t).A).A = (ticks n (t + 1)).A from rfl] at hAX2
          have hnext : addC n (tickS n (ticks n t).G (ticks n t).A).m n (ticks n t).C = (ticks n (t + 1)).C := rfl
          have hlen := ticks_length n t
          have hbnd := ticks_le n t
          have htn : t * n ≤ 600 := Nat.le_trans (Nat.mul_le_mul (show t ≤ 84 by omega) h2) (by decide)
          obtain ⟨tn, htn'⟩ : ∃ x, t * n = x := ⟨_, rfl⟩
          rw [htn'] at htn hbnd
          have HB := Lib.hid hbnd
          have HN := Lib.hid hnext
          have HA2 := Lib.hid hAX2
          obtain ⟨ug, uo, uc, rfl, _, hcu, _⟩ := hu.cell h1
          have hug := huo ug rfl
          have hU := Lib.hid hcu
          clear hu huo hcu hk hL hC hA ht hAX hnext hAX2 hbnd htn'
          have HL := Lib.hid hLX
          clear hLX
          generalize hM : (tickS n (ticks n t).G (ticks n t).A).m = M at hU HN
          generalize hCt : (ticks n t).C = C at *
          clear hCt
          go_wp2_with fail
          go_loopw [11] (fun x wq => ∃ j : Nat, j ≤ n ∧ x = .int .i64 (j : Int) ∧ Keeps (fun k => k = sb) X wq ∧ wq.heap[sb]? = some (.cells ((addC n M j C).map encI).toArray 3 (0, 0))) (fun x _ => n - (intOf x).toNat)
          case atStart => exact ⟨0, Nat.zero_le _, rfl, Keeps.refl _ _, hCX⟩
          case round =>
            obtain ⟨j, hj, rfl, hk, hm⟩ := hrel
            clear hCX
            by_cases hjn : j < n
            · have hjj : (j : Int) < (n : Int) := by omega
              have hj0 : (0 : Int) ≤ (j : Int) := by omega
              have y1 := hk.cell (hU.out j _ (by rw [List.getElem?_map, lst_at _ hjn]; rfl)) (show ¬ ug = sb by omega)
              have hlo := hfit.lo j
              have hhi := hfit.hi j
              have hMe : (tickS n (ticks n t).G (ticks n t).A).m = M := hM
              rw [hMe] at hlo hhi
              by_cases hneg : M j < 0
              · have hn1 : ¬ 0 ≤ M j := by omega
                rw [addC_no hneg] at hm
                go_wp2_with fail
                go_roundw
                case rel => exact ⟨j + 1, by omega, by simp, hk, hm⟩
                case measure => simp [intOf]; omega
              · obtain ⟨k, hkk⟩ : ∃ k : Nat, M j = (k : Int) := ⟨(M j).toNat, by omega⟩
                rw [hkk] at y1 hlo hhi hneg
                have hkn : k < n := by omega
                have hn1 : (0 : Int) ≤ (k : Int) := by omega
                have hle2 : j * n + n ≤ q := by
                  rw [← HQ.out, ← Nat.succ_mul]
                  exact Nat.mul_le_mul_right _ hjn
                have hset := addC_yes (C := C) (n := n) hkk
                have hal := addC_length n M C j
                have hab := addC_le n M C tn HB.out j
                obtain ⟨p, hp⟩ : ∃ p, j * n = p := ⟨_, rfl⟩
                have hpm : (j : Int) * (n : Int) = (p : Int) := by rw [← hp, Int.natCast_mul]
                rw [hp] at hset hle2
                clear hp
                rw [HQ.out] at hlen
                have hidx : p + k < (addC n M j C).length := by omega
                obtain ⟨x, hx⟩ : ∃ x, (addC n M j C)[p + k]? = some x := ⟨_, List.getElem?_eq_getElem hidx⟩
                have hxb := hab x (List.mem_of_getElem? hx)
                rw [List.getD_eq_getElem?_getD, hx, Option.getD_some] at hset
                have y4 : wr.cell? ⟨sb, p + k, none⟩ = some (.int .i64 (x : Int)) := by rw [blk_cell hm]; simp [hx]
                have f4 : wr.frozen? ⟨sb, p + k, none⟩ = false := blk_frozen hm (p + k)
                have hnew := blk_set hm (p + k) (encI (x + 1))
                rw [List.setIfInBounds_toArray, ← List.map_set (f := encI) (a := x + 1), hset] at hnew
                have hwp : IntKind.i64.wrap (p : Int) = (p : Int) := wrap_nat p (by omega)
                have hwk : IntKind.i64.wrap ((p : Int) + (k : Int)) = (p : Int) + (k : Int) := wrap_nat (p + k) (by omega)
                have hwx : IntKind.i64.wrap ((x : Int) + 1) = (x : Int) + 1 := wrap_nat (x + 1) (by omega)
                have hpk : (p : Int) + (k : Int) < (q : Int) := by omega
                have hp0 : (0 : Int) ≤ (p : Int) + (k : Int) := by omega
                have htn2 : ((p : Int) + (k : Int)).toNat = p + k := by omega
                replace hk := hk.trans (Keeps.setCell (fun i => i = sb) wr ⟨sb, p + k, none⟩ (.int .i64 ((x : Int) + 1)) rfl)
                have hnew' : (wr.setCell ⟨sb, p + k, none⟩ (.int .i64 ((x : Int) + 1))).heap[sb]? = some (.cells ((addC n M (j + 1) C).map encI).toArray 3 (0, 0)) := hnew
                clear hkk hset hal hab hx hm hnew hidx hMe
                go_wp2_with fail
                go_roundw
                case rel => exact ⟨j + 1, by omega, by simp, hk, hnew'⟩
                case measure => simp [intOf]; omega
            · obtain rfl : n = j := by omega
              have hjj : ¬ (n : Int) < (n : Int) := by omega
              rw [HN.out] at hm
              have ht2 := hX.then hk (fun i hi h => by have h' : i = sb := h; omega)
              have hA3 := HA2.out.keeps hk (fun k h h' => by have h2 : k = sb := h'; omega)
              have hL2 := blk_keeps hk HL.out (show ¬ l = sb by omega)
              clear hk hX HA2 HL HN hU hfit
              go_wp2_with fail
              go_roundw
              case rel => exact ⟨t + 1, by omega, by simp, ht2, hA3, hL2, hm⟩
              case measure => simp [intOf]; omega
        · obtain rfl : t = 2 * q + 2 * n := by omega
          have htT' : ¬ ((2 * q + 2 * n : Nat) : Int) < 2 * (q : Int) + 2 * (n : Int) := by omega
          have hlen := ticks_length n (2 * q + 2 * n)
          have hall := HEnd.out
          rw [HQ.out] at hlen
          clear HEnd hA hL
          generalize (ticks n (2 * q + 2 * n)).C = C at hC hlen hall
          have HA := Lib.hid hall
          clear hall
          go_wp2_with fail
          go_loop [12] (fun x => ∃ p : Nat, p ≤ q ∧ x = .int .i64 (p : Int)) (fun x => q - (intOf x).toNat)
          case atStart => exact ⟨0, Nat.zero_le _, rfl⟩
          case round =>
            obtain ⟨p, hp, rfl⟩ := hrel
            by_cases hpq : p < q
            · have hpp : (p : Int) < (q : Int) := by omega
              have hp0 : (0 : Int) ≤ (p : Int) := by omega
              obtain ⟨x, hx⟩ : ∃ x, C[p]? = some x := ⟨_, List.getElem?_eq_getElem (by omega)⟩
              have hne : x ≠ 0 := by
                have := List.all_eq_true.1 HA.out x (List.mem_of_getElem? hx)
                simpa using this
              have y4 : wr.cell? ⟨sb, p, none⟩ = some (.int .i64 (x : Int)) := by rw [blk_cell hC]; simp [hx]
              have hne' : ¬ (x : Int) = 0 := by omega
              clear hx
              go_wp2_with fail
              go_round
              case rel => exact ⟨p + 1, by omega, by simp⟩
              case measure => simp [intOf]; omega
            · obtain rfl : q = p := by omega
              have hpp : ¬ (q : Int) < (q : Int) := by omega
              clear hC
              go_wp2_with fail
              refine (known_tk ht).mono ?_
              rintro e Y ⟨rfl, hY⟩
              go_wp2_with fail
              go_ret
              exact ⟨rfl, hY.below⟩
end Go.Proofs.YtlfohlgooomdfaaDoor
