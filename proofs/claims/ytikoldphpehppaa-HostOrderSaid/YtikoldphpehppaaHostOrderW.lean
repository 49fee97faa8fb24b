/-
  HostOrder: the walk over the law.
-/
import Derived.Test.YtikoldphpehppaaHostLanesW
set_option linter.unusedVariables false
set_option linter.unusedSimpArgs false
namespace Go.Proofs.Ytikoldphpehppaa
open Go.RowKit

/-- Packets of lane 1 by their bodies. -/
def pk1 (z : Int) : Pkt := ⟨0, 0, 1, z⟩

/-- Lane 1 holds these bodies, lane 0 none. -/
def Holds1 (w0 w : World) (T E b : Nat) (lanes queue : Int) (zs : List Int) : Prop :=
  ∃ (S : Nat → Prop) (q : Nat → List Pkt), HostV w S T E b lanes queue q ∧ q 1 = zs.map pk1 ∧ q 0 = [] ∧ Below w0.heap.size w0 w ∧ (∀ j, S j → w0.heap.size ≤ j)

theorem take_min_succ {α : Type} (zs : List α) (k n : Nat) (z : α) (hz : zs[k]? = some z) (hk : k < n) : zs.take (min (k + 1) n) = zs.take (min k n) ++ [z] := by
  rw [Nat.min_eq_left (by omega), Nat.min_eq_left (by omega), List.take_add_one, hz]; rfl
theorem take_min_stay {α : Type} (zs : List α) (k n : Nat) (hk : n ≤ k) : zs.take (min (k + 1) n) = zs.take (min k n) := by
  rw [Nat.min_eq_right (by omega), Nat.min_eq_right (by omega)]

theorem Holds1.drewN {w0 w : World} {T E b : Nat} {lanes queue : Int} {zs : List Int} (h : Holds1 w0 w T E b lanes queue zs) (n : Nat) : Holds1 w0 (w.drewN n) T E b lanes queue zs := by
  obtain ⟨S, q, h1, h2, h3, h4, h5⟩ := h
  exact ⟨S, q, h1.keeps (Keeps.drewN (fun _ => False) _ _) (fun _ _ h => h), h2, h3, bel_false h4 (Keeps.drewN _ _ _), h5⟩

set_option maxHeartbeats 1000000 in
theorem hostOrder_walk (a0 : Int) (v1 : Value) (W : World) (w0 : (Lit.int .u8 a0).wf = true) (w1 : Arg Try.prog W 50 v1) :
    Calls Try.prog 6 #[.int .u8 a0, v1] W fun e w' => e = .returned (.bool true) ∧ Below W.heap.size W w' := by
  obtain ⟨l0, u0⟩ := u8_bd w0
  obtain ⟨m, zs, ⟨hcl, A, c, rfl, hmc, hcm, hrd⟩, hzl, hzw⟩ := w1.ints Try.underlying50 Try.underlying25 (by kernel_rfl)
  have hm63 : (m : Int) ≤ 9223372036854775807 := by unfold maxLen at hcm; omega
  obtain ⟨n, hn, hn8⟩ : ∃ n : Nat, (n : Int) = 1 + a0 % 8 ∧ n ≤ 8 := ⟨(1 + a0 % 8).toNat, by omega, by omega⟩
  have hn1 : 1 ≤ n := by omega
  have hrd' := Lib.hid hrd
  clear w0 hcl hrd hzw hcm
  by_cases hbig : 100 < m
  · go_enter Try.func6, Try.ntmps6
    have hn' := Lib.hid hn
    clear hn
    go_wp2_with fail
    rw [← hn'.out]
    refine (hnew_ok 2 n _ (by omega) (by omega) (by omega) (by omega)).mono ?_
    rintro e w1 ⟨rfl, hw1⟩
    have B1 : Below W.heap.size W w1 := by rw [hw1]; exact (Below.refl _ _).alloc (Nat.le_refl _) _
    clear hw1
    go_wp2_with fail
    refine (known_any _).mono ?_
    rintro e w3 ⟨rfl, k3⟩
    go_wp2_with fail
    go_ret
    exact ⟨by simp, bel_false B1 k3⟩
  · go_enter Try.func6, Try.ntmps6
    have hn' := Lib.hid hn
    clear hn
    go_wp2_with fail
    rw [← hn'.out]
    refine (hnew_ok 2 n _ (by omega) (by omega) (by omega) (by omega)).mono ?_
    rintro e w1 ⟨rfl, hw1⟩
    have F1 : Holds1 W w1 55 27 W.heap.size 2 n (zs.take (min 0 n)) := by
      rw [hw1]
      exact ⟨_, _, HostV.new W 2 n _ _, by simp, rfl, (Below.refl _ _).alloc (Nat.le_refl _) _, fun j h => by omega⟩
    clear hw1
    go_wp2_with fail
    go_loopw [7] (fun i wr => ∃ k : Nat, k ≤ m ∧ i = .int .i64 k ∧ Holds1 W wr 55 27 W.heap.size 2 n (zs.take (min k n))) (fun i wr => m - (intOf i).toNat)
    case atStart => exact ⟨0, by omega, rfl, F1⟩
    case round =>
      obtain ⟨k, hk, rfl, S, q, hh, hq, hz, hB, hS⟩ := hrel
      have hq' := Lib.hid hq
      have hz' := Lib.hid hz
      clear hq hz F1
      have hzl' := Lib.hid hzl
      clear hzl
      by_cases hlt : k < m
      · obtain ⟨z, hzk⟩ : ∃ z, zs[k]? = some z := ⟨_, List.getElem?_eq_getElem (by rw [hzl'.out]; exact hlt)⟩
        obtain ⟨ad, hA, had, hcell⟩ := hrd'.out (by omega)
        have hc : wr.cell? (ad.add k) = some (.int .u32 z) := (hB.cell (by rw [blk_of_add]; exact had)).trans (hcell k _ (by rw [List.getElem?_map, hzk]; rfl))
        subst hA
        have hzk' := Lib.hid hzk
        clear hcell hzk
        by_cases hkn : k < n
        · go_wp2_with fail
          refine (put_ok _ (pk1 z) 2 n _ hh (by omega) (by omega) (by show (0 : Int) ≤ 1; omega) (by show (1 : Int) < 2; omega) (by show (((q 1).length : Nat) : Int) < n; rw [hq'.out]; simp [hzl'.out]; omega)).mono ?_
          rintro e w2 ⟨rfl, S2, h2, k2, s2⟩
          have F2 : Holds1 W w2 55 27 W.heap.size 2 n (zs.take (min (k + 1) n)) :=
            ⟨S2, _, h2, by show setAt q 1 (q 1 ++ [pk1 z]) 1 = _; rw [setAt_same, hq'.out, take_min_succ zs k n z hzk'.out hkn, List.map_append]; rfl, by show setAt q 1 _ 0 = _; rw [setAt_other _ _ _ _ (by decide)]; exact hz'.out, bel_keeps hB hS k2, bel_fresh hB hS s2⟩
          clear h2
          go_wp2_with fail
          go_roundw
          case rel => exact ⟨k + 1, by omega, by go_num, F2⟩
          case measure => simp [intOf]; omega
        · go_wp2_with fail
          refine (put_full _ (pk1 z) 2 n _ hh (by omega) (by show (0 : Int) ≤ 1; omega) (by show (1 : Int) < 2; omega) (by show (((q 1).length : Nat) : Int) = n; rw [hq'.out]; simp [hzl'.out]; omega)).mono ?_
          rintro e w2 ⟨rfl, k2⟩
          have F2 : Holds1 W w2 55 27 W.heap.size 2 n (zs.take (min (k + 1) n)) :=
            ⟨S, q, hh.keeps k2 (fun _ _ h => h), by rw [take_min_stay zs k n (by omega)]; exact hq'.out, hz'.out, bel_false hB k2, hS⟩
          go_wp2_with fail
          go_roundw
          case rel => exact ⟨k + 1, by omega, by go_num, F2⟩
          case measure => simp [intOf]; omega
      · obtain rfl : k = m := by omega
        rcases Nat.lt_or_ge k n with hnk | hnk
        · have hqt := Lib.hid (show q 1 = (zs.take k).map pk1 by rw [hq'.out]; congr 2; omega)
          go_wp2_with fail
          refine (waits_as _ 1 2 n _ hh (by omega) (by omega) (by omega) k (by show ((q 1).length : Int) = k; rw [hqt.out]; simp [hzl'.out] <;> omega)).mono ?_
          rintro e w6 ⟨rfl, rfl⟩
          go_wp2_with fail
          refine (waits_as _ 0 2 n _ hh (by omega) (by omega) (by omega) 0 (by show ((q 0).length : Int) = 0; rw [hz'.out]; rfl)).mono ?_
          rintro e w6 ⟨rfl, rfl⟩
          have F2 : Holds1 W wr 55 27 W.heap.size 2 n ((zs.take k).drop 0) := ⟨S, q, hh, by rw [hqt.out]; rfl, hz'.out, hB, hS⟩
          go_wp2_with fail
          go_loopw [10] (fun i ws => ∃ j : Nat, j ≤ k ∧ i = .int .i64 j ∧ Holds1 W ws 55 27 W.heap.size 2 n ((zs.take k).drop j)) (fun i ws => k - (intOf i).toNat)
          case atStart => exact ⟨0, by omega, rfl, F2⟩
          case round =>
            obtain ⟨j, hj, rfl, S2, q2, h2, e2, e0, B2, f2⟩ := hrel
            have e2' := Lib.hid e2
            have e0' := Lib.hid e0
            clear e2 e0 F2
            by_cases hjt : j < k
            · obtain ⟨z, hzk⟩ : ∃ z, zs[j]? = some z := ⟨_, List.getElem?_eq_getElem (by rw [hzl'.out]; omega)⟩
              obtain ⟨ad, hA, had, hcell⟩ := hrd'.out (by omega)
              have hcz : W.cell? (ad.add j) = some (.int .u32 z) := hcell j _ (by rw [List.getElem?_map, hzk]; rfl)
              subst hA
              have hjm : (j : Int) < k := by omega
              have hdr : (zs.take k).drop j = z :: (zs.take k).drop (j + 1) := by
                rw [List.drop_eq_getElem_cons (by rw [List.length_take, hzl'.out]; omega)]
                congr 1
                rw [List.getElem_take]
                exact (List.getElem?_eq_some_iff.1 hzk).2
              have hq2 := Lib.hid (show q2 1 = pk1 z :: ((zs.take k).drop (j + 1)).map pk1 by rw [e2'.out, hdr]; rfl)
              clear hdr hcell hzk
              have hcz' := Lib.hid hcz
              clear hcz
              go_wp2_with fail
              refine (next_ok _ 1 2 n _ h2 (by omega) (by omega) (by omega) ⟨0, 0, 1, z⟩ _ hq2.out).mono ?_
              rintro e w7 ⟨rfl, S7, h7, k7, s7⟩
              have B7 := bel_keeps B2 f2 k7
              have f7 := bel_fresh B2 f2 s7
              have hcw : w7.cell? (ad.add j) = some (.int .u32 z) := (B7.cell (by rw [blk_of_add]; exact had)).trans hcz'.out
              have hlt7 : (ad.add j).block < w7.heap.size := by rw [blk_of_add]; exact Nat.lt_of_lt_of_le had B7.size
              have F7 : Holds1 W (w7.alloc (.cells #[.int .i64 0, .int .i64 0, .int .i64 1, .int .u32 z] 27)) 55 27 W.heap.size 2 n ((zs.take k).drop (j + 1)) :=
                ⟨S7, _, h7.keeps (Keeps.alloc (fun _ => False) _ _) (fun _ _ h => h), by show setAt q2 1 _ 1 = _; rw [setAt_same], by show setAt q2 1 _ 0 = _; rw [setAt_other _ _ _ _ (by decide)]; exact e0'.out, B7.alloc B7.size _, f7⟩
              clear h7
              go_wp2_with fail
              go_quiet (fail)
              go_wp2_with fail
              exact ⟨⟨j + 1, by omega, by go_num, F7.drewN nq⟩, by simp [intOf]; omega⟩
            · obtain rfl : k = j := by omega
              have hnil := Lib.hid (show q2 1 = [] by rw [e2'.out]; simp)
              go_wp2_with fail
              refine (next_empty _ 1 2 n _ h2 (by omega) (.inr (.inr ⟨by omega, by omega, hnil.out⟩))).mono ?_
              rintro e w7 ⟨rfl, k7⟩
              have B7 := bel_false B2 k7
              have B7' := B7.alloc B7.size (.cells #[.int .i64 0, .int .i64 0, .int .i64 0, .int .u32 0] 27)
              go_wp2_with fail
              refine (known_any _).mono ?_
              rintro e w8 ⟨rfl, k8⟩
              go_wp2_with fail
              go_ret
              exact ⟨by simp, bel_false B7' k8⟩
        · have hqt := Lib.hid (show q 1 = (zs.take n).map pk1 by rw [hq'.out]; congr 2; omega)
          go_wp2_with fail
          refine (waits_as _ 1 2 n _ hh (by omega) (by omega) (by omega) n (by show ((q 1).length : Int) = n; rw [hqt.out]; simp [hzl'.out] <;> omega)).mono ?_
          rintro e w6 ⟨rfl, rfl⟩
          go_wp2_with fail
          refine (waits_as _ 0 2 n _ hh (by omega) (by omega) (by omega) 0 (by show ((q 0).length : Int) = 0; rw [hz'.out]; rfl)).mono ?_
          rintro e w6 ⟨rfl, rfl⟩
          have F2 : Holds1 W wr 55 27 W.heap.size 2 n ((zs.take n).drop 0) := ⟨S, q, hh, by rw [hqt.out]; rfl, hz'.out, hB, hS⟩
          go_wp2_with fail
          go_loopw [10] (fun i ws => ∃ j : Nat, j ≤ n ∧ i = .int .i64 j ∧ Holds1 W ws 55 27 W.heap.size 2 n ((zs.take n).drop j)) (fun i ws => n - (intOf i).toNat)
          case atStart => exact ⟨0, by omega, rfl, F2⟩
          case round =>
            obtain ⟨j, hj, rfl, S2, q2, h2, e2, e0, B2, f2⟩ := hrel
            have e2' := Lib.hid e2
            have e0' := Lib.hid e0
            clear e2 e0 F2
            by_cases hjt : j < n
            · obtain ⟨z, hzk⟩ : ∃ z, zs[j]? = some z := ⟨_, List.getElem?_eq_getElem (by rw [hzl'.out]; omega)⟩
              obtain ⟨ad, hA, had, hcell⟩ := hrd'.out (by omega)
              have hcz : W.cell? (ad.add j) = some (.int .u32 z) := hcell j _ (by rw [List.getElem?_map, hzk]; rfl)
              subst hA
              have hjm : (j : Int) < k := by omega
              have hdr : (zs.take n).drop j = z :: (zs.take n).drop (j + 1) := by
                rw [List.drop_eq_getElem_cons (by rw [List.length_take, hzl'.out]; omega)]
                congr 1
                rw [List.getElem_take]
                exact (List.getElem?_eq_some_iff.1 hzk).2
              have hq2 := Lib.hid (show q2 1 = pk1 z :: ((zs.take n).drop (j + 1)).map pk1 by rw [e2'.out, hdr]; rfl)
              clear hdr hcell hzk
              have hcz' := Lib.hid hcz
              clear hcz
              go_wp2_with fail
              refine (next_ok _ 1 2 n _ h2 (by omega) (by omega) (by omega) ⟨0, 0, 1, z⟩ _ hq2.out).mono ?_
              rintro e w7 ⟨rfl, S7, h7, k7, s7⟩
              have B7 := bel_keeps B2 f2 k7
              have f7 := bel_fresh B2 f2 s7
              have hcw : w7.cell? (ad.add j) = some (.int .u32 z) := (B7.cell (by rw [blk_of_add]; exact had)).trans hcz'.out
              have hlt7 : (ad.add j).block < w7.heap.size := by rw [blk_of_add]; exact Nat.lt_of_lt_of_le had B7.size
              have F7 : Holds1 W (w7.alloc (.cells #[.int .i64 0, .int .i64 0, .int .i64 1, .int .u32 z] 27)) 55 27 W.heap.size 2 n ((zs.take n).drop (j + 1)) :=
                ⟨S7, _, h7.keeps (Keeps.alloc (fun _ => False) _ _) (fun _ _ h => h), by show setAt q2 1 _ 1 = _; rw [setAt_same], by show setAt q2 1 _ 0 = _; rw [setAt_other _ _ _ _ (by decide)]; exact e0'.out, B7.alloc B7.size _, f7⟩
              clear h7
              go_wp2_with fail
              go_quiet (fail)
              go_wp2_with fail
              exact ⟨⟨j + 1, by omega, by go_num, F7.drewN nq⟩, by simp [intOf]; omega⟩
            · obtain rfl : n = j := by omega
              have hnil := Lib.hid (show q2 1 = [] by rw [e2'.out]; simp)
              go_wp2_with fail
              refine (next_empty _ 1 2 n _ h2 (by omega) (.inr (.inr ⟨by omega, by omega, hnil.out⟩))).mono ?_
              rintro e w7 ⟨rfl, k7⟩
              have B7 := bel_false B2 k7
              have B7' := B7.alloc B7.size (.cells #[.int .i64 0, .int .i64 0, .int .i64 0, .int .u32 0] 27)
              go_wp2_with fail
              refine (known_any _).mono ?_
              rintro e w8 ⟨rfl, k8⟩
              go_wp2_with fail
              go_ret
              exact ⟨by simp, bel_false B7' k8⟩

end Go.Proofs.Ytikoldphpehppaa
