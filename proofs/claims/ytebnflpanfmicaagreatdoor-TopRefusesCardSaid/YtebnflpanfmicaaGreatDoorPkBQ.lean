/-
  Part 43 of the proof: TreeRefPath, TreeRefTop, TreeRLay.
-/
import Derived.Test.YtebnflpanfmicaaGreatDoorPkAL
import Derived.Test.YtebnflpanfmicaaGreatDoorPkAK
import Derived.BigQuiet
set_option linter.unusedVariables false
set_option linter.unusedSimpArgs false
set_option linter.unusedSectionVars false
namespace Go.Proofs.YtebnflpanfmicaaGreatDoor
open Go.RowKit
theorem QS.shorten {w : World} {e n c : Nat} {A : Option Addr} {t : List Nat} {k : Nat} (h : QS w e 1 (.slice A n c) n ((t.take n).map encI)) (hk : k ≤ n) : QS w e 1 (.slice A k c) k ((t.take k).map encI) := by
  rcases Nat.eq_zero_or_pos n with h0 | h0
  · subst h0
    obtain rfl : k = 0 := by omega
    exact h
  · obtain ⟨g, off, c', e', _, _, _⟩ := h.cell h0
    injection e' with e1 _ _
    subst e1
    have := h.take k hk
    rw [Nat.mul_one, ← List.map_take, List.take_take, Nat.min_eq_left hk] at this
    exact this
theorem take_getD {l : List Nat} {i j : Nat} (h : j < i) (h2 : i ≤ l.length) : (l.take i)[j]? = some (l.getD j 0) := by
  rw [List.getElem?_take_of_lt h, List.getD_eq_getElem?_getD, List.getElem?_eq_getElem (by omega)]; rfl
set_option maxHeartbeats 8000000 in
theorem rpathN_calls (A : Option Addr) (m c : Nat) (t : List Nat) (v x : Nat) (ht : Tree t) (hv : v ≤ m) (hx : x ≤ m) (hm : m ≤ 5) (w : World) (hG : Fam w A m t) (hr : Calls Tryz.prog 55 #[.slice A m c] w fun e w' => e = .returned (.bool true) ∧ w' = w) :
    Calls Tryz.prog 18 #[.slice A m c, .int .i64 v, .int .i64 x] w fun e w' =>
      ∃ u, e = .returned u ∧ QS w' 3 1 u (pathN t v x).length ((pathN t v x).map encI) ∧ Keeps (fun _ => False) w w' ∧ ∀ k, u.ownBlock = some k → w.heap.size ≤ k := by
  have hml : t.length = m := hG.1
  rw [← pathR_eq ht (by omega) (v := v) (x := x) (by omega) (by omega)]
  have hlv := upl_length ht v
  have hlx := upl_length ht x
  have hpv : 0 < (upl t v).length := List.length_pos_of_mem (zero_mem_upl ht v)
  have hpx : 0 < (upl t x).length := List.length_pos_of_mem (zero_mem_upl ht x)
  have c1 := rup_calls A m c t v ht hv hm w hG
  have c2 := fun w' (hk : Keeps (fun _ => False) w w') => rup_calls A m c t x ht hx hm w' (hG.keeps hk (fun _ _ h => h))
  unfold pathR
  generalize upl t v = a at *
  generalize upl t x = b at *
  have hvi : (v : Int) ≤ (m : Int) := by omega
  have hxi : (x : Int) ≤ (m : Int) := by omega
  have hv0 : (0 : Int) ≤ (v : Int) := by omega
  have hx0 : (0 : Int) ≤ (x : Int) := by omega
  obtain ⟨p, q, hpq⟩ : ∃ p q, trimI a b a.length b.length = (p, q) := ⟨_, _, rfl⟩
  rw [hpq]
  have hpq' := Lib.hid hpq
  clear hpq
  go_enter Tryz.func18, Tryz.ntmps18
  go_wp2_with fail
  refine hr.mono ?_
  rintro e w' ⟨rfl, hw⟩; subst w'
  clear hr
  go_wp2_with fail
  refine c1.mono ?_
  rintro e B ⟨ua, rfl, qa, hkB, hoa⟩
  obtain ⟨aA, ac, hsh, hac, hac2⟩ := qa.shape
  subst hsh
  clear c1
  go_wp2_with fail
  refine (c2 B hkB).mono ?_
  rintro e C ⟨ub, rfl, qb, hkC, hob⟩
  obtain ⟨bA, bc, hsh, hbc, hbc2⟩ := qb.shape
  subst hsh
  clear c2
  replace qa := qa.keeps hkC (fun _ _ h => h)
  have hkW := hkB.trans hkC
  clear hkB hkC
  rw [show a = a.take a.length from (List.take_length).symm] at qa
  rw [show b = b.take b.length from (List.take_length).symm] at qb
  rw [List.length_take, Nat.min_self] at qa qb
  go_wp2_with fail
  go_loopw [7, 8] (fun s1 s2 wr => ∃ i j : Nat, 0 < i ∧ i ≤ a.length ∧ 0 < j ∧ j ≤ b.length ∧ s1 = .slice aA i ac ∧ s2 = .slice bA j bc ∧ Hid (trimI a b i j = (p, q)) ∧ Keeps (fun _ => False) C wr) (fun s1 _ _ => match s1 with | .slice _ n _ => n | _ => 0)
  case atStart => exact ⟨a.length, b.length, hpv, Nat.le_refl _, hpx, Nat.le_refl _, rfl, rfl, hpq', Keeps.refl _ _⟩
  case round =>
    obtain ⟨i, j, hi0, hi, hj0, hj, rfl, rfl, htr, hk⟩ := hrel
    have qi := (qa.shorten hi).keeps hk (fun _ _ h => h)
    have qj := (qb.shorten hj).keeps hk (fun _ _ h => h)
    have hmi : (i : Int) ≤ 6 := by omega
    have hmj : (j : Int) ≤ 6 := by omega
    by_cases hc : 1 < i ∧ 1 < j ∧ a.getD (i - 2) 0 = b.getD (j - 2) 0
    · obtain ⟨h1, h2, h3⟩ := hc
      have htr' := Lib.hid ((trimI_step h1 h2 h3).symm.trans htr.out)
      obtain ⟨g1, o1, c1, e1, _, cell1, _⟩ := qi.cell hi0
      obtain ⟨g2, o2, c2, e2, _, cell2, _⟩ := qj.cell hj0
      injection e1 with e1 _ e1'
      injection e2 with e2 _ e2'
      subst e1 e2 e1' e2'
      obtain ⟨i2, hi2, hi3⟩ : ∃ i2 : Nat, (i : Int) - 2 = (i2 : Int) ∧ i2 = i - 2 := ⟨i - 2, by omega, rfl⟩
      obtain ⟨j2, hj2, hj3⟩ : ∃ j2 : Nat, (j : Int) - 2 = (j2 : Int) ∧ j2 = j - 2 := ⟨j - 2, by omega, rfl⟩
      have x1 := cell1 i2 (encI (a.getD i2 0)) (by rw [List.getElem?_map, take_getD (by omega) hi]; rfl)
      have x2 := cell2 j2 (encI (b.getD j2 0)) (by rw [List.getElem?_map, take_getD (by omega) hj]; rfl)
      have hii : (i2 : Int) < (i : Int) := by omega
      have hjj : (j2 : Int) < (j : Int) := by omega
      have hi20 : (0 : Int) ≤ (i2 : Int) := by omega
      have hj20 : (0 : Int) ≤ (j2 : Int) := by omega
      rw [← hi3, ← hj3] at h3
      clear cell1 cell2 hi3 hj3 htr qi qj
      generalize a.getD i2 0 = y at *
      generalize b.getD j2 0 = z at *
      subst h3
      obtain ⟨i1, hi1, hi1'⟩ : ∃ i1 : Nat, (i : Int) - 1 = (i1 : Int) ∧ i - 1 = i1 := ⟨i - 1, by omega, rfl⟩
      obtain ⟨j1, hj1, hj1'⟩ : ∃ j1 : Nat, (j : Int) - 1 = (j1 : Int) ∧ j - 1 = j1 := ⟨j - 1, by omega, rfl⟩
      rw [hi1', hj1'] at htr'
      have b1 : 0 < i1 := by omega
      have b2 : i1 ≤ a.length := by omega
      have b3 : 0 < j1 := by omega
      have b4 : j1 ≤ b.length := by omega
      have b5 : i1 < i := by omega
      have b6 : (i1 : Int) ≤ (ac : Int) := by omega
      have b7 : (j1 : Int) ≤ (bc : Int) := by omega
      have b8 : (0 : Int) ≤ (i1 : Int) := by omega
      have b9 : (0 : Int) ≤ (j1 : Int) := by omega
      clear hi1' hj1'
      have hyy : (y : Int) = (y : Int) := rfl
      go_wp2_with fail
      have n1 : (1 : Int) < (i : Int) := by omega
      have n2 : (1 : Int) < (j : Int) := by omega
      go_quiet (fail)
      go_wp2_with fail
      exact ⟨⟨i1, j1, b1, b2, b3, b4, rfl, rfl, htr', hk.trans (Keeps.drewN _ _ _)⟩, b5⟩
    · have hend := (trimI_end hc).symm.trans htr.out
      injection hend with ep eq
      subst ep eq
      clear htr hpq'
      have hsrc : ∀ n, Src Tryz.prog 1 35 (.slice aA i ac) i ((a.take i).map encI) (wr.drewN n) := fun n => (qi.keeps (Keeps.drewN (fun _ => False) wr n) (fun _ _ h => h)).src Tryz.underlying35 (one_nats _)
      by_cases h1 : 1 < i
      · by_cases h2 : 1 < j
        · have h3 : ¬ a.getD (i - 2) 0 = b.getD (j - 2) 0 := fun h => hc ⟨h1, h2, h⟩
          obtain ⟨g1, o1, c1, e1, _, cell1, _⟩ := qi.cell hi0
          obtain ⟨g2, o2, c2, e2, _, cell2, _⟩ := qj.cell hj0
          injection e1 with e1 _ e1'
          injection e2 with e2 _ e2'
          subst e1 e2 e1' e2'
          obtain ⟨i2, hi2, hi3⟩ : ∃ i2 : Nat, (i : Int) - 2 = (i2 : Int) ∧ i2 = i - 2 := ⟨i - 2, by omega, rfl⟩
          obtain ⟨j2, hj2, hj3⟩ : ∃ j2 : Nat, (j : Int) - 2 = (j2 : Int) ∧ j2 = j - 2 := ⟨j - 2, by omega, rfl⟩
          have x1 := cell1 i2 (encI (a.getD i2 0)) (by rw [List.getElem?_map, take_getD (by omega) hi]; rfl)
          have x2 := cell2 j2 (encI (b.getD j2 0)) (by rw [List.getElem?_map, take_getD (by omega) hj]; rfl)
          have hii : (i2 : Int) < (i : Int) := by omega
          have hjj : (j2 : Int) < (j : Int) := by omega
          have hi20 : (0 : Int) ≤ (i2 : Int) := by omega
          have hj20 : (0 : Int) ≤ (j2 : Int) := by omega
          rw [← hi3, ← hj3] at h3
          clear cell1 cell2 hi3 hj3 qi qj hc
          generalize hyv : a.getD i2 0 = y at *
          generalize hzv : b.getD j2 0 = z at *
          clear hyv hzv
          have n3 : ((y : Int) == (z : Int)) = false := by rw [beq_eq_false_iff_ne]; omega
          clear h3
          go_wp2_with fail
          have n1 : (1 : Int) < (i : Int) := by omega
          have n2 : (1 : Int) < (j : Int) := by omega
          go_quiet (fail)
          have hj3 : ((j : Int) - 2) = (((j - 1 : Nat)) : Int) - 1 := by omega
          clear hi2 hj2 hii hjj hi20 hj20 n1 n2 n3 x1 x2
          go_wp2_with (at_builtin; refine wpList_append_QS rfl _ _ 35 35 rfl 3 _ 1 8 Tryz.underlying35 info_int rfl (.slice none 0 0) 0 [] rfl (QS.nil _ _ _) _ i ((a.take i).map encI) rfl (hsrc _) (by decide) (by omega) ?_; intro A1 c1 w1 hq1 hg1 ho1; rw [Nat.zero_add] at hq1 ho1 ⊢; rw [List.nil_append] at hq1)
          have hk1 : Keeps (fun _ => False) wr w1 := (Keeps.drewN _ _ _).trans (Keeps.grown hg1 (fun i h => by cases h))
          have hkC := hk.trans hk1
          have hb1 : ∀ k, (Value.slice A1 i c1).ownBlock = some k → C.heap.size ≤ k := fun k h => by
            rcases ho1 with h' | ⟨b, h', hle⟩
            · rw [h] at h'; cases h'
            · rw [h] at h'; cases h'; have := hk.size; exact Nat.le_trans this hle
          clear hsrc hg1 ho1 hk1
          go_loopw [9, 10] (fun l s wr => ∃ k : Nat, k ≤ j - 1 ∧ s = .int .i64 ((k : Int) - 1) ∧ QS wr 3 1 l (i + (j - 1 - k)) ((a.take i ++ ((b.take (j - 1)).drop k).reverse).map encI) ∧ Keeps (fun _ => False) C wr ∧ ∀ k, l.ownBlock = some k → C.heap.size ≤ k) (fun _ s _ => (intOf s + 1).toNat)
          case atStart => exact ⟨j - 1, Nat.le_refl _, by congr 1 <;> omega, by rw [List.drop_of_length_le (by rw [List.length_take]; omega), List.reverse_nil, List.append_nil, Nat.sub_self, Nat.add_zero]; exact hq1, hkC, hb1⟩
          case round =>
            clear hq1 hkC hb1
            obtain ⟨k, hkj, rfl, hq, hkC, hb⟩ := hrel
            revert hq hb; generalize u9 = l; intro hq hb
            by_cases hk0 : k = 0
            · subst hk0
              obtain ⟨lA, lc, hsh, _, _⟩ := hq.shape
              subst hsh
              go_wp2_with fail
              go_ret
              refine ⟨_, rfl, ?_, hkW.trans hkC, fun k hk => Nat.le_trans hkW.size (hb k hk)⟩
              rw [List.drop_zero] at hq
              have hl : (a.take i ++ (b.take (j - 1)).reverse).length = i + (j - 1 - 0) := by rw [List.length_append, List.length_reverse, List.length_take, List.length_take]; omega
              rw [hl]; exact hq
            · obtain ⟨z, hz, hz2⟩ : ∃ z : Nat, (k : Int) - 1 = (z : Int) ∧ k = z + 1 := ⟨k - 1, by omega, by omega⟩
              have hzj : (z : Int) < (j : Int) := by omega
              have hz0 : (0 : Int) ≤ (z : Int) := by omega
              obtain ⟨g2, o2, c2, e2, _, cell2, _⟩ := ((qb.shorten hj).keeps hkC (fun _ _ h => h)).cell hj0
              cases e2
              have x2 := cell2 z (encI (b.getD z 0)) (by rw [List.getElem?_map, take_getD (by omega) hj]; rfl)
              have hdrop : (b.take (j - 1)).drop z = b.getD z 0 :: (b.take (j - 1)).drop k := by
                subst hz2
                rw [List.drop_eq_getElem_cons (by rw [List.length_take]; omega)]
                congr 1
                rw [List.getElem_take, List.getD_eq_getElem?_getD, List.getElem?_eq_getElem (by omega)]; rfl
              have hnew : a.take i ++ ((b.take (j - 1)).drop z).reverse = (a.take i ++ ((b.take (j - 1)).drop k).reverse) ++ [b.getD z 0] := by rw [hdrop, List.reverse_cons, List.append_assoc]
              have hnew' := Lib.hid hnew
              have hln : i + (j - 1 - z) = i + (j - 1 - k) + 1 := by omega
              have hlb : i + (j - 1 - k) ≤ 12 := by omega
              clear hdrop hnew cell2 hz2 hk0
              generalize b.getD z 0 = y at *
              generalize a.take i ++ ((b.take (j - 1)).drop k).reverse = Y at *
              have hln' := Lib.hid hln
              clear hln
              generalize i + (j - 1 - k) = n at *
              have hq1 : QS (wr.alloc (.cells #[encI y] 3)) 3 1 l n (Y.map encI) := hq.alloc _
              have hsrc : Src Tryz.prog 1 35 (.slice (some ⟨wr.heap.size, 0, none⟩) 1 1) 1 [encI y] (wr.alloc (.cells #[encI y] 3)) :=
                src_blk Tryz.underlying35 (blk_new _ _) rfl (by intro jj hjj'; match jj, hjj' with | 0, _ => rfl) (by intro u hu; simp at hu; subst hu; rfl)
              go_wp2_with (at_builtin; refine wpList_append_QS rfl _ _ 35 35 rfl 3 _ 1 8 Tryz.underlying35 info_int rfl l n (Y.map encI) rfl hq1 _ 1 [encI y] rfl hsrc (by decide) (by omega) ?_; intro A1 c1 w1 hq2 hg1 ho1)
              go_roundw
              case rel =>
                have hk1 : Keeps (fun i => l.ownBlock = some i) wr w1 := (Keeps.alloc _ _ _).trans (Keeps.grown hg1 (fun i h => h))
                refine ⟨z, by omega, rfl, by rw [hnew'.out, List.map_append, hln'.out]; exact hq2, hkC.then hk1 (fun i hi h => by have := hb i h; omega), fun b hb' => ?_⟩
                rcases ho1 with h | ⟨i', h, hle⟩
                · exact hb b (h ▸ hb')
                · rw [hb'] at h; cases h; have := hkC.size; rw [World.size_alloc] at hle; omega
              case measure => simp [intOf]; omega
        · have n2 : ¬ (1 : Int) < (j : Int) := by omega
          clear qi qj hc
          go_wp2_with fail
          have n1 : (1 : Int) < (i : Int) := by omega
          have n2 : ¬ (1 : Int) < (j : Int) := by omega
          go_quiet (fail)
          go_wp2_with (at_builtin; refine wpList_append_QS rfl _ _ 35 35 rfl 3 _ 1 8 Tryz.underlying35 info_int rfl (.slice none 0 0) 0 [] rfl (QS.nil _ _ _) _ i ((a.take i).map encI) rfl (hsrc _) (by decide) (by omega) ?_; intro A1 c1 w1 hq1 hg1 ho1; rw [Nat.zero_add] at hq1 ho1 ⊢; rw [List.nil_append] at hq1)
          have hk1 : Keeps (fun _ => False) wr w1 := (Keeps.drewN _ _ _).trans (Keeps.grown hg1 (fun i h => by cases h))
          have hkC := hk.trans hk1
          have hb1 : ∀ k, (Value.slice A1 i c1).ownBlock = some k → C.heap.size ≤ k := fun k h => by
            rcases ho1 with h' | ⟨b, h', hle⟩
            · rw [h] at h'; cases h'
            · rw [h] at h'; cases h'; have := hk.size; exact Nat.le_trans this hle
          clear hsrc hg1 ho1 hk1
          go_loopw [9, 10] (fun l s wr => ∃ k : Nat, k ≤ j - 1 ∧ s = .int .i64 ((k : Int) - 1) ∧ QS wr 3 1 l (i + (j - 1 - k)) ((a.take i ++ ((b.take (j - 1)).drop k).reverse).map encI) ∧ Keeps (fun _ => False) C wr ∧ ∀ k, l.ownBlock = some k → C.heap.size ≤ k) (fun _ s _ => (intOf s + 1).toNat)
          case atStart => exact ⟨j - 1, Nat.le_refl _, by congr 1 <;> omega, by rw [List.drop_of_length_le (by rw [List.length_take]; omega), List.reverse_nil, List.append_nil, Nat.sub_self, Nat.add_zero]; exact hq1, hkC, hb1⟩
          case round =>
            clear hq1 hkC hb1
            obtain ⟨k, hkj, rfl, hq, hkC, hb⟩ := hrel
            revert hq hb; generalize u9 = l; intro hq hb
            by_cases hk0 : k = 0
            · subst hk0
              obtain ⟨lA, lc, hsh, _, _⟩ := hq.shape
              subst hsh
              go_wp2_with fail
              go_ret
              refine ⟨_, rfl, ?_, hkW.trans hkC, fun k hk => Nat.le_trans hkW.size (hb k hk)⟩
              rw [List.drop_zero] at hq
              have hl : (a.take i ++ (b.take (j - 1)).reverse).length = i + (j - 1 - 0) := by rw [List.length_append, List.length_reverse, List.length_take, List.length_take]; omega
              rw [hl]; exact hq
            · exfalso; omega
      · clear qi qj hc
        go_wp2_with fail
        have n1 : ¬ (1 : Int) < (i : Int) := by omega
        go_quiet (fail)
        go_wp2_with (at_builtin; refine wpList_append_QS rfl _ _ 35 35 rfl 3 _ 1 8 Tryz.underlying35 info_int rfl (.slice none 0 0) 0 [] rfl (QS.nil _ _ _) _ i ((a.take i).map encI) rfl (hsrc _) (by decide) (by omega) ?_; intro A1 c1 w1 hq1 hg1 ho1; rw [Nat.zero_add] at hq1 ho1 ⊢; rw [List.nil_append] at hq1)
        have hk1 : Keeps (fun _ => False) wr w1 := (Keeps.drewN _ _ _).trans (Keeps.grown hg1 (fun i h => by cases h))
        have hkC := hk.trans hk1
        have hb1 : ∀ k, (Value.slice A1 i c1).ownBlock = some k → C.heap.size ≤ k := fun k h => by
          rcases ho1 with h' | ⟨b, h', hle⟩
          · rw [h] at h'; cases h'
          · rw [h] at h'; cases h'; have := hk.size; exact Nat.le_trans this hle
        clear hsrc hg1 ho1 hk1
        go_loopw [9, 10] (fun l s wr => ∃ k : Nat, k ≤ j - 1 ∧ s = .int .i64 ((k : Int) - 1) ∧ QS wr 3 1 l (i + (j - 1 - k)) ((a.take i ++ ((b.take (j - 1)).drop k).reverse).map encI) ∧ Keeps (fun _ => False) C wr ∧ ∀ k, l.ownBlock = some k → C.heap.size ≤ k) (fun _ s _ => (intOf s + 1).toNat)
        case atStart => exact ⟨j - 1, Nat.le_refl _, by congr 1 <;> omega, by rw [List.drop_of_length_le (by rw [List.length_take]; omega), List.reverse_nil, List.append_nil, Nat.sub_self, Nat.add_zero]; exact hq1, hkC, hb1⟩
        case round =>
          clear hq1 hkC hb1
          obtain ⟨k, hkj, rfl, hq, hkC, hb⟩ := hrel
          revert hq hb; generalize u9 = l; intro hq hb
          by_cases hk0 : k = 0
          · subst hk0
            obtain ⟨lA, lc, hsh, _, _⟩ := hq.shape
            subst hsh
            go_wp2_with fail
            go_ret
            refine ⟨_, rfl, ?_, hkW.trans hkC, fun k hk => Nat.le_trans hkW.size (hb k hk)⟩
            rw [List.drop_zero] at hq
            have hl : (a.take i ++ (b.take (j - 1)).reverse).length = i + (j - 1 - 0) := by rw [List.length_append, List.length_reverse, List.length_take, List.length_take]; omega
            rw [hl]; exact hq
          · obtain ⟨z, hz, hz2⟩ : ∃ z : Nat, (k : Int) - 1 = (z : Int) ∧ k = z + 1 := ⟨k - 1, by omega, by omega⟩
            have hzj : (z : Int) < (j : Int) := by omega
            have hz0 : (0 : Int) ≤ (z : Int) := by omega
            obtain ⟨g2, o2, c2, e2, _, cell2, _⟩ := ((qb.shorten hj).keeps hkC (fun _ _ h => h)).cell hj0
            cases e2
            have x2 := cell2 z (encI (b.getD z 0)) (by rw [List.getElem?_map, take_getD (by omega) hj]; rfl)
            have hdrop : (b.take (j - 1)).drop z = b.getD z 0 :: (b.take (j - 1)).drop k := by
              subst hz2
              rw [List.drop_eq_getElem_cons (by rw [List.length_take]; omega)]
              congr 1
              rw [List.getElem_take, List.getD_eq_getElem?_getD, List.getElem?_eq_getElem (by omega)]; rfl
            have hnew : a.take i ++ ((b.take (j - 1)).drop z).reverse = (a.take i ++ ((b.take (j - 1)).drop k).reverse) ++ [b.getD z 0] := by rw [hdrop, List.reverse_cons, List.append_assoc]
            have hnew' := Lib.hid hnew
            have hln : i + (j - 1 - z) = i + (j - 1 - k) + 1 := by omega
            have hlb : i + (j - 1 - k) ≤ 12 := by omega
            clear hdrop hnew cell2 hz2 hk0
            generalize b.getD z 0 = y at *
            generalize a.take i ++ ((b.take (j - 1)).drop k).reverse = Y at *
            have hln' := Lib.hid hln
            clear hln
            generalize i + (j - 1 - k) = n at *
            have hq1 : QS (wr.alloc (.cells #[encI y] 3)) 3 1 l n (Y.map encI) := hq.alloc _
            have hsrc : Src Tryz.prog 1 35 (.slice (some ⟨wr.heap.size, 0, none⟩) 1 1) 1 [encI y] (wr.alloc (.cells #[encI y] 3)) :=
              src_blk Tryz.underlying35 (blk_new _ _) rfl (by intro jj hjj'; match jj, hjj' with | 0, _ => rfl) (by intro u hu; simp at hu; subst hu; rfl)
            go_wp2_with (at_builtin; refine wpList_append_QS rfl _ _ 35 35 rfl 3 _ 1 8 Tryz.underlying35 info_int rfl l n (Y.map encI) rfl hq1 _ 1 [encI y] rfl hsrc (by decide) (by omega) ?_; intro A1 c1 w1 hq2 hg1 ho1)
            go_roundw
            case rel =>
              have hk1 : Keeps (fun i => l.ownBlock = some i) wr w1 := (Keeps.alloc _ _ _).trans (Keeps.grown hg1 (fun i h => h))
              refine ⟨z, by omega, rfl, by rw [hnew'.out, List.map_append, hln'.out]; exact hq2, hkC.then hk1 (fun i hi h => by have := hb i h; omega), fun b hb' => ?_⟩
              rcases ho1 with h | ⟨i', h, hle⟩
              · exact hb b (h ▸ hb')
              · rw [hb'] at h; cases h; have := hkC.size; rw [World.size_alloc] at hle; omega
            case measure => simp [intOf]; omega
end Go.Proofs.YtebnflpanfmicaaGreatDoor
namespace Go.Proofs.YtebnflpanfmicaaGreatDoor
open Go.RowKit
end Go.Proofs.YtebnflpanfmicaaGreatDoor
namespace Go.Proofs.YtebnflpanfmicaaGreatDoor
open Go.RowKit
end Go.Proofs.YtebnflpanfmicaaGreatDoor
