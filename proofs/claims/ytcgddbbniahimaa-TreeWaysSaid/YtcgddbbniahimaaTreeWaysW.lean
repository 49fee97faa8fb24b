/-
  The law TreeWays, walked.
-/
import Derived.Test.YtcgddbbniahimaaTreePortTop
import Derived.Test.YtcgddbbniahimaaTreeStarW
import Derived.Sort.AtCall
import Derived.Lib.QuietBelow
set_option linter.unusedVariables false
set_option linter.unusedSimpArgs false
namespace Go.Proofs.Ytcgddbbniahimaa
open Go.RowKit Go.Sort

theorem quiet_of {W : World} {f : FuncId} {args : Array Value} {v : Value} (d : Nat) (os : Array Obj) (c : ∀ A, Keeps (fun _ => False) W A → Calls Try.prog f args A fun e w' => e = .returned v ∧ Keeps (fun _ => False) A w') :
    Calls Try.prog f args (grow (redrawn W d) os) fun e w' => e = .returned v ∧ ∃ p : Regrown, w' = grow (redrawn W p.d) p.os := by
  have h : Keeps (fun _ => False) W (grow (redrawn W d) os) := Keeps.of_below (below_regrown W d os)
  exact (c _ h).mono fun _ _ ⟨h1, h2⟩ => ⟨h1, regrown_of_below (keeps_below (h.trans h2))⟩
theorem tree_right {t : List Nat} (ht : Tree t) (h5 : t.length ≤ 5) : rightI (t.map Int.ofNat) = true := by
  rw [right_yes (fun j h => by
    rw [List.getElem_map]
    have := ht j (by simpa using h)
    exact ⟨Int.natCast_nonneg _, Int.ofNat_le.2 this⟩)]
  exact decide_eq_true (by rw [List.length_map]; omega)

set_option maxRecDepth 100000 in
set_option maxHeartbeats 8000000 in
theorem treeWays_walk (v0 : Value) (a1 a2 : Int) (W : World) (w0 : Arg Try.prog W 22 v0) (w1 : (Lit.int .u8 a1).wf = true) (w2 : (Lit.int .u8 a2).wf = true) :
    Calls Try.prog 8 #[v0, .int .u8 a1, .int .u8 a2] W fun e w' => e = .returned (.bool true) ∧ Below W.heap.size W w' := by
  obtain ⟨zs, hz, hR⟩ := bytes_of_arg w0
  obtain ⟨a, rfl, ha⟩ := u8_nat w1
  obtain ⟨b, rfl, hb⟩ := u8_nat w2
  obtain ⟨htree, hp, h5⟩ := ofL_tree zs
  clear w0 w1 w2
  go_enter Try.func8, Try.ntmps8
  go_wp2_with fail
  refine (of_calls v0 zs W hR hz).mono ?_
  rintro e C ⟨u, rfl, hu, hkC, _⟩
  clear hR hz
  generalize ofL zs = T at *
  obtain ⟨uA, uc, hsh, _, _⟩ := hu.shape
  subst hsh
  have hnz : ¬ ((T.length : Int) + 1 = 0) := by omega
  obtain ⟨v, hv, hvl⟩ : ∃ k : Nat, (a : Int) % ((T.length : Int) + 1) = (k : Int) ∧ k ≤ T.length := ⟨a % (T.length + 1), by rw [Int.natCast_emod]; rfl, by have := Nat.mod_lt a (show T.length + 1 > 0 by omega); omega⟩
  obtain ⟨x, hx, hxl⟩ : ∃ k : Nat, (b : Int) % ((T.length : Int) + 1) = (k : Int) ∧ k ≤ T.length := ⟨b % (T.length + 1), by rw [Int.natCast_emod]; rfl, by have := Nat.mod_lt b (show T.length + 1 > 0 by omega); omega⟩
  have hT := pathNs T hu
  obtain ⟨c0, c1, c2, c3⟩ := chkW_at htree h5 hvl hxl
  have hlpos := pathN_pos T htree v x
  have hp1 := tpath_calls (.slice uA T.length uc) (T.map Int.ofNat) v x C hT
  have hp2 := fun B hB => tpath_calls (.slice uA T.length uc) (T.map Int.ofNat) x v B (hT.keepsF hB hB.size)
  rw [pathI_tree htree h5 hvl hxl] at hp1
  rw [pathI_tree htree h5 hxl hvl, c2, List.length_reverse] at hp2
  have hlay := fun B (hB : Keeps (fun _ => False) C B) => lay_yes Nums.zero 0 none none none 0 0 0 0 0 uA uc T [] B htree hp h5 ((hu.keeps hB (fun _ _ h => h)).reads) (QS.nil _ 3 _).reads (by decide) (tree_right htree h5)
  have hport := fun (Ea : Option Addr) (ec : Nat) (Wa : Option Addr) (wc : Nat) (Na : Option Addr) (nn nc : Nat) (y z : Nat) A (hE : QS A 51 2 (.slice Ea T.length ec) T.length (ecells (edgesOf T T.length))) =>
    port_calls Nums.zero ((T.length : Int) + 1) Ea Wa Na ec 0 wc nn nc (edgesOf T T.length) y z A (by rw [edgesOf_length]; exact hE) (by rw [edgesOf_length]; exact h5)
  simp only [edgesOf_length] at hport
  replace c0 := Lib.hid c0
  replace c1 := Lib.hid c1
  replace c3 := Lib.hid c3
  clear c2
  generalize pathN T v x = L at *
  generalize hEe : edgesOf T T.length = E at *
  have hEe' := Lib.hid hEe
  clear hEe
  clear hT hu htree
  have hlay' := Lib.hid hlay
  have hport' := Lib.hid hport
  have hp2' := Lib.hid hp2
  clear hlay hport hp2
  go_wp2_with fail
  refine hp1.mono ?_
  rintro e D ⟨l, rfl, hl, hkD, _⟩
  clear hp1
  obtain ⟨lA, lc, hsh, hlc, hlc2⟩ := hl.shape
  subst hsh
  have hmx : (L.length : Int) ≤ 9223372036854775807 := by simp only [maxLen] at hlc2; omega
  go_wp2_with fail
  refine (hp2'.out D hkD).mono ?_
  rintro e A ⟨m, rfl, hm, hkA, _⟩
  obtain ⟨mA, mc, hsh, _, _⟩ := hm.shape
  subst hsh
  replace hl := hl.keeps hkA (fun _ _ h => h)
  go_wp2_with fail
  refine (hlay'.out A (hkD.trans hkA)).mono ?_
  rintro e B ⟨Ea, ec, Wa, wc, Na, nc, rfl, hE, _, _, _, _, hkB⟩
  rw [hEe'.out] at hE
  replace hl := hl.keeps hkB (fun _ _ h => h)
  replace hm := hm.keeps hkB (fun _ _ h => h)
  have hkW := hkC.trans ((hkD.trans hkA).trans hkB)
  clear hlay' hp2' hkC hkD hkA hkB
  unfold Nums.plan Nums.zero
  rw [show ([] : List Int).length = 0 from rfl]
  obtain ⟨g, off, c', e', _, hcl, _⟩ := hl.cell hlpos
  cases e'
  obtain ⟨g2, off2, c2', e', _, hcm, _⟩ := hm.cell hlpos
  cases e'
  have hLc : ∀ j, j < L.length → B.cell? ⟨g, off + j, none⟩ = some (encI (L.getD j 0)) := fun j hj => hcl j _ (by rw [List.getElem?_map, List.getD_eq_getElem?_getD, List.getElem?_eq_getElem hj]; rfl)
  have hMc : ∀ j z, j < L.length → z = L.length - 1 - j → B.cell? ⟨g2, off2 + z, none⟩ = some (encI (L.getD j 0)) := fun j z hj hz => hcm z _ (by
    rw [List.getElem?_map, List.getElem?_reverse (by omega), List.getD_eq_getElem?_getD, hz, show L.length - 1 - (L.length - 1 - j) = j by omega, List.getElem?_eq_getElem hj]; rfl)
  have l0 : ∀ o, (B.alloc o).cell? ⟨g, off, none⟩ = some (encI v) := fun o => (Keeps.alloc (fun _ => False) B o).cell (by have := hLc 0 hlpos; rw [c0.out] at this; exact this) (fun h => h)
  obtain ⟨z1, hz1, hz1'⟩ : ∃ z : Nat, (L.length : Int) - 1 = (z : Int) ∧ z = L.length - 1 := ⟨L.length - 1, by omega, rfl⟩
  have l1 : ∀ o, (B.alloc o).cell? ⟨g, off + z1, none⟩ = some (encI x) := fun o => (Keeps.alloc (fun _ => False) B o).cell (by have := hLc z1 (by omega); rw [hz1', c1.out] at this; rw [hz1']; exact this) (fun h => h)
  have hpi : (0 : Int) < (L.length : Int) := by omega
  have hz2 : (z1 : Int) < (L.length : Int) := by omega
  have hz0 : (0 : Int) ≤ (z1 : Int) := by omega
  have hne0 : ((L.length : Int) == 0) = false := by rw [beq_eq_false_iff_ne]; omega
  have hLc' := Lib.hid hLc
  have hMc' := Lib.hid hMc
  clear hLc hMc hcl hcm hz1'
  go_wp2_with fail
  have hPX : PBox (B.alloc (.cells #[.int .i64 ((T.length : Int) + 1), .slice Ea T.length ec, .int .i64 0, .int .i64 0, .int .i64 0, .int .i64 0, .int .i64 0, .int .i64 0, .slice Wa 0 wc, .int .u16 0, .slice Na (T.length + 1) nc] 29)) B.heap.size #[.int .i64 ((T.length : Int) + 1), .slice Ea T.length ec, .int .i64 0, .int .i64 0, .int .i64 0, .int .i64 0, .int .i64 0, .int .i64 0, .slice Wa 0 wc, .int .u16 0, .slice Na (T.length + 1) nc] := blk_new _ _
  have hkX : Keeps (fun _ => False) B (B.alloc (.cells #[.int .i64 ((T.length : Int) + 1), .slice Ea T.length ec, .int .i64 0, .int .i64 0, .int .i64 0, .int .i64 0, .int .i64 0, .int .i64 0, .slice Wa 0 wc, .int .u16 0, .slice Na (T.length + 1) nc] 29)) := Keeps.alloc _ _ _
  generalize B.alloc (.cells #[.int .i64 ((T.length : Int) + 1), .slice Ea T.length ec, .int .i64 0, .int .i64 0, .int .i64 0, .int .i64 0, .int .i64 0, .int .i64 0, .slice Wa 0 wc, .int .u16 0, .slice Na (T.length + 1) nc] 29) = X at hPX hkX ⊢
  generalize B.heap.size = b12 at hPX ⊢
  clear l0 l1 hpi hz2 hz0 hne0
  go_loopw [14] (fun s wr => ∃ i : Nat, i ≤ L.length ∧ s = .int .i64 (i : Int) ∧ Keeps (fun _ => False) X wr) (fun s _ => L.length - (intOf s).toNat)
  case atStart => exact ⟨0, Nat.zero_le _, rfl, Keeps.refl _ _⟩
  case round =>
    obtain ⟨i, hi, rfl, hk⟩ := hrel
    by_cases hil : i < L.length
    · have hii : (i : Int) < (L.length : Int) := by omega
      obtain ⟨k1, k2⟩ := c3.out i hil
      have hkB := hkX.trans hk
      obtain ⟨z, hz, hzl, hz0⟩ : ∃ z : Nat, (z1 : Int) - (i : Int) = (z : Int) ∧ z < L.length ∧ z = L.length - 1 - i := ⟨L.length - 1 - i, by omega, by omega, rfl⟩
      have hzi : (z : Int) < (L.length : Int) := by omega
      have hzn : (0 : Int) ≤ (z : Int) := by omega
      have q1 := hkB.cell (hLc'.out i hil) (fun h => h)
      have q2 := hkB.cell (hMc'.out i z hil hz0) (fun h => h)
      obtain ⟨x0, x1, x2, x3, x4, x5, x6, x7, x8, x9, x10, xf⟩ := PBox.all (show PBox wr b12 _ from blk_keeps hk hPX (fun h => h))
      have Hk2 : Hid (∀ k, k < i → L.getD k 0 ≠ L.getD i 0) := Lib.hid k2
      clear hz0 k2 xf
      go_wp2_with fail
      have r1 := cell_regrown q1
      have r2 := cell_regrown q2
      have X0 := cell_regrown x0
      have X1 := cell_regrown x1
      have X2 := cell_regrown x2
      have X3 := cell_regrown x3
      have X4 := cell_regrown x4
      have X5 := cell_regrown x5
      have X6 := cell_regrown x6
      have X7 := cell_regrown x7
      have X8 := cell_regrown x8
      have X9 := cell_regrown x9
      have X10 := cell_regrown x10
      clear x0 x1 x2 x3 x4 x5 x6 x7 x8 x9 x10 q1 q2
      by_cases hi0 : 0 < i
      · have hi0' : (0 : Int) < (i : Int) := by omega
        obtain ⟨j, hj, hj'⟩ : ∃ j : Nat, (i : Int) - 1 = (j : Int) ∧ i - 1 = j := ⟨i - 1, by omega, rfl⟩
        have hkp := k1 hi0
        rw [hj'] at hkp
        have q3 := hkB.cell (hLc'.out j (by omega)) (fun h => h)
        have r3 := cell_regrown q3
        have hjl : (j : Int) < (L.length : Int) := by omega
        have hj0 : (0 : Int) ≤ (j : Int) := by omega
        clear k1 q3 hj'
        generalize hyv : L.getD i 0 = y at r1 r2 hkp
        generalize L.getD j 0 = y' at r3 hkp
        have P := Lib.hid (p := ∀ d os, Calls Try.prog 21 #[.agg #[.int .i64 ((T.length : Int) + 1), .slice Ea T.length ec, .int .i64 0, .int .i64 0, .int .i64 0, .int .i64 0, .int .i64 0, .int .i64 0, .slice Wa 0 wc, .int .u16 0, .slice Na (T.length + 1) nc], .int .i64 y', .int .i64 y] (grow (redrawn wr d) os) fun e w' => e = .returned (.int .i64 (portI E y' y)) ∧ ∃ p : Regrown, w' = grow (redrawn wr p.d) p.os) fun d os =>
          quiet_of d os (fun A hA => hport'.out Ea ec Wa wc Na (T.length + 1) nc y' y A (hE.keeps (hkB.trans hA) (fun _ _ h => h)))
        have hpn : ¬ portI E y' y < 0 := by omega
        generalize portI E y' y = pv at *
        refine wp_region_quiet_below (by kernel_rfl) (by kernel_rfl) ?_
        clear hkp hyv
        repeat (go_big_quiet_step ((go_at_call 21; exact P.out _ _)))
        clear r3 P hpn
        refine wpQuiet_nil ?_
        intro w' hw'
        obtain ⟨⟨nq, osq⟩, hw''⟩ := hw'
        have hkV : Keeps (fun _ => False) wr (grow (redrawn wr nq) osq) := Keeps.of_below (below_regrown wr nq osq)
        subst hw''
        generalize grow (redrawn wr nq) osq = V at hkV ⊢
        clear r1 r2 X0 X1 X2 X3 X4 X5 X6 X7 X8 X9 X10 hz hzl hzi hzn hz1
        go_wp2_with fail
        go_loopw [15] (fun s wr2 => ∃ k : Nat, k ≤ i ∧ s = .int .i64 (k : Int) ∧ Keeps (fun _ => False) V wr2) (fun s _ => i - (intOf s).toNat)
        case atStart => exact ⟨0, Nat.zero_le _, rfl, Keeps.refl _ _⟩
        case round =>
          obtain ⟨k, hki, rfl, hk2⟩ := hrel
          have hkB2 := hkB.trans (hkV.trans hk2)
          by_cases hkl : k < i
          · have hkl' : (k : Int) < (i : Int) := by omega
            have hkL : (k : Int) < (L.length : Int) := by omega
            have hk0 : (0 : Int) ≤ (k : Int) := by omega
            have hi00 : (0 : Int) ≤ (i : Int) := by omega
            have q1 := hkB2.cell (hLc'.out i hil) (fun h => h)
            have q2 := hkB2.cell (hLc'.out k (by omega)) (fun h => h)
            have hne := Hk2.out k hkl
            generalize L.getD k 0 = yk at *
            generalize L.getD i 0 = yi at *
            have heq : ((yk : Int) == (yi : Int)) = false := by rw [beq_eq_false_iff_ne]; omega
            clear hne
            go_wp2_with fail
            go_quiet (fail)
            go_wp2_with fail
            go_roundw
            case rel => exact ⟨k + 1, by omega, by simp, hk2.trans (Keeps.drewN _ _ _)⟩
            case measure => simp [intOf]; omega
          · have hkl' : ¬ (k : Int) < (i : Int) := by omega
            go_wp2_with fail
            go_roundw
            case rel => exact ⟨i + 1, by omega, by simp, hk.trans (hkV.trans hk2)⟩
            case measure => simp [intOf]; omega
      · have hn0 : ¬ 0 < i := by omega
        have hn0' : ¬ (0 : Int) < (i : Int) := by omega
        clear k1
        generalize hyv : L.getD i 0 = y at r1 r2
        refine wp_region_quiet_below (by kernel_rfl) (by kernel_rfl) ?_
        repeat (go_big_quiet_step (fail))
        clear hn0 hn0' hyv
        refine wpQuiet_nil ?_
        intro w' hw'
        obtain ⟨⟨nq, osq⟩, hw''⟩ := hw'
        have hkV : Keeps (fun _ => False) wr (grow (redrawn wr nq) osq) := Keeps.of_below (below_regrown wr nq osq)
        subst hw''
        generalize grow (redrawn wr nq) osq = V at hkV ⊢
        clear r1 r2 X0 X1 X2 X3 X4 X5 X6 X7 X8 X9 X10 hz hzl hzi hzn hz1
        go_wp2_with fail
        go_loopw [15] (fun s wr2 => ∃ k : Nat, k ≤ i ∧ s = .int .i64 (k : Int) ∧ Keeps (fun _ => False) V wr2) (fun s _ => i - (intOf s).toNat)
        case atStart => exact ⟨0, Nat.zero_le _, rfl, Keeps.refl _ _⟩
        case round =>
          obtain ⟨k, hki, rfl, hk2⟩ := hrel
          have hkB2 := hkB.trans (hkV.trans hk2)
          by_cases hkl : k < i
          · have hkl' : (k : Int) < (i : Int) := by omega
            have hkL : (k : Int) < (L.length : Int) := by omega
            have hk0 : (0 : Int) ≤ (k : Int) := by omega
            have hi00 : (0 : Int) ≤ (i : Int) := by omega
            have q1 := hkB2.cell (hLc'.out i hil) (fun h => h)
            have q2 := hkB2.cell (hLc'.out k (by omega)) (fun h => h)
            have hne := Hk2.out k hkl
            generalize L.getD k 0 = yk at *
            generalize L.getD i 0 = yi at *
            have heq : ((yk : Int) == (yi : Int)) = false := by rw [beq_eq_false_iff_ne]; omega
            clear hne
            go_wp2_with fail
            go_quiet (fail)
            go_wp2_with fail
            go_roundw
            case rel => exact ⟨k + 1, by omega, by simp, hk2.trans (Keeps.drewN _ _ _)⟩
            case measure => simp [intOf]; omega
          · have hkl' : ¬ (k : Int) < (i : Int) := by omega
            go_wp2_with fail
            go_roundw
            case rel => exact ⟨i + 1, by omega, by simp, hk.trans (hkV.trans hk2)⟩
            case measure => simp [intOf]; omega
    · obtain rfl : i = L.length := by omega
      go_wp2_with fail
      refine (known_calls _).mono ?_
      rintro e A ⟨rfl, hkA⟩
      go_wp2_with fail
      go_ret
      exact ⟨rfl, keeps_below (hkW.trans ((hkX.trans hk).trans hkA))⟩
end Go.Proofs.Ytcgddbbniahimaa
