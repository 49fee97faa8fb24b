/-
  The document's round, walked.
-/
import Derived.Test.YtlfohlgooomdfaaDoorIslipRef
import Derived.Test.YtlfohlgooomdfaaDoorIslipPlain
set_option linter.unusedVariables false
set_option linter.unusedSimpArgs false
namespace Go.Proofs.YtlfohlgooomdfaaDoor
open Go.RowKit Go.Sort

theorem lst_succ {α : Type} (n : Nat) (f : Nat → α) : lst (n + 1) f = lst n f ++ [f n] := by simp [lst, List.range_succ]
theorem grB_at (R : Nat → Nat → Bool) (s : St) (n i k : Nat) : grB R s n i (k + 1) = grB R s n i k + if (freeB s.m n k && (gp R s n k == (i : Int))) = true then 2 ^ k else 0 := rfl
theorem grB_no {R : Nat → Nat → Bool} {s : St} {n k : Nat} (h : gp R s n k = -1 ∨ freeB s.m n k = false) : (lst n fun i => grB R s n i k) = lst n fun i => grB R s n i (k + 1) := lst_congr fun i _ => by
  rw [grB_at]
  rcases h with h | h
  · have : ((-1 : Int) == (i : Int)) = false := by rw [beq_eq_false_iff_ne]; omega
    simp [h, this]
  · simp [h]
theorem grB_yes {R : Nat → Nat → Bool} {s : St} {n k i : Nat} (hg : gp R s n k = (i : Int)) (hf : freeB s.m n k = true) : (lst n fun i => grB R s n i k).set i (grB R s n i k + 2 ^ k) = lst n fun i => grB R s n i (k + 1) := by
  rw [lst_set]
  refine lst_congr fun j _ => ?_
  unfold upd
  rw [grB_at, hf, hg]
  by_cases ej : j = i
  · subst ej; simp
  · rw [if_neg ej]
    have : ((i : Int) == (j : Int)) = false := by rw [beq_eq_false_iff_ne]; omega
    simp [this]
theorem made_u16 (n : Nat) (R : Nat → Nat → Bool) (s : St) : madeCells #[.int .u16 0] n = ((lst n fun i => grB R s n i 0).map encU).toArray := zeros_lst n R s
theorem RArb.two {w : World} {b n g a : Nat} {G A : Nat → Nat} (h : RArb w b n (lst n G) (lst n A) g a) (k j p q : Nat) (hgb : b ≠ g) (hab : b ≠ a) :
    RArb ((w.setCell ⟨g, k, none⟩ (.int .i64 (p : Int))).setCell ⟨a, j, none⟩ (.int .i64 (q : Int))).drew.drew b n (lst n (upd G k p)) (lst n (upd A j q)) g a := by
  have g1 := blk_set h.gr k (encI p)
  rw [List.setIfInBounds_toArray, ← List.map_set (f := encI) (a := p), lst_set] at g1
  have a1 := blk_set (blk_other h.ac ⟨g, k, none⟩ (.int .i64 (p : Int)) (Ne.symm h.ne)) j (encI q)
  rw [List.setIfInBounds_toArray, ← List.map_set (f := encI) (a := q), lst_set] at a1
  exact ⟨blk_other (blk_other h.box _ _ hgb) _ _ hab, blk_other g1 _ _ h.ne, a1, h.ne, lst_length _ _, lst_length _ _⟩

attribute [local irreducible] pickI pickOf
set_option maxRecDepth 100000 in
set_option maxHeartbeats 8000000 in
theorem round_calls (reqs : List Nat) (s : St) (n b g a : Nat) (first : Bool) (h1 : 1 ≤ n) (h2 : n ≤ 16) (v : Value) (vA : Option Addr) (vc : Nat) (w : World) (hA : RArb w b n (lst n s.G) (lst n s.A) g a) (hF : Fit n s) (hlen : reqs.length = n) (hq : ∀ x ∈ reqs, x < 65536)
    (hv : Reads w w.heap.size 1 v n (reqs.map encU)) (hm : QS w 3 1 (.slice vA n vc) n ((lst n s.m).map (Value.int .i64))) (hne : ∀ k, (Value.slice vA n vc).ownBlock = some k → k ≠ g ∧ k ≠ a) :
    Calls Tryd.prog 27 #[.pointer (some ⟨b, 0, none⟩), v, .slice vA n vc, .bool first] w fun e w' => ∃ u, e = .returned u ∧ QS w' 3 1 u n ((lst n (roundP (asks reqs) n first s).m).map (Value.int .i64)) ∧
      RArb w' b n (lst n (roundP (asks reqs) n first s).G) (lst n (roundP (asks reqs) n first s).A) g a ∧ Keeps (fun k => k = g ∨ k = a) w w' ∧ ∀ k, u.ownBlock = some k → w.heap.size ≤ k := by
  have hms := fun w => run_make_row' (P := Tryd.prog) 28 29 (.int .u16 0) 2 Tryd.underlying28 info_u16 rfl .i64 .i64 n (by omega) (by omega) w
  obtain ⟨x0, x1⟩ := hA.cells
  obtain ⟨rA, rc, rfl⟩ : ∃ rA rc, v = .slice rA n rc := by obtain ⟨_, A, c, e, _⟩ := hv; exact ⟨A, c, e⟩
  have HAsk := Lib.hid (p := ∀ k, k < n → ∀ W, Keeps (fun _ => False) w W → Calls Tryd.prog 33 #[.slice rA n rc, .slice vA n vc, .int .i64 k] W fun e w' => e = .returned (.int .u16 (askB (asks reqs) s.m n k : Nat)) ∧ w' = W)
    fun k hk W hW => asks_calls reqs s.m n k h2 hk _ vA vc W hlen hq ((hv.below (hW.below (Nat.le_refl _) (fun _ _ h => h))).wider hW.size) (hm.keeps hW (fun _ _ h => h))
  have HTak := Lib.hid (p := ∀ k : Nat, ∀ W, Keeps (fun _ => False) w W → Calls Tryd.prog 34 #[.slice vA n vc, .int .i64 k] W fun e w' => e = .returned (.bool (!freeB s.m n k)) ∧ w' = W)
    fun k W hW => taken_calls s.m n k h2 vA vc W (hm.keeps hW (fun _ _ h => h))
  generalize asks reqs = R at *
  have hA0 := Lib.hid hA
  have hm0 := Lib.hid hm
  clear hA hm hv hq
  go_enter Tryd.func27, Tryd.ntmps27
  go_wp2_with fail
  have hM0 : (w.alloc (.cells (madeCells #[.int .u16 0] n) 29)).heap[w.heap.size]? = some (.cells ((lst n fun i => grB R s n i 0).map encU).toArray 29 (0, 0)) := by
    rw [← zeros_lst]; exact blk_new _ _
  have hK0 : Keeps (fun _ => False) w (w.alloc (.cells (madeCells #[.int .u16 0] n) 29)) := Keeps.alloc _ _ _
  have hZ0 : w.heap.size < (w.alloc (.cells (madeCells #[.int .u16 0] n) 29)).heap.size := by simp
  generalize w.alloc (.cells (madeCells #[.int .u16 0] n) 29) = W0 at hM0 hK0 hZ0 ⊢
  clear hms
  go_loopw [11] (fun v wr => ∃ k : Nat, k ≤ n ∧ v = .int .i64 (k : Int) ∧ Keeps (fun _ => False) w wr ∧ w.heap.size < wr.heap.size ∧ wr.heap[w.heap.size]? = some (.cells ((lst n fun i => grB R s n i k).map encU).toArray 29 (0, 0))) (fun v _ => n - (intOf v).toNat)
  case atStart => exact ⟨0, Nat.zero_le _, rfl, hK0, hZ0, hM0⟩
  case round =>
    obtain ⟨k, hkn, rfl, hk, hz, hm⟩ := hrel
    clear hK0 hM0 hZ0
    by_cases hlt : k < n
    · have hlt' : (k : Int) < (n : Int) := by omega
      have hk0 : (0 : Int) ≤ (k : Int) := by omega
      have z0 := hk.cell x0 (fun h => h)
      have zg : wr.cell? ⟨g, k, none⟩ = some (.int .i64 (s.G k : Nat)) := hk.cell (by rw [blk_cell hA0.out.gr]; simp [lst_at _ hlt]) (fun h => h)
      have hgk := hF.g k hlt
      have C1 := Lib.hid (fun W hW => HAsk.out k hlt W (hk.trans hW))
      have C2 := Lib.hid (fun W => rpick_calls (askB R s.m n k) (s.G k) n (bt_lt16 _ h2) W)
      have C3 := Lib.hid (fun W hW => HTak.out k W (hk.trans hW))
      have hgp : pickI (askB R s.m n k) (s.G k) n = gp R s n k := pickI_nat _ _ _ hgk h2
      rw [hgp] at C2
      clear hgp
      go_wp2_with fail
      go_quiet ((first | (go_at_call 33; exact Calls.quiet_of_same (C1.out _ (Keeps.drewN _ _ _))) | (go_at_call 33; exact Calls.quiet_of_same (C1.out _ (Keeps.refl _ _))) | (go_at_call 32; exact Calls.quiet_of_same (C2.out _))))
      have hkV : Keeps (fun _ => False) wr (wr.drewN nq) := Keeps.drewN _ _ _
      have hzV : (wr.drewN nq).heap.size = wr.heap.size := rfl
      generalize wr.drewN nq = V at hkV hzV ⊢
      replace hm := blk_keeps hkV hm (fun h => h)
      replace hk := hk.trans hkV
      rw [← hzV] at hz
      clear hkV hzV z0 zg C1 C2 C3 HAsk wr
      rcases pick_cases (askB R s.m n k) (s.G k) n hgk with ⟨e, _⟩ | ⟨i, e, hin, _⟩
      · have hg : gp R s n k = -1 := e
        rw [grB_no (.inl hg)] at hm
        rw [hg]
        clear hg e
        go_wp2_with fail
        go_roundw
        case rel => exact ⟨k + 1, by omega, rfl, hk, hz, hm⟩
        case measure => simp [intOf]; omega
      · have hg : gp R s n k = (i : Int) := e
        clear e
        have c3 := HTak.out k V hk
        have hin' : (i : Int) < (n : Int) := by omega
        have hi0 : (0 : Int) ≤ (i : Int) := by omega
        cases hf : freeB s.m n k with
        | false =>
          rw [grB_no (.inr hf)] at hm
          rw [hg]
          rw [hf] at c3
          clear hf hg
          go_wp2_with fail
          refine c3.mono ?_
          rintro e w' ⟨rfl, hw'⟩
          subst w'
          clear c3
          go_wp2_with fail
          go_roundw
          case rel => exact ⟨k + 1, by omega, rfl, hk, hz, hm⟩
          case measure => simp [intOf]; omega
        | true =>
          have hcm : V.cell? ⟨w.heap.size, i, none⟩ = some (.int .u16 (grB R s n i k : Nat)) := by rw [blk_cell hm]; simp [lst_at _ hin]
          have hfm : V.frozen? ⟨w.heap.size, i, none⟩ = false := blk_frozen hm i
          have hnew := blk_set hm i (.int .u16 (grB R s n i k + 2 ^ k : Nat))
          rw [List.setIfInBounds_toArray, ← List.map_set (f := encU) (a := grB R s n i k + 2 ^ k), grB_yes hg hf] at hnew
          rw [hg]
          rw [hf] at c3
          clear hf hg
          have hadd := add_bit (grB R s n i k) k (bt_lt _ k) (by omega)
          have c2 := fun w => rbit_calls k (by omega) w
          generalize hcc : grB R s n i k + 2 ^ k = c' at hadd hnew
          clear hcc
          generalize grB R s n i k = c at hadd hcm
          generalize 2 ^ k = p at hadd c2
          have hkv : Keeps (fun _ => False) w (V.setCell ⟨w.heap.size, i, none⟩ (.int .u16 (c' : Int))).drew := (hk.then (Keeps.setCell (fun i => i = w.heap.size) _ _ _ rfl) (fun i hi h => by omega)).trans (Keeps.drew _ _)
          have hzv : w.heap.size < (V.setCell ⟨w.heap.size, i, none⟩ (.int .u16 (c' : Int))).drew.heap.size := by simp [World.setCell, World.drew]; exact hz
          have hnew2 : (V.setCell ⟨w.heap.size, i, none⟩ (.int .u16 (c' : Int))).drew.heap[w.heap.size]? = some (.cells ((lst n fun i => grB R s n i (k + 1)).map encU).toArray 29 (0, 0)) := hnew
          clear hm hk hnew
          go_wp2_with fail
          refine c3.mono ?_
          rintro e w' ⟨rfl, hw'⟩
          subst w'
          clear c3
          go_wp2_with fail
          go_region_with (go_at_call 15; refine (c2 _).mono ?_; rintro e w'' ⟨rfl, rfl⟩)
          all_goals
            go_wp2_with fail
            go_roundw
            case rel => exact ⟨k + 1, by omega, rfl, hkv, hzv, hnew2⟩
            case measure => simp [intOf]; omega
    · obtain rfl : n = k := by omega
      have hlt' : ¬ (n : Int) < (n : Int) := by omega
      clear HAsk HTak
      have hbl := blk_lt hA0.out.box
      have hgl := blk_lt hA0.out.gr
      have hal := blk_lt hA0.out.ac
      have hgb : b ≠ g := fun e => by have h1 := hA0.out.box; rw [e, hA0.out.gr] at h1; simp at h1
      have hab : b ≠ a := fun e => by have h1 := hA0.out.box; rw [e, hA0.out.ac] at h1; simp at h1
      have hga := hA0.out.ne
      have hMr := Lib.hid (hm0.out.keeps hk (fun _ _ h => h))
      have hA1 : RArb wr b n (lst n (gAt R s n first 0)) (lst n (aAt R s n first 0)) g a := hA0.out.keeps hk (fun _ _ h => h)
      clear hm0 hA0 x0 x1
      have hsz := hk.size
      go_wp2_with fail
      rename World => X0
      go_loopw [13, 14] (fun nx i wq => ∃ j : Nat, j ≤ n ∧ QS wq 3 1 nx j ((lst j (roundP R n first s).m).map (Value.int .i64)) ∧ (∀ k, nx.ownBlock = some k → X0.heap.size ≤ k) ∧ Keeps (fun k => k = g ∨ k = a) X0 wq ∧ RArb wq b n (lst n (gAt R s n first j)) (lst n (aAt R s n first j)) g a ∧ i = .int .i64 (j : Int)) (fun _ i _ => n - (intOf i).toNat)
      case atStart => exact ⟨0, Nat.zero_le _, QS.nil _ _ _, (fun k h => by cases h), Keeps.refl _ _, hA1, rfl⟩
      case round =>
        obtain ⟨j, hjn, hqn, hob, hkq, hA, rfl⟩ := hrel
        clear hA1
        revert hqn hob
        generalize u13 = nx
        intro hqn hob
        by_cases hjl : j < n
        · have hjl' : (j : Int) < (n : Int) := by omega
          have hj0 : (0 : Int) ≤ (j : Int) := by omega
          obtain ⟨mg, mo, rfl, hmc⟩ := hMr.out.ints_at (by omega)
          have hmg := hne mg rfl
          have ym := hmc j (by simp [lst_length]; omega)
          have hmj : (lst n s.m)[j]'(by simp [lst_length]; omega) = s.m j := by simp [lst]
          rw [hmj] at ym
          have ym := hkq.cell ym (fun h => by rcases h with h | h; exact hmg.1 h; exact hmg.2 h)
          clear hmj hmc hmg hMr
          have hrow := round_m R s n first j
          by_cases hneg : s.m j < 0
          · obtain ⟨z0, z1⟩ := hA.cells
            have za : wr.cell? ⟨a, j, none⟩ = some (.int .i64 (s.A j : Nat)) := by
              rw [blk_cell hA.ac]; simp [lst_at _ hjl, aAt_self j j (Nat.le_refl _)]
            have q0 : wr.cell? ⟨w.heap.size, j, none⟩ = some (.int .u16 (grB R s n j n : Nat)) := hkq.cell (by rw [blk_cell hm]; simp [lst_at _ hjl]) (fun h => by have h' : w.heap.size = g ∨ w.heap.size = a := h; omega)
            have cp := fun W => rpick_calls (grB R s n j n) (s.A j) n (bt_lt16 _ h2) W
            rw [pickI_nat _ _ _ (hF.a j hjl) h2] at cp
            have hacc : acc R s n j = pickOf (grB R s n j n) (s.A j) n := rfl
            rw [← hacc] at cp
            have C := Lib.hid cp
            clear hacc cp
            go_wp2_with fail
            go_quiet ((go_at_call 32; exact Calls.quiet_of_same (C.out _)))
            have hkV : Keeps (fun _ => False) wr (wr.drewN nq) := Keeps.drewN _ _ _
            generalize wr.drewN nq = V at hkV ⊢
            replace hqn := hqn.keeps hkV (fun _ _ h => h)
            replace hkq := hkq.trans (hkV.mono (fun _ _ h => h.elim))
            replace hA := hA.keeps hkV (fun _ _ h => h)
            clear hkV z0 z1 za q0 C ym wr
            rcases acc_cases (R := R) hF hjl with ⟨e, _⟩ | ⟨k, e, hkn, hfr, _, hmj, _⟩
            · have ht : took R s n j = false := by unfold took; rw [e]; simp
              have hlo := hF.lo j
              rw [if_neg (by simp [ht]), show s.m j = -1 by omega] at hrow
              rw [show gAt R s n first j = gAt R s n first (j + 1) by rw [gAt, if_neg (by simp [ht])], show aAt R s n first j = aAt R s n first (j + 1) by rw [aAt, if_neg (by simp [ht])]] at hA
              rw [e]
              have hr := Lib.hid hrow
              clear hrow ht e hneg
              have hq0 : QS (V.alloc (.cells #[.int .i64 (-1)] 3)) 3 1 nx j ((lst j (roundP R n first s).m).map (Value.int .i64)) := hqn.alloc _
              have hsrc : Src Tryd.prog 1 25 (.slice (some ⟨V.heap.size, 0, none⟩) 1 1) 1 [.int .i64 (-1)] (V.alloc (.cells #[.int .i64 (-1)] 3)) :=
                src_blk Tryd.underlying25 (blk_new _ _) rfl (by intro jj hjj'; match jj, hjj' with | 0, _ => rfl) (by intro u hu; simp at hu; subst hu; rfl)
              have hsz2 := hkq.size
              go_wp2_with (at_builtin; refine wpList_append_QS rfl _ _ 25 25 rfl 3 _ 1 8 Tryd.underlying25 info_int rfl nx j ((lst j (roundP R n first s).m).map (Value.int .i64)) rfl hq0 _ 1 [.int .i64 (-1)] rfl hsrc (by decide) (by omega) ?_; intro A1 c1 w1 hq1 hg1 ho1)
              have hk1 : Keeps (fun i => nx.ownBlock = some i) V w1 := (Keeps.alloc _ _ _).trans (Keeps.grown hg1 (fun i h => h))
              have hw1 : Keeps (fun k => k = g ∨ k = a) X0 w1 := hkq.then hk1 (fun i hi h => by have := hob i h; omega)
              have hA1 := hA.keeps hk1 (fun i hi h => by have := hob i h; omega)
              go_roundw
              case rel =>
                refine ⟨j + 1, by omega, by rw [lst_succ, hr.out, List.map_append]; exact hq1, fun b hb' => ?_, hw1, hA1, by simp⟩
                rcases ho1 with h | ⟨i', h, hle⟩
                · exact hob b (h ▸ hb')
                · rw [hb'] at h; cases h; rw [World.size_alloc] at hle; omega
              case measure => simp [intOf]; omega
            · have ht : took R s n j = true := by rw [took_iff hF hjl]; omega
              rw [if_pos ⟨hjl, ht⟩, e] at hrow
              have hfin := stAt_yes (R := R) (f := first) hF hjl e
              rw [e]
              have hr := Lib.hid hrow
              clear hrow ht e hneg hmj hfr
              have hk0 : (0 : Int) ≤ (k : Int) := by omega
              have hkn' : (k : Int) < (n : Int) := by omega
              cases first with
              | false =>
                rw [show gAt R s n false j = gAt R s n false (j + 1) by rw [gAt, if_neg (by simp)], show aAt R s n false j = aAt R s n false (j + 1) by rw [aAt, if_neg (by simp)]] at hA
                clear hfin
                have hq0 : QS (V.alloc (.cells #[.int .i64 (k : Int)] 3)) 3 1 nx j ((lst j (roundP R n false s).m).map (Value.int .i64)) := hqn.alloc _
                have hsrc : Src Tryd.prog 1 25 (.slice (some ⟨V.heap.size, 0, none⟩) 1 1) 1 [.int .i64 (k : Int)] (V.alloc (.cells #[.int .i64 (k : Int)] 3)) :=
                  src_blk Tryd.underlying25 (blk_new _ _) rfl (by intro jj hjj'; match jj, hjj' with | 0, _ => rfl) (by intro u hu; simp at hu; subst hu; rfl)
                have hsz2 := hkq.size
                go_wp2_with (at_builtin; refine wpList_append_QS rfl _ _ 25 25 rfl 3 _ 1 8 Tryd.underlying25 info_int rfl nx j ((lst j (roundP R n false s).m).map (Value.int .i64)) rfl hq0 _ 1 [.int .i64 (k : Int)] rfl hsrc (by decide) (by omega) ?_; intro A1 c1 w1 hq1 hg1 ho1)
                have hk1 : Keeps (fun i => nx.ownBlock = some i) V w1 := (Keeps.alloc _ _ _).trans (Keeps.grown hg1 (fun i h => h))
                have hw1 : Keeps (fun k => k = g ∨ k = a) X0 w1 := hkq.then hk1 (fun i hi h => by have := hob i h; omega)
                have hA1 := hA.keeps hk1 (fun i hi h => by have := hob i h; omega)
                go_roundw
                case rel =>
                  refine ⟨j + 1, by omega, by rw [lst_succ, hr.out, List.map_append]; exact hq1, fun b hb' => ?_, hw1, hA1, by simp⟩
                  rcases ho1 with h | ⟨i', h, hle⟩
                  · exact hob b (h ▸ hb')
                  · rw [hb'] at h; cases h; rw [World.size_alloc] at hle; omega
                case measure => simp [intOf]; omega
              | true =>
                obtain ⟨pj, hpj, hpj'⟩ : ∃ p : Nat, ((j : Int) + 1) % (n : Int) = (p : Int) ∧ Hid (p = (j + 1) % n) := ⟨(j + 1) % n, by rw [Int.natCast_emod]; rfl, Lib.hid rfl⟩
                obtain ⟨pk, hpk, hpk'⟩ : ∃ p : Nat, ((k : Int) + 1) % (n : Int) = (p : Int) ∧ Hid (p = (k + 1) % n) := ⟨(k + 1) % n, by rw [Int.natCast_emod]; rfl, Lib.hid rfl⟩
                have hwj : IntKind.i64.wrap ((j : Int) + 1) = (j : Int) + 1 := wrap_nat (j + 1) (by omega)
                have hwk : IntKind.i64.wrap ((k : Int) + 1) = (k : Int) + 1 := wrap_nat (k + 1) (by omega)
                have hnz : ¬ (n : Int) = 0 := by omega
                have hnz' : ¬ n = 0 := by omega
                have htj : ((j : Int) + 1).tmod n = (pj : Int) := by rw [Int.tmod_eq_emod_of_nonneg (by omega)]; exact hpj
                have htk : ((k : Int) + 1).tmod n = (pk : Int) := by rw [Int.tmod_eq_emod_of_nonneg (by omega)]; exact hpk
                obtain ⟨z0, z1⟩ := hA.cells
                obtain ⟨vg, zg⟩ : ∃ v : Int, V.cell? ⟨g, k, none⟩ = some (.int .i64 v) := ⟨_, by rw [blk_cell hA.gr]; simp [lst_at _ hkn]; rfl⟩
                have zgf : V.frozen? ⟨g, k, none⟩ = false := blk_frozen hA.gr k
                obtain ⟨va, za⟩ : ∃ v : Int, V.cell? ⟨a, j, none⟩ = some (.int .i64 v) := ⟨_, by rw [blk_cell hA.ac]; simp [lst_at _ hjl]; rfl⟩
                have zaf : V.frozen? ⟨a, j, none⟩ = false := blk_frozen hA.ac j
                have A3' := Lib.hid hA
                clear hA
                have hag : a ≠ g := Ne.symm hga
                go_wp2_with fail
                go_region
                go_wp2_with fail
                go_region
                have A5 : RArb ((V.setCell ⟨g, k, none⟩ (.int .i64 (pj : Int))).setCell ⟨a, j, none⟩ (.int .i64 (pk : Int))).drew.drew b n (lst n (gAt R s n true (j + 1))) (lst n (aAt R s n true (j + 1))) g a := by
                  have h1 : (stAt R s n true (j + 1)).G = gAt R s n true (j + 1) := rfl
                  have h2 : (stAt R s n true (j + 1)).A = aAt R s n true (j + 1) := rfl
                  rw [← h1, ← h2, hfin]
                  simp only [if_true]
                  rw [← hpj'.out, ← hpk'.out]
                  exact A3'.out.two k j pj pk hgb hab
                have hkk : Keeps (fun i => i = g ∨ i = a) V ((V.setCell ⟨g, k, none⟩ (.int .i64 (pj : Int))).setCell ⟨a, j, none⟩ (.int .i64 (pk : Int))).drew.drew :=
                  (((Keeps.setCell (fun i => i = g ∨ i = a) V ⟨g, k, none⟩ _ (.inl rfl)).trans (Keeps.setCell (fun i => i = g ∨ i = a) _ ⟨a, j, none⟩ _ (.inr rfl))).trans (Keeps.drew _ _)).trans (Keeps.drew _ _)
                clear z0 z1 zg zgf za zaf A3' hfin hpj' hpk' hag htj htk hwj hwk hpj hpk
                generalize ((V.setCell ⟨g, k, none⟩ (.int .i64 (pj : Int))).setCell ⟨a, j, none⟩ (.int .i64 (pk : Int))).drew.drew = U at A5 hkk ⊢
                replace hqn := hqn.keeps hkk (fun k h h' => by have := hob k h; rcases h' with h' | h' <;> omega)
                replace hkq := hkq.trans hkk
                clear hkk V
                have hq0 : QS (U.alloc (.cells #[.int .i64 (k : Int)] 3)) 3 1 nx j ((lst j (roundP R n true s).m).map (Value.int .i64)) := hqn.alloc _
                have hsrc : Src Tryd.prog 1 25 (.slice (some ⟨U.heap.size, 0, none⟩) 1 1) 1 [.int .i64 (k : Int)] (U.alloc (.cells #[.int .i64 (k : Int)] 3)) :=
                  src_blk Tryd.underlying25 (blk_new _ _) rfl (by intro jj hjj'; match jj, hjj' with | 0, _ => rfl) (by intro u hu; simp at hu; subst hu; rfl)
                have hsz2 := hkq.size
                go_wp2_with (at_builtin; refine wpList_append_QS rfl _ _ 25 25 rfl 3 _ 1 8 Tryd.underlying25 info_int rfl nx j ((lst j (roundP R n true s).m).map (Value.int .i64)) rfl hq0 _ 1 [.int .i64 (k : Int)] rfl hsrc (by decide) (by omega) ?_; intro A1 c1 w1 hq1 hg1 ho1)
                have hk1 : Keeps (fun i => nx.ownBlock = some i) U w1 := (Keeps.alloc _ _ _).trans (Keeps.grown hg1 (fun i h => h))
                have hw1 : Keeps (fun k => k = g ∨ k = a) X0 w1 := hkq.then hk1 (fun i hi h => by have := hob i h; omega)
                have hA1 := A5.keeps hk1 (fun i hi h => by have := hob i h; omega)
                go_roundw
                case rel =>
                  refine ⟨j + 1, by omega, by rw [lst_succ, hr.out, List.map_append]; exact hq1, fun b hb' => ?_, hw1, hA1, by simp⟩
                  rcases ho1 with h | ⟨i', h, hle⟩
                  · exact hob b (h ▸ hb')
                  · rw [hb'] at h; cases h; rw [World.size_alloc] at hle; omega
                case measure => simp [intOf]; omega
          · have htk : took R s n j = false := by unfold took; simp [hneg]
            rw [if_neg (by simp [htk])] at hrow
            rw [show gAt R s n first j = gAt R s n first (j + 1) by rw [gAt, if_neg (by simp [htk])], show aAt R s n first j = aAt R s n first (j + 1) by rw [aAt, if_neg (by simp [htk])]] at hA
            have hr := Lib.hid hrow
            clear hrow htk
            have hq0 : QS (wr.alloc (.cells #[.int .i64 (s.m j)] 3)) 3 1 nx j ((lst j (roundP R n first s).m).map (Value.int .i64)) := hqn.alloc _
            have hsrc : Src Tryd.prog 1 25 (.slice (some ⟨wr.heap.size, 0, none⟩) 1 1) 1 [.int .i64 (s.m j)] (wr.alloc (.cells #[.int .i64 (s.m j)] 3)) :=
              src_blk Tryd.underlying25 (blk_new _ _) rfl (by intro jj hjj'; match jj, hjj' with | 0, _ => rfl) (by intro u hu; simp at hu; subst hu; rfl)
            have hsz2 := hkq.size
            go_wp2_with (at_builtin; refine wpList_append_QS rfl _ _ 25 25 rfl 3 _ 1 8 Tryd.underlying25 info_int rfl nx j ((lst j (roundP R n first s).m).map (Value.int .i64)) rfl hq0 _ 1 [.int .i64 (s.m j)] rfl hsrc (by decide) (by omega) ?_; intro A1 c1 w1 hq1 hg1 ho1)
            have hk1 : Keeps (fun i => nx.ownBlock = some i) wr w1 := (Keeps.alloc _ _ _).trans (Keeps.grown hg1 (fun i h => h))
            have hw1 : Keeps (fun k => k = g ∨ k = a) X0 w1 := hkq.then hk1 (fun i hi h => by have := hob i h; omega)
            have hA1 := hA.keeps hk1 (fun i hi h => by have := hob i h; omega)
            go_roundw
            case rel =>
              refine ⟨j + 1, by omega, by rw [lst_succ, hr.out, List.map_append]; exact hq1, fun b hb' => ?_, hw1, hA1, by simp⟩
              rcases ho1 with h | ⟨i', h, hle⟩
              · exact hob b (h ▸ hb')
              · rw [hb'] at h; cases h; rw [World.size_alloc] at hle; omega
            case measure => simp [intOf]; omega
        · obtain rfl : j = n := by omega
          have hjl' : ¬ (j : Int) < (j : Int) := by omega
          obtain ⟨nA, nc, rfl, _, _⟩ := hqn.shape
          go_wp2_with fail
          go_ret
          exact ⟨_, rfl, hqn, hA, (hk.mono (fun _ _ h => h.elim)).trans hkq, fun k h => by have := hob k h; omega⟩
end Go.Proofs.YtlfohlgooomdfaaDoor
