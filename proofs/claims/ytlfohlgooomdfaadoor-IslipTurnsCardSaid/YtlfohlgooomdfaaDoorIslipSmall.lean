/-
  The laws' own small functions, walked: same, square, known; what the laws carry from call to call.
-/
import Derived.Test.YtlfohlgooomdfaaDoorIslipRefRun
import Derived.Test.YtlfohlgooomdfaaDoorIslipRunNo
import Derived.OpenShut
import Derived.DataShut
set_option linter.unusedVariables false
set_option linter.unusedSimpArgs false
namespace Go.Proofs.YtlfohlgooomdfaaDoor
open Go.RowKit Go.Sort

theorem u8_nat {a : Int} (h : (Lit.int .u8 a).wf = true) : ∃ m : Nat, a = m ∧ m < 256 := by
  rw [Lit.wf_int_iff, IntKind.min_u8, IntKind.max_u8] at h
  exact ⟨a.toNat, by omega, by omega⟩
theorem keeps_below {w w' : World} (h : Keeps (fun _ => False) w w') : Below w.heap.size w w' := h.below (Nat.le_refl _) (fun _ _ h => h)

set_option maxHeartbeats 2000000 in
/-- Two slices that hold the same. -/
theorem same_calls (a b : Value) (n : Nat) (xs : List Int) (w : World) (hxn : xs.length = n) (ha : QS w 3 1 a n (xs.map (Value.int .i64))) (hb : QS w 3 1 b n (xs.map (Value.int .i64))) :
    Calls Tryd.prog 17 #[a, b] w fun e w' => e = .returned (.bool true) ∧ Keeps (fun _ => False) w w' := by
  obtain ⟨A, cap, hsa, hm1, hm2⟩ := ha.shape
  have hmx : (n : Int) ≤ 9223372036854775807 := by simp only [maxLen] at hm2; omega
  clear hm1 hm2
  obtain ⟨B, cap', hsb, _, _⟩ := hb.shape
  subst hsa hsb
  go_enter Tryd.func17, Tryd.ntmps17
  go_wp2_with fail
  go_loopw [5] (fun v wr => ∃ (k : Nat) (nq : Nat), k ≤ n ∧ v = .int .i64 (k : Int) ∧ wr = w.drewN nq) (fun v _ => n - (intOf v).toNat)
  case atStart => exact ⟨0, 0, Nat.zero_le _, rfl, rfl⟩
  case round =>
    obtain ⟨k, nq, hk, rfl, rfl⟩ := hrel
    by_cases hkn : k < n
    · obtain ⟨g, off, c, hg, _, hcell, _⟩ := ha.cell (by omega)
      obtain ⟨g', off', c', hg', _, hcell', _⟩ := hb.cell (by omega)
      injection hg with hA _ hC
      injection hg' with hA' _ hC'
      subst hA hA' hC hC'
      have hx : (xs.map (Value.int .i64))[k]? = some (.int .i64 (xs[k]'(by omega))) := by rw [List.getElem?_map, List.getElem?_eq_getElem (by omega)]; rfl
      have h1 := hcell k _ hx
      have h2 := hcell' k _ hx
      clear hcell hcell' hx ha hb
      generalize xs[k]'(by omega) = x at h1 h2
      have hbig : (k : Int) + 1 ≤ 9223372036854775807 := by omega
      have hkk : (k : Int) < (n : Int) := by omega
      have hx0 : (x != x) = false := by simp
      go_wp2_with fail
      go_quiet (fail)
      go_wp2_with fail
      go_roundw
      case rel => exact ⟨k + 1, _, by omega, by simp, rfl⟩
      case measure => simp [intOf]; omega
    · obtain rfl : k = n := by omega
      go_wp2_with fail
      go_ret
      exact ⟨rfl, Keeps.drewN _ _ _⟩

/-- As many rows as ports. -/
def sq (rows : List Nat) (n : Nat) : List Nat := lst n fun i => rows.getD i 0
theorem sq_length (rows : List Nat) (n : Nat) : (sq rows n).length = n := lst_length _ _
theorem sq_lt {rows : List Nat} (h : ∀ x ∈ rows, x < 65536) (n : Nat) : ∀ x ∈ sq rows n, x < 65536 := by
  intro x hx
  obtain ⟨i, _, rfl⟩ := List.mem_map.1 hx
  rw [List.getD_eq_getElem?_getD]
  cases hi : rows[i]? with
  | none => simp
  | some y => simpa using h y (List.mem_of_getElem? hi)
def sqTo (rows : List Nat) (n j : Nat) : List Nat := lst n fun i => if i < j then rows.getD i 0 else 0
theorem sqTo_step (rows : List Nat) (n j : Nat) : (sqTo rows n j).set j (rows.getD j 0) = sqTo rows n (j + 1) := by
  unfold sqTo
  rw [lst_set]
  refine lst_congr fun i _ => ?_
  unfold upd
  by_cases h : i = j
  · subst h; simp
  · have : (i < j + 1) ↔ i < j := by omega
    simp [h, this]
theorem sqTo_end (rows : List Nat) {n j : Nat} (h : n ≤ j ∨ rows.length ≤ j) : sqTo rows n j = sq rows n := by
  unfold sqTo sq
  refine lst_congr fun i hi => ?_
  by_cases hj : i < j
  · rw [if_pos hj]
  · rw [if_neg hj, List.getD_eq_getElem?_getD, List.getElem?_eq_none (by omega)]; rfl
theorem made_sq (rows : List Nat) (n : Nat) : madeCells #[.int .u16 0] n = ((sqTo rows n 0).map encU).toArray := by
  apply Array.ext
  · simp [madeCells, sqTo, lst]
  · intro i h1 h2
    simp [madeCells, Nat.mod_one, sqTo, lst]

set_option maxHeartbeats 2000000 in
theorem square_calls (v : Value) (rows : List Nat) (n : Nat) (w : World) (h1 : 1 ≤ n) (h2 : n ≤ 16) (hv : Reads w w.heap.size 1 v rows.length (rows.map encU)) :
    Calls Tryd.prog 19 #[v, .int .i64 n] w fun e w' => e = .returned (.slice (some ⟨w.heap.size, 0, none⟩) n n) ∧ QS w' 29 1 (.slice (some ⟨w.heap.size, 0, none⟩) n n) n ((sq rows n).map encU) ∧ Keeps (fun _ => False) w w' := by
  have hms := fun w => run_make_row' (P := Tryd.prog) 28 29 (.int .u16 0) 2 Tryd.underlying28 info_u16 rfl .i64 .i64 n (by omega) (by omega) w
  obtain ⟨vA, vc, rfl, hmx⟩ : ∃ A c, v = .slice A rows.length c ∧ (rows.length : Int) ≤ 9223372036854775807 := by
    obtain ⟨_, A, c, e, h3, h4, _⟩ := hv
    exact ⟨A, c, e, by simp only [maxLen] at h4; omega⟩
  go_enter Tryd.func19, Tryd.ntmps19
  go_wp2_with fail
  have hM0 : (w.alloc (.cells (madeCells #[.int .u16 0] n) 29)).heap[w.heap.size]? = some (.cells ((sqTo rows n 0).map encU).toArray 29 (0, 0)) := by
    rw [← made_sq]; exact blk_new _ _
  have hK0 : Keeps (fun _ => False) w (w.alloc (.cells (madeCells #[.int .u16 0] n) 29)) := Keeps.alloc _ _ _
  generalize w.alloc (.cells (madeCells #[.int .u16 0] n) 29) = W0 at hM0 hK0 ⊢
  clear hms
  have hfin : ∀ {W : World} {j : Nat}, W.heap[w.heap.size]? = some (.cells ((sqTo rows n j).map encU).toArray 29 (0, 0)) → n ≤ j ∨ rows.length ≤ j → QS W 29 1 (.slice (some ⟨w.heap.size, 0, none⟩) n n) n ((sq rows n).map encU) := fun {W j} hm hj => by
    rw [sqTo_end rows hj] at hm
    exact ⟨by simp [sq_length], .inr ⟨w.heap.size, 0, n, _, rfl, hm, Nat.le_refl _, by simp only [maxLen]; omega, by simp [sq_length], fun i hi => by simp⟩⟩
  go_loopw [6] (fun v wr => ∃ j : Nat, j ≤ n ∧ v = .int .i64 (j : Int) ∧ Keeps (fun _ => False) w wr ∧ wr.heap[w.heap.size]? = some (.cells ((sqTo rows n j).map encU).toArray 29 (0, 0))) (fun v _ => n - (intOf v).toNat)
  case atStart => exact ⟨0, Nat.zero_le _, rfl, hK0, hM0⟩
  case round =>
    obtain ⟨j, hjn, rfl, hk, hm⟩ := hrel
    clear hK0 hM0
    by_cases hlt : j < n
    · have hlt' : (j : Int) < (n : Int) := by omega
      by_cases hlr : j < rows.length
      · have hlr' : (j : Int) < (rows.length : Int) := by omega
        have hj0 : (0 : Int) ≤ (j : Int) := by omega
        obtain ⟨g, off, c, e, _, _, hcell⟩ := hv.at_ (by simp; omega)
        injection e with e1 _ e2
        subst e1 e2
        have y := hk.cell (hcell j _ (by rw [List.getElem?_map, List.getElem?_eq_getElem hlr]; rfl)) (fun h => h)
        have hgd : rows.getD j 0 = rows[j] := by rw [List.getD_eq_getElem?_getD, List.getElem?_eq_getElem hlr]; rfl
        have hnew := blk_set hm j (encU (rows.getD j 0))
        rw [List.setIfInBounds_toArray, ← List.map_set (f := encU) (a := rows.getD j 0), sqTo_step, hgd] at hnew
        obtain ⟨old, hcm⟩ : ∃ z : Int, wr.cell? ⟨w.heap.size, j, none⟩ = some (.int .u16 z) := ⟨_, by rw [blk_cell hm]; simp [sqTo, lst_at _ hlt]; rfl⟩
        have hfm : wr.frozen? ⟨w.heap.size, j, none⟩ = false := blk_frozen hm j
        clear hcell hv hgd hfin
        generalize rows[j] = x at y hnew
        have hkv : Keeps (fun _ => False) w (wr.setCell ⟨w.heap.size, j, none⟩ (.int .u16 (x : Int))) := hk.then (Keeps.setCell (fun i => i = w.heap.size) _ _ _ rfl) (fun i hi h => by omega)
        clear hm hk
        go_wp2_with fail
        go_roundw
        case rel => exact ⟨j + 1, by omega, rfl, hkv, hnew⟩
        case measure => simp [intOf]; omega
      · have hlr' : ¬ (j : Int) < (rows.length : Int) := by omega
        have hq := hfin hm (.inr (by omega))
        clear hfin hv hm
        go_wp2_with fail
        go_ret
        exact ⟨rfl, hq, hk⟩
    · obtain rfl : j = n := by omega
      have hlt' : ¬ (j : Int) < (j : Int) := by omega
      have hq := hfin hm (.inl (by omega))
      clear hfin hv hm
      go_wp2_with fail
      go_ret
      exact ⟨rfl, hq, hk⟩

/-! ### From call to call -/
structure TK (W A : World) : Prop where
  pos : 0 < W.heap.size
  keeps : Keeps (fun _ => False) W A
  tab : Tab A
theorem TK.refl {W : World} (h : Tab W) : TK W W := ⟨h.pos, Keeps.refl _ _, h⟩
theorem TK.next {W A B : World} (h : TK W A) (k : Keeps (fun _ => False) A B) : TK W B := ⟨h.pos, h.keeps.trans k, h.tab.keeps k (fun h => h)⟩
theorem TK.below {W A : World} (h : TK W A) : Below W.heap.size W A := keeps_below h.keeps
theorem TK.le {W A : World} (h : TK W A) : W.heap.size ≤ A.heap.size := h.keeps.size
/-- A step that touches new blocks alone. -/
theorem TK.then {W A B : World} {F : Nat → Prop} (h : TK W A) (k : Keeps F A B) (hF : ∀ i, i < W.heap.size → ¬ F i) : TK W B :=
  ⟨h.pos, h.keeps.then k (fun i hi h' => hF i hi h'), h.tab.keeps k (hF 0 h.pos)⟩

/-- An arbiter of our own: where outputs look first, where inputs look first. -/
structure AK (w : World) (b n : Nat) (G A : Nat → Nat) (g a : Nat) : Prop where
  arb : Arb w b n (lst n G) (lst n A) g a
  g : ∀ k, k < n → G k < n
  a : ∀ k, k < n → A k < n
theorem AK.keeps {w w' : World} {b n g a : Nat} {G A : Nat → Nat} {F : Nat → Prop} (h : AK w b n G A g a) (hk : Keeps F w w') (hF : ∀ k, k = b ∨ k = g ∨ k = a → ¬ F k) : AK w' b n G A g a := ⟨h.arb.keeps hk hF, h.g, h.a⟩
theorem new_ak (n : Nat) (h1 : 1 ≤ n) (h2 : n ≤ 16) (w : World) :
    Calls Tryd.prog 11 #[.int .i64 n] w fun e w' => ∃ b g a, e = .returned (.pointer (some ⟨b, 0, none⟩)) ∧ AK w' b n (fun _ => 0) (fun _ => 0) g a ∧ Keeps (fun _ => False) w w' ∧ w.heap.size ≤ b ∧ w.heap.size ≤ g ∧ w.heap.size ≤ a :=
  (new_calls n h1 h2 w).mono fun _ _ ⟨b, g, a, h3, h4, h5, h6, h7, h8⟩ => ⟨b, g, a, h3, ⟨by rw [lst_const]; exact h4, fun _ _ => h1, fun _ _ => h1⟩, h5, h6, h7, h8⟩
theorem run_ak (G A : Nat → Nat) (n b g a rounds : Nat) (v : Value) (reqs : List Nat) (h1 : 1 ≤ n) (h2 : n ≤ 16) (hr1 : 1 ≤ rounds) (hr2 : rounds ≤ 16) (w : World) (hT : Tab w) (hA : AK w b n G A g a)
    (hv : Reads w w.heap.size 1 v n (reqs.map encU)) (hq : ∀ x ∈ reqs, x < 65536) (hlen : reqs.length = n) :
    Calls Tryd.prog 16 #[.pointer (some ⟨b, 0, none⟩), v, .int .i64 rounds] w fun e w' => ∃ u, e = .returned u ∧ QS w' 3 1 u n ((lst n (roundsP (asks reqs) n (start G A) rounds).m).map (Value.int .i64)) ∧
      AK w' b n (roundsP (asks reqs) n (start G A) rounds).G (roundsP (asks reqs) n (start G A) rounds).A g a ∧ Keeps (fun k => k = g ∨ k = a) w w' ∧ ∀ k, u.ownBlock = some k → w.heap.size ≤ k :=
  (run_calls G A n b g a rounds v reqs h1 h2 hr1 hr2 w hT hA.arb hA.g hA.a hv hq hlen).mono fun _ _ ⟨u, h3, h4, h5, h6, h7⟩ =>
    ⟨u, h3, h4, ⟨h5, (fit_rounds (fit_start hA.g hA.a) rounds).g, (fit_rounds (fit_start hA.g hA.a) rounds).a⟩, h6, h7⟩
theorem enc_ints (l : List Nat) : l.map encI = (l.map Int.ofNat).map (Value.int .i64) := by rw [List.map_map]; rfl
theorem grants_ak (b n g a : Nat) (G A : Nat → Nat) (w : World) (h : AK w b n G A g a) (hn : n ≤ 16) :
    Calls Tryd.prog 13 #[.pointer (some ⟨b, 0, none⟩)] w fun e w' => ∃ u, e = .returned u ∧ QS w' 3 1 u n (((lst n G).map Int.ofNat).map (Value.int .i64)) ∧ Keeps (fun _ => False) w w' :=
  (grants_calls b n g a _ _ w h.arb (by omega)).mono fun _ _ ⟨u, h1, h2, h3⟩ => ⟨u, h1, by rw [← enc_ints]; exact h2, h3⟩
theorem accepts_ak (b n g a : Nat) (G A : Nat → Nat) (w : World) (h : AK w b n G A g a) (hn : n ≤ 16) :
    Calls Tryd.prog 14 #[.pointer (some ⟨b, 0, none⟩)] w fun e w' => ∃ u, e = .returned u ∧ QS w' 3 1 u n (((lst n A).map Int.ofNat).map (Value.int .i64)) ∧ Keeps (fun _ => False) w w' :=
  (accepts_calls b n g a _ _ w h.arb (by omega)).mono fun _ _ ⟨u, h1, h2, h3⟩ => ⟨u, h1, by rw [← enc_ints]; exact h2, h3⟩

def z2 : St := start (fun _ => 0) (fun _ => 0)
def kOne : St := roundsP (asks [3, 3]) 2 z2 1
def kTwo : St := roundsP (asks [3, 3]) 2 (start kOne.G kOne.A) 2
theorem k1 : lst 2 kOne.m = [0, -1] := by decide +kernel
theorem k2 : lst 2 kTwo.m = [1, 0] := by decide +kernel
theorem kOne_eq : roundsP (asks [3, 3]) 2 (start (fun _ => 0) (fun _ => 0)) 1 = kOne := rfl
theorem kTwo_eq : roundsP (asks [3, 3]) 2 (start kOne.G kOne.A) 2 = kTwo := rfl
attribute [local irreducible] kOne kTwo

set_option maxRecDepth 100000 in
set_option maxHeartbeats 2000000 in
/-- What each law asks of a program beside. -/
theorem known_calls (w : World) (hT : Tab w) :
    Calls Tryd.prog 12 #[] w fun e w' => e = .returned (.bool true) ∧ Keeps (fun _ => False) w w' := by
  have r0 := fun X (G A : Nat → Nat) (b g a c : Nat) (m : Nat) (h1 : 1 ≤ c) (h2 : c ≤ 16) (hT : Tab X) (hA : AK X b 2 G A g a) (hm : X.heap[m]? = some (.cells #[encU 3, encU 3] 29 (0, 0))) =>
    run_ak G A 2 b g a c (.slice (some ⟨m, 0, none⟩) 2 2) [3, 3] (by decide) (by decide) h1 h2 X hT hA
      (QS.reads (e := 29) ⟨rfl, .inr ⟨m, 0, 2, _, rfl, hm, Nat.le_refl _, by decide, by simp, by intro j hj; match j, hj with | 0, _ => rfl | 1, _ => rfl⟩⟩) (by intro x hx; simp at hx; omega) rfl
  have H0 := Lib.hid r0
  clear r0
  go_enter Tryd.func12, Tryd.ntmps12
  go_wp2_with fail
  refine (new_ak 2 (by decide) (by decide) w).mono ?_
  rintro e A ⟨b, g, a, rfl, hA, hk, hb, hg, ha⟩
  have hp := hT.pos
  have hgl := blk_lt hA.arb.gr
  have hal := blk_lt hA.arb.ac
  go_wp2_with fail
  have kB : Keeps (fun _ => False) A (A.alloc (.cells #[encU 3, encU 3] 29)) := Keeps.alloc _ _ _
  have hm := blk_new A (.cells #[encU 3, encU 3] 29)
  have hzB : (A.alloc (.cells #[encU 3, encU 3] 29)).heap.size = A.heap.size + 1 := by simp
  have hzA := hk.size
  generalize A.heap.size = m at hm hzB hzA hgl hal ⊢
  generalize A.alloc (.cells #[encU 3, encU 3] 29) = B at kB hm hzB ⊢
  refine (H0.out B _ _ b g a 1 m (by decide) (by decide) (hT.keeps (hk.trans kB) (fun h => h)) (hA.keeps kB (fun _ _ h => h)) hm).mono ?_
  rintro e C ⟨u, rfl, hu, hC, kC, ho⟩
  rw [kOne_eq, k1] at hu
  rw [kOne_eq] at hC
  have kwC := (hk.trans kB).then kC (fun i hi h => by omega)
  obtain ⟨ug, uo, uc, rfl, _, hcu, _⟩ := hu.cell (by decide)
  have hug := ho ug rfl
  have c1 : C.cell? ⟨ug, uo, none⟩ = some (.int .i64 0) := hcu 0 _ rfl
  have c2 : C.cell? ⟨ug, uo + 1, none⟩ = some (.int .i64 (-1)) := hcu 1 _ rfl
  have hzC := kC.size
  clear hcu hu ho hA kB kC hk hm
  go_wp2_with fail
  have kD : Keeps (fun _ => False) C (C.alloc (.cells #[encU 3, encU 3] 29)) := Keeps.alloc _ _ _
  have hm := blk_new C (.cells #[encU 3, encU 3] 29)
  have hzD : (C.alloc (.cells #[encU 3, encU 3] 29)).heap.size = C.heap.size + 1 := by simp
  generalize C.heap.size = m at hm hzD hzC ⊢
  generalize C.alloc (.cells #[encU 3, encU 3] 29) = D at kD hm hzD ⊢
  refine (H0.out D _ _ b g a 2 m (by decide) (by decide) (hT.keeps (kwC.trans kD) (fun h => h)) (hC.keeps kD (fun _ _ h => h)) hm).mono ?_
  rintro e E ⟨v, rfl, hv, hE, kE, ho⟩
  rw [kTwo_eq, k2] at hv
  have kwE := (kwC.trans kD).then kE (fun i hi h => by omega)
  obtain ⟨vg, vo, vc, rfl, _, hcv, _⟩ := hv.cell (by decide)
  have d1 : E.cell? ⟨vg, vo, none⟩ = some (.int .i64 1) := hcv 0 _ rfl
  have d2 : E.cell? ⟨vg, vo + 1, none⟩ = some (.int .i64 0) := hcv 1 _ rfl
  have e1 := kE.cell (kD.cell c1 (fun h => h)) (show ¬ (ug = g ∨ ug = a) by omega)
  have e2 := kE.cell (kD.cell c2 (fun h => h)) (show ¬ (ug = g ∨ ug = a) by omega)
  clear hcv hv ho c1 c2 hC kD kE hm kwC H0
  go_wp2_with fail
  refine (new_none 0 (.inl (by decide)) E).mono ?_
  rintro e E' ⟨rfl, hE'⟩
  subst E'
  go_wp2_with fail
  refine (grants_ak b 2 g a _ _ E hE (by decide)).mono ?_
  rintro e F ⟨x, rfl, hx, kF⟩
  obtain ⟨xA, xc, rfl, _, _⟩ := hx.shape
  clear hx
  go_wp2_with fail
  refine (accepts_ak b 2 g a _ _ F (hE.keeps kF (fun _ _ h => h)) (by decide)).mono ?_
  rintro e X ⟨x, rfl, hx, kX⟩
  obtain ⟨yA, yc, rfl, _, _⟩ := hx.shape
  clear hx
  go_wp2_with fail
  go_ret
  exact ⟨rfl, (kwE.trans kF).trans kX⟩
theorem known_tk {W A : World} (h : TK W A) : Calls Tryd.prog 12 #[] A fun e w' => e = .returned (.bool true) ∧ TK W w' :=
  (known_calls A h.tab).mono fun _ _ ⟨h1, h2⟩ => ⟨h1, h.next h2⟩
end Go.Proofs.YtlfohlgooomdfaaDoor
