/-
  Part 41 of the proof: TopAccs.
-/
import Derived.Test.YtebnflpanfmicaaGreatDoorPkBN
set_option linter.unusedVariables false
set_option linter.unusedSimpArgs false
set_option linter.unusedSectionVars false
namespace Go.Proofs.YtebnflpanfmicaaGreatDoor
open Go.RowKit
theorem info_acc : (Tryz.prog.info? 79).map (fun i => (i.zero, i.size, i.bytes)) = some (some (.agg #[.int .i64 0, .int .i64 0, .int .i64 0, .int .i64 0, .int .i64 0]), 5, 40) := by kernel_rfl
structure AccR where
  a : Int
  b : Int
  fly : Int
  c : Int
  d : Int
def AccR.cells (x : AccR) : List Value := [.int .i64 x.a, .int .i64 x.b, .int .i64 x.fly, .int .i64 x.c, .int .i64 x.d]
abbrev acells (l : List AccR) : List Value := l.flatMap AccR.cells
theorem acells_at : ∀ (l : List AccR) (j : Nat) (x : AccR), l[j]? = some x → ∀ i, i < 5 → (acells l)[j * 5 + i]? = x.cells[i]?
  | [], j, x, h, _, _ => by simp at h
  | y :: l, 0, x, h, i, hi => by
    simp at h; subst h
    simp only [acells, List.flatMap_cons]
    rw [List.getElem?_append_left (by simp [AccR.cells]; omega)]
    simp
  | y :: l, j + 1, x, h, i, hi => by
    have := acells_at l j x (by simpa using h) i hi
    simp only [acells, List.flatMap_cons]
    rw [List.getElem?_append_right (by simp [AccR.cells]; omega), ← this]
    congr 1
    simp [AccR.cells]; omega
def flyTo (g : Geo) (s : FabS) (L : Nat) : Nat → List Int
  | 0 => []
  | h + 1 => flyTo g s L h ++ (List.range L).map (flyF g s h)
theorem flyTo_length (g : Geo) (s : FabS) (L : Nat) : ∀ h, (flyTo g s L h).length = h * L
  | 0 => by simp [flyTo]
  | h + 1 => by simp [flyTo, flyTo_length g s L h, Nat.succ_mul]
def Accs (w : World) (B : Nat) (v : Value) (n : Nat) (fl : List Int) : Prop :=
  ∃ rows : List AccR, rows.map (·.fly) = fl ∧ rows.length = n ∧ QS w 79 5 v n (acells rows) ∧ ∀ k, v.ownBlock = some k → B ≤ k
theorem Accs.keeps {w w' : World} {B : Nat} {v : Value} {n : Nat} {fl : List Int} {F : Nat → Prop} (h : Accs w B v n fl) (hk : Keeps F w w') (hF : ∀ k, B ≤ k → ¬ F k) : Accs w' B v n fl := by
  obtain ⟨rows, h1, h2, h3, h4⟩ := h
  exact ⟨rows, h1, h2, h3.keeps hk (fun k e => hF k (h4 k e)), h4⟩
def sumL : List Int → Int
  | [] => 0
  | x :: l => x + sumL l
theorem sumL_snoc : ∀ (l : List Int) (x : Int), sumL (l ++ [x]) = sumL l + x
  | [], x => by simp [sumL]
  | y :: l, x => by rw [List.cons_append, sumL, sumL_snoc l x, sumL]; omega
def insideF (g : Geo) (s : FabS) : Int := sumI (fun v => insV g v (s.nd v)) (g.t.length + 1) + sumL (flyTo g s g.ws.length (hopsOf g.t).length)
section
variable {σ : Sig} {w : World} {o : Nat → Option Cmp} {f : Nat} {fa : FabA} {g : Geo} {s : FabS} {c : Nat}
set_option maxRecDepth 100000 in
set_option maxHeartbeats 16000000 in
theorem accs_runs (h : SysF σ w o) (hF : FabAt σ f fa g s) (hok : FabOk g s c) :
    Calls Tryz.prog 24 #[.pointer (some ⟨fa.fb, 0, none⟩)] w fun e w' => ∃ A c, e = .returned (.slice A ((hopsOf g.t).length * g.ws.length) c) ∧ Accs w' w.heap.size (.slice A ((hopsOf g.t).length * g.ws.length) c) ((hopsOf g.t).length * g.ws.length) (flyTo g s g.ws.length (hopsOf g.t).length) ∧ Keeps (fun _ => False) w w' := by
  have hp := h.planS hF.geo
  have hln := hp.lanes
  have hl3 : g.ws.length ≤ 3 := by have := hp.nums.lanes.2; omega
  have ht5 := hp.t5
  have hcnt := (hops_in hp.tree hp.t5).2
  have HHP := Lib.hid (fhops_runs (h.fabR hF) (by omega))
  obtain ⟨L, hL⟩ : ∃ L, g.ws.length = L := ⟨_, rfl⟩
  have HPL := Lib.hid (p := ∀ U, Keeps (fun _ => False) w U → Calls Tryz.prog 33 #[.pointer (some ⟨fa.fb, 0, none⟩)] U fun e w' => ∃ e1 wt1 nx1, e = .returned (.agg #[.int .i64 ((g.t.length : Int) + 1), e1, .int .i64 (L : Int), .int .i64 g.p.room, .int .i64 g.p.queue, .int .i64 g.p.rounds, .int .i64 g.p.every, .int .i64 g.p.bag, wt1, .int .u16 g.p.start, nx1]) ∧ Keeps (fun _ => False) U w') fun U hU => by
      have hS := SysF.calm' h hU
      refine (fplan_runs (hS.fabR hF) (hS.planS hF.geo)).mono ?_
      rintro e w' ⟨e1, wt1, nx1, rfl, hq, hk⟩
      unfold planV Nums.plan
      rw [hln, hL]
      exact ⟨e1, wt1, nx1, rfl, hk⟩
  have HAC := Lib.hid (p := ∀ U, Keeps (fun _ => False) w U → ∀ i k : Nat, i < (hopsOf g.t).length → k < g.ws.length → _) fun U hU i k hi hk => account_runs (SysF.calm' h hU) hF hok i k hi hk
  rw [hL] at HAC hl3 ⊢
  obtain ⟨H, hH⟩ : ∃ H, (hopsOf g.t).length = H := ⟨_, rfl⟩
  have hH10 : H ≤ 10 := by omega
  rw [hH] at HHP HAC ⊢
  have hHL : H * L ≤ 10 * 3 := Nat.mul_le_mul hH10 hl3
  clear h hF hok hp hln ht5 hcnt hL hH
  go_enter Tryz.func24, Tryz.ntmps24
  go_wp2_with fail
  refine HHP.out.mono ?_
  rintro e U ⟨Ah, ch, rfl, _, hU, _⟩
  have HU := Lib.hid hU
  clear hU HHP
  go_wp2_with fail
  go_loopw [3, 11] (fun l c wr => ∃ (i : Nat) (A : Option Addr) (cp : Nat), i ≤ H ∧ c = .int .i64 (i : Int) ∧ l = .slice A (i * L) cp ∧ Accs wr w.heap.size (.slice A (i * L) cp) (i * L) (flyTo g s L i) ∧ Keeps (fun _ => False) w wr) (fun _ c _ => H - (intOf c).toNat)
  case atStart => exact ⟨0, none, 0, Nat.zero_le _, rfl, by rw [Nat.zero_mul], by rw [Nat.zero_mul]; exact ⟨[], rfl, rfl, QS.nil _ _ _, fun k e => by cases e⟩, HU.out⟩
  case round =>
    clear HU
    obtain ⟨i, A, cp, hi, rfl, rfl, hA, hk⟩ := hrel
    by_cases hil : i < H
    · have hii : (i : Int) < (H : Int) := by omega
      have HPW := Lib.hid (HPL.out wr hk)
      have HA := Lib.hid hA
      have HK := Lib.hid hk
      have hft : flyTo g s L (i + 1) = flyTo g s L i ++ (List.range L).map (flyF g s i) := rfl
      have HFT := Lib.hid hft
      have hfl := run_plan_lanes
      clear hA hk hft
      go_wp2_with fail
      refine HPW.out.mono ?_
      rintro e V ⟨e1, wt1, nx1, rfl, hV⟩
      have HAV := Lib.hid (HA.out.keeps hV (fun _ _ h => h))
      have HKV := Lib.hid (HK.out.trans hV)
      clear hV HA HK HPW
      go_wp2_with fail
      clear hfl
      have hsm : (i + 1) * L = i * L + L := Nat.succ_mul i L
      have hsm2 : i * L + L ≤ 30 := by have : (i + 1) * L ≤ H * L := Nat.mul_le_mul_right L (by omega); omega
      generalize i * L = n at *
      generalize flyTo g s L i = fl at *
      go_loopw [3, 17] (fun l c wr => ∃ (k : Nat) (A : Option Addr) (cp : Nat), k ≤ L ∧ c = .int .i64 (k : Int) ∧ l = .slice A (n + k) cp ∧ Accs wr w.heap.size (.slice A (n + k) cp) (n + k) (fl ++ (List.range k).map (flyF g s i)) ∧ Keeps (fun _ => False) w wr) (fun _ c _ => L - (intOf c).toNat)
      case atStart => exact ⟨0, A, cp, Nat.zero_le _, rfl, rfl, by simpa using HAV.out, HKV.out⟩
      case round =>
        clear HAV HKV
        obtain ⟨k, B, bp, hk, rfl, rfl, hA, hK⟩ := hrel
        by_cases hkl : k < L
        · have hkk : (k : Int) < (L : Int) := by omega
          have HAW := Lib.hid (HAC.out wr hK i k hil hkl)
          have HA := Lib.hid hA
          have HK := Lib.hid hK
          clear hA hK
          go_wp2_with fail
          refine HAW.out.mono ?_
          rintro e W ⟨⟨a, b, c1, d, rfl⟩, hW⟩
          obtain ⟨z, hz⟩ : ∃ z, flyF g s i k = z := ⟨_, rfl⟩
          have HZ := Lib.hid hz
          rw [hz]
          clear hz HAW
          have HKW := Lib.hid (HK.out.trans hW)
          obtain ⟨rows, hr1, hr2, hr3, hr4⟩ := HA.out.keeps hW (fun _ _ h => h)
          have HR1 := Lib.hid hr1
          have HR4 := Lib.hid hr4
          have hk2 : Keeps (fun _ => False) W ((W.alloc (.cells #[.int .i64 a, .int .i64 b, .int .i64 z, .int .i64 c1, .int .i64 d] 79)).alloc (.cells #[.int .i64 a, .int .i64 b, .int .i64 z, .int .i64 c1, .int .i64 d] 79)) := (Keeps.alloc _ _ _).trans (Keeps.alloc _ _ _)
          have hs2 : ((W.alloc (.cells #[.int .i64 a, .int .i64 b, .int .i64 z, .int .i64 c1, .int .i64 d] 79)).alloc (.cells #[.int .i64 a, .int .i64 b, .int .i64 z, .int .i64 c1, .int .i64 d] 79)).heap.size = W.heap.size + 2 := by simp
          have hq0 : QS ((W.alloc (.cells #[.int .i64 a, .int .i64 b, .int .i64 z, .int .i64 c1, .int .i64 d] 79)).alloc (.cells #[.int .i64 a, .int .i64 b, .int .i64 z, .int .i64 c1, .int .i64 d] 79)) 79 5 (.slice B (n + k) bp) (n + k) (acells rows) := (hr3.alloc _).alloc _
          have hsrc : Src Tryz.prog 5 65 (.slice (some ⟨(W.alloc (.cells #[.int .i64 a, .int .i64 b, .int .i64 z, .int .i64 c1, .int .i64 d] 79)).heap.size, 0, none⟩) 1 1) 1 [.int .i64 a, .int .i64 b, .int .i64 z, .int .i64 c1, .int .i64 d] ((W.alloc (.cells #[.int .i64 a, .int .i64 b, .int .i64 z, .int .i64 c1, .int .i64 d] 79)).alloc (.cells #[.int .i64 a, .int .i64 b, .int .i64 z, .int .i64 c1, .int .i64 d] 79)) :=
            src_blk Tryz.underlying65 (e := 79) (cur := #[.int .i64 a, .int .i64 b, .int .i64 z, .int .i64 c1, .int .i64 d]) (blk_new (W.alloc (.cells #[.int .i64 a, .int .i64 b, .int .i64 z, .int .i64 c1, .int .i64 d] 79)) (.cells #[.int .i64 a, .int .i64 b, .int .i64 z, .int .i64 c1, .int .i64 d] 79)) rfl (by intro jj hjj'; match jj, hjj' with | 0, _ => rfl | 1, _ => rfl | 2, _ => rfl | 3, _ => rfl | 4, _ => rfl) (by intro u hu; simp at hu; rcases hu with rfl | rfl | rfl | rfl | rfl <;> rfl)
          rw [World.size_alloc] at hsrc
          have hbA := blk_new W (.cells #[.int .i64 a, .int .i64 b, .int .i64 z, .int .i64 c1, .int .i64 d] 79)
          have q := fun j => blk_cell hbA j
          have x0 := q 0; have x1 := q 1; have x2 := q 2; have x3 := q 3; have x4 := q 4
          simp only [List.getElem?_toArray, List.getElem?_cons_zero, List.getElem?_cons_succ] at x0 x1 x2 x3 x4
          have HK2 := Lib.hid hk2
          have HS2 := Lib.hid hs2
          have hnk : (n + k + 1) * 40 ≤ 140737488355328 := by omega
          have hrk : (List.range (k + 1)).map (flyF g s i) = (List.range k).map (flyF g s i) ++ [z] := by rw [List.range_succ, List.map_append, ← HZ.out]; rfl
          have HRK := Lib.hid hrk
          have HRL := Lib.hid hr2
          clear hW HA HK hr1 hr2 hr3 hr4 hk2 hs2 hbA q hrk
          go_wp2_with (at_builtin; refine wpList_append_QS rfl _ _ 65 65 rfl 79 _ 5 40 Tryz.underlying65 info_acc rfl (.slice B (n + k) bp) (n + k) (acells rows) rfl hq0 _ 1 [.int .i64 a, .int .i64 b, .int .i64 z, .int .i64 c1, .int .i64 d] rfl hsrc (by decide) hnk ?_; intro A1 c2 w1 hq1 hg1 ho1)
          have hkg : Keeps (fun k' => (Value.slice B (n + k) bp).ownBlock = some k') W w1 := (HK2.out.mono (fun _ _ h => h.elim)).trans (Keeps.grown hg1 (fun i h => h))
          have hkw : Keeps (fun _ => False) w w1 := HKW.out.then hkg (fun i hi e => by have := HR4.out i e; omega)
          have hacc : Accs w1 w.heap.size (.slice A1 (n + (k + 1)) c2) (n + (k + 1)) (fl ++ (List.range (k + 1)).map (flyF g s i)) := by
            refine ⟨rows ++ [⟨a, b, z, c1, d⟩], ?_, ?_, ?_, fun k' e => ?_⟩
            · rw [List.map_append, HR1.out, HRK.out, List.append_assoc]; rfl
            · rw [List.length_append, HRL.out]; rfl
            · rw [show acells (rows ++ [⟨a, b, z, c1, d⟩]) = acells rows ++ [.int .i64 a, .int .i64 b, .int .i64 z, .int .i64 c1, .int .i64 d] by simp [acells, AccR.cells]]
              exact hq1
            · rcases ho1 with h | ⟨k2, h, hle⟩
              · exact HR4.out k' (h ▸ e)
              · have e' : (Value.slice A1 (n + k + 1) c2).ownBlock = some k' := e
                rw [e'] at h; cases h
                have := HS2.out
                have := HKW.out.size
                omega
          have HACC := Lib.hid hacc
          have HKF := Lib.hid hkw
          clear hq1 hg1 ho1 hkg hkw hacc hq0 hsrc x0 x1 x2 x3 x4
          go_wp2_with fail
          go_roundw
          case rel => exact ⟨k + 1, A1, c2, by omega, by go_num, rfl, HACC.out, HKF.out⟩
          case measure => simp [intOf]; omega
        · obtain rfl : k = L := by omega
          have hkk : ¬ ((k : Int) < (k : Int)) := by omega
          have HA := Lib.hid hA
          have HK := Lib.hid hK
          clear hA hK
          go_wp2_with fail
          go_roundw
          case rel => exact ⟨i + 1, B, bp, by omega, by go_num, by rw [hsm], by rw [hsm, HFT.out]; exact HA.out, HK.out⟩
          case measure => simp [intOf]; omega
    · obtain rfl : i = H := by omega
      have hii : ¬ ((i : Int) < (i : Int)) := by omega
      have HA := Lib.hid hA
      have HK := Lib.hid hk
      clear hA hk
      go_wp2_with fail
      go_ret
      exact ⟨A, cp, rfl, HA.out, HK.out⟩
set_option maxRecDepth 100000 in
set_option maxHeartbeats 16000000 in
theorem insides_runs (h : SysF σ w o) (hF : FabAt σ f fa g s) (hok : FabOk g s c) :
    Calls Tryz.prog 9 #[.pointer (some ⟨fa.fb, 0, none⟩)] w fun e w' => e = .returned (.int .i64 (wrap64 (insideF g s))) ∧ Keeps (fun _ => False) w w' := by
  have hp := h.planS hF.geo
  have hl3 : g.ws.length ≤ 3 := by have := hp.nums.lanes.2; have := hp.lanes; omega
  have ht5 := hp.t5
  have hcnt := (hops_in hp.tree hp.t5).2
  have HPL := Lib.hid (p := ∀ U, Keeps (fun _ => False) w U → Calls Tryz.prog 33 #[.pointer (some ⟨fa.fb, 0, none⟩)] U fun e w' => ∃ e1 wt1 nx1, e = .returned (.agg #[.int .i64 ((g.t.length : Int) + 1), e1, .int .i64 g.p.lanes, .int .i64 g.p.room, .int .i64 g.p.queue, .int .i64 g.p.rounds, .int .i64 g.p.every, .int .i64 g.p.bag, wt1, .int .u16 g.p.start, nx1]) ∧ Keeps (fun _ => False) U w') fun U hU => by
      have hS := SysF.calm' h hU
      refine (fplan_runs (hS.fabR hF) (hS.planS hF.geo)).mono ?_
      rintro e w' ⟨e1, wt1, nx1, rfl, hq, hk⟩
      exact ⟨e1, wt1, nx1, rfl, hk⟩
  have HIN := Lib.hid (p := ∀ U, Keeps (fun _ => False) w U → ∀ v : Nat, v ≤ g.t.length → _) fun U hU v hv => inside_runs (SysF.calm' h hU) hF v hv _ rfl
  have HAC := Lib.hid (p := ∀ U, Keeps (fun _ => False) w U → _) fun U hU => accs_runs (SysF.calm' h hU) hF hok
  obtain ⟨r, hr⟩ : ∃ r, insideF g s = r := ⟨_, rfl⟩
  rw [hr]
  unfold insideF at hr
  have HR := Lib.hid hr
  have hm : (hopsOf g.t).length * g.ws.length ≤ 10 * 3 := Nat.mul_le_mul (by omega) hl3
  have hfl := flyTo_length g s g.ws.length (hopsOf g.t).length
  generalize flyTo g s g.ws.length (hopsOf g.t).length = fl at *
  obtain ⟨m, hm2⟩ : ∃ m, (hopsOf g.t).length * g.ws.length = m := ⟨_, rfl⟩
  rw [hm2] at HAC hm hfl
  have HFL := Lib.hid hfl
  obtain ⟨T, hT⟩ : ∃ T, g.t.length + 1 = T := ⟨_, rfl⟩
  have hT2 : (g.t.length : Int) + 1 = (T : Int) := by omega
  have hT3 : ∀ v : Nat, v < T → v ≤ g.t.length := fun v hv => by omega
  have HT3 := Lib.hid hT3
  rw [hT2] at HPL
  rw [hT] at HR
  have hT6 : T ≤ 6 := by omega
  have hfn := run_plan_nodes
  clear h hF hok hp hl3 ht5 hcnt hr hfl hm2 hT hT2 hT3
  go_enter Tryz.func9, Tryz.ntmps9
  go_wp2_with fail
  refine (HPL.out w (Keeps.refl _ _)).mono ?_
  rintro e U ⟨e1, wt1, nx1, rfl, hU⟩
  have HU := Lib.hid hU
  clear hU HPL
  go_wp2_with fail
  clear hfn
  go_loopw [3, 10] (fun m c wr => ∃ v : Nat, v ≤ T ∧ c = .int .i64 (v : Int) ∧ m = .int .i64 (wrap64 (sumI (fun v => insV g v (s.nd v)) v)) ∧ Keeps (fun _ => False) w wr) (fun _ c _ => T - (intOf c).toNat)
  case atStart => exact ⟨0, Nat.zero_le _, rfl, by rw [sumI, wrap64_zero], HU.out⟩
  case round =>
    clear HU
    obtain ⟨v, hv, rfl, rfl, hK⟩ := hrel
    have hs1 : sumI (fun v => insV g v (s.nd v)) (v + 1) = sumI (fun v => insV g v (s.nd v)) v + insV g v (s.nd v) := rfl
    have HS1 := Lib.hid hs1
    clear hs1
    by_cases hvT : v < T
    · have hvi : (v : Int) < (T : Int) := by omega
      have HI := Lib.hid (HIN.out wr hK v (HT3.out v hvT))
      have HK := Lib.hid hK
      generalize sumI (fun v => insV g v (s.nd v)) v = x at *
      obtain ⟨m0, hm0⟩ : ∃ m0, wrap64 x = m0 := ⟨_, rfl⟩
      have HM0 := Lib.hid hm0
      rw [hm0]
      clear hm0 hK
      generalize insV g v (s.nd v) = y at *
      obtain ⟨y0, hy0⟩ : ∃ y0, wrap64 y = y0 := ⟨_, rfl⟩
      have HY0 := Lib.hid hy0
      rw [hy0] at HI
      clear hy0
      go_wp2_with fail
      refine HI.out.mono ?_
      rintro e V ⟨rfl, hV⟩
      have HKV := Lib.hid (HK.out.trans hV)
      clear hV HK HI
      go_wp2_with fail
      go_roundw
      case rel => exact ⟨v + 1, by omega, by go_num, by rw [HS1.out, ← HM0.out, ← HY0.out, wrap64_add2], HKV.out⟩
      case measure => simp [intOf]; omega
    · obtain rfl : v = T := by omega
      have hvi : ¬ ((v : Int) < (v : Int)) := by omega
      have HA := Lib.hid (HAC.out wr hK)
      have HK := Lib.hid hK
      generalize sumI (fun v => insV g v (s.nd v)) v = x at *
      obtain ⟨m0, hm0⟩ : ∃ m0, wrap64 x = m0 := ⟨_, rfl⟩
      have HM0 := Lib.hid hm0
      rw [hm0]
      clear hm0 hK HS1
      go_wp2_with fail
      refine HA.out.mono ?_
      rintro e V ⟨A, cp, rfl, hacc, hV⟩
      have HACC := Lib.hid hacc
      have HKV := Lib.hid (HK.out.trans hV)
      have HSZ := Lib.hid hV.size
      clear hacc hV HK HA
      go_wp2_with fail
      go_loopw [3, 22] (fun m1 c wr2 => ∃ j : Nat, j ≤ m ∧ c = .int .i64 (j : Int) ∧ m1 = .int .i64 (wrap64 (x + sumL (fl.take j))) ∧ Keeps (fun _ => False) V wr2) (fun _ c _ => m - (intOf c).toNat)
      case atStart => exact ⟨0, Nat.zero_le _, rfl, by rw [← HM0.out]; simp [sumL], Keeps.refl _ _⟩
      case round =>
        obtain ⟨j, hj, rfl, rfl, hK⟩ := hrel
        by_cases hjm : j < m
        · have hjj : (j : Int) < (m : Int) := by omega
          have hj0 : (0 : Int) ≤ (j : Int) := by omega
          obtain ⟨rows, h1, h2, h3, h4⟩ := HACC.out.keeps hK (fun _ _ h => h)
          obtain ⟨gp, op, cp', e1, _, hcc, _⟩ := h3.cell (by omega)
          injection e1 with ea _ ec
          subst ea ec
          obtain ⟨q, hq⟩ : ∃ q, rows[j]? = some q := ⟨_, List.getElem?_eq_getElem (by omega)⟩
          have at5 := acells_at rows j q hq
          have x0 := hcc _ _ (by rw [at5 0 (by decide)]; rfl)
          have x1 := hcc _ _ (by rw [at5 1 (by decide)]; rfl)
          have x2 := hcc _ _ (by rw [at5 2 (by decide)]; rfl)
          have x3 := hcc _ _ (by rw [at5 3 (by decide)]; rfl)
          have x4 := hcc _ _ (by rw [at5 4 (by decide)]; rfl)
          rw [← Nat.add_assoc] at x1 x2 x3 x4
          simp only [Nat.add_zero] at x0
          have hfj : fl[j]? = some q.fly := by rw [← h1, List.getElem?_map, hq]; rfl
          have htk : sumL (fl.take (j + 1)) = sumL (fl.take j) + q.fly := by rw [List.take_add_one, hfj]; exact sumL_snoc _ _
          have HTK := Lib.hid htk
          have HK := Lib.hid hK
          obtain ⟨qa, qb, qf, qc, qd⟩ := q
          simp only at x0 x1 x2 x3 x4 HTK
          generalize sumL (fl.take j) = u at *
          obtain ⟨m1, hm1⟩ : ∃ m1, wrap64 (x + u) = m1 := ⟨_, rfl⟩
          have HM1 := Lib.hid hm1
          rw [hm1]
          clear h1 h2 h3 h4 hcc hq at5 hfj htk hK hm1
          have hbA := blk_new wr (.cells #[.int .i64 qa, .int .i64 qb, .int .i64 qf, .int .i64 qc, .int .i64 qd] 79)
          have z2 := blk_cell hbA 2
          simp only [List.getElem?_toArray, List.getElem?_cons_zero, List.getElem?_cons_succ] at z2
          have HKA := Lib.hid (HK.out.trans (Keeps.alloc (fun _ => False) wr (.cells #[.int .i64 qa, .int .i64 qb, .int .i64 qf, .int .i64 qc, .int .i64 qd] 79)))
          clear hbA HK
          go_wp2_with fail
          go_roundw
          case rel => exact ⟨j + 1, by omega, by go_num, by rw [HTK.out, ← HM1.out, wrap64_add]; congr 2; omega, HKA.out⟩
          case measure => simp [intOf]; omega
        · obtain rfl : j = m := by omega
          have hjj : ¬ ((j : Int) < (j : Int)) := by omega
          have htk : fl.take j = fl := List.take_of_length_le (by have := HFL.out; omega)
          rw [htk]
          have HK := Lib.hid hK
          clear hK htk
          have hrr : x + sumL fl = r := HR.out
          rw [hrr]
          clear hrr
          go_wp2_with fail
          go_ret
          exact ⟨rfl, HKV.out.trans HK.out⟩
end
end Go.Proofs.YtebnflpanfmicaaGreatDoor
