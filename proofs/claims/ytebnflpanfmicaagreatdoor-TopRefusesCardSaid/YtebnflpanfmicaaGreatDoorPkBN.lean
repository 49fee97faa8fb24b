/-
  Part 40 of the proof: TopAcc.
-/
import Derived.Test.YtebnflpanfmicaaGreatDoorPkBM
import Derived.Test.YtebnflpanfmicaaGreatDoorPkAU
import Derived.Test.YtebnflpanfmicaaGreatDoorPkAX
import Derived.Lib.QuietBelow
set_option linter.unusedVariables false
set_option linter.unusedSimpArgs false
set_option linter.unusedSectionVars false
namespace Go.Proofs.YtebnflpanfmicaaGreatDoor
open Go.RowKit Go.Sort
def portN (t : List Nat) (v x : Nat) : Nat := (nb t v).idxOf x + 1
theorem portN_ok {t : List Nat} {v x : Nat} (h : x ∈ nb t v) : portI t v x = (portN t v x : Int) ∧ 1 ≤ portN t v x ∧ portN t v x < (nb t v).length + 1 := by
  have h1 := List.idxOf_lt_length_of_mem h
  unfold portI idxI portN
  rw [if_pos h, if_neg (by omega)]
  omega
def flyF (g : Geo) (s : FabS) (h k : Nat) : Int :=
  let x := (hopsOf g.t).getD h (0, 0)
  ((seenL (k : Int) ((s.nd x.2).next (portN g.t x.2 x.1) k) ((s.nd x.1).sent (portN g.t x.1 x.2) k) (s.ln h)).length : Int)
section
variable {σ : Sig} {w : World} {o : Nat → Option Cmp} {f : Nat} {fa : FabA} {g : Geo} {s : FabS} {c : Nat}
set_option maxRecDepth 100000 in
set_option maxHeartbeats 16000000 in
theorem account_runs (h : SysF σ w o) (hF : FabAt σ f fa g s) (hok : FabOk g s c) (i k : Nat) (hi : i < (hopsOf g.t).length) (hk : k < g.ws.length) :
    Calls Tryz.prog 59 #[.pointer (some ⟨fa.fb, 0, none⟩), .int .i64 i, .int .i64 k] w fun e w' => (∃ a b c d : Int, e = .returned (.tuple #[.agg #[.int .i64 a, .int .i64 b, .int .i64 (flyF g s i k), .int .i64 c, .int .i64 d], .bool true])) ∧ Keeps (fun _ => False) w w' := by
  have hp := h.planS hF.geo
  have hln := hp.lanes
  have hl3 := hp.nums.lanes.2
  obtain ⟨x, hx⟩ : ∃ x, (hopsOf g.t)[i]? = some x := ⟨_, List.getElem?_eq_getElem hi⟩
  have hgd : (hopsOf g.t).getD i (0, 0) = x := by rw [List.getD_eq_getElem?_getD, hx]; rfl
  have hcnt := (hops_in hp.tree hp.t5).2
  have ht5 := hp.t5
  obtain ⟨hx1, hx2, hx3, hx4⟩ := (hops_in hp.tree hp.t5).1 x (List.mem_of_getElem? hx)
  obtain ⟨y, z⟩ := x
  simp only at hx1 hx2 hx3 hx4
  obtain ⟨py1, py2, py3⟩ := portN_ok hx4
  obtain ⟨pz1, pz2, pz3⟩ := portN_ok hx3
  have hny := hF.node y hx1
  have hnz := hF.node z hx2
  have hrows := hok.rows i hi
  have hroom : (s.ln i).length ≤ 64 := by have := hok.room i hi; have := hp.nums.bag.2; omega
  obtain ⟨r, hr⟩ : ∃ r, flyF g s i k = r := ⟨_, rfl⟩
  rw [hr]
  unfold flyF at hr
  rw [hgd] at hr
  simp only at hr
  obtain ⟨L, hL⟩ : ∃ L, g.ws.length = L := ⟨_, rfl⟩
  generalize portN g.t y z = py at *
  generalize portN g.t z y = pz at *
  have HPL := Lib.hid (p := ∀ U, Keeps (fun _ => False) w U → Calls Tryz.prog 33 #[.pointer (some ⟨fa.fb, 0, none⟩)] U fun e w' => ∃ e1 wt1 nx1, e = .returned (.agg #[.int .i64 ((g.t.length : Int) + 1), e1, .int .i64 (L : Int), .int .i64 g.p.room, .int .i64 g.p.queue, .int .i64 g.p.rounds, .int .i64 g.p.every, .int .i64 g.p.bag, wt1, .int .u16 g.p.start, nx1]) ∧
    (∃ A1 c1, e1 = .slice A1 g.t.length c1) ∧ (∃ A1 c1, wt1 = .slice A1 L c1) ∧ (∃ A1 c1, nx1 = .slice A1 (g.t.length + 1) c1) ∧
    (∀ V, Keeps (fun _ => False) w' V → Calls Tryz.prog 107 #[.agg #[.int .i64 ((g.t.length : Int) + 1), e1, .int .i64 (L : Int), .int .i64 g.p.room, .int .i64 g.p.queue, .int .i64 g.p.rounds, .int .i64 g.p.every, .int .i64 g.p.bag, wt1, .int .u16 g.p.start, nx1], .int .i64 y, .int .i64 z] V fun e w'' => e = .returned (.int .i64 (py : Int)) ∧ Keeps (fun _ => False) V w'') ∧
    (∀ V, Keeps (fun _ => False) w' V → Calls Tryz.prog 107 #[.agg #[.int .i64 ((g.t.length : Int) + 1), e1, .int .i64 (L : Int), .int .i64 g.p.room, .int .i64 g.p.queue, .int .i64 g.p.rounds, .int .i64 g.p.every, .int .i64 g.p.bag, wt1, .int .u16 g.p.start, nx1], .int .i64 z, .int .i64 y] V fun e w'' => e = .returned (.int .i64 (pz : Int)) ∧ Keeps (fun _ => False) V w'') ∧ Keeps (fun _ => False) U w') fun U hU => by
      have hS := SysF.calm' h hU
      refine (fplan_runs (hS.fabR hF) (hS.planS hF.geo)).mono ?_
      rintro e w' ⟨e1, wt1, nx1, rfl, hq, hk⟩
      have hB := fun V hV => port_runs (hq.keeps (w' := V) (F := fun _ => False) hV (fun _ _ h => h)) y z hx1
      have hC := fun V hV => port_runs (hq.keeps (w' := V) (F := fun _ => False) hV (fun _ _ h => h)) z y hx2
      obtain ⟨s1, s2, s3⟩ := hq.shapes
      unfold planV Nums.plan at hB hC ⊢
      rw [hln, hL] at hB hC ⊢
      rw [hL] at s2
      rw [py1] at hB
      rw [pz1] at hC
      exact ⟨e1, wt1, nx1, rfl, s1, s2, s3, hB, hC, hk⟩
  have HLK := Lib.hid (p := ∀ U, Keeps (fun _ => False) w U → _) fun U hU => flink_ok ((SysF.calm' h hU).fabR hF) i hi
  have HHP := Lib.hid (p := ∀ U, Keeps (fun _ => False) w U → _) fun U hU => fhops_runs ((SysF.calm' h hU).fabR hF) (by omega)
  have HNY := Lib.hid (p := ∀ U, Keeps (fun _ => False) w U → _) fun U hU => fnode_ok ((SysF.calm' h hU).fabR hF) y hx1
  have HNZ := Lib.hid (p := ∀ U, Keeps (fun _ => False) w U → _) fun U hU => fnode_ok ((SysF.calm' h hU).fabR hF) z hx2
  have HSN := Lib.hid (p := ∀ U, Keeps (fun _ => False) w U → _) fun U hU => sender_ok ((SysF.calm' h hU).nodeR hF.geo hny) hln py k py2 py3 hk
  have HRC := Lib.hid (p := ∀ U, Keeps (fun _ => False) w U → _) fun U hU => receiver_ok ((SysF.calm' h hU).nodeR hF.geo hnz) hln pz k pz2 pz3 hk
  have HSA := Lib.hid (p := ∀ U, Keeps (fun _ => False) w U → _) fun U hU => ((SysF.calm' h hU).sendAt hF.geo hny py2 py3 hk).1
  have HRA := Lib.hid (p := ∀ U, Keeps (fun _ => False) w U → _) fun U hU => ((SysF.calm' h hU).recvAt hF.geo hnz pz2 pz3 hk).1
  have HAL := Lib.hid (p := ∀ U, Keeps (fun _ => False) w U → _) fun U hU => all_runs (fa.lb i) _ _ _ U ((SysF.calm' h hU).linkV hF hi)
  have HRW := Lib.hid hrows
  have HR := Lib.hid hr
  rw [hL] at hk
  have hcnt10 : (hopsOf g.t).length ≤ 10 := by omega
  have HX := Lib.hid hx
  have hkL : (k : Int) < (L : Int) := by omega
  have hk0 : ¬ (k : Int) < 0 := by omega
  have hkL' : ¬ (L : Int) ≤ (k : Int) := by omega
  have hil : (i : Int) < ((hopsOf g.t).length : Int) := by omega
  have hi0 : (0 : Int) ≤ (i : Int) := by omega
  clear h hF hok hp hln hx hgd hcnt hx1 hx2 hx3 hx4 py1 py2 py3 pz1 pz2 pz3 hny hnz hrows hr hL
  generalize (s.nd y) = ny at *
  generalize (s.nd z) = nz at *
  generalize fa.na y = ay at *
  generalize fa.na z = az at *
  generalize s.ln i = rows at *
  obtain ⟨nh, hnh⟩ : ∃ nh, (hopsOf g.t).length = nh := ⟨_, rfl⟩
  rw [hnh] at HHP hi hcnt10 hil
  clear hnh
  go_enter Tryz.func59, Tryz.ntmps59
  go_wp2_with fail
  have hkX : Keeps (fun _ => False) w (w.alloc (.cells #[.int .i64 0, .int .i64 0, .int .i64 0, .int .i64 0, .int .i64 0] 79)) := Keeps.alloc _ _ _
  have hbX := blk_new w (.cells #[.int .i64 0, .int .i64 0, .int .i64 0, .int .i64 0, .int .i64 0] 79)
  have HKX := Lib.hid hkX
  have HBX := Lib.hid hbX
  clear hkX hbX
  generalize w.alloc (.cells #[.int .i64 0, .int .i64 0, .int .i64 0, .int .i64 0, .int .i64 0] 79) = X at *
  obtain ⟨ab, hab⟩ : ∃ ab, w.heap.size = ab := ⟨_, rfl⟩
  have HAB := Lib.hid hab
  rw [hab] at HBX ⊢
  clear hab
  refine (HPL.out X HKX.out).mono ?_
  rintro e U ⟨_, _, _, rfl, ⟨A1, c1, rfl⟩, ⟨A2, c2, rfl⟩, ⟨A3, c3, rfl⟩, hp1, hp2, hU⟩
  have hkA : Keeps (fun _ => False) U (U.alloc (.cells #[.int .i64 ((g.t.length : Int) + 1), .slice A1 g.t.length c1, .int .i64 (L : Int), .int .i64 g.p.room, .int .i64 g.p.queue, .int .i64 g.p.rounds, .int .i64 g.p.every, .int .i64 g.p.bag, .slice A2 L c2, .int .u16 g.p.start, .slice A3 (g.t.length + 1) c3] 38)) := Keeps.alloc _ _ _
  have hbA : PBox (U.alloc (.cells #[.int .i64 ((g.t.length : Int) + 1), .slice A1 g.t.length c1, .int .i64 (L : Int), .int .i64 g.p.room, .int .i64 g.p.queue, .int .i64 g.p.rounds, .int .i64 g.p.every, .int .i64 g.p.bag, .slice A2 L c2, .int .u16 g.p.start, .slice A3 (g.t.length + 1) c3] 38)) U.heap.size #[.int .i64 ((g.t.length : Int) + 1), .slice A1 g.t.length c1, .int .i64 (L : Int), .int .i64 g.p.room, .int .i64 g.p.queue, .int .i64 g.p.rounds, .int .i64 g.p.every, .int .i64 g.p.bag, .slice A2 L c2, .int .u16 g.p.start, .slice A3 (g.t.length + 1) c3] := blk_new U _
  have HKU := Lib.hid ((HKX.out.trans hU).trans hkA)
  have HBU := Lib.hid (blk_keeps (hU.trans hkA) HBX.out (fun h => h))
  have HP1 := Lib.hid (p := ∀ V, Keeps (fun _ => False) (U.alloc (.cells #[.int .i64 ((g.t.length : Int) + 1), .slice A1 g.t.length c1, .int .i64 (L : Int), .int .i64 g.p.room, .int .i64 g.p.queue, .int .i64 g.p.rounds, .int .i64 g.p.every, .int .i64 g.p.bag, .slice A2 L c2, .int .u16 g.p.start, .slice A3 (g.t.length + 1) c3] 38)) V → _) fun V hV => hp1 V (hkA.trans hV)
  have HP2 := Lib.hid (p := ∀ V, Keeps (fun _ => False) (U.alloc (.cells #[.int .i64 ((g.t.length : Int) + 1), .slice A1 g.t.length c1, .int .i64 (L : Int), .int .i64 g.p.room, .int .i64 g.p.queue, .int .i64 g.p.rounds, .int .i64 g.p.every, .int .i64 g.p.bag, .slice A2 L c2, .int .u16 g.p.start, .slice A3 (g.t.length + 1) c3] 38)) V → _) fun V hV => hp2 V (hkA.trans hV)
  have HPB := Lib.hid hbA
  clear hU hkA hbA hp1 hp2 HKX HBX HPL
  go_wp2_with fail
  generalize U.alloc (.cells #[.int .i64 ((g.t.length : Int) + 1), .slice A1 g.t.length c1, .int .i64 (L : Int), .int .i64 g.p.room, .int .i64 g.p.queue, .int .i64 g.p.rounds, .int .i64 g.p.every, .int .i64 g.p.bag, .slice A2 L c2, .int .u16 g.p.start, .slice A3 (g.t.length + 1) c3] 38) = Y at *
  generalize U.heap.size = pb at *
  refine (HLK.out Y HKU.out).mono ?_
  rintro e V ⟨rfl, hV⟩
  have hpV : PBox V pb _ := blk_keeps hV HPB.out (fun h => h)
  obtain ⟨_, _, z2, _⟩ := PBox.all hpV
  have HKV := Lib.hid (HKU.out.trans hV)
  have HBV := Lib.hid (blk_keeps hV HBU.out (fun h => h))
  have HPV := Lib.hid hpV
  have HP1V := Lib.hid (p := ∀ Z, Keeps (fun _ => False) V Z → _) fun Z hZ => HP1.out Z (hV.trans hZ)
  have HP2V := Lib.hid (p := ∀ Z, Keeps (fun _ => False) V Z → _) fun Z hZ => HP2.out Z (hV.trans hZ)
  clear hV hpV HKU HBU HPB HP1 HP2 HLK
  go_wp2_with fail
  clear z2
  refine (HHP.out V HKV.out).mono ?_
  rintro e W ⟨Ah, ch, rfl, hQ, hW, _⟩
  obtain ⟨gp, op, cp, e1, _, hc, _⟩ := hQ.cell (by omega)
  injection e1 with ea _ ec
  subst ea ec
  obtain ⟨u1, u2⟩ := flat2_at _ _ _ HX.out
  have p1 := hc _ _ u1
  have p2 := hc _ _ u2
  unfold encI at p1 p2
  simp only at p1 p2
  rw [← Nat.add_assoc] at p2
  have hkH : Keeps (fun _ => False) W (W.alloc (.cells #[.int .i64 (y : Int), .int .i64 (z : Int)] 95)) := Keeps.alloc _ _ _
  have hbH := blk_new W (.cells #[.int .i64 (y : Int), .int .i64 (z : Int)] 95)
  have HKW := Lib.hid ((HKV.out.trans hW).trans hkH)
  have HBW := Lib.hid (blk_keeps (hW.trans hkH) HBV.out (fun h => h))
  have HPW := Lib.hid (show PBox _ pb _ from blk_keeps (hW.trans hkH) HPV.out (fun h => h))
  have HHW := Lib.hid hbH
  have HP1W := Lib.hid (p := ∀ Z, Keeps (fun _ => False) (W.alloc (.cells #[.int .i64 (y : Int), .int .i64 (z : Int)] 95)) Z → _) fun Z hZ => HP1V.out Z ((hW.trans hkH).trans hZ)
  have HP2W := Lib.hid (p := ∀ Z, Keeps (fun _ => False) (W.alloc (.cells #[.int .i64 (y : Int), .int .i64 (z : Int)] 95)) Z → _) fun Z hZ => HP2V.out Z ((hW.trans hkH).trans hZ)
  clear hW hQ hc u1 u2 hkH hbH HKV HBV HPV HP1V HP2V HHP HX
  go_wp2_with fail
  clear p1 p2
  generalize W.alloc (.cells #[.int .i64 (y : Int), .int .i64 (z : Int)] 95) = T at *
  generalize W.heap.size = hb at *
  have t0 : T.cell? ⟨hb, 0, none⟩ = some (.int .i64 (y : Int)) := by rw [blk_cell HHW.out]; rfl
  have t1 : T.cell? ⟨hb, 1, none⟩ = some (.int .i64 (z : Int)) := by rw [blk_cell HHW.out]; rfl
  have r0 := cell_regrown t0
  have r1 := cell_regrown t1
  obtain ⟨x0, x1, x2, x3, x4, x5, x6, x7, x8, x9, x10, _⟩ := PBox.all HPW.out
  have X0 := cell_regrown x0
  have X1 := cell_regrown x1
  have X2 := cell_regrown x2
  have X3 := cell_regrown x3
  have X4 := cell_regrown x4
  have X5 := cell_regrown x5
  have X6 := cell_regrown x6
  have X7 := cell_regrown x7
  have X8 := cell_regrown x8
  have X9 := cell_regrown x9
  have X10 := cell_regrown x10
  have Q1 := Lib.hid (p := ∀ d os, _) fun d os => quietF (W := T) d os (fun A hA => HNY.out A (HKW.out.trans hA))
  have Q2 := Lib.hid (p := ∀ d os, _) fun d os => quietF (W := T) d os (fun A hA => HP1W.out A hA)
  have Q3 := Lib.hid (p := ∀ d os, _) fun d os => quietF (W := T) d os (fun A hA => HSN.out A (HKW.out.trans hA))
  clear t0 t1 x0 x1 x2 x3 x4 x5 x6 x7 x8 x9 x10
  refine wp_region_quiet_below (by kernel_rfl) (by kernel_rfl) ?_
  repeat (go_big_quiet_step ((first | (go_at_call 19; exact Q1.out _ _) | (go_at_call 107; exact Q2.out _ _) | (go_at_call 106; exact Q3.out _ _))))
  refine wpQuiet_nil ?_
  intro w' hw'
  obtain ⟨⟨nq, osq⟩, hw''⟩ := hw'
  have hkM : Keeps (fun _ => False) T (grow (redrawn T nq) osq) := Keeps.of_below (below_regrown T nq osq)
  subst hw''
  clear Q1 Q2 Q3 r0 r1 X0 X1 X2 X3 X4 X5 X6 X7 X8 X9 X10
  generalize grow (redrawn T nq) osq = M at *
  have HKM := Lib.hid (HKW.out.trans hkM)
  have HBM := Lib.hid (blk_keeps hkM HBW.out (fun h => h))
  have HPM := Lib.hid (show PBox M pb _ from blk_keeps hkM HPW.out (fun h => h))
  have HHM := Lib.hid (blk_keeps hkM HHW.out (fun h => h))
  have HP2M := Lib.hid (p := ∀ Z, Keeps (fun _ => False) M Z → _) fun Z hZ => HP2W.out Z (hkM.trans hZ)
  clear hkM HKW HBW HPW HHW HP1W HP2W HNY HSN
  go_wp2_with fail
  have t0 : M.cell? ⟨hb, 0, none⟩ = some (.int .i64 (y : Int)) := by rw [blk_cell HHM.out]; rfl
  have t1 : M.cell? ⟨hb, 1, none⟩ = some (.int .i64 (z : Int)) := by rw [blk_cell HHM.out]; rfl
  have r0 := cell_regrown t0
  have r1 := cell_regrown t1
  obtain ⟨x0, x1, x2, x3, x4, x5, x6, x7, x8, x9, x10, _⟩ := PBox.all HPM.out
  have X0 := cell_regrown x0
  have X1 := cell_regrown x1
  have X2 := cell_regrown x2
  have X3 := cell_regrown x3
  have X4 := cell_regrown x4
  have X5 := cell_regrown x5
  have X6 := cell_regrown x6
  have X7 := cell_regrown x7
  have X8 := cell_regrown x8
  have X9 := cell_regrown x9
  have X10 := cell_regrown x10
  have Q1 := Lib.hid (p := ∀ d os, _) fun d os => quietF (W := M) d os (fun A hA => HNZ.out A (HKM.out.trans hA))
  have Q2 := Lib.hid (p := ∀ d os, _) fun d os => quietF (W := M) d os (fun A hA => HP2M.out A hA)
  have Q3 := Lib.hid (p := ∀ d os, _) fun d os => quietF (W := M) d os (fun A hA => HRC.out A (HKM.out.trans hA))
  clear t0 t1 x0 x1 x2 x3 x4 x5 x6 x7 x8 x9 x10
  refine wp_region_quiet_below (by kernel_rfl) (by kernel_rfl) ?_
  repeat (go_big_quiet_step ((first | (go_at_call 19; exact Q1.out _ _) | (go_at_call 107; exact Q2.out _ _) | (go_at_call 108; exact Q3.out _ _))))
  refine wpQuiet_nil ?_
  intro w' hw'
  obtain ⟨⟨nq, osq⟩, hw''⟩ := hw'
  have hkN : Keeps (fun _ => False) M (grow (redrawn M nq) osq) := Keeps.of_below (below_regrown M nq osq)
  subst hw''
  clear Q1 Q2 Q3 r0 r1 X0 X1 X2 X3 X4 X5 X6 X7 X8 X9 X10
  generalize grow (redrawn M nq) osq = N at *
  have HKN := Lib.hid (HKM.out.trans hkN)
  have HBN := Lib.hid (blk_keeps hkN HBM.out (fun h => h))
  clear hkN HKM HBM HPM HHM HP2M HNZ HRC
  have HUS := Lib.hid (usable_runs _ _ _ N (HSA.out N HKN.out))
  go_wp2_with fail
  refine HUS.out.mono ?_
  rintro e U ⟨rfl, hU⟩
  have HKU := Lib.hid (HKN.out.trans hU)
  have HBU := Lib.hid (blk_keeps hU HBN.out (fun h => h))
  have HRL := Lib.hid (rlimit_runs _ _ _ _ U (HRA.out U HKU.out))
  clear hU HKN HBN HUS
  go_wp2_with fail
  refine HRL.out.mono ?_
  rintro e V ⟨rfl, hV⟩
  have HKV := Lib.hid (HKU.out.trans hV)
  have HBV := Lib.hid (blk_keeps hV HBU.out (fun h => h))
  have HSL := Lib.hid (slimit_runs _ _ _ V (HSA.out V HKV.out))
  have HHE := Lib.hid (held_runs _ _ _ _ V (HRA.out V HKV.out))
  clear hV HKU HBU HRL
  go_wp2_with fail
  refine HSL.out.mono ?_
  rintro e _ ⟨rfl, rfl⟩
  go_wp2_with fail
  refine HHE.out.mono ?_
  rintro e _ ⟨rfl, rfl⟩
  clear HSL HHE
  generalize opn (ny.sent py k) (ny.limit py k) = va at *
  generalize nz.held pz k = vc at *
  go_wp2_with fail
  obtain ⟨vb, hvb⟩ : ∃ vb, wrap64 (IntKind.u64.wrap (rlim (nz.next pz k) vc g.p.room - ny.limit py k)) = vb := ⟨_, rfl⟩
  rw [hvb]
  clear hvb
  have hkA : Keeps (fun _ => False) V (V.alloc (.cells #[.int .i64 va, .int .i64 vb, .int .i64 0, .int .i64 vc, .int .i64 0] 79)) := Keeps.alloc _ _ _
  have hbA := blk_new V (.cells #[.int .i64 va, .int .i64 vb, .int .i64 0, .int .i64 vc, .int .i64 0] 79)
  have HKA := Lib.hid (HKV.out.trans hkA)
  have HBA := Lib.hid (blk_keeps hkA HBV.out (fun h => h))
  have HAQ := Lib.hid hbA
  have HLT := Lib.hid HKV.out.size
  have HNE := Lib.hid (Nat.ne_of_lt (blk_lt HBV.out))
  clear hkA hbA HKV HBV
  generalize V.alloc (.cells #[.int .i64 va, .int .i64 vb, .int .i64 0, .int .i64 vc, .int .i64 0] 79) = A at *
  obtain ⟨aq, haq⟩ : ∃ aq, V.heap.size = aq := ⟨_, rfl⟩
  rw [haq] at HAQ HLT HNE ⊢
  clear haq
  refine (HAL.out A HKA.out).mono ?_
  rintro e W1 ⟨AR, cR, us, rfl, hRows, hW1⟩
  have HK1 := Lib.hid (HKA.out.trans hW1)
  have HB1 := Lib.hid (blk_keeps hW1 HBA.out (fun h => h))
  have HQ1 := Lib.hid (blk_keeps hW1 HAQ.out (fun h => h))
  have HEX := Lib.hid (expects_runs _ _ _ _ W1 (HRA.out W1 HK1.out))
  have HSE := Lib.hid (sent_runs _ _ _ W1 (HSA.out W1 HK1.out))
  have HFL := Lib.hid (flying_runs (k : Int) (nz.next pz k) (ny.sent py k) W1 _ AR cR us rows hRows (fun l hl => (HRW.out l hl).2) hroom)
  rw [HR.out] at HFL
  clear hW1 hRows HKA HBA HAQ HAL
  go_wp2_with fail
  refine HEX.out.mono ?_
  rintro e _ ⟨rfl, rfl⟩
  go_wp2_with fail
  refine HSE.out.mono ?_
  rintro e _ ⟨rfl, rfl⟩
  clear HEX HSE
  go_wp2_with fail
  refine HFL.out.mono ?_
  rintro e W2 ⟨rfl, hW2⟩
  have hq2 := blk_keeps hW2 HQ1.out (fun h => h)
  have q := fun j => blk_cell hq2 j
  have z2 := q 2
  have f2 : W2.frozen? ⟨aq, 2, none⟩ = false := blk_frozen hq2 2
  simp only [List.getElem?_toArray, List.getElem?_cons_zero, List.getElem?_cons_succ] at z2
  have HK2 := Lib.hid (HK1.out.trans hW2)
  have HB2 := Lib.hid (blk_keeps hW2 HB1.out (fun h => h))
  have HQ2 := Lib.hid hq2
  clear hW2 hq2 q HK1 HB1 HQ1 HFL
  go_wp2_with fail
  have hk3 : Keeps (fun b => b = aq) W2 (W2.setCell ⟨aq, 2, none⟩ (.int .i64 r)) := Keeps.setCell _ _ _ _ rfl
  have hq3 := blk_set HQ2.out 2 (.int .i64 r)
  have HK3 := Lib.hid (HK2.out.then hk3 (fun i hi e => by have := HLT.out; omega))
  have HB3 := Lib.hid (blk_keeps hk3 HB2.out HNE.out)
  have HQ3 := Lib.hid hq3
  clear hk3 hq3 f2 z2 HK2 HB2 HQ2
  generalize W2.setCell ⟨aq, 2, none⟩ (.int .i64 r) = W3 at *
  have y2 : W3.cell? ⟨aq, 2, none⟩ = some (.int .i64 r) := by rw [blk_cell HQ3.out]; rfl
  have y4 : W3.cell? ⟨aq, 4, none⟩ = some (.int .i64 0) := by rw [blk_cell HQ3.out]; rfl
  have f4 : W3.frozen? ⟨aq, 4, none⟩ = false := blk_frozen HQ3.out 4
  have HDK : Keeps (fun _ => False) W3 W3.drew := Keeps.drew _ _
  have HEX := Lib.hid (expects_runs _ _ _ _ W3.drew (HRA.out W3.drew (HK3.out.trans HDK)))
  have HSE := Lib.hid (sent_runs _ _ _ W3.drew (HSA.out W3.drew (HK3.out.trans HDK)))
  have y2d := HDK.cell y2 (fun h => h)
  have y4d := HDK.cell y4 (fun h => h)
  clear HDK
  go_region_law (first | (go_simp; go_at_call 115; refine HSE.out.mono ?_; rintro e _ ⟨rfl, rfl⟩) | (go_simp; go_at_call 114; refine HEX.out.mono ?_; rintro e _ ⟨rfl, rfl⟩))
  all_goals
    obtain ⟨d, hd⟩ : ∃ d, IntKind.i64.wrap (IntKind.i64.wrap (IntKind.u64.wrap (ny.sent py k - nz.next pz k)) - r) = d := ⟨_, rfl⟩
    rw [hd]
    clear hd y2 y4 f4 y2d y4d HEX HSE
    have hk4 : Keeps (fun b => b = aq) W3 (W3.setCell ⟨aq, 4, none⟩ (.int .i64 d)).drew := (Keeps.setCell (fun b => b = aq) W3 _ _ rfl).trans (Keeps.drew _ _)
    have hq4 : (W3.setCell ⟨aq, 4, none⟩ (.int .i64 d)).drew.heap[aq]? = some (.cells #[.int .i64 va, .int .i64 vb, .int .i64 r, .int .i64 vc, .int .i64 d] 79 (0, 0)) := blk_set HQ3.out 4 (.int .i64 d)
    have hb4 := blk_keeps hk4 HB3.out HNE.out
    have HK4 := Lib.hid (HK3.out.then hk4 (fun i hi e => by have := HLT.out; omega))
    clear hk4 HK3 HB3 HQ3
    generalize (W3.setCell ⟨aq, 4, none⟩ (.int .i64 d)).drew = W4 at *
    have q := fun j => blk_cell hq4 j
    have x0 := q 0; have x1 := q 1; have x2 := q 2; have x3 := q 3; have x4 := q 4
    simp only [List.getElem?_toArray, List.getElem?_cons_zero, List.getElem?_cons_succ] at x0 x1 x2 x3 x4
    have q' := fun j => blk_cell hb4 j
    have z0 := q' 0; have z1 := q' 1; have z2 := q' 2; have z3 := q' 3; have z4 := q' 4
    simp only [List.getElem?_toArray, List.getElem?_cons_zero, List.getElem?_cons_succ] at z0 z1 z2 z3 z4
    have zf : ∀ i, W4.frozen? ⟨ab, i, none⟩ = false := fun i => blk_frozen hb4 i
    have HB4 := Lib.hid hb4
    clear q q' hq4 hb4
    go_wp2_with fail
    have hz5 := blk_set (blk_set (blk_set (blk_set (blk_set HB4.out 0 (.int .i64 va)) 1 (.int .i64 vb)) 2 (.int .i64 r)) 3 (.int .i64 vc)) 4 (.int .i64 d)
    have ks := fun (W : World) (j : Nat) (u : Value) => Keeps.setCell (fun b => b = ab) W ⟨ab, j, none⟩ u rfl
    have hk5 := ((((ks W4 0 (.int .i64 va)).trans (ks _ 1 (.int .i64 vb))).trans (ks _ 2 (.int .i64 r))).trans (ks _ 3 (.int .i64 vc))).trans (ks _ 4 (.int .i64 d))
    clear x0 x1 x2 x3 x4 z0 z1 z2 z3 z4 zf ks
    generalize (((((W4.setCell ⟨ab, 0, none⟩ (.int .i64 va)).setCell ⟨ab, 1, none⟩ (.int .i64 vb)).setCell ⟨ab, 2, none⟩ (.int .i64 r)).setCell ⟨ab, 3, none⟩ (.int .i64 vc)).setCell ⟨ab, 4, none⟩ (.int .i64 d)) = W5 at *
    have q := fun j => blk_cell hz5 j
    have x0 := q 0; have x1 := q 1; have x2 := q 2; have x3 := q 3; have x4 := q 4
    simp at x0 x1 x2 x3 x4
    refine bodyPost_ret (v := .tuple #[.agg #[.int .i64 va, .int .i64 vb, .int .i64 r, .int .i64 vc, .int .i64 d], .bool true]) (by simp [results, Tryz.results59, go_sem, x0, x1, x2, x3, x4]) rfl ⟨⟨va, vb, vc, d, rfl⟩, HK4.out.then hk5 (fun i hi e => by have := HAB.out; omega)⟩
end
end Go.Proofs.YtebnflpanfmicaaGreatDoor
