/-
  Part 47 of the proof: TopBegan, TopKnown, TopTwo, TopRefArg.
-/
import Derived.Test.YtebnflpanfmicaaGreatDoorPkBH
import Derived.Test.YtebnflpanfmicaaGreatDoorPkBS
import Derived.Test.YtebnflpanfmicaaGreatDoorPkBT
import Derived.Test.YtebnflpanfmicaaGreatDoorPkBO
import Derived.Test.YtebnflpanfmicaaGreatDoorPkBL
import Derived.Test.YtebnflpanfmicaaGreatDoorPkAC
import Derived.Test.YtebnflpanfmicaaGreatDoorPkBG
import Derived.Test.YtebnflpanfmicaaGreatDoorPkAD
set_option linter.unusedVariables false
set_option linter.unusedSimpArgs false
set_option linter.unusedSectionVars false
namespace Go.Proofs.YtebnflpanfmicaaGreatDoor
open Go.RowKit
section
variable {σ : Sig} {w : World} {o : Nat → Option Cmp} {f pf : Nat}
set_option maxRecDepth 100000 in
set_option maxHeartbeats 16000000 in
theorem began_runs (h : SysF σ w o) (hFr : FreeF σ f) (hfp : σ.fab pf = Part.none) (hne : pf ≠ f) (v0 : Value) (zs : List Nat) (hz : ∀ x ∈ zs, x ≤ 255) (rm mr : Nat) (hrm : rm ≤ 255) (hmr : mr ≤ 255) (st : Int) (hst : 0 ≤ st ∧ st < 65536) (hR : Reads w w.heap.size 1 v0 zs.length (zs.map encU8)) :
    Calls Tryz.prog 7 #[v0, .int .u8 rm, .int .u8 mr, .int .u16 st] w fun e w' => ∃ P : PlayA, (P.g.p = makeNumsS rm mr st ∧ P.g.t = ofL zs ∧ P.g.ws = makeW mr (1 + mr % 3)) ∧ e = .returned (.pointer (some ⟨P.b, 0, none⟩)) ∧ PNext σ w o f pf P w' ⟨newF P.g, [], 0⟩ := by
  have HP16 := Lib.hid (plan16_runs v0 zs hz rm mr hrm hmr st hst w hR)
  have HST := Lib.hid hst
  obtain ⟨ht, ht0, ht5⟩ := ofL_tree zs
  have H := Lib.hid h
  have HFR := Lib.hid hFr
  have hps : (makeNumsS rm mr st).start = st := rfl
  generalize makeNumsS rm mr st = p at *
  generalize makeW mr (1 + mr % 3) = ws at *
  generalize ofL zs = t at *
  obtain ⟨lanes, room, queue, rounds, every, bag, start⟩ := p
  dsimp only at hps
  subst hps
  unfold planV Nums.plan at HP16
  clear h hFr hz hst hR ht
  go_enter Tryz.func7, Tryz.ntmps7
  go_wp2_with fail
  refine HP16.out.mono ?_
  rintro e U ⟨e1, wt1, nx1, rfl, hP, hU⟩
  obtain ⟨⟨Ea, ec, rfl⟩, ⟨Wa, wc, rfl⟩, ⟨Na, nc, rfl⟩⟩ := hP.shapes
  have hkA : Keeps (fun _ => False) U (U.alloc (.cells #[.int .i64 ((t.length : Int) + 1), .slice Ea t.length ec, .int .i64 lanes, .int .i64 room, .int .i64 queue, .int .i64 rounds, .int .i64 every, .int .i64 bag, .slice Wa ws.length wc, .int .u16 start, .slice Na (t.length + 1) nc] 38)) := Keeps.alloc _ _ _
  have hbA : PBox (U.alloc (.cells #[.int .i64 ((t.length : Int) + 1), .slice Ea t.length ec, .int .i64 lanes, .int .i64 room, .int .i64 queue, .int .i64 rounds, .int .i64 every, .int .i64 bag, .slice Wa ws.length wc, .int .u16 start, .slice Na (t.length + 1) nc] 38)) U.heap.size #[.int .i64 ((t.length : Int) + 1), .slice Ea t.length ec, .int .i64 lanes, .int .i64 room, .int .i64 queue, .int .i64 rounds, .int .i64 every, .int .i64 bag, .slice Wa ws.length wc, .int .u16 start, .slice Na (t.length + 1) nc] := blk_new U _
  have HKA := Lib.hid (hU.trans hkA)
  have HBA := Lib.hid hbA
  have HPA := Lib.hid (hP.keeps hkA (fun _ _ h => h))
  have HUS := Lib.hid hU.size
  obtain ⟨z0, z1, z2, z3, z4, z5, z6, z7, z8, z9, z10, _⟩ := PBox.all hbA
  have hNW := fnew_runs (SysF.calm' H.out HKA.out) HFR.out HPA.out HST.out
  unfold planV Nums.plan at hNW
  dsimp only at hNW
  have HNW := Lib.hid hNW
  clear hP hU hkA hbA HP16 hNW
  go_wp2_with fail
  clear z0 z1 z2 z3 z4 z5 z6 z7 z8 z9 z10
  generalize U.alloc (.cells #[.int .i64 ((t.length : Int) + 1), .slice Ea t.length ec, .int .i64 lanes, .int .i64 room, .int .i64 queue, .int .i64 rounds, .int .i64 every, .int .i64 bag, .slice Wa ws.length wc, .int .u16 start, .slice Na (t.length + 1) nc] 38) = Y at *
  obtain ⟨pb, hpb⟩ : ∃ pb, U.heap.size = pb := ⟨_, rfl⟩
  rw [hpb] at HBA HUS ⊢
  clear hpb
  refine HNW.out.mono ?_
  rintro e V ⟨fa, e2, wt2, nx2, rfl, σ1, o1, k1, k2, k3, k4⟩
  have hopb : o pb = none := SysF.fresh H.out HUS.out
  have hbV : PBox V pb #[.int .i64 ((t.length : Int) + 1), .slice Ea t.length ec, .int .i64 lanes, .int .i64 room, .int .i64 queue, .int .i64 rounds, .int .i64 every, .int .i64 bag, .slice Wa ws.length wc, .int .u16 start, .slice Na (t.length + 1) nc] := blk_keeps k2.1 HBA.out (by rw [hopb]; decide)
  obtain ⟨z0, z1, z2, z3, z4, z5, z6, z7, z8, z9, z10, _⟩ := PBox.all hbV
  have HK1 := Lib.hid k1
  have HK2 := Lib.hid ((Ext.keeps o HKA.out).trans k2)
  have HK3 := Lib.hid k3
  have HK4 := Lib.hid k4
  have b0 : ((0 : Int) == 0) = true := rfl
  have b1 : ((0 : Int) != 0) = false := rfl
  clear k1 k2 k3 k4 hbV HBA HNW hopb
  go_wp2_with fail
  clear z0 z1 z2 z3 z4 z5 z6 z7 z8 z9 z10
  go_ret
  have hf1 : σ1.fab pf = Part.none := (HK4.out pf hne).2.1.trans hfp
  have hno : ∀ k, o1 k ≠ some (.fab pf) := fun k e => by
    have := HK1.out.part (.fab pf)
    simp only [Sig.part, hf1] at this
    exact this k e
  have hkV : Keeps (fun _ => False) V (V.alloc (.cells #[.int .i64 ((t.length : Int) + 1), .slice Ea t.length ec, .int .i64 lanes, .int .i64 room, .int .i64 queue, .int .i64 rounds, .int .i64 every, .int .i64 bag, .slice Wa ws.length wc, .int .u16 start, .slice Na (t.length + 1) nc, .pointer (some ⟨fa.fb, 0, none⟩), .slice none 0 0, .int .i64 0] 42)) := Keeps.alloc _ _ _
  obtain ⟨o2, l1, l2, _, _⟩ := Sys.add (A' := (σ1.setF pf (playPart ⟨fa, ⟨⟨lanes, room, queue, rounds, every, bag, start⟩, t, ws, e2, wt2, nx2⟩, V.heap.size, .slice Ea t.length ec, .slice Wa ws.length wc, .slice Na (t.length + 1) nc⟩ [] 0)).part) (S := fun k => k = V.heap.size) HK1.out (.fab pf) (setF_part σ1 pf _) hno hkV (fun k e => Nat.le_of_eq e.symm) (by
    simp only [Sig.part, Sig.setF, if_true]
    exact ⟨.slice none 0 0, blk_new V _, QS.nil _ _ _, rfl, fun k e => (by cases e), fun k e => by rw [e, World.size_alloc]; exact Nat.lt_succ_self _⟩)
  refine ⟨⟨fa, ⟨⟨lanes, room, queue, rounds, every, bag, start⟩, t, ws, e2, wt2, nx2⟩, V.heap.size, .slice Ea t.length ec, .slice Wa ws.length wc, .slice Na (t.length + 1) nc⟩, ⟨rfl, rfl, rfl⟩, rfl, _, o2, l1, HK2.out.trans l2, ⟨⟨HK3.out.geo, ?_, HK3.out.node, HK3.out.link, HK3.out.lv⟩, by simp [Sig.setF]⟩, fun f' h1 h2 => ?_⟩
  · have := HK3.out.fab
    simp only [Sig.setF]
    rw [if_neg (fun e => hne e.symm)]
    exact this
  · obtain ⟨q1, q2, q3, q4⟩ := HK4.out f' h1
    exact ⟨q1, by simp [Sig.setF, h2, q2], q3, q4⟩
end
end Go.Proofs.YtebnflpanfmicaaGreatDoor
namespace Go.Proofs.YtebnflpanfmicaaGreatDoor
open Go.RowKit
theorem FabOk.new (g : Geo) (h1 : g.ws.length ≤ 3) (h2 : 1 ≤ g.ws.length) (hw : ∀ x ∈ g.ws, 1 ≤ x ∧ x ≤ 5) (hq : 0 ≤ g.p.queue) (hb : 0 ≤ g.p.bag) : FabOk g (newF g) 0 := by
  refine ⟨fun v hv => ⟨fun i hi => ⟨h2, h1, rfl, h2, hw, fun x hx => (hw x hx).2⟩, fun k hk => ?_, fun k hk => ?_, (fun k hk x hx => by cases hx), fun k hk => ?_, Nat.le_refl _⟩, fun h hh => ?_, (fun h hh l hl => by cases hl)⟩
  · exact Nat.lt_of_le_of_lt (Nat.zero_le _) hk
  · exact Nat.lt_of_le_of_lt (Nat.zero_le _) hk
  · show ((0 : Nat) : Int) ≤ _; omega
  · show ((0 : Nat) : Int) ≤ _; omega
def sig0 : Sig := ⟨fun _ => none, fun _ _ => none, fun _ _ => none, fun _ => Part.none⟩
theorem sys0 (w : World) : SysF sig0 w (fun _ => none) := by
  refine ⟨fun c => ?_, fun k c e => by cases e⟩
  have : sig0.part c = Part.none := by cases c <;> rfl
  rw [this]
  intro k e
  cases e
theorem free0 (f : Nat) : FreeF sig0 f := ⟨rfl, fun _ => rfl, fun _ => rfl, rfl⟩
def g2 (e w n : Value) : Geo := ⟨⟨1, 2, 1, 1, 1, 64, 0⟩, [0], [1], e, w, n⟩
abbrev g20 : Geo := g2 (.slice none 0 0) (.slice none 0 0) (.slice none 0 0)
def kn1 (g : Geo) : FabS := (injF g (newF g) ⟨0, 1, 0, 7⟩).1
def kn2 (g : Geo) : FabS := roundF g (kn1 g)
def kn3 (g : Geo) : FabS := roundF g (kn2 g)
theorem kn_any (e w n : Value) : kn3 (g2 e w n) = kn3 g20 := by kernel_rfl
theorem kn_ins (e w n : Value) : insideF (g2 e w n) (kn3 g20) = insideF g20 (kn3 g20) := by kernel_rfl
theorem kn_got : ((kn3 g20).nd 1 |>.q 3).length = 1 := by decide +kernel
theorem kn_ins0 : insideF g20 (kn3 g20) = 0 := by decide +kernel
theorem kn_hops (e w n : Value) : (hopsOf (g2 e w n).t).length * (g2 e w n).ws.length = 2 := by
  show (hopsOf [0]).length * [1].length = 2
  decide +kernel
theorem kn_make : makeNumsS 1 0 0 = ⟨1, 2, 1, 1, 1, 64, 0⟩ ∧ makeW 0 (1 + 0 % 3) = [1] ∧ ofL [0] = [0] := ⟨rfl, by decide +kernel, by decide +kernel⟩
set_option maxRecDepth 100000 in
set_option maxHeartbeats 16000000 in
theorem tknown_runs (w : World) (hT : Tab w) : Calls Tryz.prog 6 #[] w fun e w' => e = .returned (.bool true) ∧ Keeps (fun _ => False) w w' := by
  have hkA : Keeps (fun _ => False) w (w.alloc (.cells #[.int .u8 0] 5)) := Keeps.alloc _ _ _
  have hqA : QS (w.alloc (.cells #[.int .u8 0] 5)) 5 1 (.slice (some ⟨w.heap.size, 0, none⟩) 1 1) 1 [.int .u8 0] := ⟨rfl, .inr ⟨w.heap.size, 0, 1, _, rfl, blk_new _ _, Nat.le_refl _, by simp only [maxLen]; omega, by simp, fun j hj => (by
    obtain rfl : j = 0 := by (simpa using hj)
    rfl)⟩⟩
  have HP16 := Lib.hid (plan16_runs (.slice (some ⟨w.heap.size, 0, none⟩) 1 1) [0] (by intro x hx; simp at hx; omega) 1 0 (by decide) (by decide) 0 (by decide) _ hqA.reads)
  rw [show ((1 : Nat) : Int) = 1 from rfl, show ((0 : Nat) : Int) = 0 from rfl] at HP16
  obtain ⟨m1, m2, m3⟩ := kn_make
  obtain ⟨p, hp⟩ : ∃ p, makeNumsS 1 0 0 = p := ⟨_, rfl⟩
  obtain ⟨ws, hws⟩ : ∃ ws, makeW 0 (1 + 0 % 3) = ws := ⟨_, rfl⟩
  obtain ⟨t, ht⟩ : ∃ t, ofL [0] = t := ⟨_, rfl⟩
  rw [hp, hws, ht] at HP16
  have HMK := Lib.hid (show p = ⟨1, 2, 1, 1, 1, 64, 0⟩ ∧ ws = [1] ∧ t = [0] from ⟨hp.symm.trans m1, hws.symm.trans m2, ht.symm.trans m3⟩)
  have hst : 0 ≤ p.start ∧ p.start < 65536 := by rw [HMK.out.1]; decide
  obtain ⟨lanes, room, queue, rounds, every, bag, start⟩ := p
  unfold planV Nums.plan at HP16
  dsimp only at HP16 hst
  have HST := Lib.hid hst
  have HKA := Lib.hid hkA
  have HT := Lib.hid hT
  clear hkA hqA m1 m2 m3 hT hp hws ht hst
  go_enter Tryz.func6, Tryz.ntmps6
  go_wp2_with fail
  generalize w.alloc (.cells #[.int .u8 0] 5) = X at *
  generalize w.heap.size = xb at *
  refine HP16.out.mono ?_
  rintro e U ⟨e1, wt1, nx1, rfl, hP, hU⟩
  obtain ⟨⟨Ea, ec, rfl⟩, ⟨Wa, wc, rfl⟩, ⟨Na, nc, rfl⟩⟩ := hP.shapes
  have hNW := fnew_runs (sys0 U) (free0 0) hP HST.out
  unfold planV Nums.plan at hNW
  dsimp only at hNW
  have HNW := Lib.hid hNW
  have HKU := Lib.hid (HKA.out.trans hU)
  clear hP hU HP16 hNW
  go_wp2_with fail
  refine HNW.out.mono ?_
  rintro e V ⟨fa, e2, wt2, nx2, rfl, σ1, o1, k1, k2, k3, k4⟩
  obtain ⟨h1, h2, h3⟩ := HMK.out
  injection h1 with q1 q2 q3 q4 q5 q6 q7
  subst q1 q2 q3 q4 q5 q6 q7 h2 h3
  have hg : (⟨⟨1, 2, 1, 1, 1, 64, 0⟩, [0], [1], e2, wt2, nx2⟩ : Geo) = g2 e2 wt2 nx2 := rfl
  rw [hg] at k3
  have hTV : Tab V ∧ o1 0 = none := k2.tab (HT.out.keeps HKU.out (fun h => h)) rfl
  have HK1 := Lib.hid k1
  have HK2 := Lib.hid ((Ext.keeps (fun _ => none) HKU.out).trans k2)
  have HK3 := Lib.hid k3
  have HTV := Lib.hid hTV
  have b0 : ((0 : Int) == 0) = true := rfl
  have b1 : ((0 : Int) != 0) = false := rfl
  have HN0 := Lib.hid (p := ∀ U, Keeps (fun _ => False) V U → _) fun U hU => fnode_ok ((SysF.calm' k1 hU).fabR k3) 0 (show 0 ≤ ([0] : List Nat).length by decide)
  have HN1 := Lib.hid (p := ∀ U, Keeps (fun _ => False) V U → _) fun U hU => fnode_ok ((SysF.calm' k1 hU).fabR k3) 1 (show 1 ≤ ([0] : List Nat).length by decide)
  have HL0 := Lib.hid (p := ∀ U, Keeps (fun _ => False) V U → _) fun U hU => flink_ok ((SysF.calm' k1 hU).fabR k3) 0 (by show 0 < (hopsOf [0]).length; decide +kernel)
  have HH1 := Lib.hid (p := ∀ U, Keeps (fun _ => False) V U → _) fun U hU => nhost_runs ((SysF.calm' k1 hU).nodeR k3.geo (k3.node 1 (show 1 ≤ ([0] : List Nat).length by decide)))
  rw [show (((0 : Nat)) : Int) = 0 from rfl] at HN0 HL0
  rw [show (((1 : Nat)) : Int) = 1 from rfl] at HN1
  clear k1 k2 k3 k4 hTV HNW hg
  go_wp2_with fail
  refine (HN0.out V (Keeps.refl _ _)).mono ?_
  rintro e U1 ⟨rfl, hU1⟩
  go_wp2_with fail
  refine (HL0.out U1 hU1).mono ?_
  rintro e U2 ⟨rfl, hU2⟩
  have hV2 := hU1.trans hU2
  go_wp2_with fail
  refine (HN1.out U2 hV2).mono ?_
  rintro e U3 ⟨rfl, hU3⟩
  have hV3 := hV2.trans hU3
  go_wp2_with fail
  refine (HN1.out U3 hV3).mono ?_
  rintro e U4 ⟨rfl, hU4⟩
  have hV4 := hV3.trans hU4
  go_wp2_with fail
  refine (HH1.out U4 hV4).mono ?_
  rintro e _ ⟨rfl, rfl⟩
  clear hU1 hU2 hU3 hU4 hV2 hV3 HN0 HN1 HL0 HH1
  obtain ⟨g, hg⟩ : ∃ g, g2 e2 wt2 nx2 = g := ⟨_, rfl⟩
  have hok := FabOk.new (g2 e2 wt2 nx2) (by show ([1] : List Nat).length ≤ 3; decide) (by show 1 ≤ ([1] : List Nat).length; decide) (by show ∀ x ∈ ([1] : List Nat), 1 ≤ x ∧ x ≤ 5; decide) (by show (0 : Int) ≤ 1; decide) (by show (0 : Int) ≤ 64; decide)
  have hk3 := kn_any e2 wt2 nx2
  have hki := kn_ins e2 wt2 nx2
  have hkh := kn_hops e2 wt2 nx2
  have hl3 : (g2 e2 wt2 nx2).p.lanes ≤ 3 := by show (1 : Int) ≤ 3; decide
  have htl : 1 ≤ (g2 e2 wt2 nx2).t.length := show 1 ≤ ([0] : List Nat).length by decide
  have hws3 : (g2 e2 wt2 nx2).ws.length ≤ 3 := by show ([1] : List Nat).length ≤ 3; decide
  have hH3 := HK3.out
  rw [hg] at hok hk3 hki hkh hl3 htl hws3 hH3
  have h1 := SysF.calm' HK1.out hV4
  have hIN := finject_runs h1 hH3 hok ⟨0, 1, 0, 7⟩
  unfold Pkt.val at hIN
  dsimp only at hIN
  have hI1 : (injF g (newF g) ⟨0, 1, 0, 7⟩).1 = kn1 g := rfl
  rw [hI1] at hIN
  obtain ⟨er, her⟩ : ∃ er, (injF g (newF g) ⟨0, 1, 0, 7⟩).2 = er := ⟨_, rfl⟩
  rw [her] at hIN
  have hok1 : FabOk g (kn1 g) 0 := hok.inj _ hl3
  have HIN := Lib.hid hIN
  have HOK1 := Lib.hid hok1
  have HT4 := Lib.hid ((Ext.keeps o1 hV4).tab HTV.out.1 HTV.out.2)
  have HV4 := Lib.hid hV4
  have HFACT := Lib.hid (And.intro hk3 (And.intro hki (And.intro hkh (And.intro htl hws3))))
  clear h1 hIN hI1 her hok1 hok hk3 hki hkh htl hws3 hH3 hg hV4 HMK HST
  go_wp2_with fail
  refine HIN.out.mono ?_
  rintro e W1 ⟨rfl, σ2, o2, p1, p2, p3, p4⟩
  have hT2 := p2.tab HT4.out.1 HT4.out.2
  have hp := p1.planS p3.geo
  have hokr := HOK1.out.round hp.tree hp.t5 HFACT.out.2.2.2.2
  have HR1 := Lib.hid (fround_runs p1 hT2.1 hT2.2 p3 HOK1.out (by decide))
  have HE1 := Lib.hid (((Ext.keeps o1 HV4.out)).trans p2)
  have HT2 := Lib.hid hT2
  have HOKR := Lib.hid hokr
  have HTR := Lib.hid (And.intro hp.tree hp.t5)
  clear p1 p2 p3 p4 hT2 hp hokr HIN
  go_wp2_with fail
  refine HR1.out.mono ?_
  rintro e W2 ⟨rfl, σ3, o3, p1, p2, p3, p4⟩
  have hr1 : roundF g (kn1 g) = kn2 g := rfl
  have hokr := HOKR.out
  rw [hr1] at p3 hokr
  have hT3 := p2.tab HT2.out.1 HT2.out.2
  have HR2 := Lib.hid (fround_runs p1 hT3.1 hT3.2 p3 hokr (by decide))
  have HOK3 := Lib.hid (hokr.round HTR.out.1 HTR.out.2 HFACT.out.2.2.2.2)
  have HE2 := Lib.hid (HE1.out.trans p2)
  clear p1 p2 p3 p4 hr1 hokr hT3 HR1 HE1
  go_wp2_with fail
  refine HR2.out.mono ?_
  rintro e W3 ⟨rfl, σ4, o4, p1, p2, p3, p4⟩
  have hr2 : roundF g (kn2 g) = kn3 g := rfl
  have hokr := HOK3.out
  rw [hr2] at p3 hokr
  obtain ⟨f1, f2, f3, f4, f5⟩ := HFACT.out
  rw [f1] at p3 hokr
  have HGT := Lib.hid (fgot_runs p1 p3 1 f4 (by rw [kn_got]; decide) 1 kn_got)
  have HINS := Lib.hid (p := ∀ U, Keeps (fun _ => False) W3 U → _) fun U hU => insides_runs (SysF.calm' p1 hU) p3 hokr
  have HALL := Lib.hid (p := ∀ U, Keeps (fun _ => False) W3 U → _) fun U hU => accs_runs (SysF.calm' p1 hU) p3 hokr
  rw [f2, kn_ins0, wrap64_zero] at HINS
  rw [f3] at HALL
  have HE3 := Lib.hid (HE2.out.trans p2)
  clear p1 p2 p3 p4 hr2 hokr f1 f2 f3 f4 f5 HR2 HE2
  rw [show ((1 : Nat) : Int) = 1 from rfl] at HGT
  go_wp2_with fail
  refine HGT.out.mono ?_
  rintro e Y1 ⟨A1, c1, rfl, _, hY1, _⟩
  go_wp2_with fail
  refine (HINS.out Y1 hY1).mono ?_
  rintro e Y2 ⟨rfl, hY2⟩
  go_wp2_with fail
  refine (HALL.out Y2 (hY1.trans hY2)).mono ?_
  rintro e Y3 ⟨A3, c3, rfl, _, hY3⟩
  go_wp2_with fail
  go_ret
  exact ⟨rfl, ((HK2.out.trans HE3.out).1.mono (fun i _ e => by cases e)).trans ((hY1.trans hY2).trans hY3)⟩
end Go.Proofs.YtebnflpanfmicaaGreatDoor
namespace Go.Proofs.YtebnflpanfmicaaGreatDoor
open Go.RowKit
def Two (X w : World) (P Q : PlayA) (sp sq : PlayS) : Prop :=
  ∃ σ o, SysF σ w o ∧ Ext (fun _ => none) X o w ∧ PlayAt σ 0 2 P sp ∧ PlayAt σ 1 3 Q sq
section
variable {X w w' : World} {P Q : PlayA} {sp sq sp' sq' : PlayS} {c : Nat}
theorem Two.calm (h : Two X w P Q sp sq) (hk : Keeps (fun _ => False) w w') : Two X w' P Q sp sq := by
  obtain ⟨σ, o, h1, h2, h3, h4⟩ := h
  exact ⟨σ, o, SysF.calm' h1 hk, h2.trans (Ext.keeps o hk), h3, h4⟩
theorem Two.keeps (h : Two X w P Q sp sq) : Keeps (fun _ => False) X w := by
  obtain ⟨σ, o, h1, h2, h3, h4⟩ := h
  exact h2.1.mono (fun i _ e => by cases e)
theorem Two.left {σ : Sig} {o : Nat → Option Cmp} (h2 : Ext (fun _ => none) X o w) (h4 : PlayAt σ 1 3 Q sq) (h : PNext σ w o 0 2 P w' sp') : Two X w' P Q sp' sq := by
  obtain ⟨σ', o', k1, k2, k3, k4⟩ := h
  exact ⟨σ', o', k1, h2.trans k2, k3, h4.agree k4 (by decide) (by decide) (by decide) (by decide)⟩
theorem Two.right {σ : Sig} {o : Nat → Option Cmp} (h2 : Ext (fun _ => none) X o w) (h3 : PlayAt σ 0 2 P sp) (h : PNext σ w o 1 3 Q w' sq') : Two X w' P Q sp sq' := by
  obtain ⟨σ', o', k1, k2, k3, k4⟩ := h
  exact ⟨σ', o', k1, h2.trans k2, h3.agree k4 (by decide) (by decide) (by decide) (by decide), k3⟩
theorem Two.stepL (h : Two X w P Q sp sq) (hT : Tab X) (hok : FabOk P.g sp.fs c) (hc : c ≤ 700000000) (hs : sp.sent.length ≤ 1000000) (s : Stp) (hkd : 0 ≤ s.kind ∧ s.kind ≤ 255) :
    Calls Tryz.prog 8 #[.pointer (some ⟨P.b, 0, none⟩), s.val] w fun e w' => e = .returned (.tuple #[]) ∧ Two X w' P Q (stepF P.g sp s) sq := by
  obtain ⟨σ, o, h1, h2, h3, h4⟩ := h
  have ht := h2.tab hT rfl
  refine (pstep_runs h1 ht.1 ht.2 h3 (by decide) hok hc hs s hkd).mono ?_
  rintro e w' ⟨rfl, hn⟩
  exact ⟨rfl, Two.left h2 h4 hn⟩
theorem Two.stepR (h : Two X w P Q sp sq) (hT : Tab X) (hok : FabOk Q.g sq.fs c) (hc : c ≤ 700000000) (hs : sq.sent.length ≤ 1000000) (s : Stp) (hkd : 0 ≤ s.kind ∧ s.kind ≤ 255) :
    Calls Tryz.prog 8 #[.pointer (some ⟨Q.b, 0, none⟩), s.val] w fun e w' => e = .returned (.tuple #[]) ∧ Two X w' P Q sp (stepF Q.g sq s) := by
  obtain ⟨σ, o, h1, h2, h3, h4⟩ := h
  have ht := h2.tab hT rfl
  refine (pstep_runs h1 ht.1 ht.2 h4 (by decide) hok hc hs s hkd).mono ?_
  rintro e w' ⟨rfl, hn⟩
  exact ⟨rfl, Two.right h2 h3 hn⟩
theorem Two.roundL (h : Two X w P Q sp sq) (hT : Tab X) (hok : FabOk P.g sp.fs c) (hc : c ≤ 700000000) :
    Calls Tryz.prog 10 #[.pointer (some ⟨P.b, 0, none⟩)] w fun e w' => e = .returned (.tuple #[]) ∧ Two X w' P Q (roundY P.g sp) sq := by
  obtain ⟨σ, o, h1, h2, h3, h4⟩ := h
  have ht := h2.tab hT rfl
  refine (pround_runs h1 ht.1 ht.2 h3 (by decide) hok hc).mono ?_
  rintro e w' ⟨rfl, hn⟩
  exact ⟨rfl, Two.left h2 h4 hn⟩
theorem Two.roundR (h : Two X w P Q sp sq) (hT : Tab X) (hok : FabOk Q.g sq.fs c) (hc : c ≤ 700000000) :
    Calls Tryz.prog 10 #[.pointer (some ⟨Q.b, 0, none⟩)] w fun e w' => e = .returned (.tuple #[]) ∧ Two X w' P Q sp (roundY Q.g sq) := by
  obtain ⟨σ, o, h1, h2, h3, h4⟩ := h
  have ht := h2.tab hT rfl
  refine (pround_runs h1 ht.1 ht.2 h4 (by decide) hok hc).mono ?_
  rintro e w' ⟨rfl, hn⟩
  exact ⟨rfl, Two.right h2 h3 hn⟩
theorem Two.insL (h : Two X w P Q sp sq) (hok : FabOk P.g sp.fs c) :
    Calls Tryz.prog 9 #[.pointer (some ⟨P.fa.fb, 0, none⟩)] w fun e w' => e = .returned (.int .i64 (wrap64 (insideF P.g sp.fs))) ∧ Keeps (fun _ => False) w w' := by
  obtain ⟨σ, o, h1, h2, h3, h4⟩ := h
  exact insides_runs h1 h3.fab hok
theorem Two.insR (h : Two X w P Q sp sq) (hok : FabOk Q.g sq.fs c) :
    Calls Tryz.prog 9 #[.pointer (some ⟨Q.fa.fb, 0, none⟩)] w fun e w' => e = .returned (.int .i64 (wrap64 (insideF Q.g sq.fs))) ∧ Keeps (fun _ => False) w w' := by
  obtain ⟨σ, o, h1, h2, h3, h4⟩ := h
  exact insides_runs h1 h4.fab hok
theorem Two.injL (h : Two X w P Q sp sq) (hok : FabOk P.g sp.fs c) (x : Pkt) :
    Calls Tryz.prog 12 #[.pointer (some ⟨P.fa.fb, 0, none⟩), x.val] w fun e w' => e = .returned (.int .u16 (injF P.g sp.fs x).2) ∧ Two X w' P Q { sp with fs := (injF P.g sp.fs x).1 } sq := by
  obtain ⟨σ, o, h1, h2, h3, h4⟩ := h
  refine (finject_runs h1 h3.fab hok x).mono ?_
  rintro e w' ⟨rfl, hn⟩
  exact ⟨rfl, Two.left h2 h4 (PNext.fab h3 (by decide) hn)⟩
theorem Two.gotL (h : Two X w P Q sp sq) (hok : FabOk P.g sp.fs c) (hc : c ≤ 700000000) (N : Nat) (hN : (gotF sp.fs (P.g.t.length + 1)).length = N) :
    Calls Tryz.prog 11 #[.pointer (some ⟨P.b, 0, none⟩)] w fun e w' => ∃ A cp, e = .returned (.slice A N cp) ∧ QS w' 31 4 (.slice A N cp) N (pcells (gotF sp.fs (P.g.t.length + 1))) ∧ Keeps (fun _ => False) w w' ∧ ∀ k, (Value.slice A N cp).ownBlock = some k → w.heap.size ≤ k := by
  obtain ⟨σ, o, h1, h2, h3, h4⟩ := h
  exact pgot_runs h1 h3 hok hc N hN
theorem Two.gotR (h : Two X w P Q sp sq) (hok : FabOk Q.g sq.fs c) (hc : c ≤ 700000000) (N : Nat) (hN : (gotF sq.fs (Q.g.t.length + 1)).length = N) :
    Calls Tryz.prog 11 #[.pointer (some ⟨Q.b, 0, none⟩)] w fun e w' => ∃ A cp, e = .returned (.slice A N cp) ∧ QS w' 31 4 (.slice A N cp) N (pcells (gotF sq.fs (Q.g.t.length + 1))) ∧ Keeps (fun _ => False) w w' ∧ ∀ k, (Value.slice A N cp).ownBlock = some k → w.heap.size ≤ k := by
  obtain ⟨σ, o, h1, h2, h3, h4⟩ := h
  exact pgot_runs h1 h4 hok hc N hN
theorem Two.cellL (h : Two X w P Q sp sq) : w.cell? ⟨P.b, 11, none⟩ = some (.pointer (some ⟨P.fa.fb, 0, none⟩)) := by
  obtain ⟨σ, o, h1, h2, h3, h4⟩ := h
  exact h1.playF h3
theorem Two.cellR (h : Two X w P Q sp sq) : w.cell? ⟨Q.b, 11, none⟩ = some (.pointer (some ⟨Q.fa.fb, 0, none⟩)) := by
  obtain ⟨σ, o, h1, h2, h3, h4⟩ := h
  exact h1.playF h4
theorem Two.plan (h : Two X w P Q sp sq) : Tree P.g.t ∧ 1 ≤ P.g.t.length ∧ P.g.t.length ≤ 5 ∧ P.g.ws.length ≤ 3 ∧ P.g.p.lanes ≤ 3 ∧ P.g.p.lanes = (P.g.ws.length : Int) ∧ 1 ≤ P.g.ws.length := by
  obtain ⟨σ, o, h1, h2, h3, h4⟩ := h
  have hp := h1.planS h3.fab.geo
  have := hp.nums.lanes
  have := hp.lanes
  exact ⟨hp.tree, hp.t1, hp.t5, by omega, by omega, by omega, by omega⟩
end
def SameG (g g' : Geo) : Prop := g'.p = g.p ∧ g'.t = g.t ∧ g'.ws = g.ws
section
variable {g g' : Geo}
theorem SameG.step (h : SameG g g') (s : PlayS) (o : Stp) : stepF g' s o = stepF g s o := by
  obtain ⟨p, t, ws, e, w, n⟩ := g
  obtain ⟨p', t', ws', e', w', n'⟩ := g'
  obtain ⟨rfl, rfl, rfl⟩ := h
  kernel_rfl
theorem SameG.round (h : SameG g g') (s : PlayS) : roundY g' s = roundY g s := by
  obtain ⟨p, t, ws, e, w, n⟩ := g
  obtain ⟨p', t', ws', e', w', n'⟩ := g'
  obtain ⟨rfl, rfl, rfl⟩ := h
  kernel_rfl
theorem SameG.new (h : SameG g g') : newF g' = newF g := by
  obtain ⟨p, t, ws, e, w, n⟩ := g
  obtain ⟨p', t', ws', e', w', n'⟩ := g'
  obtain ⟨rfl, rfl, rfl⟩ := h
  kernel_rfl
theorem SameG.inside (h : SameG g g') (s : FabS) : insideF g' s = insideF g s := by
  obtain ⟨p, t, ws, e, w, n⟩ := g
  obtain ⟨p', t', ws', e', w', n'⟩ := g'
  obtain ⟨rfl, rfl, rfl⟩ := h
  kernel_rfl
theorem SameG.ok (h : SameG g g') {s : FabS} {c : Nat} (k : FabOk g s c) : FabOk g' s c := by
  obtain ⟨p, t, ws, e, w, n⟩ := g
  obtain ⟨p', t', ws', e', w', n'⟩ := g'
  obtain ⟨rfl, rfl, rfl⟩ := h
  exact ⟨fun v hv => ⟨(k.node v hv).wheel, (k.node v hv).G, (k.node v hv).A, (k.node v hv).q, (k.node v hv).wait, (k.node v hv).came⟩, k.room, k.rows⟩
end
theorem injF_no {g : Geo} {s : FabS} {x : Pkt} (h : (injF g s x).2 ≠ 0) : (injF g s x).1 = s := by
  unfold injF at h ⊢
  split
  · rename_i hc
    rw [if_pos hc] at h
    have key : (injN g x.src.toNat (s.nd x.src.toNat) x).1 = s.nd x.src.toNat := by
      unfold injN at h ⊢
      split
      · rfl
      · split
        · rfl
        · split
          · rfl
          · rename_i h1 h2 h3
            rw [if_neg h1, if_neg h2, if_neg h3] at h
            exact absurd rfl h
    simp only [key]
    have : setAt s.nd x.src.toNat (s.nd x.src.toNat) = s.nd := by
      funext v; unfold setAt; split
      · rename_i e; rw [e]
      · rfl
    rw [this]
  · rfl
theorem sumI_one {f f' : Nat → Int} {v : Nat} (h1 : f' v = f v + 1) (h2 : ∀ i, i ≠ v → f' i = f i) : ∀ {n : Nat}, v < n → sumI f' n = sumI f n + 1
  | 0, h => by omega
  | n + 1, h => by
    unfold sumI
    by_cases e : v = n
    · subst e
      rw [h1, sumI_congr (n := v) (fun i hi => h2 i (by omega))]; omega
    · rw [sumI_one h1 h2 (n := n) (by omega), h2 n (Ne.symm e)]; omega
theorem flyF_congr {g : Geo} {s s' : FabS} (h1 : ∀ v, (s'.nd v).next = (s.nd v).next) (h2 : ∀ v, (s'.nd v).sent = (s.nd v).sent) (h3 : s'.ln = s.ln) (h k : Nat) : flyF g s' h k = flyF g s h k := by
  unfold flyF
  simp only [h1, h2, h3]
theorem flyTo_congr {g : Geo} {s s' : FabS} (h1 : ∀ v, (s'.nd v).next = (s.nd v).next) (h2 : ∀ v, (s'.nd v).sent = (s.nd v).sent) (h3 : s'.ln = s.ln) (L : Nat) : ∀ h, flyTo g s' L h = flyTo g s L h
  | 0 => rfl
  | h + 1 => by
    unfold flyTo
    rw [flyTo_congr h1 h2 h3 L h]
    congr 1
    exact List.map_congr_left fun k _ => flyF_congr h1 h2 h3 h k
theorem injF_yes {g : Geo} {s : FabS} {x : Pkt} (hl : g.p.lanes = (g.ws.length : Int)) (h : (injF g s x).2 = 0) : insideF g (injF g s x).1 = insideF g s + 1 := by
  unfold injF at h ⊢
  split
  · rename_i hc
    rw [if_pos hc] at h
    simp only at h
    obtain ⟨v, hv⟩ : ∃ v : Nat, x.src = (v : Int) := ⟨x.src.toNat, by omega⟩
    rw [hv, Int.toNat_natCast] at h ⊢
    unfold injN at h ⊢
    split
    · rename_i h1; rw [if_pos h1] at h; cases h
    · rename_i h1
      rw [if_neg h1] at h
      split
      · rename_i h2; rw [if_pos h2] at h; cases h
      · rename_i h2
        rw [if_neg h2] at h
        split
        · rename_i h3; rw [if_pos h3] at h; cases h
        · rename_i h3
          obtain ⟨k, hk⟩ : ∃ k : Nat, x.lane = (k : Int) := ⟨x.lane.toNat, by omega⟩
          rw [hk, Int.toNat_natCast]
          have hkl : k < g.ws.length := by omega
          unfold insideF
          have e1 : ∀ u, (setAt s.nd v { s.nd v with q := setAt (s.nd v).q k ((s.nd v).q k ++ [x]) } u).next = (s.nd u).next := fun u => by
            unfold setAt; split
            · rename_i e; rw [e]
            · rfl
          have e2 : ∀ u, (setAt s.nd v { s.nd v with q := setAt (s.nd v).q k ((s.nd v).q k ++ [x]) } u).sent = (s.nd u).sent := fun u => by
            unfold setAt; split
            · rename_i e; rw [e]
            · rfl
          have hf := flyTo_congr (g := g) (s := s) (s' := ⟨setAt s.nd v { s.nd v with q := setAt (s.nd v).q k ((s.nd v).q k ++ [x]) }, s.ln, s.ticks⟩) e1 e2 rfl g.ws.length (hopsOf g.t).length
          have hsum : sumI (fun u => insV g u (setAt s.nd v { s.nd v with q := setAt (s.nd v).q k ((s.nd v).q k ++ [x]) } u)) (g.t.length + 1) = sumI (fun u => insV g u (s.nd u)) (g.t.length + 1) + 1 := by
            refine sumI_one (v := v) ?_ ?_ (by omega)
            · simp only [setAt_same]
              unfold insV
              refine sumI_one (v := k) ?_ ?_ hkl
              · unfold insK
                simp only [setAt_same]
                rw [List.length_append]
                have : lenQ { s.nd v with q := setAt (s.nd v).q k ((s.nd v).q k ++ [x]) } (g.ports v) k = lenQ (s.nd v) (g.ports v) k := rfl
                rw [this]
                simp only [List.length_cons, List.length_nil]
                omega
              · intro i hi
                unfold insK
                simp only [setAt_other _ _ _ _ hi]
                rfl
            · intro u hu
              simp only [setAt_other _ _ _ _ hu]
          rw [hf, hsum]
          omega
  · rename_i hc
    rw [if_neg hc] at h
    cases h
end Go.Proofs.YtebnflpanfmicaaGreatDoor
namespace Go.Proofs.YtebnflpanfmicaaGreatDoor
open Go.ChangeShapes Go.WideShapes Go.Deep Go.RowKit
structure Pkt.good (p : Pkt) : Prop where
  src : (Lit.int .i64 p.src).wf = true
  dst : (Lit.int .i64 p.dst).wf = true
  lane : (Lit.int .i64 p.lane).wf = true
  body : (Lit.int .u32 p.body).wf = true
theorem list4 {cs : List Value} {a b c d : Value} (hl : cs.length = 4) (h0 : cs[0]? = some a) (h1 : cs[1]? = some b) (h2 : cs[2]? = some c) (h3 : cs[3]? = some d) : cs = [a, b, c, d] := by
  match cs, hl with
  | [x0, x1, x2, x3], _ => simp at h0 h1 h2 h3; subst h0; subst h1; subst h2; subst h3; rfl
theorem pkt_in (H : Type) (enc : TypeId × Value → H) (W : World) (n : Nat) (cs : List Value) (x : DataW H × List MemPlace) (h : DataW.trod enc Tryz.prog W 0 (fun _ => true) true n 31 cs = some x) : ∃ a : Pkt, cs = a.cells ∧ a.good := by
  obtain ⟨xs, n', rfl, _, hl, hxl, hf⟩ := DataW.trod_struct Tryz.underlying31 h
  have hl4 : cs.length = 4 := hl.trans (by kernel_rfl)
  have hx4 : xs.length = 4 := hxl
  obtain ⟨s, h0, g0⟩ := field_int (o := 0) Tryz.underlying3 (by kernel_rfl) rfl (by omega) (by rw [List.getElem?_eq_getElem (by omega)]; rfl) (hf 0 _ rfl)
  obtain ⟨d, h1, g1⟩ := field_int (o := 1) Tryz.underlying3 (by kernel_rfl) rfl (by omega) (by rw [List.getElem?_eq_getElem (by omega)]; rfl) (hf 1 _ rfl)
  obtain ⟨l, h2, g2⟩ := field_int (o := 2) Tryz.underlying3 (by kernel_rfl) rfl (by omega) (by rw [List.getElem?_eq_getElem (by omega)]; rfl) (hf 2 _ rfl)
  obtain ⟨q, h3, g3⟩ := field_int (o := 3) Tryz.underlying29 (by kernel_rfl) rfl (by omega) (by rw [List.getElem?_eq_getElem (by omega)]; rfl) (hf 3 _ rfl)
  exact ⟨⟨s, d, l, q⟩, list4 hl4 h0 h1 h2 h3, g0, g1, g2, g3⟩
set_option maxRecDepth 100000 in
theorem pkt_arg {W : World} {v : Value} (h : Arg Tryz.prog W 31 v) : ∃ x : Pkt, v = x.val ∧ x.good := by
  obtain ⟨H, enc, base, d, p, ⟨fuel, ht⟩, ho⟩ := h
  obtain ⟨cs, rfl, hcs⟩ := okWide_struct Tryz.underlying31 ho
  obtain ⟨a, h1, h2⟩ := pkt_in H enc W fuel cs.toList (d, p) ht
  obtain ⟨l⟩ := cs
  have e : l = a.cells := h1
  subst e
  exact ⟨a, rfl, h2⟩
structure Stp.good (s : Stp) : Prop where
  kind : (Lit.int .u8 s.kind).wf = true
  mask : (Lit.int .u8 s.mask).wf = true
abbrev Stp.list (s : Stp) : List Value := [.int .u8 s.kind, .int .i64 s.x.src, .int .i64 s.x.dst, .int .i64 s.x.lane, .int .u32 s.x.body, .bool s.wi, .int .i64 s.ln, .int .i64 s.row, .int .i64 s.pos, .int .u8 s.mask]
set_option maxRecDepth 100000 in
theorem stp_in (H : Type) (enc : TypeId × Value → H) (W : World) (n : Nat) (cs : List Value) (x : DataW H × List MemPlace) (h : DataW.trod enc Tryz.prog W 0 (fun _ => true) true n 33 cs = some x) : ∃ a : Stp, cs = a.list ∧ a.good := by
  obtain ⟨xs, n', rfl, _, hl, hxl, hf⟩ := DataW.trod_struct Tryz.underlying33 h
  have hl10 : cs.length = 10 := hl.trans (by kernel_rfl)
  have hx7 : xs.length = 7 := hxl
  obtain ⟨k, h0, g0⟩ := field_int (o := 0) Tryz.underlying5 (by kernel_rfl) rfl (by omega) (by rw [List.getElem?_eq_getElem (by omega)]; rfl) (hf 0 _ rfl)
  obtain ⟨b, h5⟩ := field_bool (o := 5) Tryz.underlying4 (by kernel_rfl) rfl (by omega) (by rw [List.getElem?_eq_getElem (by omega)]; rfl) (hf 2 _ rfl)
  obtain ⟨l, h6, g6⟩ := field_int (o := 6) Tryz.underlying3 (by kernel_rfl) rfl (by omega) (by rw [List.getElem?_eq_getElem (by omega)]; rfl) (hf 3 _ rfl)
  obtain ⟨r, h7, g7⟩ := field_int (o := 7) Tryz.underlying3 (by kernel_rfl) rfl (by omega) (by rw [List.getElem?_eq_getElem (by omega)]; rfl) (hf 4 _ rfl)
  obtain ⟨q, h8, g8⟩ := field_int (o := 8) Tryz.underlying3 (by kernel_rfl) rfl (by omega) (by rw [List.getElem?_eq_getElem (by omega)]; rfl) (hf 5 _ rfl)
  obtain ⟨m, h9, g9⟩ := field_int (o := 9) Tryz.underlying5 (by kernel_rfl) rfl (by omega) (by rw [List.getElem?_eq_getElem (by omega)]; rfl) (hf 6 _ rfl)
  have hX := hf 1 _ rfl
  rw [List.getElem?_eq_getElem (by omega)] at hX
  obtain ⟨p, hp, gp⟩ := pkt_in H enc W _ _ _ hX
  have hC : Tryz.prog.cellsOf 31 = 4 := by kernel_rfl
  match cs, hl10 with
  | [c0, c1, c2, c3, c4, c5, c6, c7, c8, c9], _ =>
    have hp' : [c1, c2, c3, c4] = p.cells := by rw [← hp]; show _ = ([c0, c1, c2, c3, c4, c5, c6, c7, c8, c9].drop 1).take (Tryz.prog.cellsOf 31); rw [hC]; rfl
    simp at h0 h5 h6 h7 h8 h9 hp'
    obtain ⟨rfl, rfl, rfl, rfl⟩ := hp'
    subst h0; subst h5; subst h6; subst h7; subst h8; subst h9
    exact ⟨⟨k, p, b, l, r, q, m⟩, rfl, g0, g9⟩
theorem stps_in {W : World} {v : Value} (h : Arg Tryz.prog W 24 v) : ∃ (n : Nat) (l : List Stp), Reads W W.heap.size 10 v n (l.flatMap Stp.list) ∧ l.length = n ∧ ∀ a ∈ l, a.good :=
  h.rows Stp.list Stp.good 10 (fun _ => rfl) Tryz.underlying24 (by kernel_rfl) (fun H enc n cs x hx => stp_in H enc W n cs x hx) (by decide)
theorem stps_at : ∀ (l : List Stp) (j : Nat) (x : Stp), l[j]? = some x → ∀ i, i < 10 → (l.flatMap Stp.list)[j * 10 + i]? = x.list[i]?
  | [], j, x, h, _, _ => by simp at h
  | y :: l, 0, x, h, i, hi => by
    simp at h; subst h
    simp only [List.flatMap_cons]
    rw [List.getElem?_append_left (by simp; omega)]
    simp
  | y :: l, j + 1, x, h, i, hi => by
    have := stps_at l j x (by simpa using h) i hi
    simp only [List.flatMap_cons]
    rw [List.getElem?_append_right (by simp; omega), ← this]
    congr 1
    simp; omega
end Go.Proofs.YtebnflpanfmicaaGreatDoor
