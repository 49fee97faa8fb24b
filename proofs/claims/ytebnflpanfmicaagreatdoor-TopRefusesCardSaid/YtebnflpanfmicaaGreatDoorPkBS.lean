/-
  Part 45 of the proof: TopLaw16.
-/
import Derived.Test.YtebnflpanfmicaaGreatDoorPkBP
import Derived.Test.YtebnflpanfmicaaGreatDoorPkBR
import Derived.Test.YtebnflpanfmicaaGreatDoorPkAQ
import Derived.Test.YtebnflpanfmicaaGreatDoorPkBE
set_option linter.unusedVariables false
set_option linter.unusedSimpArgs false
set_option linter.unusedSectionVars false
namespace Go.Proofs.YtebnflpanfmicaaGreatDoor
open Go.RowKit
theorem ofL_rightS (zs : List Nat) : rightI ((ofL zs).map Int.ofNat) = true := by
  obtain ⟨ht, _, h5⟩ := ofL_tree zs
  rw [tright_yes (fun j h => by
    rw [List.getElem_map]
    have := ht j (by simpa using h)
    exact ⟨Int.natCast_nonneg _, Int.ofNat_le.2 this⟩)]
  exact decide_eq_true (by rw [List.length_map]; omega)
theorem make_withinS (rm mr : Nat) (st n : Int) (h : 2 ≤ n ∧ n ≤ 6) : Within (makeNumsS rm mr st) n := by
  unfold makeNumsS makeNums
  exact ⟨h, by simp only; omega, by simp only; omega, by simp only; omega, by simp only; omega, by simp only; omega, by simp only; omega⟩
theorem makeW_goodS (mr i : Nat) : ∀ x ∈ makeW mr i, 1 ≤ x ∧ x ≤ 5 := by
  intro x hx
  obtain ⟨k, _, rfl⟩ := List.mem_map.1 hx
  have := Nat.mod_lt (k + mr) (show 5 > 0 by decide)
  omega
set_option maxRecDepth 100000 in
set_option maxHeartbeats 8000000 in
theorem plan16_runs (v0 : Value) (zs : List Nat) (hz : ∀ x ∈ zs, x ≤ 255) (rm mr : Nat) (hrm : rm ≤ 255) (hmr : mr ≤ 255) (st : Int) (hst : 0 ≤ st ∧ st < 65536) (w : World) (hR : Reads w w.heap.size 1 v0 zs.length (zs.map encU8)) :
    Calls Tryz.prog 13 #[v0, .int .u8 rm, .int .u8 mr, .int .u16 st] w fun e w' => ∃ e1 wt1 nx1, e = .returned (planV (makeNumsS rm mr st) (ofL zs) e1 wt1 nx1) ∧
      PlanS w' (fun k => w.heap.size ≤ k ∧ k < w'.heap.size) (makeNumsS rm mr st) (ofL zs) (makeW mr (1 + mr % 3)) e1 wt1 nx1 ∧ Keeps (fun _ => False) w w' := by
  obtain ⟨ht, hp, h5⟩ := ofL_tree zs
  have hright := ofL_rightS zs
  have hk0 : Keeps (fun _ => False) w (w.alloc (.cells #[.int .i64 0, .slice none 0 0, .int .i64 0, .int .i64 0, .int .i64 0, .int .i64 0, .int .i64 0, .int .i64 0, .slice none 0 0, .int .u16 0, .slice none 0 0] 38)) := Keeps.alloc _ _ _
  have hb : PBox (w.alloc (.cells #[.int .i64 0, .slice none 0 0, .int .i64 0, .int .i64 0, .int .i64 0, .int .i64 0, .int .i64 0, .int .i64 0, .slice none 0 0, .int .u16 0, .slice none 0 0] 38)) w.heap.size #[.int .i64 0, .slice none 0 0, .int .i64 0, .int .i64 0, .int .i64 0, .int .i64 0, .int .i64 0, .int .i64 0, .slice none 0 0, .int .u16 0, .slice none 0 0] := blk_new w _
  have hwith := make_withinS rm mr st (((ofL zs).length + 1 : Nat) : Int) (by omega)
  have hgood := makeW_goodS mr (1 + mr % 3)
  have hwl := makeW_length mr (1 + mr % 3)
  have hlan : (makeNumsS rm mr st).lanes = ((1 + mr % 3 : Nat) : Int) := rfl
  have HMK := Lib.hid (p := ∀ U, _) fun U => makeS_calls rm mr hrm hmr st hst U
  have HOF := Lib.hid (p := ∀ U, Keeps (fun _ => False) w U → _) fun U hU => of_calls v0 zs U (hR.keepsF hU hU.size) hz
  have hL3 : 1 + mr % 3 ≤ 3 := by omega
  have hL0 : 1 ≤ 1 + mr % 3 := by omega
  unfold MadeS at HMK
  generalize makeW mr (1 + mr % 3) = ws at *
  generalize 1 + mr % 3 = L at *
  generalize makeNumsS rm mr st = p at *
  generalize ofL zs = t at *
  obtain ⟨lanes, room, queue, rounds, every, bag, start⟩ := p
  simp only at hlan
  unfold planV Nums.plan
  unfold Nums.plan at HMK
  have HK0 := Lib.hid hk0
  have HB := Lib.hid hb
  have HFACT := Lib.hid (And.intro ht (And.intro hp (And.intro h5 (And.intro hright (And.intro hwith (And.intro hgood (And.intro hwl hlan)))))))
  clear hk0 hb hR hz ht hp h5 hright hwith hgood hwl hlan
  go_enter Tryz.func13, Tryz.ntmps13
  go_wp2_with fail
  generalize w.alloc (.cells #[.int .i64 0, .slice none 0 0, .int .i64 0, .int .i64 0, .int .i64 0, .int .i64 0, .int .i64 0, .int .i64 0, .slice none 0 0, .int .u16 0, .slice none 0 0] 38) = X at *
  refine (HMK.out X).mono ?_
  rintro e U ⟨Ea, en, ec, Wa, wc, Na, nc, rfl, hw, hU⟩
  have HW := Lib.hid hw
  have HU := Lib.hid (HK0.out.trans hU)
  have HBU := Lib.hid (show PBox U w.heap.size _ from blk_keeps hU HB.out (fun h => h))
  clear hw hU HMK HB
  go_wp2_with fail
  refine (HOF.out U HU.out).mono ?_
  rintro e V ⟨u, rfl, hu, hV, hown⟩
  obtain ⟨uA, uc, rfl, _, _⟩ := hu.shape
  have hml : (ws.map Int.ofNat).length = L := by rw [List.length_map]; exact HFACT.out.2.2.2.2.2.2.1
  have hwV := HW.out.keeps hV (fun _ _ h => h)
  have hrd : Reads V V.heap.size 1 (.slice Wa (ws.map Int.ofNat).length wc) (ws.map Int.ofNat).length ((ws.map Int.ofNat).map encZ) := by rw [hml, ← tencN]; exact hwV.reads
  have cl := rlay_yes ⟨lanes, room, queue, rounds, every, bag, start⟩ 2 Ea Wa Na en ec wc 2 nc uA uc t (ws.map Int.ofNat) V HFACT.out.1 HFACT.out.2.1 HFACT.out.2.2.1 hu.reads hrd (by rw [hml]; omega) HFACT.out.2.2.2.1
  unfold RLaid at cl
  rw [hml] at cl
  unfold Nums.plan at cl
  have CL := Lib.hid cl
  have HV := Lib.hid (HU.out.trans hV)
  have HBV := Lib.hid (show PBox V w.heap.size _ from blk_keeps hV HBU.out (fun h => h))
  have HML := Lib.hid hml
  clear hu hV hown hml hwV hrd cl HU HBU HOF HW
  go_wp2_with fail
  refine CL.out.mono ?_
  rintro e Z ⟨Ea2, ec2, Wa2, wc2, Na2, nc2, rfl, q1, q2, q3, q4, q5, hZ⟩
  have HQ := Lib.hid (And.intro q1 (And.intro q2 (And.intro q3 (And.intro q4 q5))))
  have HZ := Lib.hid (HV.out.trans hZ)
  have HBZ := Lib.hid (show PBox Z w.heap.size _ from blk_keeps hZ HBV.out (fun h => h))
  have HSZ := Lib.hid (And.intro (blk_lt HBV.out) hZ.size)
  clear q1 q2 q3 q4 q5 hZ CL HV HBV
  have hkA : Keeps (fun _ => False) Z (Z.alloc (.cells #[.int .i64 ((t.length : Int) + 1), .slice Ea2 t.length ec2, .int .i64 lanes, .int .i64 room, .int .i64 queue, .int .i64 rounds, .int .i64 every, .int .i64 bag, .slice Wa2 L wc2, .int .u16 start, .slice Na2 (t.length + 1) nc2] 38)) := Keeps.alloc _ _ _
  have hbA : PBox (Z.alloc (.cells #[.int .i64 ((t.length : Int) + 1), .slice Ea2 t.length ec2, .int .i64 lanes, .int .i64 room, .int .i64 queue, .int .i64 rounds, .int .i64 every, .int .i64 bag, .slice Wa2 L wc2, .int .u16 start, .slice Na2 (t.length + 1) nc2] 38)) w.heap.size _ := blk_keeps hkA HBZ.out (fun h => h)
  have hbN : PBox (Z.alloc (.cells #[.int .i64 ((t.length : Int) + 1), .slice Ea2 t.length ec2, .int .i64 lanes, .int .i64 room, .int .i64 queue, .int .i64 rounds, .int .i64 every, .int .i64 bag, .slice Wa2 L wc2, .int .u16 start, .slice Na2 (t.length + 1) nc2] 38)) Z.heap.size _ := blk_new Z (.cells #[.int .i64 ((t.length : Int) + 1), .slice Ea2 t.length ec2, .int .i64 lanes, .int .i64 room, .int .i64 queue, .int .i64 rounds, .int .i64 every, .int .i64 bag, .slice Wa2 L wc2, .int .u16 start, .slice Na2 (t.length + 1) nc2] 38)
  obtain ⟨z0, z1, z2, z3, z4, z5, z6, z7, z8, z9, z10, zf⟩ := PBox.all hbA
  obtain ⟨y0, y1, y2, y3, y4, y5, y6, y7, y8, y9, y10, yf⟩ := PBox.all hbN
  have HKA := Lib.hid hkA
  have HBA := Lib.hid hbA
  clear hkA hbA hbN yf
  go_wp2_with fail
  generalize (Z.alloc (.cells #[.int .i64 ((t.length : Int) + 1), .slice Ea2 t.length ec2, .int .i64 lanes, .int .i64 room, .int .i64 queue, .int .i64 rounds, .int .i64 every, .int .i64 bag, .slice Wa2 L wc2, .int .u16 start, .slice Na2 (t.length + 1) nc2] 38)) = Y at *
  obtain ⟨hV, hkV⟩ := set11 HBA.out (.int .i64 ((t.length : Int) + 1)) (.slice Ea2 t.length ec2) (.int .i64 lanes) (.int .i64 room) (.int .i64 queue) (.int .i64 rounds) (.int .i64 every) (.int .i64 bag) (.slice Wa2 L wc2) (.int .u16 start) (.slice Na2 (t.length + 1) nc2)
  obtain ⟨x0, xe1, x2, x3, x4, x5, x6, x7, x8, x9, x10, xf⟩ := PBox.all hV
  refine bodyPost_ret (v := .agg #[.int .i64 ((t.length : Int) + 1), .slice Ea2 t.length ec2, .int .i64 lanes, .int .i64 room, .int .i64 queue, .int .i64 rounds, .int .i64 every, .int .i64 bag, .slice Wa2 L wc2, .int .u16 start, .slice Na2 (t.length + 1) nc2]) ?_ rfl ?_
  · generalize World.setCell _ _ _ = V2 at x0 xe1 x2 x3 x4 x5 x6 x7 x8 x9 x10 ⊢
    simp [results, Tryz.results13, go_sem, x0, xe1, x2, x3, x4, x5, x6, x7, x8, x9, x10]
  · clear x0 xe1 x2 x3 x4 x5 x6 x7 x8 x9 x10 xf z0 z1 z2 z3 z4 z5 z6 z7 z8 z9 z10 zf y0 y1 y2 y3 y4 y5 y6 y7 y8 y9 y10 hV
    obtain ⟨f1, f2, f3, f4, f5, f6, f7, f8⟩ := HFACT.out
    obtain ⟨q1, q2, q3, q4, q5⟩ := HQ.out
    obtain ⟨s1, s2⟩ := HSZ.out
    have s3 := HKA.out.size
    have s4 := hkV.size
    have s5 := HZ.out.size
    have hkZ := (HKA.out.mono (G := fun k => k = w.heap.size) (fun _ _ h => h.elim)).trans hkV
    have hml := HML.out
    obtain ⟨vs, n1, n2, n3, n4⟩ := q5
    rw [rowsOf_length] at n1
    have hvl : vs.length = t.length + 1 := by have := n1.1; omega
    refine ⟨_, _, _, rfl, ⟨q1.keeps hkZ (fun k e h => by have := q2 k e; omega), ?_, ⟨vs, n1.keeps hkZ (fun k e h => by have := n2 k e; omega), hvl, fun i u hu => ?_, fun u hu k e => ?_⟩, fun k e => ?_, fun k e => ?_, fun k e => ?_, f1, f2, f3, f5, ?_, f6, fun k hk => hk.2⟩, HZ.out.then hkZ (fun i hi h => by omega)⟩
    · rw [← tencN] at q3
      have q3' := q3.keeps hkZ (fun k e h => by have := q4 k e; omega)
      rw [← f7] at q3' ⊢
      exact q3'
    · have hi : i < t.length + 1 := by have := (List.getElem?_eq_some_iff.1 hu).1; omega
      have h1 : (rowsOf t (t.length + 1))[i]? = some (trowOf t i) := by unfold rowsOf; rw [List.getElem?_map, List.getElem?_range hi]; rfl
      obtain ⟨h2, h3⟩ := n4 i u _ hu h1
      exact h2.keeps hkZ (fun k e h => by have := h3 k e; omega)
    · obtain ⟨i, hi, rfl⟩ := List.getElem_of_mem hu
      have h1 : (rowsOf t (t.length + 1))[i]? = some (trowOf t i) := by unfold rowsOf; rw [List.getElem?_map, List.getElem?_range (by omega)]; rfl
      obtain ⟨h2, h3⟩ := n4 i _ _ (List.getElem?_eq_getElem hi) h1
      have := h3 k e
      have := h2.lt k e
      exact ⟨by omega, by omega⟩
    · have := q2 k e
      have := q1.lt k e
      exact ⟨by omega, by omega⟩
    · have := q4 k e
      have := q3.lt k e
      exact ⟨by omega, by omega⟩
    · have := n2 k e
      have := n1.lt k e
      exact ⟨by omega, by omega⟩
    · rw [f7]; exact f8
end Go.Proofs.YtebnflpanfmicaaGreatDoor
