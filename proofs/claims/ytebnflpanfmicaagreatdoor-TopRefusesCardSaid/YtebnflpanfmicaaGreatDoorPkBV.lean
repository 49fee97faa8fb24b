/-
  Part 48 of the proof: TopRefusesW.
-/
import Derived.Test.YtebnflpanfmicaaGreatDoorPkBU
import Derived.Lib.QuietBelow
import Derived.Deep.RegionHeld3
set_option linter.unusedVariables false
set_option linter.unusedSimpArgs false
set_option linter.unusedSectionVars false
namespace Go.Proofs.YtebnflpanfmicaaGreatDoor
open Go.RowKit Go.Sort
def playTo (g : Geo) (l : List Stp) : Nat → PlayS
  | 0 => ⟨newF g, [], 0⟩
  | n + 1 => match l[n]? with
    | some s => stepF g (playTo g l n) s
    | none => playTo g l n
def roundsTo (g : Geo) (s : PlayS) : Nat → PlayS
  | 0 => s
  | n + 1 => roundY g (roundsTo g s n)
theorem playTo_ok {g : Geo} (ht : Tree g.t) (h1 : 1 ≤ g.t.length) (h5 : g.t.length ≤ 5) (h3 : g.ws.length ≤ 3) (hl : g.p.lanes ≤ 3) (h0 : FabOk g (newF g) 0) (l : List Stp) : ∀ n, FabOk g (playTo g l n).fs (6 * n) ∧ (playTo g l n).sent.length ≤ n
  | 0 => ⟨h0, Nat.le_refl _⟩
  | n + 1 => by
    obtain ⟨k1, k2⟩ := playTo_ok ht h1 h5 h3 hl h0 l n
    unfold playTo
    split
    · rename_i s hs
      have hm : (s.made g).ln.toNat < (hopsOf g.t).length := by
        have hc := (hops_in ht h5).2
        have := inN_ok s.ln ((hopsOf g.t).length : Int) (by omega)
        show (inN s.ln ((hopsOf g.t).length : Int)).toNat < _
        omega
      exact ⟨(k1.step ht h5 h3 hl s hm).more (by omega), by have := stepF_sent g (playTo g l n) s; omega⟩
    · exact ⟨k1.more (by omega), by omega⟩
theorem roundsTo_ok {g : Geo} (ht : Tree g.t) (h5 : g.t.length ≤ 5) (h3 : g.ws.length ≤ 3) {s : PlayS} {c : Nat} (h0 : FabOk g s.fs c) : ∀ n, FabOk g (roundsTo g s n).fs (c + 6 * n)
  | 0 => h0
  | n + 1 => ((roundsTo_ok ht h5 h3 h0 n).round ht h5 h3).more (by omega)
set_option maxRecDepth 100000 in
set_option maxHeartbeats 32000000 in
theorem topRefuses_walk {W : World} (v0 : Value) (a1 a2 a3 : Int) (v4 v5 : Value) (w0 : Arg Tryz.prog W 22 v0) (w1 : (Lit.int .u8 a1).wf = true) (w2 : (Lit.int .u8 a2).wf = true) (w3 : (Lit.int .u16 a3).wf = true) (w4 : Arg Tryz.prog W 24 v4) (w5 : Arg Tryz.prog W 31 v5) (hT : Tab W) :
    Calls Tryz.prog 4 #[v0, .int .u8 a1, .int .u8 a2, .int .u16 a3, v4, v5] W fun e w' => e = .returned (.bool true) ∧ Below W.heap.size W w' := by
  obtain ⟨zs, hz, hR⟩ := bytes_of_arg w0
  obtain ⟨rm, rfl, hrm⟩ := u8_nat w1
  obtain ⟨mr, rfl, hmr⟩ := u8_nat w2
  have hst : 0 ≤ a3 ∧ a3 < 65536 := by
    rw [Lit.wf_int_iff, IntKind.min_u16, IntKind.max_u16] at w3; omega
  obtain ⟨n, l, hL, hln, hlg⟩ := stps_in w4
  obtain ⟨⟨x1, x2, x3, x4⟩, rfl, _⟩ := pkt_arg w5
  obtain ⟨LA, lc, rfl, hl1, hl2⟩ : ∃ A c, v4 = .slice A n c ∧ n ≤ c ∧ c ≤ maxLen := by obtain ⟨_, A, c, e, q1, q2, _⟩ := hL; exact ⟨A, c, e, q1, q2⟩
  have hmx : (n : Int) ≤ 9223372036854775807 := by simp only [maxLen] at hl2; omega
  have hkX : Keeps (fun _ => False) W (W.alloc (.cells #[.int .i64 x1, .int .i64 x2, .int .i64 x3, .int .u32 x4] 31)) := Keeps.alloc _ _ _
  have hbX := blk_new W (.cells #[.int .i64 x1, .int .i64 x2, .int .i64 x3, .int .u32 x4] 31)
  have HKX := Lib.hid hkX
  have HBX := Lib.hid hbX
  have HT := Lib.hid hT
  have HARG := Lib.hid (And.intro hz (And.intro hrm (And.intro hmr (And.intro hst hR))))
  have HL := Lib.hid (And.intro hL (And.intro hln hlg))
  clear w0 w1 w2 w3 w4 w5 hz hrm hmr hst hR hL hln hlg hl1 hl2 hkX hbX hT
  have HKN := Lib.hid (p := ∀ U, Keeps (fun _ => False) W U → _) fun U hU => tknown_runs U (HT.out.keeps hU (fun h => h))
  unfold Pkt.val
  dsimp only
  go_enter Tryz.func4, Tryz.ntmps4
  by_cases h60 : 60 < n
  · have h60' : (60 : Int) < (n : Int) := by omega
    go_wp2_with fail
    refine (HKN.out _ HKX.out).mono ?_
    rintro e U ⟨rfl, hU⟩
    have HU := Lib.hid (HKX.out.trans hU)
    clear hU
    go_wp2_with fail
    go_ret
    exact ⟨rfl, keeps_below HU.out⟩
  · have h60' : ¬ (60 : Int) < (n : Int) := by omega
    go_wp2_with fail
    refine (HKN.out _ HKX.out).mono ?_
    rintro e U ⟨rfl, hU⟩
    have hbU := blk_keeps hU HBX.out (fun h => h)
    have hkU := HKX.out.trans hU
    obtain ⟨z1, z2, z3, z4, z5⟩ := HARG.out
    have HPB := Lib.hid (began_runs (f := 0) (pf := 2) (sys0 U) (free0 0) rfl (by decide) v0 zs z1 rm mr z2 z3 a3 z4 (z5.keepsF hkU hkU.size))
    have HKU := Lib.hid hkU
    have HBU := Lib.hid hbU
    have hbl : W.heap.size < U.heap.size := blk_lt hbU
    have HBL := Lib.hid hbl
    clear hU hbU hkU z1 z2 z3 z4 z5 hbl HKX HBX
    go_wp2_with fail
    refine HPB.out.mono ?_
    rintro e V ⟨P, ⟨hp1, hp2, hp3⟩, rfl, σ1, o1, k1, k2, k3, k4⟩
    obtain ⟨z1, z2, z3, z4, z5⟩ := HARG.out
    have hVU : Keeps (fun _ => False) U V := k2.1.mono (fun i _ e => by cases e)
    have hkV := HKU.out.trans hVU
    obtain ⟨g1, g2, g3, g4⟩ := k4 1 (by decide) (by decide)
    have hfree : FreeF σ1 1 := ⟨g1, g3, g4, g2⟩
    have hf3 : σ1.fab 3 = Part.none := (k4 3 (by decide) (by decide)).2.1
    have HQB := Lib.hid (began_runs (f := 1) (pf := 3) k1 hfree hf3 (by decide) v0 zs z1 rm mr z2 z3 a3 z4 (z5.keepsF hkV hkV.size))
    have HK2 := Lib.hid k2
    have HK3 := Lib.hid k3
    have HPP := Lib.hid (And.intro hp1 (And.intro hp2 hp3))
    clear k1 k2 k3 k4 g1 g2 g3 g4 hfree hf3 z1 z2 z3 z4 z5 hVU hkV hp1 hp2 hp3 HPB
    go_wp2_with fail
    refine HQB.out.mono ?_
    rintro e V2 ⟨Q, ⟨hq1, hq2, hq3⟩, rfl, hQN⟩
    obtain ⟨hp1, hp2, hp3⟩ := HPP.out
    have hsame : SameG P.g Q.g := ⟨hq1.trans hp1.symm, hq2.trans hp2.symm, hq3.trans hp3.symm⟩
    have htwo : Two U V2 P Q (playTo P.g l 0) (playTo P.g l 0) := by
      have := Two.right (P := P) HK2.out HK3.out hQN
      rw [hsame.new] at this
      exact this
    obtain ⟨ht, ht1, ht5, hws3, hl3, hln, hws1⟩ := htwo.plan
    have hgw : ∀ x ∈ P.g.ws, 1 ≤ x ∧ x ≤ 5 := by rw [hp3]; exact makeW_goodS mr _
    have hnm : Within (makeNumsS rm mr a3) 2 := make_withinS rm mr a3 2 (by omega)
    have h0 : FabOk P.g (newF P.g) 0 := FabOk.new P.g hws3 hws1 hgw (by rw [hp1]; have := hnm.queue; omega) (by rw [hp1]; have := hnm.bag; omega)
    have HOK := Lib.hid (p := ∀ i, FabOk P.g (playTo P.g l i).fs (6 * i) ∧ (playTo P.g l i).sent.length ≤ i) fun i => playTo_ok ht ht1 ht5 hws3 hl3 h0 l i
    have HSG := Lib.hid hsame
    have HPL := Lib.hid (And.intro ht (And.intro ht5 (And.intro hws3 hln)))
    have HTU := Lib.hid (HT.out.keeps HKU.out (fun h => h))
    have HTWO := Lib.hid htwo
    clear hQN hsame htwo ht ht1 ht5 hws3 hl3 hln hws1 hgw hnm h0 hp1 hp2 hp3 hq1 hq2 hq3 HQB HPP HK2 HK3
    have HSL := Lib.hid (p := ∀ wr i s, i ≤ 60 → l[i]? = some s → s.good → Two U wr P Q (playTo P.g l i) (playTo P.g l i) → Calls Tryz.prog 8 #[.pointer (some ⟨P.b, 0, none⟩), .agg #[.int .u8 s.kind, .int .i64 s.x.src, .int .i64 s.x.dst, .int .i64 s.x.lane, .int .u32 s.x.body, .bool s.wi, .int .i64 s.ln, .int .i64 s.row, .int .i64 s.pos, .int .u8 s.mask]] wr fun e w' => e = .returned (.tuple #[]) ∧ Two U w' P Q (playTo P.g l (i + 1)) (playTo P.g l i)) fun wr i s hi hs hg hw => by
      have hk := hg.kind
      rw [Lit.wf_int_iff, IntKind.min_u8, IntKind.max_u8] at hk
      have := Two.stepL hw HTU.out (HOK.out i).1 (by omega) (by have := (HOK.out i).2; omega) s hk
      have e : playTo P.g l (i + 1) = stepF P.g (playTo P.g l i) s := by rw [playTo, hs]
      rw [e]; exact this
    have HSR := Lib.hid (p := ∀ wr i s, i ≤ 60 → l[i]? = some s → s.good → Two U wr P Q (playTo P.g l (i + 1)) (playTo P.g l i) → Calls Tryz.prog 8 #[.pointer (some ⟨Q.b, 0, none⟩), .agg #[.int .u8 s.kind, .int .i64 s.x.src, .int .i64 s.x.dst, .int .i64 s.x.lane, .int .u32 s.x.body, .bool s.wi, .int .i64 s.ln, .int .i64 s.row, .int .i64 s.pos, .int .u8 s.mask]] wr fun e w' => e = .returned (.tuple #[]) ∧ Two U w' P Q (playTo P.g l (i + 1)) (playTo P.g l (i + 1))) fun wr i s hi hs hg hw => by
      have hk := hg.kind
      rw [Lit.wf_int_iff, IntKind.min_u8, IntKind.max_u8] at hk
      have := Two.stepR hw HTU.out (HSG.out.ok (HOK.out i).1) (by omega) (by have := (HOK.out i).2; omega) s hk
      have e : playTo P.g l (i + 1) = stepF P.g (playTo P.g l i) s := by rw [playTo, hs]
      rw [HSG.out.step, ← e] at this
      exact this
    go_wp2_with fail
    go_loopw [15] (fun c wr => ∃ i : Nat, i ≤ n ∧ c = .int .i64 (i : Int) ∧ Two U wr P Q (playTo P.g l i) (playTo P.g l i)) (fun c _ => n - (intOf c).toNat)
    case atStart => exact ⟨0, Nat.zero_le _, rfl, HTWO.out⟩
    case round =>
      clear HTWO
      obtain ⟨i, hi, rfl, hW⟩ := hrel
      by_cases hin : i < n
      · have hii : (i : Int) < (n : Int) := by omega
        have hi0 : (0 : Int) ≤ (i : Int) := by omega
        obtain ⟨hRL, hll, hgd⟩ := HL.out
        obtain ⟨s, hs⟩ : ∃ s, l[i]? = some s := ⟨_, List.getElem?_eq_getElem (by omega)⟩
        have hsg := hgd s (List.mem_of_getElem? hs)
        have hat := stps_at l i s hs
        have hkW := HKU.out.trans hW.keeps
        have HLC := Lib.hid (p := ∀ wr2, Keeps (fun _ => False) W wr2 → _) fun wr2 hk2 => (hRL.keepsF hk2 hk2.size).at_ (by rw [flat_len (sz := 10) (fun _ => rfl)]; omega)
        obtain ⟨gp, op, cp, e1, _, _, hcc⟩ := HLC.out wr hkW
        injection e1 with ea _ ec
        subst ea ec
        have y0 := hcc _ _ (by rw [hat 0 (by decide)]; rfl)
        have y1 := hcc _ _ (by rw [hat 1 (by decide)]; rfl)
        have y2 := hcc _ _ (by rw [hat 2 (by decide)]; rfl)
        have y3 := hcc _ _ (by rw [hat 3 (by decide)]; rfl)
        have y4 := hcc _ _ (by rw [hat 4 (by decide)]; rfl)
        have y5 := hcc _ _ (by rw [hat 5 (by decide)]; rfl)
        have y6 := hcc _ _ (by rw [hat 6 (by decide)]; rfl)
        have y7 := hcc _ _ (by rw [hat 7 (by decide)]; rfl)
        have y8 := hcc _ _ (by rw [hat 8 (by decide)]; rfl)
        have y9 := hcc _ _ (by rw [hat 9 (by decide)]; rfl)
        rw [← Nat.add_assoc] at y1 y2 y3 y4 y5 y6 y7 y8 y9
        simp only [Nat.add_zero] at y0
        have HY := Lib.hid (And.intro y0 (And.intro y1 (And.intro y2 (And.intro y3 (And.intro y4 (And.intro y5 (And.intro y6 (And.intro y7 (And.intro y8 y9)))))))))
        have HAT := Lib.hid hat
        have HSI := Lib.hid hs
        have HSG2 := Lib.hid hsg
        have HS1 := Lib.hid (HSL.out wr i s (by omega) hs hsg hW)
        have HKS := Lib.hid hW.keeps
        clear hRL hll hgd hs hsg hat hkW hcc hW
        go_wp2_with fail
        refine HS1.out.mono ?_
        rintro e Y ⟨rfl, hY⟩
        have hkY : Keeps (fun _ => False) U Y := hY.keeps
        have HS2 := Lib.hid (HSR.out Y i s (by omega) HSI.out HSG2.out hY)
        clear y0 y1 y2 y3 y4 y5 y6 y7 y8 y9
        obtain ⟨gp', op', cp', e1, _, _, hcc⟩ := HLC.out Y (HKU.out.trans hkY)
        injection e1 with ea _ ec
        injection ea with ea
        injection ea with ea eo
        subst ea eo ec
        have y0 := hcc _ _ (by rw [HAT.out 0 (by decide)]; rfl)
        have y1 := hcc _ _ (by rw [HAT.out 1 (by decide)]; rfl)
        have y2 := hcc _ _ (by rw [HAT.out 2 (by decide)]; rfl)
        have y3 := hcc _ _ (by rw [HAT.out 3 (by decide)]; rfl)
        have y4 := hcc _ _ (by rw [HAT.out 4 (by decide)]; rfl)
        have y5 := hcc _ _ (by rw [HAT.out 5 (by decide)]; rfl)
        have y6 := hcc _ _ (by rw [HAT.out 6 (by decide)]; rfl)
        have y7 := hcc _ _ (by rw [HAT.out 7 (by decide)]; rfl)
        have y8 := hcc _ _ (by rw [HAT.out 8 (by decide)]; rfl)
        have y9 := hcc _ _ (by rw [HAT.out 9 (by decide)]; rfl)
        rw [← Nat.add_assoc] at y1 y2 y3 y4 y5 y6 y7 y8 y9
        simp only [Nat.add_zero] at y0
        clear hY hkY hcc HS1
        go_wp2_with fail
        refine HS2.out.mono ?_
        rintro e Y2 ⟨rfl, hY2⟩
        have HY2 := Lib.hid hY2
        clear y0 y1 y2 y3 y4 y5 y6 y7 y8 y9 hY2 HS2
        go_wp2_with fail
        go_roundw
        case rel => exact ⟨i + 1, by omega, by go_num, HY2.out⟩
        case measure => simp [intOf]; omega
      · obtain rfl : i = n := by omega
        have hii : ¬ ((i : Int) < (i : Int)) := by omega
        have HW := Lib.hid hW
        have c11 := hW.cellL
        obtain ⟨s, hs⟩ : ∃ s, playTo P.g l i = s := ⟨_, rfl⟩
        have hok := (HOK.out i).1
        rw [hs] at HW hok
        have HOKS := Lib.hid hok
        have HI := Lib.hid (HW.out.insL hok)
        clear hW hok hs HSL HSR HOK
        go_wp2_with fail
        refine HI.out.mono ?_
        rintro e Y ⟨rfl, hY⟩
        have HTY := Lib.hid (HW.out.calm hY)
        have hdY : Keeps (fun _ => False) Y Y.drew := Keeps.drew _ _
        have hTd := HTY.out.calm hdY
        have hxb : ∀ Z, Keeps (fun _ => False) U Z → Z.cell? ⟨W.heap.size, 0, none⟩ = some (.int .i64 x1) ∧ Z.cell? ⟨W.heap.size, 1, none⟩ = some (.int .i64 x2) ∧ Z.cell? ⟨W.heap.size, 2, none⟩ = some (.int .i64 x3) ∧ Z.cell? ⟨W.heap.size, 3, none⟩ = some (.int .u32 x4) := fun Z hZ => by
          have hb := blk_keeps hZ HBU.out (fun h => h)
          refine ⟨?_, ?_, ?_, ?_⟩ <;> (rw [blk_cell hb]; rfl)
        have HXB := Lib.hid hxb
        have hinj := hTd.injL HOKS.out ⟨x1, x2, x3, x4⟩
        obtain ⟨I, hI⟩ : ∃ I, injF P.g s.fs ⟨x1, x2, x3, x4⟩ = I := ⟨_, rfl⟩
        have hno : I.2 ≠ 0 → I.1 = s.fs := by rw [← hI]; exact injF_no
        have hyes : I.2 = 0 → insideF P.g I.1 = insideF P.g s.fs + 1 := by rw [← hI]; exact injF_yes HPL.out.2.2.2
        have hok2 : FabOk P.g I.1 (6 * i) := by rw [← hI]; exact HOKS.out.inj _ (by have := HPL.out.2.2.2; have := HPL.out.2.2.1; omega)
        rw [hI] at hinj
        obtain ⟨fs2, er⟩ := I
        unfold Pkt.val at hinj
        dsimp only at hinj hno hyes hok2
        have HIN := Lib.hid hinj
        have HNO := Lib.hid hno
        have HYES := Lib.hid hyes
        have HOK2 := Lib.hid hok2
        have hsd : Y.drew.cell? ⟨P.b, 11, none⟩ = some (.pointer (some ⟨P.fa.fb, 0, none⟩)) ∧ Y.drew.cell? ⟨W.heap.size, 0, none⟩ = some (.int .i64 x1) ∧ Y.drew.cell? ⟨W.heap.size, 1, none⟩ = some (.int .i64 x2) ∧ Y.drew.cell? ⟨W.heap.size, 2, none⟩ = some (.int .i64 x3) ∧ Y.drew.cell? ⟨W.heap.size, 3, none⟩ = some (.int .u32 x4) := ⟨hTd.cellL, HXB.out _ hTd.keeps⟩
        clear hdY hTd hxb hinj hI hno hyes hok2 hY HI HW c11
        obtain ⟨xb, hxb⟩ : ∃ xb, W.heap.size = xb := ⟨_, rfl⟩
        rw [hxb] at HXB hsd ⊢
        have HXE := Lib.hid hxb
        clear hxb
        obtain ⟨was, hwas⟩ : ∃ was, wrap64 (insideF P.g s.fs) = was := ⟨_, rfl⟩
        have HWAS := Lib.hid hwas
        rw [hwas]
        clear hwas
        have hsdd := hsd
        clear hsd
        go_wp2_with fail
        go_region_held3 (fun Z => Z.cell? ⟨P.b, 11, none⟩ = some (.pointer (some ⟨P.fa.fb, 0, none⟩)) ∧ Z.cell? ⟨xb, 0, none⟩ = some (.int .i64 x1) ∧ Z.cell? ⟨xb, 1, none⟩ = some (.int .i64 x2) ∧ Z.cell? ⟨xb, 2, none⟩ = some (.int .i64 x3) ∧ Z.cell? ⟨xb, 3, none⟩ = some (.int .u32 x4))
          (with_reducible first | exact hsdd | exact hsW | go_keep)
          (first | (go_at_call 12; refine HIN.out.mono ?_; rintro e Z ⟨rfl, hZ⟩; have hsW := And.intro hZ.cellL (HXB.out Z hZ.keeps)))
        have HZ := Lib.hid hZ
        have c11 := hsW.1
        clear hsW hZ hsdd HIN
        by_cases h0 : er = 0
        · have hb : (er == 0) = true := by rw [beq_iff_eq]; exact h0
          have hin2 := HYES.out h0
          have HI2 := Lib.hid (HZ.out.insL HOK2.out)
          dsimp only at HI2
          rw [hin2] at HI2
          clear hin2 HYES h0
          go_wp2_with fail
          refine HI2.out.mono ?_
          rintro e Y2 ⟨rfl, hY2⟩
          have HKF := Lib.hid ((HKU.out.trans HZ.out.keeps).trans hY2)
          have hfin : (wrap64 (insideF P.g s.fs + 1) == wrap64 (was + 1)) = true := by
            rw [← HWAS.out, wrap64_add]; exact beq_self_eq_true _
          clear hY2 HI2
          go_wp2_with fail
          go_ret
          exact ⟨rfl, keeps_below HKF.out⟩
        · have hb : (er == 0) = false := by rw [beq_eq_false_iff_ne]; exact h0
          have hfs := HNO.out h0
          subst hfs
          rw [hb]
          clear hb
          have hZ2 : Two U Z P Q (roundsTo P.g s 0) (roundsTo P.g s 0) := HZ.out
          have HZ2 := Lib.hid hZ2
          have HRO := Lib.hid (p := ∀ j, FabOk P.g (roundsTo P.g s j).fs (6 * i + 6 * j)) fun j => roundsTo_ok HPL.out.1 HPL.out.2.1 HPL.out.2.2.1 HOKS.out j
          clear hZ2 HZ HNO HYES HOK2 h0 c11
          go_wp2_with fail
          go_loopw [17] (fun c wr => ∃ j : Nat, j ≤ 10 ∧ c = .int .i64 (j : Int) ∧ Two U wr P Q (roundsTo P.g s j) (roundsTo P.g s j)) (fun c _ => 10 - (intOf c).toNat)
          case atStart => exact ⟨0, Nat.zero_le _, rfl, HZ2.out⟩
          case round =>
            clear HZ2
            obtain ⟨j, hj, rfl, hW⟩ := hrel
            by_cases hjn : j < 10
            · have hjj : (j : Int) < 10 := by omega
              have e1 : roundsTo P.g s (j + 1) = roundY P.g (roundsTo P.g s j) := rfl
              have HR1 := Lib.hid (hW.roundL HTU.out (HRO.out j) (by omega))
              have HE1 := Lib.hid e1
              clear hW e1
              go_wp2_with fail
              refine HR1.out.mono ?_
              rintro e Y1 ⟨rfl, hY1⟩
              have hr2 := hY1.roundR HTU.out (HSG.out.ok (HRO.out j)) (by omega)
              rw [HSG.out.round, ← HE1.out] at hr2
              have HR2 := Lib.hid hr2
              clear hr2 hY1 HR1
              go_wp2_with fail
              refine HR2.out.mono ?_
              rintro e Y2 ⟨rfl, hY2⟩
              have HY2 := Lib.hid hY2
              clear hY2 HR2
              go_wp2_with fail
              go_roundw
              case rel => exact ⟨j + 1, by omega, by go_num, HY2.out⟩
              case measure => simp [intOf]; omega
            · obtain rfl : j = 10 := by omega
              have HRT := Lib.hid (HRO.out 10)
              have HW := Lib.hid hW
              obtain ⟨t, ht⟩ : ∃ t, roundsTo P.g s 10 = t := ⟨_, rfl⟩
              rw [ht] at HRT HW
              obtain ⟨N, hN⟩ : ∃ N, (gotF t.fs (P.g.t.length + 1)).length = N := ⟨_, rfl⟩
              have hNs : N ≤ 6 * (6 * i + 6 * 10) := by
                have key : ∀ v, v ≤ P.g.t.length + 1 → (gotF t.fs v).length ≤ v * (6 * i + 6 * 10) := by
                  intro v
                  induction v with
                  | zero => intro _; exact Nat.zero_le _
                  | succ v ih =>
                    intro hv
                    have h1 := ih (by omega)
                    have h2 := (HRT.out.node v (by omega)).came
                    rw [gotF, List.length_append, Nat.succ_mul]
                    omega
                have h1 := key _ (Nat.le_refl _)
                have h2 : (P.g.t.length + 1) * (6 * i + 6 * 10) ≤ 6 * (6 * i + 6 * 10) := Nat.mul_le_mul_right _ (by have := HPL.out.2.1; omega)
                omega
              have HG1 := Lib.hid (HW.out.gotL HRT.out (by omega) N hN)
              have HNN := Lib.hid hN
              clear hW ht hN HRO
              go_wp2_with fail
              refine HG1.out.mono ?_
              rintro e Y1 ⟨A1, cp1, rfl, hq1, hk1, ho1⟩
              have hg2 := (HW.out.calm hk1).gotR (HSG.out.ok HRT.out) (by omega) N (by rw [HSG.out.2.1]; exact HNN.out)
              rw [HSG.out.2.1] at hg2
              have HG2 := Lib.hid hg2
              have HQ1 := Lib.hid hq1
              have HK1 := Lib.hid hk1
              clear hg2 hq1 hk1 ho1 HG1
              go_wp2_with fail
              refine HG2.out.mono ?_
              rintro e Y2 ⟨A2, cp2, rfl, hq2, hk2, ho2⟩
              have hW2 := (HW.out.calm HK1.out).calm hk2
              have HQ1' := Lib.hid (HQ1.out.keeps hk2 (fun _ _ h => h))
              have HQ2 := Lib.hid hq2
              have HW2 := Lib.hid hW2
              have Q1 := Lib.hid (p := ∀ d os, _) fun d os => quietF (W := Y2) d os (fun A hA => (hW2.calm hA).insL HRT.out)
              have Q2 := Lib.hid (p := ∀ d os, _) fun d os => quietF (W := Y2) d os (fun A hA => (hW2.calm hA).insR (HSG.out.ok HRT.out))
              rw [HSG.out.inside] at Q2
              have cP := hW2.cellL
              have cQ := hW2.cellR
              have rP := cell_regrown cP
              have rQ := cell_regrown cQ
              generalize wrap64 (insideF P.g t.fs) = wi at *
              clear hq2 hk2 ho2 hW2 HG2 HQ1 HK1 cP cQ
              go_wp2_with fail
              refine wp_region_quiet_below (by kernel_rfl) (by kernel_rfl) ?_
              repeat (go_big_quiet_step ((go_at_call 9; first | with_reducible exact Q1.out _ _ | with_reducible exact Q2.out _ _)))
              refine wpQuiet_nil ?_
              intro w' hw'
              obtain ⟨⟨nq, osq⟩, hw''⟩ := hw'
              have hkV : Keeps (fun _ => False) Y2 (grow (redrawn Y2 nq) osq) := Keeps.of_below (below_regrown Y2 nq osq)
              subst hw''
              clear Q1 Q2 rP rQ
              generalize grow (redrawn Y2 nq) osq = V at *
              have HKV := Lib.hid hkV
              have HQA := Lib.hid (HQ1'.out.keeps hkV (fun _ _ h => h))
              have HQB := Lib.hid (HQ2.out.keeps hkV (fun _ _ h => h))
              have HKF := Lib.hid ((HKU.out.trans HW2.out.keeps).trans hkV)
              clear hkV HQ1' HQ2
              have hNl := HNN.out
              generalize gotF t.fs (P.g.t.length + 1) = G at *
              have HGL := Lib.hid hNl
              clear hNl HNN
              go_wp2_with fail
              go_loopw [20] (fun c wr => ∃ k : Nat, k ≤ N ∧ c = .int .i64 (k : Int) ∧ Keeps (fun _ => False) V wr) (fun c _ => N - (intOf c).toNat)
              case atStart => exact ⟨0, Nat.zero_le _, rfl, Keeps.refl _ _⟩
              case round =>
                obtain ⟨k, hk, rfl, hK⟩ := hrel
                by_cases hkN : k < N
                · have hkk : (k : Int) < (N : Int) := by omega
                  have hk0 : (0 : Int) ≤ (k : Int) := by omega
                  obtain ⟨x, hx⟩ : ∃ x, G[k]? = some x := ⟨_, List.getElem?_eq_getElem (by have := HGL.out; omega)⟩
                  obtain ⟨ga, oa, ca, ea, _, hca, _⟩ := (HQA.out.keeps hK (fun _ _ h => h)).cell (by omega)
                  obtain ⟨gb, ob, cb, eb, _, hcb, _⟩ := (HQB.out.keeps hK (fun _ _ h => h)).cell (by omega)
                  injection ea with ea1 _ ea2
                  injection eb with eb1 _ eb2
                  subst ea1 ea2 eb1 eb2
                  have p0 := hca _ _ (pcells_at G k x hx 0 _ rfl)
                  have p1 := hca _ _ (pcells_at G k x hx 1 _ rfl)
                  have p2 := hca _ _ (pcells_at G k x hx 2 _ rfl)
                  have p3 := hca _ _ (pcells_at G k x hx 3 _ rfl)
                  have q0 := hcb _ _ (pcells_at G k x hx 0 _ rfl)
                  have q1 := hcb _ _ (pcells_at G k x hx 1 _ rfl)
                  have q2 := hcb _ _ (pcells_at G k x hx 2 _ rfl)
                  have q3 := hcb _ _ (pcells_at G k x hx 3 _ rfl)
                  rw [← Nat.add_assoc] at p1 p2 p3 q1 q2 q3
                  simp only [Nat.add_zero] at p0 q0
                  have HK := Lib.hid hK
                  clear hca hcb hx hK
                  go_wp2_with fail
                  go_quiet (fail)
                  have HKQ := Lib.hid (HK.out.trans (Keeps.drewN _ _ nq))
                  clear p0 p1 p2 p3 q0 q1 q2 q3
                  go_wp2_with fail
                  go_roundw
                  case rel => exact ⟨k + 1, by omega, by go_num, HKQ.out⟩
                  case measure => simp [intOf]; omega
                · obtain rfl : k = N := by omega
                  have hkk : ¬ ((k : Int) < (k : Int)) := by omega
                  have HK := Lib.hid hK
                  clear hK
                  go_wp2_with fail
                  go_ret
                  exact ⟨rfl, keeps_below (HKF.out.trans HK.out)⟩
end Go.Proofs.YtebnflpanfmicaaGreatDoor
