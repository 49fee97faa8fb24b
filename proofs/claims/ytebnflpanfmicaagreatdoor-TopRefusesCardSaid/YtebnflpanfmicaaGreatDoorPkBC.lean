/-
  Part 29 of the proof: TopMoveW, TopExch, TopTickP.
-/
import Derived.Test.YtebnflpanfmicaaGreatDoorPkBB
set_option linter.unusedVariables false
set_option linter.unusedSimpArgs false
set_option linter.unusedSectionVars false
namespace Go.Proofs.YtebnflpanfmicaaGreatDoor
open Go.RowKit
structure Saying (σ : Sig) (w0 : World) (o0 : Nat → Option Cmp) (w : World) (o : Nat → Option Cmp) (ob xb mb : Nat) (mo : Array Value) (nb : Nat) (l : List (Nat × List Int)) : Prop where
  sys : SysF σ w o
  ext : Ext o0 w0 o w
  say : SayV w w0.heap.size o ob xb nb l
  mat : w.heap[mb]? = some (.cells mo 3 (0, 0)) ∧ o mb = none
section
variable {σ σ' : Sig} {w0 w w' : World} {o0 o o' : Nat → Option Cmp} {ob xb mb nb f v : Nat} {mo : Array Value} {l : List (Nat × List Int)} {g : Geo} {a : NodeA} {s : NodeS}
theorem Saying.step (h : Saying σ w0 o0 w o ob xb mb mo nb l) (h1 : SysF σ' w' o') (h2 : Ext o w o' w') : Saying σ' w0 o0 w' o' ob xb mb mo nb l :=
  ⟨h1, h.ext.trans h2, h.say.ext h2, blk_keeps h2.1 h.mat.1 (by rw [h.mat.2]; decide), (h2.2 _ (blk_lt h.mat.1)).trans h.mat.2⟩
theorem Saying.calm (h : Saying σ w0 o0 w o ob xb mb mo nb l) (hk : Keeps (fun _ => False) w w') : Saying σ w0 o0 w' o ob xb mb mo nb l :=
  h.step (SysF.calm' h.sys hk) (Ext.keeps o hk)
theorem Saying.tab (h : Saying σ w0 o0 w o ob xb mb mo nb l) (ht : Tab w0) (h0 : o0 0 = none) : Tab w ∧ o 0 = none := h.ext.tab ht h0
theorem Saying.say_runs (h : Saying σ w0 o0 w o ob xb mb mo a.nb l) (hg : σ.geo f = some g) (hn : σ.node f v = some (a, s)) (hlv : ∀ i, ∃ A n c, a.lv i = .slice A n c) (t : Nat) (ht : t < g.ports v) (fr : Frm) (hl : l.length ≤ 1000) (y : Nat) (hy : (tos g.t v).getD t 0 = y) :
    Calls Tryz.prog 123 #[.int .i64 t, fr.val, .pointer (some ⟨ob, 0, none⟩), .pointer (some ⟨xb, 0, none⟩)] w fun e w' => e = .returned (.tuple #[]) ∧ Saying σ w0 o0 w' o ob xb mb mo a.nb (l ++ [(y, outB fr)]) ∧
      ∀ (b : Nat) (cs : Array Value) (t : TypeId), w.heap[b]? = some (.cells cs t (0, 0)) → t ≠ 140 → t ≠ 142 → w'.heap[b]? = some (.cells cs t (0, 0)) := by
  obtain ⟨u, us, hs⟩ := h.say
  have hno : ∀ k, w.heap.size ≤ k → o k = none := fun k hk => by
    cases e : o k with
    | none => rfl
    | some x => have := Sys.lt h.sys k x e; omega
  refine (Go.Proofs.YtebnflpanfmicaaGreatDoor.say_runs hs (h.sys.nodeR hg hn) (fun k hk => ⟨fun e => (by rw [e, hs.bo.2] at hk; cases hk), fun e => (by rw [(hs.out.vown k e).2] at hk; cases hk)⟩) hlv h.ext.1.size hno t ht fr hl y hy).mono ?_
  rintro e w' ⟨rfl, hs', hk, hk2⟩
  have hkeep : ∀ (b : Nat) (cs : Array Value) (t : TypeId), w.heap[b]? = some (.cells cs t (0, 0)) → t ≠ 140 → t ≠ 142 → w'.heap[b]? = some (.cells cs t (0, 0)) := fun b cs t hb h1 h2 => blk_keeps hk2 hb (fun e => by
    rcases e with e | e
    · obtain ⟨cur, hc⟩ := hs.out.row.typed b e
      rw [hb] at hc; injection hc with hc; injection hc with _ hc; exact h2 hc
    · have hc := hs.box
      rw [← e, hb] at hc; injection hc with hc; injection hc with _ hc; exact h1 hc)
  exact ⟨rfl, ⟨Sys.aside h.sys hk (fun k hk => hk.2), ⟨h.ext.1.then hk (fun i hi hj => by omega), h.ext.2⟩, hs', hkeep _ _ _ h.mat.1 (by decide) (by decide), h.mat.2⟩, hkeep⟩
set_option maxRecDepth 100000 in
set_option maxHeartbeats 16000000 in
theorem move_runs (h : Saying σ w0 o0 w o ob xb mb mo a.nb l) (hT : Tab w0) (h00 : o0 0 = none) (hg : σ.geo f = some g) (hn : σ.node f v = some (a, s)) (hlv : ∀ i, ∃ A n c, a.lv i = .slice A n c) (i t : Nat) (hi : i < g.ports v) (ht : t < g.ports v)
    (hwk : WheelOk g.ws (s.left t) (s.from_ t)) (hc : (s.q 3).length ≤ 1000000000) (hl : l.length ≤ 1000) (L n : Nat) (hL : g.ws.length = L) (hpn : g.ports v = n) :
    Calls Tryz.prog 128 #[.pointer (some ⟨a.nb, 0, none⟩), .int .i64 i, .int .i64 t, .func (.func 123) #[] #[.pointer (some ⟨ob, 0, none⟩), .pointer (some ⟨xb, 0, none⟩)]] w fun e w' => e = .returned (.tuple #[]) ∧
      ∃ o', Saying (σ.set f v a (moveS g i t s)) w0 o0 w' o' ob xb mb mo a.nb (l ++ moveO g v i t s) := by
  have hS := h.sys
  obtain ⟨hTw, ho0⟩ := h.tab hT h00
  have hp := hS.planS hg
  have hL3 : L ≤ 3 := by have := hp.nums.lanes.2; have := hp.lanes; omega
  have hpl := hp.lanes
  have N := hS.nodeR hg hn
  obtain ⟨gp, op, cp, epv, hgS, cto, clv, cwb⟩ := N.to ht
  have cpv : w.cell? ⟨a.nb, 13, none⟩ = some a.pv := by rw [blk_cell N.box]; rfl
  rw [epv, hpn] at cpv
  have htn : (t : Int) < (n : Int) := by omega
  have ht0 : (0 : Int) ≤ (t : Int) := by omega
  have hnbo : o a.nb = some (.node f v) := N.sb
  have HM := Lib.hid (p := ∀ U, Keeps (fun _ => False) w U → _) fun U hU => may_runs (SysF.calm' hS hU) hg hn i t hi ht
  have hm16 : mayTo s i t g.ws.length < 65536 := Nat.lt_of_lt_of_le (mayTo_lt s i t _) (by rw [hL]; exact Nat.le_trans (Nat.pow_le_pow_right (by decide) hL3) (by decide))
  have HW := Lib.hid (p := ∀ U, Keeps (fun _ => False) w U → _) fun U hU => wpick_runs (a.wb t) g.ws (s.left t) (s.from_ t) (mayTo s i t g.ws.length) _ U (hTw.keeps hU (fun h => h)) (by show ¬ o 0 = _; rw [ho0]; intro h; cases h) ((SysF.calm' hS hU).wheelV hg hn ht) hwk hm16
  have hpk := wheelPick_ok (may := mayTo s i t g.ws.length) hwk
  obtain ⟨p, hpd⟩ : ∃ p, wheelPick g.ws (s.left t) (s.from_ t) (mayTo s i t g.ws.length) = p := ⟨_, rfl⟩
  have hms : moveS g i t s = (let s1 := turnW s t p.2.1 p.2.2
    if p.1 < 0 then s1 else
    let k := p.1.toNat
    let s2 := takeW s1 i t k
    if t = 0 then { s2 with q := setAt s2.q 3 (s2.q 3 ++ [headW s ⟨i, t, k⟩]) } else sentW s2 t k) := by rw [← hpd]; rfl
  have hmo : moveO g v i t s = if p.1 < 0 ∨ t = 0 then [] else [((tos g.t v).getD t 0, outB (dataF s t p.1.toNat (headW s ⟨i, t, p.1.toNat⟩)))] := by rw [← hpd]; rfl
  rw [hpd] at HW hpk
  obtain ⟨sF, hsF⟩ : ∃ sF, moveS g i t s = sF := ⟨_, rfl⟩
  obtain ⟨oF, hoF⟩ : ∃ oF, moveO g v i t s = oF := ⟨_, rfl⟩
  rw [hsF, hoF]
  rw [hms] at hsF
  rw [hmo] at hoF
  clear hms hmo
  generalize mayTo s i t g.ws.length = m at *
  obtain ⟨r, Lf, fr⟩ := p
  simp only at HW hpk hsF hoF
  have HPD := Lib.hid hpd
  have HSF := Lib.hid hsF
  have HOF := Lib.hid hoF
  clear hsF hoF
  have hwk2 := hpk.1
  have hr1 := hpk.2.1
  have hr2 := hpk.2.2.1
  clear hpd hpk
  have HSS := Lib.hid (p := ∀ (F : Nat → Prop) U, Keeps F w U → (∀ k, o k = some (.node f v) → ¬ F k) → U.cell? ⟨a.nb, 13, none⟩ = some (.slice (some ⟨gp, op, none⟩) n cp) ∧ U.cell? ⟨gp, op + t * 3 + 2, none⟩ = some (.pointer (some ⟨a.wb t, 0, none⟩))) fun F U hU hF => ⟨hU.cell cpv (hF _ hnbo), hU.cell cwb (hF _ hgS)⟩
  have hd : Keeps (fun _ => False) w w.drew := Keeps.drew _ _
  have hsd := HSS.out _ _ hd (fun _ _ h => h)
  have hwN : ∀ k, o k = some (.node f v) → ¬ (fun k => o k = some (Cmp.wheel f v t)) k := fun k e e2 => by simp only at e2; rw [e] at e2; cases e2
  have H := Lib.hid h
  have HL := Lib.hid hL
  clear h hS N hp hpl cpv cwb clv cto hTw
  go_enter Tryz.func128, Tryz.ntmps128
  go_wp2_with fail
  go_region_held3 (fun U => U.cell? ⟨a.nb, 13, none⟩ = some (.slice (some ⟨gp, op, none⟩) n cp) ∧ U.cell? ⟨gp, op + t * 3 + 2, none⟩ = some (.pointer (some ⟨a.wb t, 0, none⟩)))
    (with_reducible first | exact hsd | exact hsW | exact hsZ | go_keep)
    (first
      | (go_at_call 180; refine (HM.out _ hd).mono ?_; rintro e W ⟨rfl, hW⟩; have hYW := hd.trans hW; have hsW := HSS.out _ _ hYW (fun _ _ h => h))
      | (go_at_call 181; refine (HW.out _ hYW).mono ?_; rintro e Z ⟨rfl, hZ, hWV⟩; have hsZ := HSS.out _ _ ((hYW.mono (fun _ _ h => h.elim)).trans hZ) hwN))
  obtain ⟨o1, hS1, hE1⟩ := SysF.stepWheel (SysF.calm' H.out.sys hYW) hg hn ht hZ (hWV.wider (fun k h => .inl h) (fun k hk => hk.elim (fun e => Nat.lt_of_lt_of_le (Sys.lt (SysF.calm' H.out.sys hYW) k _ e) hZ.size) (fun e => e.2)))
  have HS1 : Hid (Saying (σ.set f v a (turnW s t Lf fr)) w0 o0 Z o1 ob xb mb mo a.nb l) := Lib.hid (H.out.step hS1 ((Ext.keeps o hYW).trans hE1))
  have hn1 := set_get (σ := σ) f v a (turnW s t Lf fr)
  have hq1 : (turnW s t Lf fr).q = s.q := rfl
  have hQ1 : (turnW s t Lf fr).Q = s.Q := rfl
  have hse1 : (turnW s t Lf fr).sent = s.sent := rfl
  have hli1 : (turnW s t Lf fr).limit = s.limit := rfl
  have HQ1 := Lib.hid hQ1
  have HQQ := Lib.hid hq1
  have HSE := Lib.hid hse1
  have HLI := Lib.hid hli1
  clear hq1 hQ1 hse1 hli1 hS1 hE1 hWV hZ hYW hW hsW hsd hsZ hd HM HW HSS hwN H
  generalize turnW s t Lf fr = s1 at *
  by_cases hr0 : r < 0
  · have e1 : s1 = sF := by have := HSF.out; rw [if_pos hr0] at this; exact this
    have e2 : [] = oF := by have := HOF.out; rw [if_pos (.inl hr0)] at this; exact this
    have HE1 := Lib.hid e1
    have HE2 := Lib.hid e2
    clear e1 e2
    go_wp2_with fail
    (try simp only [Exit.inBlock, Exit.then])
    refine bodyPost_ret (results_none rfl _ _ _) rfl ?_
    exact ⟨rfl, o1, by rw [← HE2.out, List.append_nil, ← HE1.out]; exact HS1.out⟩
  · obtain ⟨k, rfl⟩ : ∃ k : Nat, r = (k : Int) := ⟨r.toNat, by omega⟩
    have e1 := HSF.out
    have e2 := HOF.out
    rw [if_neg hr0] at e1
    simp only [Int.toNat_natCast] at e1 e2
    have HE1 := Lib.hid e1
    have HE2 := Lib.hid e2
    clear e1 e2 HSF HOF
    have hkL : k < L := by have := HL.out; omega
    have hkL2 : k < g.ws.length := by have := HL.out; omega
    have hlan := (HS1.out.sys.planS hg).lanes
    have N1 := HS1.out.sys.nodeR hg hn1
    have c15 : Z.cell? ⟨a.nb, 15, none⟩ = some (.pointer (some ⟨a.rb, 0, none⟩)) := by rw [blk_cell N1.box]; rfl
    have HP := Lib.hid (pop_runs a.rb _ _ _ _ _ Z (HS1.out.sys.ringsV hg hn1) ⟨(i : Int), (t : Int), (k : Int)⟩)
    have hhd : (s1.Q ⟨(i : Int), (t : Int), (k : Int)⟩).head?.getD Pkt.zero = headW s ⟨(i : Int), (t : Int), (k : Int)⟩ := by rw [HQ1.out]; rfl
    rw [hhd] at HP
    obtain ⟨x, hx⟩ : ∃ x, headW s ⟨(i : Int), (t : Int), (k : Int)⟩ = x := ⟨_, rfl⟩
    rw [hx] at HP HE1 HE2
    generalize (!(s1.Q ⟨(i : Int), (t : Int), (k : Int)⟩).isEmpty) = bq at *
    obtain ⟨x1, x2, x3, x4⟩ := x
    have HX := Lib.hid hx
    clear hhd hx N1
    go_wp2_with fail
    refine HP.out.mono ?_
    rintro e V ⟨rfl, hV, hRV⟩
    obtain ⟨o2, hS2, hE2⟩ := SysF.stepRings HS1.out.sys hg hn1 hV hRV
    rw [set_set] at hS2
    have HS2 : Hid (Saying (σ.set f v a (popW s1 ⟨(i : Int), (t : Int), (k : Int)⟩)) w0 o0 V o2 ob xb mb mo a.nb l) := Lib.hid (HS1.out.step hS2 hE2)
    clear hV hRV hS2 hE2 HP c15 hn1 hr0
    have hn2 := set_get (σ := σ) f v a (popW s1 ⟨(i : Int), (t : Int), (k : Int)⟩)
    have hkY : Keeps (fun _ => False) V (V.alloc (.cells #[.int .i64 x1, .int .i64 x2, .int .i64 x3, .int .u32 x4] 31)) := Keeps.alloc _ _ _
    have hpk : PktAt (V.alloc (.cells #[.int .i64 x1, .int .i64 x2, .int .i64 x3, .int .u32 x4] 31)) V.heap.size ⟨x1, x2, x3, x4⟩ := blk_new V _
    have hfr := SysF.fresh HS2.out.sys (Nat.le_refl V.heap.size)
    have HS3 := Lib.hid (HS2.out.calm hkY)
    have HPK := Lib.hid hpk
    clear hkY hpk HS2
    have N2 := HS3.out.sys.nodeR hg hn2
    by_cases hi0 : 0 < i
    case' pos =>
      have hi1 : (0 : Int) < (i : Int) := by omega
      have hin : (i : Int) < (n : Int) := by omega
      have hii : (0 : Int) ≤ (i : Int) := by omega
      have hkk : (k : Int) < (L : Int) := by omega
      have hkk0 : (0 : Int) ≤ (k : Int) := by omega
      obtain ⟨gp', op', cp', gl, ol, cl, e1, e2, q1, q2, q3⟩ := N2.lane (i := i) (k := k) hi0 hi hkL2
      have c13 : (V.alloc (.cells #[.int .i64 x1, .int .i64 x2, .int .i64 x3, .int .u32 x4] 31)).cell? ⟨a.nb, 13, none⟩ = some a.pv := by rw [blk_cell N2.box]; rfl
      rw [e1, hpn] at c13
      rw [e2, HL.out] at q1
      have HFR := Lib.hid (free_runs _ _ _ _ _ (HS3.out.sys.recvAt hg hn2 (by omega) hi hkL2).1)
      clear e1 e2 q2 N2 hi1
      go_wp2_with fail
      refine HFR.out.mono ?_
      rintro e Y ⟨⟨rb, rfl⟩, hY, hRY⟩
      obtain ⟨o3, hS4, hE4⟩ := SysF.stepRcv HS3.out.sys hg hn2 (by omega) hi hkL2 hY hRY
      rw [set_set] at hS4
      have hob := (HS3.out.sys.recvAt hg hn2 (by omega) hi hkL2).2
      have e3 : takeW s1 i t k = freeW (popW s1 ⟨(i : Int), (t : Int), (k : Int)⟩) i k := if_pos (by omega)
      have HS4 : Hid (Saying (σ.set f v a (takeW s1 i t k)) w0 o0 Y o3 ob xb mb mo a.nb l) := Lib.hid (by rw [e3]; exact HS3.out.step hS4 hE4)
      have HPK4 := Lib.hid (blk_keeps hY HPK.out (fun e => by rw [e, hob] at hfr; cases hfr))
      have hfr4 : o3 V.heap.size = none := (hE4.2 _ (blk_lt HPK.out)).trans hfr
      clear hY hRY hS4 hE4 e3 hob HFR HS3 HPK hn2 hfr c13 q1 q3
      generalize V.heap.size = pb at *
      generalize V.alloc (.cells #[.int .i64 x1, .int .i64 x2, .int .i64 x3, .int .u32 x4] 31) = V1 at *
    case' neg =>
      have e3 : takeW s1 i t k = popW s1 ⟨(i : Int), (t : Int), (k : Int)⟩ := if_neg (by omega)
      have HS4 : Hid (Saying (σ.set f v a (takeW s1 i t k)) w0 o0 (V.alloc (.cells #[.int .i64 x1, .int .i64 x2, .int .i64 x3, .int .u32 x4] 31)) o2 ob xb mb mo a.nb l) := Lib.hid (by rw [e3]; exact HS3.out)
      have HPK4 := HPK
      obtain ⟨o3, ho3⟩ : ∃ o3, o2 = o3 := ⟨_, rfl⟩
      rw [ho3] at HS4 hfr
      have hfr4 := hfr
      clear e3 HS3 HPK hn2 hfr N2 ho3
    all_goals
      have HTQ := Lib.hid (p := (takeW s1 i t k).q = s.q) (by rw [← HQQ.out]; unfold takeW; split <;> rfl)
      have HTS := Lib.hid (p := (takeW s1 i t k).sent = s.sent) (by rw [← HSE.out]; unfold takeW; split <;> rfl)
      have HTL := Lib.hid (p := (takeW s1 i t k).limit = s.limit) (by rw [← HLI.out]; unfold takeW; split <;> rfl)
      generalize takeW s1 i t k = s4 at *
      have hn4 := set_get (σ := σ) f v a s4
      by_cases t0 : t = 0
      · have tb : ((t : Int) == 0) = true := by rw [beq_iff_eq]; omega
        have eO : [] = oF := by have := HE2.out; rw [if_pos (.inr t0)] at this; exact this
        have eF := HE1.out
        rw [if_pos t0] at eF
        have HEO := Lib.hid eO
        have HEF := Lib.hid eF
        clear eO eF HE1 HE2
        go_wp2_with fail
        first | (have hV1 : V1 = V1 := rfl; clear hV1) | (generalize V.heap.size = pb at *; generalize V.alloc (.cells #[.int .i64 x1, .int .i64 x2, .int .i64 x3, .int .u32 x4] 31) = Y at *)
        have N4 := HS4.out.sys.nodeR hg hn4
        have c14 : Y.cell? ⟨a.nb, 14, none⟩ = some (.pointer (some ⟨a.hb, 0, none⟩)) := by rw [blk_cell N4.box]; rfl
        have hPK : PktAt Y pb ⟨x1, x2, x3, x4⟩ := HPK4.out
        obtain ⟨q0, q1, q2, q3⟩ := hPK.cells
        simp only at q0 q1 q2 q3
        have hnb4 : o3 a.nb = some (.node f v) := N4.sb
        have hF1 : ¬ (fun k => o3 k = some (Cmp.host f v)) a.nb := by simp only; rw [hnb4]; intro h; cases h
        have hF2 : ¬ (fun k => o3 k = some (Cmp.host f v)) pb := by simp only; rw [hfr4]; intro h; cases h
        have HSS := Lib.hid (p := ∀ (F : Nat → Prop) Z, Keeps F Y Z → ¬ F a.nb → ¬ F pb → Z.cell? ⟨a.nb, 14, none⟩ = some (.pointer (some ⟨a.hb, 0, none⟩)) ∧ Z.cell? ⟨pb, 0, none⟩ = some (.int .i64 x1) ∧ Z.cell? ⟨pb, 1, none⟩ = some (.int .i64 x2) ∧ Z.cell? ⟨pb, 2, none⟩ = some (.int .i64 x3) ∧ Z.cell? ⟨pb, 3, none⟩ = some (.int .u32 x4)) fun F Z hZ h1 h2 => ⟨hZ.cell c14 h1, hZ.cell q0 h2, hZ.cell q1 h2, hZ.cell q2 h2, hZ.cell q3 h2⟩
        have HEJ := Lib.hid (p := ∀ U, Keeps (fun _ => False) Y U → _) fun U hU => eject_ok a.hb ⟨x1, x2, x3, x4⟩ _ _ U ((SysF.calm' HS4.out.sys hU).hostV hg hn4) (by rw [HTQ.out]; exact hc)
        have hdY : Keeps (fun _ => False) Y Y.drew := Keeps.drew _ _
        have hsd := HSS.out _ _ hdY (fun h => h) (fun h => h)
        clear c14 hPK q0 q1 q2 q3 N4
        go_region_held3 (fun Z => Z.cell? ⟨a.nb, 14, none⟩ = some (.pointer (some ⟨a.hb, 0, none⟩)) ∧ Z.cell? ⟨pb, 0, none⟩ = some (.int .i64 x1) ∧ Z.cell? ⟨pb, 1, none⟩ = some (.int .i64 x2) ∧ Z.cell? ⟨pb, 2, none⟩ = some (.int .i64 x3) ∧ Z.cell? ⟨pb, 3, none⟩ = some (.int .u32 x4))
          (with_reducible first | exact hsd | exact hsX | go_keep)
          (first
            | (go_at_call 184; refine (HEJ.out _ hdY).mono ?_; rintro e X ⟨rfl, hX⟩; have hsX := HSS.out _ _ ((hdY.mono (fun _ _ h => h.elim)).trans hX.kept) hF1 hF2))
        obtain ⟨o4, hS5, hE5⟩ := SysF.stepHost (SysF.calm' HS4.out.sys hdY) hg hn4 hX
        rw [set_set] at hS5
        have HS5 := Lib.hid (HS4.out.step hS5 ((Ext.keeps o3 hdY).trans hE5))
        clear hS5 hE5 hX hsX hsd hdY HEJ HSS
        go_wp2_with fail
        (try simp only [Exit.inBlock, Exit.then])
        refine bodyPost_ret (results_none rfl _ _ _) rfl ?_
        exact ⟨rfl, o4, by rw [← HEO.out, List.append_nil, ← HEF.out]; exact HS5.out⟩
      · have tb : ((t : Int) == 0) = false := by rw [beq_eq_false_iff_ne]; omega
        have eO : [((tos g.t v).getD t 0, outB (dataF s t k ⟨x1, x2, x3, x4⟩))] = oF := by have := HE2.out; rw [if_neg (by omega)] at this; exact this
        have eF : sentW s4 t k = sF := by have := HE1.out; rw [if_neg t0] at this; exact this
        have HEO := Lib.hid eO
        have HEF := Lib.hid eF
        clear eO eF HE1 HE2
        have hkk : (k : Int) < (L : Int) := by omega
        have hkk0 : (0 : Int) ≤ (k : Int) := by omega
        have N4 := HS4.out.sys.nodeR hg hn4
        have c13 := N4.c13
        obtain ⟨gp', op', cp', gl, ol, cl, e1, e2, q1, q2, q3⟩ := N4.lane (i := t) (k := k) (by omega) ht hkL2
        rw [e1, hpn] at c13
        rw [e2, HL.out] at q1
        have HNX := Lib.hid (cnext_runs _ _ _ _ (HS4.out.sys.sendAt hg hn4 (by omega) ht hkL2).1)
        have hnn : nextN (s4.sent t k) (s4.limit t k) = nextN (s.sent t k) (s.limit t k) := by rw [HTS.out, HTL.out]
        rw [hnn] at HNX
        clear e1 e2 q3 N4 hnn
        go_wp2_with fail
        first | (have hV1 : V1 = V1 := rfl; clear hV1) | (generalize V.heap.size = pb at *; generalize V.alloc (.cells #[.int .i64 x1, .int .i64 x2, .int .i64 x3, .int .u32 x4] 31) = Y at *)
        refine HNX.out.mono ?_
        rintro e X ⟨⟨rb2, rfl⟩, hX, hSX⟩
        obtain ⟨o4, hS5, hE5⟩ := SysF.stepSnd HS4.out.sys hg hn4 (by omega) ht hkL2 hX hSX
        rw [set_set] at hS5
        have HS5 : Hid (Saying (σ.set f v a (sentW s4 t k)) w0 o0 X o4 ob xb mb mo a.nb l) := Lib.hid (HS4.out.step hS5 hE5)
        have hob := (HS4.out.sys.sendAt hg hn4 (by omega) ht hkL2).2
        have hPK : PktAt X pb ⟨x1, x2, x3, x4⟩ := blk_keeps hX HPK4.out (fun e => by rw [e, hob] at hfr4; cases hfr4)
        obtain ⟨r0, r1, r2, r3⟩ := hPK.cells
        simp only at r0 r1 r2 r3
        have hn5 := set_get (σ := σ) f v a (sentW s4 t k)
        have HSY := Lib.hid (HS5.out.say_runs hg hn5 hlv t ht (dataF s t k ⟨x1, x2, x3, x4⟩) hl _ rfl)
        have w8k : W8 (k : Int) = (k : Int) := by simp [IntKind.wrap, IntKind.bits, IntKind.signed]; omega
        have w8x : ∀ z : Int, W8 z = z % 256 := fun z => by simp [IntKind.wrap, IntKind.bits, IntKind.signed]
        unfold dataF at HSY HEO
        rw [w8k, w8x, w8x] at HSY HEO
        simp only at HSY
        clear w8k w8x
        generalize nextN (s.sent t k) (s.limit t k) = nn at *
        clear hX hSX hS5 hE5 hob hPK q1 q2 c13 HNX HPK4
        go_wp2_with fail
        refine HSY.out.mono ?_
        rintro e P ⟨rfl, hP, _⟩
        have HP2 := Lib.hid hP
        clear hP HSY
        go_wp2_with fail
        go_end0
        exact ⟨rfl, o4, by rw [← HEO.out, ← HEF.out]; exact HP2.out⟩
end
end Go.Proofs.YtebnflpanfmicaaGreatDoor
namespace Go.Proofs.YtebnflpanfmicaaGreatDoor
open Go.RowKit
theorem tellK_length (g : Geo) (v : Nat) (s : NodeS) (i : Nat) : ∀ k, (tellK g v s i k).length = 2 * k
  | 0 => rfl
  | k + 1 => by rw [tellK, List.length_append, tellK_length g v s i k]; simp [tellO]; omega
theorem exchO_length (g : Geo) (v : Nat) (s : NodeS) : ∀ i, (exchO g v s i).length ≤ i * (2 * g.ws.length)
  | 0 => by simp [exchO]
  | i + 1 => by
    have := exchO_length g v s i
    have e : (i + 1) * (2 * g.ws.length) = i * (2 * g.ws.length) + 2 * g.ws.length := Nat.succ_mul _ _
    unfold exchO
    split
    · omega
    · rw [List.length_append, tellK_length]; omega
section
variable {σ σ' : Sig} {w0 w w' : World} {o0 o o' : Nat → Option Cmp} {ob xb mb f v : Nat} {mo : Array Value} {l : List (Nat × List Int)} {g : Geo} {a : NodeA} {s : NodeS}
theorem NodeR.port {S : Nat → Prop} {ticks : Int} (h : NodeR w S g v a ticks) {i : Nat} (hi : i < g.ports v) : ∃ gp op cp, a.pv = .slice (some ⟨gp, op, none⟩) (g.ports v) cp ∧
    w.cell? ⟨gp, op + i * 3, none⟩ = some (.int .i64 ((tos g.t v).getD i 0 : Nat)) ∧ w.cell? ⟨gp, op + i * 3 + 1, none⟩ = some (a.lv i) ∧ w.cell? ⟨gp, op + i * 3 + 2, none⟩ = some (.pointer (some ⟨a.wb i, 0, none⟩)) := by
  obtain ⟨gp, op, cp, h1, _, h2, h3, h4⟩ := h.to hi
  exact ⟨gp, op, cp, h1, h2, h3, h4⟩
set_option maxRecDepth 100000 in
set_option maxHeartbeats 16000000 in
theorem exchange_runs (h : Saying σ w0 o0 w o ob xb mb mo a.nb l) (hg : σ.geo f = some g) (hn : σ.node f v = some (a, s)) (hlv : ∀ i, ∃ A n c, a.lv i = .slice A n c) (hl : l.length ≤ 500) (L n : Nat) (hL : g.ws.length = L) (hpn : g.ports v = n) (h6 : n ≤ 6) :
    Calls Tryz.prog 129 #[.pointer (some ⟨a.nb, 0, none⟩), .func (.func 123) #[] #[.pointer (some ⟨ob, 0, none⟩), .pointer (some ⟨xb, 0, none⟩)]] w fun e w' => e = .returned (.tuple #[]) ∧ Saying σ w0 o0 w' o ob xb mb mo a.nb (l ++ exchO g v s n) := by
  have hL3 : L ≤ 3 := by have := (h.sys.planS hg).nums.lanes.2; have := (h.sys.planS hg).lanes; omega
  have c13 := (h.sys.nodeR hg hn).c13
  obtain ⟨pA, pc, hpv, _, _⟩ := (h.sys.nodeR hg hn).pq.shape
  have hpv' := hpv
  rw [hpn] at hpv'
  rw [hpv'] at c13
  have H := Lib.hid h
  have HPV := Lib.hid hpv'
  have HL3 := Lib.hid hL3
  clear h hpv hpv'
  go_enter Tryz.func129, Tryz.ntmps129
  go_wp2_with fail
  clear c13
  go_loopw [13] (fun c wr => ∃ i : Nat, i ≤ n ∧ c = .int .i64 (i : Int) ∧ Saying σ w0 o0 wr o ob xb mb mo a.nb (l ++ exchO g v s i)) (fun c _ => n - (intOf c).toNat)
  case atStart => exact ⟨0, Nat.zero_le _, rfl, by rw [show exchO g v s 0 = [] from rfl, List.append_nil]; exact H.out⟩
  case round =>
    obtain ⟨i, hi, rfl, hS⟩ := hrel
    by_cases hin : i < n
    · have hii : (i : Int) < (n : Int) := by omega
      have hi0 : (0 : Int) ≤ (i : Int) := by omega
      have N := hS.sys.nodeR hg hn
      obtain ⟨gp, op, cp, e1, p1, p2, p3⟩ := N.port (i := i) (by omega)
      rw [hpn, HPV.out] at e1
      injection e1 with e1 e1b e1c
      clear e1b
      subst e1 e1c
      obtain ⟨y, hy⟩ : ∃ y, (tos g.t v).getD i 0 = y := ⟨_, rfl⟩
      rw [hy] at p1
      obtain ⟨lA, ln, lc, hlvi⟩ := hlv i
      have HLVI := Lib.hid hlvi
      rw [hlvi] at p2
      have HLN := Lib.hid (p := (i = 0 ∧ ln = 0) ∨ (0 < i ∧ ln = L)) (by
        by_cases h0 : i = 0
        · subst h0; rw [N.l0] at hlvi; injection hlvi with _ h2 _; exact .inl ⟨rfl, h2.symm⟩
        · obtain ⟨A, c, e, _⟩ := (N.lq i (by omega) (by omega)).shape
          rw [hlvi, hL] at e; injection e with _ h2 _; exact .inr ⟨by omega, h2⟩)
      have HY := Lib.hid hy
      clear hy
      have HS := Lib.hid hS
      have hkB : Keeps (fun _ => False) wr (wr.alloc (.cells #[.int .i64 (y : Int), .slice lA ln lc, .pointer (some ⟨a.wb i, 0, none⟩)] 165)) := Keeps.alloc _ _ _
      have HSB := Lib.hid (hS.calm hkB)
      have hxs : exchO g v s (i + 1) = if i = 0 then exchO g v s i else exchO g v s i ++ tellK g v s i g.ws.length := rfl
      have HXS := Lib.hid hxs
      have HXL := Lib.hid (exchO_length g v s i)
      clear hS N hkB hlvi hxs
      obtain ⟨X1, hX1⟩ : ∃ X1, exchO g v s (i + 1) = X1 := ⟨_, rfl⟩
      rw [hX1] at HXS
      have HX1 := Lib.hid hX1
      clear hX1
      generalize exchO g v s i = X0 at *
      go_wp2_with fail
      clear p1 p2 p3
      generalize wr.alloc (.cells #[.int .i64 (y : Int), .slice lA ln lc, .pointer (some ⟨a.wb i, 0, none⟩)] 165) = B at *
      go_loopw [21] (fun c wr2 => ∃ k : Nat, k ≤ ln ∧ c = .int .i64 (k : Int) ∧ Saying σ w0 o0 wr2 o ob xb mb mo a.nb (l ++ X0 ++ tellK g v s i k)) (fun c _ => ln - (intOf c).toNat)
      case atStart => exact ⟨0, Nat.zero_le _, rfl, by rw [show tellK g v s i 0 = [] from rfl, List.append_nil]; exact HSB.out⟩
      case round =>
        obtain ⟨k, hk, rfl, hS⟩ := hrel
        by_cases hkl : k < ln
        · have hkk : (k : Int) < (ln : Int) := by omega
          have hk0 : (0 : Int) ≤ (k : Int) := by omega
          obtain ⟨hi0', hLl⟩ : 0 < i ∧ ln = L := by
            rcases HLN.out with ⟨_, h⟩ | h
            · omega
            · exact h
          have hLw : g.ws.length = ln := by rw [hL, hLl]
          have hkL : k < g.ws.length := by omega
          have HLW := Lib.hid hLw
          clear hLw hLl
          have N := hS.sys.nodeR hg hn
          have hi1 : 1 ≤ i := hi0'
          have hig : i < g.ports v := by rw [hpn]; exact hin
          obtain ⟨gp', op', cp', gl, ol, cl, _, e2, _, q2, q3⟩ := N.lane (i := i) (k := k) hi1 hig hkL
          rw [HLVI.out] at e2
          injection e2 with e2 e2b e2c
          clear e2b
          subst e2 e2c
          have hkC : Keeps (fun _ => False) wr (wr.alloc (.cells #[.pointer (some ⟨a.sb i k, 0, none⟩), .pointer (some ⟨a.cb i k, 0, none⟩)] 172)) := Keeps.alloc _ _ _
          have hbC := blk_new wr (.cells #[.pointer (some ⟨a.sb i k, 0, none⟩), .pointer (some ⟨a.cb i k, 0, none⟩)] 172)
          have hfr := SysF.fresh hS.sys (Nat.le_refl wr.heap.size)
          have hSC := hS.calm hkC
          have HSD := Lib.hid (sent_runs _ _ _ _ (hSC.sys.sendAt hg hn hi1 hig hkL).1)
          have HTL := Lib.hid (tellK_length g v s i k)
          have htk : tellK g v s i (k + 1) = tellK g v s i k ++ tellO g v s i k := rfl
          have HTK := Lib.hid htk
          have HS2 := Lib.hid hS
          have HSC := Lib.hid hSC
          have HBC := Lib.hid hbC
          clear hS N hkC hSC htk hbC
          obtain ⟨T1, hT1⟩ : ∃ T1, tellK g v s i (k + 1) = T1 := ⟨_, rfl⟩
          rw [hT1] at HTK
          have HTE := Lib.hid hT1
          clear hT1
          generalize tellK g v s i k = T0 at *
          go_wp2_with fail
          generalize wr.alloc (.cells #[.pointer (some ⟨a.sb i k, 0, none⟩), .pointer (some ⟨a.cb i k, 0, none⟩)] 172) = C at *
          generalize wr.heap.size = lb at *
          refine HSD.out.mono ?_
          rintro e C' ⟨rfl, hC⟩
          subst hC
          have w8k : W8 (k : Int) = (k : Int) := by have := HL3.out; simp [IntKind.wrap, IntKind.bits, IntKind.signed]; omega
          have hlen : (l ++ X0 ++ T0).length ≤ 900 := by
            have h1 := HXL.out
            have h2 := HTL.out
            have h3 : i * (2 * g.ws.length) ≤ 6 * 6 := Nat.mul_le_mul (by omega) (by have := HL3.out; have := HLW.out; omega)
            simp only [List.length_append]
            have := HL3.out
            omega
          have hsay := HSC.out.say_runs hg hn hlv i hig ⟨3, W8 (k : Int), W16 (s.sent i k), 0, 0, 0⟩ (by omega) y HY.out
          unfold Frm.val at hsay
          simp only at hsay
          have HSY := Lib.hid hsay
          rw [w8k] at HSY
          have HLN2 := Lib.hid hlen
          clear hsay HSD hlen w8k
          go_wp2_with fail
          refine HSY.out.mono ?_
          rintro e D ⟨rfl, hD, hDb⟩
          have hbD := hDb _ _ _ HBC.out (by decide) (by decide)
          have HRL := Lib.hid (rlimit_runs _ _ _ _ _ (hD.sys.recvAt hg hn hi1 hig hkL).1)
          have x1 := blk_cell hbD 1
          simp only [List.getElem?_toArray, List.getElem?_cons_zero, List.getElem?_cons_succ] at x1
          have HD := Lib.hid hD
          clear hD hDb hbD HSY HSC HBC
          go_wp2_with fail
          refine HRL.out.mono ?_
          rintro e E ⟨rfl, hE⟩
          have hE2 := HD.out.calm hE
          have w8k : W8 (k : Int) = (k : Int) := by have := HL3.out; simp [IntKind.wrap, IntKind.bits, IntKind.signed]; omega
          have hsay := hE2.say_runs hg hn hlv i hig ⟨2, W8 (k : Int), W16 (rlim (s.next i k) (s.held i k) g.p.room), 0, 0, 0⟩ (by have := HLN2.out; rw [List.length_append]; simp only [List.length_singleton]; omega) y HY.out
          unfold Frm.val at hsay
          simp only at hsay
          have HSY := Lib.hid hsay
          have htk2 : T1 = T0 ++ [(y, outB ⟨3, W8 (k : Int), W16 (s.sent i k), 0, 0, 0⟩), (y, outB ⟨2, W8 (k : Int), W16 (rlim (s.next i k) (s.held i k) g.p.room), 0, 0, 0⟩)] := by rw [HTK.out]; unfold tellO; rw [HY.out]
          rw [w8k] at HSY htk2
          have HT1 := Lib.hid htk2
          clear hsay w8k htk2 hE hE2 HRL x1 HD
          go_wp2_with fail
          refine HSY.out.mono ?_
          rintro e F ⟨rfl, hF, _⟩
          have HF := Lib.hid hF
          clear hF HSY
          go_wp2_with fail
          go_roundw
          case rel => exact ⟨k + 1, by omega, by go_num, by
            rw [HTE.out, HT1.out]
            have := HF.out
            simp only [List.append_assoc, List.cons_append, List.nil_append] at this ⊢
            exact this⟩
          case measure => simp [intOf]; omega
        · obtain rfl : k = ln := by omega
          have hkk : ¬ ((k : Int) < (k : Int)) := by omega
          have HS2 := Lib.hid hS
          have heq : l ++ X0 ++ tellK g v s i k = l ++ X1 := by
            rw [HXS.out]
            rcases HLN.out with ⟨h1, h2⟩ | ⟨h1, h2⟩
            · rw [if_pos h1, h2]; simp [tellK]
            · rw [if_neg (by omega), hL, h2, List.append_assoc]
          have HEQ := Lib.hid heq
          clear hS heq
          go_wp2_with fail
          go_roundw
          case rel => exact ⟨i + 1, by omega, by go_num, by rw [HX1.out, ← HEQ.out]; exact HS2.out⟩
          case measure => simp [intOf]; omega
    · obtain rfl : i = n := by omega
      have hii : ¬ ((i : Int) < (i : Int)) := by omega
      have HS := Lib.hid hS
      clear hS
      go_wp2_with fail
      go_end0
      exact ⟨rfl, HS.out⟩
end
end Go.Proofs.YtebnflpanfmicaaGreatDoor
namespace Go.Proofs.YtebnflpanfmicaaGreatDoor
open Go.RowKit
section
variable {g : Geo} {v : Nat} {s : NodeS} {c : Nat}
theorem NodeOk.more (h : NodeOk g v s c) {c' : Nat} (hc : c ≤ c') : NodeOk g v s c' := ⟨h.wheel, h.G, h.A, h.q, h.wait, Nat.le_trans h.came hc⟩
theorem takeW_same (s : NodeS) (i t k : Nat) : (takeW s i t k).q = s.q ∧ (takeW s i t k).left = s.left ∧ (takeW s i t k).from_ = s.from_ ∧ (takeW s i t k).G = s.G ∧ (takeW s i t k).A = s.A ∧ (takeW s i t k).sent = s.sent ∧ (takeW s i t k).limit = s.limit ∧ (takeW s i t k).ticks = s.ticks := by
  unfold takeW
  split <;> exact ⟨rfl, rfl, rfl, rfl, rfl, rfl, rfl, rfl⟩
theorem moveS_same (g : Geo) (i t : Nat) (s : NodeS) : (moveS g i t s).left = (turnW s t (pickW g s i t).2.1 (pickW g s i t).2.2).left ∧ (moveS g i t s).from_ = (turnW s t (pickW g s i t).2.1 (pickW g s i t).2.2).from_ ∧ (moveS g i t s).G = s.G ∧ (moveS g i t s).A = s.A ∧ (moveS g i t s).ticks = s.ticks ∧ (∀ k, k < 3 → (moveS g i t s).q k = s.q k) ∧ ((moveS g i t s).q 3).length ≤ (s.q 3).length + 1 := by
  unfold moveS
  simp only
  split
  · exact ⟨rfl, rfl, rfl, rfl, rfl, fun _ _ => rfl, Nat.le_succ _⟩
  · obtain ⟨h1, h2, h3, h4, h5, h6, h7, h8⟩ := takeW_same (turnW s t (pickW g s i t).2.1 (pickW g s i t).2.2) i t (pickW g s i t).1.toNat
    split
    · refine ⟨h2, h3, h4, h5, h8, fun k hk => ?_, ?_⟩
      · show setAt _ 3 _ k = _
        rw [setAt_other _ _ _ _ (by omega), h1]; rfl
      · simp only [setAt_same, List.length_append, List.length_singleton, h1]
        exact Nat.le_refl _
    · refine ⟨h2, h3, h4, h5, h8, fun k hk => ?_, ?_⟩
      · show (takeW _ _ _ _).q k = _
        rw [h1]; rfl
      · show ((takeW _ _ _ _).q 3).length ≤ _
        rw [h1]; exact Nat.le_succ _
theorem NodeOk.move (h : NodeOk g v s c) {i t : Nat} (ht : t < g.ports v) : NodeOk g v (moveS g i t s) (c + 1) := by
  obtain ⟨h1, h2, h3, h4, h5, h6, h7⟩ := moveS_same g i t s
  refine ⟨fun j hj => ?_, fun k hk => by rw [h3]; exact h.G k hk, fun k hk => by rw [h4]; exact h.A k hk, fun k hk x hx => h.q k hk x (by rw [← h6 k hk]; exact hx), fun k hk => by rw [h6 k hk]; exact h.wait k hk, by have := h.came; omega⟩
  rw [h1, h2]
  unfold turnW
  simp only
  by_cases hjt : j = t
  · subst hjt
    rw [if_pos rfl, if_pos rfl]
    exact (wheelPick_ok (h.wheel j hj)).1
  · rw [if_neg hjt, if_neg hjt]
    exact h.wheel j hj
theorem moveO_length (g : Geo) (v i t : Nat) (s : NodeS) : (moveO g v i t s).length ≤ 1 := by
  unfold moveO
  simp only
  split <;> simp
theorem movesO_length (g : Geo) (v : Nat) (m : Nat → Int) (s : NodeS) : ∀ i, (movesO g v m s i).length ≤ i
  | 0 => Nat.le_refl _
  | i + 1 => by
    have := movesO_length g v m s i
    have := moveO_length g v i (m i).toNat (movesS g m s i)
    unfold movesO
    split
    · rw [List.length_append]; omega
    · omega
theorem NodeOk.moves (h : NodeOk g v s c) {m : Nat → Int} (hm : ∀ i, m i < g.ports v) : ∀ i, NodeOk g v (movesS g m s i) (c + i)
  | 0 => h
  | i + 1 => by
    have ih := NodeOk.moves h hm i
    unfold movesS
    split
    · exact ih.move (by have := hm i; omega)
    · exact ih.more (by omega)
theorem feedOne_same (g : Geo) (v : Nat) (s : NodeS) (k : Nat) : (feedOne g v s k).left = s.left ∧ (feedOne g v s k).from_ = s.from_ ∧ (feedOne g v s k).G = s.G ∧ (feedOne g v s k).A = s.A ∧ (feedOne g v s k).ticks = s.ticks ∧ ∀ j, j ≠ k → (feedOne g v s k).q j = s.q j := by
  unfold feedOne
  split
  · exact ⟨rfl, rfl, rfl, rfl, rfl, fun _ _ => rfl⟩
  · split
    · exact ⟨rfl, rfl, rfl, rfl, rfl, fun _ _ => rfl⟩
    · exact ⟨rfl, rfl, rfl, rfl, rfl, fun j hj => setAt_other _ _ _ _ hj⟩
theorem feedTo_same (g : Geo) (v : Nat) (s : NodeS) : ∀ k, (feedTo g v s k).left = s.left ∧ (feedTo g v s k).from_ = s.from_ ∧ (feedTo g v s k).G = s.G ∧ (feedTo g v s k).A = s.A ∧ (feedTo g v s k).ticks = s.ticks ∧ ∀ j, k ≤ j → (feedTo g v s k).q j = s.q j
  | 0 => ⟨rfl, rfl, rfl, rfl, rfl, fun _ _ => rfl⟩
  | k + 1 => by
    obtain ⟨a1, a2, a3, a4, a5, a6⟩ := feedTo_same g v s k
    obtain ⟨b1, b2, b3, b4, b5, b6⟩ := feedOne_same g v (feedTo g v s k) k
    exact ⟨b1.trans a1, b2.trans a2, b3.trans a3, b4.trans a4, b5.trans a5, fun j hj => (b6 j (by omega)).trans (a6 j (by omega))⟩
theorem feedOne_len (g : Geo) (v : Nat) (s : NodeS) (k j : Nat) : ((feedOne g v s k).q j).length ≤ (s.q j).length := by
  unfold feedOne
  split
  · exact Nat.le_refl _
  · split
    · exact Nat.le_refl _
    · rename_i x r e
      simp only [setAt]
      split
      · rename_i h; subst h; rw [e]; simp
      · exact Nat.le_refl _
theorem feedTo_len (g : Geo) (v : Nat) (s : NodeS) : ∀ (k j : Nat), ((feedTo g v s k).q j).length ≤ (s.q j).length
  | 0, _ => Nat.le_refl _
  | k + 1, j => Nat.le_trans (feedOne_len g v _ k j) (feedTo_len g v s k j)
theorem NodeOk.fed (h : NodeOk g v s c) (h3 : g.ws.length ≤ 3) : NodeOk g v (fedW g v s) c := by
  obtain ⟨a1, a2, a3, a4, a5, a6⟩ := feedTo_same g v s g.ws.length
  unfold fedW
  exact ⟨fun i hi => by rw [a1, a2]; exact h.wheel i hi, fun k hk => by rw [a3]; exact h.G k hk, fun k hk => by rw [a4]; exact h.A k hk,
    fun k hk x hx => h.q k hk x (feedTo_q g v s _ k x hx), fun k hk => by have := feedTo_len g v s g.ws.length k; have := h.wait k hk; omega, by rw [a6 3 h3]; exact h.came⟩
theorem match_fit (h : NodeOk g v s c) : Fit (g.ports v) (matchW g v s) := fit_rounds (fit_start h.G h.A) _
theorem NodeOk.ran (h : NodeOk g v s c) (h3 : g.ws.length ≤ 3) : NodeOk g v (ranW g v s) c := by
  have hf := h.fed h3
  have hm := match_fit hf
  exact ⟨hf.wheel, hm.g, hm.a, hf.q, hf.wait, hf.came⟩
theorem NodeOk.moved (h : NodeOk g v s c) (h3 : g.ws.length ≤ 3) : NodeOk g v (movedW g v s) (c + g.ports v) :=
  (h.ran h3).moves (match_fit (h.fed h3)).hi _
theorem NodeOk.tick (h : NodeOk g v s c) (h3 : g.ws.length ≤ 3) : NodeOk g v (tickS g v s) (c + g.ports v) := by
  have := h.moved h3
  exact ⟨this.wheel, this.G, this.A, this.q, this.wait, this.came⟩
theorem NodeOk.take (h : NodeOk g v s c) (x : Nat) (b : List Int) : NodeOk g v (takeS g v x b s).1 c := by
  unfold takeS
  split
  · exact h
  · split
    · exact h
    · unfold frameS
      split
      · exact h
      · simp only
        split
        · exact ⟨h.wheel, h.G, h.A, h.q, h.wait, h.came⟩
        · split
          · exact ⟨h.wheel, h.G, h.A, h.q, h.wait, h.came⟩
          · split
            · exact h
            · split
              · exact ⟨h.wheel, h.G, h.A, h.q, h.wait, h.came⟩
              · exact h
end
end Go.Proofs.YtebnflpanfmicaaGreatDoor
