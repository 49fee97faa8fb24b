/-
  Part 30 of the proof: TopTickW, TopTakeW.
-/
import Derived.Test.YtebnflpanfmicaaGreatDoorPkBC
import Derived.Test.YtebnflpanfmicaaGreatDoorPkBB
set_option linter.unusedVariables false
set_option linter.unusedSimpArgs false
set_option linter.unusedSectionVars false
namespace Go.Proofs.YtebnflpanfmicaaGreatDoor
open Go.RowKit
section
variable {σ : Sig} {w : World} {o : Nat → Option Cmp} {f v : Nat} {g : Geo} {a : NodeA} {s : NodeS}
theorem Sys.step0 {ι : Type} {A A' : ι → Part} {w w' : World} {o : Nat → Option ι} (h : Sys A w o) (c : ι) (hA : ∀ x, x ≠ c → A' x = A x) (hk : Keeps (fun k => o k = some c) w w') (hB : (A' c).at_ w' (fun k => o k = some c)) : Sys A' w' o ∧ Ext o w o w' := by
  refine ⟨⟨fun x => ?_, fun k x e => Nat.lt_of_lt_of_le (h.lt k x e) hk.size⟩, hk.mono (fun i _ e => by rw [e]; rfl), fun _ _ => rfl⟩
  by_cases hx : x = c
  · subst hx; exact hB
  · rw [hA x hx]
    exact (A x).keeps (h.part x) hk (fun k e1 e2 => by rw [e1] at e2; exact hx (Option.some.inj e2))
theorem SysF.stepArb0 {w' : World} (h : SysF σ w o) (hg : σ.geo f = some g) (hn : σ.node f v = some (a, s)) {G A : Nat → Nat} (hk : Keeps (fun b => b = a.ga ∨ b = a.aa) w w') (hw : Arb w' a.ab (g.ports v) (lst (g.ports v) G) (lst (g.ports v) A) a.ga a.aa) :
    SysF (σ.set f v a { s with G := G, A := A }) w' o ∧ Ext o w o w' := by
  obtain ⟨_, b1, b2, b3⟩ := h.arb hg hn
  have hK : Keeps (fun b => o b = some (.arb f v)) w w' := hk.mono (fun b _ e => by rcases e with rfl | rfl <;> assumption)
  refine Sys.step0 h (.arb f v) (set_arb hn G A) hK ?_
  simp only [Sig.part, Sig.set, hg, and_self, if_true]
  exact ⟨hw, b1, b2, b3, fun b e => Nat.lt_of_lt_of_le (Sys.lt h b _ e) hK.size⟩
theorem SysF.stepTicks (h : SysF σ w o) (hg : σ.geo f = some g) (hn : σ.node f v = some (a, s)) (y : Int) : SysF (σ.set f v a { s with ticks := y }) (w.setCell ⟨a.nb, 16, none⟩ (.int .i64 y)) o ∧ Ext o w o (w.setCell ⟨a.nb, 16, none⟩ (.int .i64 y)) := by
  have N := h.nodeR hg hn
  have hk1 : Keeps (fun b => b = a.nb) w (w.setCell ⟨a.nb, 16, none⟩ (.int .i64 y)) := Keeps.setCell _ _ _ _ rfl
  have hK : Keeps (fun b => o b = some (.node f v)) w (w.setCell ⟨a.nb, 16, none⟩ (.int .i64 y)) := Keeps.setCell _ _ _ _ N.sb
  refine Sys.step0 h (.node f v) (set_node hn y) hK ?_
  simp only [Sig.part, Sig.set, hg, and_self, if_true]
  exact ⟨blk_set N.box 16 _, N.pq.keeps hk1 (fun k e => (N.pown k e).2), fun i h1 h2 => (N.lq i h1 h2).keeps hk1 (fun k e => (N.lown i h1 h2 k e).2), N.l0, N.pown, N.lown, N.sb, fun k e => Nat.lt_of_lt_of_le (Sys.lt h k _ e) hK.size⟩
theorem tellK_ticks (g : Geo) (v : Nat) (s : NodeS) (y : Int) (i : Nat) : ∀ k, tellK g v { s with ticks := y } i k = tellK g v s i k
  | 0 => rfl
  | k + 1 => by rw [tellK, tellK, tellK_ticks g v s y i k]; rfl
theorem exchO_ticks (g : Geo) (v : Nat) (s : NodeS) (y : Int) : ∀ i, exchO g v { s with ticks := y } i = exchO g v s i
  | 0 => rfl
  | i + 1 => by rw [exchO, exchO, exchO_ticks g v s y i, tellK_ticks]
theorem QS.wholeI {w : World} {u : Value} {n : Nat} {cs : List Value} (h : QS w 3 1 u n cs) (hn : 0 < n) : ∃ gb off cap cur, u = .slice (some ⟨gb, off, none⟩) n cap ∧ w.heap[gb]? = some (.cells cur 3 (0, 0)) ∧ ∀ j x, cs[j]? = some x → cur[off + j]? = some x := by
  rcases h.2 with ⟨_, h0⟩ | ⟨g, off, cap, cur, hv, hg, _, _, _, hc⟩
  · omega
  · exact ⟨g, off, cap, cur, hv, hg, fun j x hx => by rw [hc j (List.getElem?_eq_some_iff.1 hx).1]; exact hx⟩
set_option maxRecDepth 100000 in
set_option maxHeartbeats 16000000 in
theorem tick_runs (h : SysF σ w o) (hT : Tab w) (h00 : o 0 = none) (hg : σ.geo f = some g) (hn : σ.node f v = some (a, s)) (hv : v ≤ g.t.length) (hlv : ∀ i, ∃ A n c, a.lv i = .slice A n c) (c : Nat) (hok : NodeOk g v s c) (hc : c ≤ 900000000) (n L : Nat) (hpn : g.ports v = n) (h1 : 1 ≤ n) (h6 : n ≤ 6) (hL : g.ws.length = L) :
    Calls Tryz.prog 65 #[.pointer (some ⟨a.nb, 0, none⟩)] w fun e w' => ∃ A m cap us o', e = .returned (.slice A m cap) ∧ SysF (σ.set f v a (tickS g v s)) w' o' ∧ Ext o w o' w' ∧ OutR w' w.heap.size o' (.slice A m cap) us (tickO g v s) ∧ m = (tickO g v s).length := by
  have hp := h.planS hg
  have hL3 : L ≤ 3 := by have := hp.nums.lanes.2; have := hp.lanes; omega
  have hRd := hp.nums.rounds
  have hEv := hp.nums.every
  have hkX : Keeps (fun _ => False) w (w.alloc (.cells #[.pointer (some ⟨a.nb, 0, none⟩)] 58)) := Keeps.alloc _ _ _
  have hkO : Keeps (fun _ => False) w ((w.alloc (.cells #[.pointer (some ⟨a.nb, 0, none⟩)] 58)).alloc (.cells #[.slice none 0 0] 140)) := hkX.trans (Keeps.alloc _ _ _)
  have hbx := blk_alloc (blk_new w (.cells #[.pointer (some ⟨a.nb, 0, none⟩)] 58)) (.cells #[.slice none 0 0] 140)
  have hbo := blk_new (w.alloc (.cells #[.pointer (some ⟨a.nb, 0, none⟩)] 58)) (.cells #[.slice none 0 0] 140)
  rw [World.size_alloc] at hbo
  have hfx := SysF.fresh h (Nat.le_refl w.heap.size)
  have hfo : o (w.heap.size + 1) = none := SysF.fresh h (Nat.le_succ w.heap.size)
  have hsay : SayV ((w.alloc (.cells #[.pointer (some ⟨a.nb, 0, none⟩)] 58)).alloc (.cells #[.slice none 0 0] 140)) w.heap.size o (w.heap.size + 1) w.heap.size a.nb [] :=
    ⟨_, [], hbo, hbx, ⟨rfl, QS.nil _ _ _, fun k e => (by simp [Value.ownBlock] at e), fun u hu => (by cases hu), fun j u x e => (by simp at e)⟩, ⟨by omega, hfo⟩, ⟨by omega, hfx⟩⟩
  have HSAY := Lib.hid hsay
  have hsO := SysF.calm' h hkO
  have heO := Ext.keeps o hkO
  have HFE := Lib.hid (feed_runs hsO hg hn hv hlv hok.q n L hpn h6 hL)
  have HEO := Lib.hid heO
  have x0 : ((w.alloc (.cells #[.pointer (some ⟨a.nb, 0, none⟩)] 58)).alloc (.cells #[.slice none 0 0] 140)).cell? ⟨w.heap.size, 0, none⟩ = some (.pointer (some ⟨a.nb, 0, none⟩)) := by rw [blk_cell hbx]; rfl
  have HBX := Lib.hid hbx
  obtain ⟨tS, htS⟩ : ∃ x, tickS g v s = x := ⟨_, rfl⟩
  obtain ⟨tO, htO⟩ : ∃ x, tickO g v s = x := ⟨_, rfl⟩
  have HtS := Lib.hid htS
  have HtO := Lib.hid htO
  rw [htS, htO]
  have H := Lib.hid h
  clear h hp hsay hsO heO hbx hbo hkX hkO htS htO
  go_enter Tryz.func65, Tryz.ntmps65
  go_wp2_with fail
  generalize (w.alloc (.cells #[.pointer (some ⟨a.nb, 0, none⟩)] 58)).alloc (.cells #[.slice none 0 0] 140) = O at *
  obtain ⟨ob, hob⟩ : ∃ ob, w.heap.size + 1 = ob := ⟨_, rfl⟩
  obtain ⟨xb, hxb⟩ : ∃ xb, w.heap.size = xb := ⟨_, rfl⟩
  rw [hob, hxb] at HSAY
  rw [hob]
  rw [hxb] at x0 HBX hfx ⊢
  rw [hob] at hfo
  have HXB := Lib.hid hxb
  clear hob hxb
  refine HFE.out.mono ?_
  rintro e F ⟨rfl, o1, hS1, hE1⟩
  have hfd : feedTo g v s L = fedW g v s := by unfold fedW; rw [hL]
  rw [hfd] at hS1
  have hok1 := hok.fed (by omega)
  have hFit := match_fit hok1
  obtain ⟨s1, hs1⟩ : ∃ s1, fedW g v s = s1 := ⟨_, rfl⟩
  have HS1E := Lib.hid hs1
  rw [hs1] at hS1 hok1 hFit
  have hn1 := set_get (σ := σ) f v a s1
  have hT1 := (HEO.out.trans hE1).tab hT h00
  have hbx1 := blk_keeps hE1.1 HBX.out (by rw [hfx]; decide)
  have hfx1 : o1 xb = none := (hE1.2 _ (blk_lt HBX.out)).trans hfx
  have N1 := hS1.nodeR hg hn1
  have c0 : F.cell? ⟨a.nb, 0, none⟩ = some (.pointer (some ⟨a.ab, 0, none⟩)) := by rw [blk_cell N1.box]; rfl
  have c6 : F.cell? ⟨a.nb, 6, none⟩ = some (.int .i64 g.p.rounds) := by rw [blk_cell N1.box]; rfl
  have cx : F.cell? ⟨xb, 0, none⟩ = some (.pointer (some ⟨a.nb, 0, none⟩)) := by rw [blk_cell hbx1]; rfl
  have hnb1 : o1 a.nb = some (.node f v) := N1.sb
  obtain ⟨hA1, b1, b2, b3⟩ := hS1.arb hg hn1
  obtain ⟨R, hRR⟩ : ∃ R : Nat, g.p.rounds = (R : Int) := ⟨g.p.rounds.toNat, by omega⟩
  have hM : matchW g v s1 = roundsP (asks (asksAt s1 L n n 0)) n (start s1.G s1.A) R := by unfold matchW; rw [hL, hpn, hRR]; rfl
  rw [hpn] at hA1 hFit
  have HASK := Lib.hid (p := ∀ U, Keeps (fun _ => False) F U → _) fun U hU => asks_runs (SysF.calm' hS1 hU) hg hn1 n hpn h6
  rw [hL] at HASK
  have HRUN := Lib.hid (p := ∀ U rb, Keeps (fun _ => False) F U → U.heap[rb]? = some (.cells ((asksAt s1 L n n 0).map encU).toArray 23 (0, 0)) → _) fun U rb hU hrb =>
    run_calls s1.G s1.A n a.ab a.ga a.aa R (.slice (some ⟨rb, 0, none⟩) n n) (asksAt s1 L n n 0) h1 (by omega) (by omega) (by omega) U (hT1.1.keeps hU (fun h => h)) (hA1.keeps hU (fun _ _ h => h)) (fun k hk => by have := hok1.G k (by rw [hpn]; exact hk); rw [hpn] at this; exact this) (fun k hk => by have := hok1.A k (by rw [hpn]; exact hk); rw [hpn] at this; exact this)
      (QS.reads (e := 23) ⟨by simp [asksAt_length], .inr ⟨rb, 0, n, _, rfl, hrb, Nat.le_refl _, by simp [maxLen]; omega, by simp [asksAt_length], fun j hj => by simp⟩⟩)
      (fun x hx => by
        obtain ⟨i, hi, rfl⟩ := List.mem_map.1 hx
        have e1 := askTo_lt s1 L i n
        have e2 : 2 ^ n ≤ 2 ^ 6 := Nat.pow_le_pow_right (by decide) h6
        have hi2 : i < n := List.mem_range.1 hi
        split
        · omega
        · omega) (asksAt_length _ _ _ _ _)
  rw [← hM] at HRUN
  obtain ⟨M, hMM⟩ : ∃ M, matchW g v s1 = M := ⟨_, rfl⟩
  rw [hMM] at HRUN hFit
  have HMM := Lib.hid hMM
  clear hMM
  have HSS := Lib.hid (p := ∀ (P : Nat → Prop) Z, Keeps P F Z → ¬ P xb → ¬ P a.nb → Z.cell? ⟨xb, 0, none⟩ = some (.pointer (some ⟨a.nb, 0, none⟩)) ∧ Z.cell? ⟨a.nb, 0, none⟩ = some (.pointer (some ⟨a.ab, 0, none⟩)) ∧ Z.cell? ⟨a.nb, 6, none⟩ = some (.int .i64 R)) fun P Z hZ h1 h2 => ⟨hZ.cell cx h1, hZ.cell c0 h2, by rw [← hRR]; exact hZ.cell c6 h2⟩
  have hdF : Keeps (fun _ => False) F F.drew := Keeps.drew _ _
  have hsd := HSS.out _ _ hdF (fun h => h) (fun h => h)
  have hP1 : ¬ (fun k => k = a.ga ∨ k = a.aa) xb := fun h => by rcases h with h | h <;> rw [h] at hfx1 <;> simp_all
  have hP2 : ¬ (fun k => k = a.ga ∨ k = a.aa) a.nb := fun h => by rcases h with h | h <;> rw [h] at hnb1 <;> simp_all
  have HS1 := Lib.hid hS1
  have HE1 := Lib.hid (HEO.out.trans hE1)
  have HSAY1 := Lib.hid (HSAY.out.ext hE1)
  have HOK := Lib.hid hok1
  have HFIT := Lib.hid hFit
  have HX := Lib.hid cx
  clear hfd hs1 hS1 hE1 hok1 hFit hbx1 N1 c0 c6 cx hA1 hM hRR HSAY HFE HEO hT1 x0
  go_wp2_with fail
  go_region_held3 (fun Z => Z.cell? ⟨xb, 0, none⟩ = some (.pointer (some ⟨a.nb, 0, none⟩)) ∧ Z.cell? ⟨a.nb, 0, none⟩ = some (.pointer (some ⟨a.ab, 0, none⟩)) ∧ Z.cell? ⟨a.nb, 6, none⟩ = some (.int .i64 R))
    (with_reducible first | exact hsd | exact hsW | exact hsZ | go_keep)
    (first
      | (go_at_call 127; refine (HASK.out _ hdF).mono ?_; rintro e W ⟨rb, rfl, hrb, hW, hrs⟩; have hFW := hdF.trans hW; have hsW := HSS.out _ _ hFW (fun h => h) (fun h => h))
      | (go_at_call 126; refine (HRUN.out _ rb hFW hrb).mono ?_; rintro e Z ⟨u, rfl, hu, hAr, hZ, hun⟩; obtain ⟨gb, off, cap, cur, rfl, hgb, hcur⟩ := hu.wholeI (by omega); have hsZ := HSS.out _ _ ((hFW.mono (fun _ _ h => h.elim)).trans hZ) hP1 hP2))
  rw [← hpn] at hAr
  obtain ⟨hS2, hE2⟩ := SysF.stepArb0 (SysF.calm' HS1.out hFW) hg hn1 hZ hAr
  rw [set_set] at hS2
  have hE2' := (Ext.keeps o1 hFW).trans hE2
  have hgn : o1 gb = none := SysF.fresh (SysF.calm' HS1.out hFW) (hun gb rfl)
  have HSZ : Hid (Saying (σ.set f v a { s1 with G := M.G, A := M.A }) w o Z o1 ob xb gb cur a.nb []) := Lib.hid ⟨hS2, HE1.out.trans hE2', by rw [HXB.out]; exact HSAY1.out.ext hE2', hgb, hgn⟩
  have hran : ranW g v s = { s1 with G := M.G, A := M.A } := by unfold ranW; rw [HS1E.out, HMM.out]
  obtain ⟨sR, hsR⟩ : ∃ sR, sR = { s1 with G := M.G, A := M.A } := ⟨_, rfl⟩
  rw [← hsR] at hran HSZ
  have hmoved : movedW g v s = movesS g M.m sR n := by unfold movedW; rw [HS1E.out, HMM.out, hran, hpn]
  have htick : tickS g v s = { movesS g M.m sR n with ticks := wrap64 ((movesS g M.m sR n).ticks + 1) } := by unfold tickS; rw [hmoved]
  have htickO : tickO g v s = movesO g v M.m sR n ++ (if Int.tmod (wrap64 ((movesS g M.m sR n).ticks + 1)) g.p.every = 0 then exchO g v (movesS g M.m sR n) n else []) := by
    unfold tickO; rw [HS1E.out, HMM.out, hran, htick, hmoved, hpn]
  rw [HtS.out] at htick
  rw [HtO.out] at htickO
  have HTK := Lib.hid htick
  have HTO := Lib.hid htickO
  have HNO := Lib.hid (p := ∀ i, NodeOk g v (movesS g M.m sR i) (c + i)) (by
    have h2 := hok.ran (by omega : g.ws.length ≤ 3)
    rw [hran] at h2
    exact h2.moves (fun i => by rw [hpn]; exact HFIT.out.hi i))
  have HMC := Lib.hid (p := ∀ j, j < n → cur[off + j]? = some (.int .i64 (M.m j))) fun j hj => hcur j _ (by rw [List.getElem?_map]; unfold lst; rw [List.getElem?_map, List.getElem?_range hj]; rfl)
  clear hS2 hE2 hE2' hgn hu hAr hZ hun hgb hcur hrb hW hrs hFW hsW hsZ hsd hdF HASK HRUN HSS HS1 HE1 HSAY1 hran hsR hmoved htick htickO
  go_wp2_with fail
  go_loopw [23] (fun c wr => ∃ (i : Nat) (o' : Nat → Option Cmp), i ≤ n ∧ c = .int .i64 (i : Int) ∧ Saying (σ.set f v a (movesS g M.m sR i)) w o wr o' ob xb gb cur a.nb (movesO g v M.m sR i)) (fun c _ => n - (intOf c).toNat)
  case atStart => exact ⟨0, _, Nat.zero_le _, rfl, HSZ.out⟩
  case round =>
    obtain ⟨i, o', hi, rfl, hS⟩ := hrel
    by_cases hin : i < n
    · have hii : (i : Int) < (n : Int) := by omega
      have hi0 : (0 : Int) ≤ (i : Int) := by omega
      have cm : wr.cell? ⟨gb, off + i, none⟩ = some (.int .i64 (M.m i)) := by rw [blk_cell hS.mat.1]; exact HMC.out i hin
      obtain ⟨vv, us, hsy⟩ := hS.say
      have cx : wr.cell? ⟨xb, 0, none⟩ = some (.pointer (some ⟨a.nb, 0, none⟩)) := by rw [blk_cell hsy.nbx]; rfl
      have HS := Lib.hid hS
      clear hsy hS
      by_cases hm0 : 0 ≤ M.m i
      · obtain ⟨t, ht⟩ : ∃ t : Nat, M.m i = (t : Int) := ⟨(M.m i).toNat, by omega⟩
        have htn : t < n := by have := HFIT.out.hi i; omega
        have hmS : movesS g M.m sR (i + 1) = moveS g i t (movesS g M.m sR i) := by
          show (if 0 ≤ M.m i then _ else _) = _
          rw [if_pos hm0, ht]; rfl
        have hmO : movesO g v M.m sR (i + 1) = movesO g v M.m sR i ++ moveO g v i t (movesS g M.m sR i) := by
          show (if 0 ≤ M.m i then _ else _) = _
          rw [if_pos hm0, ht]; rfl
        have hlen := movesO_length g v M.m sR i
        have hno := HNO.out i
        have HMV := Lib.hid (move_runs HS.out hT h00 hg (set_get (σ := σ) f v a (movesS g M.m sR i)) hlv i t (by rw [hpn]; exact hin) (by rw [hpn]; exact htn) (hno.wheel t (by rw [hpn]; exact htn)) (by have := hno.came; omega) (by omega) L n hL hpn)
        rw [← hmS, ← hmO, set_set] at HMV
        have HT1 := Lib.hid ht
        rw [ht] at cm
        have hm1 : ¬ (t : Int) < 0 := by omega
        have hm2 : (0 : Int) ≤ (t : Int) := by omega
        clear hmS hmO hno ht hm0 hlen
        go_wp2_with fail
        refine HMV.out.mono ?_
        rintro e V ⟨rfl, o2, hV⟩
        have HV := Lib.hid hV
        clear hV HMV cm cx
        go_wp2_with fail
        go_roundw
        case rel => exact ⟨i + 1, o2, by omega, by go_num, HV.out⟩
        case measure => simp [intOf]; omega
      · have hmS : movesS g M.m sR (i + 1) = movesS g M.m sR i := if_neg hm0
        have hmO : movesO g v M.m sR (i + 1) = movesO g v M.m sR i := if_neg hm0
        have HMS := Lib.hid hmS
        have HMO := Lib.hid hmO
        clear hmS hmO
        go_wp2_with fail
        go_roundw
        case rel => exact ⟨i + 1, o', by omega, by go_num, by rw [HMS.out, HMO.out]; exact HS.out⟩
        case measure => simp [intOf]; omega
    · obtain rfl : i = n := by omega
      have hii : ¬ ((i : Int) < (i : Int)) := by omega
      obtain ⟨vv, us, hsy⟩ := hS.say
      have cx : wr.cell? ⟨xb, 0, none⟩ = some (.pointer (some ⟨a.nb, 0, none⟩)) := by rw [blk_cell hsy.nbx]; rfl
      obtain ⟨oM, hoM⟩ : ∃ oM, movesO g v M.m sR i = oM := ⟨_, rfl⟩
      have HOM := Lib.hid hoM
      rw [hoM] at hS HTO
      clear hoM
      generalize movesS g M.m sR i = sM at *
      have hnM := set_get (σ := σ) f v a sM
      have N := hS.sys.nodeR hg hnM
      have c16 : wr.cell? ⟨a.nb, 16, none⟩ = some (.int .i64 sM.ticks) := by rw [blk_cell N.box]; rfl
      have f16 : wr.frozen? ⟨a.nb, 16, none⟩ = false := blk_frozen N.box 16
      have hst := SysF.stepTicks hS.sys hg hnM (wrap64 (sM.ticks + 1))
      rw [set_set] at hst
      have hSY := hS.step hst.1 hst.2
      obtain ⟨sY, hsY⟩ : ∃ sY, sY = { sM with ticks := wrap64 (sM.ticks + 1) } := ⟨_, rfl⟩
      rw [← hsY] at hSY
      have HSYE := Lib.hid hsY
      obtain ⟨T, hTT⟩ : ∃ T, wrap64 (sM.ticks + 1) = T := ⟨_, rfl⟩
      rw [hTT] at hSY hsY
      have HTT := Lib.hid hTT
      have HSYE := Lib.hid hsY
      have htk : sY.ticks = T := by rw [hsY]
      have hnY := set_get (σ := σ) f v a sY
      have N2 := hSY.sys.nodeR hg hnY
      obtain ⟨vv2, us2, hsy2⟩ := hSY.say
      have d16 : (wr.setCell ⟨a.nb, 16, none⟩ (.int .i64 T)).cell? ⟨a.nb, 16, none⟩ = some (.int .i64 T) := by rw [blk_cell N2.box, htk]; rfl
      have d7 : (wr.setCell ⟨a.nb, 16, none⟩ (.int .i64 T)).cell? ⟨a.nb, 7, none⟩ = some (.int .i64 g.p.every) := by rw [blk_cell N2.box]; rfl
      have dx : (wr.setCell ⟨a.nb, 16, none⟩ (.int .i64 T)).cell? ⟨xb, 0, none⟩ = some (.pointer (some ⟨a.nb, 0, none⟩)) := by rw [blk_cell hsy2.nbx]; rfl
      have HSY := Lib.hid hSY
      clear hsY hSY hst hS hsy N hnM htk N2 hsy2
      go_wp2_with fail
      generalize wr.setCell ⟨a.nb, 16, none⟩ (.int .i64 T) = Y at *
      have he0 : (g.p.every == 0) = false := by rw [beq_eq_false_iff_ne]; omega
      have he1 : ¬ g.p.every = 0 := by omega
      go_quiet (fail)
      have hSQ := HSY.out.calm (Keeps.drewN (fun _ => False) Y nq)
      have hSt : sY = tS := by rw [HTK.out, HSYE.out, HTT.out]
      have hOt : tO = oM ++ (if Int.tmod T g.p.every = 0 then exchO g v sY i else []) := by rw [HTO.out, HTT.out, HSYE.out]; have e := exchO_ticks g v sM T i; rw [e]
      have HST := Lib.hid hSt
      have hol : oM.length ≤ i := by rw [← HOM.out]; exact movesO_length g v M.m sR i
      have hnY2 := set_get (σ := σ) f v a sY
      have HEX := Lib.hid (exchange_runs hSQ hg hnY2 hlv (by omega) L i hL hpn h6)
      obtain ⟨vq, uq, hsq⟩ := hSQ.say
      have ex : (Y.drewN nq).cell? ⟨xb, 0, none⟩ = some (.pointer (some ⟨a.nb, 0, none⟩)) := by rw [blk_cell hsq.nbx]; rfl
      have HSQ := Lib.hid hSQ
      have HOT := Lib.hid hOt
      clear hSt hOt hsq hSQ HSY d16 d7 dx hol hnY2
      generalize Y.drewN nq = Z at *
      by_cases hz : Int.tmod T g.p.every = 0
      · have hz1 : (Int.tmod T g.p.every == 0) = true := by rw [hz]; rfl
        have e1 := HOT.out
        rw [if_pos hz] at e1
        have HOT2 := Lib.hid e1
        clear e1 HOT
        go_wp2_with fail
        refine HEX.out.mono ?_
        rintro e V ⟨rfl, hV⟩
        rw [← HOT2.out] at hV
        obtain ⟨vq, uq, hsq⟩ := hV.say
        obtain ⟨A, cap, hvq, _, _⟩ := hsq.out.row.shape
        have co : V.cell? ⟨ob, 0, none⟩ = some (.slice A tO.length cap) := by rw [blk_cell hsq.box, ← hvq]; rfl
        have HV := Lib.hid hV
        have HO := Lib.hid hsq.out
        have HVQ := Lib.hid hvq
        clear hV hsq hvq HEX ex HSQ
        go_wp2_with fail
        go_ret
        exact ⟨A, tO.length, cap, uq, o', rfl, by rw [← HST.out]; exact HV.out.sys, HV.out.ext, by rw [← HVQ.out]; exact HO.out, rfl⟩
      · have hz1 : (Int.tmod T g.p.every == 0) = false := by rw [beq_eq_false_iff_ne]; exact hz
        have e1 := HOT.out
        rw [if_neg hz, List.append_nil] at e1
        have hV := HSQ.out
        rw [← e1] at hV
        obtain ⟨vq, uq, hsq⟩ := hV.say
        obtain ⟨A, cap, hvq, _, _⟩ := hsq.out.row.shape
        have co : Z.cell? ⟨ob, 0, none⟩ = some (.slice A tO.length cap) := by rw [blk_cell hsq.box, ← hvq]; rfl
        have HV := Lib.hid hV
        have HO := Lib.hid hsq.out
        have HVQ := Lib.hid hvq
        clear hV hsq hvq HEX ex HSQ e1 HOT
        go_wp2_with fail
        go_ret
        exact ⟨A, tO.length, cap, uq, o', rfl, by rw [← HST.out]; exact HV.out.sys, HV.out.ext, by rw [← HVQ.out]; exact HO.out, rfl⟩
end
end Go.Proofs.YtebnflpanfmicaaGreatDoor
namespace Go.Proofs.YtebnflpanfmicaaGreatDoor
open Go.RowKit
def Bytes (l : List Int) : Prop := ∀ x ∈ l, 0 ≤ x ∧ x ≤ 255
theorem Bytes.getD {l : List Int} (h : Bytes l) (i : Nat) : 0 ≤ l.getD i 0 ∧ l.getD i 0 ≤ 255 := by
  rw [List.getD_eq_getElem?_getD]
  cases e : l[i]? with
  | none => simp
  | some x => exact h x (List.mem_of_getElem? e)
theorem decF_ok {l : List Int} (hl : Bytes l) (h : (decF l).2 = 0) : soundF (decF l).1 ∧ (0 ≤ (decF l).1.kind ∧ (decF l).1.kind ≤ 255) ∧ (0 ≤ (decF l).1.lane ∧ (decF l).1.lane ≤ 255) ∧ (0 ≤ (decF l).1.src ∧ (decF l).1.src ≤ 255) ∧ (0 ≤ (decF l).1.dst ∧ (decF l).1.dst ≤ 255) := by
  unfold decF at h ⊢
  split at h
  · rename_i hg
    rw [if_pos hg]
    unfold decE at h
    simp only at h ⊢
    split at h
    · rename_i hs
      unfold decV
      rw [if_pos hs]
      refine ⟨hs, ?_⟩
      unfold frameOf
      split
      · exact ⟨hl.getD 0, hl.getD 1, hl.getD 4, hl.getD 5⟩
      · exact ⟨hl.getD 0, hl.getD 1, by simp, by simp⟩
    · cases h
  · cases h
section
variable {σ : Sig} {w : World} {o : Nat → Option Cmp} {f v : Nat} {g : Geo} {a : NodeA} {s : NodeS}
set_option maxRecDepth 100000 in
set_option maxHeartbeats 16000000 in
theorem take_runs' (h : SysF σ w o) (hg : σ.geo f = some g) (hn : σ.node f v = some (a, s)) (hv : v ≤ g.t.length) (hlv : ∀ i, ∃ A n c, a.lv i = .slice A n c) (x : Nat) (u : Value) (b : List Int) (hb : Byt w u b) (hby : Bytes b) (n L : Nat) (hpn : g.ports v = n + 1) (hn1 : 1 ≤ n) (hL : g.ws.length = L) (h6 : n ≤ 5) :
    Calls Tryz.prog 61 #[.pointer (some ⟨a.nb, 0, none⟩), .int .i64 x, u] w fun e w' => e = .returned (.int .u16 (takeS g v x b s).2) ∧ ∃ o', SysF (σ.set f v a (takeS g v x b s).1) w' o' ∧ Ext o w o' w' := by
  have N := h.nodeR hg hn
  obtain ⟨gp, op, cp, epv, hcp, cpp, _⟩ := N.pq.cell (by omega)
  have cpv : w.cell? ⟨a.nb, 13, none⟩ = some a.pv := by rw [blk_cell N.box]; rfl
  have hpq := N.pq
  rw [epv, hpn] at hpq
  rw [epv, hpn] at cpv
  rw [hpn] at hcp
  obtain ⟨cq, rfl⟩ : ∃ cq, cp = cq + 1 := ⟨cp - 1, by omega⟩
  have hcq : ¬ cq = 0 := by omega
  have hdr := hpq.drop 1 (by omega)
  have hpl : (portsFrom a 0 (tos g.t v)).drop (1 * 3) = portsFrom a 1 (nb g.t v) := rfl
  rw [hpl] at hdr
  have hnbl : (nb g.t v).length = n := by have : g.ports v = (nb g.t v).length + 1 := rfl; omega
  have hIX : Hid (∀ U xb, Keeps (fun _ => False) w U → U.cell? ⟨xb, 0, none⟩ = some (.int .i64 (x : Int)) → _) := Lib.hid fun U xb hU hx => indexK_runs a hlv 1 (nb g.t v) n hnbl (some ⟨gp, op + 1 * 3, none⟩) cq xb x U (hdr.keeps hU (fun _ _ h => h)) (by omega) hx
  have hif : (if cq = 0 then (some ⟨gp, op, none⟩ : Option Addr) else some ⟨gp, op + 3, none⟩) = some ⟨gp, op + 1 * 3, none⟩ := if_neg hcq
  obtain ⟨hi1, hi2⟩ := idxI_le (nb g.t v) x
  rw [hnbl] at hi1
  have h0 : SysF (σ.set f v a s) w o := by rw [set_self hn]; exact h
  have H := Lib.hid h0
  have HB := Lib.hid hb
  obtain ⟨uA, uc, hu, _⟩ := hb
  subst hu
  have hwx : IntKind.i64.wrap (idxI (nb g.t v) x + 1) = idxI (nb g.t v) x + 1 := by simp [IntKind.wrap, IntKind.bits, IntKind.signed]; omega
  have hb1 : ¬ ((n : Int) + 1) < 1 := by omega
  have hb2 : (1 : Int) ≤ (n : Int) + 1 := by omega
  have hb3 : (1 : Int) ≤ ((n + 1 : Nat) : Int) := by omega
  have hb4 : ((n + 1 : Nat) : Int) ≤ ((cq + 1 : Nat) : Int) := by omega
  have hkX : Keeps (fun _ => False) w (w.alloc (.cells #[.int .i64 (x : Int)] 3)) := Keeps.alloc _ _ _
  have hxX : (w.alloc (.cells #[.int .i64 (x : Int)] 3)).cell? ⟨w.heap.size, 0, none⟩ = some (.int .i64 (x : Int)) := by have := blk_cell (blk_new w (.cells #[.int .i64 (x : Int)] 3)) 0; exact this
  have dpv := hkX.cell cpv (fun h => h)
  have HIX := Lib.hid (hIX.out _ _ hkX hxX)
  have HKX := Lib.hid hkX
  obtain ⟨ts, hts⟩ : ∃ ts, takeS g v x b s = ts := ⟨_, rfl⟩
  have hts2 := hts
  unfold takeS at hts2
  have HTS := Lib.hid hts2
  rw [hts]
  clear hts hts2 h h0 N hpq hdr hpl hkX cpp hIX epv cpv hxX
  generalize idxI (nb g.t v) x = ix at *
  go_enter Tryz.func61, Tryz.ntmps61
  go_wp2_with fail
  generalize w.alloc (.cells #[.int .i64 (x : Int)] 3) = X at *
  generalize w.heap.size = xb at *
  refine HIX.out.mono ?_
  rintro e U ⟨rfl, hU⟩
  have HKU := Lib.hid (HKX.out.trans hU)
  clear hU HIX HKX dpv
  have hSU := SysF.calm' H.out HKU.out
  have hEU := Ext.keeps o HKU.out
  have hbU := HB.out.keeps HKU.out (fun _ _ h => h)
  have HSU := Lib.hid hSU
  have HEU := Lib.hid hEU
  have HBU := Lib.hid hbU
  clear hSU hEU hbU H HB HKU
  by_cases hi0 : ix < 0
  · obtain rfl : ix = -1 := by omega
    have e1 : (s, (1 : Int)) = ts := by have := HTS.out; rw [if_pos (by omega)] at this; exact this
    subst e1
    have hb0 : ((-1 : Int) + 1 == 0) = true := by decide
    clear HTS
    go_wp2_with fail
    go_ret
    exact ⟨rfl, o, HSU.out, HEU.out⟩
  · obtain ⟨j, rfl⟩ : ∃ j : Nat, ix = (j : Int) := ⟨ix.toNat, by omega⟩
    have e1 := HTS.out
    rw [if_neg hi0] at e1
    have HT2 := Lib.hid e1
    clear e1 HTS
    have hb0 : (((j : Int) + 1) == 0) = false := by rw [beq_eq_false_iff_ne]; omega
    have HDC := Lib.hid (decode_runs _ b U HBU.out)
    obtain ⟨D, hD⟩ : ∃ D, decF b = D := ⟨_, rfl⟩
    have hok : D.2 = 0 → _ := fun e => decF_ok hby (by rw [hD]; exact e)
    rw [hD] at HDC HT2 hok
    obtain ⟨fr, ec⟩ := D
    simp only at HDC HT2 hok
    have HOK := Lib.hid hok
    clear hok hD
    obtain ⟨f0, f1, f2, f3, f4, f5⟩ := fr
    go_wp2_with fail
    refine HDC.out.mono ?_
    rintro e V ⟨rfl, hV⟩
    have HSV := Lib.hid (SysF.calm' HSU.out hV)
    have HEV := Lib.hid (HEU.out.trans (Ext.keeps o hV))
    clear hV HDC HSU HEU
    by_cases hec : ec = 0
    case neg =>
      have hb1 : (ec == 0) = false := by rw [beq_eq_false_iff_ne]; exact hec
      have hb2 : (ec != 0) = true := by rw [bne, hb1]; rfl
      have e1 : (s, ec) = ts := by have := HT2.out; rw [if_pos hec] at this; exact this
      subst e1
      clear HT2 hec
      go_wp2_with fail
      go_ret
      have hkA : Keeps (fun _ => False) V (V.alloc (.cells #[.int .u8 f0, .int .u8 f1, .int .u16 f2, .int .u8 f3, .int .u8 f4, .int .u32 f5] 210)) := Keeps.alloc _ _ _
      exact ⟨rfl, o, SysF.calm' HSV.out hkA, HEV.out.trans (Ext.keeps o hkA)⟩
    case pos =>
      subst hec
      obtain ⟨hso, hr0, hr1, hr3, hr4⟩ := HOK.out rfl
      have e1 := HT2.out
      rw [if_neg (by simp)] at e1
      have HT3 := Lib.hid e1
      have HSO := Lib.hid hso
      clear e1 HT2 HOK hso
      have hkA : Keeps (fun _ => False) V (V.alloc (.cells #[.int .u8 f0, .int .u8 f1, .int .u16 f2, .int .u8 f3, .int .u8 f4, .int .u32 f5] 210)) := Keeps.alloc _ _ _
      have hbX := blk_new V (.cells #[.int .u8 f0, .int .u8 f1, .int .u16 f2, .int .u8 f3, .int .u8 f4, .int .u32 f5] 210)
      have HSX := Lib.hid (SysF.calm' HSV.out hkA)
      have HEX := Lib.hid (HEV.out.trans (Ext.keeps o hkA))
      have HFX := Lib.hid hbX
      have hfr := SysF.fresh HSV.out (Nat.le_refl V.heap.size)
      have z1 := blk_cell hbX 1
      simp only [List.getElem?_toArray, List.getElem?_cons_zero, List.getElem?_cons_succ] at z1
      clear hkA HSV HEV hbX
      have w1 : IntKind.i64.wrap f1 = f1 := by simp [IntKind.wrap, IntKind.bits, IntKind.signed]; omega
      have hb1 : ((0 : Int) == 0) = true := rfl
      have hb2 : ((0 : Int) != 0) = false := rfl
      have hnk := set_get (σ := σ) f v a s
      have N := HSX.out.nodeR hg hnk
      have P := HSX.out.planS hg
      have hij : 1 ≤ j + 1 ∧ j + 1 < g.ports v := ⟨by omega, by omega⟩
      unfold frameS at HT3
      simp only [hL, show ((j : Int) + 1).toNat = j + 1 by omega] at HT3
      by_cases hln : (L : Int) ≤ f1
      · have e1 : (s, (30 : Int)) = ts := by have := HT3.out; rw [if_pos hln] at this; exact this
        subst e1
        have hen := ends_no N P.lanes ((j + 1 : Nat) : Int) f1 (.inr (.inr (.inr (by rw [hL]; exact hln))))
        rw [show ((j + 1 : Nat) : Int) = (j : Int) + 1 by omega] at hen
        have HEN := Lib.hid hen
        clear HT3 N P hnk hen
        go_wp2_with fail
        refine HEN.out.mono ?_
        rintro e W ⟨rfl, hW⟩
        have HSW := Lib.hid (SysF.calm' HSX.out hW)
        have HEW := Lib.hid (HEX.out.trans (Ext.keeps o hW))
        clear hW HEN HSX HEX z1
        go_wp2_with fail
        go_ret
        have hkA : Keeps (fun _ => False) W (W.alloc (.cells #[.pointer none, .pointer none] 172)) := Keeps.alloc _ _ _
        exact ⟨rfl, o, SysF.calm' HSW.out hkA, HEW.out.trans (Ext.keeps o hkA)⟩
      · obtain ⟨k, rfl⟩ : ∃ k : Nat, f1 = (k : Int) := ⟨f1.toNat, by omega⟩
        have e1 := HT3.out
        rw [if_neg hln] at e1
        simp only [Int.toNat_natCast] at e1
        have HT4 := Lib.hid e1
        have hkL : k < g.ws.length := by omega
        have hen := ends_ok N P.lanes (j + 1) k hij.1 hij.2 hkL
        rw [show ((j + 1 : Nat) : Int) = (j : Int) + 1 by omega] at hen
        have HEN := Lib.hid hen
        clear e1 HT3 N P hnk hen
        go_wp2_with fail
        refine HEN.out.mono ?_
        rintro e W ⟨rfl, hW⟩
        have hkA : Keeps (fun _ => False) W (W.alloc (.cells #[.pointer (some ⟨a.sb (j + 1) k, 0, none⟩), .pointer (some ⟨a.cb (j + 1) k, 0, none⟩)] 172)) := Keeps.alloc _ _ _
        have hbF := blk_keeps (hW.trans hkA) HFX.out (fun h => h)
        have hbL := blk_new W (.cells #[.pointer (some ⟨a.sb (j + 1) k, 0, none⟩), .pointer (some ⟨a.cb (j + 1) k, 0, none⟩)] 172)
        have HSY := Lib.hid (SysF.calm' HSX.out (hW.trans hkA))
        have HEY := Lib.hid (HEX.out.trans (Ext.keeps o (hW.trans hkA)))
        have y0 := blk_cell hbF 0
        have y1 := blk_cell hbF 1
        have y2 := blk_cell hbF 2
        have y3 := blk_cell hbF 3
        have y4 := blk_cell hbF 4
        have y5 := blk_cell hbF 5
        have l0 := blk_cell hbL 0
        have l1 := blk_cell hbL 1
        simp only [List.getElem?_toArray, List.getElem?_cons_zero, List.getElem?_cons_succ] at y0 y1 y2 y3 y4 y5 l0 l1
        have hns := set_get (σ := σ) f v a s
        clear hW hkA hbF hbL HEN HSX HEX z1 HFX
        by_cases h2 : f0 = 2
        · subst h2
          have e1 := HT4.out
          rw [if_pos rfl] at e1
          subst e1
          have HC := Lib.hid (chear_runs _ _ _ f2 _ (HSY.out.sendAt hg hns hij.1 hij.2 hkL).1)
          clear HT4
          go_wp2_with fail
          refine HC.out.mono ?_
          rintro e T ⟨⟨rb, rfl⟩, hT, hST⟩
          obtain ⟨o1, hS1, hE1⟩ := SysF.stepSnd HSY.out hg hns hij.1 hij.2 hkL hT hST
          rw [set_set] at hS1
          have HS1 := Lib.hid hS1
          have HE1 := Lib.hid (HEY.out.trans hE1)
          clear hT hST hS1 hE1 HC HSY HEY y0 y1 y2 y3 y4 y5 l0 l1
          go_wp2_with fail
          go_ret
          exact ⟨rfl, o1, HS1.out, HE1.out⟩
        · by_cases h3 : f0 = 3
          · subst h3
            have e1 := HT4.out
            rw [if_neg (by decide), if_pos rfl] at e1
            subst e1
            have HC := Lib.hid (rhear_runs _ _ _ _ f2 _ (HSY.out.recvAt hg hns hij.1 hij.2 hkL).1)
            clear HT4 h2
            go_wp2_with fail
            refine HC.out.mono ?_
            rintro e T ⟨⟨rb, rfl⟩, hT, hRT⟩
            obtain ⟨o1, hS1, hE1⟩ := SysF.stepRcv HSY.out hg hns hij.1 hij.2 hkL hT hRT
            rw [set_set] at hS1
            have HS1 := Lib.hid hS1
            have HE1 := Lib.hid (HEY.out.trans hE1)
            clear hT hRT hS1 hE1 HC HSY HEY y0 y1 y2 y3 y4 y5 l0 l1
            go_wp2_with fail
            go_ret
            exact ⟨rfl, o1, HS1.out, HE1.out⟩
          · have h1 : f0 = 1 := by
              rcases HSO.out with h | h
              · exact h.1
              · rcases h.1 with h | h
                · exact absurd h h2
                · exact absurd h h3
            subst h1
            have hsd : max f3 f4 < 6 := by
              rcases HSO.out with h | h
              · exact h.2.2.1
              · rcases h.1 with h | h <;> cases h
            have e1 := HT4.out
            rw [if_neg h2, if_neg h3] at e1
            have HDT : Hid (Calls Tryz.prog 122 #[.pointer (some ⟨a.nb, 0, none⟩), .int .i64 ((j : Int) + 1), lanePtrs a (j + 1) k, Frm.val ⟨1, (k : Int), f2, f3, f4, f5⟩] (W.alloc (.cells #[.pointer (some ⟨a.sb (j + 1) k, 0, none⟩), .pointer (some ⟨a.cb (j + 1) k, 0, none⟩)] 172)) fun e w' => e = .returned (.int .u16 ts.2) ∧ ∃ o', SysF (σ.set f v a ts.1) w' o' ∧ Ext o (W.alloc (.cells #[.pointer (some ⟨a.sb (j + 1) k, 0, none⟩), .pointer (some ⟨a.cb (j + 1) k, 0, none⟩)] 172)) o' w') := Lib.hid (by
              have hcast : ((j + 1 : Nat) : Int) = (j : Int) + 1 := by omega
              by_cases hfar : (g.t.length : Int) + 1 ≤ max f3 f4
              · rw [if_pos hfar] at e1
                subst e1
                have hd := data_far (HSY.out.nodeR hg hns) (j + 1) k ⟨1, (k : Int), f2, f3, f4, f5⟩ hr3 hr4 hfar
                rw [hcast] at hd
                refine hd.mono ?_
                rintro e w' ⟨rfl, hk⟩
                exact ⟨rfl, o, SysF.calm' HSY.out hk, Ext.keeps o hk⟩
              · rw [if_neg hfar] at e1
                by_cases hc : comeE (s.next (j + 1) k) (s.held (j + 1) k) g.p.room f2 = 0
                · rw [if_pos hc] at e1
                  subst e1
                  have hd := data_ok HSY.out hg hns hv hlv (j + 1) k hij.1 hij.2 hkL ⟨1, (k : Int), f2, f3, f4, f5⟩ f4.toNat (by simp only; omega) (by omega) (by simp only; omega) rfl hc
                  rw [hcast, set_set] at hd
                  exact hd
                · rw [if_neg hc] at e1
                  subst e1
                  have hd := data_no (HSY.out.nodeR hg hns) (j + 1) k _ _ _ (HSY.out.recvAt hg hns hij.1 hij.2 hkL).1 ⟨1, (k : Int), f2, f3, f4, f5⟩ hr3 hr4 (by simp only; omega) _ rfl hc
                  rw [hcast] at hd
                  refine hd.mono ?_
                  rintro e w' ⟨rfl, hk⟩
                  exact ⟨rfl, o, SysF.calm' HSY.out hk, Ext.keeps o hk⟩)
            unfold lanePtrs Frm.val at HDT
            simp only at HDT
            clear HT4 h2 h3 e1 HSY
            go_wp2_with fail
            refine HDT.out.mono ?_
            rintro e T ⟨rfl, o1, hS1, hE1⟩
            have HS1 := Lib.hid hS1
            have HE1 := Lib.hid (HEY.out.trans hE1)
            clear hS1 hE1 HDT HEY y0 y1 y2 y3 y4 y5 l0 l1
            go_wp2_with fail
            go_ret
            exact ⟨rfl, o1, HS1.out, HE1.out⟩
end
end Go.Proofs.YtebnflpanfmicaaGreatDoor
