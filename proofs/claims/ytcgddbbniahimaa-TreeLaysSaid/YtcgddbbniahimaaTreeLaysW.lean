/-
  The law TreeLays, walked.
-/
import Derived.Test.YtcgddbbniahimaaTreeLayAny
set_option linter.unusedVariables false
set_option linter.unusedSimpArgs false
namespace Go.Proofs.Ytcgddbbniahimaa
open Go.RowKit

/-- A plan that a law is told. -/
def PlanArg (W : World) (v : Value) : Prop :=
  ∃ (q : Nums) (n0 : Int) (Ea Wa Na : Option Addr) (en ec wc nc : Nat) (ws : List Int) (vs : List Value), v = .agg (q.plan n0 (.slice Ea en ec) (.slice Wa ws.length wc) (.slice Na vs.length nc)) ∧
    Reads W W.heap.size 1 (.slice Wa ws.length wc) ws.length (ws.map encZ) ∧ ws.length * 8 ≤ 140737488355328 ∧ Reads W W.heap.size 1 (.slice Na vs.length nc) vs.length vs ∧ ∀ y ∈ vs, ∃ A l c, y = .slice A l c

set_option maxRecDepth 100000 in
set_option maxHeartbeats 16000000 in
theorem treeLays_walk (v0 v1 v2 : Value) (W : World) (w0 : PlanArg W v0) (w1 : Arg Try.prog W 23 v1) (w2 : Arg Try.prog W 22 v2) :
    Calls Try.prog 7 #[v0, v1, v2] W fun e w' => e = .returned (.bool true) ∧ Below W.heap.size W w' := by
  obtain ⟨q, n0, Ea, Wa, Na, en, ec, wc, nc, ws, vs, rfl, hW, hwb, hN, hvs⟩ := w0
  obtain ⟨ps, _, hP⟩ := ints_of_arg w1
  obtain ⟨zs, hz, hR⟩ := bytes_of_arg w2
  clear w1 w2
  obtain ⟨pA, pc, rfl⟩ : ∃ A c, v1 = .slice A ps.length c := by obtain ⟨_, A, c, h, _⟩ := hP; exact ⟨A, c, h⟩
  have KH := Lib.hid (p := ∀ V, Keeps (fun _ => False) W V → Calls Try.prog 18 #[.agg (q.plan n0 (.slice Ea en ec) (.slice Wa ws.length wc) (.slice Na vs.length nc))] V fun e w' => (∃ z, e = .returned (.int .i64 z)) ∧ Keeps (fun _ => False) V w') fun V hV =>
    heavy_calls q n0 Ea Wa Na en ec ws.length wc nc vs V (hN.keepsF hV hV.size) hvs
  have KL := Lib.hid (p := ∀ V, Keeps (fun _ => False) W V → Calls Try.prog 12 #[.agg (q.plan n0 (.slice Ea en ec) (.slice Wa ws.length wc) (.slice Na vs.length nc)), .slice pA ps.length pc] V fun e w' => ∃ v, e = .returned (.tuple #[v, .int .u16 (layR q ws ps).err]) ∧ LayIs V w' (layR q ws ps) v ∧ Keeps (fun _ => False) V w') fun V hV =>
    lay_any q n0 Ea Wa Na en ec wc vs.length nc _ ps ws V (hP.keepsF hV hV.size) (hW.keepsF hV hV.size) hwb
  have KR := Lib.hid (p := ∀ V, Keeps (fun _ => False) W V → Calls Try.prog 19 #[.agg (q.plan n0 (.slice Ea en ec) (.slice Wa ws.length wc) (.slice Na vs.length nc)), .slice pA ps.length pc] V fun e w' => ∃ v, e = .returned (.tuple #[v, .int .i64 (layR q ws ps).err]) ∧ LayIs V w' (layR q ws ps) v ∧ Keeps (fun _ => False) V w') fun V hV =>
    rlay_any q n0 Ea Wa Na en ec wc vs.length nc _ ps ws V (hP.keepsF hV hV.size) (hW.keepsF hV hV.size) hwb
  have KO := Lib.hid (p := ∀ B, Keeps (fun _ => False) W B → Calls Try.prog 11 #[v2] B fun e w' => ∃ u, e = .returned u ∧ Keeps (fun _ => False) B w' ∧
      (∀ V, Keeps (fun _ => False) w' V → Calls Try.prog 12 #[.agg (q.plan n0 (.slice Ea en ec) (.slice Wa ws.length wc) (.slice Na vs.length nc)), u] V fun e w'' => ∃ v, e = .returned (.tuple #[v, .int .u16 (layR q ws ((ofL zs).map Int.ofNat)).err]) ∧ LayIs V w'' (layR q ws ((ofL zs).map Int.ofNat)) v ∧ Keeps (fun _ => False) V w'') ∧
      (∀ V, Keeps (fun _ => False) w' V → Calls Try.prog 19 #[.agg (q.plan n0 (.slice Ea en ec) (.slice Wa ws.length wc) (.slice Na vs.length nc)), u] V fun e w'' => ∃ v, e = .returned (.tuple #[v, .int .i64 (layR q ws ((ofL zs).map Int.ofNat)).err]) ∧ LayIs V w'' (layR q ws ((ofL zs).map Int.ofNat)) v ∧ Keeps (fun _ => False) V w'')) fun B hB => by
    refine (of_calls v2 zs B (hR.keepsF hB hB.size) hz).mono ?_
    rintro e C ⟨u, rfl, hu, hkC, _⟩
    have hWC : ∀ V, Keeps (fun _ => False) C V → Reads V V.heap.size 1 (.slice Wa ws.length wc) ws.length (ws.map encZ) := fun V hV => hW.keepsF ((hB.trans hkC).trans hV) ((hB.trans hkC).trans hV).size
    have hUC : ∀ V, Keeps (fun _ => False) C V → Reads V V.heap.size 1 u ((ofL zs).map Int.ofNat).length (((ofL zs).map Int.ofNat).map encZ) := fun V hV => by
      rw [List.length_map, ← encN]; exact (hu.keeps hV (fun _ _ h => h)).reads
    exact ⟨u, rfl, hkC, fun V hV => lay_any q n0 Ea Wa Na en ec wc vs.length nc u _ ws V (hUC V hV) (hWC V hV) hwb, fun V hV => rlay_any q n0 Ea Wa Na en ec wc vs.length nc u _ ws V (hUC V hV) (hWC V hV) hwb⟩
  have hs1 := layR_small q ws ps
  have hs2 := layR_small q ws ((ofL zs).map Int.ofNat)
  clear hW hN hvs hP hR hz hwb
  generalize layR q ws ps = R1 at *
  generalize layR q ws ((ofL zs).map Int.ofNat) = R2 at *
  generalize ws.length = wl at *
  generalize vs.length = nl at *
  generalize ps.length = pl at *
  obtain ⟨l1, l2, l3, l4, l5, l6, l7⟩ := q
  unfold Nums.plan at *
  dsimp only at *
  go_enter Try.func7, Try.ntmps7
  have hk0 : Keeps (fun _ => False) W (W.alloc (.cells #[.int .i64 n0, .slice Ea en ec, .int .i64 l1, .int .i64 l2, .int .i64 l3, .int .i64 l4, .int .i64 l5, .int .i64 l6, .slice Wa wl wc, .int .u16 l7, .slice Na nl nc] 29)) := Keeps.alloc _ _ _
  have hP := blk_new W (.cells #[.int .i64 n0, .slice Ea en ec, .int .i64 l1, .int .i64 l2, .int .i64 l3, .int .i64 l4, .int .i64 l5, .int .i64 l6, .slice Wa wl wc, .int .u16 l7, .slice Na nl nc] 29)
  by_cases hl : 50 < pl
  · have hl' : (50 : Int) < (pl : Int) := by omega
    go_wp2_with fail
    refine (known_calls _).mono ?_
    rintro e B ⟨rfl, hkB⟩
    go_wp2_with fail
    go_ret
    exact ⟨rfl, keeps_below ((hk0).trans hkB)⟩
  have hl' : ¬ (50 : Int) < (pl : Int) := by omega
  have hld : decide ((50 : Int) < (pl : Int)) = false := decide_eq_false hl'
  go_wp2_with fail
  generalize W.alloc (.cells #[.int .i64 n0, .slice Ea en ec, .int .i64 l1, .int .i64 l2, .int .i64 l3, .int .i64 l4, .int .i64 l5, .int .i64 l6, .slice Wa wl wc, .int .u16 l7, .slice Na nl nc] 29) = X at hk0 hP ⊢
  generalize W.heap.size = b3 at hP ⊢
  refine (KH.out X hk0).mono ?_
  rintro e Y ⟨⟨z, rfl⟩, hkY⟩
  replace hP := blk_keeps hkY hP (fun h => h)
  replace hk0 := hk0.trans hkY
  clear hkY KH X
  by_cases hz : 300 < z
  · go_wp2_with fail
    refine (known_calls _).mono ?_
    rintro e B ⟨rfl, hkB⟩
    go_wp2_with fail
    go_ret
    exact ⟨rfl, keeps_below ((hk0).trans hkB)⟩
  have hzd : decide ((300 : Int) < z) = false := decide_eq_false hz
  go_wp2_with fail
  refine (known_calls _).mono ?_
  rintro e X ⟨rfl, hkX⟩
  replace hP := blk_keeps hkX hP (fun h => h)
  replace hk0 := hk0.trans hkX
  clear hkX hl hl' hld hz hzd Y
  obtain ⟨x0, x1, x2, x3, x4, x5, x6, x7, x8, x9, x10, xf⟩ := PBox.all hP
  go_wp2_with fail
  refine (KL.out X hk0).mono ?_
  rintro e Y ⟨v, rfl, hLv, hkY⟩
  obtain ⟨Eb, eb, Wb, wb, Nb, nb, rfl, jj⟩ := id hLv
  clear jj
  unfold Nums.plan at hLv ⊢
  replace hP := blk_keeps hkY hP (fun h => h)
  replace hk0 := hk0.trans hkY
  clear hkY KL x0 x1 x2 x3 x4 x5 x6 x7 x8 x9 x10 xf
  -- the program's, of what came in
  have hkZ : Keeps (fun _ => False) Y (Y.alloc (.cells #[.int .i64 R1.n, .slice Eb R1.E.length eb, .int .i64 R1.q.lanes, .int .i64 R1.q.room, .int .i64 R1.q.queue, .int .i64 R1.q.rounds, .int .i64 R1.q.every, .int .i64 R1.q.bag, .slice Wb R1.ws.length wb, .int .u16 R1.q.start, .slice Nb R1.rows.length nb] 29)) := Keeps.alloc _ _ _
  have hP7 : PBox (Y.alloc (.cells #[.int .i64 R1.n, .slice Eb R1.E.length eb, .int .i64 R1.q.lanes, .int .i64 R1.q.room, .int .i64 R1.q.queue, .int .i64 R1.q.rounds, .int .i64 R1.q.every, .int .i64 R1.q.bag, .slice Wb R1.ws.length wb, .int .u16 R1.q.start, .slice Nb R1.rows.length nb] 29)) Y.heap.size #[.int .i64 R1.n, .slice Eb R1.E.length eb, .int .i64 R1.q.lanes, .int .i64 R1.q.room, .int .i64 R1.q.queue, .int .i64 R1.q.rounds, .int .i64 R1.q.every, .int .i64 R1.q.bag, .slice Wb R1.ws.length wb, .int .u16 R1.q.start, .slice Nb R1.rows.length nb] := blk_new _ _
  replace hP := blk_keeps hkZ hP (fun h => h)
  replace hk0 := hk0.trans hkZ
  replace hLv := hLv.keeps hkZ
  clear hkZ
  obtain ⟨x0, x1, x2, x3, x4, x5, x6, x7, x8, x9, x10, xf⟩ := PBox.all hP
  go_wp2_with fail
  generalize Y.alloc (.cells #[.int .i64 R1.n, .slice Eb R1.E.length eb, .int .i64 R1.q.lanes, .int .i64 R1.q.room, .int .i64 R1.q.queue, .int .i64 R1.q.rounds, .int .i64 R1.q.every, .int .i64 R1.q.bag, .slice Wb R1.ws.length wb, .int .u16 R1.q.start, .slice Nb R1.rows.length nb] 29) = Z at hP hk0 hLv hP7 x0 x1 x2 x3 x4 x5 x6 x7 x8 x9 x10 xf ⊢
  generalize Y.heap.size = b7 at hP7 ⊢
  refine (KR.out Z hk0).mono ?_
  rintro e T ⟨v, rfl, hLw, hkT⟩
  obtain ⟨Ec, ec', Wc, wc', Nc, nc', rfl, jj⟩ := id hLw
  clear jj
  unfold Nums.plan at hLw ⊢
  replace hP := blk_keeps hkT hP (fun h => h)
  replace hP7 := blk_keeps hkT hP7 (fun h => h)
  replace hk0 := hk0.trans hkT
  replace hLv := hLv.keeps hkT
  clear hkT KR x0 x1 x2 x3 x4 x5 x6 x7 x8 x9 x10 xf
  go_wp2_with fail
  -- REGION5
  have hkZ9 : Keeps (fun _ => False) T (T.alloc (.cells #[.int .i64 R1.n, .slice Ec R1.E.length ec', .int .i64 R1.q.lanes, .int .i64 R1.q.room, .int .i64 R1.q.queue, .int .i64 R1.q.rounds, .int .i64 R1.q.every, .int .i64 R1.q.bag, .slice Wc R1.ws.length wc', .int .u16 R1.q.start, .slice Nc R1.rows.length nc'] 29)) := Keeps.alloc _ _ _
  have hP9 : PBox (T.alloc (.cells #[.int .i64 R1.n, .slice Ec R1.E.length ec', .int .i64 R1.q.lanes, .int .i64 R1.q.room, .int .i64 R1.q.queue, .int .i64 R1.q.rounds, .int .i64 R1.q.every, .int .i64 R1.q.bag, .slice Wc R1.ws.length wc', .int .u16 R1.q.start, .slice Nc R1.rows.length nc'] 29)) T.heap.size #[.int .i64 R1.n, .slice Ec R1.E.length ec', .int .i64 R1.q.lanes, .int .i64 R1.q.room, .int .i64 R1.q.queue, .int .i64 R1.q.rounds, .int .i64 R1.q.every, .int .i64 R1.q.bag, .slice Wc R1.ws.length wc', .int .u16 R1.q.start, .slice Nc R1.rows.length nc'] := blk_new _ _
  replace hP := blk_keeps hkZ9 hP (fun h => h)
  replace hP7 := blk_keeps hkZ9 hP7 (fun h => h)
  replace hk0 := hk0.trans hkZ9
  replace hLv := hLv.keeps hkZ9
  replace hLw := hLw.keeps hkZ9
  clear hkZ9
  generalize T.alloc (.cells #[.int .i64 R1.n, .slice Ec R1.E.length ec', .int .i64 R1.q.lanes, .int .i64 R1.q.room, .int .i64 R1.q.queue, .int .i64 R1.q.rounds, .int .i64 R1.q.every, .int .i64 R1.q.bag, .slice Wc R1.ws.length wc', .int .u16 R1.q.start, .slice Nc R1.rows.length nc'] 29) = U at hP hk0 hLv hLw hP7 hP9 ⊢
  generalize T.heap.size = b9 at hP9 ⊢
  have hkU := hk0
  have hPU := hP
  clear hk0 hP
  have Pd := Lib.hid (p := ∀ B, Keeps (fun _ => False) U B → Calls Try.prog 11 #[v2] B fun e w' => ∃ u, e = .returned u ∧ Keeps (fun _ => False) U w' ∧ Keeps (fun _ => False) B w' ∧
      ∀ V, Keeps (fun _ => False) w' V → Calls Try.prog 12 #[.agg #[.int .i64 n0, .slice Ea en ec, .int .i64 l1, .int .i64 l2, .int .i64 l3, .int .i64 l4, .int .i64 l5, .int .i64 l6, .slice Wa wl wc, .int .u16 l7, .slice Na nl nc], u] V fun e w'' => Keeps (fun _ => False) U w'' ∧ Keeps (fun _ => False) V w'' ∧ ∃ Ed Wd Nd ed wd nd, e = .returned (.tuple #[.agg #[.int .i64 R2.n, .slice Ed R2.E.length ed, .int .i64 R2.q.lanes, .int .i64 R2.q.room, .int .i64 R2.q.queue, .int .i64 R2.q.rounds, .int .i64 R2.q.every, .int .i64 R2.q.bag, .slice Wd R2.ws.length wd, .int .u16 R2.q.start, .slice Nd R2.rows.length nd], .int .u16 R2.err]) ∧ LayIs V w'' R2 (.agg #[.int .i64 R2.n, .slice Ed R2.E.length ed, .int .i64 R2.q.lanes, .int .i64 R2.q.room, .int .i64 R2.q.queue, .int .i64 R2.q.rounds, .int .i64 R2.q.every, .int .i64 R2.q.bag, .slice Wd R2.ws.length wd, .int .u16 R2.q.start, .slice Nd R2.rows.length nd])) fun B hB => by
    refine (KO.out B (hkU.trans hB)).mono ?_
    rintro e C ⟨u, rfl, hC, h1, h2⟩
    refine ⟨u, rfl, hB.trans hC, hC, fun V hV => ?_⟩
    refine (h1 V hV).mono ?_
    rintro e D ⟨v, rfl, hL, hD⟩
    obtain ⟨Ed, ed, Wd, wd, Nd, nd, rfl, jj⟩ := id hL
    unfold Nums.plan at hL ⊢
    exact ⟨((hB.trans hC).trans hV).trans hD, hD, Ed, Wd, Nd, ed, wd, nd, rfl, hL⟩
  have Fd := Lib.hid (p := ∀ w', Keeps (fun _ => False) U w' → w'.cell? ⟨b3, 0, none⟩ = some (.int .i64 n0) ∧ w'.cell? ⟨b3, 1, none⟩ = some (.slice Ea en ec) ∧ w'.cell? ⟨b3, 2, none⟩ = some (.int .i64 l1) ∧ w'.cell? ⟨b3, 3, none⟩ = some (.int .i64 l2) ∧ w'.cell? ⟨b3, 4, none⟩ = some (.int .i64 l3) ∧ w'.cell? ⟨b3, 5, none⟩ = some (.int .i64 l4) ∧ w'.cell? ⟨b3, 6, none⟩ = some (.int .i64 l5) ∧ w'.cell? ⟨b3, 7, none⟩ = some (.int .i64 l6) ∧ w'.cell? ⟨b3, 8, none⟩ = some (.slice Wa wl wc) ∧ w'.cell? ⟨b3, 9, none⟩ = some (.int .u16 l7) ∧ w'.cell? ⟨b3, 10, none⟩ = some (.slice Na nl nc)) fun w' h => by
    obtain ⟨x0, x1, x2, x3, x4, x5, x6, x7, x8, x9, x10, _⟩ := PBox.all (blk_keeps h hPU (fun h => h))
    exact ⟨x0, x1, x2, x3, x4, x5, x6, x7, x8, x9, x10⟩
  have h0d : Keeps (fun _ => False) U U.drew := Keeps.drew _ _
  have hK0d : Keeps (fun _ => False) U U := Keeps.refl _ _
  have hKDd : ∀ w : World, Keeps (fun _ => False) U w → Keeps (fun _ => False) U w.drew := fun w h => h.trans (Keeps.drew _ _)
  have hKAd : ∀ (w : World) (o : Obj), Keeps (fun _ => False) U w → Keeps (fun _ => False) U (w.alloc o) := fun w o h => h.trans (Keeps.alloc _ _ _)
  have hKSd : ∀ (w : World) (b k : Nat) (v : Value), U.heap.size ≤ b → Keeps (fun _ => False) U w → Keeps (fun _ => False) U (w.setCell ⟨b, k, none⟩ v) := fun w b k v hb h => h.then (Keeps.setCell (fun i => i = b) _ _ _ rfl) (fun i hi e => by omega)
  go_region_held (fun w' => w'.cell? ⟨b3, 0, none⟩ = some (.int .i64 n0) ∧ w'.cell? ⟨b3, 1, none⟩ = some (.slice Ea en ec) ∧ w'.cell? ⟨b3, 2, none⟩ = some (.int .i64 l1) ∧ w'.cell? ⟨b3, 3, none⟩ = some (.int .i64 l2) ∧ w'.cell? ⟨b3, 4, none⟩ = some (.int .i64 l3) ∧ w'.cell? ⟨b3, 5, none⟩ = some (.int .i64 l4) ∧ w'.cell? ⟨b3, 6, none⟩ = some (.int .i64 l5) ∧ w'.cell? ⟨b3, 7, none⟩ = some (.int .i64 l6) ∧ w'.cell? ⟨b3, 8, none⟩ = some (.slice Wa wl wc) ∧ w'.cell? ⟨b3, 9, none⟩ = some (.int .u16 l7) ∧ w'.cell? ⟨b3, 10, none⟩ = some (.slice Na nl nc)) ((refine Fd.out _ ?_; repeat (first | (with_reducible assumption) | (with_reducible refine hKAd _ _ ?_) | (with_reducible refine hKSd _ _ _ _ ?_ ?_) | (with_reducible refine hKDd _ ?_) | (with_reducible exact hK0d) | omega))) (first
    | (go_at_call 11; refine (Pd.out _ (by first | (with_reducible exact h0d) | (with_reducible exact hKDd _ (hKAd _ _ hK0d)))).mono ?_; rintro e Bd ⟨ud, rfl, hBd, hcBd, hlayd⟩; have hBsd := hBd.size; first | (have zBd : PBox Bd U.heap.size _ := blk_keeps hcBd (blk_new U _) (fun h => h)) | (have zBd : True := trivial))
    | (go_at_call 12; refine (hlayd _ (by first | (with_reducible exact Keeps.refl _ _) | (with_reducible exact Keeps.alloc _ _ _))).mono ?_; rintro e Cd ⟨hXCd, hcCd, Ed, Wd, Nd, ed, wd, nd, rfl, hLd⟩;
        first | (have zCd : PBox Cd Bd.heap.size _ := blk_keeps hcCd (blk_new _ _) (fun h => h); obtain ⟨z0, z1, z2, z3, z4, z5, z6, z7, z8, z9, z10, zf⟩ := PBox.all zCd) | (have zCd : PBox Cd U.heap.size _ := blk_keeps hcCd zBd (fun h => h); obtain ⟨z0, z1, z2, z3, z4, z5, z6, z7, z8, z9, z10, zf⟩ := PBox.all zCd) | (have zCd : True := trivial)))
  · have hVd : PBox (Cd.alloc (.cells #[.int .i64 R2.n, .slice Ed R2.E.length ed, .int .i64 R2.q.lanes, .int .i64 R2.q.room, .int .i64 R2.q.queue, .int .i64 R2.q.rounds, .int .i64 R2.q.every, .int .i64 R2.q.bag, .slice Wd R2.ws.length wd, .int .u16 R2.q.start, .slice Nd R2.rows.length nd] 29)) Cd.heap.size #[.int .i64 R2.n, .slice Ed R2.E.length ed, .int .i64 R2.q.lanes, .int .i64 R2.q.room, .int .i64 R2.q.queue, .int .i64 R2.q.rounds, .int .i64 R2.q.every, .int .i64 R2.q.bag, .slice Wd R2.ws.length wd, .int .u16 R2.q.start, .slice Nd R2.rows.length nd] := blk_new _ _
    have hkVd : Keeps (fun _ => False) Cd (Cd.alloc (.cells #[.int .i64 R2.n, .slice Ed R2.E.length ed, .int .i64 R2.q.lanes, .int .i64 R2.q.room, .int .i64 R2.q.queue, .int .i64 R2.q.rounds, .int .i64 R2.q.every, .int .i64 R2.q.bag, .slice Wd R2.ws.length wd, .int .u16 R2.q.start, .slice Nd R2.rows.length nd] 29)) := Keeps.alloc _ _ _
    replace hLd := hLd.keeps hkVd
    have hXVd : Keeps (fun _ => False) U (Cd.alloc (.cells #[.int .i64 R2.n, .slice Ed R2.E.length ed, .int .i64 R2.q.lanes, .int .i64 R2.q.room, .int .i64 R2.q.queue, .int .i64 R2.q.rounds, .int .i64 R2.q.every, .int .i64 R2.q.bag, .slice Wd R2.ws.length wd, .int .u16 R2.q.start, .slice Nd R2.rows.length nd] 29)) := hXCd.trans hkVd
    generalize Cd.alloc (.cells #[.int .i64 R2.n, .slice Ed R2.E.length ed, .int .i64 R2.q.lanes, .int .i64 R2.q.room, .int .i64 R2.q.queue, .int .i64 R2.q.rounds, .int .i64 R2.q.every, .int .i64 R2.q.bag, .slice Wd R2.ws.length wd, .int .u16 R2.q.start, .slice Nd R2.rows.length nd] 29) = Vd at hVd hLd hXVd ⊢
    generalize Cd.heap.size = bd at hVd ⊢
    clear hkVd
    replace hLv := hLv.keeps hXVd
    replace hLw := hLw.keeps hXVd
    replace hP7 := blk_keeps hXVd hP7 (fun h => h)
    replace hP9 := blk_keeps hXVd hP9 (fun h => h)
    have hPVd := blk_keeps hXVd hPU (fun h => h)
    have hkVd := hkU.trans hXVd
    clear hXVd hPU hkU Pd Fd h0d hK0d hKDd hKAd hKSd
    try clear zBd
    go_wp2_with fail
    have Pg := Lib.hid (p := ∀ B, Keeps (fun _ => False) Vd B → Calls Try.prog 11 #[v2] B fun e w' => ∃ u, e = .returned u ∧ Keeps (fun _ => False) Vd w' ∧ Keeps (fun _ => False) B w' ∧
        ∀ V, Keeps (fun _ => False) w' V → Calls Try.prog 19 #[.agg #[.int .i64 n0, .slice Ea en ec, .int .i64 l1, .int .i64 l2, .int .i64 l3, .int .i64 l4, .int .i64 l5, .int .i64 l6, .slice Wa wl wc, .int .u16 l7, .slice Na nl nc], u] V fun e w'' => Keeps (fun _ => False) Vd w'' ∧ Keeps (fun _ => False) V w'' ∧ ∃ Eg Wg Ng eg wg ng, e = .returned (.tuple #[.agg #[.int .i64 R2.n, .slice Eg R2.E.length eg, .int .i64 R2.q.lanes, .int .i64 R2.q.room, .int .i64 R2.q.queue, .int .i64 R2.q.rounds, .int .i64 R2.q.every, .int .i64 R2.q.bag, .slice Wg R2.ws.length wg, .int .u16 R2.q.start, .slice Ng R2.rows.length ng], .int .i64 R2.err]) ∧ LayIs V w'' R2 (.agg #[.int .i64 R2.n, .slice Eg R2.E.length eg, .int .i64 R2.q.lanes, .int .i64 R2.q.room, .int .i64 R2.q.queue, .int .i64 R2.q.rounds, .int .i64 R2.q.every, .int .i64 R2.q.bag, .slice Wg R2.ws.length wg, .int .u16 R2.q.start, .slice Ng R2.rows.length ng])) fun B hB => by
      refine (KO.out B (hkVd.trans hB)).mono ?_
      rintro e C ⟨u, rfl, hC, h1, h2⟩
      refine ⟨u, rfl, hB.trans hC, hC, fun V hV => ?_⟩
      refine (h2 V hV).mono ?_
      rintro e D ⟨v, rfl, hL, hD⟩
      obtain ⟨Eg, eg, Wg, wg, Ng, ng, rfl, jj⟩ := id hL
      unfold Nums.plan at hL ⊢
      exact ⟨((hB.trans hC).trans hV).trans hD, hD, Eg, Wg, Ng, eg, wg, ng, rfl, hL⟩
    have Fg := Lib.hid (p := ∀ w', Keeps (fun _ => False) Vd w' → w'.cell? ⟨b3, 0, none⟩ = some (.int .i64 n0) ∧ w'.cell? ⟨b3, 1, none⟩ = some (.slice Ea en ec) ∧ w'.cell? ⟨b3, 2, none⟩ = some (.int .i64 l1) ∧ w'.cell? ⟨b3, 3, none⟩ = some (.int .i64 l2) ∧ w'.cell? ⟨b3, 4, none⟩ = some (.int .i64 l3) ∧ w'.cell? ⟨b3, 5, none⟩ = some (.int .i64 l4) ∧ w'.cell? ⟨b3, 6, none⟩ = some (.int .i64 l5) ∧ w'.cell? ⟨b3, 7, none⟩ = some (.int .i64 l6) ∧ w'.cell? ⟨b3, 8, none⟩ = some (.slice Wa wl wc) ∧ w'.cell? ⟨b3, 9, none⟩ = some (.int .u16 l7) ∧ w'.cell? ⟨b3, 10, none⟩ = some (.slice Na nl nc)) fun w' h => by
      obtain ⟨x0, x1, x2, x3, x4, x5, x6, x7, x8, x9, x10, _⟩ := PBox.all (blk_keeps h hPVd (fun h => h))
      exact ⟨x0, x1, x2, x3, x4, x5, x6, x7, x8, x9, x10⟩
    have h0g : Keeps (fun _ => False) Vd Vd.drew := Keeps.drew _ _
    have hK0g : Keeps (fun _ => False) Vd Vd := Keeps.refl _ _
    have hKDg : ∀ w : World, Keeps (fun _ => False) Vd w → Keeps (fun _ => False) Vd w.drew := fun w h => h.trans (Keeps.drew _ _)
    have hKAg : ∀ (w : World) (o : Obj), Keeps (fun _ => False) Vd w → Keeps (fun _ => False) Vd (w.alloc o) := fun w o h => h.trans (Keeps.alloc _ _ _)
    have hKSg : ∀ (w : World) (b k : Nat) (v : Value), Vd.heap.size ≤ b → Keeps (fun _ => False) Vd w → Keeps (fun _ => False) Vd (w.setCell ⟨b, k, none⟩ v) := fun w b k v hb h => h.then (Keeps.setCell (fun i => i = b) _ _ _ rfl) (fun i hi e => by omega)
    go_region_held (fun w' => w'.cell? ⟨b3, 0, none⟩ = some (.int .i64 n0) ∧ w'.cell? ⟨b3, 1, none⟩ = some (.slice Ea en ec) ∧ w'.cell? ⟨b3, 2, none⟩ = some (.int .i64 l1) ∧ w'.cell? ⟨b3, 3, none⟩ = some (.int .i64 l2) ∧ w'.cell? ⟨b3, 4, none⟩ = some (.int .i64 l3) ∧ w'.cell? ⟨b3, 5, none⟩ = some (.int .i64 l4) ∧ w'.cell? ⟨b3, 6, none⟩ = some (.int .i64 l5) ∧ w'.cell? ⟨b3, 7, none⟩ = some (.int .i64 l6) ∧ w'.cell? ⟨b3, 8, none⟩ = some (.slice Wa wl wc) ∧ w'.cell? ⟨b3, 9, none⟩ = some (.int .u16 l7) ∧ w'.cell? ⟨b3, 10, none⟩ = some (.slice Na nl nc)) ((refine Fg.out _ ?_; repeat (first | (with_reducible assumption) | (with_reducible refine hKAg _ _ ?_) | (with_reducible refine hKSg _ _ _ _ ?_ ?_) | (with_reducible refine hKDg _ ?_) | (with_reducible exact hK0g) | omega))) (first
      | (go_at_call 11; refine (Pg.out _ (by first | (with_reducible exact h0g) | (with_reducible exact hKDg _ (hKAg _ _ hK0g)))).mono ?_; rintro e Bg ⟨ug, rfl, hBg, hcBg, hlayg⟩; have hBsg := hBg.size; first | (have zBg : PBox Bg Vd.heap.size _ := blk_keeps hcBg (blk_new Vd _) (fun h => h)) | (have zBg : True := trivial))
      | (go_at_call 19; refine (hlayg _ (by first | (with_reducible exact Keeps.refl _ _) | (with_reducible exact Keeps.alloc _ _ _))).mono ?_; rintro e Cg ⟨hXCg, hcCg, Eg, Wg, Ng, eg, wg, ng, rfl, hLg⟩;
          first | (have zCg : PBox Cg Bg.heap.size _ := blk_keeps hcCg (blk_new _ _) (fun h => h); obtain ⟨z0, z1, z2, z3, z4, z5, z6, z7, z8, z9, z10, zf⟩ := PBox.all zCg) | (have zCg : PBox Cg Vd.heap.size _ := blk_keeps hcCg zBg (fun h => h); obtain ⟨z0, z1, z2, z3, z4, z5, z6, z7, z8, z9, z10, zf⟩ := PBox.all zCg) | (have zCg : True := trivial)))
    · have hVg : PBox (Cg.alloc (.cells #[.int .i64 R2.n, .slice Eg R2.E.length eg, .int .i64 R2.q.lanes, .int .i64 R2.q.room, .int .i64 R2.q.queue, .int .i64 R2.q.rounds, .int .i64 R2.q.every, .int .i64 R2.q.bag, .slice Wg R2.ws.length wg, .int .u16 R2.q.start, .slice Ng R2.rows.length ng] 29)) Cg.heap.size #[.int .i64 R2.n, .slice Eg R2.E.length eg, .int .i64 R2.q.lanes, .int .i64 R2.q.room, .int .i64 R2.q.queue, .int .i64 R2.q.rounds, .int .i64 R2.q.every, .int .i64 R2.q.bag, .slice Wg R2.ws.length wg, .int .u16 R2.q.start, .slice Ng R2.rows.length ng] := blk_new _ _
      have hkVg : Keeps (fun _ => False) Cg (Cg.alloc (.cells #[.int .i64 R2.n, .slice Eg R2.E.length eg, .int .i64 R2.q.lanes, .int .i64 R2.q.room, .int .i64 R2.q.queue, .int .i64 R2.q.rounds, .int .i64 R2.q.every, .int .i64 R2.q.bag, .slice Wg R2.ws.length wg, .int .u16 R2.q.start, .slice Ng R2.rows.length ng] 29)) := Keeps.alloc _ _ _
      replace hLg := hLg.keeps hkVg
      have hXVg : Keeps (fun _ => False) Vd (Cg.alloc (.cells #[.int .i64 R2.n, .slice Eg R2.E.length eg, .int .i64 R2.q.lanes, .int .i64 R2.q.room, .int .i64 R2.q.queue, .int .i64 R2.q.rounds, .int .i64 R2.q.every, .int .i64 R2.q.bag, .slice Wg R2.ws.length wg, .int .u16 R2.q.start, .slice Ng R2.rows.length ng] 29)) := hXCg.trans hkVg
      generalize Cg.alloc (.cells #[.int .i64 R2.n, .slice Eg R2.E.length eg, .int .i64 R2.q.lanes, .int .i64 R2.q.room, .int .i64 R2.q.queue, .int .i64 R2.q.rounds, .int .i64 R2.q.every, .int .i64 R2.q.bag, .slice Wg R2.ws.length wg, .int .u16 R2.q.start, .slice Ng R2.rows.length ng] 29) = Vg at hVg hLg hXVg ⊢
      generalize Cg.heap.size = bg at hVg ⊢
      clear hkVg
      replace hLv := hLv.keeps hXVg
      replace hLw := hLw.keeps hXVg
      replace hLd := hLd.keeps hXVg
      replace hP7 := blk_keeps hXVg hP7 (fun h => h)
      replace hP9 := blk_keeps hXVg hP9 (fun h => h)
      replace hVd := blk_keeps hXVg hVd (fun h => h)
      have hkVg := hkVd.trans hXVg
      clear hXVg hPVd hkVd Pg Fg h0g hK0g hKDg hKAg hKSg
      obtain ⟨x0, x1, x2, x3, x4, x5, x6, x7, x8, x9, x10, xf⟩ := PBox.all hP7
      obtain ⟨y0, y1, y2, y3, y4, y5, y6, y7, y8, y9, y10, yf⟩ := PBox.all hP9
      have A1 := alike_any R1 _ _ _ _ Vg hs1.1 hs1.2.1 hLv hLw
      clear xf yf
      go_wp2_with fail
      refine A1.mono ?_
      rintro e V1 ⟨rfl, hk1⟩
      replace hLd := hLd.keeps hk1
      replace hLg := hLg.keeps hk1
      have A2 := alike_any R2 _ _ _ _ V1 hs2.1 hs2.2.1 hLd hLg
      have hVd1 := blk_keeps hk1 hVd (fun h => h)
      have hVg1 := blk_keeps hk1 hVg (fun h => h)
      clear A1 x0 x1 x2 x3 x4 x5 x6 x7 x8 x9 x10 y0 y1 y2 y3 y4 y5 y6 y7 y8 y9 y10
      obtain ⟨x0, x1, x2, x3, x4, x5, x6, x7, x8, x9, x10, xf⟩ := PBox.all hVd1
      obtain ⟨y0, y1, y2, y3, y4, y5, y6, y7, y8, y9, y10, yf⟩ := PBox.all hVg1
      have e1 : IntKind.i64.wrap R1.err = R1.err := by rcases hs1.2.2 with h | h <;> rw [h] <;> decide
      have e2 : IntKind.i64.wrap R2.err = R2.err := by rcases hs2.2.2 with h | h <;> rw [h] <;> decide
      clear xf yf
      go_wp2_with fail
      refine A2.mono ?_
      rintro e V2 ⟨rfl, hk2⟩
      go_wp2_with fail
      go_ret
      exact ⟨rfl, keeps_below ((hkVg.trans hk1).trans hk2)⟩
    · obtain ⟨hVg, hkVg⟩ := set11 zCg (.int .i64 R2.n) (.slice Eg R2.E.length eg) (.int .i64 R2.q.lanes) (.int .i64 R2.q.room) (.int .i64 R2.q.queue) (.int .i64 R2.q.rounds) (.int .i64 R2.q.every) (.int .i64 R2.q.bag) (.slice Wg R2.ws.length wg) (.int .u16 R2.q.start) (.slice Ng R2.rows.length ng)
      have hbg : Vd.heap.size ≤ Bg.heap.size := by first | exact hBsg | exact Nat.le_refl _
      replace hLg := hLg.keepsF hkVg (fun k h1 h2 => by have h3 : k = Bg.heap.size := h2; first | omega | (simp at h1; omega))
      have hXVg := hXCg.then hkVg (fun k hk h2 => by have h3 : k = Bg.heap.size := h2; omega)
      clear zCg z0 z1 z2 z3 z4 z5 z6 z7 z8 z9 z10 zf hkVg
      generalize World.setCell _ _ _ = Vg at hVg hLg hXVg ⊢
      generalize Bg.heap.size = bg at hVg ⊢
      replace hLv := hLv.keeps hXVg
      replace hLw := hLw.keeps hXVg
      replace hLd := hLd.keeps hXVg
      replace hP7 := blk_keeps hXVg hP7 (fun h => h)
      replace hP9 := blk_keeps hXVg hP9 (fun h => h)
      replace hVd := blk_keeps hXVg hVd (fun h => h)
      have hkVg := hkVd.trans hXVg
      clear hXVg hPVd hkVd Pg Fg h0g hK0g hKDg hKAg hKSg
      obtain ⟨x0, x1, x2, x3, x4, x5, x6, x7, x8, x9, x10, xf⟩ := PBox.all hP7
      obtain ⟨y0, y1, y2, y3, y4, y5, y6, y7, y8, y9, y10, yf⟩ := PBox.all hP9
      have A1 := alike_any R1 _ _ _ _ Vg hs1.1 hs1.2.1 hLv hLw
      clear xf yf
      go_wp2_with fail
      refine A1.mono ?_
      rintro e V1 ⟨rfl, hk1⟩
      replace hLd := hLd.keeps hk1
      replace hLg := hLg.keeps hk1
      have A2 := alike_any R2 _ _ _ _ V1 hs2.1 hs2.2.1 hLd hLg
      have hVd1 := blk_keeps hk1 hVd (fun h => h)
      have hVg1 := blk_keeps hk1 hVg (fun h => h)
      clear A1 x0 x1 x2 x3 x4 x5 x6 x7 x8 x9 x10 y0 y1 y2 y3 y4 y5 y6 y7 y8 y9 y10
      obtain ⟨x0, x1, x2, x3, x4, x5, x6, x7, x8, x9, x10, xf⟩ := PBox.all hVd1
      obtain ⟨y0, y1, y2, y3, y4, y5, y6, y7, y8, y9, y10, yf⟩ := PBox.all hVg1
      have e1 : IntKind.i64.wrap R1.err = R1.err := by rcases hs1.2.2 with h | h <;> rw [h] <;> decide
      have e2 : IntKind.i64.wrap R2.err = R2.err := by rcases hs2.2.2 with h | h <;> rw [h] <;> decide
      clear xf yf
      go_wp2_with fail
      refine A2.mono ?_
      rintro e V2 ⟨rfl, hk2⟩
      go_wp2_with fail
      go_ret
      exact ⟨rfl, keeps_below ((hkVg.trans hk1).trans hk2)⟩
    · have hzlg := blk_lt zBg
      obtain ⟨hVg, hkVg⟩ := set11 zCg (.int .i64 R2.n) (.slice Eg R2.E.length eg) (.int .i64 R2.q.lanes) (.int .i64 R2.q.room) (.int .i64 R2.q.queue) (.int .i64 R2.q.rounds) (.int .i64 R2.q.every) (.int .i64 R2.q.bag) (.slice Wg R2.ws.length wg) (.int .u16 R2.q.start) (.slice Ng R2.rows.length ng)
      have hbg : Vd.heap.size ≤ Vd.heap.size := by first | exact hBsg | exact Nat.le_refl _
      replace hLg := hLg.keepsF hkVg (fun k h1 h2 => by have h3 : k = Vd.heap.size := h2; first | omega | (simp at h1; omega))
      have hXVg := hXCg.then hkVg (fun k hk h2 => by have h3 : k = Vd.heap.size := h2; omega)
      clear zCg z0 z1 z2 z3 z4 z5 z6 z7 z8 z9 z10 zf hkVg
      generalize World.setCell _ _ _ = Vg at hVg hLg hXVg ⊢
      generalize Vd.heap.size = bg at hVg ⊢
      replace hLv := hLv.keeps hXVg
      replace hLw := hLw.keeps hXVg
      replace hLd := hLd.keeps hXVg
      replace hP7 := blk_keeps hXVg hP7 (fun h => h)
      replace hP9 := blk_keeps hXVg hP9 (fun h => h)
      replace hVd := blk_keeps hXVg hVd (fun h => h)
      have hkVg := hkVd.trans hXVg
      clear hXVg hPVd hkVd Pg Fg h0g hK0g hKDg hKAg hKSg
      obtain ⟨x0, x1, x2, x3, x4, x5, x6, x7, x8, x9, x10, xf⟩ := PBox.all hP7
      obtain ⟨y0, y1, y2, y3, y4, y5, y6, y7, y8, y9, y10, yf⟩ := PBox.all hP9
      have A1 := alike_any R1 _ _ _ _ Vg hs1.1 hs1.2.1 hLv hLw
      clear xf yf
      go_wp2_with fail
      refine A1.mono ?_
      rintro e V1 ⟨rfl, hk1⟩
      replace hLd := hLd.keeps hk1
      replace hLg := hLg.keeps hk1
      have A2 := alike_any R2 _ _ _ _ V1 hs2.1 hs2.2.1 hLd hLg
      have hVd1 := blk_keeps hk1 hVd (fun h => h)
      have hVg1 := blk_keeps hk1 hVg (fun h => h)
      clear A1 x0 x1 x2 x3 x4 x5 x6 x7 x8 x9 x10 y0 y1 y2 y3 y4 y5 y6 y7 y8 y9 y10
      obtain ⟨x0, x1, x2, x3, x4, x5, x6, x7, x8, x9, x10, xf⟩ := PBox.all hVd1
      obtain ⟨y0, y1, y2, y3, y4, y5, y6, y7, y8, y9, y10, yf⟩ := PBox.all hVg1
      have e1 : IntKind.i64.wrap R1.err = R1.err := by rcases hs1.2.2 with h | h <;> rw [h] <;> decide
      have e2 : IntKind.i64.wrap R2.err = R2.err := by rcases hs2.2.2 with h | h <;> rw [h] <;> decide
      clear xf yf
      go_wp2_with fail
      refine A2.mono ?_
      rintro e V2 ⟨rfl, hk2⟩
      go_wp2_with fail
      go_ret
      exact ⟨rfl, keeps_below ((hkVg.trans hk1).trans hk2)⟩
  · obtain ⟨hVd, hkVd⟩ := set11 zCd (.int .i64 R2.n) (.slice Ed R2.E.length ed) (.int .i64 R2.q.lanes) (.int .i64 R2.q.room) (.int .i64 R2.q.queue) (.int .i64 R2.q.rounds) (.int .i64 R2.q.every) (.int .i64 R2.q.bag) (.slice Wd R2.ws.length wd) (.int .u16 R2.q.start) (.slice Nd R2.rows.length nd)
    have hbd : U.heap.size ≤ Bd.heap.size := by first | exact hBsd | exact Nat.le_refl _
    replace hLd := hLd.keepsF hkVd (fun k h1 h2 => by have h3 : k = Bd.heap.size := h2; first | omega | (simp at h1; omega))
    have hXVd := hXCd.then hkVd (fun k hk h2 => by have h3 : k = Bd.heap.size := h2; omega)
    clear zCd z0 z1 z2 z3 z4 z5 z6 z7 z8 z9 z10 zf hkVd
    generalize World.setCell _ _ _ = Vd at hVd hLd hXVd ⊢
    generalize Bd.heap.size = bd at hVd ⊢
    replace hLv := hLv.keeps hXVd
    replace hLw := hLw.keeps hXVd
    replace hP7 := blk_keeps hXVd hP7 (fun h => h)
    replace hP9 := blk_keeps hXVd hP9 (fun h => h)
    have hPVd := blk_keeps hXVd hPU (fun h => h)
    have hkVd := hkU.trans hXVd
    clear hXVd hPU hkU Pd Fd h0d hK0d hKDd hKAd hKSd
    try clear zBd
    go_wp2_with fail
    have Pg := Lib.hid (p := ∀ B, Keeps (fun _ => False) Vd B → Calls Try.prog 11 #[v2] B fun e w' => ∃ u, e = .returned u ∧ Keeps (fun _ => False) Vd w' ∧ Keeps (fun _ => False) B w' ∧
        ∀ V, Keeps (fun _ => False) w' V → Calls Try.prog 19 #[.agg #[.int .i64 n0, .slice Ea en ec, .int .i64 l1, .int .i64 l2, .int .i64 l3, .int .i64 l4, .int .i64 l5, .int .i64 l6, .slice Wa wl wc, .int .u16 l7, .slice Na nl nc], u] V fun e w'' => Keeps (fun _ => False) Vd w'' ∧ Keeps (fun _ => False) V w'' ∧ ∃ Eg Wg Ng eg wg ng, e = .returned (.tuple #[.agg #[.int .i64 R2.n, .slice Eg R2.E.length eg, .int .i64 R2.q.lanes, .int .i64 R2.q.room, .int .i64 R2.q.queue, .int .i64 R2.q.rounds, .int .i64 R2.q.every, .int .i64 R2.q.bag, .slice Wg R2.ws.length wg, .int .u16 R2.q.start, .slice Ng R2.rows.length ng], .int .i64 R2.err]) ∧ LayIs V w'' R2 (.agg #[.int .i64 R2.n, .slice Eg R2.E.length eg, .int .i64 R2.q.lanes, .int .i64 R2.q.room, .int .i64 R2.q.queue, .int .i64 R2.q.rounds, .int .i64 R2.q.every, .int .i64 R2.q.bag, .slice Wg R2.ws.length wg, .int .u16 R2.q.start, .slice Ng R2.rows.length ng])) fun B hB => by
      refine (KO.out B (hkVd.trans hB)).mono ?_
      rintro e C ⟨u, rfl, hC, h1, h2⟩
      refine ⟨u, rfl, hB.trans hC, hC, fun V hV => ?_⟩
      refine (h2 V hV).mono ?_
      rintro e D ⟨v, rfl, hL, hD⟩
      obtain ⟨Eg, eg, Wg, wg, Ng, ng, rfl, jj⟩ := id hL
      unfold Nums.plan at hL ⊢
      exact ⟨((hB.trans hC).trans hV).trans hD, hD, Eg, Wg, Ng, eg, wg, ng, rfl, hL⟩
    have Fg := Lib.hid (p := ∀ w', Keeps (fun _ => False) Vd w' → w'.cell? ⟨b3, 0, none⟩ = some (.int .i64 n0) ∧ w'.cell? ⟨b3, 1, none⟩ = some (.slice Ea en ec) ∧ w'.cell? ⟨b3, 2, none⟩ = some (.int .i64 l1) ∧ w'.cell? ⟨b3, 3, none⟩ = some (.int .i64 l2) ∧ w'.cell? ⟨b3, 4, none⟩ = some (.int .i64 l3) ∧ w'.cell? ⟨b3, 5, none⟩ = some (.int .i64 l4) ∧ w'.cell? ⟨b3, 6, none⟩ = some (.int .i64 l5) ∧ w'.cell? ⟨b3, 7, none⟩ = some (.int .i64 l6) ∧ w'.cell? ⟨b3, 8, none⟩ = some (.slice Wa wl wc) ∧ w'.cell? ⟨b3, 9, none⟩ = some (.int .u16 l7) ∧ w'.cell? ⟨b3, 10, none⟩ = some (.slice Na nl nc)) fun w' h => by
      obtain ⟨x0, x1, x2, x3, x4, x5, x6, x7, x8, x9, x10, _⟩ := PBox.all (blk_keeps h hPVd (fun h => h))
      exact ⟨x0, x1, x2, x3, x4, x5, x6, x7, x8, x9, x10⟩
    have h0g : Keeps (fun _ => False) Vd Vd.drew := Keeps.drew _ _
    have hK0g : Keeps (fun _ => False) Vd Vd := Keeps.refl _ _
    have hKDg : ∀ w : World, Keeps (fun _ => False) Vd w → Keeps (fun _ => False) Vd w.drew := fun w h => h.trans (Keeps.drew _ _)
    have hKAg : ∀ (w : World) (o : Obj), Keeps (fun _ => False) Vd w → Keeps (fun _ => False) Vd (w.alloc o) := fun w o h => h.trans (Keeps.alloc _ _ _)
    have hKSg : ∀ (w : World) (b k : Nat) (v : Value), Vd.heap.size ≤ b → Keeps (fun _ => False) Vd w → Keeps (fun _ => False) Vd (w.setCell ⟨b, k, none⟩ v) := fun w b k v hb h => h.then (Keeps.setCell (fun i => i = b) _ _ _ rfl) (fun i hi e => by omega)
    go_region_held (fun w' => w'.cell? ⟨b3, 0, none⟩ = some (.int .i64 n0) ∧ w'.cell? ⟨b3, 1, none⟩ = some (.slice Ea en ec) ∧ w'.cell? ⟨b3, 2, none⟩ = some (.int .i64 l1) ∧ w'.cell? ⟨b3, 3, none⟩ = some (.int .i64 l2) ∧ w'.cell? ⟨b3, 4, none⟩ = some (.int .i64 l3) ∧ w'.cell? ⟨b3, 5, none⟩ = some (.int .i64 l4) ∧ w'.cell? ⟨b3, 6, none⟩ = some (.int .i64 l5) ∧ w'.cell? ⟨b3, 7, none⟩ = some (.int .i64 l6) ∧ w'.cell? ⟨b3, 8, none⟩ = some (.slice Wa wl wc) ∧ w'.cell? ⟨b3, 9, none⟩ = some (.int .u16 l7) ∧ w'.cell? ⟨b3, 10, none⟩ = some (.slice Na nl nc)) ((refine Fg.out _ ?_; repeat (first | (with_reducible assumption) | (with_reducible refine hKAg _ _ ?_) | (with_reducible refine hKSg _ _ _ _ ?_ ?_) | (with_reducible refine hKDg _ ?_) | (with_reducible exact hK0g) | omega))) (first
      | (go_at_call 11; refine (Pg.out _ (by first | (with_reducible exact h0g) | (with_reducible exact hKDg _ (hKAg _ _ hK0g)))).mono ?_; rintro e Bg ⟨ug, rfl, hBg, hcBg, hlayg⟩; have hBsg := hBg.size; first | (have zBg : PBox Bg Vd.heap.size _ := blk_keeps hcBg (blk_new Vd _) (fun h => h)) | (have zBg : True := trivial))
      | (go_at_call 19; refine (hlayg _ (by first | (with_reducible exact Keeps.refl _ _) | (with_reducible exact Keeps.alloc _ _ _))).mono ?_; rintro e Cg ⟨hXCg, hcCg, Eg, Wg, Ng, eg, wg, ng, rfl, hLg⟩;
          first | (have zCg : PBox Cg Bg.heap.size _ := blk_keeps hcCg (blk_new _ _) (fun h => h); obtain ⟨z0, z1, z2, z3, z4, z5, z6, z7, z8, z9, z10, zf⟩ := PBox.all zCg) | (have zCg : PBox Cg Vd.heap.size _ := blk_keeps hcCg zBg (fun h => h); obtain ⟨z0, z1, z2, z3, z4, z5, z6, z7, z8, z9, z10, zf⟩ := PBox.all zCg) | (have zCg : True := trivial)))
    · have hVg : PBox (Cg.alloc (.cells #[.int .i64 R2.n, .slice Eg R2.E.length eg, .int .i64 R2.q.lanes, .int .i64 R2.q.room, .int .i64 R2.q.queue, .int .i64 R2.q.rounds, .int .i64 R2.q.every, .int .i64 R2.q.bag, .slice Wg R2.ws.length wg, .int .u16 R2.q.start, .slice Ng R2.rows.length ng] 29)) Cg.heap.size #[.int .i64 R2.n, .slice Eg R2.E.length eg, .int .i64 R2.q.lanes, .int .i64 R2.q.room, .int .i64 R2.q.queue, .int .i64 R2.q.rounds, .int .i64 R2.q.every, .int .i64 R2.q.bag, .slice Wg R2.ws.length wg, .int .u16 R2.q.start, .slice Ng R2.rows.length ng] := blk_new _ _
      have hkVg : Keeps (fun _ => False) Cg (Cg.alloc (.cells #[.int .i64 R2.n, .slice Eg R2.E.length eg, .int .i64 R2.q.lanes, .int .i64 R2.q.room, .int .i64 R2.q.queue, .int .i64 R2.q.rounds, .int .i64 R2.q.every, .int .i64 R2.q.bag, .slice Wg R2.ws.length wg, .int .u16 R2.q.start, .slice Ng R2.rows.length ng] 29)) := Keeps.alloc _ _ _
      replace hLg := hLg.keeps hkVg
      have hXVg : Keeps (fun _ => False) Vd (Cg.alloc (.cells #[.int .i64 R2.n, .slice Eg R2.E.length eg, .int .i64 R2.q.lanes, .int .i64 R2.q.room, .int .i64 R2.q.queue, .int .i64 R2.q.rounds, .int .i64 R2.q.every, .int .i64 R2.q.bag, .slice Wg R2.ws.length wg, .int .u16 R2.q.start, .slice Ng R2.rows.length ng] 29)) := hXCg.trans hkVg
      generalize Cg.alloc (.cells #[.int .i64 R2.n, .slice Eg R2.E.length eg, .int .i64 R2.q.lanes, .int .i64 R2.q.room, .int .i64 R2.q.queue, .int .i64 R2.q.rounds, .int .i64 R2.q.every, .int .i64 R2.q.bag, .slice Wg R2.ws.length wg, .int .u16 R2.q.start, .slice Ng R2.rows.length ng] 29) = Vg at hVg hLg hXVg ⊢
      generalize Cg.heap.size = bg at hVg ⊢
      clear hkVg
      replace hLv := hLv.keeps hXVg
      replace hLw := hLw.keeps hXVg
      replace hLd := hLd.keeps hXVg
      replace hP7 := blk_keeps hXVg hP7 (fun h => h)
      replace hP9 := blk_keeps hXVg hP9 (fun h => h)
      replace hVd := blk_keeps hXVg hVd (fun h => h)
      have hkVg := hkVd.trans hXVg
      clear hXVg hPVd hkVd Pg Fg h0g hK0g hKDg hKAg hKSg
      obtain ⟨x0, x1, x2, x3, x4, x5, x6, x7, x8, x9, x10, xf⟩ := PBox.all hP7
      obtain ⟨y0, y1, y2, y3, y4, y5, y6, y7, y8, y9, y10, yf⟩ := PBox.all hP9
      have A1 := alike_any R1 _ _ _ _ Vg hs1.1 hs1.2.1 hLv hLw
      clear xf yf
      go_wp2_with fail
      refine A1.mono ?_
      rintro e V1 ⟨rfl, hk1⟩
      replace hLd := hLd.keeps hk1
      replace hLg := hLg.keeps hk1
      have A2 := alike_any R2 _ _ _ _ V1 hs2.1 hs2.2.1 hLd hLg
      have hVd1 := blk_keeps hk1 hVd (fun h => h)
      have hVg1 := blk_keeps hk1 hVg (fun h => h)
      clear A1 x0 x1 x2 x3 x4 x5 x6 x7 x8 x9 x10 y0 y1 y2 y3 y4 y5 y6 y7 y8 y9 y10
      obtain ⟨x0, x1, x2, x3, x4, x5, x6, x7, x8, x9, x10, xf⟩ := PBox.all hVd1
      obtain ⟨y0, y1, y2, y3, y4, y5, y6, y7, y8, y9, y10, yf⟩ := PBox.all hVg1
      have e1 : IntKind.i64.wrap R1.err = R1.err := by rcases hs1.2.2 with h | h <;> rw [h] <;> decide
      have e2 : IntKind.i64.wrap R2.err = R2.err := by rcases hs2.2.2 with h | h <;> rw [h] <;> decide
      clear xf yf
      go_wp2_with fail
      refine A2.mono ?_
      rintro e V2 ⟨rfl, hk2⟩
      go_wp2_with fail
      go_ret
      exact ⟨rfl, keeps_below ((hkVg.trans hk1).trans hk2)⟩
    · obtain ⟨hVg, hkVg⟩ := set11 zCg (.int .i64 R2.n) (.slice Eg R2.E.length eg) (.int .i64 R2.q.lanes) (.int .i64 R2.q.room) (.int .i64 R2.q.queue) (.int .i64 R2.q.rounds) (.int .i64 R2.q.every) (.int .i64 R2.q.bag) (.slice Wg R2.ws.length wg) (.int .u16 R2.q.start) (.slice Ng R2.rows.length ng)
      have hbg : Vd.heap.size ≤ Bg.heap.size := by first | exact hBsg | exact Nat.le_refl _
      replace hLg := hLg.keepsF hkVg (fun k h1 h2 => by have h3 : k = Bg.heap.size := h2; first | omega | (simp at h1; omega))
      have hXVg := hXCg.then hkVg (fun k hk h2 => by have h3 : k = Bg.heap.size := h2; omega)
      clear zCg z0 z1 z2 z3 z4 z5 z6 z7 z8 z9 z10 zf hkVg
      generalize World.setCell _ _ _ = Vg at hVg hLg hXVg ⊢
      generalize Bg.heap.size = bg at hVg ⊢
      replace hLv := hLv.keeps hXVg
      replace hLw := hLw.keeps hXVg
      replace hLd := hLd.keeps hXVg
      replace hP7 := blk_keeps hXVg hP7 (fun h => h)
      replace hP9 := blk_keeps hXVg hP9 (fun h => h)
      replace hVd := blk_keeps hXVg hVd (fun h => h)
      have hkVg := hkVd.trans hXVg
      clear hXVg hPVd hkVd Pg Fg h0g hK0g hKDg hKAg hKSg
      obtain ⟨x0, x1, x2, x3, x4, x5, x6, x7, x8, x9, x10, xf⟩ := PBox.all hP7
      obtain ⟨y0, y1, y2, y3, y4, y5, y6, y7, y8, y9, y10, yf⟩ := PBox.all hP9
      have A1 := alike_any R1 _ _ _ _ Vg hs1.1 hs1.2.1 hLv hLw
      clear xf yf
      go_wp2_with fail
      refine A1.mono ?_
      rintro e V1 ⟨rfl, hk1⟩
      replace hLd := hLd.keeps hk1
      replace hLg := hLg.keeps hk1
      have A2 := alike_any R2 _ _ _ _ V1 hs2.1 hs2.2.1 hLd hLg
      have hVd1 := blk_keeps hk1 hVd (fun h => h)
      have hVg1 := blk_keeps hk1 hVg (fun h => h)
      clear A1 x0 x1 x2 x3 x4 x5 x6 x7 x8 x9 x10 y0 y1 y2 y3 y4 y5 y6 y7 y8 y9 y10
      obtain ⟨x0, x1, x2, x3, x4, x5, x6, x7, x8, x9, x10, xf⟩ := PBox.all hVd1
      obtain ⟨y0, y1, y2, y3, y4, y5, y6, y7, y8, y9, y10, yf⟩ := PBox.all hVg1
      have e1 : IntKind.i64.wrap R1.err = R1.err := by rcases hs1.2.2 with h | h <;> rw [h] <;> decide
      have e2 : IntKind.i64.wrap R2.err = R2.err := by rcases hs2.2.2 with h | h <;> rw [h] <;> decide
      clear xf yf
      go_wp2_with fail
      refine A2.mono ?_
      rintro e V2 ⟨rfl, hk2⟩
      go_wp2_with fail
      go_ret
      exact ⟨rfl, keeps_below ((hkVg.trans hk1).trans hk2)⟩
    · have hzlg := blk_lt zBg
      obtain ⟨hVg, hkVg⟩ := set11 zCg (.int .i64 R2.n) (.slice Eg R2.E.length eg) (.int .i64 R2.q.lanes) (.int .i64 R2.q.room) (.int .i64 R2.q.queue) (.int .i64 R2.q.rounds) (.int .i64 R2.q.every) (.int .i64 R2.q.bag) (.slice Wg R2.ws.length wg) (.int .u16 R2.q.start) (.slice Ng R2.rows.length ng)
      have hbg : Vd.heap.size ≤ Vd.heap.size := by first | exact hBsg | exact Nat.le_refl _
      replace hLg := hLg.keepsF hkVg (fun k h1 h2 => by have h3 : k = Vd.heap.size := h2; first | omega | (simp at h1; omega))
      have hXVg := hXCg.then hkVg (fun k hk h2 => by have h3 : k = Vd.heap.size := h2; omega)
      clear zCg z0 z1 z2 z3 z4 z5 z6 z7 z8 z9 z10 zf hkVg
      generalize World.setCell _ _ _ = Vg at hVg hLg hXVg ⊢
      generalize Vd.heap.size = bg at hVg ⊢
      replace hLv := hLv.keeps hXVg
      replace hLw := hLw.keeps hXVg
      replace hLd := hLd.keeps hXVg
      replace hP7 := blk_keeps hXVg hP7 (fun h => h)
      replace hP9 := blk_keeps hXVg hP9 (fun h => h)
      replace hVd := blk_keeps hXVg hVd (fun h => h)
      have hkVg := hkVd.trans hXVg
      clear hXVg hPVd hkVd Pg Fg h0g hK0g hKDg hKAg hKSg
      obtain ⟨x0, x1, x2, x3, x4, x5, x6, x7, x8, x9, x10, xf⟩ := PBox.all hP7
      obtain ⟨y0, y1, y2, y3, y4, y5, y6, y7, y8, y9, y10, yf⟩ := PBox.all hP9
      have A1 := alike_any R1 _ _ _ _ Vg hs1.1 hs1.2.1 hLv hLw
      clear xf yf
      go_wp2_with fail
      refine A1.mono ?_
      rintro e V1 ⟨rfl, hk1⟩
      replace hLd := hLd.keeps hk1
      replace hLg := hLg.keeps hk1
      have A2 := alike_any R2 _ _ _ _ V1 hs2.1 hs2.2.1 hLd hLg
      have hVd1 := blk_keeps hk1 hVd (fun h => h)
      have hVg1 := blk_keeps hk1 hVg (fun h => h)
      clear A1 x0 x1 x2 x3 x4 x5 x6 x7 x8 x9 x10 y0 y1 y2 y3 y4 y5 y6 y7 y8 y9 y10
      obtain ⟨x0, x1, x2, x3, x4, x5, x6, x7, x8, x9, x10, xf⟩ := PBox.all hVd1
      obtain ⟨y0, y1, y2, y3, y4, y5, y6, y7, y8, y9, y10, yf⟩ := PBox.all hVg1
      have e1 : IntKind.i64.wrap R1.err = R1.err := by rcases hs1.2.2 with h | h <;> rw [h] <;> decide
      have e2 : IntKind.i64.wrap R2.err = R2.err := by rcases hs2.2.2 with h | h <;> rw [h] <;> decide
      clear xf yf
      go_wp2_with fail
      refine A2.mono ?_
      rintro e V2 ⟨rfl, hk2⟩
      go_wp2_with fail
      go_ret
      exact ⟨rfl, keeps_below ((hkVg.trans hk1).trans hk2)⟩
  · have hzld := blk_lt zBd
    obtain ⟨hVd, hkVd⟩ := set11 zCd (.int .i64 R2.n) (.slice Ed R2.E.length ed) (.int .i64 R2.q.lanes) (.int .i64 R2.q.room) (.int .i64 R2.q.queue) (.int .i64 R2.q.rounds) (.int .i64 R2.q.every) (.int .i64 R2.q.bag) (.slice Wd R2.ws.length wd) (.int .u16 R2.q.start) (.slice Nd R2.rows.length nd)
    have hbd : U.heap.size ≤ U.heap.size := by first | exact hBsd | exact Nat.le_refl _
    replace hLd := hLd.keepsF hkVd (fun k h1 h2 => by have h3 : k = U.heap.size := h2; first | omega | (simp at h1; omega))
    have hXVd := hXCd.then hkVd (fun k hk h2 => by have h3 : k = U.heap.size := h2; omega)
    clear zCd z0 z1 z2 z3 z4 z5 z6 z7 z8 z9 z10 zf hkVd
    generalize World.setCell _ _ _ = Vd at hVd hLd hXVd ⊢
    generalize U.heap.size = bd at hVd ⊢
    replace hLv := hLv.keeps hXVd
    replace hLw := hLw.keeps hXVd
    replace hP7 := blk_keeps hXVd hP7 (fun h => h)
    replace hP9 := blk_keeps hXVd hP9 (fun h => h)
    have hPVd := blk_keeps hXVd hPU (fun h => h)
    have hkVd := hkU.trans hXVd
    clear hXVd hPU hkU Pd Fd h0d hK0d hKDd hKAd hKSd
    try clear zBd
    go_wp2_with fail
    have Pg := Lib.hid (p := ∀ B, Keeps (fun _ => False) Vd B → Calls Try.prog 11 #[v2] B fun e w' => ∃ u, e = .returned u ∧ Keeps (fun _ => False) Vd w' ∧ Keeps (fun _ => False) B w' ∧
        ∀ V, Keeps (fun _ => False) w' V → Calls Try.prog 19 #[.agg #[.int .i64 n0, .slice Ea en ec, .int .i64 l1, .int .i64 l2, .int .i64 l3, .int .i64 l4, .int .i64 l5, .int .i64 l6, .slice Wa wl wc, .int .u16 l7, .slice Na nl nc], u] V fun e w'' => Keeps (fun _ => False) Vd w'' ∧ Keeps (fun _ => False) V w'' ∧ ∃ Eg Wg Ng eg wg ng, e = .returned (.tuple #[.agg #[.int .i64 R2.n, .slice Eg R2.E.length eg, .int .i64 R2.q.lanes, .int .i64 R2.q.room, .int .i64 R2.q.queue, .int .i64 R2.q.rounds, .int .i64 R2.q.every, .int .i64 R2.q.bag, .slice Wg R2.ws.length wg, .int .u16 R2.q.start, .slice Ng R2.rows.length ng], .int .i64 R2.err]) ∧ LayIs V w'' R2 (.agg #[.int .i64 R2.n, .slice Eg R2.E.length eg, .int .i64 R2.q.lanes, .int .i64 R2.q.room, .int .i64 R2.q.queue, .int .i64 R2.q.rounds, .int .i64 R2.q.every, .int .i64 R2.q.bag, .slice Wg R2.ws.length wg, .int .u16 R2.q.start, .slice Ng R2.rows.length ng])) fun B hB => by
      refine (KO.out B (hkVd.trans hB)).mono ?_
      rintro e C ⟨u, rfl, hC, h1, h2⟩
      refine ⟨u, rfl, hB.trans hC, hC, fun V hV => ?_⟩
      refine (h2 V hV).mono ?_
      rintro e D ⟨v, rfl, hL, hD⟩
      obtain ⟨Eg, eg, Wg, wg, Ng, ng, rfl, jj⟩ := id hL
      unfold Nums.plan at hL ⊢
      exact ⟨((hB.trans hC).trans hV).trans hD, hD, Eg, Wg, Ng, eg, wg, ng, rfl, hL⟩
    have Fg := Lib.hid (p := ∀ w', Keeps (fun _ => False) Vd w' → w'.cell? ⟨b3, 0, none⟩ = some (.int .i64 n0) ∧ w'.cell? ⟨b3, 1, none⟩ = some (.slice Ea en ec) ∧ w'.cell? ⟨b3, 2, none⟩ = some (.int .i64 l1) ∧ w'.cell? ⟨b3, 3, none⟩ = some (.int .i64 l2) ∧ w'.cell? ⟨b3, 4, none⟩ = some (.int .i64 l3) ∧ w'.cell? ⟨b3, 5, none⟩ = some (.int .i64 l4) ∧ w'.cell? ⟨b3, 6, none⟩ = some (.int .i64 l5) ∧ w'.cell? ⟨b3, 7, none⟩ = some (.int .i64 l6) ∧ w'.cell? ⟨b3, 8, none⟩ = some (.slice Wa wl wc) ∧ w'.cell? ⟨b3, 9, none⟩ = some (.int .u16 l7) ∧ w'.cell? ⟨b3, 10, none⟩ = some (.slice Na nl nc)) fun w' h => by
      obtain ⟨x0, x1, x2, x3, x4, x5, x6, x7, x8, x9, x10, _⟩ := PBox.all (blk_keeps h hPVd (fun h => h))
      exact ⟨x0, x1, x2, x3, x4, x5, x6, x7, x8, x9, x10⟩
    have h0g : Keeps (fun _ => False) Vd Vd.drew := Keeps.drew _ _
    have hK0g : Keeps (fun _ => False) Vd Vd := Keeps.refl _ _
    have hKDg : ∀ w : World, Keeps (fun _ => False) Vd w → Keeps (fun _ => False) Vd w.drew := fun w h => h.trans (Keeps.drew _ _)
    have hKAg : ∀ (w : World) (o : Obj), Keeps (fun _ => False) Vd w → Keeps (fun _ => False) Vd (w.alloc o) := fun w o h => h.trans (Keeps.alloc _ _ _)
    have hKSg : ∀ (w : World) (b k : Nat) (v : Value), Vd.heap.size ≤ b → Keeps (fun _ => False) Vd w → Keeps (fun _ => False) Vd (w.setCell ⟨b, k, none⟩ v) := fun w b k v hb h => h.then (Keeps.setCell (fun i => i = b) _ _ _ rfl) (fun i hi e => by omega)
    go_region_held (fun w' => w'.cell? ⟨b3, 0, none⟩ = some (.int .i64 n0) ∧ w'.cell? ⟨b3, 1, none⟩ = some (.slice Ea en ec) ∧ w'.cell? ⟨b3, 2, none⟩ = some (.int .i64 l1) ∧ w'.cell? ⟨b3, 3, none⟩ = some (.int .i64 l2) ∧ w'.cell? ⟨b3, 4, none⟩ = some (.int .i64 l3) ∧ w'.cell? ⟨b3, 5, none⟩ = some (.int .i64 l4) ∧ w'.cell? ⟨b3, 6, none⟩ = some (.int .i64 l5) ∧ w'.cell? ⟨b3, 7, none⟩ = some (.int .i64 l6) ∧ w'.cell? ⟨b3, 8, none⟩ = some (.slice Wa wl wc) ∧ w'.cell? ⟨b3, 9, none⟩ = some (.int .u16 l7) ∧ w'.cell? ⟨b3, 10, none⟩ = some (.slice Na nl nc)) ((refine Fg.out _ ?_; repeat (first | (with_reducible assumption) | (with_reducible refine hKAg _ _ ?_) | (with_reducible refine hKSg _ _ _ _ ?_ ?_) | (with_reducible refine hKDg _ ?_) | (with_reducible exact hK0g) | omega))) (first
      | (go_at_call 11; refine (Pg.out _ (by first | (with_reducible exact h0g) | (with_reducible exact hKDg _ (hKAg _ _ hK0g)))).mono ?_; rintro e Bg ⟨ug, rfl, hBg, hcBg, hlayg⟩; have hBsg := hBg.size; first | (have zBg : PBox Bg Vd.heap.size _ := blk_keeps hcBg (blk_new Vd _) (fun h => h)) | (have zBg : True := trivial))
      | (go_at_call 19; refine (hlayg _ (by first | (with_reducible exact Keeps.refl _ _) | (with_reducible exact Keeps.alloc _ _ _))).mono ?_; rintro e Cg ⟨hXCg, hcCg, Eg, Wg, Ng, eg, wg, ng, rfl, hLg⟩;
          first | (have zCg : PBox Cg Bg.heap.size _ := blk_keeps hcCg (blk_new _ _) (fun h => h); obtain ⟨z0, z1, z2, z3, z4, z5, z6, z7, z8, z9, z10, zf⟩ := PBox.all zCg) | (have zCg : PBox Cg Vd.heap.size _ := blk_keeps hcCg zBg (fun h => h); obtain ⟨z0, z1, z2, z3, z4, z5, z6, z7, z8, z9, z10, zf⟩ := PBox.all zCg) | (have zCg : True := trivial)))
    · have hVg : PBox (Cg.alloc (.cells #[.int .i64 R2.n, .slice Eg R2.E.length eg, .int .i64 R2.q.lanes, .int .i64 R2.q.room, .int .i64 R2.q.queue, .int .i64 R2.q.rounds, .int .i64 R2.q.every, .int .i64 R2.q.bag, .slice Wg R2.ws.length wg, .int .u16 R2.q.start, .slice Ng R2.rows.length ng] 29)) Cg.heap.size #[.int .i64 R2.n, .slice Eg R2.E.length eg, .int .i64 R2.q.lanes, .int .i64 R2.q.room, .int .i64 R2.q.queue, .int .i64 R2.q.rounds, .int .i64 R2.q.every, .int .i64 R2.q.bag, .slice Wg R2.ws.length wg, .int .u16 R2.q.start, .slice Ng R2.rows.length ng] := blk_new _ _
      have hkVg : Keeps (fun _ => False) Cg (Cg.alloc (.cells #[.int .i64 R2.n, .slice Eg R2.E.length eg, .int .i64 R2.q.lanes, .int .i64 R2.q.room, .int .i64 R2.q.queue, .int .i64 R2.q.rounds, .int .i64 R2.q.every, .int .i64 R2.q.bag, .slice Wg R2.ws.length wg, .int .u16 R2.q.start, .slice Ng R2.rows.length ng] 29)) := Keeps.alloc _ _ _
      replace hLg := hLg.keeps hkVg
      have hXVg : Keeps (fun _ => False) Vd (Cg.alloc (.cells #[.int .i64 R2.n, .slice Eg R2.E.length eg, .int .i64 R2.q.lanes, .int .i64 R2.q.room, .int .i64 R2.q.queue, .int .i64 R2.q.rounds, .int .i64 R2.q.every, .int .i64 R2.q.bag, .slice Wg R2.ws.length wg, .int .u16 R2.q.start, .slice Ng R2.rows.length ng] 29)) := hXCg.trans hkVg
      generalize Cg.alloc (.cells #[.int .i64 R2.n, .slice Eg R2.E.length eg, .int .i64 R2.q.lanes, .int .i64 R2.q.room, .int .i64 R2.q.queue, .int .i64 R2.q.rounds, .int .i64 R2.q.every, .int .i64 R2.q.bag, .slice Wg R2.ws.length wg, .int .u16 R2.q.start, .slice Ng R2.rows.length ng] 29) = Vg at hVg hLg hXVg ⊢
      generalize Cg.heap.size = bg at hVg ⊢
      clear hkVg
      replace hLv := hLv.keeps hXVg
      replace hLw := hLw.keeps hXVg
      replace hLd := hLd.keeps hXVg
      replace hP7 := blk_keeps hXVg hP7 (fun h => h)
      replace hP9 := blk_keeps hXVg hP9 (fun h => h)
      replace hVd := blk_keeps hXVg hVd (fun h => h)
      have hkVg := hkVd.trans hXVg
      clear hXVg hPVd hkVd Pg Fg h0g hK0g hKDg hKAg hKSg
      obtain ⟨x0, x1, x2, x3, x4, x5, x6, x7, x8, x9, x10, xf⟩ := PBox.all hP7
      obtain ⟨y0, y1, y2, y3, y4, y5, y6, y7, y8, y9, y10, yf⟩ := PBox.all hP9
      have A1 := alike_any R1 _ _ _ _ Vg hs1.1 hs1.2.1 hLv hLw
      clear xf yf
      go_wp2_with fail
      refine A1.mono ?_
      rintro e V1 ⟨rfl, hk1⟩
      replace hLd := hLd.keeps hk1
      replace hLg := hLg.keeps hk1
      have A2 := alike_any R2 _ _ _ _ V1 hs2.1 hs2.2.1 hLd hLg
      have hVd1 := blk_keeps hk1 hVd (fun h => h)
      have hVg1 := blk_keeps hk1 hVg (fun h => h)
      clear A1 x0 x1 x2 x3 x4 x5 x6 x7 x8 x9 x10 y0 y1 y2 y3 y4 y5 y6 y7 y8 y9 y10
      obtain ⟨x0, x1, x2, x3, x4, x5, x6, x7, x8, x9, x10, xf⟩ := PBox.all hVd1
      obtain ⟨y0, y1, y2, y3, y4, y5, y6, y7, y8, y9, y10, yf⟩ := PBox.all hVg1
      have e1 : IntKind.i64.wrap R1.err = R1.err := by rcases hs1.2.2 with h | h <;> rw [h] <;> decide
      have e2 : IntKind.i64.wrap R2.err = R2.err := by rcases hs2.2.2 with h | h <;> rw [h] <;> decide
      clear xf yf
      go_wp2_with fail
      refine A2.mono ?_
      rintro e V2 ⟨rfl, hk2⟩
      go_wp2_with fail
      go_ret
      exact ⟨rfl, keeps_below ((hkVg.trans hk1).trans hk2)⟩
    · obtain ⟨hVg, hkVg⟩ := set11 zCg (.int .i64 R2.n) (.slice Eg R2.E.length eg) (.int .i64 R2.q.lanes) (.int .i64 R2.q.room) (.int .i64 R2.q.queue) (.int .i64 R2.q.rounds) (.int .i64 R2.q.every) (.int .i64 R2.q.bag) (.slice Wg R2.ws.length wg) (.int .u16 R2.q.start) (.slice Ng R2.rows.length ng)
      have hbg : Vd.heap.size ≤ Bg.heap.size := by first | exact hBsg | exact Nat.le_refl _
      replace hLg := hLg.keepsF hkVg (fun k h1 h2 => by have h3 : k = Bg.heap.size := h2; first | omega | (simp at h1; omega))
      have hXVg := hXCg.then hkVg (fun k hk h2 => by have h3 : k = Bg.heap.size := h2; omega)
      clear zCg z0 z1 z2 z3 z4 z5 z6 z7 z8 z9 z10 zf hkVg
      generalize World.setCell _ _ _ = Vg at hVg hLg hXVg ⊢
      generalize Bg.heap.size = bg at hVg ⊢
      replace hLv := hLv.keeps hXVg
      replace hLw := hLw.keeps hXVg
      replace hLd := hLd.keeps hXVg
      replace hP7 := blk_keeps hXVg hP7 (fun h => h)
      replace hP9 := blk_keeps hXVg hP9 (fun h => h)
      replace hVd := blk_keeps hXVg hVd (fun h => h)
      have hkVg := hkVd.trans hXVg
      clear hXVg hPVd hkVd Pg Fg h0g hK0g hKDg hKAg hKSg
      obtain ⟨x0, x1, x2, x3, x4, x5, x6, x7, x8, x9, x10, xf⟩ := PBox.all hP7
      obtain ⟨y0, y1, y2, y3, y4, y5, y6, y7, y8, y9, y10, yf⟩ := PBox.all hP9
      have A1 := alike_any R1 _ _ _ _ Vg hs1.1 hs1.2.1 hLv hLw
      clear xf yf
      go_wp2_with fail
      refine A1.mono ?_
      rintro e V1 ⟨rfl, hk1⟩
      replace hLd := hLd.keeps hk1
      replace hLg := hLg.keeps hk1
      have A2 := alike_any R2 _ _ _ _ V1 hs2.1 hs2.2.1 hLd hLg
      have hVd1 := blk_keeps hk1 hVd (fun h => h)
      have hVg1 := blk_keeps hk1 hVg (fun h => h)
      clear A1 x0 x1 x2 x3 x4 x5 x6 x7 x8 x9 x10 y0 y1 y2 y3 y4 y5 y6 y7 y8 y9 y10
      obtain ⟨x0, x1, x2, x3, x4, x5, x6, x7, x8, x9, x10, xf⟩ := PBox.all hVd1
      obtain ⟨y0, y1, y2, y3, y4, y5, y6, y7, y8, y9, y10, yf⟩ := PBox.all hVg1
      have e1 : IntKind.i64.wrap R1.err = R1.err := by rcases hs1.2.2 with h | h <;> rw [h] <;> decide
      have e2 : IntKind.i64.wrap R2.err = R2.err := by rcases hs2.2.2 with h | h <;> rw [h] <;> decide
      clear xf yf
      go_wp2_with fail
      refine A2.mono ?_
      rintro e V2 ⟨rfl, hk2⟩
      go_wp2_with fail
      go_ret
      exact ⟨rfl, keeps_below ((hkVg.trans hk1).trans hk2)⟩
    · have hzlg := blk_lt zBg
      obtain ⟨hVg, hkVg⟩ := set11 zCg (.int .i64 R2.n) (.slice Eg R2.E.length eg) (.int .i64 R2.q.lanes) (.int .i64 R2.q.room) (.int .i64 R2.q.queue) (.int .i64 R2.q.rounds) (.int .i64 R2.q.every) (.int .i64 R2.q.bag) (.slice Wg R2.ws.length wg) (.int .u16 R2.q.start) (.slice Ng R2.rows.length ng)
      have hbg : Vd.heap.size ≤ Vd.heap.size := by first | exact hBsg | exact Nat.le_refl _
      replace hLg := hLg.keepsF hkVg (fun k h1 h2 => by have h3 : k = Vd.heap.size := h2; first | omega | (simp at h1; omega))
      have hXVg := hXCg.then hkVg (fun k hk h2 => by have h3 : k = Vd.heap.size := h2; omega)
      clear zCg z0 z1 z2 z3 z4 z5 z6 z7 z8 z9 z10 zf hkVg
      generalize World.setCell _ _ _ = Vg at hVg hLg hXVg ⊢
      generalize Vd.heap.size = bg at hVg ⊢
      replace hLv := hLv.keeps hXVg
      replace hLw := hLw.keeps hXVg
      replace hLd := hLd.keeps hXVg
      replace hP7 := blk_keeps hXVg hP7 (fun h => h)
      replace hP9 := blk_keeps hXVg hP9 (fun h => h)
      replace hVd := blk_keeps hXVg hVd (fun h => h)
      have hkVg := hkVd.trans hXVg
      clear hXVg hPVd hkVd Pg Fg h0g hK0g hKDg hKAg hKSg
      obtain ⟨x0, x1, x2, x3, x4, x5, x6, x7, x8, x9, x10, xf⟩ := PBox.all hP7
      obtain ⟨y0, y1, y2, y3, y4, y5, y6, y7, y8, y9, y10, yf⟩ := PBox.all hP9
      have A1 := alike_any R1 _ _ _ _ Vg hs1.1 hs1.2.1 hLv hLw
      clear xf yf
      go_wp2_with fail
      refine A1.mono ?_
      rintro e V1 ⟨rfl, hk1⟩
      replace hLd := hLd.keeps hk1
      replace hLg := hLg.keeps hk1
      have A2 := alike_any R2 _ _ _ _ V1 hs2.1 hs2.2.1 hLd hLg
      have hVd1 := blk_keeps hk1 hVd (fun h => h)
      have hVg1 := blk_keeps hk1 hVg (fun h => h)
      clear A1 x0 x1 x2 x3 x4 x5 x6 x7 x8 x9 x10 y0 y1 y2 y3 y4 y5 y6 y7 y8 y9 y10
      obtain ⟨x0, x1, x2, x3, x4, x5, x6, x7, x8, x9, x10, xf⟩ := PBox.all hVd1
      obtain ⟨y0, y1, y2, y3, y4, y5, y6, y7, y8, y9, y10, yf⟩ := PBox.all hVg1
      have e1 : IntKind.i64.wrap R1.err = R1.err := by rcases hs1.2.2 with h | h <;> rw [h] <;> decide
      have e2 : IntKind.i64.wrap R2.err = R2.err := by rcases hs2.2.2 with h | h <;> rw [h] <;> decide
      clear xf yf
      go_wp2_with fail
      refine A2.mono ?_
      rintro e V2 ⟨rfl, hk2⟩
      go_wp2_with fail
      go_ret
      exact ⟨rfl, keeps_below ((hkVg.trans hk1).trans hk2)⟩
end Go.Proofs.Ytcgddbbniahimaa
