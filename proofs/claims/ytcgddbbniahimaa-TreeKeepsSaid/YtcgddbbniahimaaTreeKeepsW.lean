/-
  The law TreeKeeps, walked.
-/
import Derived.Test.YtcgddbbniahimaaTreeMake
import Derived.Sort.AtCall
import Derived.Deep.RegionHeld
set_option linter.unusedVariables false
set_option linter.unusedSimpArgs false
namespace Go.Proofs.Ytcgddbbniahimaa
open Go.RowKit

theorem ofL_right (zs : List Nat) : rightI ((ofL zs).map Int.ofNat) = true := by
  obtain ⟨ht, _, h5⟩ := ofL_tree zs
  rw [right_yes (fun j h => by
    rw [List.getElem_map]
    have := ht j (by simpa using h)
    exact ⟨Int.natCast_nonneg _, Int.ofNat_le.2 this⟩)]
  exact decide_eq_true (by rw [List.length_map]; omega)

set_option maxHeartbeats 8000000 in
theorem treeKeeps_walk (v0 : Value) (a1 a2 a3 : Int) (W : World) (w0 : Arg Try.prog W 22 v0) (w1 : (Lit.int .u8 a1).wf = true) (w2 : (Lit.int .u8 a2).wf = true) (w3 : (Lit.int .u8 a3).wf = true) :
    Calls Try.prog 4 #[v0, .int .u8 a1, .int .u8 a2, .int .u8 a3] W fun e w' => e = .returned (.bool true) ∧ Below W.heap.size W w' := by
  obtain ⟨zs, hz, hR⟩ := bytes_of_arg w0
  obtain ⟨nd, rfl, hnd⟩ := u8_nat w1
  obtain ⟨rm, rfl, hrm⟩ := u8_nat w2
  obtain ⟨mr, rfl, hmr⟩ := u8_nat w3
  clear w0 w1 w2 w3
  obtain ⟨htree, hp, h5⟩ := ofL_tree zs
  have hright := ofL_right zs
  go_enter Try.func4, Try.ntmps4
  go_wp2_with fail
  refine (make_calls nd rm mr hnd hrm hmr W).mono ?_
  rintro e A ⟨Wa, wc, Na, nc, rfl, hw, hkA⟩
  have hL1 : 0 < 1 + mr % 3 := by omega
  have hL3 : 1 + mr % 3 ≤ 3 := by omega
  have hwl := makeW_length mr (1 + mr % 3)
  generalize makeW mr (1 + mr % 3) = ws at *
  generalize 1 + mr % 3 = L at *
  generalize makeNums rm mr = p at *
  obtain ⟨pl, pr, pq, po, pe, pb, pst⟩ := p
  generalize ((2 + nd % 5 : Nat) : Int) = n0 at *
  generalize 2 + nd % 5 = nn at *
  unfold Nums.plan
  go_wp2_with fail
  have hPX : PBox (A.alloc (.cells #[.int .i64 n0, .slice none 0 0, .int .i64 pl, .int .i64 pr, .int .i64 pq, .int .i64 po, .int .i64 pe, .int .i64 pb, .slice Wa L wc, .int .u16 pst, .slice Na nn nc] 29)) A.heap.size #[.int .i64 n0, .slice none 0 0, .int .i64 pl, .int .i64 pr, .int .i64 pq, .int .i64 po, .int .i64 pe, .int .i64 pb, .slice Wa L wc, .int .u16 pst, .slice Na nn nc] := blk_new _ _
  have hkX : Keeps (fun _ => False) A (A.alloc (.cells #[.int .i64 n0, .slice none 0 0, .int .i64 pl, .int .i64 pr, .int .i64 pq, .int .i64 po, .int .i64 pe, .int .i64 pb, .slice Wa L wc, .int .u16 pst, .slice Na nn nc] 29)) := Keeps.alloc _ _ _
  generalize A.alloc (.cells #[.int .i64 n0, .slice none 0 0, .int .i64 pl, .int .i64 pr, .int .i64 pq, .int .i64 po, .int .i64 pe, .int .i64 pb, .slice Wa L wc, .int .u16 pst, .slice Na nn nc] 29) = X at hPX hkX ⊢
  have hwX := hw.keeps hkX (fun _ _ h => h)
  have hbX : A.heap.size < X.heap.size := blk_lt hPX
  generalize A.heap.size = b9 at *
  have hkW := hkA.trans hkX
  have h0 : Keeps (fun _ => False) X X.drew := Keeps.drew _ _
  have P1 := Lib.hid (p := ∀ B, Keeps (fun _ => False) X B → Calls Try.prog 11 #[v0] B fun e w' => ∃ u, e = .returned u ∧ Keeps (fun _ => False) X w' ∧ Keeps (fun _ => False) B w' ∧
      ∀ B', Keeps (fun _ => False) w' B' → Calls Try.prog 12 #[.agg #[.int .i64 n0, .slice none 0 0, .int .i64 pl, .int .i64 pr, .int .i64 pq, .int .i64 po, .int .i64 pe, .int .i64 pb, .slice Wa L wc, .int .u16 pst, .slice Na nn nc], u] B' fun e w'' => Keeps (fun _ => False) X w'' ∧ Keeps (fun _ => False) B' w'' ∧
        ∃ Ea en ec Wb wb Nb nb nl m, e = .returned (.tuple #[.agg #[.int .i64 m, .slice Ea en ec, .int .i64 pl, .int .i64 pr, .int .i64 pq, .int .i64 po, .int .i64 pe, .int .i64 pb, .slice Wb L wb, .int .u16 pst, .slice Nb nl nb], .int .u16 0]) ∧
          QS w'' 3 1 (.slice Wb L wb) L (ws.map encI) ∧ ∀ k, (Value.slice Wb L wb).ownBlock = some k → X.heap.size ≤ k) fun B hB => by
    refine (of_calls v0 zs B (hR.keepsF (hkW.trans hB) (hkW.trans hB).size) hz).mono ?_
    rintro e C ⟨u, rfl, hu, hkC, _⟩
    obtain ⟨uA, uc, rfl, _, _⟩ := hu.shape
    refine ⟨_, rfl, hB.trans hkC, hkC, fun C' hC' => ?_⟩
    have hk' := (hB.trans hkC).trans hC'
    have hwC := hwX.keeps hk' (fun _ _ h => h)
    have hml : (ws.map Int.ofNat).length = L := by rw [List.length_map, hwl]
    have hrd : Reads C' C'.heap.size 1 (.slice Wa (ws.map Int.ofNat).length wc) (ws.map Int.ofNat).length ((ws.map Int.ofNat).map encZ) := by rw [hml, ← encN]; exact hwC.reads
    have cl := lay_yes ⟨pl, pr, pq, po, pe, pb, pst⟩ n0 none Wa Na 0 0 wc nn nc uA uc (ofL zs) (ws.map Int.ofNat) C' htree hp h5 (hu.keeps hC' (fun _ _ h => h)).reads hrd (by rw [hml]; omega) hright
    rw [hml] at cl
    refine cl.mono ?_
    rintro e D ⟨Ea, ec, Wb, wb, Nb, nb, rfl, _, _, q1, q2, _, hkD⟩
    rw [hml] at q1 q2
    refine ⟨hk'.trans hkD, hkD, Ea, _, ec, Wb, wb, Nb, nb, _, _, by rw [hml]; rfl, by rw [encN]; exact q1, fun k hk => Nat.le_trans hk'.size (q2 k hk)⟩
  have F1 := Lib.hid (p := ∀ B, Keeps (fun _ => False) X B → PBox B b9 #[.int .i64 n0, .slice none 0 0, .int .i64 pl, .int .i64 pr, .int .i64 pq, .int .i64 po, .int .i64 pe, .int .i64 pb, .slice Wa L wc, .int .u16 pst, .slice Na nn nc]) fun B hB => blk_keeps hB hPX (fun h => h)
  clear hR hw hkA htree hright
  go_wp2_with fail
  have F2 := Lib.hid (p := ∀ w', Keeps (fun _ => False) X w' → w'.cell? ⟨b9, 0, none⟩ = some (.int .i64 n0) ∧ w'.cell? ⟨b9, 1, none⟩ = some (.slice none 0 0) ∧ w'.cell? ⟨b9, 2, none⟩ = some (.int .i64 pl) ∧ w'.cell? ⟨b9, 3, none⟩ = some (.int .i64 pr) ∧ w'.cell? ⟨b9, 4, none⟩ = some (.int .i64 pq) ∧ w'.cell? ⟨b9, 5, none⟩ = some (.int .i64 po) ∧ w'.cell? ⟨b9, 6, none⟩ = some (.int .i64 pe) ∧ w'.cell? ⟨b9, 7, none⟩ = some (.int .i64 pb) ∧ w'.cell? ⟨b9, 8, none⟩ = some (.slice Wa L wc) ∧ w'.cell? ⟨b9, 9, none⟩ = some (.int .u16 pst) ∧ w'.cell? ⟨b9, 10, none⟩ = some (.slice Na nn nc)) fun w' h => by
    obtain ⟨x0, x1, x2, x3, x4, x5, x6, x7, x8, x9, x10, _⟩ := PBox.all (F1.out w' h)
    exact ⟨x0, x1, x2, x3, x4, x5, x6, x7, x8, x9, x10⟩
  have hK0 : Keeps (fun _ => False) X X := Keeps.refl _ _
  have hKD : ∀ w : World, Keeps (fun _ => False) X w → Keeps (fun _ => False) X w.drew := fun w h => h.trans (Keeps.drew _ _)
  have hKA : ∀ (w : World) (o : Obj), Keeps (fun _ => False) X w → Keeps (fun _ => False) X (w.alloc o) := fun w o h => h.trans (Keeps.alloc _ _ _)
  have hKS : ∀ (w : World) (b k : Nat) (v : Value), X.heap.size ≤ b → Keeps (fun _ => False) X w → Keeps (fun _ => False) X (w.setCell ⟨b, k, none⟩ v) := fun w b k v hb h => h.then (Keeps.setCell (fun i => i = b) _ _ _ rfl) (fun i hi e => by omega)
  go_region_held (fun w' => w'.cell? ⟨b9, 0, none⟩ = some (.int .i64 n0) ∧ w'.cell? ⟨b9, 1, none⟩ = some (.slice none 0 0) ∧ w'.cell? ⟨b9, 2, none⟩ = some (.int .i64 pl) ∧ w'.cell? ⟨b9, 3, none⟩ = some (.int .i64 pr) ∧ w'.cell? ⟨b9, 4, none⟩ = some (.int .i64 pq) ∧ w'.cell? ⟨b9, 5, none⟩ = some (.int .i64 po) ∧ w'.cell? ⟨b9, 6, none⟩ = some (.int .i64 pe) ∧ w'.cell? ⟨b9, 7, none⟩ = some (.int .i64 pb) ∧ w'.cell? ⟨b9, 8, none⟩ = some (.slice Wa L wc) ∧ w'.cell? ⟨b9, 9, none⟩ = some (.int .u16 pst) ∧ w'.cell? ⟨b9, 10, none⟩ = some (.slice Na nn nc)) ((refine F2.out _ ?_; repeat (first | (with_reducible assumption) | (with_reducible refine hKA _ _ ?_) | (with_reducible refine hKS _ _ _ _ ?_ ?_) | (with_reducible refine hKD _ ?_) | (with_reducible exact hK0) | omega))) (first
    | (go_at_call 11; refine (P1.out _ (by first | (with_reducible exact h0) | (with_reducible exact hKD _ (hKA _ _ hK0)))).mono ?_; rintro e B ⟨u, rfl, hB, hcB, hlay⟩; have hBs := hB.size; first | (have zB : PBox B X.heap.size _ := blk_keeps hcB (blk_new X _) (fun h => h)) | (have zB : True := trivial))
    | (go_at_call 12; refine (hlay _ (by first | (with_reducible exact Keeps.refl _ _) | (with_reducible exact Keeps.alloc _ _ _))).mono ?_; rintro e C ⟨hXC, hcC, Ea, en, ec, Wb, wb, Nb, nb, nl, m, rfl, q1, q2⟩;
        first | (have zC : PBox C B.heap.size _ := blk_keeps hcC (blk_new _ _) (fun h => h); obtain ⟨z0, z1, z2, z3, z4, z5, z6, z7, z8, z9, z10, zf⟩ := PBox.all zC) | (have zC : PBox C X.heap.size _ := blk_keeps hcC zB (fun h => h); obtain ⟨z0, z1, z2, z3, z4, z5, z6, z7, z8, z9, z10, zf⟩ := PBox.all zC) | (have zC : True := trivial)))
  · have hV : PBox (C.alloc (.cells #[.int .i64 m, .slice Ea en ec, .int .i64 pl, .int .i64 pr, .int .i64 pq, .int .i64 po, .int .i64 pe, .int .i64 pb, .slice Wb L wb, .int .u16 pst, .slice Nb nl nb] 29)) C.heap.size #[.int .i64 m, .slice Ea en ec, .int .i64 pl, .int .i64 pr, .int .i64 pq, .int .i64 po, .int .i64 pe, .int .i64 pb, .slice Wb L wb, .int .u16 pst, .slice Nb nl nb] := blk_new _ _
    have hkV : Keeps (fun k => k = C.heap.size) C (C.alloc (.cells #[.int .i64 m, .slice Ea en ec, .int .i64 pl, .int .i64 pr, .int .i64 pq, .int .i64 po, .int .i64 pe, .int .i64 pb, .slice Wb L wb, .int .u16 pst, .slice Nb nl nb] 29)) := Keeps.alloc _ _ _
    have hb10 : X.heap.size ≤ C.heap.size := hXC.size
    have hne10 : ∀ k, (Value.slice Wb L wb).ownBlock = some k → k ≠ C.heap.size := fun k hk => by have := q1.lt k hk; omega
    generalize C.alloc (.cells #[.int .i64 m, .slice Ea en ec, .int .i64 pl, .int .i64 pr, .int .i64 pq, .int .i64 po, .int .i64 pe, .int .i64 pb, .slice Wb L wb, .int .u16 pst, .slice Nb nl nb] 29) = V at hV hkV ⊢
    generalize C.heap.size = b10 at hV hkV hb10 hne10 ⊢
    have hb9 : b9 ≠ b10 := by omega
    have hVX : Keeps (fun k => k = b10) X V := (hXC.mono (fun _ _ h => h.elim)).trans hkV
    have h9 := blk_keeps hkV (F1.out C hXC) hb9
    have wsV := (hwX.keeps hXC (fun _ _ h => h)).keeps hkV (fun k hk h => by have := hwX.lt k hk; omega)
    have wbV := q1.keeps hkV (fun k hk h => hne10 k hk h)
    have hkWV : Keeps (fun _ => False) W V := hkW.then hVX (fun i hi h => by have := hkW.size; omega)
    obtain ⟨x0, x1, x2, x3, x4, x5, x6, x7, x8, x9, x10, xf⟩ := PBox.all h9
    obtain ⟨y0, y1, y2, y3, y4, y5, y6, y7, y8, y9, y10, yf⟩ := PBox.all hV
    have hml : (ws.map Int.ofNat).length = L := by rw [List.length_map, hwl]
    have sm := same_calls (.slice Wb L wb) (.slice Wa L wc) (ws.map Int.ofNat) V (by rw [hml, ← encN]; exact wbV.reads) (by rw [hml, ← encN]; exact wsV.reads)
    clear hwl hml xf yf
    go_wp2_with fail
    refine sm.mono ?_
    rintro e D ⟨rfl, hkD⟩
    clear sm x0 x1 x2 x3 x4 x5 x6 x7 x8 x9 x10 y0 y1 y2 y3 y4 y5 y6 y7 y8 y9 y10
    have d9 : PBox D b9 _ := blk_keeps hkD h9 (fun h => h)
    have d10 : PBox D b10 _ := blk_keeps hkD hV (fun h => h)
    have x8 := (PBox.all d9).2.2.2.2.2.2.2.2.1
    have y8 := (PBox.all d10).2.2.2.2.2.2.2.2.1
    have wsD := wsV.keeps hkD (fun _ _ h => h)
    have wbD := wbV.keeps hkD (fun _ _ h => h)
    obtain ⟨ga, oa, olda, ea, ca, _⟩ := wsD.spot 0 hL1
    obtain ⟨gb, ob, oldb, eb, cb, fb⟩ := wbD.spot 0 hL1
    subst ea; subst eb
    have hga := hwX.lt ga rfl
    have hgb := q2 gb rfl
    obtain ⟨f, hf⟩ : ∃ f : Nat, olda = encI f := by
      obtain ⟨g', o', c', e', _, hc, _⟩ := wsD.cell hL1
      cases e'
      have hlen : ws.length = L := by have := wsD.1; simpa using this
      have h2 := hc 0 _ (by rw [List.getElem?_map, List.getElem?_eq_getElem (by omega)]; rfl)
      rw [ca] at h2
      injection h2 with h2
      exact ⟨_, h2⟩
    subst hf
    have ca0 : D.cell? ⟨ga, oa, none⟩ = some (encI f) := ca
    have cb0 : D.cell? ⟨gb, ob, none⟩ = some oldb := cb
    have fb0 : D.frozen? ⟨gb, ob, none⟩ = false := fb
    have hL0 : (0 : Int) < (L : Int) := by omega
    clear ca cb fb
    go_wp2_with fail
    refine (known_calls _).mono ?_
    rintro e E ⟨rfl, hkE⟩
    have hk5 : Keeps (fun k => k = gb) D (D.setCell ⟨gb, ob, none⟩ (.int .i64 99)) := Keeps.setCell _ _ _ _ rfl
    have hk6 := hk5.trans (hkE.mono (fun _ _ h => h.elim))
    have x8' := hk6.cell x8 (by simp; omega)
    have ca' := hk6.cell ca0 (by simp; omega)
    clear x8 y8 ca0 cb0 fb0
    go_wp2_with fail
    go_ret
    exact ⟨rfl, keeps_below ((hkWV.trans hkD).then hk6 (fun i hi h => by have := hkW.size; omega))⟩
  · obtain ⟨hV, hkV⟩ := set11 zC (.int .i64 m) (.slice Ea en ec) (.int .i64 pl) (.int .i64 pr) (.int .i64 pq) (.int .i64 po) (.int .i64 pe) (.int .i64 pb) (.slice Wb L wb) (.int .u16 pst) (.slice Nb nl nb)
    have hne10 : ∀ k, (Value.slice Wb L wb).ownBlock = some k → k ≠ B.heap.size := fun k hk h => by
      obtain ⟨cur, hc⟩ := q1.typed k hk
      rw [h, show C.heap[B.heap.size]? = _ from zC] at hc
      injection hc with hc
      injection hc with _ e1
      exact absurd e1 (by decide)
    have hb10 : X.heap.size ≤ B.heap.size := hB.size
    generalize World.setCell _ _ _ = V at hV hkV ⊢
    generalize B.heap.size = b10 at hV hkV hb10 hne10 ⊢
    have hb9 : b9 ≠ b10 := by omega
    have hVX : Keeps (fun k => k = b10) X V := (hXC.mono (fun _ _ h => h.elim)).trans hkV
    have h9 := blk_keeps hkV (F1.out C hXC) hb9
    have wsV := (hwX.keeps hXC (fun _ _ h => h)).keeps hkV (fun k hk h => by have := hwX.lt k hk; omega)
    have wbV := q1.keeps hkV (fun k hk h => hne10 k hk h)
    have hkWV : Keeps (fun _ => False) W V := hkW.then hVX (fun i hi h => by have := hkW.size; omega)
    obtain ⟨x0, x1, x2, x3, x4, x5, x6, x7, x8, x9, x10, xf⟩ := PBox.all h9
    obtain ⟨y0, y1, y2, y3, y4, y5, y6, y7, y8, y9, y10, yf⟩ := PBox.all hV
    have hml : (ws.map Int.ofNat).length = L := by rw [List.length_map, hwl]
    have sm := same_calls (.slice Wb L wb) (.slice Wa L wc) (ws.map Int.ofNat) V (by rw [hml, ← encN]; exact wbV.reads) (by rw [hml, ← encN]; exact wsV.reads)
    clear hwl hml xf yf
    go_wp2_with fail
    refine sm.mono ?_
    rintro e D ⟨rfl, hkD⟩
    clear sm x0 x1 x2 x3 x4 x5 x6 x7 x8 x9 x10 y0 y1 y2 y3 y4 y5 y6 y7 y8 y9 y10
    have d9 : PBox D b9 _ := blk_keeps hkD h9 (fun h => h)
    have d10 : PBox D b10 _ := blk_keeps hkD hV (fun h => h)
    have x8 := (PBox.all d9).2.2.2.2.2.2.2.2.1
    have y8 := (PBox.all d10).2.2.2.2.2.2.2.2.1
    have wsD := wsV.keeps hkD (fun _ _ h => h)
    have wbD := wbV.keeps hkD (fun _ _ h => h)
    obtain ⟨ga, oa, olda, ea, ca, _⟩ := wsD.spot 0 hL1
    obtain ⟨gb, ob, oldb, eb, cb, fb⟩ := wbD.spot 0 hL1
    subst ea; subst eb
    have hga := hwX.lt ga rfl
    have hgb := q2 gb rfl
    obtain ⟨f, hf⟩ : ∃ f : Nat, olda = encI f := by
      obtain ⟨g', o', c', e', _, hc, _⟩ := wsD.cell hL1
      cases e'
      have hlen : ws.length = L := by have := wsD.1; simpa using this
      have h2 := hc 0 _ (by rw [List.getElem?_map, List.getElem?_eq_getElem (by omega)]; rfl)
      rw [ca] at h2
      injection h2 with h2
      exact ⟨_, h2⟩
    subst hf
    have ca0 : D.cell? ⟨ga, oa, none⟩ = some (encI f) := ca
    have cb0 : D.cell? ⟨gb, ob, none⟩ = some oldb := cb
    have fb0 : D.frozen? ⟨gb, ob, none⟩ = false := fb
    have hL0 : (0 : Int) < (L : Int) := by omega
    clear ca cb fb
    go_wp2_with fail
    refine (known_calls _).mono ?_
    rintro e E ⟨rfl, hkE⟩
    have hk5 : Keeps (fun k => k = gb) D (D.setCell ⟨gb, ob, none⟩ (.int .i64 99)) := Keeps.setCell _ _ _ _ rfl
    have hk6 := hk5.trans (hkE.mono (fun _ _ h => h.elim))
    have x8' := hk6.cell x8 (by simp; omega)
    have ca' := hk6.cell ca0 (by simp; omega)
    clear x8 y8 ca0 cb0 fb0
    go_wp2_with fail
    go_ret
    exact ⟨rfl, keeps_below ((hkWV.trans hkD).then hk6 (fun i hi h => by have := hkW.size; omega))⟩
  · obtain ⟨hV, hkV⟩ := set11 zC (.int .i64 m) (.slice Ea en ec) (.int .i64 pl) (.int .i64 pr) (.int .i64 pq) (.int .i64 po) (.int .i64 pe) (.int .i64 pb) (.slice Wb L wb) (.int .u16 pst) (.slice Nb nl nb)
    have hne10 : ∀ k, (Value.slice Wb L wb).ownBlock = some k → k ≠ X.heap.size := fun k hk h => by
      obtain ⟨cur, hc⟩ := q1.typed k hk
      rw [h, show C.heap[X.heap.size]? = _ from zC] at hc
      injection hc with hc
      injection hc with _ e1
      exact absurd e1 (by decide)
    have hb10 : X.heap.size ≤ X.heap.size := Nat.le_refl _
    generalize World.setCell _ _ _ = V at hV hkV ⊢
    have hb9 : b9 ≠ X.heap.size := by omega
    have hVX : Keeps (fun k => k = X.heap.size) X V := (hXC.mono (fun _ _ h => h.elim)).trans hkV
    have h9 := blk_keeps hkV (F1.out C hXC) hb9
    have wsV := (hwX.keeps hXC (fun _ _ h => h)).keeps hkV (fun k hk h => by have := hwX.lt k hk; omega)
    have wbV := q1.keeps hkV (fun k hk h => hne10 k hk h)
    have hkWV : Keeps (fun _ => False) W V := hkW.then hVX (fun i hi h => by have := hkW.size; omega)
    obtain ⟨x0, x1, x2, x3, x4, x5, x6, x7, x8, x9, x10, xf⟩ := PBox.all h9
    obtain ⟨y0, y1, y2, y3, y4, y5, y6, y7, y8, y9, y10, yf⟩ := PBox.all hV
    have hml : (ws.map Int.ofNat).length = L := by rw [List.length_map, hwl]
    have sm := same_calls (.slice Wb L wb) (.slice Wa L wc) (ws.map Int.ofNat) V (by rw [hml, ← encN]; exact wbV.reads) (by rw [hml, ← encN]; exact wsV.reads)
    clear hwl hml xf yf
    go_wp2_with fail
    refine sm.mono ?_
    rintro e D ⟨rfl, hkD⟩
    clear sm x0 x1 x2 x3 x4 x5 x6 x7 x8 x9 x10 y0 y1 y2 y3 y4 y5 y6 y7 y8 y9 y10
    have d9 : PBox D b9 _ := blk_keeps hkD h9 (fun h => h)
    have d10 : PBox D X.heap.size _ := blk_keeps hkD hV (fun h => h)
    have x8 := (PBox.all d9).2.2.2.2.2.2.2.2.1
    have y8 := (PBox.all d10).2.2.2.2.2.2.2.2.1
    have wsD := wsV.keeps hkD (fun _ _ h => h)
    have wbD := wbV.keeps hkD (fun _ _ h => h)
    obtain ⟨ga, oa, olda, ea, ca, _⟩ := wsD.spot 0 hL1
    obtain ⟨gb, ob, oldb, eb, cb, fb⟩ := wbD.spot 0 hL1
    subst ea; subst eb
    have hga := hwX.lt ga rfl
    have hgb := q2 gb rfl
    obtain ⟨f, hf⟩ : ∃ f : Nat, olda = encI f := by
      obtain ⟨g', o', c', e', _, hc, _⟩ := wsD.cell hL1
      cases e'
      have hlen : ws.length = L := by have := wsD.1; simpa using this
      have h2 := hc 0 _ (by rw [List.getElem?_map, List.getElem?_eq_getElem (by omega)]; rfl)
      rw [ca] at h2
      injection h2 with h2
      exact ⟨_, h2⟩
    subst hf
    have ca0 : D.cell? ⟨ga, oa, none⟩ = some (encI f) := ca
    have cb0 : D.cell? ⟨gb, ob, none⟩ = some oldb := cb
    have fb0 : D.frozen? ⟨gb, ob, none⟩ = false := fb
    have hL0 : (0 : Int) < (L : Int) := by omega
    clear ca cb fb
    go_wp2_with fail
    refine (known_calls _).mono ?_
    rintro e E ⟨rfl, hkE⟩
    have hk5 : Keeps (fun k => k = gb) D (D.setCell ⟨gb, ob, none⟩ (.int .i64 99)) := Keeps.setCell _ _ _ _ rfl
    have hk6 := hk5.trans (hkE.mono (fun _ _ h => h.elim))
    have x8' := hk6.cell x8 (by simp; omega)
    have ca' := hk6.cell ca0 (by simp; omega)
    clear x8 y8 ca0 cb0 fb0
    go_wp2_with fail
    go_ret
    exact ⟨rfl, keeps_below ((hkWV.trans hkD).then hk6 (fun i hi h => by have := hkW.size; omega))⟩
end Go.Proofs.Ytcgddbbniahimaa
