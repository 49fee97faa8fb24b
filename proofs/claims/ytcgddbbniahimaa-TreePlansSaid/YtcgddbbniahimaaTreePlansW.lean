/-
  The law TreePlans, walked.
-/
import Derived.Test.YtcgddbbniahimaaTreeCheckG
set_option linter.unusedVariables false
set_option linter.unusedSimpArgs false
namespace Go.Proofs.Ytcgddbbniahimaa
open Go.RowKit

theorem ofL_right2 (zs : List Nat) : rightI ((ofL zs).map Int.ofNat) = true := by
  obtain ⟨ht, _, h5⟩ := ofL_tree zs
  rw [right_yes (fun j h => by
    rw [List.getElem_map]
    have := ht j (by simpa using h)
    exact ⟨Int.natCast_nonneg _, Int.ofNat_le.2 this⟩)]
  exact decide_eq_true (by rw [List.length_map]; omega)
theorem edgesOf_at (t : List Nat) (n i : Nat) (h : i < (edgesOf t n).length) : (edgesOf t n)[i] = (t.getD i 0, i + 1) := by simp [edgesOf]
theorem edges_good {t : List Nat} (ht : Tree t) : ∀ (i : Nat) (h : i < (edgesOf t t.length).length), (edgesOf t t.length)[i].1 < (edgesOf t t.length)[i].2 ∧ ((edgesOf t t.length)[i].2 : Int) < ((t.length + 1 : Nat) : Int) ∧
    ∀ e ∈ (edgesOf t t.length).take i, e ≠ (edgesOf t t.length)[i] := by
  intro i h
  have hi : i < t.length := by rw [edgesOf_length] at h; exact h
  rw [edgesOf_at]
  refine ⟨?_, by omega, fun e he => ?_⟩
  · have := ht i hi
    rw [List.getD_eq_getElem?_getD, List.getElem?_eq_getElem hi]
    show t[i] < i + 1
    omega
  · obtain ⟨j, hj, rfl⟩ := List.getElem_of_mem he
    rw [List.length_take] at hj
    rw [List.getElem_take, edgesOf_at]
    intro e
    have := congrArg Prod.snd e
    simp only at this
    omega
theorem make_within (rm mr : Nat) (n : Int) (h : 2 ≤ n ∧ n ≤ 6) : Within (makeNums rm mr) n := by
  unfold makeNums
  exact ⟨h, by simp only; omega, by simp only; omega, by simp only; omega, by simp only; omega, by simp only; omega, by simp only; omega⟩
theorem makeW_good (mr i : Nat) : ∀ x ∈ (makeW mr i).map Int.ofNat, 1 ≤ x ∧ x ≤ 5 := by
  intro x hx
  obtain ⟨y, hy, rfl⟩ := List.mem_map.1 hx
  obtain ⟨k, _, rfl⟩ := List.mem_map.1 hy
  have := Nat.mod_lt (k + mr) (show 5 > 0 by decide)
  show (1 : Int) ≤ ((1 + (k + mr) % 5 : Nat) : Int) ∧ ((1 + (k + mr) % 5 : Nat) : Int) ≤ 5
  omega

set_option maxRecDepth 100000 in
set_option maxHeartbeats 8000000 in
theorem treePlans_walk (v0 : Value) (a1 a2 a3 : Int) (W : World) (w0 : Arg Try.prog W 22 v0) (w1 : (Lit.int .u8 a1).wf = true) (w2 : (Lit.int .u8 a2).wf = true) (w3 : (Lit.int .u8 a3).wf = true) :
    Calls Try.prog 10 #[v0, .int .u8 a1, .int .u8 a2, .int .u8 a3] W fun e w' => e = .returned (.bool true) ∧ Below W.heap.size W w' := by
  obtain ⟨zs, hz, hR⟩ := bytes_of_arg w0
  obtain ⟨nd, rfl, hnd⟩ := u8_nat w1
  obtain ⟨rm, rfl, hrm⟩ := u8_nat w2
  obtain ⟨mr, rfl, hmr⟩ := u8_nat w3
  clear w0 w1 w2 w3
  obtain ⟨htree, hp, h5⟩ := ofL_tree zs
  have hright := ofL_right2 zs
  have HOf := Lib.hid (p := ∀ B, Keeps (fun _ => False) W B → Calls Try.prog 11 #[v0] B fun e w' => ∃ uA uc, e = .returned (.slice uA (ofL zs).length uc) ∧ QS w' 3 1 (.slice uA (ofL zs).length uc) (ofL zs).length ((ofL zs).map encI) ∧ Keeps (fun _ => False) B w') fun B hB => by
    refine (of_calls v0 zs B (hR.keepsF hB hB.size) hz).mono ?_
    rintro e C ⟨u, rfl, hu, hkC, _⟩
    obtain ⟨uA, uc, rfl, _, _⟩ := hu.shape
    exact ⟨uA, uc, rfl, hu, hkC⟩
  have hwith := make_within rm mr (((ofL zs).length + 1 : Nat) : Int) (by omega)
  have hgoodw := makeW_good mr (1 + mr % 3)
  have hgoode := edges_good htree
  clear hR hz
  go_enter Try.func10, Try.ntmps10
  go_wp2_with fail
  refine (make_calls nd rm mr hnd hrm hmr W).mono ?_
  rintro e A ⟨Wa, wc, Na, nc, rfl, hw, hkA⟩
  have hL1 : 0 < 1 + mr % 3 := by omega
  have hL3 : 1 + mr % 3 ≤ 3 := by omega
  have hwl := makeW_length mr (1 + mr % 3)
  have hlan : (makeNums rm mr).lanes = ((1 + mr % 3 : Nat) : Int) := rfl
  generalize makeW mr (1 + mr % 3) = ws at *
  generalize 1 + mr % 3 = L at *
  generalize makeNums rm mr = p at *
  obtain ⟨pl, pr, pq, po, pe, pb, pst⟩ := p
  simp only at hlan
  subst hlan
  generalize ((2 + nd % 5 : Nat) : Int) = n0 at *
  generalize 2 + nd % 5 = nn at *
  unfold Nums.plan
  go_wp2_with fail
  refine (HOf.out A hkA).mono ?_
  rintro e B ⟨uA, uc, rfl, hu, hkB⟩
  have hml : (ws.map Int.ofNat).length = L := by rw [List.length_map, hwl]
  have hwB := hw.keeps hkB (fun _ _ h => h)
  have hrd : Reads B B.heap.size 1 (.slice Wa (ws.map Int.ofNat).length wc) (ws.map Int.ofNat).length ((ws.map Int.ofNat).map encZ) := by rw [hml, ← encN]; exact hwB.reads
  have cl := lay_yes ⟨L, pr, pq, po, pe, pb, pst⟩ n0 none Wa Na 0 0 wc nn nc uA uc (ofL zs) (ws.map Int.ofNat) B htree hp h5 hu.reads hrd (by rw [hml]; omega) hright
  rw [hml] at cl
  unfold Nums.plan at cl
  go_wp2_with fail
  refine cl.mono ?_
  rintro e C ⟨Ea, ec, Wb, wb, Nb, nb, rfl, q1, _, q3, _, q5, hkC⟩
  clear cl hrd hwB hw hu hright
  have hkWC := (hkA.trans hkB).trans hkC
  clear hkA hkB hkC
  rw [hml] at q3 ⊢
  obtain ⟨vs, n1, _, _, n4⟩ := q5
  rw [rowsOf_length] at n1
  have hvl : vs.length = (ofL zs).length + 1 := by have := n1.1; omega
  have hrows : ∀ u ∈ vs, ∃ A c, u = .slice A ((ofL zs).length + 1) c := fun u hu => by
    obtain ⟨i, hi, rfl⟩ := List.getElem_of_mem hu
    have h1 : (rowsOf (ofL zs) ((ofL zs).length + 1))[i]? = some (rowOf (ofL zs) i) := by unfold rowsOf; rw [List.getElem?_map, List.getElem?_range (by omega)]; rfl
    obtain ⟨h2, _⟩ := n4 i _ _ (List.getElem?_eq_getElem hi) h1
    rw [rowOf_length] at h2
    obtain ⟨A, c, e, _, _⟩ := h2.shape
    exact ⟨A, c, e⟩
  clear n4
  have hel := edgesOf_length (ofL zs) (ofL zs).length
  have CC := Lib.hid (p := ∀ V, Keeps (fun _ => False) C V → Calls Try.prog 22 #[.agg #[.int .i64 (((ofL zs).length + 1 : Nat) : Int), .slice Ea (ofL zs).length ec, .int .i64 (L : Int), .int .i64 pr, .int .i64 pq, .int .i64 po, .int .i64 pe, .int .i64 pb, .slice Wb L wb, .int .u16 pst, .slice Nb ((ofL zs).length + 1) nb]] V fun e w' => e = .returned (.int .u16 0) ∧ Keeps (fun _ => False) V w') fun V hV => by
    have h3 := check_calls ⟨L, pr, pq, po, pe, pb, pst⟩ ((ofL zs).length + 1) (edgesOf (ofL zs) (ofL zs).length) (ws.map Int.ofNat) vs Ea Wb Nb ec wb nb V hwith (by rw [hml]) (by rw [hel]; exact q1.keeps hV (fun _ _ h => h)) (by rw [hel]; exact h5) hgoode
      (by rw [hml]; exact (q3.keeps hV (fun _ _ h => h)).reads) hgoodw (n1.keeps hV (fun _ _ h => h)) hrows
    rw [hel, hml] at h3
    exact h3
  clear q1 q3 n1 hrows hgoode hgoodw hwith hel htree
  generalize (ofL zs).length = T at *
  unfold Nums.plan
  dsimp only
  go_wp2_with fail
  have hkD : Keeps (fun _ => False) C (C.alloc (.cells #[.int .i64 ((T : Int) + 1), .slice Ea T ec, .int .i64 (L : Int), .int .i64 pr, .int .i64 pq, .int .i64 po, .int .i64 pe, .int .i64 pb, .slice Wb L wb, .int .u16 pst, .slice Nb (T + 1) nb] 29)) := Keeps.alloc _ _ _
  have hPD : PBox (C.alloc (.cells #[.int .i64 ((T : Int) + 1), .slice Ea T ec, .int .i64 (L : Int), .int .i64 pr, .int .i64 pq, .int .i64 po, .int .i64 pe, .int .i64 pb, .slice Wb L wb, .int .u16 pst, .slice Nb (T + 1) nb] 29)) C.heap.size #[.int .i64 ((T : Int) + 1), .slice Ea T ec, .int .i64 (L : Int), .int .i64 pr, .int .i64 pq, .int .i64 po, .int .i64 pe, .int .i64 pb, .slice Wb L wb, .int .u16 pst, .slice Nb (T + 1) nb] := blk_new _ _
  generalize C.alloc (.cells #[.int .i64 ((T : Int) + 1), .slice Ea T ec, .int .i64 (L : Int), .int .i64 pr, .int .i64 pq, .int .i64 po, .int .i64 pe, .int .i64 pb, .slice Wb L wb, .int .u16 pst, .slice Nb (T + 1) nb] 29) = D at hkD hPD ⊢
  generalize C.heap.size = b9 at hPD ⊢
  have hkWD := hkWC.trans hkD
  have KK := Lib.hid (p := ∀ V, Keeps (fun _ => False) D V → Calls Try.prog 13 #[] V fun e w' => e = .returned (.bool true) ∧ Keeps (fun _ => False) D w') fun V hV =>
    (known_calls V).mono fun _ _ ⟨q1, q2⟩ => ⟨q1, hV.trans q2⟩
  have KC := Lib.hid (p := ∀ V, Keeps (fun _ => False) D V → Calls Try.prog 22 #[.agg #[.int .i64 ((T : Int) + 1), .slice Ea T ec, .int .i64 (L : Int), .int .i64 pr, .int .i64 pq, .int .i64 po, .int .i64 pe, .int .i64 pb, .slice Wb L wb, .int .u16 pst, .slice Nb (T + 1) nb]] V fun e w' => e = .returned (.int .u16 0) ∧ Keeps (fun _ => False) D w') fun V hV =>
    (CC.out V (hkD.trans hV)).mono fun _ _ ⟨q1, q2⟩ => ⟨q1, hV.trans q2⟩
  have KO := Lib.hid (p := ∀ V, Keeps (fun _ => False) D V → Calls Try.prog 11 #[v0] V fun e w' => ∃ uA uc, e = .returned (.slice uA T uc) ∧ Keeps (fun _ => False) D w') fun V hV =>
    (HOf.out V (hkWD.trans hV)).mono fun _ _ ⟨x, y, q1, _, q2⟩ => ⟨x, y, q1, hV.trans q2⟩
  have F2 := Lib.hid (p := ∀ w', Keeps (fun _ => False) D w' → w'.cell? ⟨b9, 0, none⟩ = some (.int .i64 ((T : Int) + 1)) ∧ w'.cell? ⟨b9, 1, none⟩ = some (.slice Ea T ec) ∧ w'.cell? ⟨b9, 2, none⟩ = some (.int .i64 (L : Int)) ∧ w'.cell? ⟨b9, 3, none⟩ = some (.int .i64 pr) ∧ w'.cell? ⟨b9, 4, none⟩ = some (.int .i64 pq) ∧ w'.cell? ⟨b9, 5, none⟩ = some (.int .i64 po) ∧ w'.cell? ⟨b9, 6, none⟩ = some (.int .i64 pe) ∧ w'.cell? ⟨b9, 7, none⟩ = some (.int .i64 pb) ∧ w'.cell? ⟨b9, 8, none⟩ = some (.slice Wb L wb) ∧ w'.cell? ⟨b9, 9, none⟩ = some (.int .u16 pst) ∧ w'.cell? ⟨b9, 10, none⟩ = some (.slice Nb (T + 1) nb)) fun w' h => by
    obtain ⟨x0, x1, x2, x3, x4, x5, x6, x7, x8, x9, x10, _⟩ := PBox.all (blk_keeps h hPD (fun h => h))
    exact ⟨x0, x1, x2, x3, x4, x5, x6, x7, x8, x9, x10⟩
  have hd : Keeps (fun _ => False) D D.drew := Keeps.drew _ _
  have hw1 : IntKind.i64.wrap ((T : Int) + 1 - 1) = (T : Int) := by simp [IntKind.wrap, IntKind.bits, IntKind.signed]; omega
  have hw2 : IntKind.i64.wrap (T : Int) = (T : Int) := by simp [IntKind.wrap, IntKind.bits, IntKind.signed]; omega
  have hw3 : IntKind.i64.wrap ((T : Int) + 1) = (T : Int) + 1 := by simp [IntKind.wrap, IntKind.bits, IntKind.signed]; omega
  have hT5 : (T : Int) ≤ 5 := by omega
  clear hwl hml hvl hp hL1 hL3
  clear HOf CC hPD hkD hkWC
  first
    | go_region_held (fun w' => w'.cell? ⟨b9, 0, none⟩ = some (.int .i64 ((T : Int) + 1)) ∧ w'.cell? ⟨b9, 1, none⟩ = some (.slice Ea T ec) ∧ w'.cell? ⟨b9, 2, none⟩ = some (.int .i64 (L : Int)) ∧ w'.cell? ⟨b9, 3, none⟩ = some (.int .i64 pr) ∧ w'.cell? ⟨b9, 4, none⟩ = some (.int .i64 pq) ∧ w'.cell? ⟨b9, 5, none⟩ = some (.int .i64 po) ∧ w'.cell? ⟨b9, 6, none⟩ = some (.int .i64 pe) ∧ w'.cell? ⟨b9, 7, none⟩ = some (.int .i64 pb) ∧ w'.cell? ⟨b9, 8, none⟩ = some (.slice Wb L wb) ∧ w'.cell? ⟨b9, 9, none⟩ = some (.int .u16 pst) ∧ w'.cell? ⟨b9, 10, none⟩ = some (.slice Nb (T + 1) nb)) (exact F2.out _ (by assumption)) (first
        | (go_at_call 13; refine (KK.out _ (by assumption)).mono ?_; rintro e V1 ⟨rfl, hV1⟩)
        | (go_at_call 22; refine (KC.out _ (by assumption)).mono ?_; rintro e V2 ⟨rfl, hV2⟩)
        | (go_at_call 11; refine (KO.out _ (by assumption)).mono ?_; rintro e V3 ⟨zA, zc, rfl, hV3⟩))
    | fail
  all_goals
    go_wp2_with fail
    go_ret
    exact ⟨rfl, keeps_below (hkWD.trans hV3)⟩
end Go.Proofs.Ytcgddbbniahimaa
