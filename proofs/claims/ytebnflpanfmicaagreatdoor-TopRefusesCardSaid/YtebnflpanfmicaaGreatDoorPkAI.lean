/-
  Part 9 of the proof: TopDel, TopTake, TopMap, TopWay.
-/
import Derived.Test.YtebnflpanfmicaaGreatDoorPkAH
import Derived.Test.YtebnflpanfmicaaGreatDoorPkAA
import Derived.RangeFuncRecord
import Derived.MapKept
import Derived.Laws.StructEq
import Derived.Test.YtebnflpanfmicaaGreatDoorPkAG
set_option linter.unusedVariables false
set_option linter.unusedSimpArgs false
set_option linter.unusedSectionVars false
namespace Go.Proofs.YtebnflpanfmicaaGreatDoor
open Go.RowKit
theorem zero_bytes (w : World) : (zeroValue 22).run Tryz.prog w = .ok (.slice none 0 0) w := by kernel_rfl
theorem erase_at {α : Type} (vs : List α) (k j : Nat) : (vs.eraseIdx k)[j]? = if j < k then vs[j]? else vs[j + 1]? := List.getElem?_eraseIdx
set_option maxRecDepth 100000 in
set_option maxHeartbeats 8000000 in
theorem del_low (g off p cap k : Nat) (vs : List Value) (w : World) (hq : QS w 22 1 (.slice (some ⟨g, off, none⟩) (p + 1) cap) (p + 1) vs) (hk : k ≤ p) (hn : p ≤ 64) (h1 : ∀ u ∈ vs, u.oneCell' = true) :
    Calls Tryz.prog 63 #[.slice (some ⟨g, off, none⟩) (p + 1) cap, .int .i64 k, .int .i64 ((k : Int) + 1)] w fun e w' =>
      e = .returned (.slice (some ⟨g, off, none⟩) p cap) ∧ QS w' 22 1 (.slice (some ⟨g, off, none⟩) p cap) p (vs.eraseIdx k) ∧ Keeps (fun i => i = g) w w' := by
  obtain ⟨cur, hcur, hcap, hcm, hsz, hcell⟩ : ∃ cur, w.heap[g]? = some (.cells cur 22 (0, 0)) ∧ p + 1 ≤ cap ∧ cap ≤ maxLen ∧ off + cap * 1 ≤ cur.size ∧ ∀ j, j < vs.length → cur[off + j]? = vs[j]? := by
    rcases hq.2 with ⟨h, _⟩ | ⟨g', off', cap', cur, h, h2, h3, h4, h5, h6⟩
    · cases h
    · cases h
      exact ⟨cur, h2, h3, h4, h5, h6⟩
  have hvl : vs.length = p + 1 := by have := hq.1; omega
  obtain ⟨m, hm⟩ : ∃ m, p = k + m := ⟨p - k, by omega⟩
  have hnl : (vs.drop (k + 1)).length = m * 1 := by rw [List.length_drop]; omega
  obtain ⟨ad, had, hnews⟩ : ∃ ad : Addr, (if cap = k + 1 then some (⟨g, off, none⟩ : Addr) else some ⟨g, off + (k + 1), none⟩) = some ad ∧ ∀ j u, (vs.drop (k + 1))[j]? = some u → w.drew.cell? (ad.add j) = some u := by
    by_cases hc : cap = k + 1
    · refine ⟨_, if_pos hc, fun j u hj => ?_⟩
      have := (List.getElem?_eq_some_iff.1 hj).1
      omega
    · refine ⟨_, if_neg hc, fun j u hj => ?_⟩
      have h3 := (List.getElem?_eq_some_iff.1 hj).1
      rw [List.getElem?_drop] at hj
      rw [Addr.add_lit, World.cell?_drew, blk_cell hcur, show off + (k + 1) + j = off + (k + 1 + j) by omega, hcell _ (List.getElem?_eq_some_iff.1 hj).1]
      exact hj
  have hone : ∀ u ∈ vs.drop (k + 1), u.oneCell' = true := fun u hu => h1 u (List.mem_of_mem_drop hu)
  obtain ⟨i0, hi0, hz0, hz1, hz2⟩ := info_parts info_bs
  have hroom : k + m ≤ cap := by omega
  have hsp : ∀ j, j < (vs.drop (k + 1)).length → (w.drew.cell? ⟨g, off + k * 1 + j, none⟩).isSome = true ∧ w.drew.frozen? ⟨g, off + k * 1 + j, none⟩ = false := fun j hj => by
    rw [hnl] at hj
    refine ⟨?_, blk_frozen (w := w.drew) hcur _⟩
    rw [World.cell?_drew, blk_cell hcur, Array.getElem?_eq_getElem (by omega)]
    rfl
  obtain ⟨hcur1, hlen1, hout1, hin1⟩ : True ∧ True ∧ True ∧ True := ⟨trivial, trivial, trivial, trivial⟩
  obtain ⟨cur1, r1, r2, r3, r4⟩ := sc_row (vs.drop (k + 1)) (off + k * 1) w.drew cur hcur
  have hfar := fun i hi => sc_far (g := g) (vs.drop (k + 1)) (off + k * 1) (w := w.drew) i hi
  obtain ⟨t1, t2, t3, t4⟩ := sc_same g (vs.drop (k + 1)) (off + k * 1) w.drew
  rw [hnl] at r3 r4
  have hsz2 : cap ≤ cur1.size - off := by omega
  subst hm
  have a1 : (0 : Int) ≤ (k : Int) := by omega
  have a2 : (k : Int) ≤ (k : Int) + 1 := by omega
  have a3 : (k : Int) + 1 ≤ ((k + m : Nat) : Int) + 1 := by omega
  have a3' : (k : Int) + 1 ≤ (k : Int) + (m : Int) + 1 := by omega
  have a4 : (k : Int) + (m : Int) + 1 ≤ (cap : Int) := by omega
  have a5 : ((k : Int) == (k : Int) + 1) = false := by rw [beq_eq_false_iff_ne]; omega
  have a6 : (k : Int) ≤ (cap : Int) := by omega
  have a7 : (0 : Int) ≤ (k : Int) + 1 := by omega
  have a8 : ((k : Int) + 1).toNat = k + 1 := by omega
  have a9 : cap ≤ 9223372036854775807 := by unfold maxLen at hcm; omega
  have b1 : k + m + 1 - (k + 1) = m := by omega
  have b2 : cap ≠ k + m := by omega
  have b3 : ¬ cap = k + m := by omega
  have hwr : IntKind.i64.wrap ((k : Int) + 1) = (k : Int) + 1 := by simp [IntKind.wrap, IntKind.bits, IntKind.signed]; omega
  have HN := Lib.hid hnews
  have HS := Lib.hid hsp
  have HO := Lib.hid hone
  have HL := Lib.hid hnl
  have HC := Lib.hid hcell
  have HR3 := Lib.hid r3
  have HR3' := Lib.hid r3
  have HR4 := Lib.hid r4
  have HFAR := Lib.hid hfar
  have HT := Lib.hid (And.intro t1 (And.intro t2 (And.intro t3 t4)))
  have HI := Lib.hid hi0
  have HZ := Lib.hid hz1
  have HR1 := Lib.hid r1
  have HR2 := Lib.hid r2
  have HV := Lib.hid hvl
  have HQ := Lib.hid hq
  have HCUR := Lib.hid hcur
  clear hnews hsp hone hnl hcell r3 r4 hfar t1 t2 t3 t4 hi0 hz0 hz1 hz2 r1 r2 hvl hq hcur h1
  go_enter Tryz.func63, Tryz.ntmps63
  go_wp2_with fail
  go_region_law (refine step_append_room rfl (.tmp 22) (.tmp 25) 80 rfl 22 i0 1 Tryz.underlying80 HI.out HZ.out g off k cap rfl ad m (cap - (k + 1)) (vs.drop (k + 1)) rfl HL.out HN.out HO.out hroom HS.out ?_)
  have hW1 := HR1.out
  have hwt := HT.out
  have hfar1 := HFAR.out
  clear HS HN had
  have hmo : off + k * 1 = off + k := by omega
  simp only [hmo] at hW1 hwt hfar1
  try rw [hmo]
  clear hmo HR1 HT HFAR HR3
  generalize w.drew.setCells g (off + k) (vs.drop (k + 1)) = W1 at *
  have hclr : ∀ ty, (Builtin.clear_ #[80] ty #[.slice (some ⟨g, off + (k + m), none⟩) 1 (cap - (k + m))]).run Tryz.prog W1 = .ok (.tuple #[]) (W1.setCells g (off + (k + m)) (List.replicate 1 (.slice none 0 0))) := fun ty =>
    Lib.run_clear_slice W1 _ _ ty _ Tryz.underlying80 zero_bytes rfl rfl g (off + (k + m)) 1 _ (by omega) (fun j hj => by rw [blk_cell hW1, Array.getElem?_eq_getElem (by have := HR2.out; omega)]; rfl) (fun j hj => blk_frozen hW1 _)
  have HW1 := Lib.hid hW1
  have HWT := Lib.hid hwt
  have HF1 := Lib.hid hfar1
  clear hW1 hwt hfar1
  go_wp2_with fail
  go_ret
  have hone1 := HW1.out
  have hL := HL.out
  have hV := HV.out
  have hsz1 := HR2.out
  obtain ⟨cur2, s1, s2, s3, s4⟩ := sc_row [Value.slice none 0 0] (off + (k + m)) W1 cur1 hone1
  refine ⟨rfl, ⟨by rw [List.length_eraseIdx]; split <;> omega, .inr ⟨g, off, cap, cur2, rfl, s1, by omega, hcm, by omega, fun j hj => ?_⟩⟩, ?_⟩
  · rw [List.length_eraseIdx, if_pos (by omega)] at hj
    rw [erase_at, s3 _ (.inl (by omega))]
    split
    · rw [HR3'.out _ (.inl (by omega)), HC.out _ (by omega)]
    · have h4 := HR4.out (by omega) (j - k) (by omega)
      rw [show off + k * 1 + (j - k) = off + j by omega] at h4
      rw [h4, List.getElem?_drop]
      congr 1; omega
  · have h5 : Keeps (fun i => i = g) w W1 := ⟨HWT.out.1, HWT.out.2.1, HWT.out.2.2.1, by have := HWT.out.2.2.2; simp at this; omega, fun i hi hne => HF1.out i hne⟩
    exact h5.trans (Keeps.setCell _ _ _ _ rfl)
end Go.Proofs.YtebnflpanfmicaaGreatDoor
namespace Go.Proofs.YtebnflpanfmicaaGreatDoor
open Go.RowKit
theorem more_lt' {w : World} {S : Nat → Prop} (hlt : ∀ k, S k → k < w.heap.size) : ∀ k, more S w w k → k < w.heap.size := fun k hk => by
  rcases hk with hk | hk
  · exact hlt k hk
  · exact hk.2
theorem erase_mem {α : Type} {l : List α} {i j : Nat} {x : α} (h : (l.eraseIdx i)[j]? = some x) : ∃ j', l[j']? = some x ∧ (j < i → j' = j) ∧ (¬ j < i → j' = j + 1) := by
  rw [erase_at] at h
  split at h
  · rename_i hj; exact ⟨j, h, fun _ => rfl, fun h' => absurd hj h'⟩
  · rename_i hj; exact ⟨j + 1, h, fun h' => absurd h' hj, fun _ => rfl⟩
theorem LinkR.erase {w W : World} {S : Nat → Prop} {b : Nat} {room : Int} {v v' : Value} {vs : List Value} {rows : List (List Int)} (h : LinkR w S b room v vs rows) (k : Nat) (hk : Keeps (fun g => v.ownBlock = some g) w W)
    (hq : QS W 22 1 v' (rows.eraseIdx k).length (vs.eraseIdx k)) (ho : v'.ownBlock = v.ownBlock) :
    LinkR (W.setCell ⟨b, 0, none⟩ v') S b room v' (vs.eraseIdx k) (rows.eraseIdx k) ∧ Keeps S w (W.setCell ⟨b, 0, none⟩ v') := by
  have kset : Keeps (fun g => g = b) W (W.setCell ⟨b, 0, none⟩ v') := Keeps.setCell _ _ _ _ rfl
  have hv' : ∀ g, v'.ownBlock = some g → S g ∧ g ≠ b := fun g hg => h.vown g (ho ▸ hg)
  have hsz : (W.setCell ⟨b, 0, none⟩ v').heap.size = W.heap.size := by simp [World.setCell]
  refine ⟨⟨?_, hq.keeps kset (fun g hg e => (hv' g hg).2 e), fun i u l h1 h2 => ?_, fun i j u u' h1 h2 hne => ?_, fun u hu g hg => ?_, hv', h.sb, fun g hg => by rw [hsz]; exact Nat.lt_of_lt_of_le (h.lt g hg) hk.size, Nat.le_trans (List.length_eraseIdx_le ..) h.most, fun l hl => h.short l (List.mem_of_mem_eraseIdx hl)⟩, ?_⟩
  · rw [blk_set (blk_keeps hk h.box (fun e => (h.vown b e).2 rfl)) 0 v']
    rfl
  · obtain ⟨i1, g1, g2, g3⟩ := erase_mem h1
    obtain ⟨i2, f1, f2, f3⟩ := erase_mem h2
    have e : i2 = i1 := by
      by_cases hi : i < k
      · rw [g2 hi, f2 hi]
      · rw [g3 hi, f3 hi]
    subst e
    exact ((h.each _ u l g1 f1).keeps hk (fun g hg e => (h.own u (List.mem_of_getElem? g1) g hg).2.2 e)).keeps kset (fun g hg e => (h.own u (List.mem_of_getElem? g1) g hg).2.1 e)
  · obtain ⟨i1, g1, g2, g3⟩ := erase_mem h1
    obtain ⟨i2, f1, f2, f3⟩ := erase_mem h2
    refine h.apart i1 i2 u u' g1 f1 ?_
    by_cases hi : i < k
    · by_cases hj : j < k
      · rw [g2 hi, f2 hj]; exact hne
      · rw [g2 hi, f3 hj]; omega
    · by_cases hj : j < k
      · rw [g3 hi, f2 hj]; omega
      · rw [g3 hi, f3 hj]; omega
  · obtain ⟨h1, h2, h3⟩ := h.own u (List.mem_of_mem_eraseIdx hu) g hg
    exact ⟨h1, h2, by rw [ho]; exact h3⟩
  · exact (hk.mono (fun g _ hg => (h.vown g hg).1)).trans (Keeps.setCell _ _ _ _ h.sb)
set_option maxHeartbeats 4000000 in
theorem take_no (b : Nat) (room : Int) (v : Value) (vs : List Value) (rows : List (List Int)) (S : Nat → Prop) (w : World) (h : LinkR w S b room v vs rows) (i : Int) (hi : inRow rows i = false) (hr : rowAt vs i = .slice none 0 0) :
    Calls Tryz.prog 29 #[.pointer (some ⟨b, 0, none⟩), .int .i64 i] w fun e w' => e = .returned (.tuple #[.slice none 0 0, .bool false]) ∧ w = w' := by
  have HA := Lib.hid (lat_runs b room v vs rows S w h i)
  rw [hi, hr] at HA
  clear h hi hr
  go_enter Tryz.func29, Tryz.ntmps29
  go_wp2_with fail
  refine HA.out.mono ?_
  rintro e w' ⟨rfl, hw⟩
  subst hw
  go_wp2_with fail
  go_ret2
  exact ⟨rfl, rfl⟩
set_option maxHeartbeats 4000000 in
theorem take_yes (b : Nat) (room : Int) (v : Value) (vs : List Value) (rows : List (List Int)) (S : Nat → Prop) (w : World) (h : LinkR w S b room v vs rows) (k : Nat) (hk : k < rows.length) :
    Calls Tryz.prog 29 #[.pointer (some ⟨b, 0, none⟩), .int .i64 k] w fun e w' => e = .returned (.tuple #[rowAt vs k, .bool true]) ∧ Keeps S w w' ∧ Keeps (fun i => i = b ∨ v.ownBlock = some i) w w' ∧ ∃ v', LinkR w' S b room v' (vs.eraseIdx k) (rows.eraseIdx k) := by
  have HA := Lib.hid (lat_runs b room v vs rows S w h k)
  have e2 : inRow rows (k : Int) = true := decide_eq_true (by omega)
  rw [e2] at HA
  obtain ⟨c0, c1⟩ := h.cells
  have hl := h.len
  have hkv : vs[k]? = some vs[k] := List.getElem?_eq_getElem (by omega)
  have e1 : rowAt vs (k : Int) = vs[k] := by
    unfold rowAt
    rw [if_neg (by omega), Int.toNat_natCast, hkv]; rfl
  obtain ⟨A', cap', hv', _, _⟩ := (h.each k vs[k] rows[k] hkv (List.getElem?_eq_getElem hk)).shape
  rw [e1, hv'] at HA ⊢
  obtain ⟨g, off, cp, hvv, _, _, fz⟩ := h.row.cell (by omega)
  obtain ⟨p, hp⟩ : ∃ p, rows.length = p + 1 := ⟨rows.length - 1, by omega⟩
  have hone : ∀ u ∈ vs, u.oneCell' = true := fun u hu => by
    obtain ⟨i, hi, e⟩ := List.mem_iff_getElem.1 hu
    obtain ⟨A, c, e3, _⟩ := (h.each i u (rows[i]'(by omega)) (by rw [← e]; exact List.getElem?_eq_getElem hi) (List.getElem?_eq_getElem (by omega))).shape
    rw [e3]; rfl
  have hm := h.most
  have hrow := h.row
  rw [hvv, hp] at hrow
  rw [hvv, hp] at c0
  have HD := Lib.hid (del_low g off p cp k vs w hrow (by omega) (by omega) hone)
  have hgb : g ≠ b := (h.vown g (by rw [hvv]; rfl)).2
  have hbf := blk_frozen h.box 0
  have H := Lib.hid h
  have HB := Lib.hid (p := ∀ U, Keeps (fun i => i = g) w U → U.cell? ⟨b, 0, none⟩ = some (.slice (some ⟨g, off, none⟩) (p + 1) cp) ∧ U.frozen? ⟨b, 0, none⟩ = false) fun U hU => ⟨hU.cell c0 (fun e => hgb e.symm), by rw [hU.frozen c0 (fun e => hgb e.symm)]; exact hbf⟩
  have HP := Lib.hid hp
  have HVV := Lib.hid hvv
  have hk2 : (k : Int) + 1 ≤ 100 := by omega
  clear h hl hkv hrow hone fz hp hvv hbf e1 e2 hv'
  go_enter Tryz.func29, Tryz.ntmps29
  go_wp2_with fail
  refine HA.out.mono ?_
  rintro e w' ⟨rfl, hw⟩
  subst hw
  go_wp2_with fail
  refine HD.out.mono ?_
  rintro e U ⟨rfl, hq, hkU⟩
  obtain ⟨d0, d1⟩ := HB.out U hkU
  have HQ := Lib.hid hq
  clear hq
  go_wp2_with fail
  go_ret2
  have hvv := HVV.out
  have hp := HP.out
  have hlen : (rows.eraseIdx k).length = p := by rw [List.length_eraseIdx, if_pos hk]; omega
  have r := H.out.erase k (W := U) (v' := .slice (some ⟨g, off, none⟩) p cp) (hkU.mono (fun i _ e => by rw [hvv, e]; rfl)) (by rw [hlen]; exact HQ.out) (by rw [hvv]; rfl)
  exact ⟨rfl, r.2, (hkU.mono (fun i _ e => .inr (by rw [hvv, e]; rfl))).trans (Keeps.setCell _ _ _ _ (.inl rfl)), _, r.1⟩
def takeL (rows : List (List Int)) (i : Int) : List (List Int) := if 0 ≤ i ∧ i < rows.length then rows.eraseIdx i.toNat else rows
def rowOf (rows : List (List Int)) (i : Int) : List Int := if 0 ≤ i then rows.getD i.toNat [] else []
theorem take_runs (b : Nat) (room : Int) (rows : List (List Int)) (S : Nat → Prop) (w : World) (h : LinkV w S b room rows) (i : Int) :
    Calls Tryz.prog 29 #[.pointer (some ⟨b, 0, none⟩), .int .i64 i] w fun e w' => ∃ u, e = .returned (.tuple #[u, .bool (inRow rows i)]) ∧ BQ w' u (if inRow rows i then rowOf rows i else []) ∧ (∀ g, u.ownBlock = some g → S g) ∧ Keeps S w w' ∧ LinkV w' S b room (takeL rows i) := by
  obtain ⟨v, vs, h⟩ := h
  have hl := h.len
  by_cases hi : 0 ≤ i ∧ i < rows.length
  · obtain ⟨k, rfl⟩ := Int.eq_ofNat_of_zero_le hi.1
    have hk : k < rows.length := by omega
    have e : inRow rows (k : Int) = true := decide_eq_true hi
    have e2 : takeL rows (k : Int) = rows.eraseIdx k := by unfold takeL; rw [if_pos hi, Int.toNat_natCast]
    have hkv : vs[k]? = some vs[k] := List.getElem?_eq_getElem (by omega)
    have e1 : rowAt vs (k : Int) = vs[k] := by
      unfold rowAt
      rw [if_neg (by omega), Int.toNat_natCast, hkv]; rfl
    have e3 : rowOf rows (k : Int) = rows[k] := by
      unfold rowOf
      rw [if_pos hi.1, Int.toNat_natCast, List.getD_eq_getElem?_getD, List.getElem?_eq_getElem hk]; rfl
    rw [e, e2, e3, if_pos rfl]
    refine (take_yes b room v vs rows S w h k hk).mono ?_
    rintro e w' ⟨rfl, hK, hK2, v', hR⟩
    refine ⟨vs[k], by rw [e1], ?_, fun g hg => (h.own _ (List.getElem_mem _) g hg).1, hK, v', _, hR⟩
    refine (h.each k _ _ hkv (List.getElem?_eq_getElem hk)).keeps hK2 (fun g hg e => ?_)
    obtain ⟨_, g2, g3⟩ := h.own _ (List.getElem_mem _) g hg
    rcases e with e | e
    · exact g2 e
    · exact g3 e
  · have e : inRow rows i = false := decide_eq_false hi
    have e2 : takeL rows i = rows := if_neg hi
    have e1 : rowAt vs i = .slice none 0 0 := by
      unfold rowAt
      split
      · rfl
      · rw [List.getElem?_eq_none (by omega)]; rfl
    rw [e, e2, if_neg (by decide)]
    refine (take_no b room v vs rows S w h i e e1).mono ?_
    rintro e w' ⟨rfl, hw⟩
    subst hw
    exact ⟨_, rfl, QS.nil _ _ _, fun g hg => (by cases hg), Keeps.refl _ _, v, vs, h⟩
def twiceL (room : Int) (rows : List (List Int)) (i : Int) : List (List Int) := if inRow rows i then sendL room rows (rowOf rows i) else rows
set_option maxHeartbeats 4000000 in
theorem twice_runs (b : Nat) (room : Int) (rows : List (List Int)) (S : Nat → Prop) (w : World) (h : LinkV w S b room rows) (hr : room ≤ 64) (hrow : (rows.length : Int) ≤ room) (i : Int) :
    Calls Tryz.prog 30 #[.pointer (some ⟨b, 0, none⟩), .int .i64 i] w fun e w' => (∃ r, e = .returned (.bool r)) ∧ Keeps S w w' ∧ LinkV w' (more S w w') b room (twiceL room rows i) := by
  obtain ⟨v, vs, h⟩ := h
  have HA := Lib.hid (lat_runs b room v vs rows S w h i)
  unfold twiceL
  cases hi : inRow rows i with
  | false =>
    rw [hi] at HA
    rw [if_neg (by decide)]
    have H := Lib.hid h
    clear h hi hrow hr
    go_enter Tryz.func30, Tryz.ntmps30
    go_wp2_with fail
    refine HA.out.mono ?_
    rintro e w' ⟨rfl, hw⟩
    subst hw
    go_wp2_with fail
    go_ret
    exact ⟨⟨_, rfl⟩, Keeps.refl _ _, v, vs, H.out.wider (fun _ h => .inl h) (more_lt' H.out.lt)⟩
  | true =>
    rw [if_pos rfl]
    obtain ⟨h0, h1⟩ : 0 ≤ i ∧ i < rows.length := of_decide_eq_true hi
    obtain ⟨k, rfl⟩ := Int.eq_ofNat_of_zero_le h0
    have hk : k < rows.length := by omega
    have hl := h.len
    have hkv : vs[k]? = some vs[k] := List.getElem?_eq_getElem (by omega)
    have e1 : rowAt vs (k : Int) = vs[k] := by
      unfold rowAt
      rw [if_neg (by omega), Int.toNat_natCast, hkv]; rfl
    have e3 : rowOf rows (k : Int) = rows[k] := by
      unfold rowOf
      rw [if_pos h0, Int.toNat_natCast, List.getD_eq_getElem?_getD, List.getElem?_eq_getElem hk]; rfl
    rw [hi, e1] at HA
    rw [e3]
    have HS := Lib.hid (send_runs b room rows vs[k] rows[k] S w ⟨v, vs, h⟩ hr hrow (h.each k _ _ hkv (List.getElem?_eq_getElem hk)) (h.short _ (List.getElem_mem _)))
    obtain ⟨A', cap', hv', _, _⟩ := (h.each k vs[k] rows[k] hkv (List.getElem?_eq_getElem hk)).shape
    rw [hv'] at HA HS
    clear h hi hrow hr e1 e3 hkv hv' h0 h1
    go_enter Tryz.func30, Tryz.ntmps30
    go_wp2_with fail
    refine HA.out.mono ?_
    rintro e w' ⟨rfl, hw⟩
    subst hw
    go_wp2_with fail
    refine HS.out.mono ?_
    rintro e w' ⟨rfl, hK, hL⟩
    generalize decide ((rows.length : Int) ≠ room) = r
    go_wp2_with fail
    go_ret
    exact ⟨⟨_, rfl⟩, hK, hL⟩
end Go.Proofs.YtebnflpanfmicaaGreatDoor
namespace Go.Proofs.YtebnflpanfmicaaGreatDoor
open Go.RowKit
theorem nodup_inj {α : Type} {l : List α} (hd : l.Nodup) {i j : Nat} (hi : i < l.length) (hj : j < l.length) (h : l[i] = l[j]) : i = j := by
  rcases Nat.lt_trichotomy i j with h1 | h1 | h1
  · exact absurd h (List.pairwise_iff_getElem.1 hd i j hi hj h1)
  · exact h1
  · exact absurd h.symm (List.pairwise_iff_getElem.1 hd j i hj hi h1)
structure Ent (K : Type) where
  key : K
  val : Value
  born : Nat
section
variable {K : Type} [DecidableEq K] (enc : K → Value)
def toE (e : Ent K) : MapEntry := ⟨enc e.key, e.val, e.born⟩
def findE (k : K) : List (Ent K) → Nat → Option (Nat × Value)
  | [], _ => none
  | e :: es, i => if k = e.key then some (i, e.val) else findE k es (i + 1)
def entsObj (L : List (Ent K)) (clock : Nat) : Obj := .map (L.map (toE enc)).toArray clock
structure KeyOk (P : Program) (kt : TypeId) : Prop where
  find : ∀ (w : World) (k : K) (L : List (Ent K)), (Instr.findKey kt (enc k) (L.map (toE enc))).run P w = .ok (findE k L 0) w
  check : ∀ (w : World) (em : Bool) (k : K), (Instr.checkKey em 10000 kt (enc k)).run P w = .ok () w
  stays : ∀ (w : World) (k : K), (Instr.keyThatStays (enc k) (enc k)).run P w = .ok (enc k) w
variable {enc}
theorem findE_some {k : K} : ∀ {L : List (Ent K)} {i j : Nat} {v : Value}, findE k L i = some (j, v) → i ≤ j ∧ ∃ e, L[j - i]? = some e ∧ e.key = k ∧ e.val = v
  | [], _, _, _, h => by cases h
  | e :: es, i, j, v, h => by
    unfold findE at h
    split at h
    · rename_i hk
      cases h
      exact ⟨Nat.le_refl _, e, by simp, hk.symm, rfl⟩
    · obtain ⟨h1, e', h2, h3, h4⟩ := findE_some h
      refine ⟨by omega, e', ?_, h3, h4⟩
      rw [show j - i = (j - (i + 1)) + 1 by omega]; exact h2
theorem findE_none {k : K} : ∀ {L : List (Ent K)} {i : Nat}, findE k L i = none → ∀ e ∈ L, e.key ≠ k
  | [], _, _, e, he => by cases he
  | e :: es, i, h, e', he => by
    unfold findE at h
    split at h
    · cases h
    · rename_i hk
      rcases List.mem_cons.1 he with rfl | he
      · exact fun e => hk e.symm
      · exact findE_none h e' he
variable {P : Program} {kt : TypeId}
theorem run_lookup_at (H : KeyOk enc P kt) {T et : TypeId} (hT : P.underlying T = some (.map kt et)) {z : Value} (hz : ∀ w, (zeroValue et).run P w = .ok z w) (W : World) (b : Nat) (L : List (Ent K)) (c : Nat) (k : K)
    (hb : W.heap[b]? = some (entsObj enc L c)) : (Instr.lookup T (.map (some b)) (enc k) false).run P W = .ok (((findE k L 0).map (·.2)).getD z) W := by
  unfold entsObj at hb
  unfold Instr.lookup
  simp only [Sem.run_bind, run_underlying hT, Result.andThen_ok, MapKept.run_getObj_map hb, Sem.run_pure, H.check, H.find]
  cases h : findE k L 0 with
  | none => simp [hz, h]
  | some p => simp [h]
theorem run_entry_at (H : KeyOk enc P kt) {T et : TypeId} (hT : P.underlying T = some (.map kt et)) {z : Value} (hz : ∀ w, (zeroValue et).run P w = .ok z w) (W : World) (b : Nat) (L : List (Ent K)) (c : Nat) (k : K)
    (hb : W.heap[b]? = some (entsObj enc L c)) :
    (Instr.mapEntry T (.map (some b)) (enc k)).run P W = match findE k L 0 with
      | some (i, v) => .ok (.tuple #[v, goInt ((L[i]?.map (·.born)).getD 0)]) (W.putObj b (entsObj enc L c))
      | none => .ok (.tuple #[z, goInt c]) (W.putObj b (entsObj enc (L ++ [⟨k, z, c⟩]) (c + 1))) := by
  unfold entsObj at hb
  unfold Instr.mapEntry
  simp only [Sem.run_bind, run_underlying hT, Result.andThen_ok, MapKept.run_getObj_map hb, Sem.run_pure, H.check, H.find]
  cases h : findE k L 0 with
  | none =>
    simp only [hz, Sem.run_bind, Result.andThen_ok, MapKept.run_setObj_map _ hb, Sem.run_pure]
    simp only [entsObj, World.putObj, toE, List.map_append, List.map_cons, List.map_nil, List.push_toArray]
  | some p =>
    obtain ⟨i, v⟩ := p
    obtain ⟨_, e, h1, h2, h3⟩ := findE_some h
    rw [Nat.sub_zero] at h1
    have h4 : (L.map (toE enc)).toArray[i]? = some (toE enc e) := by simp [h1]
    simp only [h4, h1, Option.map_some, Option.getD_some, Sem.run_bind, Result.andThen_ok]
    have h5 : (toE enc e).key = enc k := by rw [← h2]; rfl
    rw [h5]
    simp only [H.stays, Result.andThen_ok, MapKept.run_setObj_map _ hb, Sem.run_pure]
    have h6 : (L.map (toE enc)).toArray.modify i (fun e => { e with key := enc k }) = (L.map (toE enc)).toArray := by
      apply Array.ext_getElem?
      intro j
      rw [Array.getElem?_modify]
      split
      · rename_i hj
        subst hj
        rw [h4]
        simp only [Option.map_some, Option.some.injEq]
        rw [← h5]
      · rfl
    rw [h6]
    simp only [World.putObj, entsObj]
    have h7 : ((L.map (toE enc)).toArray[i]?).map (·.born) = some e.born := by rw [h4]; rfl
    first | rfl | simp [toE]
def atBorn (L : List (Ent K)) (s : Nat) (v : Value) : List (Ent K) := L.map fun e => if e.born = s then { e with val := v } else e
omit [DecidableEq K] in
theorem run_store_at {T : TypeId} (W : World) (b : Nat) (L : List (Ent K)) (c s : Nat) (v : Value) (hd : (L.map (·.born)).Nodup) (hs : ∃ e ∈ L, e.born = s)
    (hb : W.heap[b]? = some (entsObj enc L c)) : (Instr.entryStore T (.map (some b)) (.int .i64 (s : Int)) v).run P W = .ok () (W.putObj b (entsObj enc (atBorn L s v) c)) := by
  unfold entsObj at hb
  unfold Instr.entryStore
  have hf : ∃ i e, L[i]? = some e ∧ e.born = s ∧ (L.map (toE enc)).toArray.findIdx? (fun e => (e.born : Int) == (s : Int)) = some i := by
    clear hb hd
    obtain ⟨e0, he0, hs0⟩ := hs
    have : ∃ i, (L.map (toE enc)).toArray.findIdx? (fun e => (e.born : Int) == (s : Int)) = some i := by
      rw [← Option.isSome_iff_exists]
      simp only [List.findIdx?_toArray]
      rw [List.findIdx?_isSome]
      simp only [List.any_map, List.any_eq_true, Function.comp, toE]
      exact ⟨e0, he0, by simp [hs0]⟩
    obtain ⟨i, hi⟩ := this
    simp only [List.findIdx?_toArray] at hi
    have h1 := List.findIdx?_eq_some_iff_getElem.1 hi
    obtain ⟨hlt, hp, _⟩ := h1
    simp only [List.length_map] at hlt
    refine ⟨i, L[i], List.getElem?_eq_getElem hlt, ?_, by simpa using hi⟩
    have h9 : (L[i].born : Int) = (s : Int) := by simpa [toE] using hp
    omega
  obtain ⟨i, e, h1, h2, h3⟩ := hf
  simp only [Sem.run_bind, Sem.run_pure, MapKept.run_getObj_map hb, Result.andThen_ok]
  simp only [asInt, asIntOf, Sem.run_bind, Sem.run_pure, Result.andThen_ok, h3, MapKept.run_setObj_map _ hb]
  congr 1
  unfold World.putObj entsObj
  congr 3
  apply Array.ext_getElem?
  intro j
  rw [Array.getElem?_modify]
  unfold atBorn
  simp only [List.getElem?_toArray, List.getElem?_map, Option.map_map]
  by_cases hj : i = j
  · subst hj
    rw [if_pos rfl, h1]
    simp [toE, h2]
  · rw [if_neg hj]
    cases hL : L[j]? with
    | none => rfl
    | some e' =>
      have hne : e'.born ≠ s := fun he => by
        obtain ⟨hi', hie⟩ := List.getElem?_eq_some_iff.1 h1
        obtain ⟨hj', hje⟩ := List.getElem?_eq_some_iff.1 hL
        exact hj (nodup_inj hd (by simpa using hi') (by simpa using hj') (by simp [hie, hje, h2, he]))
      simp [Function.comp, toE, hne]
def atKey (L : List (Ent K)) (k : K) (v : Value) : List (Ent K) := L.map fun e => if e.key = k then { e with val := v } else e
theorem run_update_at (H : KeyOk enc P kt) {T et : TypeId} (hT : P.underlying T = some (.map kt et)) (W : World) (b : Nat) (L : List (Ent K)) (c : Nat) (k : K) (v : Value) (hd : (L.map (·.key)).Nodup)
    (hb : W.heap[b]? = some (entsObj enc L c)) :
    (Instr.mapUpdate T (.map (some b)) (enc k) v).run P W = match findE k L 0 with
      | some _ => .ok () (W.putObj b (entsObj enc (atKey L k v) c))
      | none => .ok () (W.putObj b (entsObj enc (L ++ [⟨k, v, c⟩]) (c + 1))) := by
  unfold entsObj at hb
  unfold Instr.mapUpdate
  simp only [Sem.run_bind, run_underlying hT, Result.andThen_ok, MapKept.run_getObj_map hb, Sem.run_pure, H.check, H.find]
  cases h : findE k L 0 with
  | none =>
    simp only [MapKept.run_setObj_map _ hb]
    simp only [entsObj, World.putObj, toE, List.map_append, List.map_cons, List.map_nil, List.push_toArray]
  | some p =>
    obtain ⟨i, v0⟩ := p
    obtain ⟨_, e, h1, h2, h3⟩ := findE_some h
    rw [Nat.sub_zero] at h1
    have h4 : (L.map (toE enc)).toArray[i]? = some (toE enc e) := by simp [h1]
    simp only [h4, Option.map_some, Option.getD_some, Sem.run_bind, Result.andThen_ok]
    have h5 : (toE enc e).key = enc k := by rw [← h2]; rfl
    rw [h5]
    simp only [H.stays, Result.andThen_ok, MapKept.run_setObj_map _ hb]
    congr 1
    unfold World.putObj entsObj
    congr 3
    apply Array.ext_getElem?
    intro j
    rw [Array.getElem?_modify]
    unfold atKey
    simp only [List.getElem?_toArray, List.getElem?_map, Option.map_map]
    by_cases hj : i = j
    · subst hj
      rw [if_pos rfl, h1]
      simp [toE, h2]
    · rw [if_neg hj]
      cases hL : L[j]? with
      | none => rfl
      | some e' =>
        have hne : e'.key ≠ k := fun he => by
          obtain ⟨hi', hie⟩ := List.getElem?_eq_some_iff.1 h1
          obtain ⟨hj', hje⟩ := List.getElem?_eq_some_iff.1 hL
          exact hj (nodup_inj hd (by simpa using hi') (by simpa using hj') (by simp [hie, hje, h2, he]))
        simp [Function.comp, toE, hne]
def noKey (L : List (Ent K)) (k : K) : List (Ent K) := L.filter fun e => decide (e.key ≠ k)
theorem run_delete_at (H : KeyOk enc P kt) {T et tk ty : TypeId} (hT : P.underlying T = some (.map kt et)) (W : World) (b : Nat) (L : List (Ent K)) (c : Nat) (k : K) (hd : (L.map (·.key)).Nodup)
    (hb : W.heap[b]? = some (entsObj enc L c)) :
    (Builtin.delete_ #[T, tk] ty #[.map (some b), enc k]).run P W = .ok (.tuple #[]) (W.putObj b (entsObj enc (noKey L k) c)) := by
  unfold entsObj at hb
  unfold Builtin.delete_
  simp only [List.getElem?_toArray, List.getElem?_cons_zero, List.getElem?_cons_succ, Sem.run_bind, run_underlying hT, Result.andThen_ok, MapKept.run_getObj_map hb, Sem.run_pure, H.check, H.find]
  cases h : findE k L 0 with
  | none =>
    simp only [Sem.run_bind, MapKept.run_setObj_map _ hb, Result.andThen_ok, Sem.run_pure]
    have : noKey L k = L := List.filter_eq_self.2 fun e he => by simpa using findE_none h e he
    simp only [this, World.putObj, entsObj]
  | some p =>
    obtain ⟨i, v0⟩ := p
    obtain ⟨_, e, h1, h2, h3⟩ := findE_some h
    rw [Nat.sub_zero] at h1
    simp only [Sem.run_bind, MapKept.run_setObj_map _ hb, Result.andThen_ok, Sem.run_pure]
    have hlt := (List.getElem?_eq_some_iff.1 h1).1
    have : (L.map (toE enc)).toArray.eraseIdxIfInBounds i = ((noKey L k).map (toE enc)).toArray := by
      rw [Array.eraseIdxIfInBounds, dif_pos (by simpa using hlt)]
      simp only [List.eraseIdx_toArray]
      rw [← ChangeMaps.map_eraseIdx]
      congr 2
      clear hb h h3
      induction L generalizing i with
      | nil => cases hlt
      | cons x l ih =>
        match i with
        | 0 =>
          simp only [List.getElem?_cons_zero, Option.some.injEq] at h1
          subst h1
          rw [List.eraseIdx_cons_zero]
          unfold noKey
          rw [List.filter_cons_of_neg (by simp [h2])]
          refine (List.filter_eq_self.2 fun e he => ?_).symm
          simp only [List.map_cons, List.nodup_cons, List.mem_map, not_exists, not_and] at hd
          have := hd.1 e he
          simp only [decide_eq_true_eq]
          rw [← h2]; exact this
        | i + 1 =>
          simp only [List.getElem?_cons_succ] at h1
          rw [List.eraseIdx_cons_succ, ih (List.nodup_cons.1 hd).2 i (Nat.zero_le _) h1 (by simpa using hlt)]
          unfold noKey
          rw [List.filter_cons_of_pos]
          simp only [List.map_cons, List.nodup_cons, List.mem_map, not_exists, not_and] at hd
          simp only [decide_eq_true_eq]
          intro e'
          have hm := List.mem_of_getElem? h1
          exact hd.1 e hm (by rw [h2, e'])
    simp only [this, World.putObj, entsObj]
theorem KeyOk.of_struct {fs : Array Field} (hu : P.underlying kt = some (.struct fs)) (heq : ∀ (w : World) (a b : K), (Op.equal kt (enc a) (enc b)).run P w = .ok (decide (a = b)) w)
    (hc : ∀ (w : World) (em : Bool) (k : K), (Instr.checkKey em 10000 kt (enc k)).run P w = .ok () w) (hs : ∀ k : K, Instr.sameBits 10000 (enc k) (enc k) = true) : KeyOk enc P kt where
  check := hc
  stays w k := by simp [Instr.keyThatStays, hs]
  find w k L := by
    have ask : ∀ (L : List (Ent K)) (i : Nat), (Instr.findAsking kt (enc k) (L.map (toE enc)) i).run P w = .ok (findE k L i) w := by
      intro L
      induction L with
      | nil => intro i; rfl
      | cons e L ih =>
        intro i
        simp only [List.map_cons, Instr.findAsking, Sem.run_bind, toE, heq, Result.andThen_ok]
        unfold findE
        by_cases h : k = e.key
        · simp [h]
        · simp only [h, decide_false, Bool.false_eq_true, if_false]
          exact ih (i + 1)
    unfold Instr.findKey
    simp only [Sem.run_bind, run_underlying hu, Result.andThen_ok]
    cases L with
    | nil => rfl
    | cons e L =>
      have : Instr.findNow (.struct fs) (enc k) ((e :: L).map (toE enc)) 0 = none := by simp [Instr.findNow, Instr.sameNow]
      rw [this]
      exact ask (e :: L) 0
theorem Keeps.putM {F : Nat → Prop} (w : World) (b : Nat) (o : Obj) (h : F b) : Keeps F w (w.putObj b o) :=
  ⟨rfl, rfl, rfl, by simp [World.putObj], fun i _ hn => World.putObj_heap_other (w := w) (fun e => hn (e ▸ h))⟩
end
end Go.Proofs.YtebnflpanfmicaaGreatDoor
namespace Go.Proofs.YtebnflpanfmicaaGreatDoor
open Go.RowKit
structure Way where
  inp : Int
  out : Int
  lane : Int
  deriving DecidableEq
abbrev Way.val (k : Way) : Value := .agg #[.int .i64 k.inp, .int .i64 k.out, .int .i64 k.lane]
structure Hop where
  src : Int
  dst : Int
  deriving DecidableEq
abbrev Hop.val (k : Hop) : Value := .agg #[.int .i64 k.src, .int .i64 k.dst]
theorem eq_int (d : Nat) (x y : Int) (w : World) : (Op.equalIn (d + 1) 3 (.int .i64 x) (.int .i64 y)).run Tryz.prog w = .ok (x == y) w := run_equalIn_int w d 3 .i64 .i64 x y Tryz.underlying3
theorem size_int (w : World) : (sizeOf 3).run Tryz.prog w = .ok 1 w := by kernel_rfl
theorem way_eq (w : World) (a b : Way) : (Op.equal 231 a.val b.val).run Tryz.prog w = .ok (decide (a = b)) w := by
  have hf : Tryz.prog.underlying 231 = some (.struct (Tryz.prog.fieldsOf 231)) := by simp only [Program.fieldsOf, Tryz.underlying231]
  have hs : Tryz.prog.stoodInHeld 231 = false := by kernel_rfl
  show (Op.equalIn (9999 + 1) _ _ _).run _ _ = _
  rw [run_equalIn_struct w 9999 231 _ _ hf hs]
  simp only [Program.fieldsOf, Tryz.underlying231]
  have e4 := eq_int 9998
  obtain ⟨a1, a2, a3⟩ := a
  obtain ⟨b1, b2, b3⟩ := b
  simp [Op.eqFields, Go.part, size_int, e4]
  by_cases h1 : a1 = b1 <;> by_cases h2 : a2 = b2 <;> by_cases h3 : a3 = b3 <;> simp [h1, h2, h3]
theorem hop_eq (w : World) (a b : Hop) : (Op.equal 95 a.val b.val).run Tryz.prog w = .ok (decide (a = b)) w := by
  have hf : Tryz.prog.underlying 95 = some (.struct (Tryz.prog.fieldsOf 95)) := by simp only [Program.fieldsOf, Tryz.underlying95]
  have hs : Tryz.prog.stoodInHeld 95 = false := by kernel_rfl
  show (Op.equalIn (9999 + 1) _ _ _).run _ _ = _
  rw [run_equalIn_struct w 9999 95 _ _ hf hs]
  simp only [Program.fieldsOf, Tryz.underlying95]
  have e4 := eq_int 9998
  obtain ⟨a1, a2⟩ := a
  obtain ⟨b1, b2⟩ := b
  simp [Op.eqFields, Go.part, size_int, e4]
  by_cases h1 : a1 = b1 <;> by_cases h2 : a2 = b2 <;> simp [h1, h2]
theorem check_int (d : Nat) (em : Bool) (x : Int) (w : World) : (Instr.checkKey em (d + 1) 3 (.int .i64 x)).run Tryz.prog w = .ok () w := by
  unfold Instr.checkKey
  simp [run_underlying Tryz.underlying3]
theorem way_ok : KeyOk Way.val Tryz.prog 231 :=
  KeyOk.of_struct Tryz.underlying231 way_eq (fun w em k => by
    have e4 := check_int 9998 em
    show (Instr.checkKey em (9999 + 1) _ _).run _ _ = _
    unfold Instr.checkKey
    simp [run_underlying Tryz.underlying231, Go.part, size_int, e4]) (fun k => by simp [Instr.sameBits])
theorem hop_ok : KeyOk Hop.val Tryz.prog 95 :=
  KeyOk.of_struct Tryz.underlying95 hop_eq (fun w em k => by
    have e4 := check_int 9998 em
    show (Instr.checkKey em (9999 + 1) _ _).run _ _ = _
    unfold Instr.checkKey
    simp [run_underlying Tryz.underlying95, Go.part, size_int, e4]) (fun k => by simp [Instr.sameBits])
theorem zero_ints (w : World) : (zeroValue 35).run Tryz.prog w = .ok (.slice none 0 0) w := by kernel_rfl
theorem zero_link (w : World) : (zeroValue 60).run Tryz.prog w = .ok (.pointer none) w := by kernel_rfl
end Go.Proofs.YtebnflpanfmicaaGreatDoor
