/-
  Part 21 of the proof: TopEnds, TopToward, TopTow, TopInj.
-/
import Derived.Test.YtebnflpanfmicaaGreatDoorPkAT
import Derived.Test.YtebnflpanfmicaaGreatDoorPkAD
import Derived.Test.YtebnflpanfmicaaGreatDoorPkAJ
set_option linter.unusedVariables false
set_option linter.unusedSimpArgs false
set_option linter.unusedSectionVars false
namespace Go.Proofs.YtebnflpanfmicaaGreatDoor
open Go.RowKit
section
variable {w : World} {S : Nat → Prop} {g : Geo} {v : Nat} {a : NodeA} {ticks : Int}
theorem NodeR.lanesN (h : NodeR w S g v a ticks) (hl : g.p.lanes = (g.ws.length : Int)) : w.cell? ⟨a.nb, 3, none⟩ = some (.int .i64 (g.ws.length : Int)) := by
  rw [blk_cell h.box, ← hl]; rfl
theorem NodeR.lane (h : NodeR w S g v a ticks) {i k : Nat} (h1 : 1 ≤ i) (hi : i < g.ports v) (hk : k < g.ws.length) : ∃ gp op cp gl ol cl, a.pv = .slice (some ⟨gp, op, none⟩) (g.ports v) cp ∧ a.lv i = .slice (some ⟨gl, ol, none⟩) g.ws.length cl ∧
    w.cell? ⟨gp, op + i * 3 + 1, none⟩ = some (a.lv i) ∧ w.cell? ⟨gl, ol + k * 2, none⟩ = some (.pointer (some ⟨a.sb i k, 0, none⟩)) ∧ w.cell? ⟨gl, ol + k * 2 + 1, none⟩ = some (.pointer (some ⟨a.cb i k, 0, none⟩)) := by
  obtain ⟨gp, op, cp, e1, _, c1, _⟩ := h.pq.cell (by omega)
  obtain ⟨gl, ol, cl, e2, _, c2, _⟩ := (h.lq i h1 hi).cell (by omega)
  obtain ⟨x1, x2⟩ := lanesTo_at a i g.ws.length k hk
  have hlen : i < (tos g.t v).length := hi
  obtain ⟨_, p2, _⟩ := portsFrom_at a (tos g.t v) 0 i _ (List.getElem?_eq_getElem hlen)
  rw [Nat.zero_add] at p2
  exact ⟨gp, op, cp, gl, ol, cl, e1, e2, by rw [Nat.add_assoc]; exact c1 _ _ p2, c2 _ _ x1, by rw [Nat.add_assoc]; exact c2 _ _ x2⟩
set_option maxRecDepth 100000 in
set_option maxHeartbeats 4000000 in
theorem ends_ok (h : NodeR w S g v a ticks) (hl : g.p.lanes = (g.ws.length : Int)) (i k : Nat) (h1 : 1 ≤ i) (hi : i < g.ports v) (hk : k < g.ws.length) :
    Calls Tryz.prog 119 #[.pointer (some ⟨a.nb, 0, none⟩), .int .i64 i, .int .i64 k] w fun e w' => e = .returned (.tuple #[.agg #[.pointer (some ⟨a.sb i k, 0, none⟩), .pointer (some ⟨a.cb i k, 0, none⟩)], .bool true]) ∧ Keeps (fun _ => False) w w' := by
  obtain ⟨gp, op, cp, gl, ol, cl, e1, e2, c1, c2, c3⟩ := h.lane h1 hi hk
  have c0 := h.lanesN hl
  have cp13 : w.cell? ⟨a.nb, 13, none⟩ = some a.pv := by rw [blk_cell h.box]; rfl
  rw [e2] at c1
  rw [e1] at cp13
  have i1 : ¬ (i : Int) < 1 := by omega
  have i2 : ¬ ((g.ports v : Nat) : Int) ≤ (i : Int) := by omega
  have i3 : (i : Int) < ((g.ports v : Nat) : Int) := by omega
  have i0 : (0 : Int) ≤ (i : Int) := by omega
  have k1 : ¬ (k : Int) < 0 := by omega
  have k0 : (0 : Int) ≤ (k : Int) := by omega
  have k2 : ¬ (g.ws.length : Int) ≤ (k : Int) := by omega
  have k3 : (k : Int) < (g.ws.length : Int) := by omega
  have hks : Keeps (fun _ => False) w (w.alloc (.cells #[.pointer none, .pointer none] 172)) := Keeps.alloc _ _ _
  have hbs := blk_new w (.cells #[.pointer none, .pointer none] 172)
  have d0 := hks.cell c0 (fun h => h)
  have d1 := hks.cell c1 (fun h => h)
  have d2 := hks.cell c2 (fun h => h)
  have d3 := hks.cell c3 (fun h => h)
  have d4 := hks.cell cp13 (fun h => h)
  clear h e1 e2 c0 c1 c2 c3 cp13
  generalize g.ports v = n at *
  generalize g.ws.length = L at *
  generalize a.sb i k = s at *
  generalize a.cb i k = r at *
  go_enter Tryz.func119, Tryz.ntmps119
  go_wp2_with fail
  have z0 : (w.alloc (.cells #[.pointer (some ⟨s, 0, none⟩), .pointer (some ⟨r, 0, none⟩)] 172)).cell? ⟨w.heap.size, 0, none⟩ = some (.pointer (some ⟨s, 0, none⟩)) := by rw [blk_cell (blk_new _ _)]; rfl
  have z1 : (w.alloc (.cells #[.pointer (some ⟨s, 0, none⟩), .pointer (some ⟨r, 0, none⟩)] 172)).cell? ⟨w.heap.size, 1, none⟩ = some (.pointer (some ⟨r, 0, none⟩)) := by rw [blk_cell (blk_new _ _)]; rfl
  refine bodyPost_ret (v := .tuple #[.agg #[.pointer (some ⟨s, 0, none⟩), .pointer (some ⟨r, 0, none⟩)], .bool true]) ?_ rfl ⟨rfl, Keeps.alloc _ _ _⟩
  generalize w.alloc _ = V at z0 z1 ⊢
  simp [results, Tryz.results119, go_sem, z0, z1]
set_option maxRecDepth 100000 in
set_option maxHeartbeats 4000000 in
theorem ends_no (h : NodeR w S g v a ticks) (hl : g.p.lanes = (g.ws.length : Int)) (i k : Int) (hno : i < 1 ∨ ((g.ports v : Nat) : Int) ≤ i ∨ k < 0 ∨ (g.ws.length : Int) ≤ k) :
    Calls Tryz.prog 119 #[.pointer (some ⟨a.nb, 0, none⟩), .int .i64 i, .int .i64 k] w fun e w' => e = .returned (.tuple #[.agg #[.pointer none, .pointer none], .bool false]) ∧ Keeps (fun _ => False) w w' := by
  have c0 := h.lanesN hl
  have cp13 : w.cell? ⟨a.nb, 13, none⟩ = some a.pv := by rw [blk_cell h.box]; rfl
  obtain ⟨pA, pc, e1, _, _⟩ := h.pq.shape
  rw [e1] at cp13
  have hks : Keeps (fun _ => False) w (w.alloc (.cells #[.pointer none, .pointer none] 172)) := Keeps.alloc _ _ _
  have d0 := hks.cell c0 (fun h => h)
  have d4 := hks.cell cp13 (fun h => h)
  have z0 : (w.alloc (.cells #[.pointer none, .pointer none] 172)).cell? ⟨w.heap.size, 0, none⟩ = some (.pointer none) := by rw [blk_cell (blk_new _ _)]; rfl
  have z1 : (w.alloc (.cells #[.pointer none, .pointer none] 172)).cell? ⟨w.heap.size, 1, none⟩ = some (.pointer none) := by rw [blk_cell (blk_new _ _)]; rfl
  have Z := Lib.hid (And.intro z0 (And.intro z1 hks))
  clear h e1 c0 cp13 z0 z1 hks
  generalize g.ports v = n at *
  generalize g.ws.length = L at *
  have fin : ∀ V : World, V.cell? ⟨w.heap.size, 0, none⟩ = some (.pointer none) → V.cell? ⟨w.heap.size, 1, none⟩ = some (.pointer none) → Keeps (fun _ => False) w V → ∀ T : Array Value, T.getD 6 undef = .pointer (some ⟨w.heap.size, 0, none⟩) → T.getD 7 undef = .bool false →
      bodyPost Tryz.prog Tryz.f119 (fun e w' => e = .returned (.tuple #[.agg #[.pointer none, .pointer none], .bool false]) ∧ Keeps (fun _ => False) w w') .ret ⟨T, []⟩ V := fun V z0 z1 hk T t6 t7 => by
    refine bodyPost_ret (v := .tuple #[.agg #[.pointer none, .pointer none], .bool false]) ?_ rfl ⟨rfl, hk⟩
    rw [Array.getD_eq_getD_getElem?] at t6 t7
    simp [results, Tryz.results119, go_sem, z0, z1, t6, t7]
  have FIN := Lib.hid fin
  clear fin
  go_enter Tryz.func119, Tryz.ntmps119
  by_cases i1 : i < 1
  · clear hno
    go_wp2_with fail
    obtain ⟨z0, z1, hks⟩ := Z.out
    exact FIN.out _ z0 z1 hks _ rfl rfl
  · by_cases i2 : (n : Int) ≤ i
    · clear hno
      go_wp2_with fail
      obtain ⟨z0, z1, hks⟩ := Z.out
      exact FIN.out _ z0 z1 hks _ rfl rfl
    · by_cases i3 : k < 0
      · clear hno
        go_wp2_with fail
        obtain ⟨z0, z1, hks⟩ := Z.out
        exact FIN.out _ z0 z1 hks _ rfl rfl
      · have i4 : (L : Int) ≤ k := by omega
        clear hno
        go_wp2_with fail
        obtain ⟨z0, z1, hks⟩ := Z.out
        exact FIN.out _ z0 z1 hks _ rfl rfl
set_option maxHeartbeats 4000000 in
theorem sender_ok (h : NodeR w S g v a ticks) (hl : g.p.lanes = (g.ws.length : Int)) (i k : Nat) (h1 : 1 ≤ i) (hi : i < g.ports v) (hk : k < g.ws.length) :
    Calls Tryz.prog 106 #[.pointer (some ⟨a.nb, 0, none⟩), .int .i64 i, .int .i64 k] w fun e w' => e = .returned (.pointer (some ⟨a.sb i k, 0, none⟩)) ∧ Keeps (fun _ => False) w w' := by
  have HC := Lib.hid (ends_ok h hl i k h1 hi hk)
  clear h
  generalize a.sb i k = s at *
  generalize a.cb i k = r at *
  go_enter Tryz.func106, Tryz.ntmps106
  go_wp2_with fail
  refine HC.out.mono ?_
  rintro e U ⟨rfl, hU⟩
  have HU := Lib.hid hU
  clear hU HC
  go_wp2_with fail
  go_ret
  exact ⟨rfl, HU.out.trans (Keeps.alloc _ _ _)⟩
set_option maxHeartbeats 4000000 in
theorem receiver_ok (h : NodeR w S g v a ticks) (hl : g.p.lanes = (g.ws.length : Int)) (i k : Nat) (h1 : 1 ≤ i) (hi : i < g.ports v) (hk : k < g.ws.length) :
    Calls Tryz.prog 108 #[.pointer (some ⟨a.nb, 0, none⟩), .int .i64 i, .int .i64 k] w fun e w' => e = .returned (.pointer (some ⟨a.cb i k, 0, none⟩)) ∧ Keeps (fun _ => False) w w' := by
  have HC := Lib.hid (ends_ok h hl i k h1 hi hk)
  clear h
  generalize a.sb i k = s at *
  generalize a.cb i k = r at *
  go_enter Tryz.func108, Tryz.ntmps108
  go_wp2_with fail
  refine HC.out.mono ?_
  rintro e U ⟨rfl, hU⟩
  have HU := Lib.hid hU
  clear hU HC
  go_wp2_with fail
  go_ret
  exact ⟨rfl, HU.out.trans (Keeps.alloc _ _ _)⟩
end
end Go.Proofs.YtebnflpanfmicaaGreatDoor
namespace Go.Proofs.YtebnflpanfmicaaGreatDoor
open Go.RowKit
def PortIs (f : Nat) : Prop := ∀ (W : World) (xb : Nat) (x y : Int) (lA : Option Addr) (ln lc : Nat) (p : Option Addr), W.cell? ⟨xb, 0, none⟩ = some (.int .i64 x) → Calls Tryz.prog f #[.agg #[.int .i64 y, .slice lA ln lc, .pointer p], .pointer (some ⟨xb, 0, none⟩)] W fun e w' => e = .returned (.bool (y == x)) ∧ Keeps (fun _ => False) W w'
theorem isToward : PortIs 210 := fun W xb x y lA ln lc p hx => by
  have hx2 : (W.alloc (.cells #[.int .i64 y, .slice lA ln lc, .pointer p] 165)).cell? ⟨xb, 0, none⟩ = some (.int .i64 x) := (Keeps.alloc (fun _ => False) W _).cell hx (fun h => h)
  go_enter Tryz.func210, Tryz.ntmps210
  go_wp2_with fail
  go_ret
  exact ⟨rfl, Keeps.alloc _ _ _⟩
theorem isTake : PortIs 117 := fun W xb x y lA ln lc p hx => by
  have hx2 : (W.alloc (.cells #[.int .i64 y, .slice lA ln lc, .pointer p] 165)).cell? ⟨xb, 0, none⟩ = some (.int .i64 x) := (Keeps.alloc (fun _ => False) W _).cell hx (fun h => h)
  go_enter Tryz.func117, Tryz.ntmps117
  go_wp2_with fail
  go_ret
  exact ⟨rfl, Keeps.alloc _ _ _⟩
set_option maxHeartbeats 4000000 in
set_option maxRecDepth 100000 in
theorem indexT_runs (a : NodeA) (hlv : ∀ i, ∃ A n c, a.lv i = .slice A n c) (i0 : Nat) (l : List Nat) (n : Nat) (hn : l.length = n) (pA : Option Addr) (pc : Nat) (xb x : Nat) (w : World) (h : QS w 165 3 (.slice pA n pc) n (portsFrom a i0 l)) (h6 : n ≤ 6) (hx : w.cell? ⟨xb, 0, none⟩ = some (.int .i64 (x : Int))) :
    Calls Tryz.prog 116 #[.slice pA n pc, .func (.func 210) #[] #[.pointer (some ⟨xb, 0, none⟩)]] w fun e w' => e = .returned (.int .i64 (idxI l x)) ∧ Keeps (fun _ => False) w w' := by
  obtain ⟨z, hz⟩ : ∃ z, idxI l x = z := ⟨_, rfl⟩
  rw [hz]
  have HZ := Lib.hid hz
  have HF := Lib.hid isToward
  have HLV := Lib.hid hlv
  clear hz hlv
  go_enter Tryz.func116, Tryz.ntmps116
  go_wp2_with fail
  go_loopw [8] (fun s wr => ∃ i : Nat, i ≤ n ∧ s = .int .i64 (i : Int) ∧ x ∉ l.take i ∧ Keeps (fun _ => False) w wr) (fun s _ => n - (intOf s).toNat)
  case atStart => exact ⟨0, Nat.zero_le _, rfl, by simp, Keeps.refl _ _⟩
  case round =>
    obtain ⟨i, hi, rfl, hno, hk⟩ := hrel
    by_cases hil : i < n
    · have hii : (i : Int) < (n : Int) := by omega
      have hi0 : (0 : Int) ≤ (i : Int) := by omega
      obtain ⟨g, off, c', e', _, hcell, _⟩ := (h.keeps hk (fun _ _ h => h)).cell (by omega)
      cases e'
      have hll : i < l.length := by omega
      obtain ⟨c1, c2, c3⟩ := portsFrom_at a l i0 i _ (List.getElem?_eq_getElem hll)
      have y1 := hcell _ _ c1
      have y2 := hcell _ _ c2
      have y3 := hcell _ _ c3
      rw [← Nat.add_assoc] at y2 y3
      obtain ⟨lA, ln, lc, hl2⟩ := HLV.out (i0 + i)
      rw [hl2] at y2
      have hst : l.take (i + 1) = l.take i ++ [l[i]] := List.take_succ_eq_append_getElem hll
      have hidx : l[i] = x → idxI l x = (i : Int) := fun e => by
        unfold idxI
        rw [if_pos (by rw [← e]; exact List.getElem_mem _)]
        have h2 : l = l.take i ++ x :: l.drop (i + 1) := by rw [← e, ← List.drop_eq_getElem_cons hll, List.take_append_drop]
        have h3 : l.idxOf x = i := by
          rw [h2, List.idxOf_append, if_neg hno, List.idxOf_cons_self, List.length_take]; omega
        rw [h3]
      have HST := Lib.hid hst
      have HID := Lib.hid hidx
      have HNO := Lib.hid hno
      have hxw := hk.cell hx (fun h => h)
      have HC := Lib.hid (HF.out wr xb (x : Int) ((l[i] : Nat) : Int) lA ln lc (some ⟨a.wb (i0 + i), 0, none⟩) hxw)
      have HK := Lib.hid hk
      clear hcell c1 c2 c3 hst hidx hno hxw hk hl2
      generalize l[i] = y at *
      go_wp2_with fail
      refine HC.out.mono ?_
      rintro e' U ⟨rfl, hU⟩
      have HU := Lib.hid (HK.out.trans hU)
      clear hU HC y1 y2 y3
      by_cases hxy : y = x
      · have hb : ((y : Int) == (x : Int)) = true := by rw [beq_iff_eq]; omega
        have HE := Lib.hid (HZ.out.symm.trans (HID.out hxy))
        clear hxy
        go_wp2_with fail
        go_ret
        exact ⟨by rw [HE.out]; rfl, HU.out⟩
      · have hb : ((y : Int) == (x : Int)) = false := by rw [beq_eq_false_iff_ne]; omega
        have HXY := Lib.hid hxy
        clear hxy
        go_wp2_with fail
        go_roundw
        case rel => exact ⟨i + 1, by omega, by go_num, by rw [HST.out, List.mem_append, List.mem_singleton]; exact fun h => h.elim HNO.out (fun h => HXY.out h.symm), HU.out⟩
        case measure => simp [intOf]; omega
    · obtain rfl : i = n := by omega
      have hii : ¬ (i : Int) < (i : Int) := by omega
      have e : idxI l x = -1 := if_neg (by rwa [← hn, List.take_length] at hno)
      have HE := Lib.hid (HZ.out.symm.trans e)
      have HK := Lib.hid hk
      clear hno e hk
      go_wp2_with fail
      go_ret
      exact ⟨by rw [HE.out]; rfl, HK.out⟩
set_option maxHeartbeats 4000000 in
set_option maxRecDepth 100000 in
theorem indexK_runs (a : NodeA) (hlv : ∀ i, ∃ A n c, a.lv i = .slice A n c) (i0 : Nat) (l : List Nat) (n : Nat) (hn : l.length = n) (pA : Option Addr) (pc : Nat) (xb x : Nat) (w : World) (h : QS w 165 3 (.slice pA n pc) n (portsFrom a i0 l)) (h6 : n ≤ 6) (hx : w.cell? ⟨xb, 0, none⟩ = some (.int .i64 (x : Int))) :
    Calls Tryz.prog 116 #[.slice pA n pc, .func (.func 117) #[] #[.pointer (some ⟨xb, 0, none⟩)]] w fun e w' => e = .returned (.int .i64 (idxI l x)) ∧ Keeps (fun _ => False) w w' := by
  obtain ⟨z, hz⟩ : ∃ z, idxI l x = z := ⟨_, rfl⟩
  rw [hz]
  have HZ := Lib.hid hz
  have HF := Lib.hid isTake
  have HLV := Lib.hid hlv
  clear hz hlv
  go_enter Tryz.func116, Tryz.ntmps116
  go_wp2_with fail
  go_loopw [8] (fun s wr => ∃ i : Nat, i ≤ n ∧ s = .int .i64 (i : Int) ∧ x ∉ l.take i ∧ Keeps (fun _ => False) w wr) (fun s _ => n - (intOf s).toNat)
  case atStart => exact ⟨0, Nat.zero_le _, rfl, by simp, Keeps.refl _ _⟩
  case round =>
    obtain ⟨i, hi, rfl, hno, hk⟩ := hrel
    by_cases hil : i < n
    · have hii : (i : Int) < (n : Int) := by omega
      have hi0 : (0 : Int) ≤ (i : Int) := by omega
      obtain ⟨g, off, c', e', _, hcell, _⟩ := (h.keeps hk (fun _ _ h => h)).cell (by omega)
      cases e'
      have hll : i < l.length := by omega
      obtain ⟨c1, c2, c3⟩ := portsFrom_at a l i0 i _ (List.getElem?_eq_getElem hll)
      have y1 := hcell _ _ c1
      have y2 := hcell _ _ c2
      have y3 := hcell _ _ c3
      rw [← Nat.add_assoc] at y2 y3
      obtain ⟨lA, ln, lc, hl2⟩ := HLV.out (i0 + i)
      rw [hl2] at y2
      have hst : l.take (i + 1) = l.take i ++ [l[i]] := List.take_succ_eq_append_getElem hll
      have hidx : l[i] = x → idxI l x = (i : Int) := fun e => by
        unfold idxI
        rw [if_pos (by rw [← e]; exact List.getElem_mem _)]
        have h2 : l = l.take i ++ x :: l.drop (i + 1) := by rw [← e, ← List.drop_eq_getElem_cons hll, List.take_append_drop]
        have h3 : l.idxOf x = i := by
          rw [h2, List.idxOf_append, if_neg hno, List.idxOf_cons_self, List.length_take]; omega
        rw [h3]
      have HST := Lib.hid hst
      have HID := Lib.hid hidx
      have HNO := Lib.hid hno
      have hxw := hk.cell hx (fun h => h)
      have HC := Lib.hid (HF.out wr xb (x : Int) ((l[i] : Nat) : Int) lA ln lc (some ⟨a.wb (i0 + i), 0, none⟩) hxw)
      have HK := Lib.hid hk
      clear hcell c1 c2 c3 hst hidx hno hxw hk hl2
      generalize l[i] = y at *
      go_wp2_with fail
      refine HC.out.mono ?_
      rintro e' U ⟨rfl, hU⟩
      have HU := Lib.hid (HK.out.trans hU)
      clear hU HC y1 y2 y3
      by_cases hxy : y = x
      · have hb : ((y : Int) == (x : Int)) = true := by rw [beq_iff_eq]; omega
        have HE := Lib.hid (HZ.out.symm.trans (HID.out hxy))
        clear hxy
        go_wp2_with fail
        go_ret
        exact ⟨by rw [HE.out]; rfl, HU.out⟩
      · have hb : ((y : Int) == (x : Int)) = false := by rw [beq_eq_false_iff_ne]; omega
        have HXY := Lib.hid hxy
        clear hxy
        go_wp2_with fail
        go_roundw
        case rel => exact ⟨i + 1, by omega, by go_num, by rw [HST.out, List.mem_append, List.mem_singleton]; exact fun h => h.elim HNO.out (fun h => HXY.out h.symm), HU.out⟩
        case measure => simp [intOf]; omega
    · obtain rfl : i = n := by omega
      have hii : ¬ (i : Int) < (i : Int) := by omega
      have e : idxI l x = -1 := if_neg (by rwa [← hn, List.take_length] at hno)
      have HE := Lib.hid (HZ.out.symm.trans e)
      have HK := Lib.hid hk
      clear hno e hk
      go_wp2_with fail
      go_ret
      exact ⟨by rw [HE.out]; rfl, HK.out⟩
end Go.Proofs.YtebnflpanfmicaaGreatDoor
namespace Go.Proofs.YtebnflpanfmicaaGreatDoor
open Go.RowKit
def towardI (t : List Nat) (v d : Nat) : Int := if d = v then 0 else idxI (nb t v) (nxt t v d) + 1
section
variable {w : World} {S SP : Nat → Prop} {g : Geo} {v : Nat} {a : NodeA} {ticks : Int}
set_option maxRecDepth 100000 in
set_option maxHeartbeats 8000000 in
theorem toward_runs (h : NodeR w S g v a ticks) (hp : PlanS w SP g.p g.t g.ws g.e g.wt g.nx) (hlv : ∀ i, ∃ A n c, a.lv i = .slice A n c) (hv : v ≤ g.t.length) (d : Nat) (hd : d ≤ g.t.length) :
    Calls Tryz.prog 172 #[.pointer (some ⟨a.nb, 0, none⟩), .int .i64 d] w fun e w' => e = .returned (.int .i64 (towardI g.t v d)) ∧ Keeps (fun _ => False) w w' := by
  have cme : w.cell? ⟨a.nb, 12, none⟩ = some (.int .i64 (v : Int)) := by rw [blk_cell h.box]; rfl
  by_cases hdv : d = v
  · subst hdv
    have hz : towardI g.t d d = 0 := if_pos rfl
    rw [hz]
    have hb : ((d : Int) == (d : Int)) = true := by simp
    clear h hp hlv hz
    go_enter Tryz.func172, Tryz.ntmps172
    go_wp2_with fail
    go_ret
    exact ⟨rfl, Keeps.refl _ _⟩
  · have hb : ((d : Int) == (v : Int)) = false := by rw [beq_eq_false_iff_ne]; omega
    obtain ⟨z, hz⟩ : ∃ z, towardI g.t v d = z := ⟨_, rfl⟩
    have hz2 : idxI (nb g.t v) (nxt g.t v d) + 1 = z := by rw [← hz]; exact (if_neg hdv).symm
    rw [hz]
    obtain ⟨h1, h2⟩ := idxI_le (nb g.t v) (nxt g.t v d)
    obtain ⟨g1, o1, cn, g2, o2, cr, e1, c1, c2⟩ := hp.hop (Keeps.refl _ _) hv hd
    have cnx : w.cell? ⟨a.nb, 11, none⟩ = some g.nx := by rw [blk_cell h.box]; rfl
    rw [e1] at cnx
    have cpv : w.cell? ⟨a.nb, 13, none⟩ = some a.pv := by rw [blk_cell h.box]; rfl
    have hnb := nb_rises hp.tree hp.t5 hv
    have ht1 := hp.t1
    have hn1 : 1 ≤ (nb g.t v).length := by rcases hnb.2.2.2.2 with h | h <;> omega
    have hn5 := hnb.2.2.1
    have hpq := h.pq
    have hgp : g.ports v = (nb g.t v).length + 1 := rfl
    rw [hgp] at hpq
    obtain ⟨gp, op, cp, e2, hcp, _, _⟩ := hpq.cell (by omega)
    rw [e2] at hpq cpv
    obtain ⟨cq, rfl⟩ : ∃ cq, cp = cq + 1 := ⟨cp - 1, by omega⟩
    have hcq : ¬ cq = 0 := by omega
    have hdr := hpq.drop 1 (by omega)
    have hpl : (portsFrom a 0 (tos g.t v)).drop (1 * 3) = portsFrom a 1 (nb g.t v) := rfl
    rw [hpl] at hdr
    have hIX : Hid (∀ U xb, Keeps (fun _ => False) w U → U.cell? ⟨xb, 0, none⟩ = some (.int .i64 ((nxt g.t v d : Nat) : Int)) → _) := Lib.hid fun U xb hU hx => indexT_runs a hlv 1 (nb g.t v) (nb g.t v).length rfl (some ⟨gp, op + 1 * 3, none⟩) cq xb (nxt g.t v d) U (hdr.keeps hU (fun _ _ h => h)) (by omega) hx
    have hvi : (v : Int) < (g.t.length : Int) + 1 := by omega
    have hv0 : (0 : Int) ≤ (v : Int) := by omega
    have hdi : (d : Int) < (g.t.length : Int) + 1 := by omega
    have hd0 : (0 : Int) ≤ (d : Int) := by omega
    have hif : (if cq = 0 then (some ⟨gp, op, none⟩ : Option Addr) else some ⟨gp, op + 3, none⟩) = some ⟨gp, op + 1 * 3, none⟩ := if_neg hcq
    have HZ := Lib.hid hz2
    have HDV := Lib.hid hdv
    clear h hp hlv hz hz2 e1 e2 hnb hpq hdr hpl hdv hgp
    generalize idxI (nb g.t v) (nxt g.t v d) = ix at *
    generalize nxt g.t v d = y at *
    generalize (nb g.t v).length = m at *
    go_enter Tryz.func172, Tryz.ntmps172
    go_wp2_with fail
    have HS := Lib.hid (p := ∀ U, Keeps (fun _ => False) w U → U.cell? ⟨a.nb, 12, none⟩ = some (.int .i64 (v : Int)) ∧ U.cell? ⟨a.nb, 11, none⟩ = some (.slice (some ⟨g1, o1, none⟩) (g.t.length + 1) cn) ∧ U.cell? ⟨g1, o1 + v, none⟩ = some (.slice (some ⟨g2, o2, none⟩) (g.t.length + 1) cr) ∧ U.cell? ⟨g2, o2 + d, none⟩ = some (encI y)) fun U hU => ⟨hU.cell cme (fun h => h), hU.cell cnx (fun h => h), hU.cell c1 (fun h => h), hU.cell c2 (fun h => h)⟩
    have HPV := Lib.hid (p := ∀ U, Keeps (fun _ => False) w U → U.cell? ⟨a.nb, 13, none⟩ = some (.slice (some ⟨gp, op, none⟩) (m + 1) (cq + 1))) fun U hU => hU.cell cpv (fun h => h)
    have hkd : Keeps (fun _ => False) w w.drew := Keeps.drew _ _
    have hka : ∀ o, Keeps (fun _ => False) w (w.drew.alloc o) := fun o => hkd.trans (Keeps.alloc _ _ _)
    have hkb : ∀ x, Keeps (fun _ => False) w ((w.drew.alloc (.cells #[.int .i64 0] 3)).setCell ⟨w.heap.size, 0, none⟩ x) := fun x => (hka _).then (Keeps.setCell (fun k => k = w.heap.size) _ ⟨w.heap.size, 0, none⟩ x rfl) (fun i hi h => by omega)
    go_region_held3 (fun U => U.cell? ⟨a.nb, 12, none⟩ = some (.int .i64 (v : Int)) ∧ U.cell? ⟨a.nb, 11, none⟩ = some (.slice (some ⟨g1, o1, none⟩) (g.t.length + 1) cn) ∧ U.cell? ⟨g1, o1 + v, none⟩ = some (.slice (some ⟨g2, o2, none⟩) (g.t.length + 1) cr) ∧ U.cell? ⟨g2, o2 + d, none⟩ = some (encI y))
      (with_reducible first | exact HS.out _ hkd | exact HS.out _ (hka _) | exact HS.out _ (hkb _) | go_keep)
      (first | (trace_state; fail))
    have hkY : Keeps (fun _ => False) w (w.alloc (.cells #[.int .i64 (y : Int)] 3)).drew := (Keeps.alloc _ _ _).trans (Keeps.drew _ _)
    have hxY : (w.alloc (.cells #[.int .i64 (y : Int)] 3)).drew.cell? ⟨w.heap.size, 0, none⟩ = some (.int .i64 (y : Int)) := by
      have := blk_cell (blk_new w (.cells #[.int .i64 (y : Int)] 3)) 0
      exact this
    have hC := hIX.out _ w.heap.size hkY hxY
    have hpY := HPV.out _ hkY
    generalize (w.alloc (.cells #[.int .i64 (y : Int)] 3)).drew = Y at *
    have HC := Lib.hid hC
    have HKY := Lib.hid hkY
    have hb1 : ¬ ((m : Int) + 1) < 1 := by omega
    have hb2 : (1 : Int) ≤ (m : Int) + 1 := by omega
    have hb3 : (1 : Int) ≤ ((m + 1 : Nat) : Int) := by omega
    have hb4 : ((m + 1 : Nat) : Int) ≤ ((cq + 1 : Nat) : Int) := by omega
    have hw : IntKind.i64.wrap (ix + 1) = ix + 1 := by simp [IntKind.wrap, IntKind.bits, IntKind.signed]; omega
    clear hC hkY hxY hIX hkd hka hkb HS HPV cme cnx cpv c1 c2
    go_wp2_with fail
    refine HC.out.mono ?_
    rintro e U ⟨rfl, hU⟩
    have HU := Lib.hid (HKY.out.trans hU)
    clear hU HC HKY
    go_wp2_with fail
    go_ret
    exact ⟨by rw [← HZ.out]; rfl, HU.out⟩
end
end Go.Proofs.YtebnflpanfmicaaGreatDoor
namespace Go.Proofs.YtebnflpanfmicaaGreatDoor
open Go.RowKit
def injOk (t : List Nat) (v : Nat) (x : Pkt) : Prop := x.src = (v : Int) ∧ 0 ≤ x.dst ∧ x.dst < (t.length : Int) + 1 ∧ x.dst ≠ (v : Int)
section
variable {w : World} {S SH : Nat → Prop} {g : Geo} {v : Nat} {a : NodeA} {ticks : Int} {q : Nat → List Pkt}
set_option maxRecDepth 100000 in
set_option maxHeartbeats 8000000 in
theorem inject_arg (h : NodeR w S g v a ticks) (x : Pkt) (hno : ¬ injOk g.t v x) :
    Calls Tryz.prog 36 #[.pointer (some ⟨a.nb, 0, none⟩), .agg #[.int .i64 x.src, .int .i64 x.dst, .int .i64 x.lane, .int .u32 x.body]] w fun e w' => e = .returned (.int .u16 1) ∧ Keeps (fun _ => False) w w' := by
  obtain ⟨x1, x2, x3, x4⟩ := x
  unfold injOk at hno
  simp only at hno
  have cme : w.cell? ⟨a.nb, 12, none⟩ = some (.int .i64 (v : Int)) := by rw [blk_cell h.box]; rfl
  have cn : w.cell? ⟨a.nb, 1, none⟩ = some (.int .i64 ((g.t.length : Int) + 1)) := by rw [blk_cell h.box]; rfl
  have hk0 : Keeps (fun _ => False) w (w.alloc (.cells #[.int .i64 x1, .int .i64 x2, .int .i64 x3, .int .u32 x4] 31)) := Keeps.alloc _ _ _
  have hb := blk_new w (.cells #[.int .i64 x1, .int .i64 x2, .int .i64 x3, .int .u32 x4] 31)
  have d0 := hk0.cell cme (fun h => h)
  have d1 := hk0.cell cn (fun h => h)
  have z0 := blk_cell hb 0
  have z1 := blk_cell hb 1
  simp only [List.getElem?_toArray, List.getElem?_cons_zero, List.getElem?_cons_succ] at z0 z1
  have HNO := Lib.hid hno
  have HK0 := Lib.hid hk0
  clear h hno cme cn hb hk0
  go_enter Tryz.func36, Tryz.ntmps36
  go_wp2_with fail
  generalize w.alloc (.cells #[.int .i64 x1, .int .i64 x2, .int .i64 x3, .int .u32 x4] 31) = X at *
  by_cases c1 : x1 = (v : Int)
  · have b1 : (x1 == (v : Int)) = true := by rw [beq_iff_eq]; exact c1
    have b1' : (x1 != (v : Int)) = false := by rw [bne, b1]; rfl
    by_cases c2 : x2 < 0
    · clear c1
      go_quiet (fail)
      go_wp2_with fail
      go_ret
      exact ⟨rfl, HK0.out.trans (Keeps.drewN _ _ _)⟩
    · by_cases c3 : (g.t.length : Int) + 1 ≤ x2
      · clear c1
        go_quiet (fail)
        go_wp2_with fail
        go_ret
        exact ⟨rfl, HK0.out.trans (Keeps.drewN _ _ _)⟩
      · have c4 : x2 = (v : Int) := by
          by_cases c4 : x2 = (v : Int)
          · exact c4
          · exact absurd ⟨c1, by omega, by omega, c4⟩ HNO.out
        have b4 : (x2 == (v : Int)) = true := by rw [beq_iff_eq]; exact c4
        clear c1 c4
        go_quiet (fail)
        go_wp2_with fail
        go_ret
        exact ⟨rfl, HK0.out.trans (Keeps.drewN _ _ _)⟩
  · have b1 : (x1 == (v : Int)) = false := by rw [beq_eq_false_iff_ne]; exact c1
    have b1' : (x1 != (v : Int)) = true := by rw [bne, b1]; rfl
    clear c1
    go_quiet (fail)
    go_wp2_with fail
    go_ret
    exact ⟨rfl, HK0.out.trans (Keeps.drewN _ _ _)⟩
set_option maxRecDepth 100000 in
set_option maxHeartbeats 8000000 in
theorem inject_pass (h : NodeR w S g v a ticks) (x : Pkt) (hok : injOk g.t v x) (c : Int) (F : Nat → Prop) (hF1 : ¬ F a.nb) (hF2 : ∀ k, F k → k < w.heap.size) (R : World → World → Prop)
    (hput : ∀ U, Keeps (fun _ => False) w U → Calls Tryz.prog 71 #[.pointer (some ⟨a.hb, 0, none⟩), .agg #[.int .i64 x.src, .int .i64 x.dst, .int .i64 x.lane, .int .u32 x.body]] U fun e w' => e = .returned (.int .u16 c) ∧ Keeps F U w' ∧ R U w') :
    Calls Tryz.prog 36 #[.pointer (some ⟨a.nb, 0, none⟩), .agg #[.int .i64 x.src, .int .i64 x.dst, .int .i64 x.lane, .int .u32 x.body]] w fun e w' => e = .returned (.int .u16 c) ∧ ∃ U, Keeps (fun _ => False) w U ∧ R U w' := by
  obtain ⟨x1, x2, x3, x4⟩ := x
  obtain ⟨c1, c2, c3, c4⟩ := hok
  simp only at c1 c2 c3 c4 hput
  have cme : w.cell? ⟨a.nb, 12, none⟩ = some (.int .i64 (v : Int)) := by rw [blk_cell h.box]; rfl
  have cn : w.cell? ⟨a.nb, 1, none⟩ = some (.int .i64 ((g.t.length : Int) + 1)) := by rw [blk_cell h.box]; rfl
  have ch : w.cell? ⟨a.nb, 14, none⟩ = some (.pointer (some ⟨a.hb, 0, none⟩)) := by rw [blk_cell h.box]; rfl
  have hk0 : Keeps (fun _ => False) w (w.alloc (.cells #[.int .i64 x1, .int .i64 x2, .int .i64 x3, .int .u32 x4] 31)) := Keeps.alloc _ _ _
  have hb : PktAt (w.alloc (.cells #[.int .i64 x1, .int .i64 x2, .int .i64 x3, .int .u32 x4] 31)) w.heap.size ⟨x1, x2, x3, x4⟩ := blk_new w _
  have d0 := hk0.cell cme (fun h => h)
  have d1 := hk0.cell cn (fun h => h)
  have d2 := hk0.cell ch (fun h => h)
  have HP := Lib.hid hput
  have b1 : (x1 == (v : Int)) = true := by rw [beq_iff_eq]; exact c1
  have b1' : (x1 != (v : Int)) = false := by rw [bne, b1]; rfl
  have b2 : ¬ x2 < 0 := by omega
  have b3 : ¬ (g.t.length : Int) + 1 ≤ x2 := by omega
  have b4 : (x2 == (v : Int)) = false := by rw [beq_eq_false_iff_ne]; exact c4
  clear h cme cn ch c1 c4 hput
  go_enter Tryz.func36, Tryz.ntmps36
  go_wp2_with fail
  generalize w.alloc (.cells #[.int .i64 x1, .int .i64 x2, .int .i64 x3, .int .u32 x4] 31) = X at *
  obtain ⟨xb, hxb⟩ : ∃ xb, w.heap.size = xb := ⟨_, rfl⟩
  have hF3 : ¬ F xb := fun h => by have := hF2 xb h; omega
  rw [hxb] at hb ⊢
  clear hxb
  obtain ⟨z0, z1, z2, z3⟩ := hb.cells
  simp only at z0 z1 z2 z3
  clear hb
  go_quiet (fail)
  rename_i nq
  have hkq : Keeps (fun _ => False) X (X.drewN nq) := Keeps.drewN _ _ _
  have e2 := hkq.cell d2 (fun h => h)
  have y0 := hkq.cell z0 (fun h => h)
  have y1 := hkq.cell z1 (fun h => h)
  have y2 := hkq.cell z2 (fun h => h)
  have y3 := hkq.cell z3 (fun h => h)
  have hkV := hk0.trans hkq
  clear hk0 hkq d0 d1 d2 z0 z1 z2 z3
  generalize X.drewN nq = V at *
  have hd : Keeps (fun _ => False) V V.drew := Keeps.drew _ _
  have HS := Lib.hid (p := ∀ U, Keeps (fun _ => False) V U → U.cell? ⟨a.nb, 14, none⟩ = some (.pointer (some ⟨a.hb, 0, none⟩)) ∧ U.cell? ⟨xb, 0, none⟩ = some (.int .i64 x1) ∧ U.cell? ⟨xb, 1, none⟩ = some (.int .i64 x2) ∧ U.cell? ⟨xb, 2, none⟩ = some (.int .i64 x3) ∧ U.cell? ⟨xb, 3, none⟩ = some (.int .u32 x4)) fun U hU => ⟨hU.cell e2 (fun h => h), hU.cell y0 (fun h => h), hU.cell y1 (fun h => h), hU.cell y2 (fun h => h), hU.cell y3 (fun h => h)⟩
  have HSF := Lib.hid (p := ∀ U, Keeps F V.drew U → U.cell? ⟨a.nb, 14, none⟩ = some (.pointer (some ⟨a.hb, 0, none⟩)) ∧ U.cell? ⟨xb, 0, none⟩ = some (.int .i64 x1) ∧ U.cell? ⟨xb, 1, none⟩ = some (.int .i64 x2) ∧ U.cell? ⟨xb, 2, none⟩ = some (.int .i64 x3) ∧ U.cell? ⟨xb, 3, none⟩ = some (.int .u32 x4)) fun U hU => by
    obtain ⟨s1, s2, s3, s4, s5⟩ := HS.out _ hd
    exact ⟨hU.cell s1 hF1, hU.cell s2 hF3, hU.cell s3 hF3, hU.cell s4 hF3, hU.cell s5 hF3⟩
  have HC := Lib.hid (HP.out _ (hkV.trans hd))
  have HKD := Lib.hid (hkV.trans hd)
  clear hkV HP
  go_wp2_with fail
  go_region_held3 (fun U => U.cell? ⟨a.nb, 14, none⟩ = some (.pointer (some ⟨a.hb, 0, none⟩)) ∧ U.cell? ⟨xb, 0, none⟩ = some (.int .i64 x1) ∧ U.cell? ⟨xb, 1, none⟩ = some (.int .i64 x2) ∧ U.cell? ⟨xb, 2, none⟩ = some (.int .i64 x3) ∧ U.cell? ⟨xb, 3, none⟩ = some (.int .u32 x4))
    (with_reducible first | exact HS.out _ hd | exact hSW | go_keep)
    (first | (go_at_call 71; refine HC.out.mono ?_; rintro e W ⟨rfl, hkW, hRW⟩; have hSW := HSF.out W hkW))
  have HR := Lib.hid hRW
  clear hRW hkW hSW HC HS HSF hd e2 y0 y1 y2 y3
  go_wp2_with fail
  go_ret
  exact ⟨rfl, _, HKD.out, HR.out⟩
end
end Go.Proofs.YtebnflpanfmicaaGreatDoor
