/-
  Part 11 of the proof: TreeOf, TreeLawKit, TreeMake, TreeCheckE, TreeCheckF, TreeCheckG.
-/
import Derived.Test.YtebnflpanfmicaaGreatDoorPkAJ
import Derived.OpenShut
import Derived.DataShut
import Derived.Sort.AtCall
import Derived.Deep.RegionHeld
set_option linter.unusedVariables false
set_option linter.unusedSimpArgs false
set_option linter.unusedSectionVars false
namespace Go.Proofs.YtebnflpanfmicaaGreatDoor
open Go.RowKit
abbrev encU8 (k : Nat) : Value := .int .u8 (k : Int)
def ofN (zs : List Nat) (n : Nat) : List Nat := (List.range n).map fun i => zs.getD i 0 % (i + 1)
def ofL (zs : List Nat) : List Nat := if zs.length = 0 then [0] else ofN zs (if zs.length < 5 then zs.length else 5)
theorem ofN_length (zs : List Nat) (n : Nat) : (ofN zs n).length = n := by simp [ofN]
theorem ofN_succ (zs : List Nat) (n : Nat) : ofN zs (n + 1) = ofN zs n ++ [zs.getD n 0 % (n + 1)] := by unfold ofN; rw [List.range_succ, List.map_append]; rfl
theorem ofL_tree (zs : List Nat) : Tree (ofL zs) ∧ 0 < (ofL zs).length ∧ (ofL zs).length ≤ 5 := by
  unfold ofL
  by_cases h : zs.length = 0
  · rw [if_pos h]; exact ⟨by unfold Tree; decide, by decide, by decide⟩
  · rw [if_neg h]
    refine ⟨fun i hi => ?_, ?_, ?_⟩
    · have : (ofN zs (if zs.length < 5 then zs.length else 5))[i] = zs.getD i 0 % (i + 1) := by simp [ofN]
      rw [this]
      have := Nat.mod_lt (zs.getD i 0) (show i + 1 > 0 by omega)
      omega
    · rw [ofN_length]; by_cases h5 : zs.length < 5
      · rw [if_pos h5]; omega
      · rw [if_neg h5]; decide
    · rw [ofN_length]; by_cases h5 : zs.length < 5
      · rw [if_pos h5]; omega
      · rw [if_neg h5]; exact Nat.le_refl _
set_option maxHeartbeats 4000000 in
theorem of_calls (v : Value) (zs : List Nat) (w : World) (h : Reads w w.heap.size 1 v zs.length (zs.map encU8)) (hz : ∀ x ∈ zs, x ≤ 255) :
    Calls Tryz.prog 39 #[v] w fun e w' => ∃ u, e = .returned u ∧ QS w' 3 1 u (ofL zs).length ((ofL zs).map encI) ∧ Keeps (fun _ => False) w w' ∧ ∀ k, u.ownBlock = some k → w.heap.size ≤ k := by
  obtain ⟨A, c, hsh, hm1, hm2⟩ : ∃ A c, v = .slice A zs.length c ∧ zs.length ≤ c ∧ c ≤ maxLen := by obtain ⟨_, A, c, h, h1, h2, _⟩ := h; exact ⟨A, c, h, h1, h2⟩
  subst hsh
  obtain ⟨R, hR⟩ : ∃ R, ofL zs = R := ⟨_, rfl⟩
  rw [hR]
  have hR' := Lib.hid hR
  clear hR
  go_enter Tryz.func39, Tryz.ntmps39
  go_wp2_with fail
  go_loopw [3, 4] (fun l s wr => ∃ i : Nat, i ≤ zs.length ∧ i ≤ 5 ∧ s = .int .i64 (i : Int) ∧ QS wr 3 1 l i ((ofN zs i).map encI) ∧ Keeps (fun _ => False) w wr ∧ ∀ k, l.ownBlock = some k → w.heap.size ≤ k) (fun _ s _ => 5 - (intOf s).toNat)
  case atStart => exact ⟨0, Nat.zero_le _, by decide, rfl, QS.nil _ _ _, Keeps.refl _ _, fun k h => by cases h⟩
  case round =>
    obtain ⟨i, hi, hi5, rfl, hq, hk, hb⟩ := hrel
    revert hq hb; generalize u3 = l; intro hq hb
    by_cases hil : i < zs.length
    · have hii : (i : Int) < (zs.length : Int) := by omega
      by_cases h5 : i < 5
      · have h5' : (i : Int) < 5 := by omega
        obtain ⟨g, off, c', e', _, _, hcell⟩ := h.at_ (by simp; omega)
        injection e' with e1 _ e2
        subst e1; subst e2
        have hci := hk.cell (hcell i (encU8 zs[i]) (by rw [List.getElem?_map, List.getElem?_eq_getElem hil]; rfl)) (fun h => h)
        have hz1 := hz zs[i] (List.getElem_mem _)
        have hsn := ofN_succ zs i
        rw [List.getD_eq_getElem?_getD, List.getElem?_eq_getElem hil] at hsn
        rw [show (some zs[i]).getD 0 = zs[i] from rfl] at hsn
        clear hcell
        generalize zs[i] = z at *
        have hmod : (z : Int) % ((i : Int) + 1) = ((z % (i + 1) : Nat) : Int) := by rw [Int.natCast_emod]; rfl
        have hne : ¬ ((i : Int) + 1 = 0) := by omega
        generalize z % (i + 1) = q at *
        have hq0 : QS (wr.alloc (.cells #[encI q] 3)) 3 1 l i ((ofN zs i).map encI) := hq.alloc _
        have hsrc : Src Tryz.prog 1 35 (.slice (some ⟨wr.heap.size, 0, none⟩) 1 1) 1 [encI q] (wr.alloc (.cells #[encI q] 3)) :=
          src_blk Tryz.underlying35 (blk_new _ _) rfl (by intro jj hjj'; match jj, hjj' with | 0, _ => rfl) (by intro u hu; simp at hu; subst hu; rfl)
        go_wp2_with (at_builtin; refine wpList_append_QS rfl _ _ 35 35 rfl 3 _ 1 8 Tryz.underlying35 info_int rfl l i ((ofN zs i).map encI) rfl hq0 _ 1 [encI q] rfl hsrc (by decide) (by omega) ?_; intro A1 c1 w1 hq1 hg1 ho1)
        go_roundw
        case rel =>
          have hk1 : Keeps (fun i => l.ownBlock = some i) wr w1 := (Keeps.alloc _ _ _).trans (Keeps.grown hg1 (fun i h => h))
          refine ⟨i + 1, by omega, by omega, by simp, by rw [hsn, List.map_append]; exact hq1, hk.then hk1 (fun i hi h => by have := hb i h; omega), fun b hb' => ?_⟩
          rcases ho1 with h | ⟨i', h, hle⟩
          · exact hb b (h ▸ hb')
          · rw [hb'] at h; cases h; have := hk.size; rw [World.size_alloc] at hle; omega
        case measure => simp [intOf]; omega
      · obtain rfl : i = 5 := by omega
        have hRe : R = ofN zs 5 := by rw [← hR'.out]; unfold ofL; rw [if_neg (by omega), if_neg (by omega)]
        subst hRe
        obtain ⟨lA, lc, hsh, _, _⟩ := hq.shape
        subst hsh
        go_wp2_with fail
        go_ret
        exact ⟨_, rfl, by rw [ofN_length]; exact hq, hk, hb⟩
    · obtain rfl : i = zs.length := by omega
      obtain ⟨lA, lc, hsh, _, _⟩ := hq.shape
      subst hsh
      by_cases h0 : zs.length = 0
      · have hRe : R = [0] := by rw [← hR'.out]; unfold ofL; rw [if_pos h0]
        subst hRe
        generalize zs.length = n at *
        subst h0
        have hq0 : QS (wr.alloc (.cells #[encI 0] 3)) 3 1 (.slice lA 0 lc) 0 ((ofN zs 0).map encI) := hq.alloc _
        have hsrc : Src Tryz.prog 1 35 (.slice (some ⟨wr.heap.size, 0, none⟩) 1 1) 1 [encI 0] (wr.alloc (.cells #[encI 0] 3)) :=
          src_blk Tryz.underlying35 (blk_new _ _) rfl (by intro jj hjj'; match jj, hjj' with | 0, _ => rfl) (by intro u hu; simp at hu; subst hu; rfl)
        go_wp2_with (at_builtin; refine wpList_append_QS rfl _ _ 35 35 rfl 3 _ 1 8 Tryz.underlying35 info_int rfl (.slice lA 0 lc) 0 ((ofN zs 0).map encI) rfl hq0 _ 1 [encI 0] rfl hsrc (by decide) (by omega) ?_; intro A1 c1 w1 hq1 hg1 ho1)
        have hk1 : Keeps (fun i => (Value.slice lA 0 lc).ownBlock = some i) wr w1 := (Keeps.alloc _ _ _).trans (Keeps.grown hg1 (fun i h => h))
        go_ret
        refine ⟨.slice A1 1 c1, rfl, hq1, hk.then hk1 (fun i hi h => by have := hb i h; omega), fun b hb' => ?_⟩
        rcases ho1 with h | ⟨i', h, hle⟩
        · exact hb b (h ▸ hb')
        · rw [show (Value.slice A1 (0 + 1) c1) = .slice A1 1 c1 from rfl, hb'] at h; cases h; have := hk.size; rw [World.size_alloc] at hle; omega
      · have hRe : R = ofN zs zs.length := by
          rw [← hR'.out]; unfold ofL; rw [if_neg h0]
          by_cases h5 : zs.length < 5
          · rw [if_pos h5]
          · rw [if_neg h5, show zs.length = 5 by omega]
        subst hRe
        have hne : ((zs.length : Int) == 0) = false := by rw [beq_eq_false_iff_ne]; omega
        go_wp2_with fail
        go_ret
        exact ⟨_, rfl, by rw [ofN_length]; exact hq, hk, hb⟩
end Go.Proofs.YtebnflpanfmicaaGreatDoor
namespace Go.Proofs.YtebnflpanfmicaaGreatDoor
open Go.RowKit
theorem u8_nat {a : Int} (h : (Lit.int .u8 a).wf = true) : ∃ m : Nat, a = m ∧ m ≤ 255 := by
  rw [Lit.wf_int_iff, IntKind.min_u8, IntKind.max_u8] at h
  exact ⟨a.toNat, by omega, by omega⟩
theorem keeps_below {w w' : World} (h : Keeps (fun _ => False) w w') : Below w.heap.size w w' := h.below (Nat.le_refl _) (fun _ _ h => h)
theorem bytes_of_arg {W : World} {v : Value} (h : Arg Tryz.prog W 22 v) : ∃ zs : List Nat, (∀ x ∈ zs, x ≤ 255) ∧ Reads W W.heap.size 1 v zs.length (zs.map encU8) := by
  obtain ⟨n, zs, hR, rfl, hz⟩ := Arg.ints Tryz.underlying22 Tryz.underlying5 (by kernel_rfl) h
  have e : zs.map (Value.int .u8) = (zs.map Int.toNat).map encU8 := by
    rw [List.map_map]
    refine List.map_congr_left fun z hz' => ?_
    obtain ⟨m, rfl, hm⟩ := u8_nat (hz z hz')
    rfl
  refine ⟨zs.map Int.toNat, fun x hx => ?_, by rw [← e, List.length_map]; exact hR⟩
  obtain ⟨z, hz', rfl⟩ := List.mem_map.1 hx
  obtain ⟨m, rfl, hm⟩ := u8_nat (hz z hz')
  exact hm
theorem QS.set {w : World} {e n g off c : Nat} {cs : List Value} (h : QS w e 1 (.slice (some ⟨g, off, none⟩) n c) n cs) (k : Nat) (hk : k < n) (u : Value) :
    QS (w.setCell ⟨g, off + k, none⟩ u) e 1 (.slice (some ⟨g, off, none⟩) n c) n (cs.set k u) := by
  obtain ⟨hl, h2⟩ := h
  refine ⟨by rw [List.length_set]; exact hl, ?_⟩
  rcases h2 with ⟨hv, _⟩ | ⟨g', off', cap', cur, hv, hg, h1, h2, h3, h4⟩
  · cases hv
  · injection hv with ha _ hc'
    injection ha with ha
    injection ha with hg' ho
    subst hg'; subst ho; subst hc'
    refine .inr ⟨g, off, c, _, rfl, blk_set hg (off + k) u, h1, h2, by rw [Array.size_setIfInBounds]; exact h3, fun j hj => ?_⟩
    rw [List.length_set] at hj
    rw [Array.getElem?_setIfInBounds, List.getElem?_set]
    by_cases e : k = j
    · subst e
      rw [if_pos rfl, if_pos rfl, if_pos (by omega), if_pos hj]
    · rw [if_neg (by omega), if_neg e]; exact h4 j hj
theorem QS.spot {w : World} {e n c : Nat} {A : Option Addr} {cs : List Value} (h : QS w e 1 (.slice A n c) n cs) (k : Nat) (hk : k < n) :
    ∃ g off old, A = some ⟨g, off, none⟩ ∧ w.cell? ⟨g, off + k, none⟩ = some old ∧ w.frozen? ⟨g, off + k, none⟩ = false := by
  have hl : cs.length = n := by have := h.1; omega
  obtain ⟨g, off, c', e', _, hc, hf⟩ := h.cell (by omega)
  injection e' with e1 _ _
  exact ⟨g, off, cs[k], e1, hc k _ (List.getElem?_eq_getElem (by omega)), hf _⟩
end Go.Proofs.YtebnflpanfmicaaGreatDoor
namespace Go.Proofs.YtebnflpanfmicaaGreatDoor
open Go.RowKit
def makeNums (rm mr : Nat) : Nums := ⟨((1 + mr % 3 : Nat) : Int), ((1 + rm % 8 : Nat) : Int), ((1 + rm / 8 % 8 : Nat) : Int), ((1 + mr / 3 % 4 : Nat) : Int), ((1 + mr / 12 % 8 : Nat) : Int), 64, 0⟩
def makeW (mr i : Nat) : List Nat := (List.range i).map fun k => 1 + (k + mr) % 5
theorem makeW_length (mr i : Nat) : (makeW mr i).length = i := by simp [makeW]
theorem makeW_succ (mr i : Nat) : makeW mr (i + 1) = makeW mr i ++ [1 + (i + mr) % 5] := by unfold makeW; rw [List.range_succ, List.map_append]; rfl
structure MakeAt (w : World) (p : Nums) (n mr i v lim : Nat) (X : World) : Prop where
  keeps : Keeps (fun _ => False) w X
  size : w.heap.size + 2 ≤ X.heap.size
  lim1 : w.heap.size + 2 ≤ lim
  res : PBox X w.heap.size (Nums.zero.plan 0 (.slice none 0 0) (.slice none 0 0) (.slice none 0 0))
  box : ∃ Wa wc Na nc vs, PBox X (w.heap.size + 1) (p.plan (n : Int) (.slice none 0 0) (.slice Wa i wc) (.slice Na v nc)) ∧
    QS X 3 1 (.slice Wa i wc) i ((makeW mr i).map encI) ∧ (∀ k, (Value.slice Wa i wc).ownBlock = some k → w.heap.size + 2 ≤ k ∧ k < lim) ∧
    QS X 35 1 (.slice Na v nc) v vs ∧ (∀ k, (Value.slice Na v nc).ownBlock = some k → w.heap.size + 2 ≤ k ∧ k < lim)
theorem MakeAt.calm {w : World} {p : Nums} {n mr i v lim : Nat} {X Y : World} {F : Nat → Prop} (h : MakeAt w p n mr i v lim X) (hk : Keeps F X Y) (hF : ∀ k, F k → lim ≤ k) : MakeAt w p n mr i v lim Y := by
  obtain ⟨h1, h2, h2', h3, Wa, wc, Na, nc, vs, h4, h5, h6, h7, h8⟩ := h
  exact ⟨h1.then hk (fun i hi h => by have := hF _ h; omega), Nat.le_trans h2 hk.size, h2', blk_keeps hk h3 (fun h => by have := hF _ h; omega), Wa, wc, Na, nc, vs, blk_keeps hk h4 (fun h => by have := hF _ h; omega),
    h5.keeps hk (fun k hv h => by have := hF _ h; have := h6 k hv; omega), h6, h7.keeps hk (fun k hv h => by have := hF _ h; have := h8 k hv; omega), h8⟩
theorem MakeAt.now {w : World} {p : Nums} {n mr i v lim : Nat} {X : World} (h : MakeAt w p n mr i v lim X) : MakeAt w p n mr i v X.heap.size X := by
  obtain ⟨h1, h2, h2', h3, Wa, wc, Na, nc, vs, h4, h5, h6, h7, h8⟩ := h
  exact ⟨h1, h2, h2, h3, Wa, wc, Na, nc, vs, h4, h5, fun k hv => ⟨(h6 k hv).1, h5.lt k hv⟩, h7, fun k hv => ⟨(h8 k hv).1, h7.lt k hv⟩⟩
end Go.Proofs.YtebnflpanfmicaaGreatDoor
namespace Go.Proofs.YtebnflpanfmicaaGreatDoor
open Go.RowKit
theorem within_calls (x lo hi : Int) (w : World) (h1 : lo ≤ x) (h2 : x ≤ hi) :
    Calls Tryz.prog 79 #[.int .i64 x, .int .i64 lo, .int .i64 hi] w fun e w' => e = .returned (.bool true) ∧ w' = w := by
  go_enter Tryz.func79, Tryz.ntmps79
  go_wp2_with fail
  go_ret
  exact ⟨rfl, rfl⟩
structure Within (p : Nums) (n : Int) : Prop where
  n : 2 ≤ n ∧ n ≤ 6
  lanes : 1 ≤ p.lanes ∧ p.lanes ≤ 3
  room : 1 ≤ p.room ∧ p.room ≤ 8
  queue : 1 ≤ p.queue ∧ p.queue ≤ 8
  rounds : 1 ≤ p.rounds ∧ p.rounds ≤ 4
  every : 1 ≤ p.every ∧ p.every ≤ 8
  bag : 1 ≤ p.bag ∧ p.bag ≤ 64
set_option maxHeartbeats 4000000 in
theorem numbers_calls (p : Nums) (n : Int) (e wt nx : Value) (w : World) (h : Within p n) :
    Calls Tryz.prog 134 #[.agg (p.plan n e wt nx)] w fun e w' => e = .returned (.bool true) ∧ Keeps (fun _ => False) w w' := by
  obtain ⟨lanes, room, queue, rounds, every, bag, start⟩ := p
  obtain ⟨⟨a1, b1⟩, ⟨a2, b2⟩, ⟨a3, b3⟩, ⟨a4, b4⟩, ⟨a5, b5⟩, ⟨a6, b6⟩, ⟨a7, b7⟩⟩ := h
  simp only at a2 b2 a3 b3 a4 b4 a5 b5 a6 b6 a7 b7
  unfold Nums.plan
  go_enter Tryz.func134, Tryz.ntmps134
  go_wp2_with fail
  have hk0 : Keeps (fun _ => False) w (w.alloc (.cells #[.int .i64 n, e, .int .i64 lanes, .int .i64 room, .int .i64 queue, .int .i64 rounds, .int .i64 every, .int .i64 bag, wt, .int .u16 start, nx] 38)) := Keeps.alloc _ _ _
  have hP := blk_new w (.cells #[.int .i64 n, e, .int .i64 lanes, .int .i64 room, .int .i64 queue, .int .i64 rounds, .int .i64 every, .int .i64 bag, wt, .int .u16 start, nx] 38)
  generalize w.alloc (.cells #[.int .i64 n, e, .int .i64 lanes, .int .i64 room, .int .i64 queue, .int .i64 rounds, .int .i64 every, .int .i64 bag, wt, .int .u16 start, nx] 38) = X at hk0 hP ⊢
  obtain ⟨x0, x1, x2, x3, x4, x5, x6, x7, x8, x9, x10, _⟩ := PBox.all hP
  clear hP
  refine (within_calls n 2 6 X a1 b1).mono ?_
  rintro e w' ⟨rfl, hw⟩; subst w'
  go_wp2_with fail
  refine (within_calls lanes 1 3 X a2 b2).mono ?_
  rintro e w' ⟨rfl, hw⟩; subst w'
  go_wp2_with fail
  refine (within_calls room 1 8 X a3 b3).mono ?_
  rintro e w' ⟨rfl, hw⟩; subst w'
  go_wp2_with fail
  refine (within_calls queue 1 8 X a4 b4).mono ?_
  rintro e w' ⟨rfl, hw⟩; subst w'
  go_wp2_with fail
  refine (within_calls rounds 1 4 X a5 b5).mono ?_
  rintro e w' ⟨rfl, hw⟩; subst w'
  go_wp2_with fail
  refine (within_calls every 1 8 X a6 b6).mono ?_
  rintro e w' ⟨rfl, hw⟩; subst w'
  go_wp2_with fail
  refine (within_calls bag 1 64 X a7 b7).mono ?_
  rintro e w' ⟨rfl, hw⟩; subst w'
  go_wp2_with fail
  go_ret
  exact ⟨rfl, hk0⟩
theorem run_eql_edge (w : World) (a b p q : Int) : (binOp .eql 149 (.agg #[.int .i64 a, .int .i64 b]) (.agg #[.int .i64 p, .int .i64 q])).run Tryz.prog w = .ok (.bool (decide (a = p) && b == q)) w := by
  have hf : Tryz.prog.underlying 149 = some (.struct (Tryz.prog.fieldsOf 149)) := by simp only [Program.fieldsOf, Tryz.underlying149]
  have hs : Tryz.prog.stoodInHeld 149 = false := by kernel_rfl
  rw [run_eql_struct, run_equalIn_struct w 9999 149 _ _ hf hs]
  simp only [Program.fieldsOf, Tryz.underlying149]
  have h3 : ∀ w : World, (sizeOf 3).run Tryz.prog w = .ok 1 w := fun w => by kernel_rfl
  have e3 : ∀ (d : Nat) (x y : Int) (w : World), (Op.equalIn (d + 1) 3 (.int .i64 x) (.int .i64 y)).run Tryz.prog w = .ok (x == y) w := fun d x y w => run_equalIn_int w d 3 .i64 .i64 x y Tryz.underlying3
  have e4 := e3 9998
  simp [Op.eqFields, Go.part, h3, e4]
  by_cases h1 : a = p <;> by_cases h2 : b = q <;> simp [h1, h2]
theorem ecells_two : ∀ (E : List (Nat × Nat)) (i : Nat) (h : i < E.length), (ecells E)[i * 2]? = some (encI E[i].1) ∧ (ecells E)[i * 2 + 1]? = some (encI E[i].2)
  | e :: E, 0, _ => ⟨rfl, rfl⟩
  | e :: E, i + 1, h => by
    obtain ⟨h1, h2⟩ := ecells_two E i (by simpa using h)
    have e1 : (ecells (e :: E))[(i + 1) * 2]? = (ecells E)[i * 2]? := by
      rw [show (i + 1) * 2 = i * 2 + 2 by omega]; rfl
    have e2 : (ecells (e :: E))[(i + 1) * 2 + 1]? = (ecells E)[i * 2 + 1]? := by
      rw [show (i + 1) * 2 + 1 = i * 2 + 1 + 2 by omega]; rfl
    rw [e1, e2]; exact ⟨h1, h2⟩
set_option maxHeartbeats 4000000 in
theorem eindex_calls (E : List (Nat × Nat)) (Ea : Option Addr) (ec a b : Nat) (w : World) (h : Reads w w.heap.size 2 (.slice Ea E.length ec) E.length (ecells E)) (hno : ∀ e ∈ E, e ≠ (a, b)) (h5 : E.length ≤ 5) :
    Calls Tryz.prog 229 #[.slice Ea E.length ec, .agg #[encI a, encI b]] w fun e w' => e = .returned (.int .i64 (-1)) ∧ Keeps (fun _ => False) w w' := by
  go_enter Tryz.func229, Tryz.ntmps229
  go_wp2_with fail
  have hk0 : Keeps (fun _ => False) w (w.alloc (.cells #[encI a, encI b] 149)) := Keeps.alloc _ _ _
  have hP := blk_new w (.cells #[encI a, encI b] 149)
  have hz : w.heap.size < (w.alloc (.cells #[encI a, encI b] 149)).heap.size := by simp
  generalize hb2 : w.heap.size = b2 at hP hz ⊢
  generalize w.alloc (.cells #[encI a, encI b] 149) = X at hk0 hP hz ⊢
  have x0 : X.cell? ⟨b2, 0, none⟩ = some (encI a) := by rw [blk_cell hP]; rfl
  have x1 : X.cell? ⟨b2, 1, none⟩ = some (encI b) := by rw [blk_cell hP]; rfl
  go_loopw [8] (fun s wr => ∃ i nq : Nat, i ≤ E.length ∧ s = .int .i64 (i : Int) ∧ wr = X.drewN nq) (fun s _ => E.length - (intOf s).toNat)
  case atStart => exact ⟨0, 0, Nat.zero_le _, rfl, rfl⟩
  case round =>
    obtain ⟨i, nq, hi, rfl, rfl⟩ := hrel
    by_cases hil : i < E.length
    · have hii : (i : Int) < (E.length : Int) := by omega
      have hi0 : (0 : Int) ≤ (i : Int) := by omega
      obtain ⟨g, off, c, e', _, _, hcell⟩ := h.at_ (by rw [ecells_length]; omega)
      injection e' with e1 _ e2
      subst e1 e2
      obtain ⟨c1, c2⟩ := ecells_two E i hil
      have y1 := hk0.cell (hcell _ _ c1) (fun h => h)
      have y2 := hk0.cell (hcell _ _ c2) (fun h => h)
      have hne := hno _ (List.getElem_mem hil)
      rw [← Nat.add_assoc] at y2
      clear hcell h c1 c2 hP hno
      generalize E[i] = e at y1 y2 hne
      obtain ⟨p, q⟩ := e
      have hne2 : ¬ ((a : Int) = (p : Int) ∧ (b : Int) = (q : Int)) := fun ⟨h1, h2⟩ => hne (by rw [show p = a by omega, show q = b by omega])
      simp only at y1 y2
      have hr : ∀ w, (binOp .eql 149 (.agg #[encI a, encI b]) (.agg #[encI p, encI q])).run Tryz.prog w = .ok (.bool false) w := fun w => by
        rw [run_eql_edge]
        by_cases h1 : (a : Int) = (p : Int)
        · by_cases h2 : (b : Int) = (q : Int)
          · exact absurd ⟨h1, h2⟩ hne2
          · have : ((b : Int) == (q : Int)) = false := by rw [beq_eq_false_iff_ne]; exact h2
            rw [this, Bool.and_false]
        · rw [decide_eq_false h1, Bool.false_and]
      clear hne2 hne
      go_wp2_with fail
      go_quiet (fail)
      go_wp2_with fail
      go_roundw
      case rel => exact ⟨i + 1, _, by omega, by simp, rfl⟩
      case measure => simp [intOf]; omega
    · obtain rfl : i = E.length := by omega
      have hii : ¬ (E.length : Int) < (E.length : Int) := by omega
      go_wp2_with fail
      go_ret
      exact ⟨rfl, hk0.trans (Keeps.drewN _ _ _)⟩
end Go.Proofs.YtebnflpanfmicaaGreatDoor
namespace Go.Proofs.YtebnflpanfmicaaGreatDoor
open Go.RowKit
theorem econtains_calls (E : List (Nat × Nat)) (Ea : Option Addr) (ec a b : Nat) (w : World) (h : Reads w w.heap.size 2 (.slice Ea E.length ec) E.length (ecells E)) (hno : ∀ e ∈ E, e ≠ (a, b)) (h5 : E.length ≤ 5) :
    Calls Tryz.prog 188 #[.slice Ea E.length ec, .agg #[encI a, encI b]] w fun e w' => e = .returned (.bool false) ∧ Keeps (fun _ => False) w w' := by
  go_enter Tryz.func188, Tryz.ntmps188
  go_wp2_with fail
  have hk0 : Keeps (fun _ => False) w (w.alloc (.cells #[encI a, encI b] 149)) := Keeps.alloc _ _ _
  generalize w.alloc (.cells #[encI a, encI b] 149) = X at hk0 ⊢
  refine (eindex_calls E Ea ec a b X (h.keepsF hk0 hk0.size) hno h5).mono ?_
  rintro e Y ⟨rfl, hk⟩
  go_wp2_with fail
  go_ret
  exact ⟨rfl, hk0.trans hk⟩
theorem ecells_take : ∀ (E : List (Nat × Nat)) (i : Nat), ecells (E.take i) = (ecells E).take (i * 2)
  | [], i => by simp [ecells]
  | e :: E, 0 => by simp [ecells]
  | e :: E, i + 1 => by
    have ih := ecells_take E i
    rw [List.take_succ_cons, show (i + 1) * 2 = i * 2 + 1 + 1 by omega]
    show encI e.1 :: encI e.2 :: ecells (E.take i) = (encI e.1 :: encI e.2 :: ecells E).take (i * 2 + 1 + 1)
    rw [List.take_succ_cons, List.take_succ_cons, ih]
set_option maxRecDepth 100000 in
set_option maxHeartbeats 8000000 in
theorem edges_calls (p : Nums) (n : Int) (E : List (Nat × Nat)) (Ea Wa Na : Option Addr) (ec wn wc nn nc : Nat) (w : World) (hE : QS w 149 2 (.slice Ea E.length ec) E.length (ecells E)) (h5 : E.length ≤ 5)
    (hgood : ∀ (i : Nat) (h : i < E.length), E[i].1 < E[i].2 ∧ (E[i].2 : Int) < n ∧ ∀ e ∈ E.take i, e ≠ E[i]) :
    Calls Tryz.prog 135 #[.agg (p.plan n (.slice Ea E.length ec) (.slice Wa wn wc) (.slice Na nn nc))] w fun e w' => e = .returned (.bool true) ∧ Keeps (fun _ => False) w w' := by
  obtain ⟨lanes, room, queue, rounds, every, bag, start⟩ := p
  unfold Nums.plan
  go_enter Tryz.func135, Tryz.ntmps135
  go_wp2_with fail
  have hk0 : Keeps (fun _ => False) w (w.alloc (.cells #[.int .i64 n, .slice Ea E.length ec, .int .i64 lanes, .int .i64 room, .int .i64 queue, .int .i64 rounds, .int .i64 every, .int .i64 bag, .slice Wa wn wc, .int .u16 start, .slice Na nn nc] 38)) := Keeps.alloc _ _ _
  have hP := blk_new w (.cells #[.int .i64 n, .slice Ea E.length ec, .int .i64 lanes, .int .i64 room, .int .i64 queue, .int .i64 rounds, .int .i64 every, .int .i64 bag, .slice Wa wn wc, .int .u16 start, .slice Na nn nc] 38)
  generalize w.alloc (.cells #[.int .i64 n, .slice Ea E.length ec, .int .i64 lanes, .int .i64 room, .int .i64 queue, .int .i64 rounds, .int .i64 every, .int .i64 bag, .slice Wa wn wc, .int .u16 start, .slice Na nn nc] 38) = X at hk0 hP ⊢
  obtain ⟨x0, x1, _⟩ := PBox.all hP
  have hEX := hE.keeps hk0 (fun _ _ h => h)
  clear hP hE
  generalize w.heap.size = b1 at x0 x1 ⊢
  go_loopw [8] (fun s wr => ∃ i : Nat, i ≤ E.length ∧ s = .int .i64 (i : Int) ∧ Keeps (fun _ => False) X wr) (fun s _ => E.length - (intOf s).toNat)
  case atStart => exact ⟨0, Nat.zero_le _, rfl, Keeps.refl _ _⟩
  case round =>
    obtain ⟨i, hi, rfl, hk⟩ := hrel
    by_cases hil : i < E.length
    · have hii : (i : Int) < (E.length : Int) := by omega
      have hi0 : (0 : Int) ≤ (i : Int) := by omega
      have hic : (i : Int) ≤ (ec : Int) := by
        obtain ⟨_, _, e, h1, _⟩ := hEX.shape
        cases e; omega
      obtain ⟨g, off, c, e', _, hcell, _⟩ := hEX.cell (by omega)
      injection e' with e1 _ e2
      subst e1 e2
      obtain ⟨c1, c2⟩ := ecells_two E i hil
      have y1 := hk.cell (hcell _ _ c1) (fun h => h)
      have y2 := hk.cell (hcell _ _ c2) (fun h => h)
      rw [← Nat.add_assoc] at y2
      obtain ⟨g1, g2, g3⟩ := hgood i hil
      have hT := hEX.take i (by omega)
      rw [← ecells_take] at hT
      have hTl : (E.take i).length = i := by rw [List.length_take]; omega
      clear hcell c1 c2
      generalize hEi : E[i] = e at y1 y2 g1 g2 g3
      clear hEi
      obtain ⟨a, b⟩ := e
      simp only at y1 y2 g1 g2
      have HC := Lib.hid (p := ∀ V, Keeps (fun _ => False) X V → Calls Tryz.prog 188 #[.slice (some ⟨g, off, none⟩) i ec, .agg #[encI a, encI b]] V fun e w' => e = .returned (.bool false) ∧ Keeps (fun _ => False) V w') fun V hV => by
        have h3 := (hT.keeps hV (fun _ _ h => h)).reads
        have h4 := econtains_calls (E.take i) (some ⟨g, off, none⟩) ec a b V (by rw [hTl]; exact h3) g3 (by omega)
        rw [hTl] at h4
        exact h4
      clear hT hTl g3
      have z0 := hk.cell x0 (fun h => h)
      have z1 := hk.cell x1 (fun h => h)
      have hgn : ¬ (a : Int) < 0 := by omega
      have hgab : ¬ (b : Int) ≤ (a : Int) := by omega
      have hgbn : ¬ n ≤ (b : Int) := by omega
      have hgab2 : ¬ b ≤ a := by omega
      have hgd : decide (b ≤ a) = false := decide_eq_false hgab2
      have hgd1 : decide ((a : Int) < 0) = false := decide_eq_false hgn
      have hgd2 : decide (n ≤ (b : Int)) = false := decide_eq_false hgbn
      go_wp2_with fail
      have hkY : Keeps (fun _ => False) wr (wr.alloc (.cells #[.int .i64 (a : Int), .int .i64 (b : Int)] 149)) := Keeps.alloc _ _ _
      have hPY := blk_new wr (.cells #[.int .i64 (a : Int), .int .i64 (b : Int)] 149)
      generalize wr.alloc (.cells #[.int .i64 (a : Int), .int .i64 (b : Int)] 149) = Y at hkY hPY ⊢
      generalize wr.heap.size = eb at hPY ⊢
      have v0 : Y.cell? ⟨eb, 0, none⟩ = some (.int .i64 (a : Int)) := by rw [blk_cell hPY]; rfl
      have v1 : Y.cell? ⟨eb, 1, none⟩ = some (.int .i64 (b : Int)) := by rw [blk_cell hPY]; rfl
      replace z0 := hkY.cell z0 (fun h => h)
      replace z1 := hkY.cell z1 (fun h => h)
      replace hk := hk.trans hkY
      have HC2 := Lib.hid (p := ∀ V, Keeps (fun _ => False) Y V → Calls Tryz.prog 188 #[.slice (some ⟨g, off, none⟩) i ec, .agg #[encI a, encI b]] V fun e w' => e = .returned (.bool false) ∧ Keeps (fun _ => False) Y w') fun V hV =>
        (HC.out V (hk.trans hV)).mono fun _ _ ⟨q1, q2⟩ => ⟨q1, hV.trans q2⟩
      have HS := Lib.hid (p := ∀ V, Keeps (fun _ => False) Y V → V.cell? ⟨eb, 0, none⟩ = some (.int .i64 (a : Int)) ∧ V.cell? ⟨eb, 1, none⟩ = some (.int .i64 (b : Int)) ∧ V.cell? ⟨b1, 0, none⟩ = some (.int .i64 n) ∧ V.cell? ⟨b1, 1, none⟩ = some (.slice (some ⟨g, off, none⟩) E.length ec))
        fun V hV => ⟨hV.cell v0 (fun h => h), hV.cell v1 (fun h => h), hV.cell z0 (fun h => h), hV.cell z1 (fun h => h)⟩
      have hd : Keeps (fun _ => False) Y Y.drew := Keeps.drew _ _
      clear v0 v1 z0 z1 y1 y2 hkY hPY HC
      first
        | go_region_held (fun w' => w'.cell? ⟨eb, 0, none⟩ = some (.int .i64 (a : Int)) ∧ w'.cell? ⟨eb, 1, none⟩ = some (.int .i64 (b : Int)) ∧ w'.cell? ⟨b1, 0, none⟩ = some (.int .i64 n) ∧ w'.cell? ⟨b1, 1, none⟩ = some (.slice (some ⟨g, off, none⟩) E.length ec)) (exact HS.out _ (by assumption)) (first
            | (go_at_call 188; refine (HC2.out _ (by assumption)).mono ?_; rintro e V ⟨rfl, hV⟩))
        | fail
      go_wp2_with fail
      go_roundw
      case rel => exact ⟨i + 1, by omega, by simp, hk.trans hV⟩
      case measure => simp [intOf]; omega
    · obtain rfl : i = E.length := by omega
      have hii : ¬ (E.length : Int) < (E.length : Int) := by omega
      have z1 := hk.cell x1 (fun h => h)
      have h15 : (E.length : Int) ≤ 15 := by omega
      go_wp2_with fail
      go_ret
      exact ⟨rfl, hk0.trans hk⟩
end Go.Proofs.YtebnflpanfmicaaGreatDoor
namespace Go.Proofs.YtebnflpanfmicaaGreatDoor
open Go.RowKit
theorem odd_calls (x : Int) (w : World) (h1 : 1 ≤ x) (h2 : x ≤ 5) :
    Calls Tryz.prog 139 #[.int .i64 x] w fun e w' => e = .returned (.bool false) ∧ w' = w := by
  have h3 : ¬ x < 1 := by omega
  have h4 : ¬ (5 : Int) < x := by omega
  go_enter Tryz.func139, Tryz.ntmps139
  go_wp2_with fail
  go_ret
  exact ⟨rfl, rfl⟩
set_option maxHeartbeats 2000000 in
theorem indexf_calls (v : Value) (ws : List Int) (w : World) (h : Reads w w.heap.size 1 v ws.length (ws.map encZ)) (hw : ∀ x ∈ ws, 1 ≤ x ∧ x ≤ 5) (h3 : ws.length ≤ 3) :
    Calls Tryz.prog 191 #[v, .func (.func 139) #[] #[]] w fun e w' => e = .returned (.int .i64 (-1)) ∧ w' = w := by
  obtain ⟨A, c, rfl⟩ : ∃ A c, v = .slice A ws.length c := by obtain ⟨_, A, c, e, _⟩ := h; exact ⟨A, c, e⟩
  go_enter Tryz.func191, Tryz.ntmps191
  go_wp2_with fail
  go_loop [8] (fun s => ∃ i : Nat, i ≤ ws.length ∧ s = .int .i64 (i : Int)) (fun s => ws.length - (intOf s).toNat)
  case atStart => exact ⟨0, Nat.zero_le _, rfl⟩
  case round =>
    obtain ⟨i, hi, rfl⟩ := hrel
    by_cases hil : i < ws.length
    · have hii : (i : Int) < (ws.length : Int) := by omega
      have hi0 : (0 : Int) ≤ (i : Int) := by omega
      obtain ⟨g, off, c', e', _, _, hcell⟩ := h.at_ (by simp; omega)
      injection e' with e1 _ e2
      subst e1 e2
      have y1 := hcell i _ (by rw [List.getElem?_map, List.getElem?_eq_getElem hil]; rfl)
      obtain ⟨q1, q2⟩ := hw _ (List.getElem_mem hil)
      clear hcell h hw
      generalize ws[i] = x at y1 q1 q2
      go_wp2_with fail
      refine (odd_calls x w q1 q2).mono ?_
      rintro e w' ⟨rfl, hw'⟩
      subst w'
      go_wp2_with fail
      go_round
      case rel => exact ⟨i + 1, by omega, by simp⟩
      case measure => simp [intOf]; omega
    · obtain rfl : i = ws.length := by omega
      have hii : ¬ (ws.length : Int) < (ws.length : Int) := by omega
      go_wp2_with fail
      go_ret
      exact ⟨rfl, rfl⟩
theorem containsf_calls (v : Value) (ws : List Int) (w : World) (h : Reads w w.heap.size 1 v ws.length (ws.map encZ)) (hw : ∀ x ∈ ws, 1 ≤ x ∧ x ≤ 5) (h3 : ws.length ≤ 3) :
    Calls Tryz.prog 140 #[v, .func (.func 139) #[] #[]] w fun e w' => e = .returned (.bool false) ∧ w' = w := by
  go_enter Tryz.func140, Tryz.ntmps140
  go_wp2_with fail
  refine (indexf_calls v ws w h hw h3).mono ?_
  rintro e w' ⟨rfl, hw'⟩
  subst w'
  go_wp2_with fail
  go_ret
  exact ⟨rfl, rfl⟩
set_option maxHeartbeats 2000000 in
theorem wheel_calls (v : Value) (ws : List Int) (w : World) (h : Reads w w.heap.size 1 v ws.length (ws.map encZ)) (hw : ∀ x ∈ ws, 1 ≤ x ∧ x ≤ 5) (h0 : 0 < ws.length) (h3 : ws.length ≤ 3) :
    Calls Tryz.prog 81 #[v] w fun e w' => (∃ b, e = .returned (.pointer (some ⟨b, 0, none⟩))) ∧ Keeps (fun _ => False) w w' := by
  obtain ⟨A, c, rfl⟩ : ∃ A c, v = .slice A ws.length c := by obtain ⟨_, A, c, e, _⟩ := h; exact ⟨A, c, e⟩
  have h0' : ¬ (ws.length : Int) = 0 := by omega
  have h3' : ¬ (3 : Int) < (ws.length : Int) := by omega
  have hd0 : ((ws.length : Int) == 0) = false := by rw [beq_eq_false_iff_ne]; exact h0'
  have hd3 : decide ((3 : Int) < (ws.length : Int)) = false := decide_eq_false h3'
  go_enter Tryz.func81, Tryz.ntmps81
  go_wp2_with fail
  refine (containsf_calls _ ws w h hw h3).mono ?_
  rintro e w' ⟨rfl, hw'⟩
  subst w'
  go_wp2_with fail
  refine (tclone_calls _ ws w h (by omega)).mono ?_
  rintro e X ⟨u, rfl, hu, hk, _⟩
  go_wp2_with fail
  refine (tclone_calls _ ws X (h.keepsF hk hk.size) (by omega)).mono ?_
  rintro e Y ⟨v, rfl, hv, hk2, _⟩
  obtain ⟨uA, uc, rfl, _, _⟩ := hu.shape
  obtain ⟨vA, vc, rfl, _, _⟩ := hv.shape
  go_wp2_with fail
  go_ret
  exact ⟨⟨_, rfl⟩, (hk.trans hk2).trans (Keeps.alloc _ _ _)⟩
theorem oddrow_calls (A : Option Addr) (n c b : Nat) (w : World) (hb : w.cell? ⟨b, 0, none⟩ = some (.int .i64 (n : Int))) :
    Calls Tryz.prog 133 #[.slice A n c, .pointer (some ⟨b, 0, none⟩)] w fun e w' => e = .returned (.bool false) ∧ w' = w := by
  go_enter Tryz.func133, Tryz.ntmps133
  go_wp2_with fail
  go_ret
  exact ⟨rfl, rfl⟩
set_option maxHeartbeats 2000000 in
theorem indexr_calls (n b : Nat) (v : Value) (vs : List Value) (w : World) (h : QS w 35 1 v n vs) (hr : ∀ u ∈ vs, ∃ A c, u = .slice A n c) (hn : n ≤ 6) (hb : w.cell? ⟨b, 0, none⟩ = some (.int .i64 (n : Int))) :
    Calls Tryz.prog 189 #[v, .func (.func 133) #[] #[.pointer (some ⟨b, 0, none⟩)]] w fun e w' => e = .returned (.int .i64 (-1)) ∧ w' = w := by
  obtain ⟨A, c, rfl, _, _⟩ := h.shape
  have hl : vs.length = n := by have := h.1; omega
  go_enter Tryz.func189, Tryz.ntmps189
  go_wp2_with fail
  go_loop [8] (fun s => ∃ i : Nat, i ≤ n ∧ s = .int .i64 (i : Int)) (fun s => n - (intOf s).toNat)
  case atStart => exact ⟨0, Nat.zero_le _, rfl⟩
  case round =>
    obtain ⟨i, hi, rfl⟩ := hrel
    by_cases hil : i < n
    · have hii : (i : Int) < (n : Int) := by omega
      have hi0 : (0 : Int) ≤ (i : Int) := by omega
      obtain ⟨g, off, c', e', _, hcell, _⟩ := h.cell (by omega)
      injection e' with e1 _ e2
      subst e1 e2
      have y1 := hcell i _ (List.getElem?_eq_getElem (by omega))
      obtain ⟨rA, rc, e⟩ := hr _ (List.getElem_mem (show i < vs.length by omega))
      rw [e] at y1
      clear hcell h hr e
      go_wp2_with fail
      refine (oddrow_calls rA n rc b w hb).mono ?_
      rintro e w' ⟨rfl, hw'⟩
      subst w'
      go_wp2_with fail
      go_round
      case rel => exact ⟨i + 1, by omega, by simp⟩
      case measure => simp [intOf]; omega
    · obtain rfl : n = i := by omega
      have hii : ¬ (n : Int) < (n : Int) := by omega
      go_wp2_with fail
      go_ret
      exact ⟨rfl, rfl⟩
theorem containsr_calls (n b : Nat) (v : Value) (vs : List Value) (w : World) (h : QS w 35 1 v n vs) (hr : ∀ u ∈ vs, ∃ A c, u = .slice A n c) (hn : n ≤ 6) (hb : w.cell? ⟨b, 0, none⟩ = some (.int .i64 (n : Int))) :
    Calls Tryz.prog 136 #[v, .func (.func 133) #[] #[.pointer (some ⟨b, 0, none⟩)]] w fun e w' => e = .returned (.bool false) ∧ w' = w := by
  go_enter Tryz.func136, Tryz.ntmps136
  go_wp2_with fail
  refine (indexr_calls n b v vs w h hr hn hb).mono ?_
  rintro e w' ⟨rfl, hw'⟩
  subst w'
  go_wp2_with fail
  go_ret
  exact ⟨rfl, rfl⟩
set_option maxRecDepth 100000 in
set_option maxHeartbeats 4000000 in
theorem check_calls (p : Nums) (n : Nat) (E : List (Nat × Nat)) (ws : List Int) (vs : List Value) (Ea Wa Na : Option Addr) (ec wc nc : Nat) (w : World) (hw : Within p (n : Int)) (hl : p.lanes = (ws.length : Int))
    (hE : QS w 149 2 (.slice Ea E.length ec) E.length (ecells E)) (h5 : E.length ≤ 5) (hgood : ∀ (i : Nat) (h : i < E.length), E[i].1 < E[i].2 ∧ (E[i].2 : Int) < (n : Int) ∧ ∀ e ∈ E.take i, e ≠ E[i])
    (hW : Reads w w.heap.size 1 (.slice Wa ws.length wc) ws.length (ws.map encZ)) (hws : ∀ x ∈ ws, 1 ≤ x ∧ x ≤ 5)
    (hN : QS w 35 1 (.slice Na n nc) n vs) (hr : ∀ u ∈ vs, ∃ A c, u = .slice A n c) :
    Calls Tryz.prog 72 #[.agg (p.plan (n : Int) (.slice Ea E.length ec) (.slice Wa ws.length wc) (.slice Na n nc))] w fun e w' => e = .returned (.int .u16 0) ∧ Keeps (fun _ => False) w w' := by
  have hw1 := hw.n
  have hw2 := hw.lanes
  obtain ⟨lanes, room, queue, rounds, every, bag, start⟩ := p
  simp only at hl hw2
  subst hl
  have cN := fun X => numbers_calls ⟨ws.length, room, queue, rounds, every, bag, start⟩ n (.slice Ea E.length ec) (.slice Wa ws.length wc) (.slice Na n nc) X hw
  have cE := fun X (hk : Keeps (fun _ => False) w X) => edges_calls ⟨ws.length, room, queue, rounds, every, bag, start⟩ n E Ea Wa Na ec ws.length wc n nc X (hE.keeps hk (fun _ _ h => h)) h5 hgood
  unfold Nums.plan at cN cE ⊢
  have CN := Lib.hid cN
  have CE := Lib.hid cE
  clear cN cE
  go_enter Tryz.func72, Tryz.ntmps72
  go_wp2_with fail
  have hk0 : Keeps (fun _ => False) w (w.alloc (.cells #[.int .i64 (n : Int), .slice Ea E.length ec, .int .i64 (ws.length : Int), .int .i64 room, .int .i64 queue, .int .i64 rounds, .int .i64 every, .int .i64 bag, .slice Wa ws.length wc, .int .u16 start, .slice Na n nc] 38)) := Keeps.alloc _ _ _
  have hP := blk_new w (.cells #[.int .i64 (n : Int), .slice Ea E.length ec, .int .i64 (ws.length : Int), .int .i64 room, .int .i64 queue, .int .i64 rounds, .int .i64 every, .int .i64 bag, .slice Wa ws.length wc, .int .u16 start, .slice Na n nc] 38)
  generalize w.alloc (.cells #[.int .i64 (n : Int), .slice Ea E.length ec, .int .i64 (ws.length : Int), .int .i64 room, .int .i64 queue, .int .i64 rounds, .int .i64 every, .int .i64 bag, .slice Wa ws.length wc, .int .u16 start, .slice Na n nc] 38) = X at hk0 hP ⊢
  generalize w.heap.size = b at hP ⊢
  refine (CN.out X).mono ?_
  rintro e A ⟨rfl, hk1⟩
  replace hP := blk_keeps hk1 hP (fun h => h)
  replace hk0 := hk0.trans hk1
  clear hk1 X
  obtain ⟨x0, x1, x2, x3, x4, x5, x6, x7, x8, x9, x10, xf⟩ := PBox.all hP
  go_wp2_with fail
  refine (CE.out A hk0).mono ?_
  rintro e B ⟨rfl, hk1⟩
  replace hP := blk_keeps hk1 hP (fun h => h)
  replace hk0 := hk0.trans hk1
  clear hk1 x0 x1 x2 x3 x4 x5 x6 x7 x8 x9 x10 xf A
  obtain ⟨x0, x1, x2, x3, x4, x5, x6, x7, x8, x9, x10, xf⟩ := PBox.all hP
  go_wp2_with fail
  refine (wheel_calls _ ws B (hW.keepsF hk0 hk0.size) hws (by omega) (by omega)).mono ?_
  rintro e C ⟨⟨g, rfl⟩, hk1⟩
  replace hP := blk_keeps hk1 hP (fun h => h)
  replace hk0 := hk0.trans hk1
  clear hk1 x0 x1 x2 x3 x4 x5 x6 x7 x8 x9 x10 xf B
  obtain ⟨x0, x1, x2, x3, x4, x5, x6, x7, x8, x9, x10, xf⟩ := PBox.all hP
  go_wp2_with fail
  refine (containsr_calls n b _ vs C (hN.keeps hk0 (fun _ _ h => h)) hr (by omega) x0).mono ?_
  rintro e D ⟨rfl, hD⟩
  subst D
  go_wp2_with fail
  go_ret
  exact ⟨rfl, hk0⟩
end Go.Proofs.YtebnflpanfmicaaGreatDoor
