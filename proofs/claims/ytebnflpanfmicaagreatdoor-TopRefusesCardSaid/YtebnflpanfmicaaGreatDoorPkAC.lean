/-
  Part 3 of the proof: MaskEach, Args, MaskTurnNil, MaskTurn.
-/
import Derived.Test.YtebnflpanfmicaaGreatDoorPkAB
import Derived.OwnWalkIn
import Derived.TacticsInMore
import Derived.LoopNIn
import Derived.LoopIn
import Derived.ProofKit
import Derived.Deep.Slices
import Derived.Deep.Fields
import Derived.ChangeSame
import Derived.Lib.SmallJoins
import Derived.WalkKit
import Derived.Shelf.Abstract
import Derived.Deep.OwnRows
set_option linter.unusedVariables false
set_option linter.unusedSimpArgs false
set_option linter.unusedSectionVars false
namespace Go.Proofs.YtebnflpanfmicaaGreatDoor
open Go.RowKit
attribute [local go_sem] Oper.semAt_some
def maskAt (w : World) (b : Nat) : Nat := match w.cell? ⟨b, 0, none⟩ with
  | some (.int _ m) => m.toNat
  | _ => 0
def MBox (w : World) (b m : Nat) : Prop := w.heap[b]? = some (.cells #[.int .u16 (m : Int)] 23 (0, 0))
theorem MBox.cell {w : World} {b m : Nat} (h : MBox w b m) : w.cell? ⟨b, 0, none⟩ = some (.int .u16 m) := by rw [blk_cell h]; rfl
theorem MBox.frozen {w : World} {b m : Nat} (h : MBox w b m) : w.frozen? ⟨b, 0, none⟩ = false := blk_frozen h 0
theorem MBox.at_ {w : World} {b m : Nat} (h : MBox w b m) : maskAt w b = m := by unfold maskAt; rw [h.cell]; simp
def IBox (w : World) (b : Nat) (v : Int) : Prop := w.heap[b]? = some (.cells #[.int .i64 v] 3 (0, 0))
theorem IBox.cell {w : World} {b : Nat} {v : Int} (h : IBox w b v) : w.cell? ⟨b, 0, none⟩ = some (.int .i64 v) := by rw [blk_cell h]; rfl
theorem IBox.frozen {w : World} {b : Nat} {v : Int} (h : IBox w b v) : w.frozen? ⟨b, 0, none⟩ = false := blk_frozen h 0
abbrev encI (k : Nat) : Value := .int .i64 (k : Int)
set_option maxRecDepth 100000 in
set_option maxHeartbeats 2000000 in
theorem each1_in (n l b m : Nat) (hn : 1 ≤ n) (hb : b ≠ 0) (hm : m < 65536) (J Jx : List Nat → World → Prop) (W : World)
    (hJ : Minds (fun k => k = b) J) (hJx : Minds (fun k => k = b) Jx)
    (hY : ∀ pre x W1, J pre W1 → pre ++ [x] <+: bitsOf m → YieldAt Fence.wide (n - 1) Tryz.prog l #[encI x] W1 fun e W' =>
      (e = .returned (.bool true) ∧ J (pre ++ [x]) W' ∧ Same (fun k => k = b ∨ k = 0) W1 W') ∨ (e = .returned (.bool false) ∧ Jx (pre ++ [x]) W'))
    (hB : MBox W b m) (hT : Tab W) (h0 : J [] W) :
    CallsIn Fence.wide n Tryz.prog 241 #[.func (.yield l) #[] #[], .pointer (some ⟨b, 0, none⟩)] W fun e W' => (∃ v, e = .returned v) ∧ (J (bitsOf m) W' ∨ ∃ pre, pre <+: bitsOf m ∧ Jx pre W') := by
  refine callsIn_of_wp Tryz.func241 rfl trivial ?_ rfl
  simp only [Tryz.ntmps241, List.size_toArray, List.length_cons, List.length_nil, Nat.reduceAdd, Nat.reduceSub, Array.replicate_succ, Array.replicate_zero, List.push_toArray, List.append_toArray, List.nil_append, List.cons_append]
  have hfT : Fence.wide.fn 242 := trivial
  gi_wp2
  gi_loopw [] (fun wr => ∃ (pre : List Nat) (k : Nat), bitsOf m = pre ++ bitsOf k ∧ k < 65536 ∧ MBox wr b k ∧ Tab wr ∧ J pre wr) (fun wr => maskAt wr b)
  case atStart => exact ⟨[], m, rfl, hm, hB, hT, h0⟩
  case round =>
    obtain ⟨pre, k, hx, hk, hBk, hTk, hJk⟩ := hrel
    have hc := hBk.cell
    have hf := hBk.frozen
    by_cases hk0 : k = 0
    · subst hk0
      rw [bitsOf_zero, List.append_nil] at hx
      gi_wp2
      go_end0
      exact ⟨⟨_, rfl⟩, .inl (by rw [hx]; exact hJk)⟩
    · have hk1 : ((k : Int) != 0) = true := by simpa using hk0
      obtain ⟨fn, tmps, assign, body, hy, hR⟩ := hY pre (tzOf k) wr hJk (by rw [hx, bitsOf_cons k hk hk0]; simp)
      gi_wp2_with (gi_at_call 242; refine (callsIn_wide.2 (tz_calls k hk hk0 wr hTk)).mono ?_; rintro e w' ⟨rfl, rfl⟩)
      refine hR.mono ?_
      rintro e W3 (⟨rfl, hJ3, hs3⟩ | ⟨rfl, hJx3⟩)
      · have hB3 : MBox W3 b k := (hs3 b (.inl rfl)).trans hBk
        have hT3 : Tab W3 := hTk.same hs3 (.inr rfl)
        have hc3 := hB3.cell
        have hf3 := hB3.frozen
        have ep : bits .and .u16 (k : Int) ((k : Int) - 1) = ((k &&& (k - 1) : Nat) : Int) := pred_u16 k hk hk0
        have ew : IntKind.u16.wrap ((k : Int) - 1) = (k : Int) - 1 := wraps_u16 _ (by omega) (by show (k : Int) - 1 < (65536 : Int); omega)
        gi_wp2
        go_roundw
        case rel => exact ⟨pre ++ [tzOf k], k &&& (k - 1), by rw [hx, bitsOf_cons k hk hk0]; simp, and_pred_lt k hk, blk_set hB3 0 _, hT3.keeps (F := fun i => i = b) (Keeps.setCell _ _ _ _ rfl) (fun h => hb h.symm), hJ _ _ _ hJ3 (Keeps.setCell _ _ _ _ rfl)⟩
        case measure => rw [hBk.at_, MBox.at_ (m := k &&& (k - 1)) (blk_set hB3 0 _)]; exact and_pred_lt' k hk0
      · gi_wp2
        refine bodyPost_ret (results_none rfl _ _ _) rfl ?_
        exact ⟨⟨_, rfl⟩, .inr ⟨pre ++ [tzOf k], by rw [hx, bitsOf_cons k hk hk0]; simp, hJx3⟩⟩
theorem each_calls (m : Nat) (w : World) :
    Calls Tryz.prog 212 #[.int .u16 m] w fun e w' => e = .returned (.func (.func 241) #[] #[.pointer (some ⟨w.heap.size, 0, none⟩)]) ∧ w' = w.alloc (.cells #[.int .u16 (m : Int)] 23) := by
  go_enter Tryz.func212, Tryz.ntmps212
  go_wp2_with fail
  go_ret
  exact ⟨rfl, rfl⟩
theorem each_seq (n b m : Nat) (hn : 1 ≤ n) (hb : b ≠ 0) (hm : m < 65536) (w : World) (hB : MBox w b m) (hT : Tab w) :
    SeqO Fence.wide n Tryz.prog 241 #[.pointer (some ⟨b, 0, none⟩)] encI (fun k => k = b) (fun k => k = b ∨ k = 0) (bitsOf m) w := by
  intro l J Jx W hs hJ hJx hY h0
  exact each1_in n l b m hn hb hm J Jx W hJ hJx hY ((hs b (.inl rfl)).trans hB) (hT.same hs (.inr rfl)) h0
end Go.Proofs.YtebnflpanfmicaaGreatDoor
namespace Go.Proofs.YtebnflpanfmicaaGreatDoor
open Go.ChangeShapes Go.WideShapes Go.Deep Go.RowKit
def Arg (P : Program) (W : World) (T : TypeId) (v : Value) : Prop :=
  ∃ (H : Type) (enc : TypeId × Value → H) (base : Nat) (d : DataW H) (p : List MemPlace), DataW.Trod enc P W 0 (fun _ => true) true T v d p ∧ Value.okWide P W .any base T v
def Reads (w : World) (B sz : Nat) (v : Value) (n : Nat) (cs : List Value) : Prop :=
  cs.length = n * sz ∧ ∃ A c, v = .slice A n c ∧ n ≤ c ∧ c ≤ maxLen ∧ (0 < n → ∃ ad, A = some ad ∧ ad.block < B ∧ ∀ j u, cs[j]? = some u → w.cell? (ad.add j) = some u)
theorem blk_of_add (a : Addr) (n : Nat) : (a.add n).block = a.block := by unfold Addr.add; split <;> rfl
theorem Reads.below {w w' : World} {B sz n : Nat} {v : Value} {cs : List Value} (h : Reads w B sz v n cs) (hb : Below B w w') : Reads w' B sz v n cs := by
  obtain ⟨h1, A, c, h2, h3, h4, h5⟩ := h
  refine ⟨h1, A, c, h2, h3, h4, fun hn => ?_⟩
  obtain ⟨ad, e, hlt, hc⟩ := h5 hn
  exact ⟨ad, e, hlt, fun j u hu => (hb.cell (by rw [blk_of_add]; exact hlt)).trans (hc j u hu)⟩
theorem Reads.at_ {w : World} {B sz n : Nat} {v : Value} {cs : List Value} (h : Reads w B sz v n cs) (hp : 0 < cs.length) :
    ∃ g off c, v = .slice (some ⟨g, off, none⟩) n c ∧ n ≤ c ∧ g < B ∧ ∀ j u, cs[j]? = some u → w.cell? ⟨g, off + j, none⟩ = some u := by
  obtain ⟨hl, A, c, rfl, hnc, _, h5⟩ := h
  have hn : 0 < n := by rcases Nat.eq_zero_or_pos n with h0 | h0 <;> simp_all
  obtain ⟨⟨g, off, spot⟩, rfl, hb, hc⟩ := h5 hn
  have h0 := hc 0 _ (List.getElem?_eq_getElem hp)
  have hs : spot = none := by
    cases spot with
    | none => rfl
    | some s =>
      exfalso
      simp only [Addr.add, if_true, World.cell?] at h0
      split at h0 <;> simp_all
  subst hs
  exact ⟨g, off, c, rfl, hnc, hb, fun j u hu => by have := hc j u hu; rwa [Addr.add_lit] at this⟩
theorem Arg.ints {P : Program} {W : World} {T E : TypeId} {k : IntKind} {v : Value} (hT : P.underlying T = some (.slice E)) (hE : P.underlying E = some (.int k)) (hC : P.cellsOf E = 1) (h : Arg P W T v) :
    ∃ (n : Nat) (zs : List Int), Reads W W.heap.size 1 v n (zs.map (Value.int k)) ∧ zs.length = n ∧ ∀ z ∈ zs, (Lit.int k z).wf = true := by
  obtain ⟨H, enc, base, d, p, ht, ho⟩ := h
  obtain ⟨a, len, cap, rfl⟩ := okWide_slice hT ho
  have lt : ∀ x ∈ p, x.block < W.heap.size := by obtain ⟨m, hm⟩ := ht; exact DataW.trod_lt m _ _ _ hm
  obtain ⟨fuel, hf⟩ := ht
  rcases open_ints hT hE hC hf with ⟨hcs, _⟩ | ⟨x, l, c, zs, hcs, _, hl, hm, hz, _, hcell, hwz⟩
  · simp [Value.cells] at hcs
    obtain ⟨rfl, rfl, rfl⟩ := hcs
    exact ⟨0, [], ⟨rfl, none, 0, rfl, Nat.le_refl _, Nat.zero_le _, fun h => absurd h (Nat.lt_irrefl _)⟩, rfl, fun _ h => by cases h⟩
  · simp [Value.cells] at hcs
    obtain ⟨rfl, rfl, rfl⟩ := hcs
    simp at hz
    have hlen : (zs.take len).length = len := by rw [List.length_take]; omega
    refine ⟨len, zs.take len, ⟨by rw [List.length_map, hlen, Nat.mul_one], some x, cap, rfl, hl, hm, fun hn => ⟨x, rfl, ?_, fun j u hu => ?_⟩⟩, hlen, fun z hz' => hwz z (List.mem_of_mem_take hz')⟩
    · have := World.block_lt_of_cell? W _ (hcell 0 (by omega))
      rwa [blk_of_add] at this
    · rw [List.getElem?_map] at hu
      obtain ⟨z, hz', rfl⟩ := Option.map_eq_some_iff.1 hu
      rw [List.getElem?_take] at hz'
      split at hz'
      · rename_i hj
        rw [hcell j (by omega)]
        rw [List.getD_eq_getElem?_getD, hz']; rfl
      · cases hz'
theorem add_of_add (a : Addr) (i j : Nat) : (a.add i).add j = a.add (i + j) := by
  unfold Addr.add
  by_cases hi : i = 0 <;> by_cases hj : j = 0 <;> simp [hi, hj, Nat.add_assoc]
theorem list_of_all {α : Type} {Q : Nat → α → Prop} : ∀ n, (∀ i, i < n → ∃ a, Q i a) → ∃ l : List α, l.length = n ∧ ∀ i a, l[i]? = some a → Q i a
  | 0, _ => ⟨[], rfl, fun i a h => by simp at h⟩
  | n + 1, h => by
    obtain ⟨l, hl, hq⟩ := list_of_all n (fun i hi => h i (by omega))
    obtain ⟨a, ha⟩ := h n (by omega)
    refine ⟨l ++ [a], by simp [hl], fun i b hb => ?_⟩
    by_cases hi : i < l.length
    · rw [List.getElem?_append_left hi] at hb; exact hq i b hb
    · rw [List.getElem?_append_right (by omega)] at hb
      have h0 : i - l.length = 0 := by have := (List.getElem?_eq_some_iff.1 hb).1; simp at this; omega
      rw [h0] at hb
      simp at hb
      subst hb
      rwa [show i = n by omega]
theorem flat_at {α β : Type} {f : α → List β} {sz : Nat} (hf : ∀ a, (f a).length = sz) : ∀ (l : List α) (J : Nat) (u : β), (l.flatMap f)[J]? = some u → ∃ i j a, J = i * sz + j ∧ l[i]? = some a ∧ (f a)[j]? = some u
  | [], J, u, h => by simp at h
  | a :: l, J, u, h => by
    rw [List.flatMap_cons] at h
    by_cases hJ : J < sz
    · rw [List.getElem?_append_left (by rw [hf]; exact hJ)] at h
      exact ⟨0, J, a, by omega, rfl, h⟩
    · rw [List.getElem?_append_right (by rw [hf]; omega), hf] at h
      obtain ⟨i, j, b, e, h1, h2⟩ := flat_at hf l _ u h
      exact ⟨i + 1, j, b, by rw [Nat.add_mul]; omega, h1, h2⟩
theorem flat_len {α β : Type} {f : α → List β} {sz : Nat} (hf : ∀ a, (f a).length = sz) (l : List α) : (l.flatMap f).length = l.length * sz := by
  induction l with
  | nil => simp
  | cons a l ih => rw [List.flatMap_cons, List.length_append, hf, ih, List.length_cons, Nat.add_mul]; omega
theorem Arg.rows {α : Type} {P : Program} {W : World} {T E : TypeId} {v : Value} (f : α → List Value) (good : α → Prop) (sz : Nat) (hf : ∀ a, (f a).length = sz) (hT : P.underlying T = some (.slice E)) (hC : P.cellsOf E = sz)
    (hel : ∀ (H : Type) (enc : TypeId × Value → H) (n : Nat) (cs : List Value) (x : DataW H × List MemPlace), DataW.trod enc P W 0 (fun _ => true) true n E cs = some x → ∃ a : α, cs = f a ∧ good a) (hpos : 0 < sz) (h : Arg P W T v) :
    ∃ (n : Nat) (l : List α), Reads W W.heap.size sz v n (l.flatMap f) ∧ l.length = n ∧ ∀ a ∈ l, good a := by
  obtain ⟨H, enc, base, d, p, ht, ho⟩ := h
  obtain ⟨A, len, cap, rfl⟩ := okWide_slice hT ho
  obtain ⟨fuel, hf'⟩ := ht
  rcases DataW.trod_slice hT hf' with ⟨hcs, _⟩ | ⟨a, len', cap', elems, rest, n, _, hcs, _, _, hl, hm, hlen, hel', _, _⟩
  · simp [Value.cells] at hcs
    obtain ⟨rfl, rfl, rfl⟩ := hcs
    exact ⟨0, [], ⟨by simp, none, 0, rfl, Nat.le_refl _, Nat.zero_le _, fun h => absurd h (Nat.lt_irrefl _)⟩, rfl, fun _ h => by cases h⟩
  · simp [Value.cells] at hcs
    obtain ⟨rfl, rfl, rfl⟩ := hcs
    have hall : ∀ i, i < len → ∃ b : α, good b ∧ ∀ j, j < sz → W.cell? ((a.add (i * sz)).add j) = (f b)[j]? := by
      intro i hi
      have h1 := hel' i hi
      rw [List.getElem?_eq_getElem (by omega), hC] at h1
      obtain ⟨cs', hc1, hc2⟩ := Option.bind_eq_some_iff.1 h1
      obtain ⟨_, _, hc3⟩ := World.cells?_some hc1
      obtain ⟨b, rfl, hg⟩ := hel _ _ _ _ _ hc2
      exact ⟨b, hg, hc3⟩
    obtain ⟨l, hll, hlq⟩ := list_of_all (Q := fun i b => good b ∧ ∀ j, j < sz → W.cell? ((a.add (i * sz)).add j) = (f b)[j]?) len hall
    have hcell : ∀ J u, (l.flatMap f)[J]? = some u → W.cell? (a.add J) = some u := by
      intro J u hu
      obtain ⟨i, j, b, rfl, hi, hj⟩ := flat_at hf l J u hu
      have := (hlq i b hi).2 j (by rw [← hf b]; exact (List.getElem?_eq_some_iff.1 hj).1)
      rw [add_of_add] at this
      rw [this, hj]
    refine ⟨len, l, ⟨by rw [flat_len hf, hll], some a, cap, rfl, hl, hm, fun hn => ⟨a, rfl, ?_, hcell⟩⟩, hll, fun b hb => ?_⟩
    · have hp : 0 < (l.flatMap f).length := by rw [flat_len hf, hll]; exact Nat.mul_pos hn hpos
      have := World.block_lt_of_cell? W _ (hcell 0 _ (List.getElem?_eq_getElem hp))
      rwa [blk_of_add] at this
    · obtain ⟨i, hi⟩ := List.getElem?_of_mem hb
      exact (hlq i b hi).1
theorem field_int {H : Type} {enc : TypeId × Value → H} {P : Program} {w : World} {n : Nat} {t : TypeId} {k : IntKind} {cs : List Value} {o c : Nat} {r : Option (DataW H × List MemPlace)} (ht : P.underlying t = some (.int k)) (hc : P.cellsOf t = c) (hc1 : c = 1) (ho : o < cs.length) (hr : r.isSome = true)
    (h : DataW.trod enc P w 0 (fun _ => true) true n t ((cs.drop o).take (P.cellsOf t)) = r) : ∃ z : Int, cs[o]? = some (.int k z) ∧ (Lit.int k z).wf = true := by
  obtain ⟨y, rfl⟩ := Option.isSome_iff_exists.1 hr
  rw [hc, hc1, List.drop_eq_getElem_cons ho, List.take_succ_cons, List.take_zero] at h
  obtain ⟨z, hz, _, hw⟩ := DataW.trod_int ht h
  injection hz with hz
  exact ⟨z, by rw [List.getElem?_eq_getElem ho, hz], hw⟩
theorem field_bool {H : Type} {enc : TypeId × Value → H} {P : Program} {w : World} {n : Nat} {t : TypeId} {cs : List Value} {o c : Nat} {r : Option (DataW H × List MemPlace)} (ht : P.underlying t = some .bool) (hc : P.cellsOf t = c) (hc1 : c = 1) (ho : o < cs.length) (hr : r.isSome = true)
    (h : DataW.trod enc P w 0 (fun _ => true) true n t ((cs.drop o).take (P.cellsOf t)) = r) : ∃ z : Bool, cs[o]? = some (.bool z) := by
  obtain ⟨y, rfl⟩ := Option.isSome_iff_exists.1 hr
  rw [hc, hc1, List.drop_eq_getElem_cons ho, List.take_succ_cons, List.take_zero] at h
  obtain ⟨z, hz, _⟩ := DataW.trod_bool ht h
  injection hz with hz
  exact ⟨z, by rw [List.getElem?_eq_getElem ho, hz]⟩
end Go.Proofs.YtebnflpanfmicaaGreatDoor
namespace Go.Proofs.YtebnflpanfmicaaGreatDoor
open Go.RowKit Go.Shelf
attribute [local go_sem] Oper.semAt_some
abbrev encU (k : Nat) : Value := .int .u16 (k : Int)
theorem info_u16 : (Tryz.prog.info? 23).map (fun i => (i.zero, i.size, i.bytes)) = some (some (.int .u16 0), 1, 2) := by kernel_rfl
theorem made_cols (rows : List Nat) (n : Nat) : madeCells #[.int .u16 0] n = ((colsOf rows n 0).map encU).toArray := by
  apply Array.ext
  · simp [madeCells, colsOf]
  · intro i h1 h2
    simp [madeCells, colsOf, colOf, Nat.mod_one]
set_option maxRecDepth 100000 in
set_option maxHeartbeats 4000000 in
theorem turn_nil (A : Option Addr) (c : Nat) (n : Int) (w : World) (h1 : 1 ≤ n) (h2 : n ≤ 16) :
    Calls Tryz.prog 177 #[.slice A 0 c, .int .i64 n] w fun e w' => ∃ u, e = .returned u ∧ QS w' 23 1 u (colsOf [] n.toNat 0).length ((colsOf [] n.toNat 0).map encU) ∧ Keeps (fun _ => False) w w' ∧
      ∀ k, u.ownBlock = some k → w.heap.size ≤ k := by
  have hms := fun w => run_make_row' (P := Tryz.prog) 221 23 (.int .u16 0) 2 Tryz.underlying221 info_u16 rfl .i64 .i64 n.toNat (by omega) (by omega) w
  rw [show ((n.toNat : Nat) : Int) = n by omega] at hms
  have hO0 : ((w.alloc (.cells (madeCells #[.int .u16 0] n.toNat) 23)).alloc (.cells #[.slice (some ⟨w.heap.size, 0, none⟩) n.toNat n.toNat] 221)).heap[w.heap.size + 1]? = some (.cells #[.slice (some ⟨w.heap.size, 0, none⟩) n.toNat n.toNat] 221 (0, 0)) := by
    have := blk_new (w.alloc (.cells (madeCells #[.int .u16 0] n.toNat) 23)) (.cells #[.slice (some ⟨w.heap.size, 0, none⟩) n.toNat n.toNat] 221)
    rwa [World.size_alloc] at this
  have hM0 : ((w.alloc (.cells (madeCells #[.int .u16 0] n.toNat) 23)).alloc (.cells #[.slice (some ⟨w.heap.size, 0, none⟩) n.toNat n.toNat] 221)).heap[w.heap.size]? = some (.cells ((colsOf [] n.toNat 0).map encU).toArray 23 (0, 0)) := by
    rw [← made_cols]
    exact blk_alloc (blk_new _ _) _
  have hk0 : Keeps (fun _ => False) w ((w.alloc (.cells (madeCells #[.int .u16 0] n.toNat) 23)).alloc (.cells #[.slice (some ⟨w.heap.size, 0, none⟩) n.toNat n.toNat] 221)) := (Keeps.alloc _ _ _).trans (Keeps.alloc _ _ _)
  go_enter Tryz.func177, Tryz.ntmps177
  go_wp2_with fail
  generalize (w.alloc (.cells (madeCells #[.int .u16 0] n.toNat) 23)).alloc (.cells #[.slice (some ⟨w.heap.size, 0, none⟩) n.toNat n.toNat] 221) = W0 at hk0 hO0 hM0
  clear hms
  have hc : W0.cell? ⟨w.heap.size + 1, 0, none⟩ = some (.slice (some ⟨w.heap.size, 0, none⟩) n.toNat n.toNat) := by rw [blk_cell hO0]; rfl
  refine wp_loop (fun a' W => W = W0 ∧ a' = _) (fun _ _ => 0) ⟨rfl, rfl⟩ ?_
  rintro a' W ⟨rfl, rfl⟩
  go_wp2_with fail
  go_ret
  refine ⟨_, rfl, ?_, hk0, fun k hk => by cases hk; exact Nat.le_refl _⟩
  exact ⟨by simp, .inr ⟨w.heap.size, 0, n.toNat, _, by rw [colsOf_length]; rfl, hM0, by rw [colsOf_length]; exact Nat.le_refl _, by simp only [maxLen]; omega, by simp [colsOf_length], fun i hi => by simp⟩⟩
end Go.Proofs.YtebnflpanfmicaaGreatDoor
namespace Go.Proofs.YtebnflpanfmicaaGreatDoor
open Go.RowKit Go.Shelf
attribute [local go_sem] Oper.semAt_some
set_option maxRecDepth 100000 in
set_option maxHeartbeats 4000000 in
theorem turn_some (g off cap : Nat) (rows : List Nat) (n : Int) (w : World) (hT : Tab w) (hr : ∀ x ∈ rows, x < 65536) (hnc : rows.length ≤ cap) (hcm : cap ≤ maxLen) (hgM : g < w.heap.size)
    (hcell : ∀ j u, (rows.map encU)[j]? = some u → w.cell? ⟨g, off + j, none⟩ = some u) (hn : 1 ≤ n ∧ n ≤ 16) :
    Calls Tryz.prog 177 #[.slice (some ⟨g, off, none⟩) rows.length cap, .int .i64 n] w fun e w' => ∃ u, e = .returned u ∧ QS w' 23 1 u (turnI rows n).length ((turnI rows n).map encU) ∧ Keeps (fun _ => False) w w' ∧
      ∀ k, u.ownBlock = some k → w.heap.size ≤ k := by
  refine (callsIn_wide (n := 10)).1 ?_
  have hpos := hT.pos
  refine callsIn_of_wp_marks Tryz.func177 rfl trivial ?_ rfl
  simp only [Tryz.ntmps177, List.size_toArray, List.length_cons, List.length_nil, Nat.reduceAdd, Nat.reduceSub, Array.replicate_succ, Array.replicate_zero, List.push_toArray, List.append_toArray, List.nil_append, List.cons_append]
  refine wpIn_wide.2 ?_
  · have ept : turnI rows n = colsOf rows n.toNat 16 := by unfold turnI; rw [if_pos hn]
    rw [ept]
    clear ept
    obtain ⟨h1, h2⟩ := hn
    have hms := fun w => run_make_row' (P := Tryz.prog) 221 23 (.int .u16 0) 2 Tryz.underlying221 info_u16 rfl .i64 .i64 n.toNat (by omega) (by omega) w
    rw [show ((n.toNat : Nat) : Int) = n by omega] at hms
    have hlm : ((rows.length : Int)) ≤ maxLen := by
      simp only [maxLen] at *; omega
    have hlim : ∃ lim : Nat, (if (16 : Int) < (rows.length : Int) then (16 : Int) else (rows.length : Int)) = (lim : Int) ∧ lim ≤ rows.length ∧ lim ≤ 16 ∧ colsOf rows n.toNat lim = colsOf rows n.toNat 16 := by
      by_cases h : rows.length ≤ 16
      · exact ⟨rows.length, by rw [if_neg (by omega)], Nat.le_refl _, h, (colsOf_beyond rows n.toNat 16 h).symm⟩
      · exact ⟨16, by rw [if_pos (by omega)]; rfl, by omega, by omega, rfl⟩
    obtain ⟨lim, hmin, hl1, hl2, hcols⟩ := hlim
    rw [← hcols]
    clear hcols
    · have hlc : (lim : Int) ≤ (cap : Int) := by omega
      have hl0 : (0 : Int) ≤ (lim : Int) := by omega
      go_wp2_with fail
      have hk0 : Keeps (fun _ => False) w ((w.alloc (.cells (madeCells #[.int .u16 0] n.toNat) 23)).alloc (.cells #[.slice (some ⟨w.heap.size, 0, none⟩) n.toNat n.toNat] 221)) := (Keeps.alloc _ _ _).trans (Keeps.alloc _ _ _)
      have hO0 : ((w.alloc (.cells (madeCells #[.int .u16 0] n.toNat) 23)).alloc (.cells #[.slice (some ⟨w.heap.size, 0, none⟩) n.toNat n.toNat] 221)).heap[w.heap.size + 1]? = some (.cells #[.slice (some ⟨w.heap.size, 0, none⟩) n.toNat n.toNat] 221 (0, 0)) := by
        have := blk_new (w.alloc (.cells (madeCells #[.int .u16 0] n.toNat) 23)) (.cells #[.slice (some ⟨w.heap.size, 0, none⟩) n.toNat n.toNat] 221)
        rwa [World.size_alloc] at this
      have hM0 : ((w.alloc (.cells (madeCells #[.int .u16 0] n.toNat) 23)).alloc (.cells #[.slice (some ⟨w.heap.size, 0, none⟩) n.toNat n.toNat] 221)).heap[w.heap.size]? = some (.cells ((colsOf rows n.toNat 0).map encU).toArray 23 (0, 0)) := by
        rw [← made_cols]
        exact blk_alloc (blk_new _ _) _
      have hS0 : w.heap.size + 2 ≤ ((w.alloc (.cells (madeCells #[.int .u16 0] n.toNat) 23)).alloc (.cells #[.slice (some ⟨w.heap.size, 0, none⟩) n.toNat n.toNat] 221)).heap.size := by simp
      generalize (w.alloc (.cells (madeCells #[.int .u16 0] n.toNat) 23)).alloc (.cells #[.slice (some ⟨w.heap.size, 0, none⟩) n.toNat n.toNat] 221) = W0 at hk0 hO0 hM0 hS0
      clear hms hmin
      refine wp_loop (fun a' W => ∃ (j : Nat) (ds : List Nat) (u6 u7 u24 u25 u26 u27 u28 u29 u30 u31 u41 : Value),
          (j ≤ lim ∧ Keeps (fun _ => False) w W ∧ W.heap[w.heap.size + 1]? = some (.cells #[.slice (some ⟨w.heap.size, 0, none⟩) n.toNat n.toNat] 221 (0, 0)) ∧
            W.heap[w.heap.size]? = some (.cells ((colsOf rows n.toNat j).map encU).toArray 23 (0, 0)) ∧ Marks ds W ∧ (∀ D ∈ ds, w.heap.size + 2 ≤ D) ∧ w.heap.size + 2 ≤ W.heap.size) ∧
          a' = { tmps := #[.slice (some ⟨g, off, none⟩) rows.length cap, .int .i64 n, undef, undef, .slice none 0 0, .pointer (some ⟨w.heap.size + 1, 0, none⟩), u6, u7, undef, .int .i64 n, .bool (decide (n < 1)), .bool (decide (n < 1)), .int .i64 n, .bool (decide (16 < n)), .bool (decide (n < 1) || decide (16 < n)), .int .i64 n, .slice (some ⟨w.heap.size, 0, none⟩) n.toNat n.toNat, .slice (some ⟨g, off, none⟩) rows.length cap, .slice (some ⟨g, off, none⟩) rows.length cap, .int .i64 rows.length, .int .i64 lim, .slice (some ⟨g, off, none⟩) lim cap, .int .i64 lim, .int .i64 (j : Int), u24, u25, u26, u27, u28, u29, u30, u31, undef, undef, undef, undef, undef, undef, undef, undef, undef, u41, undef], defers := ds.map markOf }) (fun a' _ => lim - (intOf (a'.tmps.getD 23 undef)).toNat) ?_ ?_
      · exact ⟨0, [], undef, undef, undef, undef, undef, undef, undef, undef, undef, undef, undef, ⟨Nat.zero_le _, hk0, hO0, hM0, Marks.nil _, (fun _ h => absurd h List.not_mem_nil), hS0⟩, rfl⟩
      · rintro a' W ⟨j, ds, u6, u7, u24, u25, u26, u27, u28, u29, u30, u31, u41, ⟨hj, hK, hO, hM, hmk, hds, hsW⟩, rfl⟩
        clear hk0 hO0 hM0 hS0
        by_cases hjl : j < lim
        · have hx : rows.getD j 0 < 65536 := by
            rw [List.getD_eq_getElem?_getD, List.getElem?_eq_getElem (by omega)]
            exact hr _ (List.getElem_mem _)
          have hcj : W.cell? ⟨g, off + j, none⟩ = some (.int .u16 (rows.getD j 0 : Nat)) := by
            refine hK.cell (hcell j _ ?_) (fun h => h)
            rw [List.getElem?_map, List.getElem?_eq_getElem (by omega), List.getD_eq_getElem?_getD, List.getElem?_eq_getElem (by omega)]
            rfl
          have hjj : (j : Int) < (lim : Int) := by omega
          have hj0 : (0 : Int) ≤ (j : Int) := by omega
          generalize hxe : rows.getD j 0 = x at hx hcj
          have c1 := fun W => below_calls x n.toNat hx (by omega) W
          rw [show ((n.toNat : Nat) : Int) = n by omega] at c1
          have hx1 : x % 2 ^ n.toNat < 65536 := Nat.lt_of_le_of_lt (Nat.mod_le _ _) hx
          have hlast := colsAt_all rows n.toNat j (by omega)
          rw [hxe] at hlast
          have hbn : ∀ i ∈ bitsOf (x % 2 ^ n.toNat), i < n.toNat := fun i hi => by
            have := (mem_bitsOf.1 hi).2
            rw [has_mod, Bool.and_eq_true, decide_eq_true_eq] at this
            exact this.1
          clear hxe
          generalize x % 2 ^ n.toNat = y at c1 hx1 hlast hbn
          go_wp2_with fail
          refine (c1 _).mono ?_
          rintro e w' ⟨rfl, rfl⟩
          clear c1
          go_wp2_with fail
          refine (each_calls y _).mono ?_
          rintro e w' ⟨rfl, rfl⟩
          go_wp2_with fail
          have hI0 : IBox ((W.alloc (.cells #[.int .i64 (j : Int)] 3)).alloc (.cells #[.int .u16 (y : Int)] 23)) W.heap.size j := blk_alloc (blk_new _ _) _
          have hB0 : MBox ((W.alloc (.cells #[.int .i64 (j : Int)] 3)).alloc (.cells #[.int .u16 (y : Int)] 23)) (W.heap.size + 1) y := by
            have := blk_new (W.alloc (.cells #[.int .i64 (j : Int)] 3)) (.cells #[.int .u16 (y : Int)] 23)
            rwa [World.size_alloc] at this
          have hkW : ∀ G, Keeps G W ((W.alloc (.cells #[.int .i64 (j : Int)] 3)).alloc (.cells #[.int .u16 (y : Int)] 23)) := fun G => (Keeps.alloc _ _ _).trans (Keeps.alloc _ _ _)
          have hS2 : W.heap.size + 2 ≤ ((W.alloc (.cells #[.int .i64 (j : Int)] 3)).alloc (.cells #[.int .u16 (y : Int)] 23)).heap.size := by simp
          generalize (W.alloc (.cells #[.int .i64 (j : Int)] 3)).alloc (.cells #[.int .u16 (y : Int)] 23) = B at hI0 hB0 hkW hS2
          have hTB : Tab B := (hT.keeps hK (fun h => h)).keeps (hkW (fun _ => False)) (fun h => h)
          refine (wpIn_wide (n := 10)).1 ?_
          refine' wpIn_rangeFunc_O (F := Fence.wide) rfl (by decide) (gf := 241) (lb := #[.pointer (some ⟨W.heap.size + 1, 0, none⟩)]) rfl trivial (enters_of Tryz.func241 (by kernel_rfl) rfl)
            (each_seq 9 (W.heap.size + 1) y (by decide) (by omega) hx1 B hB0 hTB) rfl (fun _ h => .inl h) (fun k h => by rcases h with h | h <;> omega)
            (fun pre V => Keeps (fun i => i = w.heap.size) W V ∧ IBox V W.heap.size j ∧ V.heap[w.heap.size]? = some (.cells ((colsAt rows n.toNat j pre).map encU).toArray 23 (0, 0)) ∧
              V.heap[w.heap.size + 1]? = some (.cells #[.slice (some ⟨w.heap.size, 0, none⟩) n.toNat n.toNat] 221 (0, 0)) ∧ Marks ds V)
            (fun _ _ _ => False) ?mi (fun _ _ _ _ h _ => h) ⟨hkW _, hI0, by rw [colsAt_nil]; exact blk_keeps (hkW (fun _ => False)) hM (fun h => h), blk_keeps (hkW (fun _ => False)) hO (fun h => h), hmk.keeps (hkW (fun _ => False)) (fun _ _ h => h)⟩ _ ?assign ?body ?done (fun _ _ _ _ h _ => h.elim)
          case assign =>
            intro l k W K hK
            gi_wp2
            exact hK
          case mi =>
            rintro s C D ⟨h1, h2, h3, h4, h5⟩ hk
            exact ⟨h1.then hk (fun i hi h => by omega), blk_keeps hk h2 (by omega), blk_keeps hk h3 (by omega), blk_keeps hk h4 (by omega), h5.keeps hk (fun D hD h => by have := hmk.lt D hD; omega)⟩
          case body =>
            rintro pre k V ⟨h1, h2, h3, h4, h5⟩ hpre hszV
            obtain ⟨hnp, hk16, hkm⟩ := not_mem_pre hpre
            have hkn : k < n.toNat := hbn k (hpre.subset (by simp))
            obtain ⟨hget, hset⟩ := colsAt_set rows n.toNat j pre k hkn hnp
            have hci := h2.cell
            have hco : V.cell? ⟨w.heap.size + 1, 0, none⟩ = some (.slice (some ⟨w.heap.size, 0, none⟩) n.toNat n.toNat) := by rw [blk_cell h4]; rfl
            have hcm : V.cell? ⟨w.heap.size, k, none⟩ = some (.int .u16 (colOf rows k j : Nat)) := by rw [blk_cell h3]; simp [hget]
            have hfm : V.frozen? ⟨w.heap.size, k, none⟩ = false := blk_frozen h3 k
            have hor := orpow_u16 (colOf rows k j) j (colOf_lt rows k j) (by omega)
            have hnew := blk_set h3 k (.int .u16 (colOf rows k j + 2 ^ j : Nat))
            rw [List.setIfInBounds_toArray, ← List.map_set (f := encU) (a := colOf rows k j + 2 ^ j), hset] at hnew
            generalize colOf rows k j + 2 ^ j = c' at hor hnew
            generalize colOf rows k j = c at hor hcm
            have hki : (k : Int) < (n.toNat : Int) := by omega
            have hk0 : (0 : Int) ≤ (k : Int) := by omega
            have hj0' : (0 : Int) ≤ (j : Int) := by omega
            have hmx : Tryz.prog.follows .mixedOrders = true := by kernel_rfl
            have hkv : Keeps (fun i => i = w.heap.size) V (V.setCell ⟨w.heap.size, k, none⟩ (.int .u16 (c' : Int))).drew := Keeps.trans (b := V.setCell ⟨w.heap.size, k, none⟩ (.int .u16 (c' : Int))) (Keeps.setCell (fun i => i = w.heap.size) _ _ _ rfl) (Keeps.drew _ _)
            have hfin : Same (fun i => (i = W.heap.size + 1 ∨ i = 0) ∨ i = B.heap.size ∨ i = B.heap.size + 1) V (V.setCell ⟨w.heap.size, k, none⟩ (.int .u16 (c' : Int))).drew ∧
                (Keeps (fun i => i = w.heap.size) W (V.setCell ⟨w.heap.size, k, none⟩ (.int .u16 (c' : Int))).drew ∧ IBox (V.setCell ⟨w.heap.size, k, none⟩ (.int .u16 (c' : Int))).drew W.heap.size j ∧
                  (V.setCell ⟨w.heap.size, k, none⟩ (.int .u16 (c' : Int))).drew.heap[w.heap.size]? = some (.cells ((colsAt rows n.toNat j (pre ++ [k])).map encU).toArray 23 (0, 0)) ∧
                  (V.setCell ⟨w.heap.size, k, none⟩ (.int .u16 (c' : Int))).drew.heap[w.heap.size + 1]? = some (.cells #[.slice (some ⟨w.heap.size, 0, none⟩) n.toNat n.toNat] 221 (0, 0)) ∧ Marks ds (V.setCell ⟨w.heap.size, k, none⟩ (.int .u16 (c' : Int))).drew) :=
              ⟨Same.of_keeps hkv (fun i hi => ⟨by omega, by omega⟩), h1.trans hkv, blk_keeps hkv h2 (by omega), hnew, blk_keeps hkv h4 (by omega), h5.keeps hkv (fun D hD h => by have := hds D hD; omega)⟩
            clear h1 h2 h3 h4 h5 hnew hkv hpre hget hset hkm hcell hM hO
            gi_wp2
            gi_region
            all_goals exact hfin
          case done =>
            rintro V ⟨h1, h2, h3, h4, h5⟩ hD
            rw [hlast] at h3
            have hszV : B.heap.size < V.heap.size := blk_lt hD
            have hnd : B.heap.size ∉ ds := fun h => by have := hmk.lt _ h; omega
            have hmk' : Marks (B.heap.size :: ds) V := ⟨List.nodup_cons.2 ⟨hnd, hmk.1⟩, fun D hD' => by
              rcases List.mem_cons.1 hD' with rfl | h
              · exact hD
              · exact h5.2 D h⟩
            have hds' : ∀ D ∈ B.heap.size :: ds, w.heap.size + 2 ≤ D := fun D hD' => by
              rcases List.mem_cons.1 hD' with rfl | h
              · omega
              · exact hds D h
            have hKV : Keeps (fun _ => False) w V := hK.then h1 (fun i hi h => by omega)
            go_wp2_with fail
            exact ⟨⟨j + 1, B.heap.size :: ds, _, _, _, _, _, _, _, _, _, _, _, ⟨by omega, hKV, h4, h3, hmk', hds', by omega⟩, rfl⟩, by simp [intOf]; omega⟩
        · obtain rfl : j = lim := by omega
          have hc : W.cell? ⟨w.heap.size + 1, 0, none⟩ = some (.slice (some ⟨w.heap.size, 0, none⟩) n.toNat n.toNat) := by rw [blk_cell hO]; rfl
          go_wp2_with fail
          refine leavesM (G := fun i => w.heap.size + 2 ≤ i) ds W hmk hds ?_
          intro w' hk
          refine ⟨_, results_tmp rfl _ _ _, _, rfl, ?_, hK.then hk (fun i hi h => by omega), fun k hk => by cases hk; exact Nat.le_refl _⟩
          have hM' := blk_keeps hk hM (by omega)
          refine ⟨by simp, .inr ⟨w.heap.size, 0, n.toNat, _, by rw [colsOf_length]; rfl, hM', by rw [colsOf_length]; exact Nat.le_refl _, by simp only [maxLen]; omega, by simp [colsOf_length], fun i hi => by simp⟩⟩
set_option maxRecDepth 100000 in
theorem turn_out (v : Value) (rows : List Nat) (n : Int) (w : World) (hn : ¬ (1 ≤ n ∧ n ≤ 16)) :
    Calls Tryz.prog 177 #[v, .int .i64 n] w fun e w' => ∃ u, e = .returned u ∧ QS w' 23 1 u (turnI rows n).length ((turnI rows n).map encU) ∧ Keeps (fun _ => False) w w' ∧
      ∀ k, u.ownBlock = some k → w.heap.size ≤ k := by
  have ept : turnI rows n = [] := by unfold turnI; rw [if_neg hn]
  rw [ept]
  clear ept
  go_enter Tryz.func177, Tryz.ntmps177
  go_wp2_with fail
  all_goals first
    | (exfalso; omega)
    | (go_ret; exact ⟨_, rfl, QS.nil _ _ _, Keeps.refl _ _, fun k h => by cases h⟩)
theorem QS.reads {w : World} {e sz n : Nat} {v : Value} {cs : List Value} (h : QS w e sz v n cs) : Reads w w.heap.size sz v n cs := by
  refine ⟨h.1, ?_⟩
  rcases h.2 with ⟨rfl, rfl⟩ | ⟨g, off, cap, cur, rfl, hg, h1, h2, h3, h4⟩
  · exact ⟨none, 0, rfl, Nat.le_refl _, Nat.zero_le _, fun h => absurd h (Nat.lt_irrefl _)⟩
  · refine ⟨_, cap, rfl, h1, h2, fun _ => ⟨_, rfl, blk_lt hg, fun j u hu => ?_⟩⟩
    rw [Addr.add_lit, blk_cell hg, h4 j (List.getElem?_eq_some_iff.1 hu).1]; exact hu
theorem turn_calls (v : Value) (rows : List Nat) (n : Int) (w : World) (hT : Tab w) (hr : ∀ x ∈ rows, x < 65536) (hv : Reads w w.heap.size 1 v rows.length (rows.map encU)) :
    Calls Tryz.prog 177 #[v, .int .i64 n] w fun e w' => ∃ u, e = .returned u ∧ QS w' 23 1 u (turnI rows n).length ((turnI rows n).map encU) ∧ Keeps (fun _ => False) w w' ∧
      ∀ k, u.ownBlock = some k → w.heap.size ≤ k := by
  by_cases hn : 1 ≤ n ∧ n ≤ 16
  · rcases Nat.eq_zero_or_pos rows.length with h0 | h0
    · obtain rfl : rows = [] := List.eq_nil_of_length_eq_zero h0
      obtain ⟨_, A, c, rfl, _⟩ := hv
      have e : turnI [] n = colsOf [] n.toNat 0 := by
        unfold turnI; rw [if_pos hn]; exact colsOf_beyond [] n.toNat 16 (Nat.zero_le _)
      rw [e]
      exact turn_nil A c n w hn.1 hn.2
    · have hcm : ∀ g off c, v = .slice (some ⟨g, off, none⟩) rows.length c → c ≤ maxLen := fun g off c e => by
        obtain ⟨_, A, c', e', _, h, _⟩ := hv
        rw [e] at e'; cases e'; exact h
      obtain ⟨g, off, c, rfl, hnc, hg, hcell⟩ := hv.at_ (by simpa using h0)
      exact turn_some g off c rows n w hT hr hnc (hcm _ _ _ rfl) hg hcell hn
  · exact turn_out v rows n w hn
end Go.Proofs.YtebnflpanfmicaaGreatDoor
