/-
  Part 28 of the proof: TopMove, TopSay.
-/
import Derived.Test.YtebnflpanfmicaaGreatDoorPkAX
import Derived.Test.YtebnflpanfmicaaGreatDoorPkAY
import Derived.Test.YtebnflpanfmicaaGreatDoorPkAH
import Derived.Test.YtebnflpanfmicaaGreatDoorPkAZ
import Derived.Test.YtebnflpanfmicaaGreatDoorPkBA
import Derived.Deep.RegionLaw
set_option linter.unusedVariables false
set_option linter.unusedSimpArgs false
set_option linter.unusedSectionVars false
namespace Go.Proofs.YtebnflpanfmicaaGreatDoor
open Go.RowKit
def outB (f : Frm) : List Int := if soundF f then encF f else []
def turnW (s : NodeS) (t : Nat) (L : List Nat) (r : Nat) : NodeS := { s with left := fun i' => if i' = t then L else s.left i', from_ := fun i' => if i' = t then r else s.from_ i' }
def popW (s : NodeS) (k : Way) : NodeS := { s with free := if s.Q k = [] then s.free else s.free + 1, Q := setW s.Q k (s.Q k).tail }
def freeW (s : NodeS) (i k : Nat) : NodeS := { s with next := fun i' k' => if i' = i ∧ k' = k then s.next i k else s.next i' k', held := fun i' k' => if i' = i ∧ k' = k then freeR (s.held i k) else s.held i' k' }
def sentW (s : NodeS) (t k : Nat) : NodeS := { s with sent := fun i' k' => if i' = t ∧ k' = k then nextS (s.sent t k) (s.limit t k) else s.sent i' k', limit := fun i' k' => if i' = t ∧ k' = k then s.limit t k else s.limit i' k' }
abbrev pickW (g : Geo) (s : NodeS) (i t : Nat) : Int × List Nat × Nat := wheelPick g.ws (s.left t) (s.from_ t) (mayTo s i t g.ws.length)
def headW (s : NodeS) (k : Way) : Pkt := (s.Q k).head?.getD Pkt.zero
def takeW (s : NodeS) (i t k : Nat) : NodeS := if 0 < i then freeW (popW s ⟨i, t, k⟩) i k else popW s ⟨i, t, k⟩
def moveS (g : Geo) (i t : Nat) (s : NodeS) : NodeS :=
  let p := pickW g s i t
  let s1 := turnW s t p.2.1 p.2.2
  if p.1 < 0 then s1 else
  let k := p.1.toNat
  let s2 := takeW s1 i t k
  if t = 0 then { s2 with q := setAt s2.q 3 (s2.q 3 ++ [headW s ⟨i, t, k⟩]) } else sentW s2 t k
def dataF (s : NodeS) (t k : Nat) (x : Pkt) : Frm := ⟨1, W8 k, W16 (nextN (s.sent t k) (s.limit t k)), W8 x.src, W8 x.dst, x.body⟩
def moveO (g : Geo) (v i t : Nat) (s : NodeS) : List (Nat × List Int) :=
  let p := pickW g s i t
  if p.1 < 0 ∨ t = 0 then [] else [((tos g.t v).getD t 0, outB (dataF s t p.1.toNat (headW s ⟨i, t, p.1.toNat⟩)))]
def movesS (g : Geo) (m : Nat → Int) (s : NodeS) : Nat → NodeS
  | 0 => s
  | i + 1 => if 0 ≤ m i then moveS g i (m i).toNat (movesS g m s i) else movesS g m s i
def movesO (g : Geo) (v : Nat) (m : Nat → Int) (s : NodeS) : Nat → List (Nat × List Int)
  | 0 => []
  | i + 1 => if 0 ≤ m i then movesO g v m s i ++ moveO g v i (m i).toNat (movesS g m s i) else movesO g v m s i
def tellO (g : Geo) (v : Nat) (s : NodeS) (i k : Nat) : List (Nat × List Int) :=
  [((tos g.t v).getD i 0, outB ⟨3, W8 k, W16 (s.sent i k), 0, 0, 0⟩), ((tos g.t v).getD i 0, outB ⟨2, W8 k, W16 (rlim (s.next i k) (s.held i k) g.p.room), 0, 0, 0⟩)]
def tellK (g : Geo) (v : Nat) (s : NodeS) (i : Nat) : Nat → List (Nat × List Int)
  | 0 => []
  | k + 1 => tellK g v s i k ++ tellO g v s i k
def exchO (g : Geo) (v : Nat) (s : NodeS) : Nat → List (Nat × List Int)
  | 0 => []
  | i + 1 => if i = 0 then exchO g v s i else exchO g v s i ++ tellK g v s i g.ws.length
def matchW (g : Geo) (v : Nat) (s : NodeS) : St := roundsP (asks (asksAt s g.ws.length (g.ports v) (g.ports v) 0)) (g.ports v) (start s.G s.A) g.p.rounds.toNat
def fedW (g : Geo) (v : Nat) (s : NodeS) : NodeS := feedTo g v s g.ws.length
def ranW (g : Geo) (v : Nat) (s : NodeS) : NodeS := { fedW g v s with G := (matchW g v (fedW g v s)).G, A := (matchW g v (fedW g v s)).A }
def movedW (g : Geo) (v : Nat) (s : NodeS) : NodeS := movesS g (matchW g v (fedW g v s)).m (ranW g v s) (g.ports v)
def tickS (g : Geo) (v : Nat) (s : NodeS) : NodeS := { movedW g v s with ticks := wrap64 ((movedW g v s).ticks + 1) }
def tickO (g : Geo) (v : Nat) (s : NodeS) : List (Nat × List Int) :=
  movesO g v (matchW g v (fedW g v s)).m (ranW g v s) (g.ports v) ++ (if Int.tmod (tickS g v s).ticks g.p.every = 0 then exchO g v (movedW g v s) (g.ports v) else [])
def frameS (g : Geo) (v i : Nat) (f : Frm) (s : NodeS) : NodeS × Int :=
  if (g.ws.length : Int) ≤ f.lane then (s, 30) else
  let k := f.lane.toNat
  if f.kind = 2 then ({ s with sent := fun i' k' => if i' = i ∧ k' = k then s.sent i k else s.sent i' k', limit := fun i' k' => if i' = i ∧ k' = k then hearC (s.sent i k) (s.limit i k) f.seq else s.limit i' k' }, 0)
  else if f.kind = 3 then ({ s with next := fun i' k' => if i' = i ∧ k' = k then hearR (s.next i k) (s.held i k) g.p.room f.seq else s.next i' k', held := fun i' k' => if i' = i ∧ k' = k then s.held i k else s.held i' k' }, 0)
  else if (g.t.length : Int) + 1 ≤ max f.src f.dst then (s, 30)
  else if comeE (s.next i k) (s.held i k) g.p.room f.seq = 0 then (dataS g v i k f s, 0) else (s, comeE (s.next i k) (s.held i k) g.p.room f.seq)
def takeS (g : Geo) (v x : Nat) (b : List Int) (s : NodeS) : NodeS × Int :=
  if idxI (nb g.t v) x < 0 then (s, 1) else if (decF b).2 ≠ 0 then (s, (decF b).2) else frameS g v (idxI (nb g.t v) x + 1).toNat (decF b).1 s
structure NodeOk (g : Geo) (v : Nat) (s : NodeS) (c : Nat) : Prop where
  wheel : ∀ i, i < g.ports v → WheelOk g.ws (s.left i) (s.from_ i)
  G : ∀ k, k < g.ports v → s.G k < g.ports v
  A : ∀ k, k < g.ports v → s.A k < g.ports v
  q : ∀ k, k < 3 → ∀ x ∈ s.q k, ∃ d : Nat, x.dst = (d : Int) ∧ d ≤ g.t.length
  wait : ∀ k, k < 3 → ((s.q k).length : Int) ≤ g.p.queue
  came : (s.q 3).length ≤ c
section
variable {σ : Sig} {w w' : World} {o : Nat → Option Cmp} {f v : Nat} {g : Geo} {a : NodeA} {s : NodeS}
theorem SysF.apart (h : SysF σ w o) {c : Cmp} {k : Nat} (hk : o k = some c) {x : Nat} (hx : o x = none) : k ≠ x := fun e => by rw [e, hx] at hk; cases hk
theorem SysF.fresh (h : SysF σ w o) {k : Nat} (hk : w.heap.size ≤ k) : o k = none := by
  cases e : o k with
  | none => rfl
  | some x => have := Sys.lt h k x e; omega
theorem HostNow.kept {w w' : World} {S : Nat → Prop} {T E b : Nat} {lanes queue : Int} {q : Nat → List Pkt} (h : HostNow w w' S T E b lanes queue q) : Keeps S w w' := by
  obtain ⟨_, _, hk, _⟩ := h
  exact hk
theorem NodeR.c13 {S : Nat → Prop} {ticks : Int} (h : NodeR w S g v a ticks) : w.cell? ⟨a.nb, 13, none⟩ = some a.pv := by rw [blk_cell h.box]; rfl
end
end Go.Proofs.YtebnflpanfmicaaGreatDoor
namespace Go.Proofs.YtebnflpanfmicaaGreatDoor
open Go.RowKit
def ocells : List Value → List (Nat × List Int) → List Value
  | u :: us, x :: l => .int .i64 (x.1 : Int) :: u :: ocells us l
  | _, _ => []
theorem ocells_snoc : ∀ {us : List Value} {l : List (Nat × List Int)} (h : us.length = l.length) (u : Value) (x : Nat × List Int), ocells (us ++ [u]) (l ++ [x]) = ocells us l ++ [.int .i64 (x.1 : Int), u]
  | [], [], _, _, _ => rfl
  | v :: us, y :: l, h, u, x => by
    show _ :: v :: ocells (us ++ [u]) (l ++ [x]) = _ :: v :: (ocells us l ++ _)
    rw [ocells_snoc (by simpa using h)]
  | [], _ :: _, h, _, _ => by cases h
  | _ :: _, [], h, _, _ => by cases h
theorem ocells_at : ∀ {us : List Value} {l : List (Nat × List Int)} (h : us.length = l.length) (j : Nat) (x : Nat × List Int), l[j]? = some x → ∃ u, us[j]? = some u ∧ (ocells us l)[j * 2]? = some (.int .i64 (x.1 : Int)) ∧ (ocells us l)[j * 2 + 1]? = some u
  | [], [], _, j, x, hx => by simp at hx
  | v :: us, y :: l, h, 0, x, hx => by
    simp at hx; subst hx
    exact ⟨v, rfl, rfl, rfl⟩
  | v :: us, y :: l, h, j + 1, x, hx => by
    obtain ⟨u, h1, h2, h3⟩ := ocells_at (us := us) (l := l) (by simpa using h) j x (by simpa using hx)
    refine ⟨u, by simpa using h1, ?_, ?_⟩
    · rw [show (j + 1) * 2 = j * 2 + 2 by omega]; simpa [ocells] using h2
    · rw [show (j + 1) * 2 + 1 = j * 2 + 1 + 2 by omega]; simpa [ocells] using h3
  | [], _ :: _, h, _, _, _ => by cases h
  | _ :: _, [], h, _, _, _ => by cases h
structure OutR (w : World) (B : Nat) (o : Nat → Option Cmp) (v : Value) (us : List Value) (l : List (Nat × List Int)) : Prop where
  len : us.length = l.length
  row : QS w 142 2 v l.length (ocells us l)
  vown : ∀ k, v.ownBlock = some k → B ≤ k ∧ o k = none
  uown : ∀ u ∈ us, ∀ k, u.ownBlock = some k → B ≤ k ∧ o k = none
  byt : ∀ (j : Nat) (u : Value) (x : Nat × List Int), us[j]? = some u → l[j]? = some x → BQ w u x.2
structure Say (w : World) (B : Nat) (o : Nat → Option Cmp) (ob xb nb : Nat) (v : Value) (us : List Value) (l : List (Nat × List Int)) : Prop where
  box : w.heap[ob]? = some (.cells #[v] 140 (0, 0))
  nbx : w.heap[xb]? = some (.cells #[.pointer (some ⟨nb, 0, none⟩)] 58 (0, 0))
  out : OutR w B o v us l
  bo : B ≤ ob ∧ o ob = none
  bx : B ≤ xb ∧ o xb = none
def SayV (w : World) (B : Nat) (o : Nat → Option Cmp) (ob xb nb : Nat) (l : List (Nat × List Int)) : Prop := ∃ v us, Say w B o ob xb nb v us l
section
variable {w w' : World} {B : Nat} {o o' : Nat → Option Cmp} {ob xb nb : Nat} {v : Value} {us : List Value} {l : List (Nat × List Int)}
theorem OutR.ult (h : OutR w B o v us l) : ∀ u ∈ us, ∀ k, u.ownBlock = some k → k < w.heap.size := by
  intro u hu k hk
  obtain ⟨j, hj, rfl⟩ := List.mem_iff_getElem.1 hu
  have hl : j < l.length := by have := h.len; omega
  exact (h.byt j _ _ (List.getElem?_eq_getElem hj) (List.getElem?_eq_getElem hl)).lt k hk
theorem OutR.keeps (h : OutR w B o v us l) {F : Nat → Prop} (hk : Keeps F w w') (h1 : ∀ k, v.ownBlock = some k → ¬ F k) (h2 : ∀ u ∈ us, ∀ k, u.ownBlock = some k → ¬ F k) (ho : ∀ k, k < w.heap.size → o k = none → o' k = none) : OutR w' B o' v us l :=
  ⟨h.len, h.row.keeps hk h1, fun k e => ⟨(h.vown k e).1, ho k (h.row.lt k e) (h.vown k e).2⟩, fun u hu k e => ⟨(h.uown u hu k e).1, ho k (h.ult u hu k e) (h.uown u hu k e).2⟩,
    fun j u x e1 e2 => (h.byt j u x e1 e2).keeps hk (h2 u (List.mem_of_getElem? e1))⟩
theorem OutR.ext (h : OutR w B o v us l) (he : Ext o w o' w') : OutR w' B o' v us l :=
  h.keeps he.1 (fun k e => by rw [(h.vown k e).2]; decide) (fun u hu k e => by rw [(h.uown u hu k e).2]; decide) (fun k hk e => (he.2 k hk).trans e)
theorem Say.ext (h : Say w B o ob xb nb v us l) (he : Ext o w o' w') : Say w' B o' ob xb nb v us l :=
  ⟨blk_keeps he.1 h.box (by rw [h.bo.2]; decide), blk_keeps he.1 h.nbx (by rw [h.bx.2]; decide), h.out.ext he, ⟨h.bo.1, (he.2 _ (blk_lt h.box)).trans h.bo.2⟩, ⟨h.bx.1, (he.2 _ (blk_lt h.nbx)).trans h.bx.2⟩⟩
theorem SayV.ext (h : SayV w B o ob xb nb l) (he : Ext o w o' w') : SayV w' B o' ob xb nb l := by
  obtain ⟨v, us, h⟩ := h
  exact ⟨v, us, h.ext he⟩
theorem SayV.calm (h : SayV w B o ob xb nb l) (hk : Keeps (fun _ => False) w w') : SayV w' B o ob xb nb l := h.ext (Ext.keeps o hk)
theorem Say.apart (h : Say w B o ob xb nb v us l) : ob ≠ xb ∧ (∀ k, v.ownBlock = some k → k ≠ ob ∧ k ≠ xb) ∧ ∀ u ∈ us, ∀ k, u.ownBlock = some k → k ≠ ob ∧ k ≠ xb ∧ v.ownBlock ≠ some k := by
  have ty : ∀ {b : Nat} {c1 c2 : Array Value} {t1 t2 : TypeId}, w.heap[b]? = some (.cells c1 t1 (0, 0)) → w.heap[b]? = some (.cells c2 t2 (0, 0)) → t1 = t2 := fun e1 e2 => by
    rw [e1] at e2; injection e2 with e2; injection e2
  refine ⟨fun e => ?_, fun k hk => ?_, fun u hu k hk => ?_⟩
  · exact absurd (ty h.box (e ▸ h.nbx)) (by decide)
  · obtain ⟨cur, hc⟩ := h.out.row.typed k hk
    exact ⟨fun e => absurd (ty hc (e ▸ h.box)) (by decide), fun e => absurd (ty hc (e ▸ h.nbx)) (by decide)⟩
  · obtain ⟨j, hj, rfl⟩ := List.mem_iff_getElem.1 hu
    have hl : j < l.length := by have := h.out.len; omega
    obtain ⟨cur, hc⟩ := (h.out.byt j _ _ (List.getElem?_eq_getElem hj) (List.getElem?_eq_getElem hl)).typed k hk
    refine ⟨fun e => absurd (ty hc (e ▸ h.box)) (by decide), fun e => absurd (ty hc (e ▸ h.nbx)) (by decide), fun e => ?_⟩
    obtain ⟨cur', hc'⟩ := h.out.row.typed k e
    exact absurd (ty hc hc') (by decide)
theorem info_outT : (Tryz.prog.info? 142).map (fun i => (i.zero, i.size, i.bytes)) = some (some (.agg #[.int .i64 0, .slice none 0 0]), 2, 32) := by kernel_rfl
theorem Say.snoc {W : World} {v' u : Value} {x : Nat × List Int} (h : Say w B o ob xb nb v us l) (hk : Keeps (fun k => v.ownBlock = some k) w W) (hB : B ≤ w.heap.size) (hno : ∀ k, w.heap.size ≤ k → o k = none)
    (hq : QS W 142 2 v' (l.length + 1) (ocells us l ++ [.int .i64 (x.1 : Int), u])) (hv' : v'.ownBlock = v.ownBlock ∨ ∃ g, v'.ownBlock = some g ∧ w.heap.size ≤ g)
    (hu : BQ W u x.2) (hun : ∀ g, u.ownBlock = some g → w.heap.size ≤ g) :
    Say (W.setCell ⟨ob, 0, none⟩ v') B o ob xb nb v' (us ++ [u]) (l ++ [x]) ∧ Keeps (fun k => B ≤ k ∧ o k = none) w (W.setCell ⟨ob, 0, none⟩ v') ∧ Keeps (fun k => v.ownBlock = some k ∨ k = ob) w (W.setCell ⟨ob, 0, none⟩ v') := by
  obtain ⟨a1, a2, a3⟩ := h.apart
  have hob : W.heap[ob]? = some (.cells #[v] 140 (0, 0)) := blk_keeps hk h.box (fun e => (a2 _ e).1 rfl)
  have hS : Keeps (fun k => k = ob) W (W.setCell ⟨ob, 0, none⟩ v') := Keeps.setCell _ _ _ _ rfl
  have hun' : ∀ g, u.ownBlock = some g → g ≠ ob := fun g e e2 => by have := hun g e; have := blk_lt h.box; omega
  have hvo : ∀ k, v'.ownBlock = some k → B ≤ k ∧ o k = none ∧ k ≠ ob := fun k e => by
    rcases hv' with e2 | ⟨g', e2, e3⟩
    · rw [e2] at e
      exact ⟨(h.out.vown k e).1, (h.out.vown k e).2, (a2 k e).1⟩
    · rw [e2] at e
      cases e
      exact ⟨by omega, hno _ e3, fun e => by have := blk_lt h.box; omega⟩
  have hK : Keeps (fun k => v.ownBlock = some k ∨ k = ob) w (W.setCell ⟨ob, 0, none⟩ v') := (hk.mono (fun _ _ e => .inl e)).trans (hS.mono (fun _ _ e => .inr e))
  have hll : (l ++ [x]).length = l.length + 1 := by simp
  refine ⟨⟨?_, blk_keeps hK h.nbx (fun e => e.elim (fun e => (a2 _ e).2 rfl) (fun e => a1 e.symm)), ⟨by simp [h.out.len], ?_, fun k e => ⟨(hvo k e).1, (hvo k e).2.1⟩, ?_, ?_⟩, h.bo, h.bx⟩, ?_, hK⟩
  · have := blk_set hob 0 v'
    exact this
  · rw [ocells_snoc h.out.len, hll]
    exact hq.keeps hS (fun k e => (hvo k e).2.2)
  · intro u' hu' k e
    rcases List.mem_append.1 hu' with hu' | hu'
    · exact h.out.uown u' hu' k e
    · simp at hu'; subst hu'
      exact ⟨by have := hun k e; omega, hno k (hun k e)⟩
  · intro j u' y e1 e2
    by_cases hj : j < us.length
    · rw [List.getElem?_append_left hj] at e1
      rw [List.getElem?_append_left (by have := h.out.len; omega)] at e2
      refine (h.out.byt j u' y e1 e2).keeps hK (fun k e => ?_)
      obtain ⟨b1, b2, b3⟩ := a3 u' (List.mem_of_getElem? e1) k e
      exact fun e => e.elim (fun e => b3 e) (fun e => b1 e)
    · have hlen := h.out.len
      rw [List.getElem?_append_right (by omega)] at e1
      rw [List.getElem?_append_right (by omega)] at e2
      have hj0 : j - us.length = 0 := by
        rcases Nat.eq_zero_or_pos (j - us.length) with h | h
        · exact h
        · rw [List.getElem?_eq_none (by simp; omega)] at e1; cases e1
      rw [hj0] at e1
      rw [show j - l.length = 0 by omega] at e2
      simp at e1 e2
      subst e1 e2
      exact hu.keeps hS (fun k e => hun' k e)
  · exact hK.mono (fun i hi e => e.elim (fun e => h.out.vown i e) (fun e => e ▸ h.bo))
def encE (f : Frm) : Int := if soundF f then 0 else 1
theorem encode_runs (f : Frm) (w : World) :
    Calls Tryz.prog 124 #[f.val] w fun e w' => ∃ A n c, e = .returned (.tuple #[.slice A n c, .int .u16 (encE f)]) ∧ BQ w' (.slice A n c) (outB f) ∧ Keeps (fun _ => False) w w' ∧ ∀ k, (Value.slice A n c).ownBlock = some k → w.heap.size ≤ k := by
  by_cases hs : soundF f
  · refine (enc_yes f w hs).mono ?_
    rintro e w' ⟨v, rfl, hq, hk, ho⟩
    obtain ⟨A, c, rfl, _, _⟩ := hq.shape
    refine ⟨A, _, c, by unfold encE; rw [if_pos hs], ?_, hk, ho⟩
    unfold outB
    rw [if_pos hs]
    exact hq
  · refine (enc_no f w hs).mono ?_
    rintro e w' ⟨rfl, hk⟩
    refine ⟨none, 0, 0, by unfold encE; rw [if_neg hs], ?_, hk, fun k h => by simp [Value.ownBlock] at h⟩
    unfold outB
    rw [if_neg hs]
    exact QS.nil _ _ _
theorem NodeR.to {w : World} {S : Nat → Prop} {g : Geo} {x : Nat} {a : NodeA} {ticks : Int} (h : NodeR w S g x a ticks) {i : Nat} (hi : i < g.ports x) : ∃ gp op cp, a.pv = .slice (some ⟨gp, op, none⟩) (g.ports x) cp ∧ S gp ∧
    w.cell? ⟨gp, op + i * 3, none⟩ = some (.int .i64 ((tos g.t x).getD i 0 : Nat)) ∧ w.cell? ⟨gp, op + i * 3 + 1, none⟩ = some (a.lv i) ∧ w.cell? ⟨gp, op + i * 3 + 2, none⟩ = some (.pointer (some ⟨a.wb i, 0, none⟩)) := by
  obtain ⟨gp, op, cp, e1, _, c1, _⟩ := h.pq.cell (by omega)
  have hlen : i < (tos g.t x).length := hi
  obtain ⟨p1, p2, p3⟩ := portsFrom_at a (tos g.t x) 0 i _ (List.getElem?_eq_getElem hlen)
  rw [Nat.zero_add] at p2 p3
  refine ⟨gp, op, cp, e1, (h.pown gp (by rw [e1]; rfl)).1, ?_, by rw [Nat.add_assoc]; exact c1 _ _ p2, by rw [Nat.add_assoc]; exact c1 _ _ p3⟩
  rw [List.getD_eq_getElem?_getD, List.getElem?_eq_getElem hlen]
  exact c1 _ _ p1
set_option maxRecDepth 100000 in
set_option maxHeartbeats 8000000 in
theorem say_runs {S : Nat → Prop} {g : Geo} {x : Nat} {a : NodeA} {ticks : Int} (h : Say w B o ob xb a.nb v us l) (hN : NodeR w S g x a ticks) (hS : ∀ k, S k → k ≠ ob ∧ v.ownBlock ≠ some k) (hlv : ∀ i, ∃ A n c, a.lv i = .slice A n c) (hB : B ≤ w.heap.size) (hno : ∀ k, w.heap.size ≤ k → o k = none) (t : Nat) (ht : t < g.ports x) (fr : Frm) (hl : l.length ≤ 1000) (y : Nat) (hy : (tos g.t x).getD t 0 = y) :
    Calls Tryz.prog 123 #[.int .i64 t, fr.val, .pointer (some ⟨ob, 0, none⟩), .pointer (some ⟨xb, 0, none⟩)] w fun e w' => e = .returned (.tuple #[]) ∧
      SayV w' B o ob xb a.nb (l ++ [(y, outB fr)]) ∧ Keeps (fun k => B ≤ k ∧ o k = none) w w' ∧ Keeps (fun k => v.ownBlock = some k ∨ k = ob) w w' := by
  obtain ⟨gp, op, cp, epv, hgS, ct, _, _⟩ := hN.to ht
  rw [hy] at ct
  have cpv : w.cell? ⟨a.nb, 13, none⟩ = some a.pv := by rw [blk_cell hN.box]; rfl
  rw [epv] at cpv
  obtain ⟨A0, c0, hv, hc1, hc2⟩ := h.out.row.shape
  obtain ⟨ap1, ap2, ap3⟩ := h.apart
  have hanb : a.nb ≠ ob := (hS _ hN.sb).1
  have hgo := (hS _ hgS).1
  have hanv := (hS _ hN.sb).2
  have hgv := (hS _ hgS).2
  have cob : w.cell? ⟨ob, 0, none⟩ = some v := by rw [blk_cell h.box]; rfl
  have cxb : w.cell? ⟨xb, 0, none⟩ = some (.pointer (some ⟨a.nb, 0, none⟩)) := by rw [blk_cell h.nbx]; rfl
  have hEN := fun W => encode_runs fr W
  obtain ⟨f0, f1, f2, f3_, f4, f5⟩ := fr
  unfold Frm.val at hEN ⊢
  simp only at hEN ⊢
  have HEN := Lib.hid hEN
  have hk0 : Keeps (fun _ => False) w (w.alloc (.cells #[.int .u8 f0, .int .u8 f1, .int .u16 f2, .int .u8 f3_, .int .u8 f4, .int .u32 f5] 210)) := Keeps.alloc _ _ _
  have hbX := blk_new w (.cells #[.int .u8 f0, .int .u8 f1, .int .u16 f2, .int .u8 f3_, .int .u8 f4, .int .u32 f5] 210)
  have z0 := blk_cell hbX 0
  have z1 := blk_cell hbX 1
  have z2 := blk_cell hbX 2
  have z3 := blk_cell hbX 3
  have z4 := blk_cell hbX 4
  have z5 := blk_cell hbX 5
  simp only [List.getElem?_toArray, List.getElem?_cons_zero, List.getElem?_cons_succ] at z0 z1 z2 z3 z4 z5
  have HK0 := Lib.hid hk0
  have H := Lib.hid h
  have HV := Lib.hid hv
  have HNO := Lib.hid hno
  have hm : (l.length + 1) * 32 ≤ 140737488355328 := by omega
  have HSL := Lib.hid h.out.row
  rw [hv] at cob HSL
  obtain ⟨n, hn⟩ : ∃ n, l.length = n := ⟨_, rfl⟩
  rw [hn] at cob HSL hm hc1
  have HN := Lib.hid hn
  have htn : (t : Int) < ((g.ports x : Nat) : Int) := by omega
  have ht0 : (0 : Int) ≤ (t : Int) := by omega
  clear h hN hS hlv hno hk0 hbX hEN hv hn hl
  generalize g.ports x = np at *
  go_enter Tryz.func123, Tryz.ntmps123
  go_wp2_with fail
  generalize w.alloc (.cells #[.int .u8 f0, .int .u8 f1, .int .u16 f2, .int .u8 f3_, .int .u8 f4, .int .u32 f5] 210) = X at *
  refine (HEN.out X).mono ?_
  rintro e U ⟨A1, m1, c1, rfl, hq, hk, ho⟩
  have hkU := HK0.out.trans hk
  have d0 := hkU.cell cob (fun h => h)
  have d1 := hkU.cell cxb (fun h => h)
  have d2 := hkU.cell cpv (fun h => h)
  have d3 := hkU.cell ct (fun h => h)
  have HQ := Lib.hid hq
  have HO := Lib.hid ho
  have HKU := Lib.hid hkU
  have HKX := Lib.hid hk
  clear hq ho hk hkU cob cxb cpv ct z0 z1 z2 z3 z4 z5 HEN
  go_wp2_with fail
  have hka : Keeps (fun _ => False) U (U.alloc (.cells #[.int .i64 (y : Int), .slice A1 m1 c1] 142)) := Keeps.alloc _ _ _
  have x0 := hka.cell d0 (fun h => h)
  have x1 := hka.cell d1 (fun h => h)
  have x2 := hka.cell d2 (fun h => h)
  have x3 := hka.cell d3 (fun h => h)
  have hQ' : QS (U.alloc (.cells #[.int .i64 (y : Int), .slice A1 m1 c1] 142)).drew 142 2 (.slice A0 n c0) n (ocells us l) := ((HSL.out.keeps HKU.out (fun _ _ h => h)).alloc _).drew
  have hSr : Src Tryz.prog 2 140 (.slice (some ⟨U.heap.size, 0, none⟩) 1 1) 1 [.int .i64 (y : Int), .slice A1 m1 c1] (U.alloc (.cells #[.int .i64 (y : Int), .slice A1 m1 c1] 142)).drew :=
    src_blk Tryz.underlying140 (blk_new U _) rfl (by intro jj hjj'; match jj, hjj' with | 0, _ => rfl | 1, _ => rfl) (by intro y hy; simp at hy; rcases hy with rfl | rfl <;> rfl)
  have HKA := Lib.hid ((HKU.out.trans hka).trans (Keeps.drew _ _))
  have HBX := Lib.hid (p := ∀ w1, World.grownBy (U.alloc (.cells #[.int .i64 (y : Int), .slice A1 m1 c1] 142)).drew w1 (Value.slice A0 n c0).ownBlock → w1.cell? ⟨ob, 0, none⟩ = some (.slice A0 n c0) ∧ w1.frozen? ⟨ob, 0, none⟩ = false) fun w1 hg => by
    have hb := blk_keeps HKA.out H.out.box (fun h => h)
    have hb2 := (hg.block ob (blk_lt hb) (fun e => by have e1 := HV.out; rw [HN.out] at e1; rw [← e1] at e; exact (ap2 ob e.symm).1 rfl)).trans hb
    refine ⟨?_, blk_frozen hb2 0⟩
    rw [blk_cell hb2, ← HN.out, ← HV.out]; rfl
  clear hka
  have h32 : 0 < 32 := by decide
  go_region_law (refine step_append_QS rfl (.tmp 13) (.tmp 24) 140 140 rfl 142 _ 2 32 Tryz.underlying140 info_outT rfl _ n (ocells us l) rfl hQ' _ 1 _ rfl hSr h32 hm ?_; intro A2 c2 w1 hq1 hg1 ho1; obtain ⟨k3, f3⟩ := HBX.out w1 hg1)
  all_goals
    go_end0
    have hg : (U.alloc (.cells #[.int .i64 (y : Int), .slice A1 m1 c1] 142)).drew.grownBy w1 (Value.slice A0 n c0).ownBlock := hg1
    have ho : (Value.slice A2 (n + 1) c2).ownBlock = (Value.slice A0 n c0).ownBlock ∨ ∃ b, (Value.slice A2 (n + 1) c2).ownBlock = some b ∧ (U.alloc (.cells #[.int .i64 (y : Int), .slice A1 m1 c1] 142)).drew.heap.size ≤ b := ho1
    clear hg1 ho1 k3 f3 x0 x1 x2 x3 d0 d1 d2 d3 hQ' hSr HBX
    have hv := HV.out
    rw [HN.out] at hv
    have hk2 : Keeps (fun k => v.ownBlock = some k) w w1 := (HKA.out.mono (fun _ _ h => h.elim)).trans (Keeps.grown hg (fun k e => by rw [hv]; exact e))
    have hsz := HKA.out.size
    have hxs := HK0.out.size
    have hst := H.out.snoc (W := w1) (x := (y, outB ⟨f0, f1, f2, f3_, f4, f5⟩)) (v' := .slice A2 (n + 1) c2) (u := .slice A1 m1 c1) hk2 hB HNO.out (by rw [HN.out]; exact hq1)
      (ho.elim (fun e => .inl (by rw [e, hv])) (fun ⟨b, e1, e2⟩ => .inr ⟨b, e1, by omega⟩))
      (HQ.out.keeps (((Keeps.alloc (fun k => v.ownBlock = some k) U (.cells #[.int .i64 (y : Int), .slice A1 m1 c1] 142)).trans (Keeps.drew _ _)).trans (Keeps.grown hg (fun k e => by rw [hv]; exact e))) (fun k e e2 => by have := HO.out k e; have := H.out.out.row.lt k e2; omega))
      (fun k e => by have := HO.out k e; omega)
    exact ⟨rfl, ⟨_, _, hst.1⟩, hst.2⟩
end
end Go.Proofs.YtebnflpanfmicaaGreatDoor
