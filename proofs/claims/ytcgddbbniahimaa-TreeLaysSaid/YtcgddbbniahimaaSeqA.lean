/-
  A range over a function whose value has state of its own (a captured box that it writes between two rounds): its contract, 'SeqO', and the statement's law over it. The worked laws of the kit let an iterator turn no cells; here it turns the blocks of 'own', and the rounds leave those of 'fixed' as they are.
-/
import Derived.Test.YtcgddbbniahimaaBase
import Derived.RangeFuncNested
import Derived.RangeFuncLeaves
set_option linter.unusedVariables false
set_option linter.unusedSimpArgs false
namespace Go.Proofs.Ytcgddbbniahimaa
open Go.RowKit

theorem Keeps.putObj (F : Nat → Prop) (w : World) (l : Nat) (o : Obj) (h : F l) : Keeps F w (w.putObj l o) :=
  ⟨rfl, rfl, rfl, by simp, fun i _ hn => World.putObj_heap_other (fun e => hn (e ▸ h))⟩

/-- What is said of s does not mind that the blocks of F turn. -/
def Minds {β : Type} (F : Nat → Prop) (J : β → World → Prop) : Prop := ∀ s A B, J s A → Keeps F A B → J s B
/-- The blocks of F lie as they lay. -/
def Same (F : Nat → Prop) (A B : World) : Prop := ∀ k, F k → B.heap[k]? = A.heap[k]?
theorem Same.refl (F : Nat → Prop) (A : World) : Same F A A := fun _ _ => rfl
theorem Same.trans {F : Nat → Prop} {A B C : World} (h : Same F A B) (k : Same F B C) : Same F A C := fun i hi => (k i hi).trans (h i hi)
theorem Same.mono {F G : Nat → Prop} {A B : World} (h : Same F A B) (hg : ∀ k, G k → F k) : Same G A B := fun i hi => h i (hg i hi)
theorem Same.of_keeps {F G : Nat → Prop} {A B : World} (h : Keeps G A B) (hF : ∀ k, F k → k < A.heap.size ∧ ¬ G k) : Same F A B := fun i hi => h.block i (hF i hi).1 (hF i hi).2

/-- The contract of such a value. -/
def SeqO {α : Type} (F : Fence) (n : Nat) (P : Program) (g : Nat) (lb : Array Value) (enc : α → Array Value) (own fixed : Nat → Prop) (xs : List α) (w : World) : Prop :=
  ∀ (l : Nat) (J Jx : List α → World → Prop) (W : World), Same fixed w W → Minds own J → Minds own Jx →
    (∀ pre x W1, J pre W1 → pre ++ [x] <+: xs → YieldAt F (n - 1) P l (enc x) W1 fun e W' =>
      (e = .returned (.bool true) ∧ J (pre ++ [x]) W' ∧ Same fixed W1 W') ∨ (e = .returned (.bool false) ∧ Jx (pre ++ [x]) W')) →
    J [] W →
    CallsIn F n P g (#[.func (.yield l) #[] #[]] ++ lb) W fun e W' => (∃ v, e = .returned v) ∧ (J xs W' ∨ ∃ pre, pre <+: xs ∧ Jx pre W')

/-- How the body of a round may be left. -/
def postO {α : Type} (fix : Nat → Prop) (I : List α → World → Prop) (Ix : Code → List α → World → Prop) (xs : List α) (W : World) : Exit → Act → World → Prop
  | .normal, _, W' => Same fix W W' ∧ I xs W'
  | .ret, _, W' => Same fix W W' ∧ Ix .ret xs W'
  | .exit id, _, W' => Same fix W W' ∧ Ix (.exit id) xs W'
  | .goto t, _, W' => Same fix W W' ∧ Ix (.goto t) xs W'
  | .panic _, _, _ => False
  | .outgrown, _, _ => False

variable {F : Fence} {n : Nat} {P : Program}

theorem wpIn_rangeFunc_O {α : Type} {g : Operand} {ps : Array Tmp} {assign body : Code} {Q : Exit → Act → World → Prop} {a : Act} {w : World}
    (hro : F.round = none) (h1 : 1 ≤ n) {gf : Nat} {lb : Array Value} (hg : a.eval g = .func (.func gf) #[] lb) (hFg : F.fn gf) (eg : ∀ args w, (callFunc gf args).run P w = .ok (.enter gf args) w)
    {enc : α → Array Value} {own fixed : Nat → Prop} {xs : List α} (hseq : SeqO F (n - 1) P gf lb enc own fixed xs w) (hps : ∀ x, (enc x).size = ps.size)
    (hof : ∀ k, own k → fixed k) (hfx : ∀ k, fixed k → k < w.heap.size)
    (I : List α → World → Prop) (Ix : Code → List α → World → Prop) (hI : Minds (fun k => own k ∨ k = w.heap.size ∨ k = w.heap.size + 1) I) (hIx : ∀ c, Minds (fun k => own k ∨ k = w.heap.size ∨ k = w.heap.size + 1) (Ix c))
    (h0 : I [] w) (a₁ : α → Act)
    (hassign : ∀ (l : Nat) (x : α) (W : World) (K : Act → World → Prop), K (a₁ x) W →
      assign.wpIn (F.inRound l) (n - 1 - 1) P (Exit.then K (fun _ _ _ => False)) { tmps := (ps.zip (enc x)).foldl (fun t (p, v) => t.setIfInBounds p v) a.tmps, defers := [] } W)
    (hbody : ∀ (pre : List α) (x : α) (W : World), I pre W → pre ++ [x] <+: xs → w.heap.size + 1 < W.heap.size →
      body.wpIn (F.inRound (w.heap.size + 1)) (n - 1 - 1) P (postO (fun k => fixed k ∨ k = w.heap.size ∨ k = w.heap.size + 1) I Ix (pre ++ [x]) W) (a₁ x) W)
    (hdone : ∀ (W : World), I xs W → W.heap[w.heap.size]? = some (.deferred (some [])) → Q .normal { a with defers := { target := .collected w.heap.size, args := #[] } :: a.defers } W)
    (hstop : ∀ (c : Code) (pre : List α) (W : World), pre <+: xs → Ix c pre W → W.heap[w.heap.size]? = some (.deferred (some [])) → c.wpIn F n P Q { a with defers := { target := .collected w.heap.size, args := #[] } :: a.defers } W) :
    (Code.rangeFunc g ps assign body).wpIn F n P Q a w := by
  refine wpIn_rangeFunc ?_
  intro fn hfn
  rw [hro]
  obtain ⟨rec, hrec⟩ : ∃ rec : LoopState → Option Code → Loop, rec = fun st pe => { state := st, pending := pe, fn, tmps := a.tmps, params := ps, assign, body, defers := w.heap.size } := ⟨_, rfl⟩
  obtain ⟨W1, hW1⟩ : ∃ W1, (w.alloc (.deferred (some []))).alloc (.loop (rec .ready none)) = W1 := ⟨_, rfl⟩
  have hL1 : W1.heap[w.heap.size + 1]? = some (.loop (rec .ready none)) := by
    rw [← hW1]; have := World.alloc_heap_new (w.alloc (.deferred (some []))) (.loop (rec .ready none)); rwa [World.size_alloc] at this
  have hK1 : W1.heap[w.heap.size]? = some (.deferred (some [])) := by
    rw [← hW1]; exact (Below.heap_alloc _ _ _ (by simp)).trans (World.alloc_heap_new w _)
  have hk1 : ∀ G, Keeps G w W1 := fun G => by rw [← hW1]; exact (Keeps.alloc G w _).trans (Keeps.alloc G _ _)
  have hI1 : I [] W1 := hI _ _ _ h0 (hk1 _)
  have hs1 : Same fixed w W1 := Same.of_keeps (hk1 (fun _ => False)) (fun k hk => ⟨hfx k hk, fun h => h⟩)
  refine ⟨w.heap.size + 1, [{ target := .collected w.heap.size, args := #[] }], W1, { target := .fn (.func gf) lb, args := #[.func (.yield (w.heap.size + 1)) #[] #[]] }, W1, gf,
    #[.func (.yield (w.heap.size + 1)) #[] #[]] ++ lb, W1, ?_, ?_, ?_, ?_, fun _ => h1, ?_⟩
  · rw [← hW1, hrec]; exact run_enterLoop_outer _ _ _ _ _
  · simp only [resolve, hg]
    simp [go_sem]
  · intro f' hf'; simp [Target.leads] at hf'; subst hf'; exact hFg
  · simp [invoke, go_sem, eg]
  · -- the iterator's contract, at the caller's word and what the law itself keeps
    have nD : ¬ own w.heap.size := fun h => Nat.lt_irrefl _ (hfx _ (hof _ h))
    have nL : ¬ own (w.heap.size + 1) := fun h => Nat.not_succ_lt_self (hfx _ (hof _ h))
    have fD : ∀ k, fixed k → k ≠ w.heap.size + 1 := fun k hk e => Nat.not_succ_lt_self (e ▸ hfx k hk)
    refine (hseq (w.heap.size + 1)
      (fun pre W => I pre W ∧ W.heap[w.heap.size + 1]? = some (.loop (rec .ready none)) ∧ W.heap[w.heap.size]? = some (.deferred (some [])))
      (fun pre W => ∃ c, Ix c pre W ∧ W.heap[w.heap.size + 1]? = some (.loop (rec .done (some c))) ∧ W.heap[w.heap.size]? = some (.deferred (some [])))
      W1 hs1
      (fun s A B hs hk => ⟨hI s A B hs.1 (hk.mono fun _ _ h => .inl h), blk_keeps hk hs.2.1 nL, blk_keeps hk hs.2.2 nD⟩)
      (fun s A B hs hk => by
        obtain ⟨c, hc, hl, hd⟩ := hs
        exact ⟨c, hIx c s A B hc (hk.mono fun _ _ h => .inl h), blk_keeps hk hl nL, blk_keeps hk hd nD⟩)
      ?_ ⟨hI1, hL1, hK1⟩).mono ?_
    · -- one round
      rintro pre x W ⟨hi, hl, hk⟩ hpre
      have hlt : w.heap.size + 1 < W.heap.size := blk_lt hl
      have hy := run_yield (P := P) (args := (enc x)) hl (by rw [hrec]; simp [hps])
      rw [hrec] at hy
      refine ⟨fn, _, assign, body, hy, roundIn_of_wpIn hfn (hassign _ x W _ ⟨_, run_beginRound hl (by rw [hrec]), ?_⟩)⟩
      have hkp : ∀ (V : World) (o : Obj), Keeps (fun k => own k ∨ k = w.heap.size ∨ k = w.heap.size + 1) V (V.putObj (w.heap.size + 1) o) := fun V o => Keeps.putObj _ _ _ _ (.inr (.inr rfl))
      have hsp : ∀ (V : World) (o : Obj), Same fixed V (V.putObj (w.heap.size + 1) o) := fun V o k hk => World.putObj_heap_other (fD k hk)
      have hl2 : (W.putObj (w.heap.size + 1) (.loop { rec .ready none with state := .busy })).heap[w.heap.size + 1]? = some (.loop { rec .ready none with state := .busy }) := World.putObj_heap_same hlt
      have hk2 : (W.putObj (w.heap.size + 1) (.loop { rec .ready none with state := .busy })).heap[w.heap.size]? = some (.deferred (some [])) := (World.putObj_heap_other (by omega)).trans hk
      refine wpIn_mono (hbody pre x _ (hI _ _ _ hi (hkp _ _)) hpre (by rw [World.putObj_size]; exact hlt)) ?_
      have fin : ∀ (jump : Option Code) (W3 : World), Same (fun k => fixed k ∨ k = w.heap.size ∨ k = w.heap.size + 1) (W.putObj (w.heap.size + 1) (.loop { rec .ready none with state := .busy })) W3 →
          (Instr.endRound (w.heap.size + 1) jump).run P W3 = .ok (.bool jump.isNone) (W3.putObj (w.heap.size + 1) (.loop (rec (if jump.isNone then .ready else .done) jump))) ∧
          (W3.putObj (w.heap.size + 1) (.loop (rec (if jump.isNone then .ready else .done) jump))).heap[w.heap.size + 1]? = some (.loop (rec (if jump.isNone then .ready else .done) jump)) ∧
          (W3.putObj (w.heap.size + 1) (.loop (rec (if jump.isNone then .ready else .done) jump))).heap[w.heap.size]? = some (.deferred (some [])) := fun jump W3 hk3 => by
        have hl3 := (hk3 _ (.inr (.inr rfl))).trans hl2
        have := run_endRound (P := P) jump hl3
        rw [hrec] at this ⊢
        exact ⟨this, World.putObj_heap_same (blk_lt hl3), (World.putObj_heap_other (by omega)).trans ((hk3 _ (.inr (.inl rfl))).trans hk2)⟩
      rintro e a3 W3 hp
      cases e with
      | normal =>
        obtain ⟨hk3, hi3⟩ := hp
        obtain ⟨hr, hl4, hk4⟩ := fin none W3 hk3
        exact ⟨_, _, hr, .inl ⟨rfl, ⟨hI _ _ _ hi3 (hkp _ _), hl4, hk4⟩, ((hsp _ _).trans (hk3.mono fun k h => .inl h)).trans (hsp _ _)⟩⟩
      | ret =>
        obtain ⟨hk3, hi3⟩ := hp
        obtain ⟨hr, hl4, hk4⟩ := fin (some .ret) W3 hk3
        exact ⟨_, _, hr, .inr ⟨rfl, .ret, hIx _ _ _ _ hi3 (hkp _ _), hl4, hk4⟩⟩
      | exit id =>
        obtain ⟨hk3, hi3⟩ := hp
        obtain ⟨hr, hl4, hk4⟩ := fin (some (.exit id)) W3 hk3
        exact ⟨_, _, hr, .inr ⟨rfl, .exit id, hIx _ _ _ _ hi3 (hkp _ _), hl4, hk4⟩⟩
      | goto t =>
        obtain ⟨hk3, hi3⟩ := hp
        obtain ⟨hr, hl4, hk4⟩ := fin (some (.goto t)) W3 hk3
        exact ⟨_, _, hr, .inr ⟨rfl, .goto t, hIx _ _ _ _ hi3 (hkp _ _), hl4, hk4⟩⟩
      | panic ch => exact hp.elim
      | outgrown => exact hp.elim
    · -- behind the iterator
      have hkp : ∀ (V : World) (o : Obj), Keeps (fun k => own k ∨ k = w.heap.size ∨ k = w.heap.size + 1) V (V.putObj (w.heap.size + 1) o) := fun V o => Keeps.putObj _ _ _ _ (.inr (.inr rfl))
      rintro e W2 ⟨⟨v, rfl⟩, (⟨hi, hl, hk⟩ | ⟨pre, hpre, c, hi, hl, hk⟩)⟩
      · exact ⟨none, _, by have := run_endLoop (P := P) hl (by rw [hrec]; simp); rw [hrec] at this; exact this, hdone _ (hI _ _ _ hi (hkp _ _)) ((World.putObj_heap_other (by omega)).trans hk)⟩
      · exact ⟨some c, _, by have := run_endLoop (P := P) hl (by rw [hrec]; simp); rw [hrec] at this; exact this, hstop c pre _ hpre (hIx _ _ _ _ hi (hkp _ _)) ((World.putObj_heap_other (by omega)).trans hk)⟩

/-- The mark that a range over a function leaves on its activation. -/
def markOf (D : Nat) : Deferred := { target := .collected D, args := #[] }
/-- The blocks of such marks, none twice, each empty. -/
def Marks (Ds : List Nat) (w : World) : Prop := Ds.Nodup ∧ ∀ D ∈ Ds, w.heap[D]? = some (.deferred (some []))
theorem Marks.nil (w : World) : Marks [] w := ⟨List.nodup_nil, fun _ h => by cases h⟩
theorem Marks.keeps {Ds : List Nat} {A B : World} {G : Nat → Prop} (h : Marks Ds A) (hk : Keeps G A B) (hG : ∀ D ∈ Ds, ¬ G D) : Marks Ds B :=
  ⟨h.1, fun D hD => blk_keeps hk (h.2 D hD) (hG D hD)⟩
theorem Marks.lt {Ds : List Nat} {A : World} (h : Marks Ds A) : ∀ D ∈ Ds, D < A.heap.size := fun D hD => blk_lt (h.2 D hD)

/-- At a function's end: its marks are taken, one by one. -/
theorem leavesM {fn : Func} {tmps : Array Value} {R : Ending → World → Prop} {G : Nat → Prop} : ∀ (Ds : List Nat) (w : World), Marks Ds w → (∀ D ∈ Ds, G D) →
    (∀ w', Keeps G w w' → ∃ v, (results fn tmps).run P w' = .ok v w' ∧ R (.returned v) w') → LeavesInM F n P fn tmps R (Ds.map markOf) .returning w
  | [], w, _, _, h => h w (Keeps.refl _ w)
  | D :: Ds, w, hm, hG, h => by
    have hD := hm.2 D List.mem_cons_self
    have hk : Keeps G w (w.putObj D (.deferred none)) := Keeps.putObj _ _ _ _ (hG D List.mem_cons_self)
    refine ⟨by simp, .inl ⟨D, _, rfl, run_takeDeferred hD, leavesM Ds _ ⟨(List.nodup_cons.1 hm.1).2, fun E hE => ?_⟩ (fun E hE => hG E (List.mem_cons_of_mem _ hE)) (fun w' hk' => h w' (hk.trans hk'))⟩⟩
    have hne : E ≠ D := fun e => (List.nodup_cons.1 hm.1).1 (e ▸ hE)
    exact (World.putObj_heap_other hne).trans (hm.2 E (List.mem_cons_of_mem _ hE))

end Go.Proofs.Ytcgddbbniahimaa
