/-
  Part 35 of the proof: TopNewP, TopMid.
-/
import Derived.Test.YtebnflpanfmicaaGreatDoorPkBG
import Derived.Test.YtebnflpanfmicaaGreatDoorPkAS
import Derived.Deep.RegionLaw
set_option linter.unusedVariables false
set_option linter.unusedSimpArgs false
set_option linter.unusedSectionVars false
namespace Go.Proofs.YtebnflpanfmicaaGreatDoor
open Go.RowKit
open Classical in
theorem Sys.claim {ι : Type} {A A' : ι → Part} {w : World} {o : Nat → Option ι} {S : Nat → Prop} (h : Sys A w o) (c : ι) (hA : ∀ x, x ≠ c → A' x = A x) (hc : ∀ k, o k ≠ some c) (hS : ∀ k, S k → o k = none) (hB : (A' c).at_ w S) :
    ∃ o', Sys A' w o' ∧ (∀ k, S k → o' k = some c) ∧ ∀ k, ¬ S k → o' k = o k := by
  refine ⟨fun k => if S k then some c else o k, ⟨fun x => ?_, fun k x e => ?_⟩, fun k hs => if_pos hs, fun k hs => if_neg hs⟩
  · by_cases hx : x = c
    · subst hx
      have e : (fun k => (if S k then some x else o k) = some x) = S := by
        funext k
        by_cases hs : S k
        · simp [hs]
        · simp [hs, hc k]
      rw [e]
      exact hB
    · rw [hA x hx]
      have e : (fun k => (if S k then some c else o k) = some x) = (fun k => o k = some x) := by
        funext k
        by_cases hs : S k
        · rw [if_pos hs, hS k hs]
          simp [Ne.symm hx]
        · rw [if_neg hs]
      rw [e]
      exact h.part x
  · by_cases hs : S k
    · exact (A' c).lt hB k hs
    · rw [if_neg hs] at e
      exact h.lt k x e
def newS (g : Geo) (v : Nat) : NodeS :=
  { q := fun _ => [], free := g.ports v * g.ws.length * g.p.room.toNat, Q := fun _ => [], sent := fun _ _ => g.p.start, limit := fun _ _ => W64 (g.p.start + g.p.room), next := fun _ _ => g.p.start, held := fun _ _ => 0,
    left := fun _ => g.ws, from_ := fun _ => 0, G := fun _ => 0, A := fun _ => 0, ticks := 0 }
def bParts (σ : Sig) (f v : Nat) (g : Geo) (a : NodeA) (jw jl ks kr : Nat) : Cmp → Part
  | .host f' v' => if f' = f ∧ v' = v then hostPart a.hb g.p.lanes g.p.queue (fun _ => []) else σ.part (.host f' v')
  | .wheel f' v' i => if (f' = f ∧ v' = v) ∧ i < jw then wheelPart (a.wb i) g.ws g.ws 0 else σ.part (.wheel f' v' i)
  | .snd f' v' i k => if (f' = f ∧ v' = v) ∧ 1 ≤ i ∧ k < g.ws.length ∧ (i < jl ∨ (i = jl ∧ k < ks)) then sndPart (a.sb i k) g.p.start (W64 (g.p.start + g.p.room)) else σ.part (.snd f' v' i k)
  | .rcv f' v' i k => if (f' = f ∧ v' = v) ∧ 1 ≤ i ∧ k < g.ws.length ∧ (i < jl ∨ (i = jl ∧ k < kr)) then rcvPart (a.cb i k) g.p.start 0 g.p.room else σ.part (.rcv f' v' i k)
  | c => σ.part c
section
variable {σ : Sig} {w w' : World} {o o' : Nat → Option Cmp} {f v : Nat} {g : Geo} {a : NodeA} {jw jl ks kr : Nat}
theorem none_part (hn : σ.node f v = none) (c : Cmp) (hc : c = .host f v ∨ c = .rings f v ∨ c = .arb f v ∨ c = .node f v ∨ (∃ i, c = .wheel f v i) ∨ (∃ i k, c = .snd f v i k) ∨ ∃ i k, c = .rcv f v i k) : σ.part c = Part.none := by
  rcases hc with rfl | rfl | rfl | rfl | ⟨i, rfl⟩ | ⟨i, k, rfl⟩ | ⟨i, k, rfl⟩ <;> simp only [Sig.part, hn] <;> cases σ.geo f <;> rfl
theorem Sys.noneOf {ι : Type} {A : ι → Part} {w : World} {o : Nat → Option ι} (h : Sys A w o) {c : ι} (hc : A c = Part.none) : ∀ k, o k ≠ some c := fun k e => by
  have := h.part c
  rw [hc] at this
  exact this k e
theorem Ext.claim {w0 : World} {o0 : Nat → Option Cmp} {S : Nat → Prop} (h : Ext o0 w0 o w) (hno : ∀ k, ¬ S k → o' k = o k) (hS : ∀ k, S k → w0.heap.size ≤ k) : Ext o0 w0 o' w :=
  ⟨h.1, fun k hk => (hno k (fun e => by have := hS k e; omega)).trans (h.2 k hk)⟩
theorem b_host (hn : σ.node f v = none) (hb : Nat) (h : Sys σ.part w o) (S : Nat → Prop) (hS : ∀ k, S k → o k = none) (hB : HostV w S 200 31 hb g.p.lanes g.p.queue (fun _ => [])) (ha : a.hb = hb) :
    ∃ o', Sys (bParts σ f v g a 0 1 0 0) w o' ∧ (∀ k, S k → o' k = some (.host f v)) ∧ ∀ k, ¬ S k → o' k = o k := by
  subst ha
  refine Sys.claim h (.host f v) (fun x hx => ?_) (h.noneOf (none_part hn _ (.inl rfl))) hS (by simp only [bParts, and_self, if_true]; exact hB)
  cases x with
  | host f' v' =>
    have : ¬ (f' = f ∧ v' = v) := fun e => hx (by rw [e.1, e.2])
    simp [bParts, this]
  | snd f' v' i k => simp only [bParts]; rw [if_neg (fun e => by omega)]
  | rcv f' v' i k => simp only [bParts]; rw [if_neg (fun e => by omega)]
  | wheel f' v' i => simp [bParts]
  | _ => rfl
theorem b_wheel (hn : σ.node f v = none) (b : Nat) (h : Sys (bParts σ f v g a jw jl ks kr) w o) (S : Nat → Prop) (hS : ∀ k, S k → o k = none) (hB : WheelV w S b g.ws g.ws 0) :
    ∃ o', Sys (bParts σ f v g { a with wb := setAt a.wb jw b } (jw + 1) jl ks kr) w o' ∧ (∀ k, S k → o' k = some (.wheel f v jw)) ∧ ∀ k, ¬ S k → o' k = o k := by
  refine Sys.claim h (.wheel f v jw) (fun x hx => ?_) (h.noneOf ?_) hS (by rw [show bParts σ f v g { a with wb := setAt a.wb jw b } (jw + 1) jl ks kr (.wheel f v jw) = wheelPart b g.ws g.ws 0 from (if_pos ⟨⟨rfl, rfl⟩, Nat.lt_succ_self _⟩).trans (by simp only [setAt_same])]; exact hB)
  · cases x with
    | wheel f' v' i =>
      simp only [bParts]
      by_cases e : f' = f ∧ v' = v
      · have hi : i ≠ jw := fun e2 => hx (by rw [e.1, e.2, e2])
        by_cases h2 : i < jw
        · have c1 : (f' = f ∧ v' = v) ∧ i < jw + 1 := ⟨e, by omega⟩
          have c2 : (f' = f ∧ v' = v) ∧ i < jw := ⟨e, h2⟩
          rw [if_pos c1, if_pos c2, setAt_other _ _ _ _ hi]
        · have c1 : ¬ ((f' = f ∧ v' = v) ∧ i < jw + 1) := fun h => by have := h.2; omega
          have c2 : ¬ ((f' = f ∧ v' = v) ∧ i < jw) := fun h => h2 h.2
          rw [if_neg c1, if_neg c2]
      · rw [if_neg (fun h => e h.1), if_neg (fun h => e h.1)]
    | _ => rfl
  · simp only [bParts]
    rw [if_neg (fun h => Nat.lt_irrefl _ h.2)]
    exact none_part hn _ (.inr (.inr (.inr (.inr (.inl ⟨_, rfl⟩)))))
theorem b_snd (hn : σ.node f v = none) (b : Nat) (hj : 1 ≤ jl) (hk : ks < g.ws.length) (h : Sys (bParts σ f v g a jw jl ks kr) w o) (S : Nat → Prop) (hS : ∀ k, S k → o k = none) (hB : SendAt w b g.p.start (W64 (g.p.start + g.p.room)) ∧ S b ∧ ∀ k, S k → k < w.heap.size) :
    ∃ o', Sys (bParts σ f v g { a with sb := fun i k => if i = jl ∧ k = ks then b else a.sb i k } jw jl (ks + 1) kr) w o' ∧ (∀ k, S k → o' k = some (.snd f v jl ks)) ∧ ∀ k, ¬ S k → o' k = o k := by
  refine Sys.claim h (.snd f v jl ks) (fun x hx => ?_) (h.noneOf ?_) hS (by rw [show bParts σ f v g { a with sb := fun i k => if i = jl ∧ k = ks then b else a.sb i k } jw jl (ks + 1) kr (.snd f v jl ks) = sndPart b g.p.start (W64 (g.p.start + g.p.room)) from (if_pos ⟨⟨rfl, rfl⟩, hj, hk, .inr ⟨rfl, Nat.lt_succ_self _⟩⟩).trans (by simp only [and_self, if_true])]; exact hB)
  · cases x with
    | snd f' v' i k =>
      simp only [bParts]
      by_cases e : f' = f ∧ v' = v
      · have hi : ¬ (i = jl ∧ k = ks) := fun e2 => hx (by rw [e.1, e.2, e2.1, e2.2])
        by_cases h2 : 1 ≤ i ∧ k < g.ws.length ∧ (i < jl ∨ (i = jl ∧ k < ks))
        · have c1 : (f' = f ∧ v' = v) ∧ 1 ≤ i ∧ k < g.ws.length ∧ (i < jl ∨ (i = jl ∧ k < ks + 1)) := ⟨e, by omega⟩
          have c2 : (f' = f ∧ v' = v) ∧ 1 ≤ i ∧ k < g.ws.length ∧ (i < jl ∨ (i = jl ∧ k < ks)) := ⟨e, h2⟩
          rw [if_pos c1, if_pos c2, if_neg hi]
        · have c1 : ¬ ((f' = f ∧ v' = v) ∧ 1 ≤ i ∧ k < g.ws.length ∧ (i < jl ∨ (i = jl ∧ k < ks + 1))) := fun h => by have := h.2; omega
          have c2 : ¬ ((f' = f ∧ v' = v) ∧ 1 ≤ i ∧ k < g.ws.length ∧ (i < jl ∨ (i = jl ∧ k < ks))) := fun h => h2 h.2
          rw [if_neg c1, if_neg c2]
      · rw [if_neg (fun h => e h.1), if_neg (fun h => e h.1)]
    | _ => rfl
  · simp only [bParts]
    rw [if_neg (fun h => by omega)]
    exact none_part hn _ (.inr (.inr (.inr (.inr (.inr (.inl ⟨_, _, rfl⟩))))))
theorem b_rcv (hn : σ.node f v = none) (b : Nat) (hj : 1 ≤ jl) (hk : kr < g.ws.length) (h : Sys (bParts σ f v g a jw jl ks kr) w o) (S : Nat → Prop) (hS : ∀ k, S k → o k = none) (hB : RecvAt w b g.p.start 0 g.p.room ∧ S b ∧ ∀ k, S k → k < w.heap.size) :
    ∃ o', Sys (bParts σ f v g { a with cb := fun i k => if i = jl ∧ k = kr then b else a.cb i k } jw jl ks (kr + 1)) w o' ∧ (∀ k, S k → o' k = some (.rcv f v jl kr)) ∧ ∀ k, ¬ S k → o' k = o k := by
  refine Sys.claim h (.rcv f v jl kr) (fun x hx => ?_) (h.noneOf ?_) hS (by rw [show bParts σ f v g { a with cb := fun i k => if i = jl ∧ k = kr then b else a.cb i k } jw jl ks (kr + 1) (.rcv f v jl kr) = rcvPart b g.p.start 0 g.p.room from (if_pos ⟨⟨rfl, rfl⟩, hj, hk, .inr ⟨rfl, Nat.lt_succ_self _⟩⟩).trans (by simp only [and_self, if_true])]; exact hB)
  · cases x with
    | rcv f' v' i k =>
      simp only [bParts]
      by_cases e : f' = f ∧ v' = v
      · have hi : ¬ (i = jl ∧ k = kr) := fun e2 => hx (by rw [e.1, e.2, e2.1, e2.2])
        by_cases h2 : 1 ≤ i ∧ k < g.ws.length ∧ (i < jl ∨ (i = jl ∧ k < kr))
        · have c1 : (f' = f ∧ v' = v) ∧ 1 ≤ i ∧ k < g.ws.length ∧ (i < jl ∨ (i = jl ∧ k < kr + 1)) := ⟨e, by omega⟩
          have c2 : (f' = f ∧ v' = v) ∧ 1 ≤ i ∧ k < g.ws.length ∧ (i < jl ∨ (i = jl ∧ k < kr)) := ⟨e, h2⟩
          rw [if_pos c1, if_pos c2, if_neg hi]
        · have c1 : ¬ ((f' = f ∧ v' = v) ∧ 1 ≤ i ∧ k < g.ws.length ∧ (i < jl ∨ (i = jl ∧ k < kr + 1))) := fun h => by have := h.2; omega
          have c2 : ¬ ((f' = f ∧ v' = v) ∧ 1 ≤ i ∧ k < g.ws.length ∧ (i < jl ∨ (i = jl ∧ k < kr))) := fun h => h2 h.2
          rw [if_neg c1, if_neg c2]
      · rw [if_neg (fun h => e h.1), if_neg (fun h => e h.1)]
    | _ => rfl
  · simp only [bParts]
    rw [if_neg (fun h => by omega)]
    exact none_part hn _ (.inr (.inr (.inr (.inr (.inr (.inr ⟨_, _, rfl⟩))))))
theorem bParts_next (h : ks = g.ws.length) (h2 : kr = g.ws.length) : bParts σ f v g a jw jl ks kr = bParts σ f v g a jw (jl + 1) 0 0 := by
  funext x
  cases x with
  | snd f' v' i k =>
    simp only [bParts]
    by_cases e : (f' = f ∧ v' = v) ∧ 1 ≤ i ∧ k < g.ws.length ∧ (i < jl ∨ (i = jl ∧ k < ks))
    · rw [if_pos e, if_pos ⟨e.1, by have := e.2; omega⟩]
    · rw [if_neg e, if_neg (fun h => e ⟨h.1, by have := h.2; omega⟩)]
  | rcv f' v' i k =>
    simp only [bParts]
    by_cases e : (f' = f ∧ v' = v) ∧ 1 ≤ i ∧ k < g.ws.length ∧ (i < jl ∨ (i = jl ∧ k < kr))
    · rw [if_pos e, if_pos ⟨e.1, by have := e.2; omega⟩]
    · rw [if_neg e, if_neg (fun h => e ⟨h.1, by have := h.2; omega⟩)]
  | _ => rfl
theorem bParts_addr {a' : NodeA} (h1 : a'.hb = a.hb) (h2 : ∀ i, i < jw → a'.wb i = a.wb i) (h3 : a'.sb = a.sb) (h4 : a'.cb = a.cb) : bParts σ f v g a' jw jl ks kr = bParts σ f v g a jw jl ks kr := by
  funext x
  cases x with
  | host f' v' => simp only [bParts, h1]
  | wheel f' v' i =>
    simp only [bParts]
    split
    · rename_i e; rw [h2 i e.2]
    · rfl
  | snd f' v' i k => simp only [bParts, h3]
  | rcv f' v' i k => simp only [bParts, h4]
  | _ => rfl
theorem b_rings {A : Cmp → Part} (b : Nat) (h : Sys A w o) (hA : A (.rings f v) = Part.none) (S : Nat → Prop) (hS : ∀ k, S k → o k = none) (P : Part) (hB : P.at_ w S) :
    ∃ o', Sys (fun x => if x = .rings f v then P else A x) w o' ∧ (∀ k, S k → o' k = some (.rings f v)) ∧ ∀ k, ¬ S k → o' k = o k :=
  Sys.claim h (.rings f v) (fun x hx => if_neg hx) (h.noneOf hA) hS (by rw [if_pos rfl]; exact hB)
theorem b_arb {A : Cmp → Part} (h : Sys A w o) (hA : A (.arb f v) = Part.none) (S : Nat → Prop) (hS : ∀ k, S k → o k = none) (P : Part) (hB : P.at_ w S) :
    ∃ o', Sys (fun x => if x = .arb f v then P else A x) w o' ∧ (∀ k, S k → o' k = some (.arb f v)) ∧ ∀ k, ¬ S k → o' k = o k :=
  Sys.claim h (.arb f v) (fun x hx => if_neg hx) (h.noneOf hA) hS (by rw [if_pos rfl]; exact hB)
theorem b_node {A : Cmp → Part} (h : Sys A w o) (hA : A (.node f v) = Part.none) (S : Nat → Prop) (hS : ∀ k, S k → o k = none) (P : Part) (hB : P.at_ w S) :
    ∃ o', Sys (fun x => if x = .node f v then P else A x) w o' ∧ (∀ k, S k → o' k = some (.node f v)) ∧ ∀ k, ¬ S k → o' k = o k :=
  Sys.claim h (.node f v) (fun x hx => if_neg hx) (h.noneOf hA) hS (by rw [if_pos rfl]; exact hB)
theorem all_parts (hg : σ.geo f = some g) (hn : σ.node f v = none) (hz : lst (g.ports v) (newS g v).G = List.replicate (g.ports v) 0) :
    (fun x => if x = Cmp.node f v then nodePart g v a 0 else (fun x => if x = Cmp.rings f v then ringsPart a.rb (g.ports v : Int) g.p.lanes (g.ports v * g.ws.length * g.p.room.toNat) (fun _ => []) else
      (fun x => if x = Cmp.arb f v then arbPart a.ab (g.ports v) (List.replicate (g.ports v) 0) (List.replicate (g.ports v) 0) a.ga a.aa else bParts σ f v g a (g.ports v) (g.ports v) 0 0 x) x) x) = (σ.set f v a (newS g v)).part := by
  have hz2 : lst (g.ports v) (newS g v).A = List.replicate (g.ports v) 0 := hz
  funext x
  cases x with
  | plan f' => rfl
  | fab f' => rfl
  | link f' h' => rfl
  | node f' v' =>
    by_cases e : f' = f ∧ v' = v
    · obtain ⟨rfl, rfl⟩ := e; simp [Sig.part, Sig.set, hg, newS]
    · have e2 : ¬ Cmp.node f' v' = Cmp.node f v := fun h => by injection h with h1 h2; exact e ⟨h1, h2⟩
      simp [e2, bParts, Sig.part, Sig.set, e]
  | rings f' v' =>
    by_cases e : f' = f ∧ v' = v
    · obtain ⟨rfl, rfl⟩ := e; simp [Sig.part, Sig.set, hg, newS]
    · have e2 : ¬ Cmp.rings f' v' = Cmp.rings f v := fun h => by injection h with h1 h2; exact e ⟨h1, h2⟩
      simp [e2, bParts, Sig.part, Sig.set, e]
  | arb f' v' =>
    by_cases e : f' = f ∧ v' = v
    · obtain ⟨rfl, rfl⟩ := e; simp [Sig.part, Sig.set, hg, hz, hz2]
    · have e2 : ¬ Cmp.arb f' v' = Cmp.arb f v := fun h => by injection h with h1 h2; exact e ⟨h1, h2⟩
      simp [e2, bParts, Sig.part, Sig.set, e]
  | host f' v' =>
    by_cases e : f' = f ∧ v' = v
    · obtain ⟨rfl, rfl⟩ := e; simp [bParts, Sig.part, Sig.set, hg, newS]
    · simp [bParts, Sig.part, Sig.set, e]
  | wheel f' v' i =>
    by_cases e : f' = f ∧ v' = v
    · obtain ⟨rfl, rfl⟩ := e; simp [bParts, Sig.part, Sig.set, hg, hn, newS]
    · simp [bParts, Sig.part, Sig.set, e]
  | snd f' v' i k =>
    by_cases e : f' = f ∧ v' = v
    · obtain ⟨rfl, rfl⟩ := e
      simp [bParts, Sig.part, Sig.set, hg, hn, newS]
      split <;> split <;> first | rfl | (exfalso; omega)
    · simp [bParts, Sig.part, Sig.set, e]
  | rcv f' v' i k =>
    by_cases e : f' = f ∧ v' = v
    · obtain ⟨rfl, rfl⟩ := e
      simp [bParts, Sig.part, Sig.set, hg, hn, newS]
      split <;> split <;> first | rfl | (exfalso; omega)
    · simp [bParts, Sig.part, Sig.set, e]
end
end Go.Proofs.YtebnflpanfmicaaGreatDoor
namespace Go.Proofs.YtebnflpanfmicaaGreatDoor
open Go.RowKit
abbrev lateLoad (n t : Nat) : Op := .load n (.tmp t)
theorem wp_mid {c : Code} {Q : Exit → Act → World → Prop} {T : Array Value} {W : World} (lo n : Nat) (P : World → Prop)
    (h1 : ∀ M : Act → World → Prop, (∀ a W', (∃ us : List Value, us.length = n ∧ a = ⟨(T.toList.take lo ++ us ++ T.toList.drop (lo + n)).toArray, []⟩) → P W' → M a W') → Code.wp Tryz.prog c (fun e a W' => match e with | .normal => M a W' | _ => False) ⟨T, []⟩ W)
    (h2 : ∀ (f : Nat → Value) W', P W' → Q .normal ⟨(T.toList.take lo ++ (List.range n).map f ++ T.toList.drop (lo + n)).toArray, []⟩ W') : Code.wp Tryz.prog c Q ⟨T, []⟩ W := by
  refine Code.wp_mono ?_ (h1 (fun a W' => (∃ us : List Value, us.length = n ∧ a = ⟨(T.toList.take lo ++ us ++ T.toList.drop (lo + n)).toArray, []⟩) ∧ P W') (fun a W' h1 h2 => ⟨h1, h2⟩))
  intro e a W' h
  cases e with
  | normal =>
    obtain ⟨⟨us, hl, rfl⟩, hP⟩ := h
    have e : us = (List.range n).map (fun i => us.getD i undef) := by
      apply List.ext_getElem?
      intro i
      by_cases hi : i < n
      · rw [List.getElem?_map, List.getElem?_range hi, Option.map_some, List.getD_eq_getElem?_getD, List.getElem?_eq_getElem (by omega)]; rfl
      · rw [List.getElem?_eq_none (by omega), List.getElem?_eq_none (by simp; omega)]
    rw [e]
    exact h2 _ W' hP
  | _ => exact h.elim
theorem mid_frame {A T : Array Value} {lo n : Nat} (h1 : A.toList.take lo = T.toList.take lo) (h2 : A.toList.drop (lo + n) = T.toList.drop (lo + n)) (h3 : ((A.toList.drop lo).take n).length = n) :
    ∃ us : List Value, us.length = n ∧ (⟨A, []⟩ : Act) = ⟨(T.toList.take lo ++ us ++ T.toList.drop (lo + n)).toArray, []⟩ := by
  refine ⟨_, h3, ?_⟩
  rw [← h1, ← h2]
  congr 1
  have e : A.toList = A.toList.take lo ++ (A.toList.drop lo).take n ++ A.toList.drop (lo + n) := by
    have e2 : A.toList.drop (lo + n) = (A.toList.drop lo).drop n := by rw [List.drop_drop]
    rw [List.append_assoc, e2, List.take_append_drop, List.take_append_drop]
  rw [← e]
end Go.Proofs.YtebnflpanfmicaaGreatDoor
