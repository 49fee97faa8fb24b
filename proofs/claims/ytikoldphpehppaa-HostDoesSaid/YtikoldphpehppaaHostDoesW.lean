/-
  HostDoes: the walk over the law.
-/
import Derived.Test.YtikoldphpehppaaHostNear
import Derived.Test.YtikoldphpehppaaRefNext
import Derived.Test.YtikoldphpehppaaHostNewW
import Derived.Deep.DeepCutAuto
import Derived.Deep.CutBlock
import Derived.Deep.RegionWith
import Derived.OpenShut
set_option linter.unusedVariables false
set_option linter.unusedSimpArgs false
namespace Go.Proofs.Ytikoldphpehppaa
open Go.RowKit

/-- The two hosts side by side: after at most N steps they are alike. -/
structure Both (w0 w : World) (T1 T2 E b1 b2 : Nat) (lanes queue : Int) (N : Nat) (S1 S2 : Nat → Prop) (q : Nat → List Pkt) (l g : List Pkt) : Prop where
  host : HostV w S1 T1 E b1 lanes queue q
  ref : RefV w S2 T2 E b2 lanes queue l g
  apart : ∀ k, S1 k → ¬ S2 k
  below : Below w0.heap.size w0 w
  new1 : ∀ k, S1 k → w0.heap.size ≤ k
  new2 : ∀ k, S2 k → w0.heap.size ≤ k
  came : q 3 = g
  waits : ∀ i, i < 3 → q i = ofLane l (i : Int)
  lane : ∀ x ∈ l, 0 ≤ x.lane ∧ x.lane < lanes
  room : ∀ i, i < 3 → ((q i).length : Int) ≤ queue
  lenL : l.length ≤ N
  lenG : g.length ≤ N

theorem HostV.lt {w : World} {S : Nat → Prop} {T E b : Nat} {lanes queue : Int} {q : Nat → List Pkt} (h : HostV w S T E b lanes queue q) : ∀ k, S k → k < w.heap.size := by
  obtain ⟨_, _, hr⟩ := h; exact hr.lt
theorem RefV.lt {w : World} {S : Nat → Prop} {T E b : Nat} {lanes queue : Int} {l g : List Pkt} (h : RefV w S T E b lanes queue l g) : ∀ k, S k → k < w.heap.size := by
  obtain ⟨_, _, hr⟩ := h; exact hr.lt

/-- Nothing of theirs has turned. -/
theorem Both.keeps {w0 w w' : World} {T1 T2 E b1 b2 : Nat} {lanes queue : Int} {N : Nat} {S1 S2 : Nat → Prop} {q : Nat → List Pkt} {l g : List Pkt} (h : Both w0 w T1 T2 E b1 b2 lanes queue N S1 S2 q l g) (k : Keeps (fun _ => False) w w') : Both w0 w' T1 T2 E b1 b2 lanes queue N S1 S2 q l g :=
  ⟨h.host.keeps k (fun _ _ h => h), h.ref.keeps k (fun _ _ h => h), h.apart, bel_false h.below k, h.new1, h.new2, h.came, h.waits, h.lane, h.room, h.lenL, h.lenG⟩
theorem Both.more {w0 w : World} {T1 T2 E b1 b2 : Nat} {lanes queue : Int} {N M : Nat} {S1 S2 : Nat → Prop} {q : Nat → List Pkt} {l g : List Pkt} (h : Both w0 w T1 T2 E b1 b2 lanes queue N S1 S2 q l g) (hM : N ≤ M) : Both w0 w T1 T2 E b1 b2 lanes queue M S1 S2 q l g :=
  ⟨h.host, h.ref, h.apart, h.below, h.new1, h.new2, h.came, h.waits, h.lane, h.room, Nat.le_trans h.lenL hM, Nat.le_trans h.lenG hM⟩

theorem HostNow.alloc {w w' : World} {S : Nat → Prop} {T E b : Nat} {lanes queue : Int} {q : Nat → List Pkt} (h : HostNow w w' S T E b lanes queue q) (o : Obj) : HostNow w (w'.alloc o) S T E b lanes queue q := by
  obtain ⟨S', v, k, s⟩ := h
  exact ⟨S', v.keeps (Keeps.alloc (fun _ => False) _ _) (fun _ _ h => h), k.trans (Keeps.alloc _ _ _), s⟩

/-- First the one has turned, then the other. -/
theorem Both.turned {w0 w w1 w2 : World} {T1 T2 E b1 b2 : Nat} {lanes queue : Int} {N M : Nat} {S1 S2 : Nat → Prop} {q q' : Nat → List Pkt} {l g l' g' : List Pkt} (h : Both w0 w T1 T2 E b1 b2 lanes queue N S1 S2 q l g)
    (h1 : HostNow w w1 S1 T1 E b1 lanes queue q') (h2 : RefV w1 S2 T2 E b2 lanes queue l g → RefNow w1 w2 S2 T2 E b2 lanes queue l' g')
    (came : q' 3 = g') (waits : ∀ i, i < 3 → q' i = ofLane l' (i : Int)) (lane : ∀ x ∈ l', 0 ≤ x.lane ∧ x.lane < lanes) (room : ∀ i, i < 3 → ((q' i).length : Int) ≤ queue) (lenL : l'.length ≤ M) (lenG : g'.length ≤ M) :
    ∃ S1' S2', Both w0 w2 T1 T2 E b1 b2 lanes queue M S1' S2' q' l' g' := by
  obtain ⟨S1', v1, k1, s1⟩ := h1
  have hr1 := h.ref.keeps k1 (fun k hk hk1 => h.apart k hk1 hk)
  obtain ⟨S2', v2, k2, s2⟩ := h2 hr1
  have lt1 := v1.lt
  have ap : ∀ k, S1' k → ¬ S2 k := fun k hk hk2 => (s1 k hk).elim (fun h1 => h.apart k h1 hk2) (fun h1 => by have := h.ref.lt k hk2; omega)
  have B1 := bel_keeps h.below h.new1 k1
  exact ⟨S1', S2', v1.keeps k2 ap, v2, fun k hk hk2 => (s2 k hk2).elim (fun h1 => ap k hk h1) (fun h1 => by have := lt1 k hk; omega),
    bel_keeps B1 h.new2 k2, bel_fresh h.below h.new1 s1, bel_fresh B1 h.new2 s2, came, waits, lane, room, lenL, lenG⟩

theorem ofLane_snoc (l : List Pkt) (x : Pkt) (m : Int) : ofLane (l ++ [x]) m = ofLane l m ++ (if (x.lane == m) = true then [x] else []) := by
  unfold ofLane
  rw [List.filter_append]; congr 1
  simp [List.filter_cons]
theorem lane_nat {a : Int} {i : Nat} (h : 0 ≤ a) : (a == (i : Int)) = true ↔ i = a.toNat := by
  rw [beq_iff_eq]; omega

/-- A packet more waits. -/
theorem Both.puts {w0 w w1 w2 : World} {T1 T2 E b1 b2 : Nat} {lanes queue : Int} {N : Nat} {S1 S2 : Nat → Prop} {q : Nat → List Pkt} {l g : List Pkt} (h : Both w0 w T1 T2 E b1 b2 lanes queue N S1 S2 q l g) (x : Pkt) (h0 : 0 ≤ x.lane) (hl : x.lane < lanes) (h3 : lanes ≤ 3)
    (hr : ((q x.lane.toNat).length : Int) < queue) (h1 : HostNow w w1 S1 T1 E b1 lanes queue (setAt q x.lane.toNat (q x.lane.toNat ++ [x]))) (h2 : RefV w1 S2 T2 E b2 lanes queue l g → RefNow w1 w2 S2 T2 E b2 lanes queue (l ++ [x]) g) :
    ∃ S1' S2' q' l' g', Both w0 w2 T1 T2 E b1 b2 lanes queue (N + 1) S1' S2' q' l' g' := by
  obtain ⟨S1', S2', hb⟩ := h.turned (M := N + 1) h1 h2 (by rw [setAt_other _ _ _ _ (by omega)]; exact h.came)
    (fun i hi => by
      rw [ofLane_snoc]
      by_cases e : i = x.lane.toNat
      · rw [if_pos ((lane_nat h0).2 e), e, setAt_same, h.waits _ (by omega)]
      · rw [if_neg (fun e' => e ((lane_nat h0).1 e')), setAt_other _ _ _ _ e, List.append_nil, h.waits _ hi])
    (fun y hy => by
      rcases List.mem_append.1 hy with hy | hy
      · exact h.lane y hy
      · simp at hy; subst hy; exact ⟨h0, hl⟩)
    (fun i hi => by
      by_cases e : i = x.lane.toNat
      · rw [e, setAt_same, List.length_append, List.length_singleton]; omega
      · rw [setAt_other _ _ _ _ e]; exact h.room i hi)
    (by rw [List.length_append, List.length_singleton]; have := h.lenL; omega) (by have := h.lenG; omega)
  exact ⟨S1', S2', _, _, _, hb⟩

/-- A packet more came. -/
theorem Both.ejects {w0 w w1 w2 : World} {T1 T2 E b1 b2 : Nat} {lanes queue : Int} {N : Nat} {S1 S2 : Nat → Prop} {q : Nat → List Pkt} {l g : List Pkt} (h : Both w0 w T1 T2 E b1 b2 lanes queue N S1 S2 q l g) (x : Pkt)
    (h1 : HostNow w w1 S1 T1 E b1 lanes queue (setAt q 3 (q 3 ++ [x]))) (h2 : RefV w1 S2 T2 E b2 lanes queue l g → RefNow w1 w2 S2 T2 E b2 lanes queue l (g ++ [x])) :
    ∃ S1' S2' q' l' g', Both w0 w2 T1 T2 E b1 b2 lanes queue (N + 1) S1' S2' q' l' g' := by
  obtain ⟨S1', S2', hb⟩ := h.turned (M := N + 1) h1 h2 (by rw [setAt_same, h.came])
    (fun i hi => by rw [setAt_other _ _ _ _ (by omega)]; exact h.waits i hi) h.lane
    (fun i hi => by rw [setAt_other _ _ _ _ (by omega)]; exact h.room i hi)
    (by have := h.lenL; omega) (by rw [List.length_append, List.length_singleton]; have := h.lenG; omega)
  exact ⟨S1', S2', _, _, _, hb⟩

/-- A packet is taken. -/
theorem Both.nexts {w0 w w1 w2 : World} {T1 T2 E b1 b2 : Nat} {lanes queue : Int} {N : Nat} {S1 S2 : Nat → Prop} {q : Nat → List Pkt} {l g l' r : List Pkt} (h : Both w0 w T1 T2 E b1 b2 lanes queue N S1 S2 q l g) (lane : Int) (x : Pkt) (h0 : 0 ≤ lane) (hl : lane < 3) (hx : ofLane l lane = x :: r)
    (h1 : HostNow w w1 S1 T1 E b1 lanes queue (setAt q lane.toNat r)) (h2 : RefV w1 S2 T2 E b2 lanes queue l g → RefNow w1 w2 S2 T2 E b2 lanes queue l' g)
    (e1 : ofLane l' lane = r) (e2 : ∀ m, m ≠ lane → ofLane l' m = ofLane l m) (e3 : l'.length + 1 = l.length) (e4 : ∀ y ∈ l', y ∈ l) :
    ∃ S1' S2' q' l' g', Both w0 w2 T1 T2 E b1 b2 lanes queue (N + 1) S1' S2' q' l' g' := by
  obtain ⟨S1', S2', hb⟩ := h.turned (M := N + 1) h1 h2 (by rw [setAt_other _ _ _ _ (by omega)]; exact h.came)
    (fun i hi => by
      by_cases e : i = lane.toNat
      · rw [e, setAt_same, Int.toNat_of_nonneg h0, e1]
      · rw [setAt_other _ _ _ _ e, e2 _ (by omega), h.waits i hi])
    (fun y hy => h.lane y (e4 y hy))
    (fun i hi => by
      by_cases e : i = lane.toNat
      · rw [e, setAt_same]
        have := h.room lane.toNat (by omega)
        rw [h.waits _ (by omega), Int.toNat_of_nonneg h0, hx] at this
        simp only [List.length_cons] at this; omega
      · rw [setAt_other _ _ _ _ e]; exact h.room i hi)
    (by have := h.lenL; omega) (by have := h.lenG; omega)
  exact ⟨S1', S2', _, _, _, hb⟩

theorem RefV.came {w : World} {S : Nat → Prop} {T E b : Nat} {lanes queue : Int} {l g : List Pkt} (h : RefV w S T E b lanes queue l g) :
    ∃ A c, w.cell? ⟨b, 3, none⟩ = some (.slice A g.length c) ∧ QS w E 4 (.slice A g.length c) g.length (pcells g) := by
  obtain ⟨v, hb, hr⟩ := h
  have hQ : QS w E 4 (v 1) g.length (pcells g) := hr.rows 1 (by omega)
  obtain ⟨A, c, hv, _⟩ := hQ.shape
  rw [hv] at hQ
  exact ⟨A, c, by rw [blk_cell hb]; show some (v 1) = _; rw [hv], hQ⟩

/-- No packet of a lane that isn't there. -/
theorem Both.noLane {w0 w : World} {T1 T2 E b1 b2 : Nat} {lanes queue : Int} {N : Nat} {S1 S2 : Nat → Prop} {q : Nat → List Pkt} {l g : List Pkt} (h : Both w0 w T1 T2 E b1 b2 lanes queue N S1 S2 q l g) (m : Int) (hm : m < 0 ∨ lanes ≤ m) : ofLane l m = [] := by
  unfold ofLane
  rw [List.filter_eq_nil_iff]
  intro x hx
  have := h.lane x hx
  simp; omega

theorem flat_get {α β : Type} {f : α → List β} {sz : Nat} (hf : ∀ a, (f a).length = sz) : ∀ (l : List α) (k : Nat) (a : α) (j : Nat) (u : β), l[k]? = some a → (f a)[j]? = some u → (l.flatMap f)[k * sz + j]? = some u
  | [], k, a, j, u, h, _ => by simp at h
  | b :: l, 0, a, j, u, h, hu => by
    simp at h; subst h
    rw [List.flatMap_cons, Nat.zero_mul, Nat.zero_add, List.getElem?_append_left (List.getElem?_eq_some_iff.1 hu).1]; exact hu
  | b :: l, k + 1, a, j, u, h, hu => by
    rw [List.flatMap_cons, List.getElem?_append_right (by rw [hf, Nat.add_mul]; omega), hf, show (k + 1) * sz + j - sz = k * sz + j by rw [Nat.add_mul]; omega]
    exact flat_get hf l k a j u (by simpa using h) hu

theorem Reads.op {w : World} {B n k : Nat} {v : Value} {l : List HOp} (h : Reads w B 7 v n (l.flatMap HOp.cells)) (o : HOp) (hx : l[k]? = some o) :
    ∃ g off c, v = .slice (some ⟨g, off, none⟩) n c ∧ g < B ∧ w.cell? ⟨g, off + k * 7, none⟩ = some (.int .u8 o.kind) ∧ w.cell? ⟨g, off + k * 7 + 1, none⟩ = some (.int .i64 o.x.src) ∧ w.cell? ⟨g, off + k * 7 + 2, none⟩ = some (.int .i64 o.x.dst) ∧ w.cell? ⟨g, off + k * 7 + 3, none⟩ = some (.int .i64 o.x.lane) ∧
      w.cell? ⟨g, off + k * 7 + 4, none⟩ = some (.int .u32 o.x.body) ∧ w.cell? ⟨g, off + k * 7 + 5, none⟩ = some (.int .i64 o.lane) ∧ w.cell? ⟨g, off + k * 7 + 6, none⟩ = some (.bool o.near) := by
  have hf : ∀ a : HOp, a.cells.length = 7 := fun _ => rfl
  obtain ⟨g, off, c, hv, _, hb, hc⟩ := h.at_ (by rw [flat_len hf]; have := (List.getElem?_eq_some_iff.1 hx).1; omega)
  exact ⟨g, off, c, hv, hb, hc _ _ (flat_get hf l k o 0 _ hx rfl), hc _ _ (flat_get hf l k o 1 _ hx rfl), hc _ _ (flat_get hf l k o 2 _ hx rfl), hc _ _ (flat_get hf l k o 3 _ hx rfl), hc _ _ (flat_get hf l k o 4 _ hx rfl), hc _ _ (flat_get hf l k o 5 _ hx rfl), hc _ _ (flat_get hf l k o 6 _ hx rfl)⟩

theorem i64_hi {a : Int} (h : (Lit.int .i64 a).wf = true) : a ≤ 9223372036854775807 := (bounds_i64 h).2

set_option maxRecDepth 100000 in
set_option maxHeartbeats 4000000 in
theorem hostDoes_walk (a0 a1 : Int) (v2 : Value) (W : World) (w0 : (Lit.int .i64 a0).wf = true) (w1 : (Lit.int .i64 a1).wf = true) (w2 : Arg Try.prog W 38 v2) :
    Calls Try.prog 5 #[.int .i64 a0, .int .i64 a1, v2] W fun e w' => e = .returned (.bool true) ∧ Below W.heap.size W w' := by
  obtain ⟨m, ops, hR, hl, hgood⟩ := ops_in w2
  clear w0 w1 w2
  obtain ⟨_, A, c, rfl, hmc, hcm, _⟩ := id hR
  have hm63 : (m : Int) ≤ 9223372036854775807 := by unfold maxLen at hcm; omega
  have hl' := Lib.hid hl
  have hgood' := Lib.hid hgood
  clear hl hcm hgood
  by_cases hbig : 100 < m
  · go_enter Try.func5, Try.ntmps5
    go_wp2_with fail
    refine (known_any _).mono ?_
    rintro e w3 ⟨rfl, k3⟩
    go_wp2_with fail
    go_ret
    exact ⟨by simp, bel_of_keeps k3⟩
  · by_cases hg : 1 ≤ a0 ∧ a0 ≤ 3 ∧ 1 ≤ a1 ∧ a1 ≤ 8
    · obtain ⟨h1, h2, h3, h4⟩ := hg
      go_enter Try.func5, Try.ntmps5
      go_wp2_with fail
      refine (known_any _).mono ?_
      rintro e w3 ⟨rfl, k3⟩
      go_wp2_with fail
      refine (hnew_ok a0 a1 _ h1 h2 h3 h4).mono ?_
      rintro e w4 ⟨rfl, hw4⟩
      have hh := HostV.new w3 a0 a1 55 27
      rw [← hw4] at hh
      have B4 : Below W.heap.size W w4 := by rw [hw4]; exact (bel_of_keeps k3).alloc k3.size _
      have hz4 : w4.heap.size = w3.heap.size + 1 := by rw [hw4]; simp
      clear hw4
      go_wp2_with fail
      refine (rnew_ok a0 a1 _ h1 h2 h3 h4).mono ?_
      rintro e w5 ⟨rfl, hw5⟩
      have hr := RefV.new w4 a0 a1 48 27
      rw [← hw5] at hr
      have hh5 : HostV w5 (fun k => k = w3.heap.size) 55 27 w3.heap.size a0 a1 (fun _ => []) := by rw [hw5]; exact hh.keeps (Keeps.alloc (fun _ => False) _ _) (fun _ _ h => h)
      have B5 : Below W.heap.size W w5 := by rw [hw5]; exact B4.alloc B4.size _
      obtain ⟨b1, hb1⟩ : ∃ b1, w3.heap.size = b1 := ⟨_, rfl⟩
      obtain ⟨b2, hb2⟩ : ∃ b2, w4.heap.size = b2 := ⟨_, rfl⟩
      have hw3 := k3.size
      have F5 : ∃ S1 S2 q l g, Both W w5 55 48 27 b1 b2 a0 a1 0 S1 S2 q l g := by
        refine ⟨_, _, _, [], [], hb1 ▸ hh5, hb2 ▸ hr, fun k hk hk2 => ?_, B5, fun k hk => ?_, fun k hk => ?_, rfl, fun i hi => rfl, fun x hx => (by cases hx), fun i hi => ?_, Nat.le_refl _, Nat.le_refl _⟩
        · have e1 : k = b1 := hk
          have e2 : k = b2 := hk2
          omega
        · have e1 : k = b1 := hk
          omega
        · have e2 : k = b2 := hk
          omega
        · show (0 : Int) ≤ a1
          omega
      rw [hb1, hb2]
      clear hw5 hh hr hh5 B4 hz4 hb1 hb2 hw3
      go_wp2_with fail
      go_loopw [9] (fun i wr => ∃ k : Nat, k ≤ m ∧ i = .int .i64 k ∧ ∃ S1 S2 q l g, Both W wr 55 48 27 b1 b2 a0 a1 k S1 S2 q l g) (fun i wr => m - (intOf i).toNat)
      case atStart => exact ⟨0, by omega, rfl, F5⟩
      case round =>
        obtain ⟨k, hk, rfl, S1, S2, q, l, g, hB⟩ := hrel
        clear F5
        by_cases hlt : k < m
        · obtain ⟨o, ho⟩ : ∃ o, ops[k]? = some o := ⟨_, List.getElem?_eq_getElem (by rw [hl'.out]; exact hlt)⟩
          have gd := hgood'.out o (List.mem_of_getElem? ho)
          obtain ⟨gg, of, d, e1, gB, p0, p1, p2, p3, p4, p5, p6⟩ := (hR.below hB.below).op o ho
          injection e1 with e1 _ e1'
          subst e1; subst e1'
          have hlt' : (k : Int) < m := by omega
          clear ho
          go_wp2_with fail
          refine (near_any o _ (i64_hi gd.x.lane) (i64_hi gd.lane)).mono ?_
          rintro e w6 ⟨rfl, k6⟩
          have hB6 := hB.keeps k6
          have hkd : 0 ≤ (nearOp o).kind ∧ (nearOp o).kind ≤ 255 := by
            have := bounds_u8 gd.kind
            unfold nearOp; split <;> exact this
          clear hB p0 p1 p2 p3 p4 p5 p6 gd
          generalize nearOp o = o at *
          obtain ⟨kd, ⟨xs, xd, xl, xb⟩, ln, nr⟩ := o
          obtain ⟨kd0, kd1⟩ : 0 ≤ kd ∧ kd ≤ 255 := hkd
          have hB7 := hB6.keeps (Keeps.alloc _ w6 (.cells #[.int .u8 kd, .int .i64 xs, .int .i64 xd, .int .i64 xl, .int .u32 xb, .int .i64 ln, .bool nr] 42))
          go_upto_block 2 with fail
          go_cut [11] (fun ok wx => ok = .bool true ∧ ∃ S1 S2 q l g, Both W wx 55 48 27 b1 b2 a0 a1 (k + 1) S1 S2 q l g)
          case first =>
            have hop := blk_new w6 (.cells #[.int .u8 kd, .int .i64 xs, .int .i64 xd, .int .i64 xl, .int .u32 xb, .int .i64 ln, .bool nr] 42)
            have hS1 := Lib.hid hB6.host.lt
            have hS2 := Lib.hid hB6.ref.lt
            have hR7 := Lib.hid (p := ∀ w1 : World, (∃ q1, HostNow (w6.alloc (.cells #[.int .u8 kd, .int .i64 xs, .int .i64 xd, .int .i64 xl, .int .u32 xb, .int .i64 ln, .bool nr] 42)) w1 S1 55 27 b1 a0 a1 q1) →
                RefV w1 S2 48 27 b2 a0 a1 l g ∧ w1.heap[w6.heap.size]? = some (.cells #[.int .u8 kd, .int .i64 xs, .int .i64 xd, .int .i64 xl, .int .u32 xb, .int .i64 ln, .bool nr] 42 (0, 0)))
              (fun w1 ⟨q1, S1', v1, k1, s1⟩ => ⟨hB7.ref.keeps k1 (fun i hi h => hB7.apart i h hi), blk_keeps k1 hop (fun h => Nat.lt_irrefl _ (hS1.out _ h))⟩)
            have hB7' := Lib.hid hB7
            by_cases hk3 : kd % 5 = 3
            · have t3 : (kd % 5 == 3) = true := by simp [hk3]
              clear hk3
              rcases hx : ofLane l ln with _ | ⟨x, r⟩
              · have hx' := Lib.hid hx
                have he : ln < 0 ∨ (0 ≤ ln ∧ a0 ≤ ln) ∨ (0 ≤ ln ∧ ln < a0 ∧ q ln.toNat = []) := by
                  rcases Int.lt_or_le ln 0 with h | h
                  · exact .inl h
                  · rcases Int.lt_or_le ln a0 with h' | h'
                    · exact .inr (.inr ⟨h, h', by rw [hB7.waits _ (by omega), Int.toNat_of_nonneg h, hx]⟩)
                    · exact .inr (.inl ⟨h, h'⟩)
                have he' := Lib.hid he
                clear hx he hop
                go_wp2_with fail
                refine (next_empty b1 ln a0 a1 _ hB7.host h2 he'.out).mono ?_
                rintro e w7 ⟨rfl, k7⟩
                obtain ⟨hr7, ho7⟩ := hR7.out w7 ⟨q, S1, hB7.host.keeps k7 (fun _ _ h => h), k7.mono (fun _ _ h => h.elim), fun i hi => .inl hi⟩
                have hb7 := blk_lt ho7
                have c75 := blk_cell ho7 5
                simp only [List.getElem?_toArray] at c75
                clear ho7
                go_wp2_with fail
                refine (rnext_none b2 ln a0 a1 _ (hr7.keeps (Keeps.alloc (fun _ => False) _ _) (fun _ _ h => h)) (by have := hB7'.out.lenL; omega) hx'.out).mono ?_
                rintro e w8 ⟨rfl, k8⟩
                have hbx := blk_keeps k8 (blk_new w7 (.cells #[.int .i64 0, .int .i64 0, .int .i64 0, .int .u32 0] 27)) (fun h => h)
                have hb8 := blk_lt hbx
                have d0 := blk_cell hbx 0
                have d1 := blk_cell hbx 1
                have d2 := blk_cell hbx 2
                have d3 := blk_cell hbx 3
                simp only [List.getElem?_toArray] at d0 d1 d2 d3
                clear hbx
                go_wp2_with fail
                go_meet
                exact ⟨rfl, S1, S2, q, l, g, (((hB7'.out.keeps k7).keeps ((Keeps.alloc _ _ _).trans k8)).keeps (Keeps.alloc _ _ _)).more (by omega)⟩
              · have hx' := Lib.hid hx
                have he : 0 ≤ ln ∧ ln < a0 := by
                  rcases Int.lt_or_le ln 0 with h | h
                  · rw [hB7.noLane ln (.inl h)] at hx; cases hx
                  · rcases Int.lt_or_le ln a0 with h' | h'
                    · exact ⟨h, h'⟩
                    · rw [hB7.noLane ln (.inr h')] at hx; cases hx
                obtain ⟨he0, he1⟩ := he
                have hq := Lib.hid (show q ln.toNat = x :: r by rw [hB7.waits _ (by omega), Int.toNat_of_nonneg he0, hx])
                clear hx hop
                go_wp2_with fail
                refine (next_ok b1 ln a0 a1 _ hB7.host h2 he0 he1 x r hq.out).mono ?_
                rintro e w7 ⟨rfl, hn7⟩
                obtain ⟨hr7, ho7⟩ := hR7.out w7 ⟨_, hn7⟩
                have hb7 := blk_lt ho7
                have c75 := blk_cell ho7 5
                simp only [List.getElem?_toArray] at c75
                have hS7 := Lib.hid hr7.lt
                clear ho7
                go_wp2_with fail
                refine (rnext_ok b2 ln a0 a1 _ (hr7.keeps (Keeps.alloc (fun _ => False) _ _) (fun _ _ h => h)) (by have := hB7'.out.lenL; omega) x r hx'.out).mono ?_
                rintro e w8 ⟨rfl, l2, hn8, e81, e82, e83, e84⟩
                have hbx := blk_keeps (by obtain ⟨_, _, k8, _⟩ := hn8; exact k8) (blk_new w7 (pktObj x 27)) (fun h => Nat.lt_irrefl _ (hS7.out _ h))
                have hb8 := blk_lt hbx
                have d0 := blk_cell hbx 0
                have d1 := blk_cell hbx 1
                have d2 := blk_cell hbx 2
                have d3 := blk_cell hbx 3
                simp only [List.getElem?_toArray] at d0 d1 d2 d3
                have hfin := Lib.hid (hB7'.out.nexts ln x he0 (by omega) hx'.out (HostNow.alloc hn7 (pktObj x 27)) (fun _ => hn8) e81 e82 e83 e84)
                clear hbx e81 e82 e83 e84
                go_wp2_with fail
                go_meet
                obtain ⟨T1, T2, q2, l3, g3, hB'⟩ := hfin.out
                exact ⟨rfl, T1, T2, q2, l3, g3, hB'.keeps (Keeps.alloc _ _ _)⟩
            · have t3 : (kd % 5 == 3) = false := by simp [hk3]
              by_cases hk4 : kd % 5 = 4
              · have t4 : (kd % 5 == 4) = true := by simp [hk4]
                clear hk3 hk4 hop
                go_wp2_with fail
                refine (eject_ok b1 ⟨xs, xd, xl, xb⟩ a0 a1 _ hB7.host (by rw [hB7.came]; have := hB7.lenG; omega)).mono ?_
                rintro e w7 ⟨rfl, hn7⟩
                obtain ⟨hr7, ho7⟩ := hR7.out w7 ⟨_, hn7⟩
                have c71 := blk_cell ho7 1
                have c72 := blk_cell ho7 2
                have c73 := blk_cell ho7 3
                have c74 := blk_cell ho7 4
                simp only [List.getElem?_toArray] at c71 c72 c73 c74
                clear ho7
                go_wp2_with fail
                refine (reject_ok b2 ⟨xs, xd, xl, xb⟩ a0 a1 _ hr7 (by have := hB7'.out.lenG; omega)).mono ?_
                rintro e w8 ⟨rfl, hn8⟩
                have hfin := Lib.hid (hB7'.out.ejects ⟨xs, xd, xl, xb⟩ hn7 (fun _ => hn8))
                go_wp2_with fail
                go_meet
                exact ⟨rfl, hfin.out⟩
              · have t4 : (kd % 5 == 4) = false := by simp [hk4]
                clear hk3 hk4
                have hB8 := hB7.keeps (Keeps.drew _ _)
                have hR8 := Lib.hid (p := ∀ w1 : World, (∃ q1, HostNow (w6.alloc (.cells #[.int .u8 kd, .int .i64 xs, .int .i64 xd, .int .i64 xl, .int .u32 xb, .int .i64 ln, .bool nr] 42)).drew w1 S1 55 27 b1 a0 a1 q1) →
                    RefV w1 S2 48 27 b2 a0 a1 l g ∧ w1.heap[w6.heap.size]? = some (.cells #[.int .u8 kd, .int .i64 xs, .int .i64 xd, .int .i64 xl, .int .u32 xb, .int .i64 ln, .bool nr] 42 (0, 0)))
                  (fun w1 ⟨q1, S1', v1, k1, s1⟩ => ⟨hB8.ref.keeps k1 (fun i hi h => hB8.apart i h hi), blk_keeps k1 (show (w6.alloc (.cells #[.int .u8 kd, .int .i64 xs, .int .i64 xd, .int .i64 xl, .int .u32 xb, .int .i64 ln, .bool nr] 42)).drew.heap[w6.heap.size]? = _ from hop) (fun h => Nat.lt_irrefl _ (hS1.out _ h))⟩)
                have hB8' := Lib.hid hB8
                clear hop
                by_cases hin : 0 ≤ xl ∧ xl < a0
                · obtain ⟨hx0, hx1⟩ := hin
                  by_cases hroom : ((q xl.toNat).length : Int) < a1
                  · have HP := Lib.hid (put_ok b1 ⟨xs, xd, xl, xb⟩ a0 a1 _ hB8.host h2 h4 hx0 hx1 hroom)
                    have hroom' := Lib.hid (show ((ofLane l xl).length : Int) < a1 by rw [← Int.toNat_of_nonneg hx0, ← hB8.waits _ (by omega)]; exact hroom)
                    have hr' := Lib.hid hroom
                    clear hroom hB8
                    go_wp2_with fail
                    go_region_with (first
                      | (go_at_call 13; refine HP.out.mono ?_; rintro e w7 ⟨rfl, hn7⟩; obtain ⟨hr7, ho7⟩ := hR8.out w7 ⟨_, hn7⟩; have c71 := blk_cell ho7 1; have c72 := blk_cell ho7 2; have c73 := blk_cell ho7 3; have c74 := blk_cell ho7 4; simp only [List.getElem?_toArray] at c71 c72 c73 c74; clear ho7)
                      | (go_at_call 19; refine (rput_ok b2 ⟨xs, xd, xl, xb⟩ a0 a1 _ hr7 hx0 hx1 (by have := hB8'.out.lenL; omega) hroom'.out).mono ?_; rintro e w8 ⟨rfl, hn8⟩))
                    all_goals
                      go_wp2_with fail
                      go_meet
                      exact ⟨rfl, hB8'.out.puts ⟨xs, xd, xl, xb⟩ hx0 hx1 h2 hr'.out hn7 (fun _ => hn8)⟩
                  · have hfull : ((q xl.toNat).length : Int) = a1 := by have := hB8.room xl.toNat (by omega); omega
                    have HP := Lib.hid (put_full b1 ⟨xs, xd, xl, xb⟩ a0 a1 _ hB8.host h2 hx0 hx1 hfull)
                    have hroom' := Lib.hid (show a1 ≤ ((ofLane l xl).length : Int) by rw [← Int.toNat_of_nonneg hx0, ← hB8.waits _ (by omega)]; omega)
                    have hB8v := Lib.hid hB8.host
                    clear hroom hfull hB8
                    go_wp2_with fail
                    go_region_with (first
                      | (go_at_call 13; refine HP.out.mono ?_; rintro e w7 ⟨rfl, k7⟩; obtain ⟨hr7, ho7⟩ := hR8.out w7 ⟨q, S1, hB8v.out.keeps k7 (fun _ _ h => h), k7.mono (fun _ _ h => h.elim), fun i hi => .inl hi⟩; have c71 := blk_cell ho7 1; have c72 := blk_cell ho7 2; have c73 := blk_cell ho7 3; have c74 := blk_cell ho7 4; simp only [List.getElem?_toArray] at c71 c72 c73 c74; clear ho7)
                      | (go_at_call 19; refine (rput_full b2 ⟨xs, xd, xl, xb⟩ a0 a1 _ hr7 hx0 hx1 (by have := hB8'.out.lenL; omega) hroom'.out).mono ?_; rintro e w8 ⟨rfl, k8⟩))
                    all_goals
                      go_wp2_with fail
                      go_meet
                      exact ⟨rfl, S1, S2, q, l, g, ((hB8'.out.keeps k7).keeps k8).more (by omega)⟩
                · have hbad : xl < 0 ∨ (0 ≤ xl ∧ a0 ≤ xl) := by omega
                  have hbad' := Lib.hid hbad
                  have HP := Lib.hid (put_bad b1 ⟨xs, xd, xl, xb⟩ a0 a1 _ hB8.host hbad)
                  have hB8v := Lib.hid hB8.host
                  clear hbad hin hB8
                  go_wp2_with fail
                  go_region_with (first
                    | (go_at_call 13; refine HP.out.mono ?_; rintro e w7 ⟨rfl, k7⟩; obtain ⟨hr7, ho7⟩ := hR8.out w7 ⟨q, S1, hB8v.out.keeps k7 (fun _ _ h => h), k7.mono (fun _ _ h => h.elim), fun i hi => .inl hi⟩; have c71 := blk_cell ho7 1; have c72 := blk_cell ho7 2; have c73 := blk_cell ho7 3; have c74 := blk_cell ho7 4; simp only [List.getElem?_toArray] at c71 c72 c73 c74; clear ho7)
                    | (go_at_call 19; refine (rput_arg b2 ⟨xs, xd, xl, xb⟩ a0 a1 _ hr7 hbad'.out).mono ?_; rintro e w8 ⟨rfl, k8⟩))
                  all_goals
                    go_wp2_with fail
                    go_meet
                    exact ⟨rfl, S1, S2, q, l, g, ((hB8'.out.keeps k7).keeps k8).more (by omega)⟩
          case rest =>
            obtain ⟨rfl, S1', S2', q', l', g', hB8⟩ := hcut
            clear hB6 hB7
            have hB9 := hB8.keeps (Keeps.drew _ wc)
            obtain ⟨A9, c9, hc9, hQ9⟩ := hB9.ref.came
            have hg3 := hB9.came
            have hlG : g'.length ≤ 1000000000 := by have := hB9.lenG; omega
            have HR := Lib.hid (p := ∀ w7, Keeps (fun _ => False) wc.drew w7 → Reads w7 w7.heap.size 4 (.slice A9 g'.length c9) g'.length (pcells g') ∧ w7.cell? ⟨b2, 3, none⟩ = some (.slice A9 g'.length c9))
              (fun w7 k7 => ⟨(hQ9.keeps k7 (fun _ _ h => h)).reads (by decide), k7.cell hc9 (fun h => h)⟩)
            have HG := Lib.hid (got_as b1 a0 a1 _ hB9.host g' g'.length hg3 rfl hlG)
            have hc9' : wc.cell? ⟨b2, 3, none⟩ = some (.slice A9 g'.length c9) := hc9
            have hB9' := Lib.hid hB9
            clear hg3 hQ9 hB8 hB9 hc9
            go_wp2_with fail
            go_cut [112] (fun s wx => s = .bool false ∧ Both W wx 55 48 27 b1 b2 a0 a1 (k + 1) S1' S2' q' l' g')
            case first =>
              go_region_with (first
                | (go_at_call 12; refine HG.out.mono ?_; rintro e w7 ⟨A7, c7, rfl, hq7, k7, _⟩; obtain ⟨R7, d7⟩ := HR.out w7 k7)
                | (go_at_call 20; refine (same_yes _ _ _ g' _ (hq7.reads (by decide)) R7 hlG).mono ?_; rintro e w8 ⟨rfl, k8⟩))
              all_goals
                go_wp2_with fail
                go_meet
                exact ⟨rfl, (hB9'.out.keeps k7).keeps k8⟩
            case rest =>
              obtain ⟨rfl, hB10⟩ := hcut
              have hroom := hB10.lenL
              go_wp2_with fail
              go_loopw [16] (fun i wr => ∃ j : Nat, j ≤ 3 ∧ i = .int .i64 j ∧ Both W wr 55 48 27 b1 b2 a0 a1 (k + 1) S1' S2' q' l' g') (fun i wr => 3 - (intOf i).toNat)
              case atStart => exact ⟨0, by omega, rfl, hB10⟩
              case round =>
                obtain ⟨j, hj, rfl, hB11⟩ := hrel
                clear hB10
                by_cases hj3 : j < 3
                · by_cases hja : (j : Int) < a0
                  · have hw1 := Lib.hid (waits_as b1 j a0 a1 _ hB11.host (by omega) hja h2 (ofLane l' j).length (by rw [Int.toNat_natCast, hB11.waits j hj3]))
                    have hw2 := Lib.hid (rwaits_ok b2 j a0 a1 _ hB11.ref (by omega))
                    generalize ((ofLane l' (j : Int)).length : Int) = mm at *
                    go_wp2_with fail
                    refine hw1.out.mono ?_
                    rintro e w7 ⟨rfl, rfl⟩
                    go_wp2_with fail
                    refine hw2.out.mono ?_
                    rintro e w7 ⟨rfl, rfl⟩
                    go_wp2_with fail
                    go_roundw
                    case rel => exact ⟨j + 1, by omega, by go_num, hB11⟩
                    case measure => simp [intOf]; omega
                  · go_wp2_with fail
                    refine (waits_no b1 j a0 _ hB11.host.lanes (.inr ⟨by omega, by omega⟩)).mono ?_
                    rintro e w7 ⟨rfl, rfl⟩
                    go_wp2_with fail
                    go_roundw
                    case rel => exact ⟨j + 1, by omega, by go_num, hB11⟩
                    case measure => simp [intOf]; omega
                · obtain rfl : j = 3 := by omega
                  go_wp2_with fail
                  go_roundw
                  case rel => exact ⟨k + 1, by omega, by go_num, _, _, _, _, _, hB11⟩
                  case measure => simp [intOf]; omega
        · obtain rfl : m = k := by omega
          go_wp2_with fail
          refine (waits_no _ (-1) a0 _ hB.host.lanes (.inl (by decide))).mono ?_
          rintro e w7 ⟨rfl, rfl⟩
          go_wp2_with fail
          go_ret
          exact ⟨by simp, hB.below⟩
    · have hb : a0 < 1 ∨ (1 ≤ a0 ∧ 3 < a0) ∨ (1 ≤ a0 ∧ a0 ≤ 3 ∧ a1 < 1) ∨ (1 ≤ a0 ∧ a0 ≤ 3 ∧ 1 ≤ a1 ∧ 8 < a1) := by omega
      clear hg
      have hb' := Lib.hid hb
      clear hb
      go_enter Try.func5, Try.ntmps5
      go_wp2_with fail
      refine (known_any _).mono ?_
      rintro e w3 ⟨rfl, k3⟩
      go_wp2_with fail
      refine (hnew_bad a0 a1 _ hb'.out).mono ?_
      rintro e w4 ⟨rfl, rfl⟩
      go_wp2_with fail
      refine (rnew_bad a0 a1 _ hb'.out).mono ?_
      rintro e w4 ⟨rfl, rfl⟩
      go_wp2_with fail
      go_ret
      exact ⟨by simp, bel_of_keeps k3⟩

end Go.Proofs.Ytikoldphpehppaa
