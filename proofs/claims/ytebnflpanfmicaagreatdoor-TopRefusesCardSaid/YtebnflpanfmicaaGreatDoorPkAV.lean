/-
  Part 22 of the proof: IslipRep, TopParts, TopLift.
-/
import Derived.Test.YtebnflpanfmicaaGreatDoorPkAE
import Derived.Test.YtebnflpanfmicaaGreatDoorPkAM
import Derived.Laws.CopyOwn
import Derived.Test.YtebnflpanfmicaaGreatDoorPkAU
import Derived.Test.YtebnflpanfmicaaGreatDoorPkAH
import Derived.Test.YtebnflpanfmicaaGreatDoorPkAO
set_option linter.unusedVariables false
set_option linter.unusedSimpArgs false
set_option linter.unusedSectionVars false
namespace Go.Proofs.YtebnflpanfmicaaGreatDoor
open Go.RowKit
theorem and_u64 : ∀ k : Nat, k ≤ 16 → bits .and .u64 (k : Int) 4294967295 = (k : Int) := by decide +kernel
theorem mul64_calls (n : Nat) (h : n ≤ 16) (w : World) :
    Calls Tryz.prog 240 #[.int .u64 1, .int .u64 n] w fun e w' => e = .returned (.tuple #[.int .u64 0, .int .u64 n]) ∧ w' = w := by
  have h1 : bits .and .u64 1 4294967295 = 1 := and_u64 1 (by decide)
  have h2 := and_u64 n h
  have h3 : (n : Int) / 4294967296 = 0 := by omega
  have h4 : (n : Int) / 2 ^ 32 = 0 := by omega
  have h0 : bits .and .u64 0 4294967295 = 0 := and_u64 0 (by decide)
  go_enter Tryz.func240, Tryz.ntmps240
  go_wp2_with fail
  go_ret2
  simp_all
theorem mul_calls (n : Nat) (h : n ≤ 16) (w : World) :
    Calls Tryz.prog 211 #[.int .u64 1, .int .u64 n] w fun e w' => e = .returned (.tuple #[.int .u64 0, .int .u64 n]) ∧ w' = w := by
  go_enter Tryz.func211, Tryz.ntmps211
  go_wp2_with fail
  refine (mul64_calls n h _).mono ?_
  rintro e w' ⟨rfl, rfl⟩
  go_wp2_with fail
  go_ret2
  exact ⟨rfl, rfl⟩
theorem wrap_nat (x : Nat) (h : x ≤ 1000) : IntKind.i64.wrap (x : Int) = (x : Int) := by simp [IntKind.wrap, IntKind.bits, IntKind.signed]; omega
def rp (n j : Nat) : List Value := List.replicate j (.int .i64 (-1)) ++ List.replicate (n - j) (.int .i64 0)
theorem rp_length {n j : Nat} (h : j ≤ n) : (rp n j).length = n := by simp [rp]; omega
theorem rp_splice {n j c : Nat} (h : j + c ≤ n) : splice (rp n j) j (List.replicate c (.int .i64 (-1))) = rp n (j + c) := by
  unfold splice rp
  rw [List.take_append_of_le_length (by simp), List.take_of_length_le (by simp), List.length_replicate, ← List.append_assoc, List.replicate_append_replicate, List.drop_append, List.drop_of_length_le (by simp), List.nil_append, List.drop_replicate, List.length_replicate]
  congr 2
  omega
theorem rp_at {n j i : Nat} (h : i < j) : (rp n j)[i]? = some (.int .i64 (-1)) := by
  unfold rp
  rw [List.getElem?_append_left (by simpa using h)]
  simp [h]
theorem made_rp (n : Nat) : madeCells #[.int .i64 0] n = (rp n 0).toArray := by
  apply Array.ext
  · simp [madeCells, rp]
  · intro i h1 h2
    simp [madeCells, Nat.mod_one, rp]
theorem rp_all (n : Nat) : rp n n = List.replicate n (.int .i64 (-1)) := by simp [rp]
set_option maxRecDepth 100000 in
set_option maxHeartbeats 2000000 in
theorem repeat_calls (k n : Nat) (h1 : 1 ≤ n) (h2 : n ≤ 16) (w : World) (hk : w.cell? ⟨k, 0, none⟩ = some (.int .i64 (-1))) :
    Calls Tryz.prog 176 #[.slice (some ⟨k, 0, none⟩) 1 1, .int .i64 n] w fun e w' => ∃ m, e = .returned (.slice (some ⟨m, 0, none⟩) n n) ∧ w'.heap[m]? = some (.cells (rp n n).toArray 3 (0, 0)) ∧ Keeps (fun _ => False) w w' ∧ w.heap.size ≤ m := by
  have hms := fun w => run_make_row' (P := Tryz.prog) 35 3 (.int .i64 0) 8 Tryz.underlying35 info_int rfl .i64 .i64 n (by omega) (by omega) w
  have hn0 : ¬ (n : Int) < 0 := by omega
  have hnb : ¬ (9223372036854775807 : Int) < (n : Int) := by omega
  have hw : IntKind.u64.wrap (n : Int) = (n : Int) := by simp [IntKind.wrap, IntKind.bits, IntKind.signed]; omega
  have hw2 : IntKind.i64.wrap (n : Int) = (n : Int) := by simp [IntKind.wrap, IntKind.bits, IntKind.signed]; omega
  have hkl := World.block_lt_of_cell? _ _ hk
  go_enter Tryz.func176, Tryz.ntmps176
  go_wp2_with fail
  refine (mul_calls n h2 _).mono ?_
  rintro e w2 ⟨rfl, hw2'⟩
  subst w2
  have hcp := run_copy_row Tryz.prog (w.alloc (.cells (madeCells #[.int .i64 0] n) 3)) 35 35 3 3 w.heap.size 0 n n ⟨k, 0, none⟩ 1 1 (rp n 0).toArray 3 (List.replicate 1 (.int .i64 (-1)))
    Tryz.underlying35 rfl (by rw [made_rp]; exact blk_new _ _) (by show 1 = min 1 n; omega)
    (fun j v hj => by
      obtain ⟨h, hv⟩ := List.getElem?_eq_some_iff.1 hj
      rw [List.length_replicate] at h
      obtain rfl : j = 0 := by omega
      subst hv
      exact (Keeps.alloc (fun _ => False) w _).cell hk (fun h => h)) (by simp [rp_length]; omega) (by simp [Value.oneCell'])
  rw [show ((rp n 0).toArray.toList.take 0 ++ List.replicate 1 (Value.int .i64 (-1)) ++ (rp n 0).toArray.toList.drop (0 + (List.replicate 1 (Value.int .i64 (-1))).length)) = rp n 1 from rp_splice (n := n) (j := 0) (c := 1) h1] at hcp
  have hM : ((w.alloc (.cells (madeCells #[.int .i64 0] n) 3)).setRow w.heap.size (rp n 1).toArray).heap[w.heap.size]? = some (.cells (rp n 1).toArray 3 (0, 0)) := setRow_heap _ _ _ _ _ _ (blk_new _ _)
  have hK : Keeps (fun _ => False) w ((w.alloc (.cells (madeCells #[.int .i64 0] n) 3)).setRow w.heap.size (rp n 1).toArray) := by
    refine (Keeps.alloc (fun _ => False) w _).then (G := fun i => i = w.heap.size) ⟨rfl, rfl, rfl, by simp [World.setRow], fun i hi hne => setRow_other _ _ _ _ hne⟩ (fun i hi h => by omega)
  go_wp2_with fail
  clear hcp hms hw hw2 hk
  generalize (w.alloc (.cells (madeCells #[.int .i64 0] n) 3)).setRow w.heap.size (rp n 1).toArray = W0 at hM hK ⊢
  go_loopw [8] (fun s wr => ∃ j : Nat, 1 ≤ j ∧ j ≤ n ∧ s = .int .i64 (j : Int) ∧ Keeps (fun _ => False) w wr ∧ wr.heap[w.heap.size]? = some (.cells (rp n j).toArray 3 (0, 0))) (fun s _ => n - (intOf s).toNat)
  case atStart => exact ⟨1, Nat.le_refl _, h1, rfl, hK, hM⟩
  case round =>
    obtain ⟨j, hj1, hjn, rfl, hk, hm⟩ := hrel
    clear hK hM
    by_cases hlt : j < n
    · have hlt' : (j : Int) < (n : Int) := by omega
      have hle' : (j : Int) ≤ (n : Int) := by omega
      have hj0 : (0 : Int) ≤ (j : Int) := by omega
      obtain ⟨c, hc, hc0, hcn⟩ : ∃ c : Nat, min j (n - j) = c ∧ 0 < c ∧ j + c ≤ n := ⟨_, rfl, by omega, by omega⟩
      have hcp := run_copy_row Tryz.prog wr.drew 35 35 3 3 w.heap.size j (n - j) (n - j) ⟨w.heap.size, 0, none⟩ j n (rp n j).toArray 3 (List.replicate c (.int .i64 (-1)))
        Tryz.underlying35 rfl hm (by rw [List.length_replicate]; exact hc.symm)
        (fun i v hi => by
          obtain ⟨h, hv⟩ := List.getElem?_eq_some_iff.1 hi
          rw [List.length_replicate] at h
          rw [List.getElem_replicate] at hv
          subst hv
          have hb : wr.drew.heap[w.heap.size]? = some (.cells (rp n j).toArray 3 (0, 0)) := hm
          rw [Addr.add_lit, blk_cell hb, Nat.zero_add]
          simp only [List.getElem?_toArray]
          exact rp_at (by omega)) (by simp [rp_length hjn]; omega) (by simp [Value.oneCell'])
      rw [show ((rp n j).toArray.toList.take j ++ List.replicate c (Value.int .i64 (-1)) ++ (rp n j).toArray.toList.drop (j + (List.replicate c (Value.int .i64 (-1))).length)) = rp n (j + c) by rw [← rp_splice hcn, splice, List.append_assoc]] at hcp
      simp only [List.length_replicate] at hcp
      have hwr : IntKind.i64.wrap ((j : Int) + (c : Int)) = (j : Int) + (c : Int) := wrap_nat (j + c) (by omega)
      have hM2 : (wr.drew.setRow w.heap.size (rp n (j + c)).toArray).heap[w.heap.size]? = some (.cells (rp n (j + c)).toArray 3 (0, 0)) := setRow_heap _ _ _ _ _ _ hm
      have hK2 : Keeps (fun _ => False) w (wr.drew.setRow w.heap.size (rp n (j + c)).toArray) := by
        refine hk.then (G := fun i => i = w.heap.size) ⟨rfl, rfl, rfl, by rw [World.setRow, Array.size_modify]; exact Nat.le_refl _, fun i hi hne => setRow_other _ _ _ _ hne⟩ (fun i hi h => by omega)
      go_wp2_with fail
      go_region
      all_goals (go_wp2_with fail; go_roundw)
      all_goals first | exact ⟨j + c, by omega, hcn, rfl, hK2, hM2⟩ | (simp [intOf]; omega)
    · obtain rfl : j = n := by omega
      have hlt' : ¬ (j : Int) < (j : Int) := by omega
      go_wp2_with fail
      go_ret
      exact ⟨_, rfl, hm, hk, Nat.le_refl _⟩
end Go.Proofs.YtebnflpanfmicaaGreatDoor
namespace Go.Proofs.YtebnflpanfmicaaGreatDoor
open Go.RowKit
inductive Cmp where
  | node (f v : Nat)
  | host (f v : Nat)
  | rings (f v : Nat)
  | arb (f v : Nat)
  | wheel (f v i : Nat)
  | snd (f v i k : Nat)
  | rcv (f v i k : Nat)
  | link (f h : Nat)
  | plan (f : Nat)
  | fab (f : Nat)
deriving DecidableEq
structure NodeS where
  q : Nat → List Pkt
  free : Nat
  Q : Way → List Pkt
  sent : Nat → Nat → Int
  limit : Nat → Nat → Int
  next : Nat → Nat → Int
  held : Nat → Nat → Int
  left : Nat → List Nat
  from_ : Nat → Nat
  G : Nat → Nat
  A : Nat → Nat
  ticks : Int
theorem HostV.lt' {w : World} {S : Nat → Prop} {T E b : Nat} {lanes queue : Int} {q : Nat → List Pkt} (h : HostV w S T E b lanes queue q) : ∀ k, S k → k < w.heap.size := by
  obtain ⟨v, _, hr⟩ := h
  exact hr.lt
theorem HostV.wider {w : World} {S S' : Nat → Prop} {T E b : Nat} {lanes queue : Int} {q : Nat → List Pkt} (h : HostV w S T E b lanes queue q) (hS : ∀ k, S k → S' k) (hlt : ∀ k, S' k → k < w.heap.size) : HostV w S' T E b lanes queue q := by
  obtain ⟨v, hb, hr⟩ := h
  exact ⟨v, hb, hr.rows, hS _ hr.self, hr.off, hr.apart, fun i hi k hk => hS _ (hr.own i hi k hk), hlt⟩
def nodePart (g : Geo) (v : Nat) (a : NodeA) (ticks : Int) : Part := ⟨fun w S => NodeR w S g v a ticks, fun h hk hF => h.keeps hk hF, fun h => h.lt⟩
def hostPart (b : Nat) (lanes queue : Int) (q : Nat → List Pkt) : Part := ⟨fun w S => HostV w S 200 31 b lanes queue q, fun h hk hF => h.keeps hk hF, fun h => h.lt'⟩
def ringsPart (b : Nat) (ports lanes : Int) (free : Nat) (Q : Way → List Pkt) : Part := ⟨fun w S => RingsV w S b ports lanes free Q, fun h hk hF => h.keeps hk hF, fun h => h.lt⟩
def wheelPart (b : Nat) (W L : List Nat) (fr : Nat) : Part := ⟨fun w S => WheelV w S b W L fr, fun h hk hF => h.keeps hk hF, fun h => h.lt⟩
def linkPart (b : Nat) (room : Int) (rows : List (List Int)) : Part := ⟨fun w S => LinkV w S b room rows, fun h hk hF => h.keeps hk hF, fun h => h.lt⟩
def planPart (g : Geo) : Part := ⟨fun w S => PlanS w S g.p g.t g.ws g.e g.wt g.nx, fun h hk hF => h.keeps hk hF, fun h => h.lt⟩
def arbPart (b n : Nat) (G A : List Nat) (ga aa : Nat) : Part :=
  ⟨fun w S => Arb w b n G A ga aa ∧ S b ∧ S ga ∧ S aa ∧ ∀ k, S k → k < w.heap.size,
    fun h hk hF => ⟨h.1.keeps hk (fun k hk' => by rcases hk' with rfl | rfl | rfl <;> exact hF _ (by first | exact h.2.1 | exact h.2.2.1 | exact h.2.2.2.1)), h.2.1, h.2.2.1, h.2.2.2.1, fun k hk' => Nat.lt_of_lt_of_le (h.2.2.2.2 k hk') hk.size⟩,
    fun h => h.2.2.2.2⟩
def sndPart (b : Nat) (sent limit : Int) : Part :=
  ⟨fun w S => SendAt w b sent limit ∧ S b ∧ ∀ k, S k → k < w.heap.size, fun h hk hF => ⟨h.1.keeps hk (hF _ h.2.1), h.2.1, fun k hk' => Nat.lt_of_lt_of_le (h.2.2 k hk') hk.size⟩, fun h => h.2.2⟩
def rcvPart (b : Nat) (next held room : Int) : Part :=
  ⟨fun w S => RecvAt w b next held room ∧ S b ∧ ∀ k, S k → k < w.heap.size, fun h hk hF => ⟨h.1.keeps hk (hF _ h.2.1), h.2.1, fun k hk' => Nat.lt_of_lt_of_le (h.2.2 k hk') hk.size⟩, fun h => h.2.2⟩
structure Sig where
  geo : Nat → Option Geo
  node : Nat → Nat → Option (NodeA × NodeS)
  link : Nat → Nat → Option (Nat × List (List Int))
  fab : Nat → Part
def Sig.part (σ : Sig) : Cmp → Part
  | .plan f => match σ.geo f with
    | some g => planPart g
    | none => Part.none
  | .fab f => σ.fab f
  | .link f h => match σ.geo f, σ.link f h with
    | some g, some (b, rows) => linkPart b g.p.bag rows
    | _, _ => Part.none
  | .node f v => match σ.geo f, σ.node f v with
    | some g, some (a, s) => nodePart g v a s.ticks
    | _, _ => Part.none
  | .host f v => match σ.geo f, σ.node f v with
    | some g, some (a, s) => hostPart a.hb g.p.lanes g.p.queue s.q
    | _, _ => Part.none
  | .rings f v => match σ.geo f, σ.node f v with
    | some g, some (a, s) => ringsPart a.rb (g.ports v : Int) g.p.lanes s.free s.Q
    | _, _ => Part.none
  | .arb f v => match σ.geo f, σ.node f v with
    | some g, some (a, s) => arbPart a.ab (g.ports v) (lst (g.ports v) s.G) (lst (g.ports v) s.A) a.ga a.aa
    | _, _ => Part.none
  | .wheel f v i => match σ.geo f, σ.node f v with
    | some g, some (a, s) => if i < g.ports v then wheelPart (a.wb i) g.ws (s.left i) (s.from_ i) else Part.none
    | _, _ => Part.none
  | .snd f v i k => match σ.geo f, σ.node f v with
    | some g, some (a, s) => if 1 ≤ i ∧ i < g.ports v ∧ k < g.ws.length then sndPart (a.sb i k) (s.sent i k) (s.limit i k) else Part.none
    | _, _ => Part.none
  | .rcv f v i k => match σ.geo f, σ.node f v with
    | some g, some (a, s) => if 1 ≤ i ∧ i < g.ports v ∧ k < g.ws.length then rcvPart (a.cb i k) (s.next i k) (s.held i k) g.p.room else Part.none
    | _, _ => Part.none
def Sig.set (σ : Sig) (f v : Nat) (a : NodeA) (s : NodeS) : Sig := { σ with node := fun f' v' => if f' = f ∧ v' = v then some (a, s) else σ.node f' v' }
abbrev SysF (σ : Sig) (w : World) (o : Nat → Option Cmp) : Prop := Sys σ.part w o
end Go.Proofs.YtebnflpanfmicaaGreatDoor
namespace Go.Proofs.YtebnflpanfmicaaGreatDoor
open Go.RowKit
section
variable {σ : Sig} {w w' : World} {o : Nat → Option Cmp} {f v : Nat} {g : Geo} {a : NodeA} {s : NodeS}
theorem SysF.nodeR (h : SysF σ w o) (hg : σ.geo f = some g) (hn : σ.node f v = some (a, s)) : NodeR w (fun k => o k = some (.node f v)) g v a s.ticks := by
  have := h.part (.node f v)
  simp only [Sig.part, hg, hn] at this
  exact this
theorem SysF.planS (h : SysF σ w o) (hg : σ.geo f = some g) : PlanS w (fun k => o k = some (.plan f)) g.p g.t g.ws g.e g.wt g.nx := by
  have := h.part (.plan f)
  simp only [Sig.part, hg] at this
  exact this
theorem SysF.hostV (h : SysF σ w o) (hg : σ.geo f = some g) (hn : σ.node f v = some (a, s)) : HostV w (fun k => o k = some (.host f v)) 200 31 a.hb g.p.lanes g.p.queue s.q := by
  have := h.part (.host f v)
  simp only [Sig.part, hg, hn] at this
  exact this
theorem SysF.ringsV (h : SysF σ w o) (hg : σ.geo f = some g) (hn : σ.node f v = some (a, s)) : RingsV w (fun k => o k = some (.rings f v)) a.rb (g.ports v : Int) g.p.lanes s.free s.Q := by
  have := h.part (.rings f v)
  simp only [Sig.part, hg, hn] at this
  exact this
theorem SysF.wheelV (h : SysF σ w o) (hg : σ.geo f = some g) (hn : σ.node f v = some (a, s)) {i : Nat} (hi : i < g.ports v) : WheelV w (fun k => o k = some (.wheel f v i)) (a.wb i) g.ws (s.left i) (s.from_ i) := by
  have := h.part (.wheel f v i)
  simp only [Sig.part, hg, hn, hi, if_true] at this
  exact this
theorem SysF.sendAt (h : SysF σ w o) (hg : σ.geo f = some g) (hn : σ.node f v = some (a, s)) {i k : Nat} (h1 : 1 ≤ i) (hi : i < g.ports v) (hk : k < g.ws.length) : SendAt w (a.sb i k) (s.sent i k) (s.limit i k) ∧ o (a.sb i k) = some (.snd f v i k) := by
  have := h.part (.snd f v i k)
  simp only [Sig.part, hg, hn, h1, hi, hk, and_self, if_true] at this
  exact ⟨this.1, this.2.1⟩
theorem SysF.recvAt (h : SysF σ w o) (hg : σ.geo f = some g) (hn : σ.node f v = some (a, s)) {i k : Nat} (h1 : 1 ≤ i) (hi : i < g.ports v) (hk : k < g.ws.length) : RecvAt w (a.cb i k) (s.next i k) (s.held i k) g.p.room ∧ o (a.cb i k) = some (.rcv f v i k) := by
  have := h.part (.rcv f v i k)
  simp only [Sig.part, hg, hn, h1, hi, hk, and_self, if_true] at this
  exact ⟨this.1, this.2.1⟩
theorem SysF.arb (h : SysF σ w o) (hg : σ.geo f = some g) (hn : σ.node f v = some (a, s)) : Arb w a.ab (g.ports v) (lst (g.ports v) s.G) (lst (g.ports v) s.A) a.ga a.aa ∧ o a.ab = some (.arb f v) ∧ o a.ga = some (.arb f v) ∧ o a.aa = some (.arb f v) := by
  have := h.part (.arb f v)
  simp only [Sig.part, hg, hn] at this
  exact ⟨this.1, this.2.1, this.2.2.1, this.2.2.2.1⟩
theorem set_host (hn : σ.node f v = some (a, s)) (q : Nat → List Pkt) : ∀ x, x ≠ Cmp.host f v → (σ.set f v a { s with q := q }).part x = σ.part x := by
  intro x hx
  cases x with
  | plan f' => rfl
  | fab f' => rfl
  | link f' h' => rfl
  | node f' v' =>
    by_cases h : f' = f ∧ v' = v
    · obtain ⟨rfl, rfl⟩ := h
      cases hgf : σ.geo f' <;> simp [Sig.part, Sig.set, hn, hgf]
    · cases hgf : σ.geo f' <;> simp [Sig.part, Sig.set, h, hgf]
  | host f' v' =>
    by_cases h : f' = f ∧ v' = v
    · obtain ⟨rfl, rfl⟩ := h
      exact absurd rfl hx
    · cases hgf : σ.geo f' <;> simp [Sig.part, Sig.set, h, hgf]
  | rings f' v' =>
    by_cases h : f' = f ∧ v' = v
    · obtain ⟨rfl, rfl⟩ := h
      cases hgf : σ.geo f' <;> simp [Sig.part, Sig.set, hn, hgf]
    · cases hgf : σ.geo f' <;> simp [Sig.part, Sig.set, h, hgf]
  | arb f' v' =>
    by_cases h : f' = f ∧ v' = v
    · obtain ⟨rfl, rfl⟩ := h
      cases hgf : σ.geo f' <;> simp [Sig.part, Sig.set, hn, hgf]
    · cases hgf : σ.geo f' <;> simp [Sig.part, Sig.set, h, hgf]
  | wheel f' v' i' =>
    by_cases h : f' = f ∧ v' = v
    · obtain ⟨rfl, rfl⟩ := h
      cases hgf : σ.geo f' <;> simp [Sig.part, Sig.set, hn, hgf]
    · cases hgf : σ.geo f' <;> simp [Sig.part, Sig.set, h, hgf]
  | snd f' v' i' k' =>
    by_cases h : f' = f ∧ v' = v
    · obtain ⟨rfl, rfl⟩ := h
      cases hgf : σ.geo f' <;> simp [Sig.part, Sig.set, hn, hgf]
    · cases hgf : σ.geo f' <;> simp [Sig.part, Sig.set, h, hgf]
  | rcv f' v' i' k' =>
    by_cases h : f' = f ∧ v' = v
    · obtain ⟨rfl, rfl⟩ := h
      cases hgf : σ.geo f' <;> simp [Sig.part, Sig.set, hn, hgf]
    · cases hgf : σ.geo f' <;> simp [Sig.part, Sig.set, h, hgf]
theorem set_rings (hn : σ.node f v = some (a, s)) (n : Nat) (Q : Way → List Pkt) : ∀ x, x ≠ Cmp.rings f v → (σ.set f v a { s with free := n, Q := Q }).part x = σ.part x := by
  intro x hx
  cases x with
  | plan f' => rfl
  | fab f' => rfl
  | link f' h' => rfl
  | node f' v' =>
    by_cases h : f' = f ∧ v' = v
    · obtain ⟨rfl, rfl⟩ := h
      cases hgf : σ.geo f' <;> simp [Sig.part, Sig.set, hn, hgf]
    · cases hgf : σ.geo f' <;> simp [Sig.part, Sig.set, h, hgf]
  | host f' v' =>
    by_cases h : f' = f ∧ v' = v
    · obtain ⟨rfl, rfl⟩ := h
      cases hgf : σ.geo f' <;> simp [Sig.part, Sig.set, hn, hgf]
    · cases hgf : σ.geo f' <;> simp [Sig.part, Sig.set, h, hgf]
  | rings f' v' =>
    by_cases h : f' = f ∧ v' = v
    · obtain ⟨rfl, rfl⟩ := h
      exact absurd rfl hx
    · cases hgf : σ.geo f' <;> simp [Sig.part, Sig.set, h, hgf]
  | arb f' v' =>
    by_cases h : f' = f ∧ v' = v
    · obtain ⟨rfl, rfl⟩ := h
      cases hgf : σ.geo f' <;> simp [Sig.part, Sig.set, hn, hgf]
    · cases hgf : σ.geo f' <;> simp [Sig.part, Sig.set, h, hgf]
  | wheel f' v' i' =>
    by_cases h : f' = f ∧ v' = v
    · obtain ⟨rfl, rfl⟩ := h
      cases hgf : σ.geo f' <;> simp [Sig.part, Sig.set, hn, hgf]
    · cases hgf : σ.geo f' <;> simp [Sig.part, Sig.set, h, hgf]
  | snd f' v' i' k' =>
    by_cases h : f' = f ∧ v' = v
    · obtain ⟨rfl, rfl⟩ := h
      cases hgf : σ.geo f' <;> simp [Sig.part, Sig.set, hn, hgf]
    · cases hgf : σ.geo f' <;> simp [Sig.part, Sig.set, h, hgf]
  | rcv f' v' i' k' =>
    by_cases h : f' = f ∧ v' = v
    · obtain ⟨rfl, rfl⟩ := h
      cases hgf : σ.geo f' <;> simp [Sig.part, Sig.set, hn, hgf]
    · cases hgf : σ.geo f' <;> simp [Sig.part, Sig.set, h, hgf]
theorem set_arb (hn : σ.node f v = some (a, s)) (G A : Nat → Nat) : ∀ x, x ≠ Cmp.arb f v → (σ.set f v a { s with G := G, A := A }).part x = σ.part x := by
  intro x hx
  cases x with
  | plan f' => rfl
  | fab f' => rfl
  | link f' h' => rfl
  | node f' v' =>
    by_cases h : f' = f ∧ v' = v
    · obtain ⟨rfl, rfl⟩ := h
      cases hgf : σ.geo f' <;> simp [Sig.part, Sig.set, hn, hgf]
    · cases hgf : σ.geo f' <;> simp [Sig.part, Sig.set, h, hgf]
  | host f' v' =>
    by_cases h : f' = f ∧ v' = v
    · obtain ⟨rfl, rfl⟩ := h
      cases hgf : σ.geo f' <;> simp [Sig.part, Sig.set, hn, hgf]
    · cases hgf : σ.geo f' <;> simp [Sig.part, Sig.set, h, hgf]
  | rings f' v' =>
    by_cases h : f' = f ∧ v' = v
    · obtain ⟨rfl, rfl⟩ := h
      cases hgf : σ.geo f' <;> simp [Sig.part, Sig.set, hn, hgf]
    · cases hgf : σ.geo f' <;> simp [Sig.part, Sig.set, h, hgf]
  | arb f' v' =>
    by_cases h : f' = f ∧ v' = v
    · obtain ⟨rfl, rfl⟩ := h
      exact absurd rfl hx
    · cases hgf : σ.geo f' <;> simp [Sig.part, Sig.set, h, hgf]
  | wheel f' v' i' =>
    by_cases h : f' = f ∧ v' = v
    · obtain ⟨rfl, rfl⟩ := h
      cases hgf : σ.geo f' <;> simp [Sig.part, Sig.set, hn, hgf]
    · cases hgf : σ.geo f' <;> simp [Sig.part, Sig.set, h, hgf]
  | snd f' v' i' k' =>
    by_cases h : f' = f ∧ v' = v
    · obtain ⟨rfl, rfl⟩ := h
      cases hgf : σ.geo f' <;> simp [Sig.part, Sig.set, hn, hgf]
    · cases hgf : σ.geo f' <;> simp [Sig.part, Sig.set, h, hgf]
  | rcv f' v' i' k' =>
    by_cases h : f' = f ∧ v' = v
    · obtain ⟨rfl, rfl⟩ := h
      cases hgf : σ.geo f' <;> simp [Sig.part, Sig.set, hn, hgf]
    · cases hgf : σ.geo f' <;> simp [Sig.part, Sig.set, h, hgf]
theorem set_node (hn : σ.node f v = some (a, s)) (n : Int) : ∀ x, x ≠ Cmp.node f v → (σ.set f v a { s with ticks := n }).part x = σ.part x := by
  intro x hx
  cases x with
  | plan f' => rfl
  | fab f' => rfl
  | link f' h' => rfl
  | node f' v' =>
    by_cases h : f' = f ∧ v' = v
    · obtain ⟨rfl, rfl⟩ := h
      exact absurd rfl hx
    · cases hgf : σ.geo f' <;> simp [Sig.part, Sig.set, h, hgf]
  | host f' v' =>
    by_cases h : f' = f ∧ v' = v
    · obtain ⟨rfl, rfl⟩ := h
      cases hgf : σ.geo f' <;> simp [Sig.part, Sig.set, hn, hgf]
    · cases hgf : σ.geo f' <;> simp [Sig.part, Sig.set, h, hgf]
  | rings f' v' =>
    by_cases h : f' = f ∧ v' = v
    · obtain ⟨rfl, rfl⟩ := h
      cases hgf : σ.geo f' <;> simp [Sig.part, Sig.set, hn, hgf]
    · cases hgf : σ.geo f' <;> simp [Sig.part, Sig.set, h, hgf]
  | arb f' v' =>
    by_cases h : f' = f ∧ v' = v
    · obtain ⟨rfl, rfl⟩ := h
      cases hgf : σ.geo f' <;> simp [Sig.part, Sig.set, hn, hgf]
    · cases hgf : σ.geo f' <;> simp [Sig.part, Sig.set, h, hgf]
  | wheel f' v' i' =>
    by_cases h : f' = f ∧ v' = v
    · obtain ⟨rfl, rfl⟩ := h
      cases hgf : σ.geo f' <;> simp [Sig.part, Sig.set, hn, hgf]
    · cases hgf : σ.geo f' <;> simp [Sig.part, Sig.set, h, hgf]
  | snd f' v' i' k' =>
    by_cases h : f' = f ∧ v' = v
    · obtain ⟨rfl, rfl⟩ := h
      cases hgf : σ.geo f' <;> simp [Sig.part, Sig.set, hn, hgf]
    · cases hgf : σ.geo f' <;> simp [Sig.part, Sig.set, h, hgf]
  | rcv f' v' i' k' =>
    by_cases h : f' = f ∧ v' = v
    · obtain ⟨rfl, rfl⟩ := h
      cases hgf : σ.geo f' <;> simp [Sig.part, Sig.set, hn, hgf]
    · cases hgf : σ.geo f' <;> simp [Sig.part, Sig.set, h, hgf]
theorem set_wheel (hn : σ.node f v = some (a, s)) (i : Nat) (L : List Nat) (r : Nat) : ∀ x, x ≠ Cmp.wheel f v i → (σ.set f v a { s with left := fun i' => if i' = i then L else s.left i', from_ := fun i' => if i' = i then r else s.from_ i' }).part x = σ.part x := by
  intro x hx
  cases x with
  | plan f' => rfl
  | fab f' => rfl
  | link f' h' => rfl
  | node f' v' =>
    by_cases h : f' = f ∧ v' = v
    · obtain ⟨rfl, rfl⟩ := h
      cases hgf : σ.geo f' <;> simp [Sig.part, Sig.set, hn, hgf]
    · cases hgf : σ.geo f' <;> simp [Sig.part, Sig.set, h, hgf]
  | host f' v' =>
    by_cases h : f' = f ∧ v' = v
    · obtain ⟨rfl, rfl⟩ := h
      cases hgf : σ.geo f' <;> simp [Sig.part, Sig.set, hn, hgf]
    · cases hgf : σ.geo f' <;> simp [Sig.part, Sig.set, h, hgf]
  | rings f' v' =>
    by_cases h : f' = f ∧ v' = v
    · obtain ⟨rfl, rfl⟩ := h
      cases hgf : σ.geo f' <;> simp [Sig.part, Sig.set, hn, hgf]
    · cases hgf : σ.geo f' <;> simp [Sig.part, Sig.set, h, hgf]
  | arb f' v' =>
    by_cases h : f' = f ∧ v' = v
    · obtain ⟨rfl, rfl⟩ := h
      cases hgf : σ.geo f' <;> simp [Sig.part, Sig.set, hn, hgf]
    · cases hgf : σ.geo f' <;> simp [Sig.part, Sig.set, h, hgf]
  | wheel f' v' i' =>
    by_cases h : f' = f ∧ v' = v
    · obtain ⟨rfl, rfl⟩ := h
      have hne : ¬ i' = i := fun h => hx (by rw [h])
      cases hgf : σ.geo f' <;> simp [Sig.part, Sig.set, hn, hne, hgf]
    · cases hgf : σ.geo f' <;> simp [Sig.part, Sig.set, h, hgf]
  | snd f' v' i' k' =>
    by_cases h : f' = f ∧ v' = v
    · obtain ⟨rfl, rfl⟩ := h
      cases hgf : σ.geo f' <;> simp [Sig.part, Sig.set, hn, hgf]
    · cases hgf : σ.geo f' <;> simp [Sig.part, Sig.set, h, hgf]
  | rcv f' v' i' k' =>
    by_cases h : f' = f ∧ v' = v
    · obtain ⟨rfl, rfl⟩ := h
      cases hgf : σ.geo f' <;> simp [Sig.part, Sig.set, hn, hgf]
    · cases hgf : σ.geo f' <;> simp [Sig.part, Sig.set, h, hgf]
theorem set_snd (hn : σ.node f v = some (a, s)) (i k : Nat) (y1 y2 : Int) : ∀ x, x ≠ Cmp.snd f v i k → (σ.set f v a { s with sent := fun i' k' => if i' = i ∧ k' = k then y1 else s.sent i' k', limit := fun i' k' => if i' = i ∧ k' = k then y2 else s.limit i' k' }).part x = σ.part x := by
  intro x hx
  cases x with
  | plan f' => rfl
  | fab f' => rfl
  | link f' h' => rfl
  | node f' v' =>
    by_cases h : f' = f ∧ v' = v
    · obtain ⟨rfl, rfl⟩ := h
      cases hgf : σ.geo f' <;> simp [Sig.part, Sig.set, hn, hgf]
    · cases hgf : σ.geo f' <;> simp [Sig.part, Sig.set, h, hgf]
  | host f' v' =>
    by_cases h : f' = f ∧ v' = v
    · obtain ⟨rfl, rfl⟩ := h
      cases hgf : σ.geo f' <;> simp [Sig.part, Sig.set, hn, hgf]
    · cases hgf : σ.geo f' <;> simp [Sig.part, Sig.set, h, hgf]
  | rings f' v' =>
    by_cases h : f' = f ∧ v' = v
    · obtain ⟨rfl, rfl⟩ := h
      cases hgf : σ.geo f' <;> simp [Sig.part, Sig.set, hn, hgf]
    · cases hgf : σ.geo f' <;> simp [Sig.part, Sig.set, h, hgf]
  | arb f' v' =>
    by_cases h : f' = f ∧ v' = v
    · obtain ⟨rfl, rfl⟩ := h
      cases hgf : σ.geo f' <;> simp [Sig.part, Sig.set, hn, hgf]
    · cases hgf : σ.geo f' <;> simp [Sig.part, Sig.set, h, hgf]
  | wheel f' v' i' =>
    by_cases h : f' = f ∧ v' = v
    · obtain ⟨rfl, rfl⟩ := h
      cases hgf : σ.geo f' <;> simp [Sig.part, Sig.set, hn, hgf]
    · cases hgf : σ.geo f' <;> simp [Sig.part, Sig.set, h, hgf]
  | snd f' v' i' k' =>
    by_cases h : f' = f ∧ v' = v
    · obtain ⟨rfl, rfl⟩ := h
      have hne : ¬ (i' = i ∧ k' = k) := fun h => hx (by rw [h.1, h.2])
      cases hgf : σ.geo f' <;> simp [Sig.part, Sig.set, hn, hne, hgf]
    · cases hgf : σ.geo f' <;> simp [Sig.part, Sig.set, h, hgf]
  | rcv f' v' i' k' =>
    by_cases h : f' = f ∧ v' = v
    · obtain ⟨rfl, rfl⟩ := h
      cases hgf : σ.geo f' <;> simp [Sig.part, Sig.set, hn, hgf]
    · cases hgf : σ.geo f' <;> simp [Sig.part, Sig.set, h, hgf]
theorem set_rcv (hn : σ.node f v = some (a, s)) (i k : Nat) (y1 y2 : Int) : ∀ x, x ≠ Cmp.rcv f v i k → (σ.set f v a { s with next := fun i' k' => if i' = i ∧ k' = k then y1 else s.next i' k', held := fun i' k' => if i' = i ∧ k' = k then y2 else s.held i' k' }).part x = σ.part x := by
  intro x hx
  cases x with
  | plan f' => rfl
  | fab f' => rfl
  | link f' h' => rfl
  | node f' v' =>
    by_cases h : f' = f ∧ v' = v
    · obtain ⟨rfl, rfl⟩ := h
      cases hgf : σ.geo f' <;> simp [Sig.part, Sig.set, hn, hgf]
    · cases hgf : σ.geo f' <;> simp [Sig.part, Sig.set, h, hgf]
  | host f' v' =>
    by_cases h : f' = f ∧ v' = v
    · obtain ⟨rfl, rfl⟩ := h
      cases hgf : σ.geo f' <;> simp [Sig.part, Sig.set, hn, hgf]
    · cases hgf : σ.geo f' <;> simp [Sig.part, Sig.set, h, hgf]
  | rings f' v' =>
    by_cases h : f' = f ∧ v' = v
    · obtain ⟨rfl, rfl⟩ := h
      cases hgf : σ.geo f' <;> simp [Sig.part, Sig.set, hn, hgf]
    · cases hgf : σ.geo f' <;> simp [Sig.part, Sig.set, h, hgf]
  | arb f' v' =>
    by_cases h : f' = f ∧ v' = v
    · obtain ⟨rfl, rfl⟩ := h
      cases hgf : σ.geo f' <;> simp [Sig.part, Sig.set, hn, hgf]
    · cases hgf : σ.geo f' <;> simp [Sig.part, Sig.set, h, hgf]
  | wheel f' v' i' =>
    by_cases h : f' = f ∧ v' = v
    · obtain ⟨rfl, rfl⟩ := h
      cases hgf : σ.geo f' <;> simp [Sig.part, Sig.set, hn, hgf]
    · cases hgf : σ.geo f' <;> simp [Sig.part, Sig.set, h, hgf]
  | snd f' v' i' k' =>
    by_cases h : f' = f ∧ v' = v
    · obtain ⟨rfl, rfl⟩ := h
      cases hgf : σ.geo f' <;> simp [Sig.part, Sig.set, hn, hgf]
    · cases hgf : σ.geo f' <;> simp [Sig.part, Sig.set, h, hgf]
  | rcv f' v' i' k' =>
    by_cases h : f' = f ∧ v' = v
    · obtain ⟨rfl, rfl⟩ := h
      have hne : ¬ (i' = i ∧ k' = k) := fun h => hx (by rw [h.1, h.2])
      cases hgf : σ.geo f' <;> simp [Sig.part, Sig.set, hn, hne, hgf]
    · cases hgf : σ.geo f' <;> simp [Sig.part, Sig.set, h, hgf]
theorem SysF.stepHost (h : SysF σ w o) (hg : σ.geo f = some g) (hn : σ.node f v = some (a, s)) {q : Nat → List Pkt} (hw : HostNow w w' (fun k => o k = some (.host f v)) 200 31 a.hb g.p.lanes g.p.queue q) :
    ∃ o', SysF (σ.set f v a { s with q := q }) w' o' ∧ Ext o w o' w' := by
  obtain ⟨S', h1, h2, h3⟩ := hw
  refine Sys.step h (.host f v) (set_host hn q) h2 ?_
  simp only [Sig.part, Sig.set, hg, and_self, if_true]
  exact h1.wider (fun k hk => (h3 k hk).elim .inl (fun h => .inr ⟨h, h1.lt' k hk⟩)) (fun k hk => hk.elim (fun e => Nat.lt_of_lt_of_le (Sys.lt h k _ e) h2.size) (fun e => e.2))
theorem SysF.stepRings (h : SysF σ w o) (hg : σ.geo f = some g) (hn : σ.node f v = some (a, s)) {n : Nat} {Q : Way → List Pkt} (hk : Keeps (fun k => o k = some (.rings f v)) w w') (hw : RingsV w' (more (fun k => o k = some (.rings f v)) w w') a.rb (g.ports v : Int) g.p.lanes n Q) :
    ∃ o', SysF (σ.set f v a { s with free := n, Q := Q }) w' o' ∧ Ext o w o' w' := by
  refine Sys.step h (.rings f v) (set_rings hn n Q) hk ?_
  simp only [Sig.part, Sig.set, hg, and_self, if_true]
  exact hw
theorem SysF.stepWheel (h : SysF σ w o) (hg : σ.geo f = some g) (hn : σ.node f v = some (a, s)) {i : Nat} (hi : i < g.ports v) {L : List Nat} {r : Nat} (hk : Keeps (fun k => o k = some (.wheel f v i)) w w') (hw : WheelV w' (more (fun k => o k = some (.wheel f v i)) w w') (a.wb i) g.ws L r) :
    ∃ o', SysF (σ.set f v a { s with left := fun i' => if i' = i then L else s.left i', from_ := fun i' => if i' = i then r else s.from_ i' }) w' o' ∧ Ext o w o' w' := by
  refine Sys.step h (.wheel f v i) (set_wheel hn i L r) hk ?_
  simp only [Sig.part, Sig.set, hg, and_self, if_true, hi]
  exact hw
theorem SysF.stepSnd (h : SysF σ w o) (hg : σ.geo f = some g) (hn : σ.node f v = some (a, s)) {i k : Nat} (h1 : 1 ≤ i) (hi : i < g.ports v) (hk' : k < g.ws.length) {y1 y2 : Int} (hk : Keeps (fun b => b = a.sb i k) w w') (hw : SendAt w' (a.sb i k) y1 y2) :
    ∃ o', SysF (σ.set f v a { s with sent := fun i' k' => if i' = i ∧ k' = k then y1 else s.sent i' k', limit := fun i' k' => if i' = i ∧ k' = k then y2 else s.limit i' k' }) w' o' ∧ Ext o w o' w' := by
  have hb := (h.sendAt hg hn h1 hi hk').2
  have hK : Keeps (fun b => o b = some (.snd f v i k)) w w' := hk.mono (fun b _ e => by rw [e]; exact hb)
  refine Sys.step h (.snd f v i k) (set_snd hn i k y1 y2) hK ?_
  simp only [Sig.part, Sig.set, hg, and_self, if_true, h1, hi, hk']
  exact ⟨hw, .inl hb, fun b e => e.elim (fun e => Nat.lt_of_lt_of_le (Sys.lt h b _ e) hK.size) (fun e => e.2)⟩
theorem SysF.stepRcv (h : SysF σ w o) (hg : σ.geo f = some g) (hn : σ.node f v = some (a, s)) {i k : Nat} (h1 : 1 ≤ i) (hi : i < g.ports v) (hk' : k < g.ws.length) {y1 y2 : Int} (hk : Keeps (fun b => b = a.cb i k) w w') (hw : RecvAt w' (a.cb i k) y1 y2 g.p.room) :
    ∃ o', SysF (σ.set f v a { s with next := fun i' k' => if i' = i ∧ k' = k then y1 else s.next i' k', held := fun i' k' => if i' = i ∧ k' = k then y2 else s.held i' k' }) w' o' ∧ Ext o w o' w' := by
  have hb := (h.recvAt hg hn h1 hi hk').2
  have hK : Keeps (fun b => o b = some (.rcv f v i k)) w w' := hk.mono (fun b _ e => by rw [e]; exact hb)
  refine Sys.step h (.rcv f v i k) (set_rcv hn i k y1 y2) hK ?_
  simp only [Sig.part, Sig.set, hg, and_self, if_true, h1, hi, hk']
  exact ⟨hw, .inl hb, fun b e => e.elim (fun e => Nat.lt_of_lt_of_le (Sys.lt h b _ e) hK.size) (fun e => e.2)⟩
theorem set_get (f v : Nat) (a : NodeA) (s : NodeS) : (σ.set f v a s).node f v = some (a, s) := by simp [Sig.set]
theorem set_set (f v : Nat) (a : NodeA) (s s' : NodeS) : (σ.set f v a s).set f v a s' = σ.set f v a s' := by
  unfold Sig.set
  congr 1
  funext f' v'
  by_cases h : f' = f ∧ v' = v <;> simp [h]
theorem Ext.tab {o' : Nat → Option Cmp} (h : Ext o w o' w') (ht : Tab w) (h0 : o 0 = none) : Tab w' ∧ o' 0 = none :=
  ⟨ht.keeps h.1 (by show ¬ (o 0).isSome = true; rw [h0]; decide), (h.2 0 ht.pos).trans h0⟩
end
end Go.Proofs.YtebnflpanfmicaaGreatDoor
