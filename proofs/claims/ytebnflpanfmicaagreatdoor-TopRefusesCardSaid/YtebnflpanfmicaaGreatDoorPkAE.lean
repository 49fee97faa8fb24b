/-
  Part 5 of the proof: IslipNew, TopSer, TopCred, TopBuf, TopCrc, TopSound.
-/
import Derived.Test.YtebnflpanfmicaaGreatDoorPkAC
import Derived.BigQuiet
import Derived.Lib.SliceRun
import Derived.Deep.OwnRows
import Derived.Deep.RegionHeld
import Derived.Test.YtebnflpanfmicaaGreatDoorProg
import Derived.Test.YtebnflpanfmicaaGreatDoorPkAA
set_option linter.unusedVariables false
set_option linter.unusedSimpArgs false
set_option linter.unusedSectionVars false
namespace Go.Proofs.YtebnflpanfmicaaGreatDoor
open Go.RowKit
theorem info_int : (Tryz.prog.info? 3).map (fun i => (i.zero, i.size, i.bytes)) = some (some (.int .i64 0), 1, 8) := by kernel_rfl
theorem Reads.src {P : Program} {w : World} {tx e' B sz n : Nat} {v : Value} {cs : List Value} (h : Reads w B sz v n cs) (hk : P.underlying tx = some (.slice e')) (h1 : ∀ u ∈ cs, u.oneCell' = true) : Src P sz tx v n cs w := by
  rcases Nat.eq_zero_or_pos cs.length with h0 | h0
  · obtain rfl := List.eq_nil_of_length_eq_zero h0
    obtain ⟨hl, A, c, rfl, hnc, _, h5⟩ := h
    rcases Nat.eq_zero_or_pos n with hn | hn
    · subst hn
      cases A with
      | none => exact Src.ofNil w hk c
      | some a => exact Src.ofSlice w hk a 0 c [] (by simp) (fun j u hu => by simp at hu) h1
    · obtain ⟨ad, rfl, _, _⟩ := h5 hn
      exact Src.ofSlice w hk ad n c [] hl (fun j u hu => by simp at hu) h1
  · obtain ⟨g, off, c, rfl, _, _, hc⟩ := h.at_ h0
    exact Src.ofSlice w hk _ _ _ _ h.1 (fun j u hu => by rw [Addr.add_lit]; exact hc j u hu) h1
theorem one_nats (l : List Nat) : ∀ u ∈ l.map encI, u.oneCell' = true := by
  intro u hu
  obtain ⟨z, _, rfl⟩ := List.mem_map.1 hu
  rfl
structure Arb (w : World) (b n : Nat) (G A : List Nat) (g a : Nat) : Prop where
  box : w.heap[b]? = some (.cells #[.slice (some ⟨g, 0, none⟩) n n, .slice (some ⟨a, 0, none⟩) n n] 246 (0, 0))
  gr : w.heap[g]? = some (.cells (G.map encI).toArray 3 (0, 0))
  ac : w.heap[a]? = some (.cells (A.map encI).toArray 3 (0, 0))
  ne : g ≠ a
  lenG : G.length = n
  lenA : A.length = n
theorem made_zeros (n : Nat) : madeCells #[.int .i64 0] n = ((List.replicate n 0).map encI).toArray := by
  apply Array.ext
  · simp [madeCells]
  · intro i h1 h2
    simp [madeCells, Nat.mod_one]
theorem three_boxes (w : World) (a b c : Array Value) (S T U : Nat) : (((w.alloc (.cells a S)).alloc (.cells b T)).alloc (.cells c U)).heap[w.heap.size]? = some (.cells a S (0, 0)) ∧
    (((w.alloc (.cells a S)).alloc (.cells b T)).alloc (.cells c U)).heap[w.heap.size + 1]? = some (.cells b T (0, 0)) ∧ (((w.alloc (.cells a S)).alloc (.cells b T)).alloc (.cells c U)).heap[w.heap.size + 1 + 1]? = some (.cells c U (0, 0)) ∧
    Keeps (fun _ => False) w (((w.alloc (.cells a S)).alloc (.cells b T)).alloc (.cells c U)) := by
  refine ⟨blk_alloc (blk_alloc (blk_new _ _) _) _, blk_alloc ?_ _, ?_, ((Keeps.alloc _ _ _).trans (Keeps.alloc _ _ _)).trans (Keeps.alloc _ _ _)⟩
  · have := blk_new (w.alloc (.cells a S)) (.cells b T)
    rwa [World.size_alloc] at this
  · have := blk_new ((w.alloc (.cells a S)).alloc (.cells b T)) (.cells c U)
    rwa [World.size_alloc, World.size_alloc] at this
set_option maxHeartbeats 2000000 in
theorem new_calls (n : Nat) (h1 : 1 ≤ n) (h2 : n ≤ 16) (w : World) :
    Calls Tryz.prog 84 #[.int .i64 n] w fun e w' => ∃ b g a, e = .returned (.pointer (some ⟨b, 0, none⟩)) ∧ Arb w' b n (List.replicate n 0) (List.replicate n 0) g a ∧ Keeps (fun _ => False) w w' ∧ w.heap.size ≤ b ∧ w.heap.size ≤ g ∧ w.heap.size ≤ a := by
  have hms := fun w => run_make_row' (P := Tryz.prog) 35 3 (.int .i64 0) 8 Tryz.underlying35 info_int rfl .i64 .i64 n (by omega) (by omega) w
  have hn1 : ¬ (n : Int) < 1 := by omega
  have hn2 : ¬ (16 : Int) < (n : Int) := by omega
  go_enter Tryz.func84, Tryz.ntmps84
  go_wp2_with fail
  go_region
  · obtain ⟨q1, q2, q3, hk⟩ := three_boxes w (madeCells #[.int .i64 0] n) (madeCells #[.int .i64 0] n) #[.slice (some ⟨w.heap.size, 0, none⟩) n n, .slice (some ⟨w.heap.size + 1, 0, none⟩) n n] 3 3 246
    go_wp2_with fail
    go_ret
    refine ⟨_, w.heap.size, w.heap.size + 1, rfl, ⟨q3, by rw [← made_zeros]; exact q1, by rw [← made_zeros]; exact q2, by omega, by simp, by simp⟩, ?_, by omega, by omega, by omega⟩
    first | exact hk | exact hk.trans (Keeps.drew _ _)
  · obtain ⟨q1, q2, q3, hk⟩ := three_boxes w (madeCells #[.int .i64 0] n) (madeCells #[.int .i64 0] n) #[.slice (some ⟨w.heap.size + 1, 0, none⟩) n n, .slice (some ⟨w.heap.size, 0, none⟩) n n] 3 3 246
    go_wp2_with fail
    go_ret
    refine ⟨_, w.heap.size + 1, w.heap.size, rfl, ⟨q3, by rw [← made_zeros]; exact q2, by rw [← made_zeros]; exact q1, by omega, by simp, by simp⟩, ?_, by omega, by omega, by omega⟩
    first | exact hk | exact hk.trans (Keeps.drew _ _)
theorem Arb.keeps {w w' : World} {b n : Nat} {G A : List Nat} {g a : Nat} {F : Nat → Prop} (h : Arb w b n G A g a) (hk : Keeps F w w') (hF : ∀ k, k = b ∨ k = g ∨ k = a → ¬ F k) : Arb w' b n G A g a :=
  ⟨blk_keeps hk h.box (hF b (.inl rfl)), blk_keeps hk h.gr (hF g (.inr (.inl rfl))), blk_keeps hk h.ac (hF a (.inr (.inr rfl))), h.ne, h.lenG, h.lenA⟩
theorem Arb.cells {w : World} {b n : Nat} {G A : List Nat} {g a : Nat} (h : Arb w b n G A g a) : w.cell? ⟨b, 0, none⟩ = some (.slice (some ⟨g, 0, none⟩) n n) ∧ w.cell? ⟨b, 1, none⟩ = some (.slice (some ⟨a, 0, none⟩) n n) :=
  ⟨by rw [blk_cell h.box]; rfl, by rw [blk_cell h.box]; rfl⟩
end Go.Proofs.YtebnflpanfmicaaGreatDoor
namespace Go.Proofs.YtebnflpanfmicaaGreatDoor
open Go.RowKit
abbrev W64 (x : Int) : Int := IntKind.u64.wrap x
abbrev W16 (x : Int) : Int := IntKind.u16.wrap x
def widen (near s : Int) : Int := W64 (W64 (near - 32768) + W64 (W16 (s - W16 (W64 (near - 32768)))))
set_option maxHeartbeats 400000 in
theorem short_runs (x : Int) (w : World) :
    Calls Tryz.prog 206 #[.int .u64 x] w fun e w' => e = .returned (.int .u16 (W16 x)) ∧ w = w' := by
  go_enter Tryz.func206, Tryz.ntmps206
  go_wp2
  go_ret
  exact ⟨rfl, rfl⟩
set_option maxHeartbeats 400000 in
theorem widen_runs (near s : Int) (w : World) :
    Calls Tryz.prog 165 #[.int .u64 near, .int .u16 s] w fun e w' => e = .returned (.int .u64 (widen near s)) ∧ w = w' := by
  go_enter Tryz.func165, Tryz.ntmps165
  go_wp2_with (go_at_call 206; refine (short_runs _ _).mono ?_; rintro e w' ⟨rfl, rfl⟩)
  go_ret
  exact ⟨rfl, rfl⟩
end Go.Proofs.YtebnflpanfmicaaGreatDoor
namespace Go.Proofs.YtebnflpanfmicaaGreatDoor
open Go.RowKit
def SendAt (w : World) (b : Nat) (sent limit : Int) : Prop := w.heap[b]? = some (.cells #[.int .u64 sent, .int .u64 limit] 242 (0, 0))
theorem SendAt.keeps {w w' : World} {F : Nat → Prop} {b : Nat} {sent limit : Int} (h : SendAt w b sent limit) (hk : Keeps F w w') (hF : ¬ F b) : SendAt w' b sent limit := blk_keeps hk h hF
theorem SendAt.sent {w : World} {b : Nat} {sent limit : Int} (h : SendAt w b sent limit) : w.cell? ⟨b, 0, none⟩ = some (.int .u64 sent) := by rw [blk_cell h]; rfl
theorem SendAt.limit {w : World} {b : Nat} {sent limit : Int} (h : SendAt w b sent limit) : w.cell? ⟨b, 1, none⟩ = some (.int .u64 limit) := by rw [blk_cell h]; rfl
def opn (sent limit : Int) : Int := wrap64 (W64 (limit - sent))
set_option maxHeartbeats 400000 in
theorem open_runs (sent limit : Int) (w : World) :
    Calls Tryz.prog 164 #[.agg #[.int .u64 sent, .int .u64 limit]] w fun e w' => e = .returned (.int .i64 (opn sent limit)) ∧ Keeps (fun _ => False) w w' := by
  go_enter Tryz.func164, Tryz.ntmps164
  go_wp2
  go_ret
  exact ⟨rfl, Keeps.alloc _ _ _⟩
set_option maxHeartbeats 400000 in
theorem usable_runs (b : Nat) (sent limit : Int) (w : World) (h : SendAt w b sent limit) :
    Calls Tryz.prog 109 #[.pointer (some ⟨b, 0, none⟩)] w fun e w' => e = .returned (.int .i64 (opn sent limit)) ∧ Keeps (fun _ => False) w w' := by
  have c0 := h.sent
  have c1 := h.limit
  go_enter Tryz.func109, Tryz.ntmps109
  go_wp2_with (go_at_call 164; refine (open_runs _ _ _).mono ?_; rintro e w' ⟨rfl, hk⟩)
  go_ret
  exact ⟨rfl, hk⟩
set_option maxHeartbeats 400000 in
theorem slimit_runs (b : Nat) (sent limit : Int) (w : World) (h : SendAt w b sent limit) :
    Calls Tryz.prog 111 #[.pointer (some ⟨b, 0, none⟩)] w fun e w' => e = .returned (.int .u64 limit) ∧ w = w' := by
  have c1 := h.limit
  go_enter Tryz.func111, Tryz.ntmps111
  go_wp2
  go_ret
  exact ⟨rfl, rfl⟩
set_option maxHeartbeats 400000 in
theorem sent_runs (b : Nat) (sent limit : Int) (w : World) (h : SendAt w b sent limit) :
    Calls Tryz.prog 115 #[.pointer (some ⟨b, 0, none⟩)] w fun e w' => e = .returned (.int .u64 sent) ∧ w = w' := by
  have c0 := h.sent
  go_enter Tryz.func115, Tryz.ntmps115
  go_wp2
  go_ret
  exact ⟨rfl, rfl⟩
set_option maxHeartbeats 400000 in
theorem cnext_none (b : Nat) (sent limit : Int) (w : World) (h : SendAt w b sent limit) (h0 : (opn sent limit == 0) = true) :
    Calls Tryz.prog 185 #[.pointer (some ⟨b, 0, none⟩)] w fun e w' => e = .returned (.tuple #[.int .u64 0, .bool false]) ∧ Keeps (fun _ => False) w w' := by
  have c0 := h.sent
  have c1 := h.limit
  clear h
  go_enter Tryz.func185, Tryz.ntmps185
  go_wp2_with (go_at_call 164; refine (open_runs _ _ _).mono ?_; rintro e w' ⟨rfl, hk⟩)
  go_ret2
  exact ⟨rfl, hk⟩
set_option maxHeartbeats 400000 in
theorem cnext_some (b : Nat) (sent limit : Int) (w : World) (h : SendAt w b sent limit) (h0 : (opn sent limit == 0) = false) :
    Calls Tryz.prog 185 #[.pointer (some ⟨b, 0, none⟩)] w fun e w' => e = .returned (.tuple #[.int .u64 sent, .bool true]) ∧ Keeps (fun k => k = b) w w' ∧ SendAt w' b (W64 (sent + 1)) limit := by
  have c0 := h.sent
  have c1 := h.limit
  have h' := Lib.hid h
  clear h
  go_enter Tryz.func185, Tryz.ntmps185
  go_wp2_with (go_at_call 164; refine (open_runs _ _ _).mono ?_; rintro e w' ⟨rfl, hk⟩; have d0 := hk.cell c0 (fun h => h); have fz := hk.frozen c0 (fun h => h); rw [blk_frozen h'.out] at fz)
  go_ret2
  refine ⟨rfl, (hk.mono (fun _ _ h => h.elim)).trans (Keeps.setCell _ _ _ _ rfl), ?_⟩
  unfold SendAt
  rw [blk_set (h'.out.keeps hk (fun h => h))]
  rfl
set_option maxHeartbeats 400000 in
theorem chear_no (b : Nat) (sent limit s : Int) (w : World) (h : SendAt w b sent limit) (h0 : decide (widen limit s ≤ limit) = true ∨ (decide (widen limit s ≤ limit) = false ∧ decide (W64 (sent + 8) < widen limit s) = true)) :
    Calls Tryz.prog 120 #[.pointer (some ⟨b, 0, none⟩), .int .u16 s] w fun e w' => e = .returned (.bool false) ∧ Keeps (fun _ => False) w w' := by
  have c0 := h.sent
  have c1 := h.limit
  clear h
  rcases h0 with h0 | ⟨h0, h1⟩
  all_goals
    go_enter Tryz.func120, Tryz.ntmps120
    go_wp2_with (go_at_call 165; refine (widen_runs _ _ _).mono ?_; rintro e w' ⟨rfl, hw⟩; subst w')
    go_ret
    exact ⟨rfl, Keeps.refl _ _⟩
set_option maxHeartbeats 400000 in
theorem chear_yes (b : Nat) (sent limit s : Int) (w : World) (h : SendAt w b sent limit) (h0 : decide (widen limit s ≤ limit) = false) (h1 : decide (W64 (sent + 8) < widen limit s) = false) :
    Calls Tryz.prog 120 #[.pointer (some ⟨b, 0, none⟩), .int .u16 s] w fun e w' => e = .returned (.bool true) ∧ Keeps (fun k => k = b) w w' ∧ SendAt w' b sent (widen limit s) := by
  have c0 := h.sent
  have c1 := h.limit
  have fz := blk_frozen h 1
  have h' := Lib.hid h
  clear h
  go_enter Tryz.func120, Tryz.ntmps120
  go_wp2_with (go_at_call 165; refine (widen_runs _ _ _).mono ?_; rintro e w' ⟨rfl, hw⟩; subst w')
  go_ret
  refine ⟨rfl, Keeps.setCell _ _ _ _ rfl, ?_⟩
  unfold SendAt
  rw [blk_set (b := b) h'.out]
  rfl
def hearC (sent limit s : Int) : Int := if widen limit s ≤ limit ∨ W64 (sent + 8) < widen limit s then limit else widen limit s
theorem chear_runs (b : Nat) (sent limit s : Int) (w : World) (h : SendAt w b sent limit) :
    Calls Tryz.prog 120 #[.pointer (some ⟨b, 0, none⟩), .int .u16 s] w fun e w' => (∃ r, e = .returned (.bool r)) ∧ Keeps (fun k => k = b) w w' ∧ SendAt w' b sent (hearC sent limit s) := by
  unfold hearC
  by_cases h0 : widen limit s ≤ limit
  · rw [if_pos (.inl h0)]
    refine (chear_no b sent limit s w h (.inl (decide_eq_true h0))).mono ?_
    rintro e w' ⟨rfl, hk⟩
    exact ⟨⟨_, rfl⟩, hk.mono (fun _ _ h => h.elim), h.keeps hk (fun h => h)⟩
  · by_cases h1 : W64 (sent + 8) < widen limit s
    · rw [if_pos (.inr h1)]
      refine (chear_no b sent limit s w h (.inr ⟨decide_eq_false h0, decide_eq_true h1⟩)).mono ?_
      rintro e w' ⟨rfl, hk⟩
      exact ⟨⟨_, rfl⟩, hk.mono (fun _ _ h => h.elim), h.keeps hk (fun h => h)⟩
    · rw [if_neg (by rintro (h | h) <;> contradiction)]
      refine (chear_yes b sent limit s w h (decide_eq_false h0) (decide_eq_false h1)).mono ?_
      rintro e w' ⟨rfl, hk, hs⟩
      exact ⟨⟨_, rfl⟩, hk, hs⟩
def nextN (sent limit : Int) : Int := if opn sent limit = 0 then 0 else sent
def nextS (sent limit : Int) : Int := if opn sent limit = 0 then sent else W64 (sent + 1)
theorem cnext_runs (b : Nat) (sent limit : Int) (w : World) (h : SendAt w b sent limit) :
    Calls Tryz.prog 185 #[.pointer (some ⟨b, 0, none⟩)] w fun e w' => (∃ r, e = .returned (.tuple #[.int .u64 (nextN sent limit), .bool r])) ∧ Keeps (fun k => k = b) w w' ∧ SendAt w' b (nextS sent limit) limit := by
  unfold nextN nextS
  by_cases h0 : opn sent limit = 0
  · rw [if_pos h0, if_pos h0]
    refine (cnext_none b sent limit w h (beq_iff_eq.2 h0)).mono ?_
    rintro e w' ⟨rfl, hk⟩
    exact ⟨⟨_, rfl⟩, hk.mono (fun _ _ h => h.elim), h.keeps hk (fun h => h)⟩
  · rw [if_neg h0, if_neg h0]
    refine (cnext_some b sent limit w h (beq_eq_false_iff_ne.2 h0)).mono ?_
    rintro e w' ⟨rfl, hk, hs⟩
    exact ⟨⟨_, rfl⟩, hk, hs⟩
set_option maxHeartbeats 400000 in
theorem cnew_runs (sent room : Int) (w : World) (h0 : sent < 4611686018427387904) (h1 : 1 ≤ room) (h2 : room ≤ 8) :
    Calls Tryz.prog 82 #[.int .u64 sent, .int .i64 room] w fun e w' => e = .returned (.pointer (some ⟨w.heap.size, 0, none⟩)) ∧ w' = w.alloc (.cells #[.int .u64 sent, .int .u64 (W64 (sent + room))] 242) := by
  go_enter Tryz.func82, Tryz.ntmps82
  go_wp2
  go_ret
  exact ⟨rfl, rfl⟩
end Go.Proofs.YtebnflpanfmicaaGreatDoor
namespace Go.Proofs.YtebnflpanfmicaaGreatDoor
open Go.RowKit
def RecvAt (w : World) (b : Nat) (next held room : Int) : Prop := w.heap[b]? = some (.cells #[.int .u64 next, .int .i64 held, .int .i64 room] 244 (0, 0))
theorem RecvAt.keeps {w w' : World} {F : Nat → Prop} {b : Nat} {next held room : Int} (h : RecvAt w b next held room) (hk : Keeps F w w') (hF : ¬ F b) : RecvAt w' b next held room := blk_keeps hk h hF
theorem RecvAt.next {w : World} {b : Nat} {next held room : Int} (h : RecvAt w b next held room) : w.cell? ⟨b, 0, none⟩ = some (.int .u64 next) := by rw [blk_cell h]; rfl
theorem RecvAt.held {w : World} {b : Nat} {next held room : Int} (h : RecvAt w b next held room) : w.cell? ⟨b, 1, none⟩ = some (.int .i64 held) := by rw [blk_cell h]; rfl
theorem RecvAt.room {w : World} {b : Nat} {next held room : Int} (h : RecvAt w b next held room) : w.cell? ⟨b, 2, none⟩ = some (.int .i64 room) := by rw [blk_cell h]; rfl
def rfree (held room : Int) : Int := W64 (wrap64 (room - held))
def rlim (next held room : Int) : Int := W64 (next + rfree held room)
def far (next s : Int) : Int := W64 (widen next s - next)
set_option maxHeartbeats 400000 in
theorem rlimit_runs (b : Nat) (next held room : Int) (w : World) (h : RecvAt w b next held room) :
    Calls Tryz.prog 110 #[.pointer (some ⟨b, 0, none⟩)] w fun e w' => e = .returned (.int .u64 (rlim next held room)) ∧ Keeps (fun _ => False) w w' := by
  have c0 := h.next
  have c1 := h.held
  have c2 := h.room
  go_enter Tryz.func110, Tryz.ntmps110
  go_wp2
  go_quiet (fail)
  go_wp2
  go_ret
  exact ⟨rfl, Keeps.drewN _ _ _⟩
set_option maxHeartbeats 400000 in
theorem held_runs (b : Nat) (next held room : Int) (w : World) (h : RecvAt w b next held room) :
    Calls Tryz.prog 112 #[.pointer (some ⟨b, 0, none⟩)] w fun e w' => e = .returned (.int .i64 held) ∧ w = w' := by
  have c1 := h.held
  go_enter Tryz.func112, Tryz.ntmps112
  go_wp2
  go_ret
  exact ⟨rfl, rfl⟩
set_option maxHeartbeats 400000 in
theorem expects_runs (b : Nat) (next held room : Int) (w : World) (h : RecvAt w b next held room) :
    Calls Tryz.prog 114 #[.pointer (some ⟨b, 0, none⟩)] w fun e w' => e = .returned (.int .u64 next) ∧ w = w' := by
  have c0 := h.next
  go_enter Tryz.func114, Tryz.ntmps114
  go_wp2
  go_ret
  exact ⟨rfl, rfl⟩
set_option maxHeartbeats 400000 in
theorem ahead_runs (b : Nat) (next held room s : Int) (w : World) (h : RecvAt w b next held room) :
    Calls Tryz.prog 169 #[.pointer (some ⟨b, 0, none⟩), .int .u16 s] w fun e w' =>
      e = .returned (.tuple #[.int .u64 (widen next s), .int .u64 (far next s), .bool (decide (next ≤ widen next s))]) ∧ Keeps (fun _ => False) w w' := by
  have c0 := h.next
  go_enter Tryz.func169, Tryz.ntmps169
  go_wp2_with (go_at_call 165; refine (widen_runs _ _ _).mono ?_; rintro e w' ⟨rfl, hw⟩; subst w')
  go_quiet (fail)
  go_wp2
  go_ret3
  exact ⟨rfl, Keeps.drewN _ _ _⟩
def hearNo (next held room s : Int) : Prop := widen next s < next ∨ far next s = 0 ∨ rfree held room < far next s
instance (next held room s : Int) : Decidable (hearNo next held room s) := by unfold hearNo; infer_instance
def hearR (next held room s : Int) : Int := if hearNo next held room s then next else widen next s
set_option maxHeartbeats 800000 in
theorem rhear_no (b : Nat) (next held room s : Int) (w : World) (h : RecvAt w b next held room) (h0 : hearNo next held room s) :
    Calls Tryz.prog 121 #[.pointer (some ⟨b, 0, none⟩), .int .u16 s] w fun e w' => e = .returned (.bool false) ∧ Keeps (fun _ => False) w w' := by
  have c1 := h.held
  have c2 := h.room
  have h' := Lib.hid h
  have hcase : decide (next ≤ widen next s) = false ∨ (decide (next ≤ widen next s) = true ∧ (far next s == 0) = true) ∨ (decide (next ≤ widen next s) = true ∧ (far next s == 0) = false ∧ decide (W64 (wrap64 (room - held)) < far next s) = true) := by
    by_cases a : next ≤ widen next s
    · by_cases f : far next s = 0
      · exact .inr (.inl ⟨decide_eq_true a, beq_iff_eq.2 f⟩)
      · refine .inr (.inr ⟨decide_eq_true a, beq_eq_false_iff_ne.2 f, decide_eq_true ?_⟩)
        rcases h0 with h0 | h0 | h0
        · omega
        · exact absurd h0 f
        · exact h0
    · exact .inl (decide_eq_false a)
  clear h h0
  rcases hcase with h0 | ⟨h0, h1⟩ | ⟨h0, h1, h2⟩
  all_goals
    go_enter Tryz.func121, Tryz.ntmps121
    go_wp2_with (go_at_call 169; refine (ahead_runs _ _ _ _ _ _ h'.out).mono ?_; rintro e w' ⟨rfl, hk⟩; have d1 := hk.cell c1 (fun h => h); have d2 := hk.cell c2 (fun h => h))
    go_quiet (fail)
    go_wp2
    go_ret
    exact ⟨rfl, hk.trans (Keeps.drewN _ _ _)⟩
set_option maxHeartbeats 800000 in
theorem rhear_yes (b : Nat) (next held room s : Int) (w : World) (h : RecvAt w b next held room) (h0 : ¬ hearNo next held room s) :
    Calls Tryz.prog 121 #[.pointer (some ⟨b, 0, none⟩), .int .u16 s] w fun e w' => e = .returned (.bool true) ∧ Keeps (fun k => k = b) w w' ∧ RecvAt w' b (widen next s) held room := by
  have c0 := h.next
  have c1 := h.held
  have c2 := h.room
  have h' := Lib.hid h
  have q0 : decide (next ≤ widen next s) = true := decide_eq_true (by unfold hearNo at h0; omega)
  have q1 : (far next s == 0) = false := beq_eq_false_iff_ne.2 (fun e => h0 (.inr (.inl e)))
  have q2 : decide (W64 (wrap64 (room - held)) < far next s) = false := decide_eq_false (fun e => h0 (.inr (.inr e)))
  clear h h0
  go_enter Tryz.func121, Tryz.ntmps121
  go_wp2_with (go_at_call 169; refine (ahead_runs _ _ _ _ _ _ h'.out).mono ?_; rintro e w' ⟨rfl, hk⟩; have d0 := hk.cell c0 (fun h => h); have d1 := hk.cell c1 (fun h => h); have d2 := hk.cell c2 (fun h => h); have fz := blk_frozen (h'.out.keeps hk (fun h => h)) 0)
  go_quiet (fail)
  go_wp2
  go_ret
  refine ⟨rfl, ((hk.mono (fun _ _ h => h.elim)).trans (Keeps.drewN _ _ _)).trans (Keeps.setCell _ _ _ _ rfl), ?_⟩
  unfold RecvAt
  rw [blk_set (b := b) (h'.out.keeps (hk.trans (Keeps.drewN _ _ _)) (fun h => h))]
  rfl
theorem rhear_runs (b : Nat) (next held room s : Int) (w : World) (h : RecvAt w b next held room) :
    Calls Tryz.prog 121 #[.pointer (some ⟨b, 0, none⟩), .int .u16 s] w fun e w' => (∃ r, e = .returned (.bool r)) ∧ Keeps (fun k => k = b) w w' ∧ RecvAt w' b (hearR next held room s) held room := by
  unfold hearR
  by_cases h0 : hearNo next held room s
  · rw [if_pos h0]
    refine (rhear_no b next held room s w h h0).mono ?_
    rintro e w' ⟨rfl, hk⟩
    exact ⟨⟨_, rfl⟩, hk.mono (fun _ _ h => h.elim), h.keeps hk (fun h => h)⟩
  · rw [if_neg h0]
    refine (rhear_yes b next held room s w h h0).mono ?_
    rintro e w' ⟨rfl, hk, hs⟩
    exact ⟨⟨_, rfl⟩, hk, hs⟩
def comeE (next held room s : Int) : Int := if widen next s < next then 60 else if rfree held room ≤ far next s then 61 else 0
set_option maxHeartbeats 800000 in
theorem come_no (b : Nat) (next held room s : Int) (w : World) (h : RecvAt w b next held room) (h0 : comeE next held room s ≠ 0) :
    Calls Tryz.prog 170 #[.pointer (some ⟨b, 0, none⟩), .int .u16 s] w fun e w' => e = .returned (.int .u16 (comeE next held room s)) ∧ Keeps (fun _ => False) w w' := by
  have c1 := h.held
  have c2 := h.room
  have h' := Lib.hid h
  have hcase : (decide (next ≤ widen next s) = false ∧ comeE next held room s = 60) ∨ (decide (next ≤ widen next s) = true ∧ decide (W64 (wrap64 (room - held)) ≤ far next s) = true ∧ comeE next held room s = 61) := by
    unfold comeE at h0 ⊢
    by_cases a : widen next s < next
    · exact .inl ⟨decide_eq_false (by omega), by rw [if_pos a]⟩
    · rw [if_neg a] at h0 ⊢
      by_cases f : rfree held room ≤ far next s
      · exact .inr ⟨decide_eq_true (by omega), decide_eq_true f, by rw [if_pos f]⟩
      · rw [if_neg f] at h0; exact absurd rfl h0
  clear h h0
  rcases hcase with ⟨h0, he⟩ | ⟨h0, h1, he⟩
  all_goals
    rw [he]
    clear he
    go_enter Tryz.func170, Tryz.ntmps170
    go_wp2_with (go_at_call 169; refine (ahead_runs _ _ _ _ _ _ h'.out).mono ?_; rintro e w' ⟨rfl, hk⟩; have d1 := hk.cell c1 (fun h => h); have d2 := hk.cell c2 (fun h => h))
    try go_quiet (fail)
    try go_wp2
    go_ret
    first
    | exact ⟨rfl, hk⟩
    | exact ⟨rfl, hk.trans (Keeps.drewN _ _ _)⟩
set_option maxHeartbeats 800000 in
theorem come_yes (b : Nat) (next held room s : Int) (w : World) (h : RecvAt w b next held room) (h0 : comeE next held room s = 0) :
    Calls Tryz.prog 170 #[.pointer (some ⟨b, 0, none⟩), .int .u16 s] w fun e w' => e = .returned (.int .u16 0) ∧ Keeps (fun k => k = b) w w' ∧ RecvAt w' b (W64 (widen next s + 1)) (wrap64 (held + 1)) room := by
  have c0 := h.next
  have c1 := h.held
  have c2 := h.room
  have h' := Lib.hid h
  have q0 : decide (next ≤ widen next s) = true := decide_eq_true (by
    unfold comeE at h0
    by_cases a : widen next s < next
    · rw [if_pos a] at h0; omega
    · omega)
  have q2 : decide (W64 (wrap64 (room - held)) ≤ far next s) = false := decide_eq_false (fun e => by
    unfold comeE at h0
    by_cases a : widen next s < next
    · rw [if_pos a] at h0; omega
    · rw [if_neg a, if_pos (show rfree held room ≤ far next s from e)] at h0; omega)
  clear h h0
  go_enter Tryz.func170, Tryz.ntmps170
  go_wp2_with (go_at_call 169; refine (ahead_runs _ _ _ _ _ _ h'.out).mono ?_; rintro e w' ⟨rfl, hk⟩; have d0 := hk.cell c0 (fun h => h); have d1 := hk.cell c1 (fun h => h); have d2 := hk.cell c2 (fun h => h); have fz := blk_frozen (h'.out.keeps hk (fun h => h)) 0; have fz1 := blk_frozen (h'.out.keeps hk (fun h => h)) 1)
  go_quiet (fail)
  go_wp2
  go_ret
  refine ⟨rfl, (((hk.mono (fun _ _ h => h.elim)).trans (Keeps.drewN (fun k => k = b) _ _)).trans (Keeps.setCell (fun k => k = b) _ _ _ rfl)).trans (Keeps.setCell (fun k => k = b) _ _ _ rfl), ?_⟩
  unfold RecvAt
  rw [blk_set (b := b) (blk_set (b := b) (h'.out.keeps (hk.trans (Keeps.drewN _ _ _)) (fun h => h)) _ _)]
  rfl
def freeR (held : Int) : Int := if held = 0 then 0 else wrap64 (held - 1)
set_option maxHeartbeats 400000 in
theorem free_runs (b : Nat) (next held room : Int) (w : World) (h : RecvAt w b next held room) :
    Calls Tryz.prog 183 #[.pointer (some ⟨b, 0, none⟩)] w fun e w' => (∃ r, e = .returned (.bool r)) ∧ Keeps (fun k => k = b) w w' ∧ RecvAt w' b next (freeR held) room := by
  unfold freeR
  have c1 := h.held
  have fz := blk_frozen h 1
  have h' := Lib.hid h
  clear h
  by_cases h0 : held = 0
  · rw [if_pos h0]
    subst h0
    go_enter Tryz.func183, Tryz.ntmps183
    go_wp2
    go_ret
    exact ⟨⟨_, rfl⟩, Keeps.refl _ _, h'.out⟩
  · rw [if_neg h0]
    have h1 : (held == 0) = false := beq_eq_false_iff_ne.2 h0
    go_enter Tryz.func183, Tryz.ntmps183
    go_wp2
    go_ret
    refine ⟨⟨_, rfl⟩, Keeps.setCell _ _ _ _ rfl, ?_⟩
    unfold RecvAt
    rw [blk_set (b := b) h'.out]
    rfl
set_option maxHeartbeats 400000 in
theorem bnew_runs (next room : Int) (w : World) (h0 : next < 4611686018427387904) (h1 : 1 ≤ room) (h2 : room ≤ 8) :
    Calls Tryz.prog 83 #[.int .u64 next, .int .i64 room] w fun e w' => e = .returned (.pointer (some ⟨w.heap.size, 0, none⟩)) ∧ w' = w.alloc (.cells #[.int .u64 next, .int .i64 0, .int .i64 room] 244) := by
  go_enter Tryz.func83, Tryz.ntmps83
  go_wp2
  go_ret
  exact ⟨rfl, rfl⟩
end Go.Proofs.YtebnflpanfmicaaGreatDoor
namespace Go.Proofs.YtebnflpanfmicaaGreatDoor
open Go.RowKit
def Byt (w : World) (v : Value) (l : List Int) : Prop :=
  ∃ A c, v = .slice A l.length c ∧ l.length ≤ c ∧ c ≤ maxLen ∧ (0 < l.length → ∃ g off, A = some ⟨g, off, none⟩ ∧ ∀ (j : Nat) (x : Int), l[j]? = some x → w.cell? ⟨g, off + j, none⟩ = some (.int .u8 x))
theorem Byt.keeps {w w' : World} {F : Nat → Prop} {v : Value} {l : List Int} (h : Byt w v l) (hk : Keeps F w w') (hF : ∀ k, v.ownBlock = some k → ¬ F k) : Byt w' v l := by
  obtain ⟨A, c, rfl, h1, h2, h3⟩ := h
  refine ⟨A, c, rfl, h1, h2, fun h0 => ?_⟩
  obtain ⟨g, off, rfl, h4⟩ := h3 h0
  exact ⟨g, off, rfl, fun j x hx => hk.cell (h4 j x hx) (hF g rfl)⟩
abbrev encB (x : Int) : Value := .int .u8 x
theorem QS.byt {w : World} {e : Nat} {v : Value} {l : List Int} {n : Nat} (h : QS w e 1 v n (l.map encB)) : Byt w v l := by
  obtain ⟨h1, h2⟩ := h
  rw [List.length_map, Nat.mul_one] at h1
  subst h1
  rcases h2 with ⟨rfl, h0⟩ | ⟨g, off, cap, cur, rfl, hg, h3, h4, h5, h6⟩
  · exact ⟨none, 0, by rw [h0], by omega, Nat.zero_le _, fun h => by omega⟩
  · refine ⟨_, cap, rfl, h3, h4, fun h0 => ⟨g, off, rfl, fun j x hx => ?_⟩⟩
    have hj := (List.getElem?_eq_some_iff.1 hx).1
    rw [blk_cell hg, h6 j (by simpa using hj), List.getElem?_map, hx]
    rfl
theorem QS.made (W : World) (e : Nat) (cs : List Value) (n : Nat) (hn : cs.length = n) (hm : n ≤ maxLen) : QS (W.alloc (.cells cs.toArray e)) e 1 (.slice (some ⟨W.heap.size, 0, none⟩) n n) n cs :=
  ⟨by omega, .inr ⟨W.heap.size, 0, n, cs.toArray, rfl, blk_new _ _, Nat.le_refl _, hm, by simp; omega, fun j hj => by simp⟩⟩
def RegAt (w : World) (b : Nat) (r : Int) : Prop := w.heap[b]? = some (.cells #[.int .u16 r] 307 (0, 0))
theorem RegAt.keeps {w w' : World} {F : Nat → Prop} {b : Nat} {r : Int} (h : RegAt w b r) (hk : Keeps F w w') (hF : ¬ F b) : RegAt w' b r := blk_keeps hk h hF
theorem RegAt.cell {w : World} {b : Nat} {r : Int} (h : RegAt w b r) : w.cell? ⟨b, 0, none⟩ = some (.int .u16 r) := by rw [blk_cell h]; rfl
def shl1 (r : Int) : Int := W16 (r * 2)
def shiftC (r : Int) : Int := if bits .and .u16 r 32768 = 0 then shl1 r else bits .xor .u16 (shl1 r) 4129
def shiftN (r : Int) : Nat → Int
  | 0 => r
  | n + 1 => shiftC (shiftN r n)
theorem shiftN_succ (r : Int) (n : Nat) : shiftN r (n + 1) = shiftC (shiftN r n) := rfl
theorem shiftN_zero (r : Int) : shiftN r 0 = r := rfl
attribute [local irreducible] shiftN shiftC
set_option maxHeartbeats 400000 in
theorem shift_runs (b : Nat) (r : Int) (w : World) (h : RegAt w b r) :
    Calls Tryz.prog 238 #[.pointer (some ⟨b, 0, none⟩)] w fun e w' => e = .returned (.tuple #[]) ∧ Keeps (fun k => k = b) w w' ∧ RegAt w' b (shiftC r) := by
  unfold shiftC
  have c0 := h.cell
  have fz := blk_frozen h 0
  have h' := Lib.hid h
  clear h
  by_cases h0 : bits .and .u16 r 32768 = 0
  · rw [if_pos h0]
    have h1 : (bits .and .u16 r 32768 == 0) = true := beq_iff_eq.2 h0
    go_enter Tryz.func238, Tryz.ntmps238
    go_wp2
    go_end0
    refine ⟨rfl, Keeps.setCell _ _ _ _ rfl, ?_⟩
    unfold RegAt
    rw [blk_set (b := b) h'.out]
    rfl
  · rw [if_neg h0]
    have h1 : (bits .and .u16 r 32768 == 0) = false := beq_eq_false_iff_ne.2 h0
    go_enter Tryz.func238, Tryz.ntmps238
    go_wp2
    go_end0
    refine ⟨rfl, (Keeps.setCell (fun k => k = b) _ _ _ rfl).trans (Keeps.setCell (fun k => k = b) _ _ _ rfl), ?_⟩
    unfold RegAt
    rw [blk_set (b := b) (blk_set (b := b) h'.out _ _)]
    rfl
def takeC (r c : Int) : Int := shiftN (bits .xor .u16 r (W16 (W16 c * 256))) 8
set_option maxHeartbeats 400000 in
theorem ctake_runs (b : Nat) (r c : Int) (w : World) (h : RegAt w b r) :
    Calls Tryz.prog 207 #[.pointer (some ⟨b, 0, none⟩), .int .u8 c] w fun e w' => e = .returned (.tuple #[]) ∧ Keeps (fun k => k = b) w w' ∧ RegAt w' b (takeC r c) := by
  unfold takeC
  have c0 := h.cell
  have fz := blk_frozen h 0
  have h' := Lib.hid h
  clear h
  go_enter Tryz.func207, Tryz.ntmps207
  go_wp2
  have h0 : RegAt (w.setCell ⟨b, 0, none⟩ (.int .u16 (bits .xor .u16 r (W16 (W16 c * 256))))) b (bits .xor .u16 r (W16 (W16 c * 256))) := by
    unfold RegAt
    rw [blk_set (b := b) h'.out]
    rfl
  have k0 : Keeps (fun k => k = b) w (w.setCell ⟨b, 0, none⟩ (.int .u16 (bits .xor .u16 r (W16 (W16 c * 256))))) := Keeps.setCell _ _ _ _ rfl
  clear c0 fz h'
  generalize w.setCell ⟨b, 0, none⟩ (.int .u16 (bits .xor .u16 r (W16 (W16 c * 256)))) = w0 at *
  go_loopw [12] (fun s wr => ∃ i : Nat, i ≤ 8 ∧ s = .int .i64 (i : Int) ∧ Keeps (fun k => k = b) w wr ∧ RegAt wr b (shiftN (bits .xor .u16 r (W16 (W16 c * 256))) i)) (fun s _ => 8 - (intOf s).toNat)
  case atStart => exact ⟨0, by decide, rfl, k0, by rw [shiftN_zero]; exact h0⟩
  case round =>
    obtain ⟨i, hi, rfl, hk, hr⟩ := hrel
    by_cases h8 : i < 8
    · have h8' : (i : Int) < 8 := by omega
      go_wp2_with (go_at_call 238; refine (shift_runs _ _ _ hr).mono ?_; rintro e w1 ⟨rfl, hk1, hr1⟩)
      go_roundw
      case rel => exact ⟨i + 1, by omega, by simp, hk.trans hk1, by rw [shiftN_succ]; exact hr1⟩
      case measure => simp [intOf]; omega
    · obtain rfl : i = 8 := by omega
      go_wp2_with fail
      go_end0
      exact ⟨rfl, hk, hr⟩
def crcC (l : List Int) (r : Int) : Int := l.foldl takeC r
theorem crcC_take (l : List Int) (r : Int) (i : Nat) (x : Int) (h : l[i]? = some x) : crcC (l.take (i + 1)) r = takeC (crcC (l.take i) r) x := by
  unfold crcC
  rw [List.take_add_one, h, List.foldl_append]
  rfl
def sumC (l : List Int) : Int := crcC l 65535
set_option maxHeartbeats 800000 in
theorem sum_runs (v : Value) (l : List Int) (w : World) (h : Byt w v l) :
    Calls Tryz.prog 166 #[v] w fun e w' => e = .returned (.int .u16 (sumC l)) ∧ Keeps (fun _ => False) w w' := by
  obtain ⟨A, cap, rfl, h1, h2, h3⟩ := h
  have hmx : cap ≤ 9223372036854775807 := by unfold maxLen at h2; omega
  obtain ⟨n, hn⟩ : ∃ n, n = l.length := ⟨_, rfl⟩
  rw [← hn] at h1 h3 ⊢
  have hn' := Lib.hid hn
  have h3' := Lib.hid h3
  clear hn h3
  go_enter Tryz.func166, Tryz.ntmps166
  go_wp2
  have h0 : RegAt (w.alloc (.cells #[.int .u16 65535] 307)) w.heap.size 65535 := blk_new _ _
  have k0 : Keeps (fun _ => False) w (w.alloc (.cells #[.int .u16 65535] 307)) := Keeps.alloc _ _ _
  go_loopw [8] (fun s wr => ∃ i : Nat, i ≤ n ∧ s = .int .i64 (i : Int) ∧ Keeps (fun _ => False) w wr ∧ RegAt wr w.heap.size (crcC (l.take i) 65535)) (fun s _ => n - (intOf s).toNat)
  case atStart => exact ⟨0, Nat.zero_le _, rfl, k0, h0⟩
  case round =>
    obtain ⟨i, hi, rfl, hk, hr⟩ := hrel
    by_cases hin : i < n
    · have hin' : (i : Int) < (n : Int) := by omega
      obtain ⟨g, off, hA, hc⟩ := h3'.out (by omega)
      obtain ⟨x, hx⟩ : ∃ x, l[i]? = some x := ⟨_, List.getElem?_eq_getElem (hn'.out ▸ hin)⟩
      have ci := hk.cell (hc i x hx) (fun h => h)
      have hlt : g < w.heap.size := World.block_lt_of_cell? w _ (hc i x hx)
      have hst := Lib.hid (crcC_take l 65535 i x hx)
      subst hA
      clear hc hx
      generalize crcC (List.take i l) 65535 = r at *
      go_wp2_with (go_at_call 207; refine (ctake_runs _ _ _ _ hr).mono ?_; rintro e w1 ⟨rfl, hk1, hr1⟩)
      go_roundw
      case rel => exact ⟨i + 1, by omega, by simp, hk.then hk1 (fun j hj e => by omega), by rw [hst.out]; exact hr1⟩
      case measure => simp [intOf]; omega
    · obtain rfl : i = n := by omega
      have c0 := hr.cell
      have he := hn'.out
      rw [he, List.take_length] at c0
      go_wp2_with fail
      go_ret
      exact ⟨rfl, hk⟩
end Go.Proofs.YtebnflpanfmicaaGreatDoor
namespace Go.Proofs.YtebnflpanfmicaaGreatDoor
open Go.RowKit
structure Frm where
  kind : Int
  lane : Int
  seq : Int
  src : Int
  dst : Int
  body : Int
  deriving DecidableEq
abbrev Frm.val (f : Frm) : Value := .agg #[.int .u8 f.kind, .int .u8 f.lane, .int .u16 f.seq, .int .u8 f.src, .int .u8 f.dst, .int .u32 f.body]
abbrev Frm.zero : Frm := ⟨0, 0, 0, 0, 0, 0⟩
def soundF (f : Frm) : Prop :=
  (f.kind = 1 ∧ f.lane < 3 ∧ max f.src f.dst < 6 ∧ f.src ≠ f.dst) ∨ ((f.kind = 2 ∨ f.kind = 3) ∧ f.lane < 3 ∧ f.src = 0 ∧ f.dst = 0 ∧ f.body = 0)
instance (f : Frm) : Decidable (soundF f) := by unfold soundF; infer_instance
set_option maxHeartbeats 1000000 in
theorem sound_runs (f : Frm) (w : World) :
    Calls Tryz.prog 168 #[f.val] w fun e w' => e = .returned (.bool (decide (soundF f))) ∧ Keeps (fun _ => False) w w' := by
  obtain ⟨k, l, s, x, y, b⟩ := f
  obtain ⟨r, hr⟩ : ∃ r, r = decide (soundF ⟨k, l, s, x, y, b⟩) := ⟨_, rfl⟩
  rw [← hr]
  unfold soundF at hr
  have hr' := Lib.hid hr
  clear hr
  by_cases k1 : k = 1
  · subst k1
    go_enter Tryz.func168, Tryz.ntmps168
    go_wp2
    all_goals
      go_ret
      refine ⟨?_, Keeps.alloc _ _ _⟩
      simp only [Array.getD, List.getElem_toArray]
      first
      | (rw [hr'.out]; simp; rw [decide_eq_true (show l < 3 from by omega), decide_eq_true (show max x y < 6 from by omega)]; by_cases hxy : x = y <;> simp [hxy]; done)
      | (rw [hr'.out]; simp; try omega)
  · have q1 : (k == 1) = false := beq_eq_false_iff_ne.2 k1
    by_cases k2 : k = 2
    · subst k2
      go_enter Tryz.func168, Tryz.ntmps168
      go_wp2
      all_goals
        go_ret
        refine ⟨?_, Keeps.alloc _ _ _⟩
        rw [hr'.out]
        simp
        try omega
    · have q2 : (k == 2) = false := beq_eq_false_iff_ne.2 k2
      by_cases k3 : k = 3
      · subst k3
        go_enter Tryz.func168, Tryz.ntmps168
        go_wp2
        all_goals
          go_ret
          refine ⟨?_, Keeps.alloc _ _ _⟩
          rw [hr'.out]
          simp
          try omega
      · have q3 : (k == 3) = false := beq_eq_false_iff_ne.2 k3
        go_enter Tryz.func168, Tryz.ntmps168
        go_wp2
        all_goals
          go_ret
          refine ⟨?_, Keeps.alloc _ _ _⟩
          rw [hr'.out]
          simp [k1, k2, k3]
end Go.Proofs.YtebnflpanfmicaaGreatDoor
