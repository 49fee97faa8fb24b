/-
  HostGot: the walk over the law.
-/
import Derived.Test.YtikoldphpehppaaHostSame
import Derived.Test.YtikoldphpehppaaHostLanesW
set_option linter.unusedVariables false
set_option linter.unusedSimpArgs false
namespace Go.Proofs.Ytikoldphpehppaa
open Go.RowKit

/-- One packet waits in lane 2; these came. -/
def Came2 (w0 w : World) (T E b : Nat) (S : Nat → Prop) (l : List Pkt) : Prop :=
  HostV w S T E b 3 8 (qf [] [] [⟨0, 0, 2, 1⟩] l) ∧ Below w0.heap.size w0 w ∧ (∀ j, S j → w0.heap.size ≤ j)

/-- The new memory of what was told. -/
def NewMem (w0 w : World) (E : Nat) (S : Nat → Prop) (A : Option Addr) (n : Nat) : Prop :=
  0 < n → ∃ g off cur, A = some ⟨g, off, none⟩ ∧ w.heap[g]? = some (.cells cur E (0, 0)) ∧ off + n * 4 ≤ cur.size ∧ w0.heap.size ≤ g ∧ ¬ S g

set_option maxHeartbeats 2000000 in
theorem hostGot_walk (v0 : Value) (W : World) (w0 : Arg Try.prog W 31 v0) :
    Calls Try.prog 7 #[v0] W fun e w' => e = .returned (.bool true) ∧ Below W.heap.size W w' := by
  obtain ⟨m, l, hR, hl, _⟩ := pkts_in w0
  clear w0
  obtain ⟨_, A, c, rfl, hmc, hcm, _⟩ := id hR
  have hm63 : (m : Int) ≤ 9223372036854775807 := by unfold maxLen at hcm; omega
  have hl' := Lib.hid hl
  clear hl hcm
  by_cases hbig : 100 < m
  · go_enter Try.func7, Try.ntmps7
    go_wp2_with fail
    refine (hnew_ok 3 8 _ (by omega) (by omega) (by omega) (by omega)).mono ?_
    rintro e w1 ⟨rfl, hw1⟩
    have B1 : Below W.heap.size W w1 := by rw [hw1]; exact (Below.refl _ _).alloc (Nat.le_refl _) _
    clear hw1
    go_wp2_with fail
    refine (known_any _).mono ?_
    rintro e w3 ⟨rfl, k3⟩
    go_wp2_with fail
    go_ret
    exact ⟨by simp, bel_false B1 k3⟩
  · go_enter Try.func7, Try.ntmps7
    go_wp2_with fail
    refine (hnew_ok 3 8 _ (by omega) (by omega) (by omega) (by omega)).mono ?_
    rintro e w1 ⟨rfl, hw1⟩
    have hh := (HostV.new W 3 8 55 27).qf (q0 := []) (q1 := []) (q2 := []) (q3 := []) rfl rfl rfl rfl
    rw [← hw1] at hh
    have B1 : Below W.heap.size W w1 := by rw [hw1]; exact (Below.refl _ _).alloc (Nat.le_refl _) _
    have f1 : ∀ k, k = W.heap.size → W.heap.size ≤ k := fun k h => by omega
    clear hw1
    go_wp2_with fail
    refine (put_ok _ ⟨0, 0, 2, 1⟩ 3 8 _ hh (by omega) (by omega) (by decide) (by decide) (by decide)).mono ?_
    rintro e w2 ⟨rfl, S2, h2, k2, s2⟩
    have F2 : ∃ S, Came2 W w2 55 27 W.heap.size S (l.take 0) :=
      ⟨S2, h2.qf rfl rfl rfl (by simp; rfl), bel_keeps B1 f1 k2, bel_fresh B1 f1 s2⟩
    clear h2 hh
    go_wp2_with fail
    go_loopw [4] (fun i wr => ∃ k : Nat, k ≤ m ∧ i = .int .i64 k ∧ ∃ S, Came2 W wr 55 27 W.heap.size S (l.take k)) (fun i wr => m - (intOf i).toNat)
    case atStart => exact ⟨0, by omega, rfl, F2⟩
    case round =>
      obtain ⟨k, hk, rfl, S, hh, hB, hS⟩ := hrel
      clear F2
      by_cases hlt : k < m
      · obtain ⟨x, hx⟩ : ∃ x, l[k]? = some x := ⟨_, List.getElem?_eq_getElem (by rw [hl'.out]; exact hlt)⟩
        obtain ⟨g, o, d, e1, gB, p0, p1, p2, p3⟩ := (hR.below hB).pkt x hx
        injection e1 with e1 _ e1'
        subst e1; subst e1'
        have hlt' : (k : Int) < m := by omega
        have hx' := Lib.hid hx
        clear hx
        go_wp2_with fail
        refine (eject_ok _ x 3 8 _ hh (by show (l.take k).length ≤ _; rw [List.length_take]; omega)).mono ?_
        rintro e w3 ⟨rfl, S3, h3, k3, s3⟩
        have F3 : ∃ S, Came2 W w3 55 27 W.heap.size S (l.take (k + 1)) :=
          ⟨S3, h3.qf rfl rfl rfl (by show l.take k ++ [x] = _; rw [List.take_add_one, hx'.out]; rfl), bel_keeps hB hS k3, bel_fresh hB hS s3⟩
        clear h3
        go_wp2_with fail
        go_roundw
        case rel => exact ⟨k + 1, by omega, by go_num, F3⟩
        case measure => simp [intOf]; omega
      · obtain rfl : m = k := by omega
        have hh' : HostV wr S 55 27 W.heap.size 3 8 (qf [] [] [⟨0, 0, 2, 1⟩] l) := by
          rw [List.take_of_length_le (by rw [hl'.out]; exact Nat.le_refl _)] at hh; exact hh
        clear hh
        go_wp2_with fail
        refine (got_as _ 3 8 _ hh' l m rfl hl'.out (by omega)).mono ?_
        rintro e w4 ⟨A4, c4, rfl, hq4, k4, ho4⟩
        have F4 : Came2 W w4 55 27 W.heap.size S l := ⟨hh'.keeps k4 (fun _ _ h => h), bel_false hB k4, hS⟩
        have hSlt : ∀ j, S j → j < wr.heap.size := by obtain ⟨_, _, hr⟩ := hh'; exact hr.lt
        have N4 : NewMem W w4 27 S A4 m := fun hn => by
          rcases hq4.2 with ⟨_, h0⟩ | ⟨g, off, cap, cur, hv, hg, h1, _, h3, _⟩
          · omega
          · injection hv with hv _ _
            have hge := ho4 g (by rw [hv]; rfl)
            have : m * 4 ≤ cap * 4 := Nat.mul_le_mul_right _ h1
            exact ⟨g, off, cur, hv, hg, by omega, Nat.le_trans hB.size hge, fun h => by have := hSlt g h; omega⟩
        clear hq4 ho4 hh'
        go_wp2_with fail
        go_loopw [6] (fun i wr => ∃ j : Nat, j ≤ m ∧ i = .int .i64 j ∧ Came2 W wr 55 27 W.heap.size S l ∧ NewMem W wr 27 S A4 m) (fun i wr => m - (intOf i).toNat)
        case atStart => exact ⟨0, by omega, rfl, F4, N4⟩
        case round =>
          obtain ⟨j, hj, rfl, hC, hN⟩ := hrel
          clear F4 N4
          by_cases hjm : j < m
          · obtain ⟨g, off, cur, rfl, hg, hsz, hge, hnS⟩ := hN (by omega)
            have hjm' : (j : Int) < m := by omega
            have hc3 : wr.cell? ⟨g, off + j * 4 + 3, none⟩ = some (cur[off + j * 4 + 3]'(by omega)) := by rw [blk_cell hg]; exact Array.getElem?_eq_getElem (by omega)
            have hf3 : wr.frozen? ⟨g, off + j * 4 + 3, none⟩ = false := blk_frozen hg _
            have C5 : Came2 W (wr.setCell ⟨g, off + j * 4 + 3, none⟩ (.int .u32 99)) 55 27 W.heap.size S l :=
              ⟨hC.1.keeps (Keeps.setCell (fun i => i = g) _ _ _ rfl) (fun k hk e => hnS (e ▸ hk)), hC.2.1.setCell (p := ⟨g, off + j * 4 + 3, none⟩) hge _, hC.2.2⟩
            have N5 : NewMem W (wr.setCell ⟨g, off + j * 4 + 3, none⟩ (.int .u32 99)) 27 S (some ⟨g, off, none⟩) m :=
              fun _ => ⟨g, off, _, rfl, blk_set hg _ _, by simpa using hsz, hge, hnS⟩
            clear hC hN hg
            go_wp2_with fail
            go_roundw
            case rel => exact ⟨j + 1, by omega, by go_num, C5, N5⟩
            case measure => simp [intOf]; omega
          · obtain rfl : m = j := by omega
            obtain ⟨h5, B5, f5⟩ := hC
            clear hN
            go_wp2_with fail
            refine (known_any _).mono ?_
            rintro e w6 ⟨rfl, k6⟩
            have h6 := h5.keeps k6 (fun _ _ h => h)
            have B6 := bel_false B5 k6
            go_wp2_with fail
            refine (got_as _ 3 8 _ h6 l m rfl hl'.out (by omega)).mono ?_
            rintro e w7 ⟨A7, c7, rfl, hq7, k7, _⟩
            have h7 := h6.keeps k7 (fun _ _ h => h)
            have B7 := bel_false B6 k7
            have R7 : Reads w7 w7.heap.size 4 (.slice A m c) m (pcells l) := by
              obtain ⟨r1, A', c', r2, r3, r4, r5⟩ := hR.below B7
              exact ⟨r1, A', c', r2, r3, r4, fun hn => by obtain ⟨ad, e, hb, hc⟩ := r5 hn; exact ⟨ad, e, Nat.lt_of_lt_of_le hb B7.size, hc⟩⟩
            go_wp2_with fail
            refine (same_yes _ _ m l _ (hq7.reads (by decide)) R7 (by omega)).mono ?_
            rintro e w8 ⟨rfl, k8⟩
            have h8 := h7.keeps k8 (fun _ _ h => h)
            have B8 := bel_false B7 k8
            clear hq7 R7
            go_wp2_with fail
            refine (waits_as _ 2 3 8 _ h8 (by decide) (by decide) (by decide) 1 rfl).mono ?_
            rintro e w9 ⟨rfl, rfl⟩
            go_wp2_with fail
            go_ret
            exact ⟨by simp, B8⟩

end Go.Proofs.Ytikoldphpehppaa
