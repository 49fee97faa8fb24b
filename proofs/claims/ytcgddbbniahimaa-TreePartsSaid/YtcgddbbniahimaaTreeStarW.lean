/-
  The law TreeStar, walked.
-/
import Derived.Test.YtcgddbbniahimaaTreePathsW
set_option linter.unusedVariables false
set_option linter.unusedSimpArgs false
namespace Go.Proofs.Ytcgddbbniahimaa
open Go.RowKit

def star (n : Nat) : List Nat := List.replicate n 0
def wantS (v x : Nat) : Nat := if v = x then 1 else if v = 0 ∨ x = 0 then 2 else 3
theorem star_tree (n : Nat) : Tree (star n) := fun i hi => by simp [star]
theorem chain_tree (n : Nat) : Tree (List.range n) := fun i hi => by simp
theorem star_succ (n : Nat) : star (n + 1) = star n ++ [0] := by unfold star; exact List.replicate_succ'
def chkS (n v x : Nat) : Bool := (pathN (star n) v x).length == wantS v x && ((wantS v x != 3) || (pathN (star n) v x).getD 1 0 == 0) && (pathN (List.range n) v x).length == (v - x) + (x - v) + 1
theorem chkS_all : ((List.range 6).all fun n => (List.range (n + 1)).all fun v => (List.range (n + 1)).all fun x => chkS n v x) = true := by decide +kernel
theorem chkS_at {n v x : Nat} (hn : n ≤ 5) (hv : v ≤ n) (hx : x ≤ n) : (pathN (star n) v x).length = wantS v x ∧ (wantS v x = 3 → (pathN (star n) v x).getD 1 0 = 0) ∧ (pathN (List.range n) v x).length = (v - x) + (x - v) + 1 := by
  have h1 := List.all_eq_true.1 chkS_all n (List.mem_range.2 (by omega))
  have h2 := List.all_eq_true.1 h1 v (List.mem_range.2 (by omega))
  have h3 := List.all_eq_true.1 h2 x (List.mem_range.2 (by omega))
  unfold chkS at h3
  simp only [Bool.and_eq_true, beq_iff_eq, Bool.or_eq_true, bne_iff_ne] at h3
  exact ⟨h3.1.1, fun h => h3.1.2.resolve_left (fun h' => h' h), h3.2⟩
theorem pathI_tree {t : List Nat} (ht : Tree t) (h5 : t.length ≤ 5) {v x : Nat} (hv : v ≤ t.length) (hx : x ≤ t.length) : pathI (t.map Int.ofNat) v x = pathN t v x := by
  have hr : rightI (t.map Int.ofNat) = true := by
    rw [right_yes (fun j h => by
      rw [List.getElem_map]
      have := ht j (by simpa using h)
      exact ⟨Int.natCast_nonneg _, Int.ofNat_le.2 this⟩)]
    exact decide_eq_true (by rw [List.length_map]; omega)
  have e : (t.map Int.ofNat).map Int.toNat = t := by rw [List.map_map]; exact (List.map_congr_left fun _ _ => rfl).trans (List.map_id t)
  unfold pathI
  rw [if_pos ⟨hr, by omega, by omega, by rw [List.length_map]; omega, by rw [List.length_map]; omega⟩, e]
  rfl

set_option maxHeartbeats 8000000 in
theorem treeStar_walk (a0 a1 a2 : Int) (W : World) (w0 : (Lit.int .u8 a0).wf = true) (w1 : (Lit.int .u8 a1).wf = true) (w2 : (Lit.int .u8 a2).wf = true) :
    Calls Try.prog 9 #[.int .u8 a0, .int .u8 a1, .int .u8 a2] W fun e w' => e = .returned (.bool true) ∧ Below W.heap.size W w' := by
  obtain ⟨n, rfl, hn⟩ := u8_nat w0
  obtain ⟨a, rfl, ha⟩ := u8_nat w1
  obtain ⟨b, rfl, hb⟩ := u8_nat w2
  clear w0 w1 w2
  obtain ⟨N, hN, hN1, hN5⟩ : ∃ N : Nat, 1 + (n : Int) % 5 = (N : Int) ∧ 1 ≤ N ∧ N ≤ 5 := ⟨1 + n % 5, by omega, by omega, by omega⟩
  obtain ⟨v, hv, hvN⟩ : ∃ k : Nat, (a : Int) % ((N : Int) + 1) = (k : Int) ∧ k ≤ N := ⟨a % (N + 1), by rw [Int.natCast_emod]; rfl, by have := Nat.mod_lt a (show N + 1 > 0 by omega); omega⟩
  obtain ⟨x, hx, hxN⟩ : ∃ k : Nat, (b : Int) % ((N : Int) + 1) = (k : Int) ∧ k ≤ N := ⟨b % (N + 1), by rw [Int.natCast_emod]; rfl, by have := Nat.mod_lt b (show N + 1 > 0 by omega); omega⟩
  have hnz : ¬ ((N : Int) + 1 = 0) := by omega
  go_enter Try.func9, Try.ntmps9
  go_wp2_with fail
  simp only [hv, hx]
  clear hN hv hx hnz
  go_loopw [10, 11, 12] (fun l m s wr => ∃ i : Nat, i ≤ N ∧ s = .int .i64 (i : Int) ∧ QS wr 3 1 l i ((star i).map encI) ∧ QS wr 3 1 m i ((List.range i).map encI) ∧ Keeps (fun _ => False) W wr ∧ (∀ k, l.ownBlock = some k → W.heap.size ≤ k) ∧ (∀ k, m.ownBlock = some k → W.heap.size ≤ k) ∧ ∀ k, l.ownBlock = some k → m.ownBlock ≠ some k) (fun _ _ s _ => N - (intOf s).toNat)
  case atStart => exact ⟨0, Nat.zero_le _, rfl, QS.nil _ _ _, QS.nil _ _ _, Keeps.refl _ _, (fun k h => by cases h), (fun k h => by cases h), fun k h => by cases h⟩
  case round =>
    obtain ⟨i, hi, rfl, hq, hr, hk, ho1, ho2, hne⟩ := hrel
    revert hq hr ho1 ho2 hne; generalize u10 = l; generalize u11 = m; intro hq hr ho1 ho2 hne
    by_cases hil : i < N
    · have hii : (i : Int) < (N : Int) := by omega
      have hss := star_succ i
      have hrs : List.range (i + 1) = List.range i ++ [i] := List.range_succ
      have hq0 : QS (wr.alloc (.cells #[encI 0] 3)) 3 1 l i ((star i).map encI) := hq.alloc _
      have hsrc : Src Try.prog 1 23 (.slice (some ⟨wr.heap.size, 0, none⟩) 1 1) 1 [encI 0] (wr.alloc (.cells #[encI 0] 3)) :=
        src_blk Try.underlying23 (blk_new _ _) rfl (by intro jj hjj'; match jj, hjj' with | 0, _ => rfl) (by intro u hu; simp at hu; subst hu; rfl)
      have hsrc2 : ∀ w1 : World, Src Try.prog 1 23 (.slice (some ⟨w1.heap.size, 0, none⟩) 1 1) 1 [encI i] (w1.alloc (.cells #[encI i] 3)) := fun w1 =>
        src_blk Try.underlying23 (blk_new _ _) rfl (by intro jj hjj'; match jj, hjj' with | 0, _ => rfl) (by intro u hu; simp at hu; subst hu; rfl)
      have H1 : Hid (∀ w1, (wr.alloc (.cells #[encI 0] 3)).grownBy w1 l.ownBlock → QS (w1.alloc (.cells #[encI i] 3)) 3 1 m i ((List.range i).map encI)) := Lib.hid fun w1 hg =>
        (hr.keeps (F := fun k => l.ownBlock = some k) ((Keeps.alloc _ _ _).trans (Keeps.grown hg (fun i h => h))) (fun k h h' => hne k h' h)).alloc _
      go_wp2_with (first
        | (at_builtin; refine wpList_append_QS rfl _ _ 23 23 rfl 3 _ 1 8 Try.underlying23 info_int rfl l i ((star i).map encI) rfl hq0 _ 1 [encI 0] rfl hsrc (by decide) (by omega) ?_; intro A1 c1 w1 hq1 hg1 hb1; have hr1 := H1.out w1 hg1)
        | (at_builtin; refine wpList_append_QS rfl _ _ 23 23 rfl 3 _ 1 8 Try.underlying23 info_int rfl m i ((List.range i).map encI) rfl hr1 _ 1 [encI i] rfl (hsrc2 _) (by decide) (by omega) ?_; intro A2 c2 w2 hq2 hg2 hb2))
      go_roundw
      case rel =>
        have k1 : Keeps (fun k => l.ownBlock = some k) wr w1 := (Keeps.alloc _ _ _).trans (Keeps.grown hg1 (fun i h => h))
        have k2 : Keeps (fun k => m.ownBlock = some k) w1 w2 := (Keeps.alloc _ _ _).trans (Keeps.grown hg2 (fun i h => h))
        have o1 : ∀ k, (Value.slice A1 (i + 1) c1).ownBlock = some k → l.ownBlock = some k ∨ wr.heap.size ≤ k := fun k h => by
          rcases hb1 with h' | ⟨b', h', hle⟩
          · exact .inl (h' ▸ h)
          · rw [h] at h'; cases h'; rw [World.size_alloc] at hle; omega
        have o2 : ∀ k, (Value.slice A2 (i + 1) c2).ownBlock = some k → m.ownBlock = some k ∨ w1.heap.size ≤ k := fun k h => by
          rcases hb2 with h' | ⟨b', h', hle⟩
          · exact .inl (h' ▸ h)
          · rw [h] at h'; cases h'; rw [World.size_alloc] at hle; omega
        have hml := hr.lt
        have s1 := k1.size
        have s0 := hk.size
        refine ⟨i + 1, by omega, by simp, ?_, by rw [hrs, List.map_append]; exact hq2, (hk.then k1 (fun k hk' h => by have := ho1 k h; omega)).then k2 (fun k hk' h => by have := ho2 k h; omega), fun k h => ?_, fun k h => ?_, fun k h h' => ?_⟩
        · rw [hss, List.map_append]
          refine hq1.keeps k2 (fun k h h' => ?_)
          have := hml k h'
          rcases o1 k h with h2 | h2
          · exact hne k h2 h'
          · omega
        · rcases o1 k h with h2 | h2
          · exact ho1 k h2
          · omega
        · rcases o2 k h with h2 | h2
          · exact ho2 k h2
          · omega
        · have := hq1.lt k h
          rcases o2 k h' with h2 | h2
          · have := hml k h2
            rcases o1 k h with h3 | h3
            · exact hne k h3 h2
            · omega
          · omega
      case measure => simp [intOf]; omega
    · obtain rfl : i = N := by omega
      obtain ⟨lA, lc, hsh, _, _⟩ := hq.shape
      subst hsh
      obtain ⟨mA, mc, hsh, _, _⟩ := hr.shape
      subst hsh
      have hls : (star i).length = i := by simp [star]
      have hlr : (List.range i).length = i := List.length_range
      have hS : Reads wr wr.heap.size 1 (.slice lA i lc) ((star i).map Int.ofNat).length (((star i).map Int.ofNat).map encZ) := pathNs _ (by rw [hls]; exact hq)
      have hC : Reads wr wr.heap.size 1 (.slice mA i mc) ((List.range i).map Int.ofNat).length (((List.range i).map Int.ofNat).map encZ) := pathNs _ (by rw [hlr]; exact hr)
      have p1 := fun B hB => tpath_calls _ ((star i).map Int.ofNat) v x B (hS.keepsF hB hB.size)
      have p2 := fun B hB => tpath_calls _ ((List.range i).map Int.ofNat) v x B (hC.keepsF hB hB.size)
      have p3 := fun B hB => rpath_calls _ ((star i).map Int.ofNat) v x B (hS.keepsF hB hB.size)
      rw [pathI_tree (star_tree i) (by rw [hls]; omega) (by rw [hls]; omega) (by rw [hls]; omega)] at p1 p3
      rw [pathI_tree (chain_tree i) (by rw [hlr]; omega) (by rw [hlr]; omega) (by rw [hlr]; omega)] at p2
      obtain ⟨f1, f2, f3⟩ := chkS_at hN5 hvN hxN
      clear hS hC hls hlr hq hr ho1 ho2 hne hi hil
      replace f1 := Lib.hid f1
      replace f2 := Lib.hid f2
      replace f3 := Lib.hid f3
      generalize pathN (star i) v x = L1 at *
      generalize pathN (List.range i) v x = L2 at *
      go_wp2_with fail
      refine (p1 wr (Keeps.refl _ _)).mono ?_
      rintro e B ⟨y1, rfl, q1, hkB, _⟩
      clear p1
      obtain ⟨y1A, y1c, hsh, _, _⟩ := q1.shape
      subst hsh
      go_wp2_with fail
      refine (p2 B hkB).mono ?_
      rintro e C ⟨y2, rfl, q2, hkC, _⟩
      clear p2
      obtain ⟨y2A, y2c, hsh, _, _⟩ := q2.shape
      subst hsh
      replace q1 := q1.keeps hkC (fun _ _ h => h)
      have hkw := hkB.trans hkC
      clear hkB hkC q2
      replace f1 := f1.out
      replace f2 := f2.out
      replace f3 := f3.out
      unfold wantS at f1 f2
      rcases Nat.lt_trichotomy v x with hvx | hvx | hvx
      · rw [if_neg (by omega)] at f1
        have b1 : ((v : Int) == (x : Int)) = false := by rw [beq_eq_false_iff_ne]; omega
        have f3' : ((L2.length : Int) == (x : Int) - (v : Int) + 1) = true := by rw [beq_iff_eq]; omega
        have m1 : ((v : Int) - (x : Int) < (x : Int) - (v : Int)) := by omega
        by_cases hz : v = 0
        · rw [if_pos (by omega)] at f1
          have b2 : ((v : Int) == 0) = true := by rw [beq_iff_eq]; omega
          have b3 : ((x : Int) == 0) = false := by rw [beq_eq_false_iff_ne]; omega
          have f1' : ((L1.length : Int) == 2) = true := by rw [beq_iff_eq]; omega
          clear f2 f3 f1 hz hvx
          go_wp2_with fail
          refine (known_calls _).mono ?_
          rintro e D ⟨rfl, hkD⟩
          replace hkw := hkw.trans hkD
          replace q1 := q1.keeps hkD (fun _ _ h => h)
          go_wp2_with fail
          refine (p3 D hkw).mono ?_
          rintro e E ⟨y3, rfl, q3, hkE, _⟩
          replace q1 := q1.keeps hkE (fun _ _ h => h)
          go_wp2_with fail
          refine (same_calls _ y3 _ _ (pathNs _ q1) (pathNs _ q3)).mono ?_
          rintro e F ⟨rfl, hkF⟩
          go_wp2_with fail
          go_ret
          exact ⟨rfl, keeps_below (((hk.trans hkw).trans hkE).trans hkF)⟩
        · rw [if_neg (by omega)] at f1
          have b2 : ((v : Int) == 0) = false := by rw [beq_eq_false_iff_ne]; omega
          have b3 : ((x : Int) == 0) = false := by rw [beq_eq_false_iff_ne]; omega
          have f1' : ((L1.length : Int) == 3) = true := by rw [beq_iff_eq]; omega
          have f2' : L1.getD 1 0 = 0 := f2 (by rw [if_neg (by omega), if_neg (by omega)])
          have f1'' : 1 < L1.length := by omega
          clear f2 f3 f1 hz hvx
          go_wp2_with fail
          refine (known_calls _).mono ?_
          rintro e D ⟨rfl, hkD⟩
          replace hkw := hkw.trans hkD
          replace q1 := q1.keeps hkD (fun _ _ h => h)
          obtain ⟨g, off, c', e', _, hcell, _⟩ := q1.cell (by omega)
          cases e'
          have hz1 := hcell 1 (encI 0) (by rw [List.getElem?_map, List.getElem?_eq_getElem f1'']; rw [List.getD_eq_getElem?_getD, List.getElem?_eq_getElem f1''] at f2'; exact congrArg (fun k => some (encI k)) f2')
          have hlt1 : (1 : Int) < (L1.length : Int) := by omega
          clear hcell f2' f1''
          go_wp2_with fail
          refine (p3 D hkw).mono ?_
          rintro e E ⟨y3, rfl, q3, hkE, _⟩
          replace q1 := q1.keeps hkE (fun _ _ h => h)
          go_wp2_with fail
          refine (same_calls _ y3 _ _ (pathNs _ q1) (pathNs _ q3)).mono ?_
          rintro e F ⟨rfl, hkF⟩
          go_wp2_with fail
          go_ret
          exact ⟨rfl, keeps_below (((hk.trans hkw).trans hkE).trans hkF)⟩
      · subst hvx
        rw [if_pos rfl] at f1
        have b1 : ((v : Int) == (v : Int)) = true := by simp
        have f3' : ((L2.length : Int) == 1) = true := by rw [beq_iff_eq]; omega
        have f1' : ((L1.length : Int) == 1) = true := by rw [beq_iff_eq]; omega
        clear f2 f3 f1
        by_cases hz : v = 0
        · have b2 : ((v : Int) == 0) = true := by rw [beq_iff_eq]; omega
          clear hz
          go_wp2_with fail
          refine (known_calls _).mono ?_
          rintro e D ⟨rfl, hkD⟩
          replace hkw := hkw.trans hkD
          replace q1 := q1.keeps hkD (fun _ _ h => h)
          go_wp2_with fail
          refine (p3 D hkw).mono ?_
          rintro e E ⟨y3, rfl, q3, hkE, _⟩
          replace q1 := q1.keeps hkE (fun _ _ h => h)
          go_wp2_with fail
          refine (same_calls _ y3 _ _ (pathNs _ q1) (pathNs _ q3)).mono ?_
          rintro e F ⟨rfl, hkF⟩
          go_wp2_with fail
          go_ret
          exact ⟨rfl, keeps_below (((hk.trans hkw).trans hkE).trans hkF)⟩
        · have b2 : ((v : Int) == 0) = false := by rw [beq_eq_false_iff_ne]; omega
          clear hz
          go_wp2_with fail
          refine (known_calls _).mono ?_
          rintro e D ⟨rfl, hkD⟩
          replace hkw := hkw.trans hkD
          replace q1 := q1.keeps hkD (fun _ _ h => h)
          go_wp2_with fail
          refine (p3 D hkw).mono ?_
          rintro e E ⟨y3, rfl, q3, hkE, _⟩
          replace q1 := q1.keeps hkE (fun _ _ h => h)
          go_wp2_with fail
          refine (same_calls _ y3 _ _ (pathNs _ q1) (pathNs _ q3)).mono ?_
          rintro e F ⟨rfl, hkF⟩
          go_wp2_with fail
          go_ret
          exact ⟨rfl, keeps_below (((hk.trans hkw).trans hkE).trans hkF)⟩
      · rw [if_neg (by omega)] at f1
        have b1 : ((v : Int) == (x : Int)) = false := by rw [beq_eq_false_iff_ne]; omega
        have f3' : ((L2.length : Int) == (v : Int) - (x : Int) + 1) = true := by rw [beq_iff_eq]; omega
        have m1 : ¬ ((v : Int) - (x : Int) < (x : Int) - (v : Int)) := by omega
        by_cases hz : x = 0
        · rw [if_pos (by omega)] at f1
          have b2 : ((x : Int) == 0) = true := by rw [beq_iff_eq]; omega
          have b3 : ((v : Int) == 0) = false := by rw [beq_eq_false_iff_ne]; omega
          have f1' : ((L1.length : Int) == 2) = true := by rw [beq_iff_eq]; omega
          clear f2 f3 f1 hz hvx
          go_wp2_with fail
          refine (known_calls _).mono ?_
          rintro e D ⟨rfl, hkD⟩
          replace hkw := hkw.trans hkD
          replace q1 := q1.keeps hkD (fun _ _ h => h)
          go_wp2_with fail
          refine (p3 D hkw).mono ?_
          rintro e E ⟨y3, rfl, q3, hkE, _⟩
          replace q1 := q1.keeps hkE (fun _ _ h => h)
          go_wp2_with fail
          refine (same_calls _ y3 _ _ (pathNs _ q1) (pathNs _ q3)).mono ?_
          rintro e F ⟨rfl, hkF⟩
          go_wp2_with fail
          go_ret
          exact ⟨rfl, keeps_below (((hk.trans hkw).trans hkE).trans hkF)⟩
        · rw [if_neg (by omega)] at f1
          have b2 : ((x : Int) == 0) = false := by rw [beq_eq_false_iff_ne]; omega
          have b3 : ((v : Int) == 0) = false := by rw [beq_eq_false_iff_ne]; omega
          have f1' : ((L1.length : Int) == 3) = true := by rw [beq_iff_eq]; omega
          have f2' : L1.getD 1 0 = 0 := f2 (by rw [if_neg (by omega), if_neg (by omega)])
          have f1'' : 1 < L1.length := by omega
          clear f2 f3 f1 hz hvx
          go_wp2_with fail
          refine (known_calls _).mono ?_
          rintro e D ⟨rfl, hkD⟩
          replace hkw := hkw.trans hkD
          replace q1 := q1.keeps hkD (fun _ _ h => h)
          obtain ⟨g, off, c', e', _, hcell, _⟩ := q1.cell (by omega)
          cases e'
          have hz1 := hcell 1 (encI 0) (by rw [List.getElem?_map, List.getElem?_eq_getElem f1'']; rw [List.getD_eq_getElem?_getD, List.getElem?_eq_getElem f1''] at f2'; exact congrArg (fun k => some (encI k)) f2')
          have hlt1 : (1 : Int) < (L1.length : Int) := by omega
          clear hcell f2' f1''
          go_wp2_with fail
          refine (p3 D hkw).mono ?_
          rintro e E ⟨y3, rfl, q3, hkE, _⟩
          replace q1 := q1.keeps hkE (fun _ _ h => h)
          go_wp2_with fail
          refine (same_calls _ y3 _ _ (pathNs _ q1) (pathNs _ q3)).mono ?_
          rintro e F ⟨rfl, hkF⟩
          go_wp2_with fail
          go_ret
          exact ⟨rfl, keeps_below (((hk.trans hkw).trans hkE).trans hkF)⟩
end Go.Proofs.Ytcgddbbniahimaa
