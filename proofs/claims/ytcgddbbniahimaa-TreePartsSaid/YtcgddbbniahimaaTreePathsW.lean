/-
  The law TreePaths, walked.
-/
import Derived.Test.YtcgddbbniahimaaTreeRefTop
set_option linter.unusedVariables false
set_option linter.unusedSimpArgs false
namespace Go.Proofs.Ytcgddbbniahimaa
open Go.RowKit

theorem pathNs (l : List Nat) {w : World} {u : Value} (h : QS w 3 1 u l.length (l.map encI)) : Reads w w.heap.size 1 u (l.map Int.ofNat).length ((l.map Int.ofNat).map encZ) := by
  rw [List.length_map, ← encN]; exact h.reads

set_option maxHeartbeats 4000000 in
theorem treePaths_walk (v0 v1 : Value) (a2 a3 a4 a5 : Int) (W : World) (w0 : Arg Try.prog W 23 v0) (w1 : Arg Try.prog W 22 v1) (w2 : (Lit.int .i64 a2).wf = true) (w3 : (Lit.int .i64 a3).wf = true) (w4 : (Lit.int .u8 a4).wf = true) (w5 : (Lit.int .u8 a5).wf = true) :
    Calls Try.prog 6 #[v0, v1, .int .i64 a2, .int .i64 a3, .int .u8 a4, .int .u8 a5] W fun e w' => e = .returned (.bool true) ∧ Below W.heap.size W w' := by
  obtain ⟨ps, hpz, hP⟩ := ints_of_arg w0
  obtain ⟨zs, hz, hR⟩ := bytes_of_arg w1
  obtain ⟨a, rfl, ha⟩ := u8_nat w4
  obtain ⟨b, rfl, hb⟩ := u8_nat w5
  obtain ⟨htree, hp, h5⟩ := ofL_tree zs
  clear w0 w1 w2 w3 w4 w5
  obtain ⟨A0, c0, hsh⟩ : ∃ A c, v0 = .slice A ps.length c := by obtain ⟨_, A, c, h, _⟩ := hP; exact ⟨A, c, h⟩
  subst hsh
  go_enter Try.func6, Try.ntmps6
  by_cases hl : 50 < ps.length
  · have hl' : (50 : Int) < (ps.length : Int) := by omega
    go_wp2_with fail
    refine (known_calls _).mono ?_
    rintro e B ⟨rfl, hkB⟩
    go_wp2_with fail
    go_ret
    exact ⟨rfl, keeps_below hkB⟩
  · have hl' : ¬ (50 : Int) < (ps.length : Int) := by omega
    go_wp2_with fail
    refine (known_calls _).mono ?_
    rintro e B ⟨rfl, hkB⟩
    go_wp2_with fail
    refine (of_calls v1 zs B (hR.keepsF hkB hkB.size) hz).mono ?_
    rintro e C ⟨u, rfl, hu, hkC, _⟩
    replace hkC := hkB.trans hkC
    clear hkB
    generalize ofL zs = T at *
    obtain ⟨uA, uc, hsh, _, _⟩ := hu.shape
    subst hsh
    have hnz : ¬ ((T.length : Int) + 1 = 0) := by omega
    obtain ⟨x, hx, hxl⟩ : ∃ k : Nat, (a : Int) % ((T.length : Int) + 1) = (k : Int) ∧ k ≤ T.length := ⟨a % (T.length + 1), by rw [Int.natCast_emod]; rfl, by have := Nat.mod_lt a (show T.length + 1 > 0 by omega); omega⟩
    obtain ⟨y, hy, hyl⟩ : ∃ k : Nat, (b : Int) % ((T.length : Int) + 1) = (k : Int) ∧ k ≤ T.length := ⟨b % (T.length + 1), by rw [Int.natCast_emod]; rfl, by have := Nat.mod_lt b (show T.length + 1 > 0 by omega); omega⟩
    have hT := pathNs T hu
    rw [List.length_map] at hT
    go_wp2_with fail
    refine (tpath_calls _ ps a2 a3 _ (hP.keepsF hkC hkC.size)).mono ?_
    rintro e D ⟨p1, rfl, hp1, hkD, _⟩
    replace hkC := hkC.trans hkD
    replace hT := hT.keepsF hkD hkD.size
    go_wp2_with fail
    refine (rpath_calls _ ps a2 a3 _ (hP.keepsF hkC hkC.size)).mono ?_
    rintro e B ⟨p2, rfl, hp2, hkB, _⟩
    replace hp1 := hp1.keeps hkB (fun _ _ h => h)
    replace hkC := hkC.trans hkB
    replace hT := hT.keepsF hkB hkB.size
    go_wp2_with fail
    refine (same_calls p1 p2 _ _ (pathNs _ hp1) (pathNs _ hp2)).mono ?_
    rintro e D ⟨rfl, hkE⟩
    replace hkC := hkC.trans hkE
    replace hT := hT.keepsF hkE hkE.size
    clear hp1 hp2 hkD hkB hkE
    go_wp2_with fail
    have hT' : Reads D D.heap.size 1 (.slice uA T.length uc) (T.map Int.ofNat).length ((T.map Int.ofNat).map encZ) := by rw [List.length_map]; exact hT
    refine (tpath_calls _ (T.map Int.ofNat) x y _ hT').mono ?_
    rintro e B ⟨p1, rfl, hp1, hkD, _⟩
    replace hkC := hkC.trans hkD
    replace hT' := hT'.keepsF hkD hkD.size
    go_wp2_with fail
    refine (rpath_calls _ (T.map Int.ofNat) x y _ hT').mono ?_
    rintro e E ⟨p2, rfl, hp2, hkB, _⟩
    replace hp1 := hp1.keeps hkB (fun _ _ h => h)
    replace hkC := hkC.trans hkB
    go_wp2_with fail
    refine (same_calls p1 p2 _ _ (pathNs _ hp1) (pathNs _ hp2)).mono ?_
    rintro e F ⟨rfl, hkE⟩
    replace hkC := hkC.trans hkE
    clear hp1 hp2 hkD hkB hkE
    go_wp2_with fail
    go_ret
    exact ⟨rfl, keeps_below hkC⟩
end Go.Proofs.Ytcgddbbniahimaa
