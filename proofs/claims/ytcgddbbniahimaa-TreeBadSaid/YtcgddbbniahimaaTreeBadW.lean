/-
  The law TreeBad, walked.
-/
import Derived.Test.YtcgddbbniahimaaTreeLawKit
set_option linter.unusedVariables false
set_option linter.unusedSimpArgs false
namespace Go.Proofs.Ytcgddbbniahimaa
open Go.RowKit

set_option maxHeartbeats 4000000 in
theorem treeBad_walk (v0 : Value) (a1 a2 : Int) (W : World) (w0 : Arg Try.prog W 22 v0) (w1 : (Lit.int .u8 a1).wf = true) (w2 : (Lit.int .u8 a2).wf = true) :
    Calls Try.prog 3 #[v0, .int .u8 a1, .int .u8 a2] W fun e w' => e = .returned (.bool true) ∧ Below W.heap.size W w' := by
  obtain ⟨zs, hz, hR⟩ := bytes_of_arg w0
  obtain ⟨at_, rfl, hat⟩ := u8_nat w1
  obtain ⟨far, rfl, hfar⟩ := u8_nat w2
  clear w0 w1 w2
  obtain ⟨htree, hp, h5⟩ := ofL_tree zs
  go_enter Try.func3, Try.ntmps3
  go_wp2_with fail
  refine (of_calls v0 zs W hR hz).mono ?_
  rintro e A ⟨u, rfl, hu, hkA, _⟩
  clear htree
  generalize ofL zs = T at *
  obtain ⟨uA, uc, hsh, _, _⟩ := hu.shape
  subst hsh
  have hnz : ¬ ((T.length : Int) = 0) := by omega
  obtain ⟨k, hk, hkl⟩ : ∃ k : Nat, (at_ : Int) % (T.length : Int) = (k : Int) ∧ k < T.length := ⟨at_ % T.length, by rw [Int.natCast_emod], Nat.mod_lt _ hp⟩
  have hki : (k : Int) < (T.length : Int) := by omega
  have hsrc := hu.src (P := Try.prog) Try.underlying23 (one_nats T)
  have huL := hu.lt
  have H1 : Hid (∀ w1 A1 c1, QS w1 3 1 (.slice A1 T.length c1) T.length (T.map encI) → A.grownBy w1 (Value.slice none 0 0).ownBlock → ((Value.slice A1 T.length c1).ownBlock = (Value.slice none 0 0).ownBlock ∨ ∃ b, (Value.slice A1 T.length c1).ownBlock = some b ∧ A.heap.size ≤ b) →
      ∃ g off old, A1 = some ⟨g, off, none⟩ ∧ w1.cell? ⟨g, off + k, none⟩ = some old ∧ w1.frozen? ⟨g, off + k, none⟩ = false ∧ ∀ z, Src Try.prog 1 23 (.slice uA T.length uc) T.length (T.map encI) (w1.setCell ⟨g, off + k, none⟩ z) ∧ Keeps (fun _ => False) A (w1.setCell ⟨g, off + k, none⟩ z)) := Lib.hid fun w1 A1 c1 hq hg ho => by
    obtain ⟨g, off, old, rfl, h1, h2⟩ := hq.spot k hkl
    refine ⟨g, off, old, rfl, h1, h2, fun z => ?_⟩
    have hgA : A.heap.size ≤ g := by
      rcases ho with h | ⟨b, h, hle⟩
      · cases h
      · cases h; exact hle
    have hk1 : Keeps (fun _ => False) A w1 := Keeps.grown hg (fun i h => by cases h)
    have hk2 : Keeps (fun i => i = g) w1 (w1.setCell ⟨g, off + k, none⟩ z) := Keeps.setCell _ _ _ _ rfl
    have hk3 : Keeps (fun _ => False) A (w1.setCell ⟨g, off + k, none⟩ z) := hk1.then hk2 (fun i hi h => by omega)
    exact ⟨(hu.keeps hk3 (fun _ _ h => h)).src Try.underlying23 (one_nats T), hk3⟩
  have H2 : Hid (∀ w1 A1 c1, QS w1 3 1 (.slice A1 T.length c1) T.length (T.map encI) → ∃ g off old, A1 = some ⟨g, off, none⟩ ∧ w1.cell? ⟨g, off + k, none⟩ = some old ∧ w1.frozen? ⟨g, off + k, none⟩ = false) := Lib.hid fun w1 A1 c1 hq => hq.spot k hkl
  go_wp2_with (first
    | (at_builtin; refine wpList_append_QS rfl _ _ 23 23 rfl 3 _ 1 8 Try.underlying23 info_int rfl (.slice none 0 0) 0 [] rfl (QS.nil _ _ _) _ T.length (T.map encI) rfl hsrc (by decide) (by omega) ?_; intro A1 c1 w1 hq1 hg1 ho1; rw [Nat.zero_add] at hq1 ho1 ⊢; rw [List.nil_append] at hq1; obtain ⟨g, off, old, rfl, hcx, hfx, hs1⟩ := H1.out w1 A1 c1 hq1 hg1 ho1)
    | (at_builtin; refine wpList_append_QS rfl _ _ 23 23 rfl 3 _ 1 8 Try.underlying23 info_int rfl (.slice none 0 0) 0 [] rfl (QS.nil _ _ _) _ T.length (T.map encI) rfl (hs1 _).1 (by decide) (by omega) ?_; intro A2 c2 w2 hq2 hg2 ho2; rw [Nat.zero_add] at hq2 ho2 ⊢; rw [List.nil_append] at hq2; obtain ⟨g2, off2, old2, rfl, hcx2, hfx2⟩ := H2.out w2 A2 c2 hq2))
  have hkA1 := (hs1 (.int .i64 ((k : Int) + 1 + (far : Int)))).2
  have qx := hq1.set k hkl (encZ ((k : Int) + 1 + (far : Int)))
  rw [map_set_encZ] at qx
  have bx := right_bad (ps := T.map Int.ofNat) (k := k) (by simpa using hkl) ((k : Int) + 1 + (far : Int)) (by omega)
  have lx : ((T.map Int.ofNat).set k ((k : Int) + 1 + (far : Int))).length = T.length := by simp
  have lgx := qx.lt
  have qy := hq2.set k hkl (encZ (-1 - (far : Int)))
  rw [map_set_encZ] at qy
  have bY := right_bad (ps := T.map Int.ofNat) (k := k) (by simpa using hkl) (-1 - (far : Int)) (by omega)
  have ly : ((T.map Int.ofNat).set k (-1 - (far : Int))).length = T.length := by simp
  have hg2s : ∀ i, i < (w1.setCell ⟨g, off + k, none⟩ (.int .i64 ((k : Int) + 1 + (far : Int)))).heap.size → i ≠ g2 := fun i hi e => by
    rcases ho2 with h | ⟨b, h, hle⟩
    · cases h
    · cases h; subst e; exact absurd hle (Nat.not_le_of_lt hi)
  have hkV : Keeps (fun _ => False) (w1.setCell ⟨g, off + k, none⟩ (.int .i64 ((k : Int) + 1 + (far : Int)))) (w2.setCell ⟨g2, off2 + k, none⟩ (.int .i64 (-1 - (far : Int)))) :=
    (Keeps.grown (F := fun _ => False) hg2 (fun i h => by cases h)).then (Keeps.setCell (fun i => i = g2) _ _ _ rfl) (fun i hi h => hg2s i hi h)
  replace qx := qx.keeps hkV (fun _ _ h => h)
  have hk0 := (hkA.trans hkA1).trans hkV
  clear hkA1 hkV hs1 hq1 hg1 ho1 hq2 hg2 ho2 hcx hfx hcx2 hfx2 hg2s lgx H1 H2 hsrc hu huL
  generalize (T.map Int.ofNat).set k ((k : Int) + 1 + (far : Int)) = xs at *
  generalize (T.map Int.ofNat).set k (-1 - (far : Int)) = ys at *
  generalize w2.setCell ⟨g2, off2 + k, none⟩ (.int .i64 (-1 - (far : Int))) = V at *
  have hlx := Lib.hid lx
  have hly := Lib.hid ly
  clear lx ly
  have K : Hid (∀ B, Keeps (fun _ => False) V B → Reads B B.heap.size 1 (.slice (some ⟨g, off, none⟩) T.length c1) xs.length (xs.map encZ) ∧ Reads B B.heap.size 1 (.slice (some ⟨g2, off2, none⟩) T.length c2) ys.length (ys.map encZ)) := Lib.hid fun B hB => by
    rw [hlx.out, hly.out]; exact ⟨(qx.keeps hB (fun _ _ h => h)).reads, (qy.keeps hB (fun _ _ h => h)).reads⟩
  clear qx qy
  refine (lay_no Nums.zero 0 none none none 0 0 0 0 0 0 _ xs V (K.out V (Keeps.refl _ _)).1 (.inl bx)).mono ?_
  rintro e B ⟨rfl, hkB⟩
  unfold Nums.plan Nums.zero
  go_wp2_with fail
  refine (lay_no Nums.zero 0 none none none 0 0 0 0 0 0 _ ys _ (K.out _ (hkB.trans (Keeps.alloc (fun _ => False) _ _))).2 (.inl bY)).mono ?_
  rintro e C ⟨rfl, hkC⟩
  replace hkC := (hkB.trans (Keeps.alloc (fun _ => False) _ _)).trans hkC
  unfold Nums.plan Nums.zero
  clear hkB
  go_wp2_with fail
  refine (lay_no Nums.zero 0 none none none 0 0 0 0 0 0 _ [] _ ((QS.nil _ 3 _).reads) (.inr rfl)).mono ?_
  rintro e B ⟨rfl, hkB⟩
  replace hkB := (hkC.trans (Keeps.alloc (fun _ => False) _ _)).trans hkB
  unfold Nums.plan Nums.zero
  clear hkC
  go_wp2_with fail
  have c4 := fun o => lay_no Nums.zero 0 none none none 0 0 0 0 0 0 _ [0, 0, 0, 0, 0, 0] _ (reads_new (B.alloc o) [0, 0, 0, 0, 0, 0] 6 rfl (by decide)) (.inl (by decide))
  simp only [World.size_alloc] at c4
  refine (c4 _).mono ?_
  rintro e C ⟨rfl, hkC⟩
  replace hkC := ((hkB.trans (Keeps.alloc (fun _ => False) _ _)).trans (Keeps.alloc (fun _ => False) _ _)).trans hkC
  unfold Nums.plan Nums.zero
  clear hkB c4
  go_wp2_with fail
  refine (known_calls _).mono ?_
  rintro e B ⟨rfl, hkB⟩
  replace hkB := (hkC.trans (Keeps.alloc (fun _ => False) _ _)).trans hkB
  clear hkC
  go_wp2_with fail
  refine (tpath_calls _ xs 0 1 _ (K.out _ hkB).1).mono ?_
  rintro e C ⟨u, rfl, hu, hkC, _⟩
  rw [show pathI xs 0 1 = [] by unfold pathI; rw [if_neg (fun h => by rw [bx] at h; cases h.1)]] at hu
  obtain ⟨uA, uc, rfl, _, _⟩ := hu.shape
  replace hkC := hk0.trans (hkB.trans hkC)
  clear hkB hu
  go_wp2_with fail
  go_ret
  exact ⟨rfl, keeps_below hkC⟩
end Go.Proofs.Ytcgddbbniahimaa
