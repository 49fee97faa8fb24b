/-
  Part 12 of the proof: TreeRef, TopShelf, TopClone.
-/
import Derived.Test.YtebnflpanfmicaaGreatDoorPkAK
import Derived.Shelf.Sort.Plain
import Derived.Shelf.Slices.CompactI
import Derived.Shelf.Slices.In.SortNone
import Derived.Test.YtebnflpanfmicaaGreatDoorProg
import Derived.Test.YtebnflpanfmicaaGreatDoorPkAI
set_option linter.unusedVariables false
set_option linter.unusedSimpArgs false
set_option linter.unusedSectionVars false
namespace Go.Proofs.YtebnflpanfmicaaGreatDoor
open Go.RowKit
def trimI (a b : List Nat) : Nat → Nat → Nat × Nat
  | 0, j => (0, j)
  | i + 1, j => if 1 < i + 1 ∧ 1 < j ∧ a.getD (i + 1 - 2) 0 = b.getD (j - 2) 0 then trimI a b i (j - 1) else (i + 1, j)
theorem trimI_step {a b : List Nat} {i j : Nat} (h1 : 1 < i) (h2 : 1 < j) (h : a.getD (i - 2) 0 = b.getD (j - 2) 0) : trimI a b i j = trimI a b (i - 1) (j - 1) := by
  obtain ⟨k, rfl⟩ : ∃ k, i = k + 1 := ⟨i - 1, by omega⟩
  rw [trimI, if_pos ⟨h1, h2, h⟩]; rfl
theorem trimI_end {a b : List Nat} {i j : Nat} (h : ¬ (1 < i ∧ 1 < j ∧ a.getD (i - 2) 0 = b.getD (j - 2) 0)) : trimI a b i j = (i, j) := by
  cases i with
  | zero => rfl
  | succ k => rw [trimI, if_neg h]
def pathR (t : List Nat) (v x : Nat) : List Nat :=
  (upl t v).take (trimI (upl t v) (upl t x) (upl t v).length (upl t x).length).1 ++ ((upl t x).take ((trimI (upl t v) (upl t x) (upl t v).length (upl t x).length).2 - 1)).reverse
def trees : Nat → List (List Nat)
  | 0 => [[]]
  | n + 1 => (trees n).flatMap fun t => (List.range (n + 1)).map fun p => t ++ [p]
theorem mem_trees : ∀ (n : Nat) (t : List Nat), t.length = n → Tree t → t ∈ trees n
  | 0, t, h, _ => by rw [List.eq_nil_of_length_eq_zero h]; exact List.mem_singleton.2 rfl
  | n + 1, t, h, ht => by
    have hne : t ≠ [] := fun e => by rw [e] at h; cases h
    have e := List.dropLast_concat_getLast hne
    have hd : t.dropLast.length = n := by rw [List.length_dropLast]; omega
    have htd : Tree t.dropLast := fun i hi => by
      rw [List.getElem_dropLast]
      exact ht i (by rw [List.length_dropLast] at hi; omega)
    refine List.mem_flatMap.2 ⟨t.dropLast, mem_trees n _ hd htd, List.mem_map.2 ⟨t.getLast hne, ?_, e⟩⟩
    have := ht (t.length - 1) (by omega)
    rw [← List.getLast_eq_getElem hne] at this
    exact List.mem_range.2 (by omega)
def allT (f : List Nat → Nat → Nat → Bool) : Bool := (List.range 6).all fun n => (trees n).all fun t => (List.range (n + 1)).all fun v => (List.range (n + 1)).all fun x => f t v x
theorem allT_at {f : List Nat → Nat → Nat → Bool} (h : allT f = true) {t : List Nat} (ht : Tree t) (h5 : t.length ≤ 5) {v x : Nat} (hv : v ≤ t.length) (hx : x ≤ t.length) : f t v x = true := by
  unfold allT at h
  have h1 := List.all_eq_true.1 h t.length (List.mem_range.2 (by omega))
  have h2 := List.all_eq_true.1 h1 t (mem_trees _ t rfl ht)
  have h3 := List.all_eq_true.1 h2 v (List.mem_range.2 (by omega))
  exact List.all_eq_true.1 h3 x (List.mem_range.2 (by omega))
theorem pathR_all : allT (fun t v x => pathR t v x == pathN t v x) = true := by decide +kernel
theorem pathR_eq {t : List Nat} (ht : Tree t) (h5 : t.length ≤ 5) {v x : Nat} (hv : v ≤ t.length) (hx : x ≤ t.length) : pathR t v x = pathN t v x := by
  have := allT_at pathR_all ht h5 hv hx
  simpa using this
set_option maxHeartbeats 2000000 in
theorem rright_calls (fv : Value) (ps : List Int) (w : World) (h : Reads w w.heap.size 1 fv ps.length (ps.map encZ)) :
    Calls Tryz.prog 55 #[fv] w fun e w' => e = .returned (.bool (rightI ps)) ∧ w' = w := by
  obtain ⟨A, c, hsh, hm1, hm2⟩ : ∃ A c, fv = .slice A ps.length c ∧ ps.length ≤ c ∧ c ≤ maxLen := by obtain ⟨_, A, c, h, h1, h2, _⟩ := h; exact ⟨A, c, h, h1, h2⟩
  subst hsh
  have hmx : (ps.length : Int) ≤ 9223372036854775807 := by simp only [maxLen] at hm2; omega
  clear hm1 hm2
  obtain ⟨b, hb⟩ : ∃ b, rightI ps = b := ⟨_, rfl⟩
  rw [hb]
  have hb' := Lib.hid hb
  clear hb
  go_enter Tryz.func55, Tryz.ntmps55
  go_wp2_with fail
  go_loopw [3] (fun s wr => ∃ i : Nat, i ≤ ps.length ∧ (∀ j (h : j < i) (h2 : j < ps.length), 0 ≤ ps[j] ∧ ps[j] ≤ (j : Int)) ∧ s = .int .i64 (i : Int) ∧ wr = w) (fun s _ => ps.length - (intOf s).toNat)
  case atStart => exact ⟨0, Nat.zero_le _, (fun j h => absurd h (Nat.not_lt_zero _)), rfl, rfl⟩
  case round =>
    obtain ⟨i, hi, hok, rfl, hwr⟩ := hrel
    subst hwr
    by_cases hil : i < ps.length
    · have hii : (i : Int) < (ps.length : Int) := by omega
      obtain ⟨g, off, c', e', _, _, hcell⟩ := h.at_ (by simp; omega)
      injection e' with e1 _ e2
      subst e1; subst e2
      have hci := hcell i (encZ ps[i]) (by rw [List.getElem?_map, List.getElem?_eq_getElem hil]; rfl)
      have hno := tright_no hil
      have hok' : (0 ≤ ps[i] ∧ ps[i] ≤ (i : Int)) → ∀ j (h : j < i + 1) (h2 : j < ps.length), 0 ≤ ps[j] ∧ ps[j] ≤ (j : Int) := fun hg j h1 h2 => by
        by_cases e : j = i
        · subst e; exact hg
        · exact hok j (by omega) h2
      clear hcell hok
      generalize ps[i] = z at *
      by_cases hz : z < 0
      · obtain rfl : b = false := by rw [← hb'.out]; exact hno (by omega)
        clear hno hok'
        go_wp2_with fail
        go_ret
        exact ⟨rfl, rfl⟩
      · by_cases hz2 : (i : Int) < z
        · obtain rfl : b = false := by rw [← hb'.out]; exact hno (by omega)
          clear hno hok'
          go_wp2_with fail
          go_ret
          exact ⟨rfl, rfl⟩
        · have ok := Lib.hid (hok' (by omega))
          clear hno hok'
          have hbig : (i : Int) + 1 ≤ 9223372036854775807 := by omega
          go_wp2_with fail
          go_roundw
          case rel => exact ⟨i + 1, by omega, ok.out, by simp, trivial⟩
          case measure => simp [intOf]; omega
    · have er := tright_yes (ps := ps) (fun j h => hok j (by omega) h)
      clear hok
      by_cases h6 : ps.length < 6
      · have h6' : (ps.length : Int) ≤ 5 := by omega
        obtain rfl : b = true := by rw [← hb'.out, er]; exact decide_eq_true h6
        clear er
        go_wp2_with fail
        go_ret
        exact ⟨rfl, rfl⟩
      · have h6' : ¬ (ps.length : Int) ≤ 5 := by omega
        obtain rfl : b = false := by rw [← hb'.out, er]; exact decide_eq_false h6
        clear er
        go_wp2_with fail
        go_ret
        exact ⟨rfl, rfl⟩
set_option maxHeartbeats 4000000 in
theorem rup_calls (A : Option Addr) (m c : Nat) (t : List Nat) (v : Nat) (ht : Tree t) (hv : v ≤ m) (hm : m ≤ 5) (w : World) (hG : Fam w A m t) :
    Calls Tryz.prog 56 #[.slice A m c, .int .i64 v] w fun e w' =>
      ∃ u, e = .returned u ∧ QS w' 3 1 u (upl t v).length ((upl t v).map encI) ∧ Keeps (fun _ => False) w w' ∧ ∀ k, u.ownBlock = some k → w.heap.size ≤ k := by
  have hul := upl_length ht v
  go_enter Tryz.func56, Tryz.ntmps56
  go_wp2_with fail
  have hq0 : QS (w.alloc (.cells #[encI v] 3)) 3 1 (.slice (some ⟨w.heap.size, 0, none⟩) 1 1) 1 ([v].map encI) :=
    ⟨rfl, .inr ⟨w.heap.size, 0, 1, _, rfl, blk_new _ _, Nat.le_refl _, by decide, by simp, by intro j hj; match j, hj with | 0, _ => rfl⟩⟩
  go_loopw [1, 5] (fun s l wr => ∃ (pre : List Nat) (x : Nat), upl t v = pre ++ upl t x ∧ x ≤ m ∧ s = .int .i64 (x : Int) ∧ QS wr 3 1 l (pre ++ [x]).length ((pre ++ [x]).map encI) ∧ Keeps (fun _ => False) w wr ∧ ∀ k, l.ownBlock = some k → w.heap.size ≤ k) (fun s _ _ => (intOf s).toNat)
  case atStart => exact ⟨[], v, rfl, hv, rfl, hq0, Keeps.alloc _ _ _, fun k h => by cases h; exact Nat.le_refl _⟩
  case round =>
    obtain ⟨pre, x, hx, hxm, rfl, hq, hk, hb⟩ := hrel
    revert hq hb; generalize u5 = l; intro hq hb
    by_cases hx0 : 0 < x
    · have hstep := upl_step ht hx0
      have hpar := par_lt ht hx0
      obtain ⟨j, hj1, hj2⟩ : ∃ j : Nat, (x : Int) - 1 = (j : Int) ∧ j = x - 1 := ⟨x - 1, by omega, rfl⟩
      obtain ⟨g, off, rfl, hg, hcj⟩ := (hG.keeps hk (fun _ _ h => h)).2 j (by omega)
      have hjm : (j : Int) < (m : Int) := by omega
      have hj0 : (0 : Int) ≤ (j : Int) := by omega
      rw [← hj2] at hpar hstep
      generalize t.getD j 0 = q at *
      have hlen : (pre ++ [x]).length ≤ 6 := by
        have := congrArg List.length hx
        rw [hstep, List.length_append, List.length_cons] at this
        rw [List.length_append, List.length_singleton]; omega
      have hx' : upl t v = (pre ++ [x]) ++ upl t q := by rw [hx, hstep]; simp
      have hx2 := Lib.hid hx'
      clear hj2 hx hx' hstep
      generalize pre ++ [x] = L at *
      have hq1 : QS (wr.alloc (.cells #[encI q] 3)) 3 1 l L.length (L.map encI) := hq.alloc _
      have hsrc : Src Tryz.prog 1 35 (.slice (some ⟨wr.heap.size, 0, none⟩) 1 1) 1 [encI q] (wr.alloc (.cells #[encI q] 3)) :=
        src_blk Tryz.underlying35 (blk_new _ _) rfl (by intro jj hjj'; match jj, hjj' with | 0, _ => rfl) (by intro u hu; simp at hu; subst hu; rfl)
      go_wp2_with (at_builtin; refine wpList_append_QS rfl _ _ 35 35 rfl 3 _ 1 8 Tryz.underlying35 info_int rfl l L.length (L.map encI) rfl hq1 _ 1 [encI q] rfl hsrc (by decide) (by omega) ?_; intro A1 c1 w1 hq2 hg1 ho1)
      go_roundw
      case rel =>
        have hk1 : Keeps (fun i => l.ownBlock = some i) wr w1 := (Keeps.alloc _ _ _).trans (Keeps.grown hg1 (fun i h => h))
        refine ⟨L, q, hx2.out, by omega, by simp, by rw [List.length_append, List.map_append]; exact hq2, hk.then hk1 (fun i hi h => by have := hb i h; omega), fun b hb' => ?_⟩
        rcases ho1 with h | ⟨i', h, hle⟩
        · exact hb b (h ▸ hb')
        · rw [hb'] at h; cases h; have := hk.size; rw [World.size_alloc] at hle; omega
      case measure => simp [intOf]; omega
    · obtain rfl : x = 0 := by omega
      go_wp2_with fail
      go_ret
      exact ⟨_, rfl, by rw [hx]; exact hq, hk, hb⟩
end Go.Proofs.YtebnflpanfmicaaGreatDoor
namespace Go.Proofs
open Go.Shelf
def Tryz.lays189_ren : Go.Shelf.Ren := ⟨fun | 189 => 130 | 125 => 187 | 257 => 186 | 128 => 227 | 129 => 228 | 294 => 218 | 295 => 219 | 296 => 220 | 297 => 221 | 298 => 222 | 299 => 223 | 216 => 224 | 300 => 225 | 301 => 226 | 328 => 245 | 329 => 246 | 330 => 247 | 331 => 248 | 332 => 249 | 215 => 250 | 343 => 252 | n => n, fun | 28 => 35 | 3 => 3 | 46 => 291 | 0 => 0 | 51 => 29 | 53 => 168 | 4 => 4 | 183 => 322 | 182 => 321 | 131 => 310 | 5 => 5 | 9 => 9 | 218 => 343 | 222 => 346 | 228 => 349 | 229 => 350 | n => n, fun | n => n⟩
theorem Tryz.lays189 : Go.Proofs.Lays.n189 Tryz.prog Tryz.lays189_ren := {
  mixed := by kernel_rfl
  f125 := Tryz.func187.trans (congrArg some (by kernel_rfl))
  f128 := Tryz.func227.trans (congrArg some (by kernel_rfl))
  f129 := Tryz.func228.trans (congrArg some (by kernel_rfl))
  f189 := Tryz.func130.trans (congrArg some (by kernel_rfl))
  f215 := Tryz.func250.trans (congrArg some (by kernel_rfl))
  f216 := Tryz.func224.trans (congrArg some (by kernel_rfl))
  f257 := Tryz.func186.trans (congrArg some (by kernel_rfl))
  f294 := Tryz.func218.trans (congrArg some (by kernel_rfl))
  f295 := Tryz.func219.trans (congrArg some (by kernel_rfl))
  f296 := Tryz.func220.trans (congrArg some (by kernel_rfl))
  f297 := Tryz.func221.trans (congrArg some (by kernel_rfl))
  f298 := Tryz.func222.trans (congrArg some (by kernel_rfl))
  f299 := Tryz.func223.trans (congrArg some (by kernel_rfl))
  f300 := Tryz.func225.trans (congrArg some (by kernel_rfl))
  f301 := Tryz.func226.trans (congrArg some (by kernel_rfl))
  f328 := Tryz.func245.trans (congrArg some (by kernel_rfl))
  f329 := Tryz.func246.trans (congrArg some (by kernel_rfl))
  f330 := Tryz.func247.trans (congrArg some (by kernel_rfl))
  f331 := Tryz.func248.trans (congrArg some (by kernel_rfl))
  f332 := Tryz.func249.trans (congrArg some (by kernel_rfl))
  f343 := Tryz.func252.trans (congrArg some (by kernel_rfl))
  t0 := Tryz.underlying0
  a0 := Tryz.isAgg0
  z0 := Tryz.sizeOf0
  v0 := Tryz.zeroValue0
  t3 := Tryz.underlying3
  a3 := Tryz.isAgg3
  z3 := Tryz.sizeOf3
  v3 := Tryz.zeroValue3
  t4 := Tryz.underlying4
  a4 := Tryz.isAgg4
  z4 := Tryz.sizeOf4
  v4 := Tryz.zeroValue4
  t5 := Tryz.underlying5
  a5 := Tryz.isAgg5
  z5 := Tryz.sizeOf5
  v5 := Tryz.zeroValue5
  t9 := Tryz.underlying9
  a9 := Tryz.isAgg9
  z9 := Tryz.sizeOf9
  v9 := Tryz.zeroValue9
  t28 := Tryz.underlying35
  a28 := Tryz.isAgg35
  z28 := Tryz.sizeOf35
  v28 := Tryz.zeroValue35
  t46 := Tryz.underlying291
  a46 := Tryz.isAgg291
  z46 := Tryz.sizeOf291
  v46 := Tryz.zeroValue291
  t51 := Tryz.underlying29
  a51 := Tryz.isAgg29
  z51 := Tryz.sizeOf29
  v51 := Tryz.zeroValue29
  t53 := Tryz.underlying168
  a53 := Tryz.isAgg168
  z53 := Tryz.sizeOf168
  v53 := Tryz.zeroValue168
  t131 := Tryz.underlying310
  a131 := Tryz.isAgg310
  z131 := Tryz.sizeOf310
  v131 := Tryz.zeroValue310
  t182 := Tryz.underlying321
  a182 := Tryz.isAgg321
  z182 := Tryz.sizeOf321
  v182 := Tryz.zeroValue321
  t183 := Tryz.underlying322
  a183 := Tryz.isAgg322
  z183 := Tryz.sizeOf322
  v183 := Tryz.zeroValue322
  t218 := Tryz.underlying343
  a218 := Tryz.isAgg343
  z218 := Tryz.sizeOf343
  v218 := Tryz.zeroValue343
  t222 := Tryz.underlying346
  a222 := Tryz.isAgg346
  z222 := Tryz.sizeOf346
  v222 := Tryz.zeroValue346
  t228 := Tryz.underlying349
  a228 := Tryz.isAgg349
  z228 := Tryz.sizeOf349
  v228 := Tryz.zeroValue349
  t229 := Tryz.underlying350
  a229 := Tryz.isAgg350
  z229 := Tryz.sizeOf350
  v229 := Tryz.zeroValue350 }
open Go.Sort Go.RowKit in
theorem Tryz.slices_Sort_int (blk off cap : Nat) (zs : List Int) (w : World) (hH : Holds (Value.int .i64) w blk off zs.toArray) (hblk : blk < w.heap.size) (hsz : zs.length < 4611686018427387904) :
    Calls Tryz.prog 130 #[.slice (some ⟨blk, off, none⟩) zs.length cap] w fun e w' =>
      e = .returned (.tuple #[]) ∧ ∃ n os, w' = grow (putRow (Value.int .i64) (Sort.ahead w n) blk off (zs.mergeSort fun x y => decide (x ≤ y)).toArray) os := Any.slices_Sort_int Tryz.lays189 blk off cap zs w hH hblk hsz
def Tryz.laysNm220_ren : Go.Shelf.Ren := ⟨fun | 20 => 131 | n => n, fun | 22 => 35 | 3 => 3 | 4 => 4 | 0 => 0 | n => n, fun | n => n⟩
theorem Tryz.laysNm220 : Go.Proofs.Lays2.n20 Tryz.prog Tryz.laysNm220_ren := {
  mixed := by kernel_rfl
  f20 := Tryz.func131.trans (congrArg some (by kernel_rfl))
  t0 := Tryz.underlying0
  a0 := Tryz.isAgg0
  z0 := Tryz.sizeOf0
  v0 := Tryz.zeroValue0
  t3 := Tryz.underlying3
  a3 := Tryz.isAgg3
  z3 := Tryz.sizeOf3
  v3 := Tryz.zeroValue3
  t4 := Tryz.underlying4
  a4 := Tryz.isAgg4
  z4 := Tryz.sizeOf4
  v4 := Tryz.zeroValue4
  t22 := Tryz.underlying35
  a22 := Tryz.isAgg35
  z22 := Tryz.sizeOf35
  v22 := Tryz.zeroValue35
  i3 := by kernel_rfl }
open Go.RowKit Go.Lib Go.Sort in
theorem Tryz.slices_Compact_int (blk off cap : Nat) (zs : List Int) (w : World) (hH : Holds (Value.int .i64) w blk off zs.toArray) (hsz : zs.length ≤ 9223372036854775807) (hcap : zs.length ≤ cap) :
    Calls Tryz.prog 131 #[.slice (some ⟨blk, off, none⟩) zs.length cap] w fun e w' => e = .returned (.slice (some ⟨blk, off, none⟩) (Lib.compact zs).length cap) ∧ ∃ q, w' = putRow (Value.int .i64) (Sort.ahead w q) blk off (Lib.compact zs ++ List.replicate (zs.length - (Lib.compact zs).length) 0).toArray := Any.slices_Compact_int Tryz.laysNm220 blk off cap zs w hH hsz hcap
open Go.RowKit Go.Lib Go.Sort in
theorem Tryz.slices_Compact_int_empty (a : Option Addr) (cap : Nat) (w : World) :
    Calls Tryz.prog 131 #[.slice a 0 cap] w fun e w' => e = .returned (.slice a 0 cap) ∧ w' = w := Any.slices_Compact_int_empty Tryz.laysNm220 a cap w
theorem Tryz.slices_Sort_int_none (p : Option Addr) (cap : Nat) (w : World) :
    Calls Tryz.prog 130 #[.slice p 0 cap] w fun e w' => e = .returned (.tuple #[]) ∧ w' = w := Any.slices_Sort_int_none Tryz.lays189 p cap w
end Go.Proofs
namespace Go.Proofs.YtebnflpanfmicaaGreatDoor
open Go.RowKit
theorem cloneI_nil (w : World) : Calls Tryz.prog 77 #[.slice none 0 0] w fun e w' => e = .returned (.slice none 0 0) ∧ w = w' := by
  have hn := Lib.run_eql_slice_nil (P := Tryz.prog) w 35 3 none 0 0 0 0 Tryz.underlying35
  go_enter Tryz.func77, Tryz.ntmps77
  go_wp2
  go_ret
  exact ⟨rfl, rfl⟩
theorem info_cloneI : (Tryz.prog.info? 3).map (fun i => (i.zero, i.size, i.bytes)) = some (some (.int .i64 0), 1, 8) := by kernel_rfl
set_option maxHeartbeats 1000000 in
theorem cloneI_some (a : Addr) (n cap : Nat) (cs : List Value) (w : World) (hQ : QS w 3 1 (.slice (some a) n cap) n cs) (h1 : ∀ u ∈ cs, u.oneCell' = true) (hn : n ≤ 1000000000) :
    Calls Tryz.prog 77 #[.slice (some a) n cap] w fun e w' => ∃ A c, e = .returned (.slice A n c) ∧ QS w' 3 1 (.slice A n c) n cs ∧ Keeps (fun _ => False) w w' ∧ (∀ k, (Value.slice A n c).ownBlock = some k → w.heap.size ≤ k) := by
  have hnn := Lib.run_eql_slice_nil (P := Tryz.prog) w 35 3 (some a) n cap 0 0 Tryz.underlying35
  have h0 : QS (w.alloc (.cells #[] 3)) 3 1 (.slice (some ⟨w.heap.size, 0, none⟩) 0 0) 0 [] := ⟨rfl, .inr ⟨_, 0, 0, #[], rfl, blk_new w _, Nat.le_refl _, Nat.zero_le _, by simp, fun j hj => absurd hj (Nat.not_lt_zero _)⟩⟩
  have hS := (hQ.alloc (.cells #[] 3)).src Tryz.underlying35 h1
  have hbnd : (0 + n) * 8 ≤ 140737488355328 := by omega
  have h32 : 0 < 8 := by decide
  go_enter Tryz.func77, Tryz.ntmps77
  go_wp2_with (at_builtin; refine wpList_append_QS rfl (.tmp 5) (.tmp 6) 35 35 rfl 3 _ 1 8 Tryz.underlying35 info_cloneI rfl _ 0 [] rfl h0 _ n cs rfl hS h32 hbnd ?_; intro A c w1 hq1 hg1 hb1)
  have hg2 : (w.alloc (.cells #[] 3)).grownBy w1 (some w.heap.size) := hg1
  go_ret
  refine ⟨A, c, rfl, by simpa using hq1, ⟨hg2.os, hg2.tape, hg2.output, Nat.le_trans (by simp) hg2.size, fun i hi _ => (hg2.block i (by simp; omega) (fun e => by injection e with e; omega)).trans (Below.heap_alloc _ _ _ hi)⟩, fun k hk => ?_⟩
  rw [Nat.zero_add] at hb1
  rcases hb1 with h | ⟨b, h, h'⟩
  · have h2 : (Value.slice A n c).ownBlock = some w.heap.size := h
    rw [hk] at h2; injection h2 with h2; omega
  · rw [hk] at h; injection h with h; simp at h'; omega
theorem cloneI_runs (n : Nat) (v : Value) (cs : List Value) (w : World) (hQ : QS w 3 1 v n cs) (h1 : ∀ u ∈ cs, u.oneCell' = true) (hn : n ≤ 1000000000) :
    Calls Tryz.prog 77 #[v] w fun e w' => ∃ A c, e = .returned (.slice A n c) ∧ QS w' 3 1 (.slice A n c) n cs ∧ Keeps (fun _ => False) w w' ∧ (∀ k, (Value.slice A n c).ownBlock = some k → w.heap.size ≤ k) := by
  rcases hQ.2 with ⟨rfl, rfl⟩ | ⟨g, off, cap, cur, rfl, _⟩
  · refine (cloneI_nil w).mono ?_
    rintro e w' ⟨rfl, rfl⟩
    exact ⟨none, 0, rfl, hQ, Keeps.refl _ _, fun _ h => by cases h⟩
  · exact cloneI_some _ n cap cs w hQ h1 hn
theorem cloneE_nil (w : World) : Calls Tryz.prog 76 #[.slice none 0 0] w fun e w' => e = .returned (.slice none 0 0) ∧ w = w' := by
  have hn := Lib.run_eql_slice_nil (P := Tryz.prog) w 34 149 none 0 0 0 0 Tryz.underlying34
  go_enter Tryz.func76, Tryz.ntmps76
  go_wp2
  go_ret
  exact ⟨rfl, rfl⟩
theorem info_cloneE : (Tryz.prog.info? 149).map (fun i => (i.zero, i.size, i.bytes)) = some (some (.agg #[.int .i64 0, .int .i64 0]), 2, 16) := by kernel_rfl
set_option maxHeartbeats 1000000 in
theorem cloneE_some (a : Addr) (n cap : Nat) (cs : List Value) (w : World) (hQ : QS w 149 2 (.slice (some a) n cap) n cs) (h1 : ∀ u ∈ cs, u.oneCell' = true) (hn : n ≤ 1000000000) :
    Calls Tryz.prog 76 #[.slice (some a) n cap] w fun e w' => ∃ A c, e = .returned (.slice A n c) ∧ QS w' 149 2 (.slice A n c) n cs ∧ Keeps (fun _ => False) w w' ∧ (∀ k, (Value.slice A n c).ownBlock = some k → w.heap.size ≤ k) := by
  have hnn := Lib.run_eql_slice_nil (P := Tryz.prog) w 34 149 (some a) n cap 0 0 Tryz.underlying34
  have h0 : QS (w.alloc (.cells #[] 149)) 149 2 (.slice (some ⟨w.heap.size, 0, none⟩) 0 0) 0 [] := ⟨rfl, .inr ⟨_, 0, 0, #[], rfl, blk_new w _, Nat.le_refl _, Nat.zero_le _, by simp, fun j hj => absurd hj (Nat.not_lt_zero _)⟩⟩
  have hS := (hQ.alloc (.cells #[] 149)).src Tryz.underlying34 h1
  have hbnd : (0 + n) * 16 ≤ 140737488355328 := by omega
  have h32 : 0 < 16 := by decide
  go_enter Tryz.func76, Tryz.ntmps76
  go_wp2_with (at_builtin; refine wpList_append_QS rfl (.tmp 5) (.tmp 6) 34 34 rfl 149 _ 2 16 Tryz.underlying34 info_cloneE rfl _ 0 [] rfl h0 _ n cs rfl hS h32 hbnd ?_; intro A c w1 hq1 hg1 hb1)
  have hg2 : (w.alloc (.cells #[] 149)).grownBy w1 (some w.heap.size) := hg1
  go_ret
  refine ⟨A, c, rfl, by simpa using hq1, ⟨hg2.os, hg2.tape, hg2.output, Nat.le_trans (by simp) hg2.size, fun i hi _ => (hg2.block i (by simp; omega) (fun e => by injection e with e; omega)).trans (Below.heap_alloc _ _ _ hi)⟩, fun k hk => ?_⟩
  rw [Nat.zero_add] at hb1
  rcases hb1 with h | ⟨b, h, h'⟩
  · have h2 : (Value.slice A n c).ownBlock = some w.heap.size := h
    rw [hk] at h2; injection h2 with h2; omega
  · rw [hk] at h; injection h with h; simp at h'; omega
theorem cloneE_runs (n : Nat) (v : Value) (cs : List Value) (w : World) (hQ : QS w 149 2 v n cs) (h1 : ∀ u ∈ cs, u.oneCell' = true) (hn : n ≤ 1000000000) :
    Calls Tryz.prog 76 #[v] w fun e w' => ∃ A c, e = .returned (.slice A n c) ∧ QS w' 149 2 (.slice A n c) n cs ∧ Keeps (fun _ => False) w w' ∧ (∀ k, (Value.slice A n c).ownBlock = some k → w.heap.size ≤ k) := by
  rcases hQ.2 with ⟨rfl, rfl⟩ | ⟨g, off, cap, cur, rfl, _⟩
  · refine (cloneE_nil w).mono ?_
    rintro e w' ⟨rfl, rfl⟩
    exact ⟨none, 0, rfl, hQ, Keeps.refl _ _, fun _ h => by cases h⟩
  · exact cloneE_some _ n cap cs w hQ h1 hn
theorem cloneR_nil (w : World) : Calls Tryz.prog 78 #[.slice none 0 0] w fun e w' => e = .returned (.slice none 0 0) ∧ w = w' := by
  have hn := Lib.run_eql_slice_nil (P := Tryz.prog) w 36 35 none 0 0 0 0 Tryz.underlying36
  go_enter Tryz.func78, Tryz.ntmps78
  go_wp2
  go_ret
  exact ⟨rfl, rfl⟩
theorem info_cloneR : (Tryz.prog.info? 35).map (fun i => (i.zero, i.size, i.bytes)) = some (some (.slice none 0 0), 1, 24) := by kernel_rfl
set_option maxHeartbeats 1000000 in
theorem cloneR_some (a : Addr) (n cap : Nat) (cs : List Value) (w : World) (hQ : QS w 35 1 (.slice (some a) n cap) n cs) (h1 : ∀ u ∈ cs, u.oneCell' = true) (hn : n ≤ 1000000000) :
    Calls Tryz.prog 78 #[.slice (some a) n cap] w fun e w' => ∃ A c, e = .returned (.slice A n c) ∧ QS w' 35 1 (.slice A n c) n cs ∧ Keeps (fun _ => False) w w' ∧ (∀ k, (Value.slice A n c).ownBlock = some k → w.heap.size ≤ k) := by
  have hnn := Lib.run_eql_slice_nil (P := Tryz.prog) w 36 35 (some a) n cap 0 0 Tryz.underlying36
  have h0 : QS (w.alloc (.cells #[] 35)) 35 1 (.slice (some ⟨w.heap.size, 0, none⟩) 0 0) 0 [] := ⟨rfl, .inr ⟨_, 0, 0, #[], rfl, blk_new w _, Nat.le_refl _, Nat.zero_le _, by simp, fun j hj => absurd hj (Nat.not_lt_zero _)⟩⟩
  have hS := (hQ.alloc (.cells #[] 35)).src Tryz.underlying36 h1
  have hbnd : (0 + n) * 24 ≤ 140737488355328 := by omega
  have h32 : 0 < 24 := by decide
  go_enter Tryz.func78, Tryz.ntmps78
  go_wp2_with (at_builtin; refine wpList_append_QS rfl (.tmp 5) (.tmp 6) 36 36 rfl 35 _ 1 24 Tryz.underlying36 info_cloneR rfl _ 0 [] rfl h0 _ n cs rfl hS h32 hbnd ?_; intro A c w1 hq1 hg1 hb1)
  have hg2 : (w.alloc (.cells #[] 35)).grownBy w1 (some w.heap.size) := hg1
  go_ret
  refine ⟨A, c, rfl, by simpa using hq1, ⟨hg2.os, hg2.tape, hg2.output, Nat.le_trans (by simp) hg2.size, fun i hi _ => (hg2.block i (by simp; omega) (fun e => by injection e with e; omega)).trans (Below.heap_alloc _ _ _ hi)⟩, fun k hk => ?_⟩
  rw [Nat.zero_add] at hb1
  rcases hb1 with h | ⟨b, h, h'⟩
  · have h2 : (Value.slice A n c).ownBlock = some w.heap.size := h
    rw [hk] at h2; injection h2 with h2; omega
  · rw [hk] at h; injection h with h; simp at h'; omega
theorem cloneR_runs (n : Nat) (v : Value) (cs : List Value) (w : World) (hQ : QS w 35 1 v n cs) (h1 : ∀ u ∈ cs, u.oneCell' = true) (hn : n ≤ 1000000000) :
    Calls Tryz.prog 78 #[v] w fun e w' => ∃ A c, e = .returned (.slice A n c) ∧ QS w' 35 1 (.slice A n c) n cs ∧ Keeps (fun _ => False) w w' ∧ (∀ k, (Value.slice A n c).ownBlock = some k → w.heap.size ≤ k) := by
  rcases hQ.2 with ⟨rfl, rfl⟩ | ⟨g, off, cap, cur, rfl, _⟩
  · refine (cloneR_nil w).mono ?_
    rintro e w' ⟨rfl, rfl⟩
    exact ⟨none, 0, rfl, hQ, Keeps.refl _ _, fun _ h => by cases h⟩
  · exact cloneR_some _ n cap cs w hQ h1 hn
theorem cloneH_nil (w : World) : Calls Tryz.prog 60 #[.slice none 0 0] w fun e w' => e = .returned (.slice none 0 0) ∧ w = w' := by
  have hn := Lib.run_eql_slice_nil (P := Tryz.prog) w 69 95 none 0 0 0 0 Tryz.underlying69
  go_enter Tryz.func60, Tryz.ntmps60
  go_wp2
  go_ret
  exact ⟨rfl, rfl⟩
theorem info_cloneH : (Tryz.prog.info? 95).map (fun i => (i.zero, i.size, i.bytes)) = some (some (.agg #[.int .i64 0, .int .i64 0]), 2, 16) := by kernel_rfl
set_option maxHeartbeats 1000000 in
theorem cloneH_some (a : Addr) (n cap : Nat) (cs : List Value) (w : World) (hQ : QS w 95 2 (.slice (some a) n cap) n cs) (h1 : ∀ u ∈ cs, u.oneCell' = true) (hn : n ≤ 1000000000) :
    Calls Tryz.prog 60 #[.slice (some a) n cap] w fun e w' => ∃ A c, e = .returned (.slice A n c) ∧ QS w' 95 2 (.slice A n c) n cs ∧ Keeps (fun _ => False) w w' ∧ (∀ k, (Value.slice A n c).ownBlock = some k → w.heap.size ≤ k) := by
  have hnn := Lib.run_eql_slice_nil (P := Tryz.prog) w 69 95 (some a) n cap 0 0 Tryz.underlying69
  have h0 : QS (w.alloc (.cells #[] 95)) 95 2 (.slice (some ⟨w.heap.size, 0, none⟩) 0 0) 0 [] := ⟨rfl, .inr ⟨_, 0, 0, #[], rfl, blk_new w _, Nat.le_refl _, Nat.zero_le _, by simp, fun j hj => absurd hj (Nat.not_lt_zero _)⟩⟩
  have hS := (hQ.alloc (.cells #[] 95)).src Tryz.underlying69 h1
  have hbnd : (0 + n) * 16 ≤ 140737488355328 := by omega
  have h32 : 0 < 16 := by decide
  go_enter Tryz.func60, Tryz.ntmps60
  go_wp2_with (at_builtin; refine wpList_append_QS rfl (.tmp 5) (.tmp 6) 69 69 rfl 95 _ 2 16 Tryz.underlying69 info_cloneH rfl _ 0 [] rfl h0 _ n cs rfl hS h32 hbnd ?_; intro A c w1 hq1 hg1 hb1)
  have hg2 : (w.alloc (.cells #[] 95)).grownBy w1 (some w.heap.size) := hg1
  go_ret
  refine ⟨A, c, rfl, by simpa using hq1, ⟨hg2.os, hg2.tape, hg2.output, Nat.le_trans (by simp) hg2.size, fun i hi _ => (hg2.block i (by simp; omega) (fun e => by injection e with e; omega)).trans (Below.heap_alloc _ _ _ hi)⟩, fun k hk => ?_⟩
  rw [Nat.zero_add] at hb1
  rcases hb1 with h | ⟨b, h, h'⟩
  · have h2 : (Value.slice A n c).ownBlock = some w.heap.size := h
    rw [hk] at h2; injection h2 with h2; omega
  · rw [hk] at h; injection h with h; simp at h'; omega
theorem cloneH_runs (n : Nat) (v : Value) (cs : List Value) (w : World) (hQ : QS w 95 2 v n cs) (h1 : ∀ u ∈ cs, u.oneCell' = true) (hn : n ≤ 1000000000) :
    Calls Tryz.prog 60 #[v] w fun e w' => ∃ A c, e = .returned (.slice A n c) ∧ QS w' 95 2 (.slice A n c) n cs ∧ Keeps (fun _ => False) w w' ∧ (∀ k, (Value.slice A n c).ownBlock = some k → w.heap.size ≤ k) := by
  rcases hQ.2 with ⟨rfl, rfl⟩ | ⟨g, off, cap, cur, rfl, _⟩
  · refine (cloneH_nil w).mono ?_
    rintro e w' ⟨rfl, rfl⟩
    exact ⟨none, 0, rfl, hQ, Keeps.refl _ _, fun _ h => by cases h⟩
  · exact cloneH_some _ n cap cs w hQ h1 hn
end Go.Proofs.YtebnflpanfmicaaGreatDoor
