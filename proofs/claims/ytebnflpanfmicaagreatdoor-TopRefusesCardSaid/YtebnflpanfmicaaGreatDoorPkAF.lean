/-
  Part 6 of the proof: TopWire.
-/
import Derived.Test.YtebnflpanfmicaaGreatDoorPkAE
import Derived.Sort.AtCall
set_option linter.unusedVariables false
set_option linter.unusedSimpArgs false
set_option linter.unusedSectionVars false
namespace Go.Proofs.YtebnflpanfmicaaGreatDoor
open Go.RowKit
abbrev W32 (x : Int) : Int := IntKind.u32.wrap x
abbrev W8 (x : Int) : Int := IntKind.u8.wrap x
def readS (n c : Int) : Int := bits .or .u32 (W32 (n * 256)) (W32 c)
def readC (l : List Int) : Int := l.foldl readS 0
theorem readC_take (l : List Int) (i : Nat) (x : Int) (h : l[i]? = some x) : readC (l.take (i + 1)) = readS (readC (l.take i)) x := by
  unfold readC
  rw [List.take_add_one, h, List.foldl_append]
  rfl
set_option maxHeartbeats 800000 in
theorem read_runs (v : Value) (l : List Int) (w : World) (h : Byt w v l) :
    Calls Tryz.prog 167 #[v] w fun e w' => e = .returned (.int .u32 (readC l)) ∧ w = w' := by
  obtain ⟨A, cap, rfl, h1, h2, h3⟩ := h
  have hmx : cap ≤ 9223372036854775807 := by unfold maxLen at h2; omega
  obtain ⟨n, hn⟩ : ∃ n, n = l.length := ⟨_, rfl⟩
  rw [← hn] at h1 h3 ⊢
  have hn' := Lib.hid hn
  have h3' := Lib.hid h3
  clear hn h3
  go_enter Tryz.func167, Tryz.ntmps167
  go_wp2
  go_loopw [3, 8] (fun r s wr => ∃ i : Nat, i ≤ n ∧ s = .int .i64 (i : Int) ∧ r = .int .u32 (readC (l.take i)) ∧ wr = w) (fun _ s _ => n - (intOf s).toNat)
  case atStart => exact ⟨0, Nat.zero_le _, rfl, rfl, rfl⟩
  case round =>
    obtain ⟨i, hi, rfl, rfl, rfl⟩ := hrel
    by_cases hin : i < n
    · have hin' : (i : Int) < (n : Int) := by omega
      obtain ⟨g, off, hA, hc⟩ := h3'.out (by omega)
      obtain ⟨x, hx⟩ : ∃ x, l[i]? = some x := ⟨_, List.getElem?_eq_getElem (hn'.out ▸ hin)⟩
      have ci := hc i x hx
      have hst := Lib.hid (readC_take l i x hx)
      subst hA
      clear hc hx
      generalize readC (List.take i l) = r at *
      go_wp2_with fail
      go_roundw
      case rel => exact ⟨i + 1, by omega, by simp, by rw [hst.out]; rfl, trivial⟩
      case measure => simp [intOf]; omega
    · obtain rfl : i = n := by omega
      have he := hn'.out
      go_wp2_with fail
      go_ret
      exact ⟨by rw [he, List.take_length]; rfl, rfl⟩
theorem info_u8 : (Tryz.prog.info? 5).map (fun i => (i.zero, i.size, i.bytes)) = some (some (.int .u8 0), 1, 1) := by kernel_rfl
def hiB (n : Int) : Int := W8 (n / 256)
def loB (n : Int) : Int := W8 n
set_option maxHeartbeats 800000 in
theorem two_runs (v : Value) (n : Nat) (l : List Int) (x : Int) (w : World) (h : QS w 5 1 v n (l.map encB)) (hn : n ≤ 100) :
    Calls Tryz.prog 173 #[v, .int .u16 x] w fun e w' => ∃ A c, e = .returned (.slice A (n + 2) c) ∧ QS w' 5 1 (.slice A (n + 2) c) (n + 2) ((l ++ [hiB x, loB x]).map encB) ∧
      Keeps (fun k => v.ownBlock = some k) w w' ∧ ((Value.slice A (n + 2) c).ownBlock = v.ownBlock ∨ ∃ b, (Value.slice A (n + 2) c).ownBlock = some b ∧ w.heap.size ≤ b) := by
  have hq0 : QS (w.alloc (.cells #[encB (hiB x), encB (loB x)] 5)) 5 1 v n (l.map encB) := h.alloc _
  have hsrc : Src Tryz.prog 1 22 (.slice (some ⟨w.heap.size, 0, none⟩) 2 2) 2 [encB (hiB x), encB (loB x)] (w.alloc (.cells #[encB (hiB x), encB (loB x)] 5)) :=
    src_blk Tryz.underlying22 (blk_new _ _) rfl (by intro jj hjj'; match jj, hjj' with | 0, _ => rfl | 1, _ => rfl) (by intro u hu; simp at hu; rcases hu with rfl | rfl <;> rfl)
  obtain ⟨A0, c0, hv, _, _⟩ := h.shape
  go_enter Tryz.func173, Tryz.ntmps173
  go_wp2_with (at_builtin; refine wpList_append_QS rfl _ _ 22 22 rfl 5 _ 1 1 Tryz.underlying22 info_u8 rfl v n (l.map encB) rfl hq0 _ 2 [encB (hiB x), encB (loB x)] rfl hsrc (by decide) (by omega) ?_; intro A1 c1 w1 hq1 hg1 ho1)
  go_ret
  refine ⟨A1, c1, rfl, ?_, (Keeps.alloc _ _ _).trans (Keeps.grown hg1 (fun i h => h)), ?_⟩
  · rw [List.map_append]; exact hq1
  · rcases ho1 with h | ⟨b, h, hb⟩
    · exact .inl h
    · exact .inr ⟨b, h, by rw [World.size_alloc] at hb; omega⟩
def fourB (x : Int) : List Int := [hiB (W16 (x / 65536)), loB (W16 (x / 65536)), hiB (W16 x), loB (W16 x)]
set_option maxHeartbeats 800000 in
theorem four_runs (v : Value) (n : Nat) (l : List Int) (x : Int) (w : World) (h : QS w 5 1 v n (l.map encB)) (hn : n ≤ 50) :
    Calls Tryz.prog 174 #[v, .int .u32 x] w fun e w' => ∃ A c, e = .returned (.slice A (n + 4) c) ∧ QS w' 5 1 (.slice A (n + 4) c) (n + 4) ((l ++ fourB x).map encB) ∧
      Keeps (fun k => v.ownBlock = some k) w w' ∧ ((Value.slice A (n + 4) c).ownBlock = v.ownBlock ∨ ∃ b, (Value.slice A (n + 4) c).ownBlock = some b ∧ w.heap.size ≤ b) := by
  go_enter Tryz.func174, Tryz.ntmps174
  have H1 := Lib.hid (two_runs v n l (W16 (x / 65536)) w h (by omega))
  have H2 := Lib.hid (p := ∀ A1 c1 w1, QS w1 5 1 (.slice A1 (n + 2) c1) (n + 2) ((l ++ [hiB (W16 (x / 65536)), loB (W16 (x / 65536))]).map encB) → _) (fun A1 c1 w1 hq => two_runs (.slice A1 (n + 2) c1) (n + 2) _ (W16 x) w1 hq (by omega))
  go_wp2_with (first | (go_at_call_has 173 (Value.int .u16 (IntKind.u16.wrap (x / 65536))); refine H1.out.mono ?_; rintro e w1 ⟨A1, c1, rfl, hq1, hk1, ho1⟩) | (go_at_call 173; refine (H2.out _ _ _ hq1).mono ?_; rintro e w2 ⟨A2, c2, rfl, hq2, hk2, ho2⟩))
  go_ret
  refine ⟨A2, c2, rfl, ?_, ?_, ?_⟩
  · rw [List.append_assoc] at hq2; exact hq2
  · refine hk1.then hk2 (fun i hi e => ?_)
    rcases ho1 with h | ⟨b, h, hb⟩
    · exact h ▸ e
    · rw [e] at h; cases h; omega
  · rcases ho2 with h | ⟨b, h, hb⟩
    · rcases ho1 with h' | ⟨b', h', hb'⟩
      · exact .inl (h.trans h')
      · exact .inr ⟨b', h.trans h', hb'⟩
    · exact .inr ⟨b, h, by have := hk1.size; omega⟩
end Go.Proofs.YtebnflpanfmicaaGreatDoor
