/-
  Lay, of any parents: the program's and the document's come to one result.
-/
import Derived.Test.YtcgddbbniahimaaTreeAlike
set_option linter.unusedVariables false
set_option linter.unusedSimpArgs false
namespace Go.Proofs.Ytcgddbbniahimaa
open Go.RowKit

/-- What laying comes to. -/
structure LayRes where
  q : Nums
  n : Int
  E : List (Nat × Nat)
  ws : List Int
  rows : List (List Nat)
  err : Int
def layR (q : Nums) (ws ps : List Int) : LayRes :=
  if rightI ps = true ∧ ps ≠ [] then ⟨q, (ps.length : Int) + 1, edgesOf (ps.map Int.toNat) ps.length, ws, rowsOf (ps.map Int.toNat) (ps.length + 1), 0⟩ else ⟨Nums.zero, 0, [], [], [], 120⟩
theorem layR_small (q : Nums) (ws ps : List Int) : (layR q ws ps).E.length ≤ 5 ∧ (layR q ws ps).rows.length ≤ 6 ∧ ((layR q ws ps).err = 0 ∨ (layR q ws ps).err = 120) := by
  unfold layR
  by_cases h : rightI ps = true ∧ ps ≠ []
  · rw [if_pos h]
    have := (right_tree h.1).2.1
    exact ⟨by simp only [edgesOf_length]; omega, by simp only [rowsOf_length]; omega, .inl rfl⟩
  · rw [if_neg h]; exact ⟨by simp, by simp, .inr rfl⟩
/-- What is there behind. -/
def LayIs (W w' : World) (R : LayRes) (v : Value) : Prop :=
  ∃ Eb eb Wb wb Nb nb, v = .agg (R.q.plan R.n (.slice Eb R.E.length eb) (.slice Wb R.ws.length wb) (.slice Nb R.rows.length nb)) ∧ QS w' 51 2 (.slice Eb R.E.length eb) R.E.length (ecells R.E) ∧
    QS w' 3 1 (.slice Wb R.ws.length wb) R.ws.length (R.ws.map encZ) ∧ NextIs w' W.heap.size (.slice Nb R.rows.length nb) R.rows ∧
    (∀ k, (Value.slice Eb R.E.length eb).ownBlock = some k → W.heap.size ≤ k) ∧ (∀ k, (Value.slice Wb R.ws.length wb).ownBlock = some k → W.heap.size ≤ k)
theorem LayIs.keepsF {W w' w'' : World} {R : LayRes} {v : Value} {F : Nat → Prop} (h : LayIs W w' R v) (hk : Keeps F w' w'') (hF : ∀ k, W.heap.size ≤ k → ¬ F k) : LayIs W w'' R v := by
  obtain ⟨Eb, eb, Wb, wb, Nb, nb, e, h1, h2, h3, h4, h5⟩ := h
  exact ⟨Eb, eb, Wb, wb, Nb, nb, e, h1.keeps hk (fun k hv => hF k (h4 k hv)), h2.keeps hk (fun k hv => hF k (h5 k hv)), h3.keeps hk (fun k hb _ => hF k hb), h4, h5⟩
theorem LayIs.keeps {W w' w'' : World} {R : LayRes} {v : Value} (h : LayIs W w' R v) (hk : Keeps (fun _ => False) w' w'') : LayIs W w'' R v := h.keepsF hk (fun _ _ h => h)
theorem toNat_back {ps : List Int} (h : rightI ps = true) : (ps.map Int.toNat).map Int.ofNat = ps := by
  have h3 := (right_tree h).2.2
  have h4 := congrArg (List.map intOf) h3
  rw [List.map_map, List.map_map, List.map_map] at h4
  have e1 : ps.map (intOf ∘ Value.int .i64) = ps := by
    rw [show (intOf ∘ Value.int .i64) = id from rfl, List.map_id]
  rw [e1] at h4
  rw [List.map_map]
  exact h4.symm

theorem lay_any (q : Nums) (n : Int) (Ea Wa Na : Option Addr) (en ec wc nn nc : Nat) (fv : Value) (ps ws : List Int) (w : World) (h : Reads w w.heap.size 1 fv ps.length (ps.map encZ)) (hw : Reads w w.heap.size 1 (.slice Wa ws.length wc) ws.length (ws.map encZ)) (hwb : ws.length * 8 ≤ 140737488355328) :
    Calls Try.prog 12 #[.agg (q.plan n (.slice Ea en ec) (.slice Wa ws.length wc) (.slice Na nn nc)), fv] w fun e w' => ∃ v, e = .returned (.tuple #[v, .int .u16 (layR q ws ps).err]) ∧ LayIs w w' (layR q ws ps) v ∧ Keeps (fun _ => False) w w' := by
  unfold layR
  by_cases hr : rightI ps = true ∧ ps ≠ []
  · simp only [if_pos hr]
    obtain ⟨ht, h6, hmap⟩ := right_tree hr.1
    have hlen : (ps.map Int.toNat).length = ps.length := by simp
    have hpos : 0 < ps.length := List.length_pos_iff.2 hr.2
    obtain ⟨A, c, hsh⟩ : ∃ A c, fv = .slice A ps.length c := by obtain ⟨_, A, c, h, _⟩ := h; exact ⟨A, c, h⟩
    subst hsh
    rw [show ps.map encZ = (ps.map Int.toNat).map encI from hmap] at h
    have h2 := lay_yes q n Ea Wa Na en ec wc nn nc A c (ps.map Int.toNat) ws w ht (by rw [hlen]; exact hpos) (by rw [hlen]; omega) (by rw [hlen]; exact h) hw hwb (by rw [toNat_back hr.1]; exact hr.1)
    rw [hlen] at h2
    refine h2.mono ?_
    rintro e w' ⟨Eb, eb, Wb, wb, Nb, nb, rfl, k1, k2, k3, k4, k5, k6⟩
    rw [hlen] at k1 k2 k5 ⊢
    refine ⟨_, rfl, ⟨Eb, eb, Wb, wb, Nb, nb, by simp only [edgesOf_length, rowsOf_length], by simp only [edgesOf_length]; exact k1, k3, by simp only [rowsOf_length]; exact k5, by simp only [edgesOf_length]; exact k2, k4⟩, k6⟩
  · simp only [if_neg hr]
    have hno : rightI ps = false ∨ ps = [] := by
      by_cases h1 : rightI ps = true
      · exact .inr (by
          by_cases h2 : ps = []
          · exact h2
          · exact absurd ⟨h1, h2⟩ hr)
      · exact .inl (by simpa using h1)
    refine (lay_no q n Ea Wa Na en ec ws.length wc nn nc fv ps w h hno).mono ?_
    rintro e w' ⟨rfl, hk⟩
    exact ⟨_, rfl, ⟨none, 0, none, 0, none, 0, rfl, QS.nil _ _ _, QS.nil _ _ _, NextIs.nil _ _, fun k h => by (cases h), fun k h => by (cases h)⟩, hk⟩

theorem rlay_any (q : Nums) (n : Int) (Ea Wa Na : Option Addr) (en ec wc nn nc : Nat) (fv : Value) (ps ws : List Int) (w : World) (h : Reads w w.heap.size 1 fv ps.length (ps.map encZ)) (hw : Reads w w.heap.size 1 (.slice Wa ws.length wc) ws.length (ws.map encZ)) (hwb : ws.length * 8 ≤ 140737488355328) :
    Calls Try.prog 19 #[.agg (q.plan n (.slice Ea en ec) (.slice Wa ws.length wc) (.slice Na nn nc)), fv] w fun e w' => ∃ v, e = .returned (.tuple #[v, .int .i64 (layR q ws ps).err]) ∧ LayIs w w' (layR q ws ps) v ∧ Keeps (fun _ => False) w w' := by
  unfold layR
  by_cases hr : rightI ps = true ∧ ps ≠ []
  · simp only [if_pos hr]
    obtain ⟨ht, h6, hmap⟩ := right_tree hr.1
    have hlen : (ps.map Int.toNat).length = ps.length := by simp
    have hpos : 0 < ps.length := List.length_pos_iff.2 hr.2
    obtain ⟨A, c, hsh⟩ : ∃ A c, fv = .slice A ps.length c := by obtain ⟨_, A, c, h, _⟩ := h; exact ⟨A, c, h⟩
    subst hsh
    rw [show ps.map encZ = (ps.map Int.toNat).map encI from hmap] at h
    have h2 := rlay_yes q n Ea Wa Na en ec wc nn nc A c (ps.map Int.toNat) ws w ht (by rw [hlen]; exact hpos) (by rw [hlen]; omega) (by rw [hlen]; exact h) hw hwb (by rw [toNat_back hr.1]; exact hr.1)
    rw [hlen] at h2
    refine h2.mono ?_
    rintro e w' ⟨Eb, eb, Wb, wb, Nb, nb, rfl, k1, k2, k3, k4, k5, k6⟩
    rw [hlen] at k1 k2 k5 ⊢
    refine ⟨_, rfl, ⟨Eb, eb, Wb, wb, Nb, nb, by simp only [edgesOf_length, rowsOf_length], by simp only [edgesOf_length]; exact k1, k3, by simp only [rowsOf_length]; exact k5, by simp only [edgesOf_length]; exact k2, k4⟩, k6⟩
  · simp only [if_neg hr]
    have hno : rightI ps = false ∨ ps = [] := by
      by_cases h1 : rightI ps = true
      · exact .inr (by
          by_cases h2 : ps = []
          · exact h2
          · exact absurd ⟨h1, h2⟩ hr)
      · exact .inl (by simpa using h1)
    refine (rlay_no q n Ea Wa Na en ec ws.length wc nn nc fv ps w h hno).mono ?_
    rintro e w' ⟨rfl, hk⟩
    exact ⟨_, rfl, ⟨none, 0, none, 0, none, 0, rfl, QS.nil _ _ _, QS.nil _ _ _, NextIs.nil _ _, fun k h => by (cases h), fun k h => by (cases h)⟩, hk⟩

theorem alike_any (R : LayRes) (W1 W2 : World) (u v : Value) (w : World) (hE5 : R.E.length ≤ 5) (hr6 : R.rows.length ≤ 6) (h1 : LayIs W1 w R u) (h2 : LayIs W2 w R v) :
    Calls Try.prog 20 #[u, v] w fun e w' => e = .returned (.bool true) ∧ Keeps (fun _ => False) w w' := by
  obtain ⟨Ea, ec, Wa, wc, Na, nc, rfl, a1, a2, a3, _⟩ := h1
  obtain ⟨Eb, ed, Wb, wd, Nb, nd, rfl, b1, b2, b3, _⟩ := h2
  exact alike_calls R.q R.n R.E R.ws R.rows _ _ Ea Eb Wa Wb Na Nb ec ed wc wd nc nd w a1 b1 a2.reads b2.reads a3 b3 hE5 hr6
end Go.Proofs.Ytcgddbbniahimaa
