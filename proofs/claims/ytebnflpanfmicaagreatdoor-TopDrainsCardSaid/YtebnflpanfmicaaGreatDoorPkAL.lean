/-
  Part 12 of the proof: MaskPick.
-/
import Derived.Test.YtebnflpanfmicaaGreatDoorPkAB
import Derived.Shelf.Abstract
set_option linter.unusedVariables false
set_option linter.unusedSimpArgs false
set_option linter.unusedSectionVars false
namespace Go.Proofs.YtebnflpanfmicaaGreatDoor
open Go.RowKit Go.Shelf
attribute [local go_sem] Oper.semAt_some
set_option maxRecDepth 100000 in
set_option maxHeartbeats 4000000 in
theorem pick_calls (m:Nat) (f n:Int) (hm:m < 65536) (w:World) (hT:Tab w):
  Calls Tryz.prog 179 #[.int .u16 m, .int .i64 f, .int .i64 n] w fun e w'=>e= .returned (.int .i64 (pickI m f n))∧Keeps (fun _=>False) w w':=by
 refine(callsIn_wide (n:=10)).1 ?_
 have hpos:=hT.pos
 refine callsIn_of_wp_marks Tryz.func179 rfl trivial ?_ rfl
 simp only[Tryz.ntmps179,List.size_toArray,List.length_cons,List.length_nil,Nat.reduceAdd,Nat.reduceSub,Array.replicate_succ,Array.replicate_zero,List.push_toArray,List.append_toArray,List.nil_append,List.cons_append]
 refine wpIn_wide.2 ?_
 by_cases hr:1≤n∧n≤16∧0≤f∧f < n
 ·have epk:pickI m f n=pickOf m f.toNat n.toNat:=by unfold pickI;rw[if_pos hr]
  obtain⟨h1,h2,h3,h4⟩:=hr
  have hk:n.toNat≤16:=by omega
  have ha:f.toNat < n.toNat:=by omega
  have en:((n.toNat:Nat):Int)=n:=by omega
  have ef:((f.toNat:Nat):Int)=f:=by omega
  have c1:=fun w=>below_calls m n.toNat hm hk w
  have hm1:m % 2^n.toNat < 65536:=Nat.lt_of_le_of_lt (Nat.mod_le _ _) hm
  have c2:=fun w=>below_calls (m % 2^n.toNat) f.toNat hm1 (by omega) w
  rw[en]at c1
  rw[ef]at c2
  have e1:=above_u16 (m % 2^n.toNat) f.toNat hm1
  have hx:m % 2^n.toNat / 2^f.toNat*2^f.toNat < 65536:=Nat.lt_of_le_of_lt (Nat.div_mul_le_self _ _) hm1
  have p1:=fun k r=> @pick_some m f.toNat n.toNat k r ha hk
  have p2:=fun k r=> @pick_next m f.toNat n.toNat k r ha hk
  have p3:= @pick_none m f.toNat n.toNat ha hk
  rw[←epk]at p3
  simp only[←epk]at p1 p2
  clear epk hk ha en ef
  generalize m % 2^n.toNat / 2^f.toNat*2^f.toNat=x at e1 hx p1 p2 p3
  generalize m % 2^n.toNat % 2^f.toNat=y at e1 c2
  generalize m % 2^n.toNat=m1 at hm1 c1 c2 e1 p2 p3
  generalize pickI m f n=res at p1 p2 p3 ⊢
  go_wp2_with fail
  refine(c1 _).mono ?_
  rintro e w' ⟨rfl,rfl⟩
  clear c1
  go_wp2_with fail
  refine(c2 _).mono ?_
  rintro e w' ⟨rfl,rfl⟩
  clear c2
  go_wp2_with fail
  refine(each_calls x _).mono ?_
  rintro e w' ⟨rfl,rfl⟩
  go_wp2_with fail
  have hk0:Keeps (fun _=>False) w ((w.alloc (.cells #[.int .i64 0] 3)).alloc (.cells #[.int .u16 (x:Int)] 23)):=(Keeps.alloc _ _ _).trans (Keeps.alloc _ _ _)
  have hR0:IBox ((w.alloc (.cells #[.int .i64 0] 3)).alloc (.cells #[.int .u16 (x:Int)] 23)) w.heap.size 0:=blk_alloc (blk_new _ _) _
  have hB0:MBox ((w.alloc (.cells #[.int .i64 0] 3)).alloc (.cells #[.int .u16 (x:Int)] 23)) (w.heap.size+1) x:=by
   have:=blk_new (w.alloc (.cells #[.int .i64 0] 3)) (.cells #[.int .u16 (x:Int)] 23)
   rwa[World.size_alloc]at this
  have hS0:w.heap.size+2≤((w.alloc (.cells #[.int .i64 0] 3)).alloc (.cells #[.int .u16 (x:Int)] 23)).heap.size:=by simp
  generalize (w.alloc (.cells #[.int .i64 0] 3)).alloc (.cells #[.int .u16 (x:Int)] 23)=A at hk0 hR0 hB0 hS0
  have hTA:Tab A:=hT.keeps hk0 (fun h=>h)
  refine(wpIn_wide (n:=10)).1 ?_
  refine' wpIn_rangeFunc_O (F:=Fence.wide) rfl (by decide) (gf:=241) (lb:= #[.pointer (some ⟨w.heap.size+1,0,none⟩)]) rfl trivial (enters_of Tryz.func241 (by kernel_rfl) rfl)
   (each_seq 9 (w.heap.size+1) x (by decide) (by omega) hx A hB0 hTA) rfl (fun _ h=> .inl h) (fun k h=>by rcases h with h | h <;>omega)
   (fun pre W=>pre=[]∧Keeps (fun _=>False) w W∧IBox W w.heap.size 0) (fun c pre W=>c= .ret∧∃k:Nat,pre=[k]∧Keeps (fun _=>False) w W∧IBox W w.heap.size k) ?mi ?mx ⟨rfl,hk0,hR0⟩ _ ?assign ?body ?done ?stop
  case assign=>
   intro l k W K hK
   gi_wp2
   exact hK
  case mi=>
   rintro s C D ⟨rfl,h1,h2⟩ hk
   exact⟨rfl,h1.then hk (fun i hi h=>by omega),blk_keeps hk h2 (by omega)⟩
  case mx=>
   rintro c s C D ⟨rfl,k,rfl,h1,h2⟩ hk
   exact⟨rfl,k,rfl,h1.then hk (fun i hi h=>by omega),blk_keeps hk h2 (by omega)⟩
  case body=>
   rintro pre k W ⟨rfl,h1,h2⟩ hpre hsz
   have hc:=h2.cell
   have hf:=h2.frozen
   have hk:Keeps (fun i=>i=w.heap.size) W (W.setCell ⟨w.heap.size,0,none⟩ (.int .i64 k)):=Keeps.setCell _ _ _ _ rfl
   gi_wp2
   exact⟨Same.of_keeps hk (fun i hi=>⟨by omega,by omega⟩),rfl,k,rfl,h1.then hk (fun i hi h=>by omega),blk_set h2 0 _⟩
  case stop=>
   rintro c pre W hpre ⟨rfl,k,rfl,h1,h2⟩ hD
   obtain⟨r,hr⟩:=hpre
   obtain rfl:=p1 k r hr.symm
   have hc:=h2.cell
   gi_wp2
   refine leavesM (G:=fun i=>i=A.heap.size) [A.heap.size] W ⟨by simp,by simpa using hD⟩ (by simp) ?_
   intro w' hk
   have hc':=hk.cell hc (by simp;omega)
   exact⟨_,by simp[results,Tryz.results179,go_sem,hc'],rfl,h1.then hk (fun i hi h=>by omega)⟩
  case done=>
   rintro W ⟨h0,h1,h2⟩ hD
   have hsz:A.heap.size < W.heap.size:=blk_lt hD
   go_wp2_with fail
   refine(each_calls m1 _).mono ?_
   rintro e w' ⟨rfl,rfl⟩
   go_wp2_with fail
   have hD':=blk_alloc hD (.cells #[.int .u16 (m1:Int)] 23)
   have h1':Keeps (fun _=>False) w (W.alloc (.cells #[.int .u16 (m1:Int)] 23)):=h1.trans (Keeps.alloc _ _ _)
   have h2':IBox (W.alloc (.cells #[.int .u16 (m1:Int)] 23)) w.heap.size 0:=blk_alloc h2 _
   have hB':MBox (W.alloc (.cells #[.int .u16 (m1:Int)] 23)) W.heap.size m1:=blk_new _ _
   have hS':W.heap.size+1≤(W.alloc (.cells #[.int .u16 (m1:Int)] 23)).heap.size:=by simp
   generalize W.alloc (.cells #[.int .u16 (m1:Int)] 23)=B at hD' h1' h2' hB' hS'
   have hTB:Tab B:=hT.keeps h1' (fun h=>h)
   refine(wpIn_wide (n:=10)).1 ?_
   refine' wpIn_rangeFunc_O (F:=Fence.wide) rfl (by decide) (gf:=241) (lb:= #[.pointer (some ⟨W.heap.size,0,none⟩)]) rfl trivial (enters_of Tryz.func241 (by kernel_rfl) rfl)
    (each_seq 9 W.heap.size m1 (by decide) (by omega) hm1 B hB' hTB) rfl (fun _ h=> .inl h) (fun k h=>by rcases h with h | h <;>omega)
    (fun pre V=>pre=[]∧Keeps (fun _=>False) w V∧IBox V w.heap.size 0∧V.heap[A.heap.size]? =some (.deferred (some []))) (fun c pre V=>c= .ret∧∃k:Nat,pre=[k]∧Keeps (fun _=>False) w V∧IBox V w.heap.size k∧V.heap[A.heap.size]? =some (.deferred (some []))) ?mi ?mx ⟨rfl,h1',h2',hD'⟩ _ ?assign ?body ?done ?stop
   clear h1 h2 hD
   case assign=>
    intro l k W K hK
    gi_wp2
    exact hK
   case mi=>
    rintro s C D ⟨rfl,h1,h2,h3⟩ hk
    exact⟨rfl,h1.then hk (fun i hi h=>by omega),blk_keeps hk h2 (by omega),blk_keeps hk h3 (by omega)⟩
   case mx=>
    rintro c s C D ⟨rfl,k,rfl,h1,h2,h3⟩ hk
    exact⟨rfl,k,rfl,h1.then hk (fun i hi h=>by omega),blk_keeps hk h2 (by omega),blk_keeps hk h3 (by omega)⟩
   case body=>
    rintro pre k V ⟨rfl,h1,h2,h3⟩ hpre hszV
    have hc:=h2.cell
    have hf:=h2.frozen
    have hk:Keeps (fun i=>i=w.heap.size) V (V.setCell ⟨w.heap.size,0,none⟩ (.int .i64 k)):=Keeps.setCell _ _ _ _ rfl
    gi_wp2
    exact⟨Same.of_keeps hk (fun i hi=>⟨by omega,by omega⟩),rfl,k,rfl,h1.then hk (fun i hi h=>by omega),blk_set h2 0 _,blk_keeps hk h3 (by omega)⟩
   case stop=>
    rintro c pre V hpre ⟨rfl,k,rfl,h1,h2,h3⟩ hDB
    obtain⟨r,hr⟩:=hpre
    obtain rfl:=p2 k r h0 hr.symm
    have hc:=h2.cell
    gi_wp2
    refine leavesM (G:=fun i=>i=A.heap.size∨i=B.heap.size) [B.heap.size,A.heap.size] V ⟨by simp;omega,by simpa using⟨hDB,h3⟩⟩ (by simp) ?_
    intro w' hk
    have hc':=hk.cell hc (by simp;omega)
    exact⟨_,by simp[results,Tryz.results179,go_sem,hc'],rfl,h1.then hk (fun i hi h=>by omega)⟩
   case done=>
    rintro V ⟨h00,h1,h2,h3⟩ hDB
    obtain rfl:=p3 h0 h00
    have hc0:=h2.cell
    have hf:=h2.frozen
    have hk0:Keeps (fun i=>i=w.heap.size) V (V.setCell ⟨w.heap.size,0,none⟩ (.int .i64 (-1))):=Keeps.setCell _ _ _ _ rfl
    have hc:=IBox.cell (b:=w.heap.size) (v:= -1) (blk_set h2 0 (.int .i64 (-1)))
    have h4:=h1.then hk0 (F:=fun _=>False) (fun i hi h=>by omega)
    have hDB':=blk_keeps hk0 hDB (by omega)
    have h3':=blk_keeps hk0 h3 (by omega)
    go_wp2_with fail
    refine leavesM (G:=fun i=>i=A.heap.size∨i=B.heap.size) [B.heap.size,A.heap.size] _ ⟨by simp;omega,by simpa using⟨hDB',h3'⟩⟩ (by simp) ?_
    intro w' hk
    have hc':=hk.cell hc (by simp;omega)
    exact⟨_,by simp[results,Tryz.results179,go_sem,hc'],rfl,h4.then hk (fun i hi h=>by omega)⟩
 ·have epk:pickI m f n= -1:=by unfold pickI;rw[if_neg hr]
  rw[epk]
  clear epk
  have hc:=IBox.cell (w:=w.alloc (.cells #[.int .i64 (-1)] 3)) (b:=w.heap.size) (v:= -1) (blk_new _ _)
  go_wp2_with fail
  all_goals first
   | (exfalso;omega)
   | (refine leavesM (G:=fun i=>False) [] _ (Marks.nil _) (by simp) ?_
      intro w' hk
      have hc':=hk.cell hc (by simp)
      exact⟨_,by simp[results,Tryz.results179,go_sem,hc'],rfl,(Keeps.alloc _ _ _).trans hk⟩)
end Go.Proofs.YtebnflpanfmicaaGreatDoor
