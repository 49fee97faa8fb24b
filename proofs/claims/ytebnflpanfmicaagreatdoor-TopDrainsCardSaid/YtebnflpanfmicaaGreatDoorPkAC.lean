/-
  Part 3 of the proof: MaskTurn, HostRep, HostW1, HostW2.
-/
import Derived.Test.YtebnflpanfmicaaGreatDoorPkAB
import Derived.Shelf.Abstract
import Derived.Deep.OwnRows
import Derived.Test.YtebnflpanfmicaaGreatDoorPkAA
import Derived.Test.YtebnflpanfmicaaGreatDoorProg
import Derived.BigQuiet
set_option linter.unusedVariables false
set_option linter.unusedSimpArgs false
set_option linter.unusedSectionVars false
namespace Go.Proofs.YtebnflpanfmicaaGreatDoor
open Go.RowKit Go.Shelf
attribute [local go_sem] Oper.semAt_some
set_option maxRecDepth 100000 in
set_option maxHeartbeats 4000000 in
theorem turn_some (g off cap:Nat) (rows:List Nat) (n:Int) (w:World) (hT:Tab w) (hr:∀x∈rows,x < 65536) (hnc:rows.length≤cap) (hcm:cap≤maxLen) (hgM:g < w.heap.size)
  (hcell:∀j u,(rows.map encU)[j]? =some u→w.cell? ⟨g,off+j,none⟩=some u) (hn:1≤n∧n≤16):
  Calls Tryz.prog 177 #[.slice (some ⟨g,off,none⟩) rows.length cap, .int .i64 n] w fun e w'=>∃u,e= .returned u∧QS w' 23 1 u (turnI rows n).length ((turnI rows n).map encU)∧Keeps (fun _=>False) w w'∧
   ∀k,u.ownBlock=some k→w.heap.size≤k:=by
 refine(callsIn_wide (n:=10)).1 ?_
 have hpos:=hT.pos
 refine callsIn_of_wp_marks Tryz.func177 rfl trivial ?_ rfl
 simp only[Tryz.ntmps177,List.size_toArray,List.length_cons,List.length_nil,Nat.reduceAdd,Nat.reduceSub,Array.replicate_succ,Array.replicate_zero,List.push_toArray,List.append_toArray,List.nil_append,List.cons_append]
 refine wpIn_wide.2 ?_
 ·have ept:turnI rows n=colsOf rows n.toNat 16:=by unfold turnI;rw[if_pos hn]
  rw[ept]
  clear ept
  obtain⟨h1,h2⟩:=hn
  have hms:=fun w=>run_make_row' (P:=Tryz.prog) 221 23 (.int .u16 0) 2 Tryz.underlying221 info_u16 rfl .i64 .i64 n.toNat (by omega) (by omega) w
  rw[show((n.toNat:Nat):Int)=n by omega]at hms
  have hlm:((rows.length:Int))≤maxLen:=by
   simp only[maxLen]at*;omega
  have hlim:∃lim:Nat,(if(16:Int) < (rows.length:Int)then(16:Int)else(rows.length:Int))=(lim:Int)∧lim≤rows.length∧lim≤16∧colsOf rows n.toNat lim=colsOf rows n.toNat 16:=by
   by_cases h:rows.length≤16
   ·exact⟨rows.length,by rw[if_neg (by omega)],Nat.le_refl _,h,(colsOf_beyond rows n.toNat 16 h).symm⟩
   ·exact⟨16,by rw[if_pos (by omega)];rfl,by omega,by omega,rfl⟩
  obtain⟨lim,hmin,hl1,hl2,hcols⟩:=hlim
  rw[←hcols]
  clear hcols
  ·have hlc:(lim:Int)≤(cap:Int):=by omega
   have hl0:(0:Int)≤(lim:Int):=by omega
   go_wp2_with fail
   have hk0:Keeps (fun _=>False) w ((w.alloc (.cells (madeCells #[.int .u16 0] n.toNat) 23)).alloc (.cells #[.slice (some ⟨w.heap.size,0,none⟩) n.toNat n.toNat] 221)):=(Keeps.alloc _ _ _).trans (Keeps.alloc _ _ _)
   have hO0:((w.alloc (.cells (madeCells #[.int .u16 0] n.toNat) 23)).alloc (.cells #[.slice (some ⟨w.heap.size,0,none⟩) n.toNat n.toNat] 221)).heap[w.heap.size+1]? =some (.cells #[.slice (some ⟨w.heap.size,0,none⟩) n.toNat n.toNat] 221 (0,0)):=by
    have:=blk_new (w.alloc (.cells (madeCells #[.int .u16 0] n.toNat) 23)) (.cells #[.slice (some ⟨w.heap.size,0,none⟩) n.toNat n.toNat] 221)
    rwa[World.size_alloc]at this
   have hM0:((w.alloc (.cells (madeCells #[.int .u16 0] n.toNat) 23)).alloc (.cells #[.slice (some ⟨w.heap.size,0,none⟩) n.toNat n.toNat] 221)).heap[w.heap.size]? =some (.cells ((colsOf rows n.toNat 0).map encU).toArray 23 (0,0)):=by
    rw[←made_cols]
    exact blk_alloc (blk_new _ _) _
   have hS0:w.heap.size+2≤((w.alloc (.cells (madeCells #[.int .u16 0] n.toNat) 23)).alloc (.cells #[.slice (some ⟨w.heap.size,0,none⟩) n.toNat n.toNat] 221)).heap.size:=by simp
   generalize (w.alloc (.cells (madeCells #[.int .u16 0] n.toNat) 23)).alloc (.cells #[.slice (some ⟨w.heap.size,0,none⟩) n.toNat n.toNat] 221)=W0 at hk0 hO0 hM0 hS0
   clear hms hmin
   refine wp_loop (fun a' W=>∃(j:Nat) (ds:List Nat) (u6 u7 u24 u25 u26 u27 u28 u29 u30 u31 u41:Value),
     (j≤lim∧Keeps (fun _=>False) w W∧W.heap[w.heap.size+1]? =some (.cells #[.slice (some ⟨w.heap.size,0,none⟩) n.toNat n.toNat] 221 (0,0))∧
      W.heap[w.heap.size]? =some (.cells ((colsOf rows n.toNat j).map encU).toArray 23 (0,0))∧Marks ds W∧(∀D∈ds,w.heap.size+2≤D)∧w.heap.size+2≤W.heap.size)∧
     a'={tmps:= #[.slice (some ⟨g,off,none⟩) rows.length cap, .int .i64 n,undef,undef, .slice none 0 0, .pointer (some ⟨w.heap.size+1,0,none⟩),u6,u7,undef, .int .i64 n, .bool (decide (n < 1)), .bool (decide (n < 1)), .int .i64 n, .bool (decide (16 < n)), .bool (decide (n < 1) || decide (16 < n)), .int .i64 n, .slice (some ⟨w.heap.size,0,none⟩) n.toNat n.toNat, .slice (some ⟨g,off,none⟩) rows.length cap, .slice (some ⟨g,off,none⟩) rows.length cap, .int .i64 rows.length, .int .i64 lim, .slice (some ⟨g,off,none⟩) lim cap, .int .i64 lim, .int .i64 (j:Int),u24,u25,u26,u27,u28,u29,u30,u31,undef,undef,undef,undef,undef,undef,undef,undef,undef,u41,undef],defers:=ds.map markOf}) (fun a' _=>lim - (intOf (a'.tmps.getD 23 undef)).toNat) ?_ ?_
   ·exact⟨0,[],undef,undef,undef,undef,undef,undef,undef,undef,undef,undef,undef,⟨Nat.zero_le _,hk0,hO0,hM0,Marks.nil _,(fun _ h=>absurd h List.not_mem_nil),hS0⟩,rfl⟩
   ·rintro a' W ⟨j,ds,u6,u7,u24,u25,u26,u27,u28,u29,u30,u31,u41,⟨hj,hK,hO,hM,hmk,hds,hsW⟩,rfl⟩
    clear hk0 hO0 hM0 hS0
    by_cases hjl:j < lim
    ·have hx:rows.getD j 0 < 65536:=by
      rw[List.getD_eq_getElem?_getD,List.getElem?_eq_getElem (by omega)]
      exact hr _ (List.getElem_mem _)
     have hcj:W.cell? ⟨g,off+j,none⟩=some (.int .u16 (rows.getD j 0:Nat)):=by
      refine hK.cell (hcell j _ ?_) (fun h=>h)
      rw[List.getElem?_map,List.getElem?_eq_getElem (by omega),List.getD_eq_getElem?_getD,List.getElem?_eq_getElem (by omega)]
      rfl
     have hjj:(j:Int) < (lim:Int):=by omega
     have hj0:(0:Int)≤(j:Int):=by omega
     generalize hxe:rows.getD j 0=x at hx hcj
     have c1:=fun W=>below_calls x n.toNat hx (by omega) W
     rw[show((n.toNat:Nat):Int)=n by omega]at c1
     have hx1:x % 2^n.toNat < 65536:=Nat.lt_of_le_of_lt (Nat.mod_le _ _) hx
     have hlast:=colsAt_all rows n.toNat j (by omega)
     rw[hxe]at hlast
     have hbn:∀i∈bitsOf (x % 2^n.toNat),i < n.toNat:=fun i hi=>by
      have:=(mem_bitsOf.1 hi).2
      rw[has_mod,Bool.and_eq_true,decide_eq_true_eq]at this
      exact this.1
     clear hxe
     generalize x % 2^n.toNat=y at c1 hx1 hlast hbn
     go_wp2_with fail
     refine(c1 _).mono ?_
     rintro e w' ⟨rfl,rfl⟩
     clear c1
     go_wp2_with fail
     refine(each_calls y _).mono ?_
     rintro e w' ⟨rfl,rfl⟩
     go_wp2_with fail
     have hI0:IBox ((W.alloc (.cells #[.int .i64 (j:Int)] 3)).alloc (.cells #[.int .u16 (y:Int)] 23)) W.heap.size j:=blk_alloc (blk_new _ _) _
     have hB0:MBox ((W.alloc (.cells #[.int .i64 (j:Int)] 3)).alloc (.cells #[.int .u16 (y:Int)] 23)) (W.heap.size+1) y:=by
      have:=blk_new (W.alloc (.cells #[.int .i64 (j:Int)] 3)) (.cells #[.int .u16 (y:Int)] 23)
      rwa[World.size_alloc]at this
     have hkW:∀G,Keeps G W ((W.alloc (.cells #[.int .i64 (j:Int)] 3)).alloc (.cells #[.int .u16 (y:Int)] 23)):=fun G=>(Keeps.alloc _ _ _).trans (Keeps.alloc _ _ _)
     have hS2:W.heap.size+2≤((W.alloc (.cells #[.int .i64 (j:Int)] 3)).alloc (.cells #[.int .u16 (y:Int)] 23)).heap.size:=by simp
     generalize (W.alloc (.cells #[.int .i64 (j:Int)] 3)).alloc (.cells #[.int .u16 (y:Int)] 23)=B at hI0 hB0 hkW hS2
     have hTB:Tab B:=(hT.keeps hK (fun h=>h)).keeps (hkW (fun _=>False)) (fun h=>h)
     refine(wpIn_wide (n:=10)).1 ?_
     refine' wpIn_rangeFunc_O (F:=Fence.wide) rfl (by decide) (gf:=241) (lb:= #[.pointer (some ⟨W.heap.size+1,0,none⟩)]) rfl trivial (enters_of Tryz.func241 (by kernel_rfl) rfl)
      (each_seq 9 (W.heap.size+1) y (by decide) (by omega) hx1 B hB0 hTB) rfl (fun _ h=> .inl h) (fun k h=>by rcases h with h | h <;>omega)
      (fun pre V=>Keeps (fun i=>i=w.heap.size) W V∧IBox V W.heap.size j∧V.heap[w.heap.size]? =some (.cells ((colsAt rows n.toNat j pre).map encU).toArray 23 (0,0))∧
       V.heap[w.heap.size+1]? =some (.cells #[.slice (some ⟨w.heap.size,0,none⟩) n.toNat n.toNat] 221 (0,0))∧Marks ds V)
      (fun _ _ _=>False) ?mi (fun _ _ _ _ h _=>h) ⟨hkW _,hI0,by rw[colsAt_nil];exact blk_keeps (hkW (fun _=>False)) hM (fun h=>h),blk_keeps (hkW (fun _=>False)) hO (fun h=>h),hmk.keeps (hkW (fun _=>False)) (fun _ _ h=>h)⟩ _ ?assign ?body ?done (fun _ _ _ _ h _=>h.elim)
     case assign=>
      intro l k W K hK
      gi_wp2
      exact hK
     case mi=>
      rintro s C D ⟨h1,h2,h3,h4,h5⟩ hk
      exact⟨h1.then hk (fun i hi h=>by omega),blk_keeps hk h2 (by omega),blk_keeps hk h3 (by omega),blk_keeps hk h4 (by omega),h5.keeps hk (fun D hD h=>by have:=hmk.lt D hD;omega)⟩
     case body=>
      rintro pre k V ⟨h1,h2,h3,h4,h5⟩ hpre hszV
      obtain⟨hnp,hk16,hkm⟩:=not_mem_pre hpre
      have hkn:k < n.toNat:=hbn k (hpre.subset (by simp))
      obtain⟨hget,hset⟩:=colsAt_set rows n.toNat j pre k hkn hnp
      have hci:=h2.cell
      have hco:V.cell? ⟨w.heap.size+1,0,none⟩=some (.slice (some ⟨w.heap.size,0,none⟩) n.toNat n.toNat):=by rw[blk_cell h4];rfl
      have hcm:V.cell? ⟨w.heap.size,k,none⟩=some (.int .u16 (colOf rows k j:Nat)):=by rw[blk_cell h3];simp[hget]
      have hfm:V.frozen? ⟨w.heap.size,k,none⟩=false:=blk_frozen h3 k
      have hor:=orpow_u16 (colOf rows k j) j (colOf_lt rows k j) (by omega)
      have hnew:=blk_set h3 k (.int .u16 (colOf rows k j+2^j:Nat))
      rw[List.setIfInBounds_toArray,←List.map_set (f:=encU) (a:=colOf rows k j+2^j),hset]at hnew
      generalize colOf rows k j+2^j=c' at hor hnew
      generalize colOf rows k j=c at hor hcm
      have hki:(k:Int) < (n.toNat:Int):=by omega
      have hk0:(0:Int)≤(k:Int):=by omega
      have hj0':(0:Int)≤(j:Int):=by omega
      have hmx:Tryz.prog.follows .mixedOrders=true:=by kernel_rfl
      have hkv:Keeps (fun i=>i=w.heap.size) V (V.setCell ⟨w.heap.size,k,none⟩ (.int .u16 (c':Int))).drew:=Keeps.trans (b:=V.setCell ⟨w.heap.size,k,none⟩ (.int .u16 (c':Int))) (Keeps.setCell (fun i=>i=w.heap.size) _ _ _ rfl) (Keeps.drew _ _)
      have hfin:Same (fun i=>(i=W.heap.size+1∨i=0)∨i=B.heap.size∨i=B.heap.size+1) V (V.setCell ⟨w.heap.size,k,none⟩ (.int .u16 (c':Int))).drew∧
        (Keeps (fun i=>i=w.heap.size) W (V.setCell ⟨w.heap.size,k,none⟩ (.int .u16 (c':Int))).drew∧IBox (V.setCell ⟨w.heap.size,k,none⟩ (.int .u16 (c':Int))).drew W.heap.size j∧
         (V.setCell ⟨w.heap.size,k,none⟩ (.int .u16 (c':Int))).drew.heap[w.heap.size]? =some (.cells ((colsAt rows n.toNat j (pre ++ [k])).map encU).toArray 23 (0,0))∧
         (V.setCell ⟨w.heap.size,k,none⟩ (.int .u16 (c':Int))).drew.heap[w.heap.size+1]? =some (.cells #[.slice (some ⟨w.heap.size,0,none⟩) n.toNat n.toNat] 221 (0,0))∧Marks ds (V.setCell ⟨w.heap.size,k,none⟩ (.int .u16 (c':Int))).drew):=
       ⟨Same.of_keeps hkv (fun i hi=>⟨by omega,by omega⟩),h1.trans hkv,blk_keeps hkv h2 (by omega),hnew,blk_keeps hkv h4 (by omega),h5.keeps hkv (fun D hD h=>by have:=hds D hD;omega)⟩
      clear h1 h2 h3 h4 h5 hnew hkv hpre hget hset hkm hcell hM hO
      gi_wp2
      gi_region
      all_goals exact hfin
     case done=>
      rintro V ⟨h1,h2,h3,h4,h5⟩ hD
      rw[hlast]at h3
      have hszV:B.heap.size < V.heap.size:=blk_lt hD
      have hnd:B.heap.size ∉ ds:=fun h=>by have:=hmk.lt _ h;omega
      have hmk':Marks (B.heap.size :: ds) V:=⟨List.nodup_cons.2 ⟨hnd,hmk.1⟩,fun D hD'=>by
       rcases List.mem_cons.1 hD' with rfl | h
       ·exact hD
       ·exact h5.2 D h⟩
      have hds':∀D∈B.heap.size :: ds,w.heap.size+2≤D:=fun D hD'=>by
       rcases List.mem_cons.1 hD' with rfl | h
       ·omega
       ·exact hds D h
      have hKV:Keeps (fun _=>False) w V:=hK.then h1 (fun i hi h=>by omega)
      go_wp2_with fail
      exact⟨⟨j+1,B.heap.size :: ds,_,_,_,_,_,_,_,_,_,_,_,⟨by omega,hKV,h4,h3,hmk',hds',by omega⟩,rfl⟩,by simp[intOf];omega⟩
    ·obtain rfl:j=lim:=by omega
     have hc:W.cell? ⟨w.heap.size+1,0,none⟩=some (.slice (some ⟨w.heap.size,0,none⟩) n.toNat n.toNat):=by rw[blk_cell hO];rfl
     go_wp2_with fail
     refine leavesM (G:=fun i=>w.heap.size+2≤i) ds W hmk hds ?_
     intro w' hk
     refine⟨_,results_tmp rfl _ _ _,_,rfl, ?_,hK.then hk (fun i hi h=>by omega),fun k hk=>by cases hk;exact Nat.le_refl _⟩
     have hM':=blk_keeps hk hM (by omega)
     refine⟨by simp, .inr ⟨w.heap.size,0,n.toNat,_,by rw[colsOf_length];rfl,hM',by rw[colsOf_length];exact Nat.le_refl _,by simp only[maxLen];omega,by simp[colsOf_length],fun i hi=>by simp⟩⟩
set_option maxRecDepth 100000 in
theorem turn_out (v:Value) (rows:List Nat) (n:Int) (w:World) (hn:¬(1≤n∧n≤16)):
  Calls Tryz.prog 177 #[v, .int .i64 n] w fun e w'=>∃u,e= .returned u∧QS w' 23 1 u (turnI rows n).length ((turnI rows n).map encU)∧Keeps (fun _=>False) w w'∧
   ∀k,u.ownBlock=some k→w.heap.size≤k:=by
 have ept:turnI rows n=[]:=by unfold turnI;rw[if_neg hn]
 rw[ept]
 clear ept
 go_enter Tryz.func177,Tryz.ntmps177
 go_wp2_with fail
 all_goals first
  | (exfalso;omega)
  | (go_ret;exact⟨_,rfl,QS.nil _ _ _,Keeps.refl _ _,fun k h=>by cases h⟩)
theorem QS.reads {w:World} {e sz n:Nat} {v:Value} {cs:List Value} (h:QS w e sz v n cs):Reads w w.heap.size sz v n cs:=by
 refine⟨h.1, ?_⟩
 rcases h.2 with⟨rfl,rfl⟩ | ⟨g,off,cap,cur,rfl,hg,h1,h2,h3,h4⟩
 ·exact⟨none,0,rfl,Nat.le_refl _,Nat.zero_le _,fun h=>absurd h (Nat.lt_irrefl _)⟩
 ·refine⟨_,cap,rfl,h1,h2,fun _=>⟨_,rfl,blk_lt hg,fun j u hu=> ?_⟩⟩
  rw[Addr.add_lit,blk_cell hg,h4 j (List.getElem?_eq_some_iff.1 hu).1];exact hu
theorem turn_calls (v:Value) (rows:List Nat) (n:Int) (w:World) (hT:Tab w) (hr:∀x∈rows,x < 65536) (hv:Reads w w.heap.size 1 v rows.length (rows.map encU)):
  Calls Tryz.prog 177 #[v, .int .i64 n] w fun e w'=>∃u,e= .returned u∧QS w' 23 1 u (turnI rows n).length ((turnI rows n).map encU)∧Keeps (fun _=>False) w w'∧
   ∀k,u.ownBlock=some k→w.heap.size≤k:=by
 by_cases hn:1≤n∧n≤16
 ·rcases Nat.eq_zero_or_pos rows.length with h0 | h0
  ·obtain rfl:rows=[]:=List.eq_nil_of_length_eq_zero h0
   obtain⟨_,A,c,rfl,_⟩:=hv
   have e:turnI [] n=colsOf [] n.toNat 0:=by
    unfold turnI;rw[if_pos hn];exact colsOf_beyond [] n.toNat 16 (Nat.zero_le _)
   rw[e]
   exact turn_nil A c n w hn.1 hn.2
  ·have hcm:∀g off c,v= .slice (some ⟨g,off,none⟩) rows.length c→c≤maxLen:=fun g off c e=>by
    obtain⟨_,A,c',e',_,h,_⟩:=hv
    rw[e]at e';cases e';exact h
   obtain⟨g,off,c,rfl,hnc,hg,hcell⟩:=hv.at_ (by simpa using h0)
   exact turn_some g off c rows n w hT hr hnc (hcm _ _ _ rfl) hg hcell hn
 ·exact turn_out v rows n w hn
end Go.Proofs.YtebnflpanfmicaaGreatDoor
namespace Go.Proofs.YtebnflpanfmicaaGreatDoor
open Go.RowKit
structure Pkt where
 src:Int
 dst:Int
 lane:Int
 body:Int
 deriving DecidableEq
abbrev Pkt.cells (p:Pkt):List Value:=[.int .i64 p.src, .int .i64 p.dst, .int .i64 p.lane, .int .u32 p.body]
def pcells (l:List Pkt):List Value:=l.flatMap Pkt.cells
theorem pcells_snoc (l:List Pkt) (x:Pkt):pcells (l ++ [x])=pcells l ++ x.cells:=by simp[pcells]
theorem pcells_cons (x:Pkt) (l:List Pkt):pcells (x :: l)=x.cells ++ pcells l:=by simp[pcells]
theorem pcells_append (l m:List Pkt):pcells (l ++ m)=pcells l ++ pcells m:=by simp[pcells]
theorem pcells_one (l:List Pkt):∀u∈pcells l,u.oneCell'=true:=by
 intro u hu
 unfold pcells at hu
 obtain⟨x,_,hx⟩:=List.mem_flatMap.1 hu
 simp at hx
 rcases hx with rfl | rfl | rfl | rfl <;>rfl
theorem src_pkt {P:Program} {W:World} {tx e' e:TypeId} (hk:P.underlying tx=some (.slice e')) {g c:Nat} (x:Pkt)
  (hg:W.heap[g]? =some (.cells #[.int .i64 x.src, .int .i64 x.dst, .int .i64 x.lane, .int .u32 x.body] e (0,0))):Src P 4 tx (.slice (some ⟨g,0,none⟩) 1 c) 1 x.cells W:=
 src_blk hk hg rfl (by intro j hj;match j,hj with | 0,_=>rfl | 1,_=>rfl | 2,_=>rfl | 3,_=>rfl) (by intro u hu;simp at hu;rcases hu with rfl | rfl | rfl | rfl <;>rfl)
structure RowsOf (w:World) (S:Nat→Prop) (b e N:Nat) (v:Nat→Value) (q:Nat→List Pkt):Prop where
 rows:∀i,i < N→QS w e 4 (v i) (q i).length (pcells (q i))
 self:S b
 off:∀i,i < N→(v i).ownBlock≠some b
 apart:∀i j,i < N→j < N→i≠j→∀k,(v i).ownBlock=some k→(v j).ownBlock≠some k
 own:∀i,i < N→∀k,(v i).ownBlock=some k→S k
 lt:∀k,S k→k < w.heap.size
theorem RowsOf.keeps {w w':World} {S F:Nat→Prop} {b e N:Nat} {v:Nat→Value} {q:Nat→List Pkt} (h:RowsOf w S b e N v q) (hk:Keeps F w w') (hF:∀k,S k→¬F k):RowsOf w' S b e N v q:=
 ⟨fun i hi=>(h.rows i hi).keeps hk (fun k hk'=>hF k (h.own i hi k hk')),h.self,h.off,h.apart,h.own,fun k hk'=>Nat.lt_of_lt_of_le (h.lt k hk') hk.size⟩
def setAt {α:Type} (f:Nat→α) (i:Nat) (x:α):Nat→α:=fun j=>if j=i then x else f j
theorem setAt_same {α:Type} (f:Nat→α) (i:Nat) (x:α):setAt f i x i=x:=by simp[setAt]
theorem setAt_other {α:Type} (f:Nat→α) (i j:Nat) (x:α) (h:j≠i):setAt f i x j=f j:=by simp[setAt,h]
theorem RowsOf.put {w w1:World} {S:Nat→Prop} {b e N:Nat} {v:Nat→Value} {q:Nat→List Pkt} (h:RowsOf w S b e N v q) {i o:Nat} (hi:i < N) {v':Value} {l':List Pkt}
  (hk:Keeps (fun k=>(v i).ownBlock=some k) w w1) (hq:QS w1 e 4 v' l'.length (pcells l')) (ho:v'.ownBlock=(v i).ownBlock∨∃g,v'.ownBlock=some g∧w.heap.size≤g):
  RowsOf (w1.setCell ⟨b,o,none⟩ v') (fun k=>S k∨(w.heap.size≤k∧k < w1.heap.size)) b e N (setAt v i v') (setAt q i l')∧Keeps S w (w1.setCell ⟨b,o,none⟩ v'):=by
 have hb:=h.lt b h.self
 have hnb:v'.ownBlock≠some b:=by
  rcases ho with ho | ⟨g,hg,hge⟩
  ·rw[ho];exact h.off i hi
  ·rw[hg];intro e;injection e with e;omega
 have hsz:(w1.setCell ⟨b,o,none⟩ v').heap.size=w1.heap.size:=by simp[World.setCell]
 refine⟨⟨fun j hj=> ?_, .inl h.self,fun j hj=> ?_,fun j k hj hk' hne g hg=> ?_,fun j hj k hk'=> ?_,fun k hk'=> ?_⟩, ?_⟩
 ·by_cases e:j=i
  ·subst e
   rw[setAt_same,setAt_same]
   exact hq.other _ _ (fun k hk' e'=>hnb (by rw[hk',e']))
  ·rw[setAt_other _ _ _ _ e,setAt_other _ _ _ _ e]
   exact((h.rows j hj).keeps hk (fun k hk' e'=>h.apart j i hj hi e k hk' e')).other _ _ (fun k hk' e'=>h.off j hj (by rw[hk',e']))
 ·by_cases e:j=i
  ·subst e;rw[setAt_same];exact hnb
  ·rw[setAt_other _ _ _ _ e];exact h.off j hj
 ·by_cases e:j=i
  ·subst e
   rw[setAt_same]at hg
   rw[setAt_other _ _ _ _ (Ne.symm hne)]
   rcases ho with ho | ⟨g',hg',hge⟩
   ·exact h.apart j k hj hk' hne g (ho▸hg)
   ·intro e'
    rw[hg']at hg;injection hg with hg;subst hg
    have:=h.lt _ (h.own k hk' _ e');omega
  ·rw[setAt_other _ _ _ _ e]at hg
   by_cases e2:k=i
   ·subst e2
    rw[setAt_same]
    rcases ho with ho | ⟨g',hg',hge⟩
    ·rw[ho];exact h.apart j k hj hk' hne g hg
    ·intro e'
     rw[hg']at e';injection e' with e';subst e'
     have:=h.lt _ (h.own j hj _ hg);omega
   ·rw[setAt_other _ _ _ _ e2];exact h.apart j k hj hk' hne g hg
 ·by_cases e:j=i
  ·subst e
   rw[setAt_same]at hk'
   rcases ho with ho | ⟨g',hg',hge⟩
   ·exact .inl (h.own j hj k (ho▸hk'))
   ·rw[hg']at hk';injection hk' with hk';subst hk'
    exact .inr ⟨hge,hq.lt _ hg'⟩
  ·rw[setAt_other _ _ _ _ e]at hk'
   exact .inl (h.own j hj k hk')
 ·rw[hsz]
  rcases hk' with hk' | hk'
  ·have:=h.lt k hk';have:=hk.size;omega
  ·exact hk'.2
 ·exact(hk.mono (fun k _ hk'=>h.own i hi k hk')).trans (Keeps.setCell _ _ _ _ h.self)
def HostV (w:World) (S:Nat→Prop) (T E b:Nat) (lanes queue:Int) (q:Nat→List Pkt):Prop:=
 ∃v:Nat→Value,w.heap[b]? =some (.cells #[v 0,v 1,v 2,v 3, .int .i64 lanes, .int .i64 queue] T (0,0))∧RowsOf w S b E 4 v q
theorem HostV.keeps {w w':World} {S F:Nat→Prop} {T E b:Nat} {lanes queue:Int} {q:Nat→List Pkt} (h:HostV w S T E b lanes queue q) (hk:Keeps F w w') (hF:∀k,S k→¬F k):HostV w' S T E b lanes queue q:=by
 obtain⟨v,hb,hr⟩:=h
 exact⟨v,blk_keeps hk hb (hF b hr.self),hr.keeps hk hF⟩
theorem HostV.put {w w1:World} {S:Nat→Prop} {T E b:Nat} {lanes queue:Int} {v:Nat→Value} {q:Nat→List Pkt} (hb:w.heap[b]? =some (.cells #[v 0,v 1,v 2,v 3, .int .i64 lanes, .int .i64 queue] T (0,0))) (h:RowsOf w S b E 4 v q)
  {i:Nat} (hi:i < 4) {v':Value} {l':List Pkt}
  (hk:Keeps (fun k=>(v i).ownBlock=some k) w w1) (hq:QS w1 E 4 v' l'.length (pcells l')) (ho:v'.ownBlock=(v i).ownBlock∨∃g,v'.ownBlock=some g∧w.heap.size≤g):
  HostV (w1.setCell ⟨b,i,none⟩ v') (fun k=>S k∨(w.heap.size≤k∧k < w1.heap.size)) T E b lanes queue (setAt q i l')∧Keeps S w (w1.setCell ⟨b,i,none⟩ v'):=by
 obtain⟨r1,r2⟩:=h.put (o:=i) hi hk hq ho
 refine⟨⟨_, ?_,r1⟩,r2⟩
 rw[blk_set (blk_keeps hk hb (fun e=>h.off i hi e)) i v']
 match i,hi with
 | 0,_=>rfl
 | 1,_=>rfl
 | 2,_=>rfl
 | 3,_=>rfl
end Go.Proofs.YtebnflpanfmicaaGreatDoor
namespace Go.Proofs.YtebnflpanfmicaaGreatDoor
open Go.RowKit
theorem info_pkt:(Tryz.prog.info? 31).map (fun i=>(i.zero,i.size,i.bytes))=some (some (.agg #[.int .i64 0, .int .i64 0, .int .i64 0, .int .u32 0]),4,32):=by kernel_rfl
abbrev hostCells (lanes queue:Int):Array Value:= #[.slice none 0 0, .slice none 0 0, .slice none 0 0, .slice none 0 0, .int .i64 lanes, .int .i64 queue]
set_option maxHeartbeats 400000 in
theorem hnew_ok (lanes queue:Int) (w:World) (h1:1≤lanes) (h2:lanes≤3) (h3:1≤queue) (h4:queue≤8):
  Calls Tryz.prog 80 #[.int .i64 lanes, .int .i64 queue] w fun e w'=>e= .returned (.pointer (some ⟨w.heap.size,0,none⟩))∧w'=w.alloc (.cells (hostCells lanes queue) 200):=by
 go_enter Tryz.func80,Tryz.ntmps80
 go_wp2
 go_ret
 exact⟨rfl,rfl⟩
theorem HostV.new (w:World) (lanes queue:Int) (T E:Nat):HostV (w.alloc (.cells (hostCells lanes queue) T)) (fun k=>k=w.heap.size) T E w.heap.size lanes queue (fun _=>[]):=
 ⟨fun _=> .slice none 0 0,blk_new w _,⟨fun _ _=>QS.nil _ _ _,rfl,fun _ _ h=>(by cases h),fun _ _ _ _ _ _ h=>(by cases h),fun _ _ _ h=>(by cases h),fun k (hk:k=w.heap.size)=>(by rw[hk];simp)⟩⟩
set_option maxHeartbeats 400000 in
theorem right_yes (b:Nat) (l n:Int) (w:World) (hc:w.cell? ⟨b,4,none⟩=some (.int .i64 n)) (h0:0≤l) (h1:l < n):
  Calls Tryz.prog 132 #[.pointer (some ⟨b,0,none⟩), .int .i64 l] w fun e w'=>e= .returned (.bool true)∧w=w':=by
 go_enter Tryz.func132,Tryz.ntmps132
 go_wp2
 go_ret
 exact⟨rfl,rfl⟩
set_option maxHeartbeats 400000 in
theorem right_no (b:Nat) (l n:Int) (w:World) (hc:w.cell? ⟨b,4,none⟩=some (.int .i64 n)) (h:l < 0∨(0≤l∧n≤l)):
  Calls Tryz.prog 132 #[.pointer (some ⟨b,0,none⟩), .int .i64 l] w fun e w'=>e= .returned (.bool false)∧w=w':=by
 rcases h with h0 | ⟨h0,h1⟩
 ·go_enter Tryz.func132,Tryz.ntmps132
  go_wp2
  go_ret
  exact⟨rfl,rfl⟩
 ·go_enter Tryz.func132,Tryz.ntmps132
  go_wp2
  go_ret
  exact⟨by simp;omega,rfl⟩
set_option maxHeartbeats 400000 in
theorem waits_low (b l:Nat) (n:Int) (A:Option Addr) (len cap:Nat) (w:World) (hc:w.cell? ⟨b,4,none⟩=some (.int .i64 n)) (h1:(l:Int) < n) (hn:l < 3)
  (hs:w.cell? ⟨b,l,none⟩=some (.slice A len cap)):
  Calls Tryz.prog 67 #[.pointer (some ⟨b,0,none⟩), .int .i64 l] w fun e w'=>e= .returned (.int .i64 len)∧w=w':=by
 go_enter Tryz.func67,Tryz.ntmps67
 go_wp2_with (go_at_call 132;refine(right_yes _ _ _ _ hc (by omega) h1).mono ?_;rintro e w' ⟨rfl,rfl⟩)
 go_ret
 exact⟨rfl,rfl⟩
set_option maxHeartbeats 400000 in
theorem waits_no (b:Nat) (l n:Int) (w:World) (hc:w.cell? ⟨b,4,none⟩=some (.int .i64 n)) (h:l < 0∨(0≤l∧n≤l)):
  Calls Tryz.prog 67 #[.pointer (some ⟨b,0,none⟩), .int .i64 l] w fun e w'=>e= .returned (.int .i64 0)∧w=w':=by
 have h':=Lib.hid h
 clear h
 go_enter Tryz.func67,Tryz.ntmps67
 go_wp2_with (go_at_call 132;refine(right_no _ _ _ _ hc h'.out).mono ?_;rintro e w' ⟨rfl,rfl⟩)
 go_ret
 exact⟨rfl,rfl⟩
theorem HostV.cell {w:World} {S:Nat→Prop} {T E b:Nat} {lanes queue:Int} {q:Nat→List Pkt} (h:HostV w S T E b lanes queue q) (i:Nat) (hi:i < 4):
  ∃A cap,w.cell? ⟨b,i,none⟩=some (.slice A (q i).length cap):=by
 obtain⟨v,hb,hr⟩:=h
 obtain⟨A,cap,e,_⟩:=(hr.rows i hi).shape
 refine⟨A,cap, ?_⟩
 rw[blk_cell hb,←e]
 match i,hi with
 | 0,_=>rfl
 | 1,_=>rfl
 | 2,_=>rfl
 | 3,_=>rfl
theorem HostV.lanes {w:World} {S:Nat→Prop} {T E b:Nat} {lanes queue:Int} {q:Nat→List Pkt} (h:HostV w S T E b lanes queue q):w.cell? ⟨b,4,none⟩=some (.int .i64 lanes):=by
 obtain⟨v,hb,hr⟩:=h;rw[blk_cell hb];rfl
theorem HostV.queue {w:World} {S:Nat→Prop} {T E b:Nat} {lanes queue:Int} {q:Nat→List Pkt} (h:HostV w S T E b lanes queue q):w.cell? ⟨b,5,none⟩=some (.int .i64 queue):=by
 obtain⟨v,hb,hr⟩:=h;rw[blk_cell hb];rfl
theorem waits_ok {S:Nat→Prop} {T E:Nat} {q:Nat→List Pkt} (b:Nat) (l lanes queue:Int) (w:World) (h:HostV w S T E b lanes queue q) (h0:0≤l) (h1:l < lanes) (h3:lanes≤3):
  Calls Tryz.prog 67 #[.pointer (some ⟨b,0,none⟩), .int .i64 l] w fun e w'=>e= .returned (.int .i64 (q l.toNat).length)∧w=w':=by
 obtain⟨l,rfl⟩:=Int.eq_ofNat_of_zero_le h0
 obtain⟨A,cap,hc⟩:=h.cell l (by omega)
 exact waits_low b l lanes A _ cap w h.lanes h1 (by omega) hc
set_option maxHeartbeats 400000 in
theorem eject_low (b:Nat) (x:Pkt) (v0 v1 v2 v3 v4 v5:Value) (n:Nat) (cs:List Value) (w:World) (hb:w.heap[b]? =some (.cells #[v0,v1,v2,v3,v4,v5] 200 (0,0)))
  (hQ:QS w 31 4 v3 n cs) (hd:v3.ownBlock≠some b) (hn:n≤1000000000):
  Calls Tryz.prog 184 #[.pointer (some ⟨b,0,none⟩), .agg #[.int .i64 x.src, .int .i64 x.dst, .int .i64 x.lane, .int .u32 x.body]] w fun e w'=>e= .returned (.tuple #[])∧
   ∃A c w1,w'=w1.setCell ⟨b,3,none⟩ (.slice A (n+1) c)∧QS w1 31 4 (.slice A (n+1) c) (n+1) (cs ++ x.cells)∧
    Keeps (fun k=>v3.ownBlock=some k) w w1∧((Value.slice A (n+1) c).ownBlock=v3.ownBlock∨∃b,(Value.slice A (n+1) c).ownBlock=some b∧w.heap.size≤b):=by
 obtain⟨A0,c0,rfl,hnc,hcm⟩:=hQ.shape
 have hlt:=blk_lt hb
 have hc3:w.cell? ⟨b,3,none⟩=some (.slice A0 n c0):=by rw[blk_cell hb];rfl
 have hf3:w.frozen? ⟨b,3,none⟩=false:=blk_frozen hb 3
 obtain⟨O,hO⟩:∃O:Obj,O= .cells #[.int .i64 x.src, .int .i64 x.dst, .int .i64 x.lane, .int .u32 x.body] 31:=⟨_,rfl⟩
 have hQ':=((hQ.alloc O).alloc O).drew
 have hS:Src Tryz.prog 4 40 (.slice (some ⟨w.heap.size+1,0,none⟩) 1 1) 1 x.cells (((w.alloc O).alloc O).drew):=
  src_pkt Tryz.underlying40 x (by rw[hO];have:=blk_new (w.alloc O) O;rw[World.size_alloc,hO]at this;exact this)
 have hbnd:(n+1)*32≤140737488355328:=by omega
 have h32:0 < 32:=by decide
 have HB:=Lib.hid (p:=∀w1,World.grownBy ((w.alloc O).alloc O).drew w1 (Value.slice A0 n c0).ownBlock→w1.heap[b]? =some (.cells #[v0,v1,v2, .slice A0 n c0,v4,v5] 200 (0,0)))
  (fun w1 hg=>(hg.block b (by simp;omega) (fun e=>hd e.symm)).trans (blk_alloc (blk_alloc hb _) _))
 subst hO
 go_enter Tryz.func184,Tryz.ntmps184
 go_wp2_with fail
 go_region_law (refine step_append_QS rfl (.tmp 8) (.tmp 10) 40 40 rfl 31 _ 4 32 Tryz.underlying40 info_pkt rfl _ n cs rfl hQ' _ 1 _ rfl hS h32 hbnd ?_;intro A c w1 hq1 hg1 hb1;have k3:=blk_cell (HB.out w1 hg1) 3;have f3:=blk_frozen (HB.out w1 hg1) 3)
 all_goals
  go_end0
  refine⟨rfl,A,c,w1,rfl,hq1, ?_, ?_⟩
  ·exact(((Keeps.alloc _ w _).trans (Keeps.alloc _ _ _)).trans (Keeps.drew _ _)).trans (Keeps.grown hg1 (fun k hk=>hk))
  ·rcases hb1 with h | ⟨b',h,h'⟩
   ·exact .inl h
   ·exact .inr ⟨b',h,by simp at h';omega⟩
def HostNow (w w':World) (S:Nat→Prop) (T E b:Nat) (lanes queue:Int) (q:Nat→List Pkt):Prop:=
 ∃S':Nat→Prop,HostV w' S' T E b lanes queue q∧Keeps S w w'∧∀k,S' k→S k∨w.heap.size≤k
theorem eject_ok {S:Nat→Prop} {q:Nat→List Pkt} (b:Nat) (x:Pkt) (lanes queue:Int) (w:World) (h:HostV w S 200 31 b lanes queue q) (hn:(q 3).length≤1000000000):
  Calls Tryz.prog 184 #[.pointer (some ⟨b,0,none⟩), .agg #[.int .i64 x.src, .int .i64 x.dst, .int .i64 x.lane, .int .u32 x.body]] w fun e w'=>e= .returned (.tuple #[])∧
   HostNow w w' S 200 31 b lanes queue (setAt q 3 (q 3 ++ [x])):=by
 obtain⟨v,hb,hr⟩:=h
 refine(eject_low b x _ _ _ _ _ _ _ _ w hb (hr.rows 3 (by omega)) (hr.off 3 (by omega)) hn).mono ?_
 rintro e w' ⟨rfl,A,c,w1,rfl,hq,hk,ho⟩
 obtain⟨r1,r2⟩:=HostV.put hb hr (i:=3) (by omega) hk (l':=q 3 ++ [x]) (by rw[pcells_snoc,List.length_append];exact hq) ho
 exact⟨rfl,_,r1,r2,fun k hk=>hk.imp id And.left⟩
end Go.Proofs.YtebnflpanfmicaaGreatDoor
namespace Go.Proofs.YtebnflpanfmicaaGreatDoor
open Go.RowKit
set_option maxHeartbeats 400000 in
theorem put_arg (b:Nat) (x:Pkt) (n:Int) (w:World) (hb:b < w.heap.size) (hc:w.cell? ⟨b,4,none⟩=some (.int .i64 n)) (h:x.lane < 0∨(0≤x.lane∧n≤x.lane)):
  Calls Tryz.prog 71 #[.pointer (some ⟨b,0,none⟩), .agg #[.int .i64 x.src, .int .i64 x.dst, .int .i64 x.lane, .int .u32 x.body]] w fun e w'=>e= .returned (.int .u16 1)∧Keeps (fun _=>False) w w':=by
 have h':=Lib.hid h
 clear h
 have hc':(w.alloc (.cells #[.int .i64 x.src, .int .i64 x.dst, .int .i64 x.lane, .int .u32 x.body] 31)).cell? ⟨b,4,none⟩=some (.int .i64 n):=(World.cell?_of_block (Below.heap_alloc w _ b hb)).trans hc
 go_enter Tryz.func71,Tryz.ntmps71
 go_wp2_with (go_at_call 132;refine(right_no _ _ _ _ hc' h'.out).mono ?_;rintro e w' ⟨rfl,rfl⟩)
 go_ret
 exact⟨rfl,Keeps.alloc _ _ _⟩
set_option maxHeartbeats 400000 in
theorem put_back (b l:Nat) (s d q:Int) (n k:Int) (A:Option Addr) (len cap:Nat) (w:World) (hb:b < w.heap.size) (hc:w.cell? ⟨b,4,none⟩=some (.int .i64 n)) (hc5:w.cell? ⟨b,5,none⟩=some (.int .i64 k)) (hl:(l:Int) < n) (hl3:l < 3)
  (hs:w.cell? ⟨b,l,none⟩=some (.slice A len cap)) (hk:((len:Int) == k)=true):
  Calls Tryz.prog 71 #[.pointer (some ⟨b,0,none⟩), .agg #[.int .i64 s, .int .i64 d, .int .i64 l, .int .u32 q]] w fun e w'=>e= .returned (.int .u16 150)∧Keeps (fun _=>False) w w':=by
 have hc':(w.alloc (.cells #[.int .i64 s, .int .i64 d, .int .i64 l, .int .u32 q] 31)).cell? ⟨b,4,none⟩=some (.int .i64 n):=(World.cell?_of_block (Below.heap_alloc w _ b hb)).trans hc
 go_enter Tryz.func71,Tryz.ntmps71
 go_wp2_with (go_at_call 132;refine(right_yes _ _ _ _ hc' (by omega) hl).mono ?_;rintro e w' ⟨rfl,rfl⟩)
 go_quiet (fail)
 go_wp2
 go_ret
 exact⟨rfl,(Keeps.alloc _ _ _).trans (Keeps.drewN _ _ _)⟩
set_option maxHeartbeats 1000000 in
theorem put_low (b l:Nat) (x:Pkt) (hxl:x.lane=l) (n k:Int) (v:Nat→Value) (m:Nat) (cs:List Value) (w:World) (hb:w.heap[b]? =some (.cells #[v 0,v 1,v 2,v 3, .int .i64 n, .int .i64 k] 200 (0,0))) (hl:(l:Int) < n) (hl3:l < 3)
  (hQ:QS w 31 4 (v l) m cs) (hd:(v l).ownBlock≠some b) (hn:m≤1000000000) (hk:((m:Int) == k)=false):
  Calls Tryz.prog 71 #[.pointer (some ⟨b,0,none⟩), .agg #[.int .i64 x.src, .int .i64 x.dst, .int .i64 x.lane, .int .u32 x.body]] w fun e w'=>e= .returned (.int .u16 0)∧
   ∃A c w1,w'=w1.setCell ⟨b,l,none⟩ (.slice A (m+1) c)∧QS w1 31 4 (.slice A (m+1) c) (m+1) (cs ++ x.cells)∧
    Keeps (fun k=>(v l).ownBlock=some k) w w1∧((Value.slice A (m+1) c).ownBlock=(v l).ownBlock∨∃b,(Value.slice A (m+1) c).ownBlock=some b∧w.heap.size≤b):=by
 obtain⟨s,d,lane,q⟩:=x
 obtain rfl:lane=l:=hxl
 obtain⟨A0,c0,hv,hnc,hcm⟩:=hQ.shape
 have hlt:=blk_lt hb
 have hcl:w.cell? ⟨b,l,none⟩=some (.slice A0 m c0):=by
  rw[blk_cell hb,←hv]
  match l,hl3 with
  | 0,_=>rfl
  | 1,_=>rfl
  | 2,_=>rfl
 have hc4:w.cell? ⟨b,4,none⟩=some (.int .i64 n):=by rw[blk_cell hb];rfl
 have hc5:w.cell? ⟨b,5,none⟩=some (.int .i64 k):=by rw[blk_cell hb];rfl
 rw[hv]at hQ hd ⊢
 clear hv
 obtain⟨O,hO⟩:∃O:Obj,O= .cells #[.int .i64 s, .int .i64 d, .int .i64 l, .int .u32 q] 31:=⟨_,rfl⟩
 have hc':(w.alloc O).cell? ⟨b,4,none⟩=some (.int .i64 n):=(World.cell?_of_block (Below.heap_alloc w _ b hlt)).trans hc4
 subst hO
 go_enter Tryz.func71,Tryz.ntmps71
 go_wp2_with (go_at_call 132;refine(right_yes _ _ _ _ hc' (by omega) hl).mono ?_;rintro e w' ⟨rfl,rfl⟩)
 go_quiet (fail)
 go_wp2
 obtain⟨W,hW⟩:∃W,(w.alloc (.cells #[.int .i64 s, .int .i64 d, .int .i64 l, .int .u32 q] 31)).drewN nq=W:=⟨_,rfl⟩
 have hKW:Keeps (fun _=>False) w W:=by rw[←hW];exact(Keeps.alloc _ _ _).trans (Keeps.drewN _ _ _)
 have hnew:W.heap[w.heap.size]? =some (.cells #[.int .i64 s, .int .i64 d, .int .i64 l, .int .u32 q] 31 (0,0)):=by rw[←hW];exact blk_new w _
 have hsz:w.heap.size < W.heap.size:=blk_lt hnew
 have hbW:=blk_keeps hKW hb (fun h=>h)
 have hQW:=hQ.keeps hKW (fun _ _ h=>h)
 have x0:=blk_cell hnew 0
 have x1:=blk_cell hnew 1
 have x2:=blk_cell hnew 2
 have x3:=blk_cell hnew 3
 have hclW:W.cell? ⟨b,l,none⟩=some (.slice A0 m c0):=hKW.cell hcl (fun h=>h)
 have hQ':=(hQW.alloc (.cells #[.int .i64 s, .int .i64 d, .int .i64 l, .int .u32 q] 31)).drew
 have hS:Src Tryz.prog 4 40 (.slice (some ⟨W.heap.size,0,none⟩) 1 1) 1 [.int .i64 s, .int .i64 d, .int .i64 l, .int .u32 q] ((W.alloc (.cells #[.int .i64 s, .int .i64 d, .int .i64 l, .int .u32 q] 31)).drew):=
  src_pkt Tryz.underlying40 ⟨s,d,l,q⟩ (blk_new W _)
 have hbnd:(m+1)*32≤140737488355328:=by omega
 have h32:0 < 32:=by decide
 have HB:=Lib.hid (p:=∀w1,World.grownBy (W.alloc (.cells #[.int .i64 s, .int .i64 d, .int .i64 l, .int .u32 q] 31)).drew w1 (Value.slice A0 m c0).ownBlock→w1.cell? ⟨b,l,none⟩=some (.slice A0 m c0)∧w1.frozen? ⟨b,l,none⟩=false∧w1.cell? ⟨w.heap.size,2,none⟩=some (.int .i64 l))
  (fun w1 hg=>by
   have hb1:=(hg.block b (by simp;omega) (fun e=>hd e.symm)).trans (blk_alloc hbW _)
   have hn1:=(hg.block w.heap.size (by simp;omega) (fun e=>by have:=hQ.lt _ e.symm;omega)).trans (blk_alloc hnew _)
   exact⟨(World.cell?_of_block (a:=⟨b,l,none⟩) (hb1.trans hbW.symm)).trans hclW,blk_frozen hb1 l,blk_cell hn1 2⟩)
 rw[hW]
 clear hW hbW hb hcl hc4 hc5 hc' hQ hQW hnew
 simp only[List.getElem?_toArray]at x0 x1 x2 x3
 have hl3':(l:Int) < 3:=by omega
 have hbsz:b < W.heap.size:=by omega
 go_region_law (refine step_append_QS rfl (.tmp 34) (.tmp 36) 40 40 rfl 31 _ 4 32 Tryz.underlying40 info_pkt rfl _ m cs rfl hQ' _ 1 _ rfl hS h32 hbnd ?_;intro A c w1 hq1 hg1 hb1;obtain⟨k3,f3,g3⟩:=HB.out w1 hg1)
 all_goals
  go_wp2
  go_ret
  refine⟨rfl,A,c,w1,rfl,hq1, ?_, ?_⟩
  ·exact(hKW.mono (fun _ _ h=>h.elim)).trans (((Keeps.alloc _ W _).trans (Keeps.drew _ _)).trans (Keeps.grown hg1 (fun k hk=>hk)))
  ·rcases hb1 with h | ⟨b',h,h'⟩
   ·exact .inl h
   ·exact .inr ⟨b',h,by simp at h';omega⟩
theorem put_ok {S:Nat→Prop} {q:Nat→List Pkt} (b:Nat) (x:Pkt) (lanes queue:Int) (w:World) (h:HostV w S 200 31 b lanes queue q) (h3:lanes≤3) (h8:queue≤8) (h0:0≤x.lane) (h1:x.lane < lanes)
  (hn:((q x.lane.toNat).length:Int) < queue):
  Calls Tryz.prog 71 #[.pointer (some ⟨b,0,none⟩), .agg #[.int .i64 x.src, .int .i64 x.dst, .int .i64 x.lane, .int .u32 x.body]] w fun e w'=>e= .returned (.int .u16 0)∧
   HostNow w w' S 200 31 b lanes queue (setAt q x.lane.toNat (q x.lane.toNat ++ [x])):=by
 obtain⟨v,hb,hr⟩:=h
 have hl:x.lane=(x.lane.toNat:Int):=(Int.toNat_of_nonneg h0).symm
 have hl3:x.lane.toNat < 3:=by omega
 refine(put_low b x.lane.toNat x hl lanes queue v _ _ w hb (by omega) hl3 (hr.rows _ (by omega)) (hr.off _ (by omega)) (by omega) (beq_eq_false_iff_ne.2 (by omega))).mono ?_
 rintro e w' ⟨rfl,A,c,w1,rfl,hq,hk,ho⟩
 obtain⟨r1,r2⟩:=HostV.put hb hr (i:=x.lane.toNat) (by omega) hk (l':=q x.lane.toNat ++ [x]) (by rw[pcells_snoc,List.length_append];exact hq) ho
 exact⟨rfl,_,r1,r2,fun k hk=>hk.imp id And.left⟩
theorem put_full {S:Nat→Prop} {q:Nat→List Pkt} (b:Nat) (x:Pkt) (lanes queue:Int) (w:World) (h:HostV w S 200 31 b lanes queue q) (h3:lanes≤3) (h0:0≤x.lane) (h1:x.lane < lanes)
  (hn:((q x.lane.toNat).length:Int)=queue):
  Calls Tryz.prog 71 #[.pointer (some ⟨b,0,none⟩), .agg #[.int .i64 x.src, .int .i64 x.dst, .int .i64 x.lane, .int .u32 x.body]] w fun e w'=>e= .returned (.int .u16 150)∧Keeps (fun _=>False) w w':=by
 obtain⟨A,cap,hc⟩:=h.cell x.lane.toNat (by omega)
 have:=put_back b x.lane.toNat x.src x.dst x.body lanes queue A _ cap w (by obtain⟨v,hb,_⟩:=h;exact blk_lt hb) h.lanes h.queue (by omega) (by omega) hc (beq_iff_eq.2 hn)
 rwa[Int.toNat_of_nonneg h0]at this
theorem put_bad {S:Nat→Prop} {q:Nat→List Pkt} (b:Nat) (x:Pkt) (lanes queue:Int) (w:World) (h:HostV w S 200 31 b lanes queue q) (hl:x.lane < 0∨(0≤x.lane∧lanes≤x.lane)):
  Calls Tryz.prog 71 #[.pointer (some ⟨b,0,none⟩), .agg #[.int .i64 x.src, .int .i64 x.dst, .int .i64 x.lane, .int .u32 x.body]] w fun e w'=>e= .returned (.int .u16 1)∧Keeps (fun _=>False) w w':=
 put_arg b x lanes w (by obtain⟨v,hb,_⟩:=h;exact blk_lt hb) h.lanes hl
end Go.Proofs.YtebnflpanfmicaaGreatDoor
