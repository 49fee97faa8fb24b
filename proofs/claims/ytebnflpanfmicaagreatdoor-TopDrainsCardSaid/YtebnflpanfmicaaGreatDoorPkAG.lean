/-
  Part 7 of the proof: TopEnc, TopLink, TopDel.
-/
import Derived.Test.YtebnflpanfmicaaGreatDoorPkAE
import Derived.Deep.RegionHeld2
import Derived.Test.YtebnflpanfmicaaGreatDoorPkAF
import Derived.Deep.QuietTactic
import Derived.BigQuiet
set_option linter.unusedVariables false
set_option linter.unusedSimpArgs false
set_option linter.unusedSectionVars false
namespace Go.Proofs.YtebnflpanfmicaaGreatDoor
open Go.RowKit
def bareF (f:Frm):List Int:=if f.kind=1 then [f.kind,f.lane,hiB f.seq,loB f.seq] ++ [f.src,f.dst] ++ fourB f.body else [f.kind,f.lane,hiB f.seq,loB f.seq]
def encF (f:Frm):List Int:=bareF f ++ [hiB (sumC (bareF f)),loB (sumC (bareF f))]
abbrev Frm.cells (f:Frm):Array Value:= #[.int .u8 f.kind, .int .u8 f.lane, .int .u16 f.seq, .int .u8 f.src, .int .u8 f.dst, .int .u32 f.body]
set_option maxHeartbeats 1000000 in
theorem enc_no (f:Frm) (w:World) (h:¬soundF f):
  Calls Tryz.prog 124 #[f.val] w fun e w'=>e= .returned (.tuple #[.slice none 0 0, .int .u16 1])∧Keeps (fun _=>False) w w':=by
 have h0:decide (soundF f)=false:=decide_eq_false h
 clear h
 obtain⟨k,l,s,x,y,b⟩:=f
 have C:=Lib.hid (sound_runs ⟨k,l,s,x,y,b⟩)
 go_enter Tryz.func124,Tryz.ntmps124
 go_wp2_with (go_at_call 168;refine(C.out _).mono ?_;rintro e w' ⟨rfl,hk⟩)
 go_ret2
 exact⟨rfl,(Keeps.alloc _ _ _).trans hk⟩
set_option maxRecDepth 20000 in
set_option maxHeartbeats 2000000 in
theorem enc_yes (f:Frm) (w:World) (h:soundF f):
  Calls Tryz.prog 124 #[f.val] w fun e w'=>∃v,e= .returned (.tuple #[v, .int .u16 0])∧QS w' 5 1 v (encF f).length ((encF f).map encB)∧Keeps (fun _=>False) w w'∧∀k,v.ownBlock=some k→w.heap.size≤k:=by
 have h0:decide (soundF f)=true:=decide_eq_true h
 have hE:=Lib.hid (p:=encF f=bareF f ++ [hiB (sumC (bareF f)),loB (sumC (bareF f))]) rfl
 have hB:=Lib.hid (p:=bareF f=if f.kind=1 then [f.kind,f.lane,hiB f.seq,loB f.seq] ++ [f.src,f.dst] ++ fourB f.body else [f.kind,f.lane,hiB f.seq,loB f.seq]) rfl
 generalize encF f=EF at*
 generalize bareF f=BF at*
 clear h
 obtain⟨k,l,s,x,y,b⟩:=f
 have C:=Lib.hid (sound_runs ⟨k,l,s,x,y,b⟩)
 go_enter Tryz.func124,Tryz.ntmps124
 have hb0:(w.alloc (.cells (Frm.cells ⟨k,l,s,x,y,b⟩) 210)).heap[w.heap.size]? =some (.cells (Frm.cells ⟨k,l,s,x,y,b⟩) 210 (0,0)):=blk_new _ _
 go_wp2_with (go_at_call 168;refine(C.out _).mono ?_;rintro e W ⟨rfl,hk⟩;have hW:=blk_keeps hk hb0 (fun h=>h);have hlt:=blk_lt hW;have d0:=blk_cell hW 0;have d1:=blk_cell hW 1;have d2:=blk_cell hW 2;have d3:=blk_cell hW 3;have d4:=blk_cell hW 4;have d5:=blk_cell hW 5;simp only[List.getElem?_toArray,List.getElem?_cons_zero,List.getElem?_cons_succ]at d0 d1 d2 d3 d4 d5)
 have q0:QS (W.alloc (.cells #[.int .u8 k, .int .u8 l] 5)) 5 1 (.slice (some ⟨W.heap.size,0,none⟩) 2 2) 2 ([k,l].map encB):=QS.made W _ [.int .u8 k, .int .u8 l] 2 rfl (by decide)
 refine(two_runs _ 2 [k,l] s _ q0 (by decide)).mono ?_
 rintro e X ⟨A1,c1,rfl,hq1,hk1,ho1⟩
 have hX:X.heap[w.heap.size]? =some (.cells (Frm.cells ⟨k,l,s,x,y,b⟩) 210 (0,0)):=blk_keeps hk1 (blk_alloc hW _) (fun h=>by injection h with h;simp only at h;omega)
 have hKX:Keeps (fun _=>False) w X:=(((Keeps.alloc (fun _=>False) w _).trans hk).trans (Keeps.alloc _ _ _)).then hk1 (fun i hi h=>by injection h with h;simp only at h;omega)
 have hoX:∀k,(Value.slice A1 (2+2) c1).ownBlock=some k→W.heap.size≤k:=by
  intro j hj
  rcases ho1 with h | ⟨b',h,hb'⟩
  ·rw[h]at hj;cases hj;exact Nat.le_refl _
  ·rw[h]at hj;cases hj;rw[World.size_alloc]at hb';omega
 have hlX:=blk_lt hX
 have hWX:W.heap.size≤X.heap.size:=by have:=hk1.size;rw[World.size_alloc]at this;omega
 clear hW d0 d1 d2 d3 d4 d5 hk1 ho1 hb0 q0
 have d0:=blk_cell hX 0;have d3:=blk_cell hX 3;have d4:=blk_cell hX 4;have d5:=blk_cell hX 5
 simp only[List.getElem?_toArray,List.getElem?_cons_zero,List.getElem?_cons_succ]at d0 d3 d4 d5
 by_cases k1:k=1
 ·subst k1
  have hS:∀w':World,w'.heap[w.heap.size]? =X.heap[w.heap.size]? →w'.cell? ⟨w.heap.size,3,none⟩=some (.int .u8 x)∧w'.cell? ⟨w.heap.size,4,none⟩=some (.int .u8 y)∧w'.cell? ⟨w.heap.size,5,none⟩=some (.int .u32 b):=
   fun w' e=>⟨(World.cell?_of_block e).trans d3,(World.cell?_of_block e).trans d4,(World.cell?_of_block e).trans d5⟩
  have S0:=Lib.hid (hS X.drew rfl)
  have S1:=Lib.hid (p:=∀o,_) fun o=>hS (X.alloc o).drew (Below.heap_alloc X o _ hlX)
  have S2:=Lib.hid (p:=∀o w1,(X.alloc o).drew.grownBy w1 (Value.slice A1 (2+2) c1).ownBlock→_) fun o w1 hg=>hS w1 ((hg.block w.heap.size (by simp;omega) (fun e=>by have:=hoX _ e.symm;omega)).trans (Below.heap_alloc X o _ hlX))
  have hsrc:=Lib.hid (p:=∀o,_) fun o:Unit=>(src_blk Tryz.underlying22 (off:=0) (c:=2) (n:=2) (sz:=1) (news:=[encB x,encB y]) (show(X.alloc (.cells #[encB x,encB y] 5)).drew.heap[X.heap.size]? =some (.cells #[encB x,encB y] 5 (0,0))from blk_new X _) rfl (by intro jj hjj';match jj,hjj' with | 0,_=>rfl | 1,_=>rfl) (by intro u hu;simp at hu;rcases hu with rfl | rfl <;>rfl):Src Tryz.prog 1 22 _ 2 _ _)
  have HF:=Lib.hid (p:=∀A c w1,QS w1 5 1 (.slice A (2+2+2) c) (2+2+2) (List.map encB ([1,l] ++ [hiB s,loB s]) ++ [encB x,encB y])→_) fun A c w1 hq=>four_runs (.slice A (2+2+2) c) (2+2+2) ([1,l] ++ [hiB s,loB s] ++ [x,y]) b w1 hq (by decide)
  have S3:=Lib.hid (p:=∀o A c w1 w3,(X.alloc o).drew.grownBy w1 (Value.slice A1 (2+2) c1).ownBlock→((Value.slice A (2+2+2) c).ownBlock=(Value.slice A1 (2+2) c1).ownBlock∨∃b',(Value.slice A (2+2+2) c).ownBlock=some b'∧(X.alloc o).drew.heap.size≤b')→Keeps (fun k=>(Value.slice A (2+2+2) c).ownBlock=some k) w1 w3→_) fun o A c w1 w3 hg ho hk3=>hS w3 (by
   have e1:=(hg.block w.heap.size (by simp;omega) (fun e=>by have:=hoX _ e.symm;omega)).trans (Below.heap_alloc X o _ hlX)
   rw[←e1]
   refine hk3.block _ (by have:=hg.size;simp at this;omega) (fun e=> ?_)
   rcases ho with h | ⟨b',h,hb'⟩
   ·rw[h]at e;have:=hoX _ e;omega
   ·rw[e]at h;cases h;simp at hb';omega)
  have h1b:0 < 1:=by decide
  have h6b:(2+2+2)*1≤140737488355328:=by decide
  clear hS
  go_wp2_with fail
  go_region_held2 (fun w'=>w'.cell? ⟨w.heap.size,3,none⟩=some (.int .u8 x)∧w'.cell? ⟨w.heap.size,4,none⟩=some (.int .u8 y)∧w'.cell? ⟨w.heap.size,5,none⟩=some (.int .u32 b)) (first | assumption | with_reducible exact S0.out | with_reducible exact S1.out _ | exact S2.out _ _ (by assumption)) (first
   | (refine step_append_QS rfl (.tmp 19) (.tmp 24) 22 22 rfl 5 _ 1 1 Tryz.underlying22 info_u8 rfl _ (2+2) _ rfl (hq1.alloc _).drew _ 2 _ rfl (hsrc.out ()) h1b h6b ?_;intro A c w1 hq2 hg2 ho2)
   | (go_at_call 174;refine(HF.out _ _ _ hq2).mono ?_;rintro e w3 ⟨A3,c3,rfl,hq3,hk3,ho3⟩;have hS3:=S3.out _ _ _ _ _ hg2 ho2 hk3))
  have hk12:Keeps (fun k=>(Value.slice A1 (2+2) c1).ownBlock=some k) X w1:=((Keeps.alloc _ X _).trans (Keeps.drew _ _)).trans (Keeps.grown hg2 (fun k hk=>hk))
  have hK1:Keeps (fun _=>False) w w1:=hKX.then hk12 (fun i hi h=>by have:=hoX i h;omega)
  have hoA:∀k,(Value.slice A (2+2+2) c).ownBlock=some k→W.heap.size≤k:=by
   intro j hj
   rcases ho2 with h | ⟨b',h,hb'⟩
   ·exact hoX j ((show(Value.slice A1 (2+2) c1).ownBlock=some j from h▸hj))
   ·rw[h]at hj;cases hj;simp at hb';omega
  have hK3:Keeps (fun _=>False) w w3:=hK1.then hk3 (fun i hi h=>by have:=hoA i h;omega)
  have hoB:∀k,(Value.slice A3 (2+2+2+4) c3).ownBlock=some k→w.heap.size≤k:=by
   intro j hj
   rcases ho3 with h | ⟨b',h,hb'⟩
   ·have:=hoA j (h▸hj);omega
   ·rw[h]at hj;cases hj;have:=hK1.size;omega
  have hBF:=hB.out
  rw[if_pos trivial]at hBF
  have CS:=Lib.hid (sum_runs (.slice A3 (2+2+2+4) c3) BF w3 (by rw[hBF];exact hq3.byt))
  have CT:=Lib.hid (p:=∀w4,Keeps (fun _=>False) w3 w4→_) fun w4 hk4=>two_runs (.slice A3 (2+2+2+4) c3) (2+2+2+4) BF (sumC BF) w4 (by rw[hBF];exact hq3.keeps hk4 (fun _ _ h=>h)) (by decide)
  have hlen:EF.length=2+2+2+4+2:=by rw[hE.out,hBF];rfl
  have hBF':=Lib.hid hBF
  clear hBF hq2 hg2 ho2 hq3 hk3 ho3 S0 S1 S2 S3 HF hsrc hq1 hS3 C
  go_wp2_with (first
   | (go_at_call 166;refine CS.out.mono ?_;rintro e w4 ⟨rfl,hk4⟩)
   | (go_at_call 173;refine(CT.out _ hk4).mono ?_;rintro e w5 ⟨A5,c5,rfl,hq5,hk5,ho5⟩))
  go_ret2
  refine⟨.slice A5 (2+2+2+4+2) c5,rfl, ?_, ?_, ?_⟩
  ·rw[hlen,hE.out];exact hq5
  ·exact(hK3.trans hk4).then hk5 (fun i hi h=>by have:=hoB i h;omega)
  ·intro j hj
   rcases ho5 with h | ⟨b',h,hb'⟩
   ·exact hoB j (h▸hj)
   ·rw[h]at hj;cases hj;have:=(hK3.trans hk4).size;omega
 ·have q1:(k == 1)=false:=beq_eq_false_iff_ne.2 k1
  have hBF:=hB.out
  rw[if_neg k1]at hBF
  have CS:=Lib.hid (sum_runs (.slice A1 (2+2) c1) BF X (by rw[hBF];exact hq1.byt))
  have CT:=Lib.hid (p:=∀w4,Keeps (fun _=>False) X w4→_) fun w4 hk4=>two_runs (.slice A1 (2+2) c1) (2+2) BF (sumC BF) w4 (by rw[hBF];exact hq1.keeps hk4 (fun _ _ h=>h)) (by decide)
  have hlen:EF.length=2+2+2:=by rw[hE.out,hBF];rfl
  have hBF':=Lib.hid hBF
  clear hBF hq1 C
  go_wp2_with (first
   | (go_at_call 166;refine CS.out.mono ?_;rintro e w4 ⟨rfl,hk4⟩)
   | (go_at_call 173;refine(CT.out _ hk4).mono ?_;rintro e w5 ⟨A5,c5,rfl,hq5,hk5,ho5⟩))
  go_ret2
  refine⟨.slice A5 (2+2+2) c5,rfl, ?_, ?_, ?_⟩
  ·rw[hlen,hE.out];exact hq5
  ·exact(hKX.trans hk4).then hk5 (fun i hi h=>by have:=hoX i h;omega)
  ·intro j hj
   rcases ho5 with h | ⟨b',h,hb'⟩
   ·have:=hoX j (h▸hj);omega
   ·rw[h]at hj;cases hj;have:=(hKX.trans hk4).size;omega
end Go.Proofs.YtebnflpanfmicaaGreatDoor
namespace Go.Proofs.YtebnflpanfmicaaGreatDoor
open Go.RowKit
abbrev BQ (w:World) (v:Value) (l:List Int):Prop:=QS w 5 1 v l.length (l.map encB)
theorem encB_one (l:List Int):∀u∈l.map encB,u.oneCell'=true:=by
 intro u hu
 obtain⟨x,_,rfl⟩:=List.mem_map.1 hu
 rfl
structure LinkR (w:World) (S:Nat→Prop) (b:Nat) (room:Int) (v:Value) (vs:List Value) (rows:List (List Int)):Prop where
 box:w.heap[b]? =some (.cells #[v, .int .i64 room] 136 (0,0))
 row:QS w 22 1 v rows.length vs
 each:∀(i:Nat) u l,vs[i]? =some u→rows[i]? =some l→BQ w u l
 apart:∀(i j:Nat) u u',vs[i]? =some u→vs[j]? =some u'→i≠j→∀g,u.ownBlock=some g→u'.ownBlock≠some g
 own:∀u∈vs,∀g,u.ownBlock=some g→S g∧g≠b∧v.ownBlock≠some g
 vown:∀g,v.ownBlock=some g→S g∧g≠b
 sb:S b
 lt:∀k,S k→k < w.heap.size
 most:rows.length≤64
 short:∀l∈rows,l.length≤12
def LinkV (w:World) (S:Nat→Prop) (b:Nat) (room:Int) (rows:List (List Int)):Prop:=∃v vs,LinkR w S b room v vs rows
section
variable {w w':World} {S F:Nat→Prop} {b:Nat} {room:Int} {v:Value} {vs:List Value} {rows:List (List Int)}
theorem LinkR.keeps (h:LinkR w S b room v vs rows) (hk:Keeps F w w') (hF:∀k,S k→¬F k):LinkR w' S b room v vs rows:=
 ⟨blk_keeps hk h.box (hF _ h.sb),h.row.keeps hk (fun g hg=>hF g (h.vown g hg).1),fun i u l h1 h2=>(h.each i u l h1 h2).keeps hk (fun g hg=>hF g (h.own u (List.mem_of_getElem? h1) g hg).1),h.apart,h.own,h.vown,h.sb,fun k hk'=>Nat.lt_of_lt_of_le (h.lt k hk') hk.size,h.most,h.short⟩
theorem LinkV.keeps (h:LinkV w S b room rows) (hk:Keeps F w w') (hF:∀k,S k→¬F k):LinkV w' S b room rows:=by
 obtain⟨v,vs,h⟩:=h
 exact⟨v,vs,h.keeps hk hF⟩
theorem LinkR.wider {S':Nat→Prop} (h:LinkR w S b room v vs rows) (hS:∀k,S k→S' k) (hlt:∀k,S' k→k < w.heap.size):LinkR w S' b room v vs rows:=
 ⟨h.box,h.row,h.each,h.apart,fun u hu g hg=>⟨hS _ (h.own u hu g hg).1,(h.own u hu g hg).2⟩,fun g hg=>⟨hS _ (h.vown g hg).1,(h.vown g hg).2⟩,hS _ h.sb,hlt,h.most,h.short⟩
theorem LinkV.lt (h:LinkV w S b room rows):∀k,S k→k < w.heap.size:=by
 obtain⟨v,vs,h⟩:=h
 exact h.lt
theorem LinkV.wider {S':Nat→Prop} (h:LinkV w S b room rows) (hS:∀k,S k→S' k) (hlt:∀k,S' k→k < w.heap.size):LinkV w S' b room rows:=by
 obtain⟨v,vs,h⟩:=h
 exact⟨v,vs,h.wider hS hlt⟩
theorem LinkR.len (h:LinkR w S b room v vs rows):vs.length=rows.length:=by have:=h.row.1;omega
theorem LinkR.cells (h:LinkR w S b room v vs rows):w.cell? ⟨b,0,none⟩=some v∧w.cell? ⟨b,1,none⟩=some (.int .i64 room):=by
 refine⟨?_, ?_⟩ <;>(rw[blk_cell h.box];rfl)
end
set_option maxHeartbeats 400000 in
theorem lnew_runs (room:Int) (h1:1≤room) (h2:room≤64) (w:World):
  Calls Tryz.prog 44 #[.int .i64 room] w fun e w'=>e= .returned (.pointer (some ⟨w.heap.size,0,none⟩))∧Keeps (fun _=>False) w w'∧LinkV w' (fun k=>k=w.heap.size) w.heap.size room []:=by
 have a1:¬room < 1:=by omega
 have a2:¬(64:Int) < room:=by omega
 go_enter Tryz.func44,Tryz.ntmps44
 go_wp2_with fail
 go_ret
 exact⟨rfl,Keeps.alloc _ _ _, .slice none 0 0,[],blk_new _ _,QS.nil _ _ _,fun i u l h=>by simp at h,fun i j u u' h=>by simp at h,fun u hu=>by simp at hu,fun g hg=>(by cases hg),rfl,fun k hk=>by subst hk;simp,by simp,fun l hl=>by simp at hl⟩
def rowAt (vs:List Value) (i:Int):Value:=if i < 0 then .slice none 0 0 else(vs[i.toNat]?).getD (.slice none 0 0)
def inRow (rows:List (List Int)) (i:Int):Bool:=decide (0≤i∧i < rows.length)
set_option maxHeartbeats 1000000 in
theorem lat_runs (b:Nat) (room:Int) (v:Value) (vs:List Value) (rows:List (List Int)) (S:Nat→Prop) (w:World) (h:LinkR w S b room v vs rows) (i:Int):
  Calls Tryz.prog 62 #[.pointer (some ⟨b,0,none⟩), .int .i64 i] w fun e w'=>e= .returned (.tuple #[rowAt vs i, .bool (inRow rows i)])∧w=w':=by
 obtain⟨c0,c1⟩:=h.cells
 obtain⟨A,cap,hv,hc1,hc2⟩:=h.row.shape
 have hm:=h.most
 by_cases h0:i < 0
 ·have e1:rowAt vs i= .slice none 0 0:=by simp[rowAt,h0]
  have e2:inRow rows i=false:=decide_eq_false (by omega)
  rw[e1,e2]
  subst hv
  clear h e1 e2
  go_enter Tryz.func62,Tryz.ntmps62
  go_wp2_with fail
  go_ret2
  exact⟨rfl,rfl⟩
 obtain⟨k,rfl⟩:∃k:Nat,i=(k:Int):=⟨i.toNat,by omega⟩
 by_cases h1:k < rows.length
 ·have hl:=h.len
  have hk:vs[k]? =some vs[k]:=List.getElem?_eq_getElem (by omega)
  have e1:rowAt vs (k:Int)=vs[k]:=by
   unfold rowAt
   rw[if_neg (by omega),Int.toNat_natCast,hk];rfl
  have e2:inRow rows (k:Int)=true:=decide_eq_true (by omega)
  have hq:=h.each k vs[k] rows[k] hk (List.getElem?_eq_getElem h1)
  obtain⟨A',cap',hv',_,_⟩:=hq.shape
  obtain⟨g,off,cp,hvv,_,hcell,_⟩:=h.row.cell (by omega)
  have hcl:=hcell k _ hk
  rw[e1,e2]
  generalize vs[k]=u at*
  subst hv'
  rw[hvv]at c0
  have h2:(k:Int) < (rows.length:Int):=by omega
  have h3:(0:Int)≤(k:Int):=by omega
  clear h e1 e2 hk hq hcell hv hvv
  go_enter Tryz.func62,Tryz.ntmps62
  go_wp2_with fail
  go_ret2
  exact⟨rfl,rfl⟩
 ·have e1:rowAt vs (k:Int)= .slice none 0 0:=by
   have:=h.len
   unfold rowAt
   rw[if_neg (by omega),Int.toNat_natCast,List.getElem?_eq_none (by omega)];rfl
  have e2:inRow rows (k:Int)=false:=decide_eq_false (by omega)
  have h2:(rows.length:Int)≤(k:Int):=by omega
  rw[e1,e2]
  subst hv
  clear h e1 e2
  go_enter Tryz.func62,Tryz.ntmps62
  go_wp2_with fail
  go_ret2
  exact⟨rfl,rfl⟩
theorem bclone_nil (w:World):Calls Tryz.prog 70 #[.slice none 0 0] w fun e w'=>e= .returned (.slice none 0 0)∧w=w':=by
 have hn:=Lib.run_eql_slice_nil (P:=Tryz.prog) w 22 5 none 0 0 0 0 Tryz.underlying22
 go_enter Tryz.func70,Tryz.ntmps70
 go_wp2
 go_ret
 exact⟨rfl,rfl⟩
set_option maxHeartbeats 1000000 in
theorem bclone_some (a:Addr) (cap:Nat) (l:List Int) (w:World) (hQ:BQ w (.slice (some a) l.length cap) l) (hn:l.length≤1000000000):
  Calls Tryz.prog 70 #[.slice (some a) l.length cap] w fun e w'=>∃A c,e= .returned (.slice A l.length c)∧BQ w' (.slice A l.length c) l∧Keeps (fun _=>False) w w'∧(∀k,(Value.slice A l.length c).ownBlock=some k→w.heap.size≤k):=by
 unfold BQ at*
 have h1:=encB_one l
 obtain⟨cs,hcs⟩:∃cs,l.map encB=cs:=⟨_,rfl⟩
 rw[hcs]at hQ h1 ⊢
 generalize l.length=n at*
 clear hcs
 have hnn:=Lib.run_eql_slice_nil (P:=Tryz.prog) w 22 5 (some a) n cap 0 0 Tryz.underlying22
 have h0:QS (w.alloc (.cells #[] 5)) 5 1 (.slice (some ⟨w.heap.size,0,none⟩) 0 0) 0 []:=⟨rfl, .inr ⟨_,0,0, #[],rfl,blk_new w _,Nat.le_refl _,Nat.zero_le _,by simp,fun j hj=>absurd hj (Nat.not_lt_zero _)⟩⟩
 have hS:=(hQ.alloc (.cells #[] 5)).src Tryz.underlying22 h1
 have hbnd:(0+n)*1≤140737488355328:=by omega
 have h32:0 < 1:=by decide
 go_enter Tryz.func70,Tryz.ntmps70
 go_wp2_with (at_builtin;refine wpList_append_QS rfl (.tmp 5) (.tmp 6) 22 22 rfl 5 _ 1 1 Tryz.underlying22 info_u8 rfl _ 0 [] rfl h0 _ n cs rfl hS h32 hbnd ?_;intro A c w1 hq1 hg1 hb1)
 have hg2:(w.alloc (.cells #[] 5)).grownBy w1 (some w.heap.size):=hg1
 go_ret
 refine⟨A,c,rfl,by simpa using hq1,⟨hg2.os,hg2.tape,hg2.output,Nat.le_trans (by simp) hg2.size,fun i hi _=>(hg2.block i (by simp;omega) (fun e=>by injection e with e;omega)).trans (Below.heap_alloc _ _ _ hi)⟩,fun k hk=> ?_⟩
 rw[Nat.zero_add]at hb1
 rcases hb1 with h | ⟨b,h,h'⟩
 ·have h2:(Value.slice A n c).ownBlock=some w.heap.size:=h
  rw[hk]at h2;injection h2 with h2;omega
 ·rw[hk]at h;injection h with h;simp at h';omega
theorem bclone_runs (v:Value) (l:List Int) (w:World) (hQ:BQ w v l) (hn:l.length≤1000000000):
  Calls Tryz.prog 70 #[v] w fun e w'=>∃A c,e= .returned (.slice A l.length c)∧BQ w' (.slice A l.length c) l∧Keeps (fun _=>False) w w'∧(∀k,(Value.slice A l.length c).ownBlock=some k→w.heap.size≤k):=by
 rcases hQ.2 with⟨rfl,h0⟩ | ⟨g,off,cap,cur,rfl,_⟩
 ·refine(bclone_nil w).mono ?_
  rintro e w' ⟨rfl,rfl⟩
  unfold BQ at hQ ⊢
  rw[h0]at hQ ⊢
  exact⟨none,0,rfl,hQ,Keeps.refl _ _,fun _ h=>by cases h⟩
 ·exact bclone_some _ cap l w hQ hn
theorem info_bs:(Tryz.prog.info? 22).map (fun i=>(i.zero,i.size,i.bytes))=some (some (.slice none 0 0),1,24):=by kernel_rfl
theorem get_snoc' {α:Type} {l:List α} {i:Nat} {x y:α} (h:(l ++ [x])[i]? =some y):(i < l.length∧l[i]? =some y)∨(i=l.length∧y=x):=by
 by_cases hi:i < l.length
 ·rw[List.getElem?_append_left hi]at h;exact .inl ⟨hi,h⟩
 ·rw[List.getElem?_append_right (by omega)]at h
  have h1:=(List.getElem?_eq_some_iff.1 h)
  obtain⟨hlt,e⟩:=h1
  simp only[List.length_singleton]at hlt
  refine .inr ⟨by omega, ?_⟩
  rw[←e]
  simp
theorem LinkR.snoc {w W:World} {S:Nat→Prop} {b:Nat} {room:Int} {v v' u:Value} {vs:List Value} {rows:List (List Int)} {l:List Int} (h:LinkR w S b room v vs rows) (hk:Keeps (fun g=>v.ownBlock=some g) w W)
  (hq:QS W 22 1 v' (rows.length+1) (vs ++ [u])) (ho:v'.ownBlock=v.ownBlock∨∃g,v'.ownBlock=some g∧w.heap.size≤g) (hu:BQ W u l) (hn:∀g,u.ownBlock=some g→w.heap.size≤g∧v'.ownBlock≠some g) (h64:rows.length < 64) (h12:l.length≤12):
  LinkR (W.setCell ⟨b,0,none⟩ v') (more S w (W.setCell ⟨b,0,none⟩ v')) b room v' (vs ++ [u]) (rows ++ [l])∧Keeps S w (W.setCell ⟨b,0,none⟩ v'):=by
 have hbl:=h.lt b h.sb
 have hsz:(W.setCell ⟨b,0,none⟩ v').heap.size=W.heap.size:=by simp[World.setCell]
 have hs:=hk.size
 have hul:∀g,u.ownBlock=some g→g < W.heap.size:=hu.lt
 have hvl:∀g,v'.ownBlock=some g→(S g∧g≠b∧v.ownBlock=some g)∨(w.heap.size≤g∧g < W.heap.size):=fun g hg=>by
  rcases ho with ho | ⟨g',hg',hge⟩
  ·obtain⟨h1,h2⟩:=h.vown g (ho▸hg)
   exact .inl ⟨h1,h2,ho▸hg⟩
  ·rw[hg]at hg';cases hg'
   exact .inr ⟨hge,hq.lt g hg⟩
 have hvb:∀g,v'.ownBlock=some g→g≠b:=fun g hg=>by
  rcases hvl g hg with h1 | h1
  ·exact h1.2.1
  ·omega
 have kset:Keeps (fun g=>g=b) W (W.setCell ⟨b,0,none⟩ v'):=Keeps.setCell _ _ _ _ rfl
 have hlen:=h.len
 refine⟨⟨?_, ?_,fun i x y h1 h2=> ?_,fun i j x y h1 h2 hne g hg=> ?_,fun x hx g hg=> ?_,fun g hg=>⟨?_,hvb g hg⟩, .inl h.sb,fun k hk'=> ?_,by rw[List.length_append];show rows.length+1≤64;omega,fun x hx=> ?_⟩, ?_⟩
 ·rw[blk_set (blk_keeps hk h.box (fun e=>(h.vown b e).2 rfl)) 0 v']
  rfl
 ·rw[List.length_append]
  exact hq.keeps kset (fun g hg e=>hvb g hg e)
 ·rcases get_snoc' h1 with⟨hi,h1⟩ | ⟨hi,rfl⟩
  ·rcases get_snoc' h2 with⟨_,h2⟩ | ⟨hi2,_⟩
   ·exact((h.each i x y h1 h2).keeps hk (fun g hg e=>(h.own x (List.mem_of_getElem? h1) g hg).2.2 e)).keeps kset (fun g hg e=>(h.own x (List.mem_of_getElem? h1) g hg).2.1 e)
   ·omega
  ·rcases get_snoc' h2 with⟨hi2,_⟩ | ⟨_,rfl⟩
   ·omega
   ·exact hu.keeps kset (fun g hg e=>by have:=(hn g hg).1;omega)
 ·rcases get_snoc' h1 with⟨hi,h3⟩ | ⟨hi,rfl⟩
  ·rcases get_snoc' h2 with⟨_,h2⟩ | ⟨hi2,rfl⟩
   ·exact h.apart i j x y h3 h2 hne g hg
   ·intro e
    have:=(hn g e).1
    have:=h.lt g (h.own x (List.mem_of_getElem? h3) g hg).1
    omega
  ·rcases get_snoc' h2 with⟨_,h2⟩ | ⟨hi2,_⟩
   ·intro e
    have:=(hn g hg).1
    have:=h.lt g (h.own y (List.mem_of_getElem? h2) g e).1
    omega
   ·omega
 ·rcases List.mem_append.1 hx with hx | hx
  ·obtain⟨h1,h2,h3⟩:=h.own x hx g hg
   refine⟨.inl h1,h2,fun e=> ?_⟩
   rcases hvl g e with h4 | h4
   ·exact h3 h4.2.2
   ·have:=h.lt g h1;omega
  ·simp only[List.mem_singleton]at hx
   subst hx
   obtain⟨h1,h2⟩:=hn g hg
   exact⟨.inr ⟨h1,by rw[hsz];exact hul g hg⟩,by omega,h2⟩
 ·rcases hvl g hg with h1 | h1
  ·exact .inl h1.1
  ·exact .inr ⟨h1.1,by rw[hsz];exact h1.2⟩
 ·rcases hk' with h1 | h1
  ·have:=h.lt k h1;omega
  ·exact h1.2
 ·rcases List.mem_append.1 hx with hx | hx
  ·exact h.short x hx
  ·simp only[List.mem_singleton]at hx
   rw[hx];exact h12
 ·exact(hk.mono (fun g _ hg=>(h.vown g hg).1)).trans (Keeps.setCell _ _ _ _ h.sb)
set_option maxHeartbeats 4000000 in
theorem send_full (b:Nat) (room:Int) (vs:List Value) (rows:List (List Int)) (v u:Value) (S:Nat→Prop) (w:World) (h:LinkR w S b room v vs rows) (hf:(rows.length:Int)=room):
  Calls Tryz.prog 64 #[.pointer (some ⟨b,0,none⟩),u] w fun e w'=>e= .returned (.bool false)∧Keeps (fun _=>False) w w':=by
 obtain⟨c0,c1⟩:=h.cells
 obtain⟨A,cap,hv,hc1,hc2⟩:=h.row.shape
 have hm:=h.most
 subst hv
 rw[←hf]at c1
 clear h hf
 go_enter Tryz.func64,Tryz.ntmps64
 go_wp2_with fail
 go_quiet (fail)
 go_wp2_with fail
 go_ret
 exact⟨rfl,Keeps.drewN _ _ _⟩
set_option maxRecDepth 100000 in
set_option maxHeartbeats 8000000 in
theorem send_yes (b:Nat) (room:Int) (vs:List Value) (rows:List (List Int)) (v u:Value) (l:List Int) (S:Nat→Prop) (w:World) (h:LinkR w S b room v vs rows) (hf:((rows.length:Int) == room)=false) (hu:BQ w u l) (h64:rows.length < 64) (h12:l.length≤12):
  Calls Tryz.prog 64 #[.pointer (some ⟨b,0,none⟩),u] w fun e w'=>e= .returned (.bool true)∧Keeps S w w'∧LinkV w' (more S w w') b room (rows ++ [l]):=by
 obtain⟨c0,c1⟩:=h.cells
 obtain⟨A,cap,hv,hc1,hc2⟩:=h.row.shape
 have hm:=h.most
 have H:=Lib.hid h
 have HU:=Lib.hid hu
 obtain⟨uA,uc,hus,_,_⟩:=hu.shape
 subst hus
 have HVE:=Lib.hid hv
 obtain⟨n,hn⟩:∃n,rows.length=n:=⟨_,rfl⟩
 have HN:=Lib.hid hn
 rw[hv]at c0
 rw[hn]at c0 hf hm h64
 clear h hu hv hn
 obtain⟨m,hml⟩:∃m,l.length=m:=⟨_,rfl⟩
 have HM:=Lib.hid hml
 rw[hml]at HU h12 ⊢
 clear hml
 go_enter Tryz.func64,Tryz.ntmps64
 go_wp2_with fail
 go_quiet (fail)
 go_wp2_with fail
 have hkV:Keeps (fun _=>False) w (w.drewN nq):=Keeps.drewN _ _ _
 have hV:=H.out.keeps hkV (fun _ _ h=>h)
 have huV:=HU.out
 rw[←HM.out]at huV
 have huV:BQ (w.drewN nq) (.slice uA l.length uc) l:=huV.keeps hkV (fun _ _ h=>h)
 clear H HU
 generalize w.drewN nq=V at*
 have hbV:=hV.cells.1
 rw[HVE.out,HN.out]at hbV
 have hQV:=hV.row
 rw[HVE.out,HN.out]at hQV
 have hvown:∀g,v.ownBlock=some g→g < V.heap.size∧g≠b:=fun g hg=>⟨hV.lt g (hV.vown g hg).1,(hV.vown g hg).2⟩
 rw[HVE.out,HN.out]at hvown
 have HCL:=Lib.hid (p:=∀U,Keeps (fun _=>False) V U→Calls Tryz.prog 70 #[.slice uA m uc] U fun e w'=>∃A1 c1,e= .returned (.slice A1 m c1)∧BQ w' (.slice A1 m c1) l∧Keeps (fun _=>False) V w'∧(∀k,(Value.slice A1 m c1).ownBlock=some k→V.heap.size≤k)) fun U hU=>by
  have h3:=bclone_runs (.slice uA l.length uc) l U (huV.keeps hU (fun _ _ h=>h)) (by have:=HM.out;omega)
  rw[HM.out]at h3
  refine h3.mono ?_
  rintro e w' ⟨A1,c1,rfl,h4,h5,h6⟩
  exact⟨A1,c1,rfl,h4,hU.trans h5,fun k hk=>Nat.le_trans hU.size (h6 k hk)⟩
 have HB:=Lib.hid (p:=∀U,Keeps (fun _=>False) V U→U.cell? ⟨b,0,none⟩=some (.slice A n cap)) fun U hU=>hU.cell hbV (fun h=>h)
 have HNE:=Lib.hid (p:=∀U:World,Keeps (fun _=>False) V U→U.heap.size≠b) fun U hU=>by have:=World.block_lt_of_cell? U _ (HB.out U hU);simp only at this;omega
 have HQA:=Lib.hid (p:=∀U o,Keeps (fun _=>False) V U→QS (U.alloc o) 22 1 (.slice A n cap) n vs) fun U o hU=>(hQV.keeps hU (fun _ _ h=>h)).alloc o
 have HSA:=Lib.hid (p:=∀(U:World) (x:Value),x.oneCell'=true→Src Tryz.prog 1 80 (.slice (some ⟨U.heap.size,0,none⟩) 1 1) 1 [x] (U.alloc (.cells #[x] 22))) fun U x hx=>
  src_blk Tryz.underlying80 (blk_new U _) rfl (by intro jj hjj';match jj,hjj' with | 0,_=>rfl) (by intro y hy;simp at hy;rcases hy with rfl;exact hx)
 have HST:=Lib.hid (p:=∀U o U2,Keeps (fun _=>False) V U→(U.alloc o).grownBy U2 (Value.slice A n cap).ownBlock→U2.cell? ⟨b,0,none⟩=some (.slice A n cap)∧U2.frozen? ⟨b,0,none⟩=false) fun U o U2 hU hg=>by
  have hbx:=blk_keeps (hU.trans (Keeps.alloc _ _ o)) hV.box (fun h=>h)
  have hb2:=(hg.block b (blk_lt hbx) (fun e=>(hvown b e.symm).2 rfl)).trans hbx
  refine⟨?_,blk_frozen hb2 0⟩
  rw[blk_cell hb2,←HN.out,←HVE.out];rfl
 have h24:0 < 24:=by decide
 have hb24:(n+1)*24≤140737488355328:=by omega
 have hdV:Keeps (fun _=>False) V V.drew:=Keeps.drew _ _
 have hone:∀(A1:Option Addr) c1,(Value.slice A1 m c1).oneCell'=true:=fun _ _=>rfl
 have HV:=Lib.hid hV
 have HVO:=Lib.hid hvown
 have hbd:V.drew.cell? ⟨b,0,none⟩=some (.slice A n cap):=HB.out _ hdV
 clear hV hvown huV hbV hQV c0 c1
 go_region_law (first
  | (refine step_append_QS rfl (.tmp 19) (.tmp 22) 80 80 rfl 22 _ 1 24 Tryz.underlying80 info_bs rfl _ n vs rfl (HQA.out _ _ hk) _ 1 _ rfl (HSA.out _ _ (hone A1 c1)) h24 hb24 ?_;intro A2 c2 U2 hq2 hg2 ho2;obtain⟨hbU2,hfU2⟩:=HST.out _ _ _ hk hg2)
  | (go_simp;go_at_call 70;refine(HCL.out _ hdV).mono ?_;rintro e U ⟨A1,c1,rfl,hq,hk,ho⟩;have hbU:=HB.out _ hk;have hbA:∀o,(U.alloc o).cell? ⟨b,0,none⟩=some (.slice A n cap):=fun o=>HB.out _ (hk.trans (Keeps.alloc _ _ o))))
 all_goals
  clear HCL HQA HSA HST hbd hbA
  have hg:(U.alloc (.cells #[.slice A1 m c1] 22)).grownBy U2 (Value.slice A n cap).ownBlock:=hg2
  have ho3:(Value.slice A2 (n+1) c2).ownBlock=(Value.slice A n cap).ownBlock∨∃b,(Value.slice A2 (n+1) c2).ownBlock=some b∧(U.alloc (.cells #[.slice A1 m c1] 22)).heap.size≤b:=ho2
  have hq3:QS U2 22 1 (.slice A2 (n+1) c2) (n+1) (vs ++ [.slice A1 m c1]):=hq2
  clear hg2 ho2 hq2
  have hk2:Keeps (fun g=>(Value.slice A n cap).ownBlock=some g) V U2:=(hk.mono (fun _ _ h=>h.elim)).trans ((Keeps.alloc _ _ _).trans (Keeps.grown hg (fun i h=>h)))
  have hu2:BQ U2 (.slice A1 m c1) l:=(hq.alloc _).keeps (Keeps.grown hg (fun i h=>h)) (fun g h1 h2=>by have:=ho g h1;have:=(HVO.out g h2).1;omega)
  have hsU:=hk.size
  have hul:∀g,(Value.slice A1 m c1).ownBlock=some g→g < U.heap.size:=hq.lt
  have hn4:∀g,(Value.slice A1 m c1).ownBlock=some g→V.heap.size≤g∧(Value.slice A2 (n+1) c2).ownBlock≠some g:=fun g h1=>⟨ho g h1,fun h2=>by
   have:=ho g h1
   have:=hul g h1
   rcases ho3 with h3 | ⟨g',h3,h4⟩
   ·rw[h2]at h3
    have:=(HVO.out g h3.symm).1;omega
   ·rw[h2]at h3;cases h3;simp at h4;omega⟩
  have ho4:(Value.slice A2 (n+1) c2).ownBlock=(Value.slice A n cap).ownBlock∨∃b,(Value.slice A2 (n+1) c2).ownBlock=some b∧V.heap.size≤b:=ho3.imp id (fun⟨g,h1,h2⟩=>⟨g,h1,by simp at h2;omega⟩)
  have HK2:=Lib.hid hk2
  have HQ3:=Lib.hid hq3
  have HU2:=Lib.hid hu2
  have HN4:=Lib.hid hn4
  have HO4:=Lib.hid ho4
  clear hg ho3 hq3 hk2 hu2 hn4 ho4 hul ho hq hbU
  go_wp2_with fail
  go_ret
  have hV:=HV.out
  have hn:=HN.out
  have hm2:=HM.out
  have hve:=HVE.out
  rw[hn]at hve
  have r:=hV.snoc (W:=U2) (v':= .slice A2 (n+1) c2) (u:= .slice A1 m c1) (l:=l) (by rw[hve];exact HK2.out) (by rw[hn];exact HQ3.out) (by rw[hve];exact HO4.out) HU2.out HN4.out (by omega) (by omega)
  have h5:=(hkV.mono (G:=S) (fun _ _ h=>h.elim)).trans r.2
  refine⟨rfl,h5,_,_,r.1.wider (fun g hg=> ?_) (fun g hg=> ?_)⟩
  ·rcases hg with hg | hg
   ·exact .inl hg
   ·exact .inr ⟨Nat.le_trans hkV.size hg.1,hg.2⟩
  ·rcases hg with hg | hg
   ·exact r.1.lt g (.inl hg)
   ·exact hg.2
def sendL (room:Int) (rows:List (List Int)) (l:List Int):List (List Int):=if(rows.length:Int)=room then rows else rows ++ [l]
theorem send_runs (b:Nat) (room:Int) (rows:List (List Int)) (u:Value) (l:List Int) (S:Nat→Prop) (w:World) (h:LinkV w S b room rows) (hr:room≤64) (hrow:(rows.length:Int)≤room) (hu:BQ w u l) (h12:l.length≤12):
  Calls Tryz.prog 64 #[.pointer (some ⟨b,0,none⟩),u] w fun e w'=>e= .returned (.bool (decide ((rows.length:Int)≠room)))∧Keeps S w w'∧LinkV w' (more S w w') b room (sendL room rows l):=by
 obtain⟨v,vs,h⟩:=h
 unfold sendL
 by_cases hf:(rows.length:Int)=room
 ·rw[if_pos hf,decide_eq_false (by simpa using hf)]
  refine(send_full b room vs rows v u S w h hf).mono ?_
  rintro e w' ⟨rfl,hk⟩
  exact⟨rfl,hk.mono (fun _ _ h=>h.elim),v,vs,(h.keeps hk (fun _ _ h=>h)).wider (fun _ h=> .inl h) (fun g hg=>by
   rcases hg with hg | hg
   ·have:=h.lt g hg;have:=hk.size;omega
   ·exact hg.2)⟩
 ·rw[if_neg hf,decide_eq_true (by simpa using hf)]
  exact send_yes b room vs rows v u l S w h (beq_eq_false_iff_ne.2 hf) hu (by omega) h12
end Go.Proofs.YtebnflpanfmicaaGreatDoor
namespace Go.Proofs.YtebnflpanfmicaaGreatDoor
open Go.RowKit
theorem zero_bytes (w:World):(zeroValue 22).run Tryz.prog w= .ok (.slice none 0 0) w:=by kernel_rfl
theorem erase_at {α:Type} (vs:List α) (k j:Nat):(vs.eraseIdx k)[j]? =if j < k then vs[j]? else vs[j+1]? :=List.getElem?_eraseIdx
set_option maxRecDepth 100000 in
set_option maxHeartbeats 8000000 in
theorem del_low (g off p cap k:Nat) (vs:List Value) (w:World) (hq:QS w 22 1 (.slice (some ⟨g,off,none⟩) (p+1) cap) (p+1) vs) (hk:k≤p) (hn:p≤64) (h1:∀u∈vs,u.oneCell'=true):
  Calls Tryz.prog 63 #[.slice (some ⟨g,off,none⟩) (p+1) cap, .int .i64 k, .int .i64 ((k:Int)+1)] w fun e w'=>
   e= .returned (.slice (some ⟨g,off,none⟩) p cap)∧QS w' 22 1 (.slice (some ⟨g,off,none⟩) p cap) p (vs.eraseIdx k)∧Keeps (fun i=>i=g) w w':=by
 obtain⟨cur,hcur,hcap,hcm,hsz,hcell⟩:∃cur,w.heap[g]? =some (.cells cur 22 (0,0))∧p+1≤cap∧cap≤maxLen∧off+cap*1≤cur.size∧∀j,j < vs.length→cur[off+j]? =vs[j]? :=by
  rcases hq.2 with⟨h,_⟩ | ⟨g',off',cap',cur,h,h2,h3,h4,h5,h6⟩
  ·cases h
  ·cases h
   exact⟨cur,h2,h3,h4,h5,h6⟩
 have hvl:vs.length=p+1:=by have:=hq.1;omega
 obtain⟨m,hm⟩:∃m,p=k+m:=⟨p - k,by omega⟩
 have hnl:(vs.drop (k+1)).length=m*1:=by rw[List.length_drop];omega
 obtain⟨ad,had,hnews⟩:∃ad:Addr,(if cap=k+1 then some (⟨g,off,none⟩:Addr)else some ⟨g,off+(k+1),none⟩)=some ad∧∀j u,(vs.drop (k+1))[j]? =some u→w.drew.cell? (ad.add j)=some u:=by
  by_cases hc:cap=k+1
  ·refine⟨_,if_pos hc,fun j u hj=> ?_⟩
   have:=(List.getElem?_eq_some_iff.1 hj).1
   omega
  ·refine⟨_,if_neg hc,fun j u hj=> ?_⟩
   have h3:=(List.getElem?_eq_some_iff.1 hj).1
   rw[List.getElem?_drop]at hj
   rw[Addr.add_lit,World.cell?_drew,blk_cell hcur,show off+(k+1)+j=off+(k+1+j) by omega,hcell _ (List.getElem?_eq_some_iff.1 hj).1]
   exact hj
 have hone:∀u∈vs.drop (k+1),u.oneCell'=true:=fun u hu=>h1 u (List.mem_of_mem_drop hu)
 obtain⟨i0,hi0,hz0,hz1,hz2⟩:=info_parts info_bs
 have hroom:k+m≤cap:=by omega
 have hsp:∀j,j < (vs.drop (k+1)).length→(w.drew.cell? ⟨g,off+k*1+j,none⟩).isSome=true∧w.drew.frozen? ⟨g,off+k*1+j,none⟩=false:=fun j hj=>by
  rw[hnl]at hj
  refine⟨?_,blk_frozen (w:=w.drew) hcur _⟩
  rw[World.cell?_drew,blk_cell hcur,Array.getElem?_eq_getElem (by omega)]
  rfl
 obtain⟨hcur1,hlen1,hout1,hin1⟩:True∧True∧True∧True:=⟨trivial,trivial,trivial,trivial⟩
 obtain⟨cur1,r1,r2,r3,r4⟩:=sc_row (vs.drop (k+1)) (off+k*1) w.drew cur hcur
 have hfar:=fun i hi=>sc_far (g:=g) (vs.drop (k+1)) (off+k*1) (w:=w.drew) i hi
 obtain⟨t1,t2,t3,t4⟩:=sc_same g (vs.drop (k+1)) (off+k*1) w.drew
 rw[hnl]at r3 r4
 have hsz2:cap≤cur1.size - off:=by omega
 subst hm
 have a1:(0:Int)≤(k:Int):=by omega
 have a2:(k:Int)≤(k:Int)+1:=by omega
 have a3:(k:Int)+1≤((k+m:Nat):Int)+1:=by omega
 have a3':(k:Int)+1≤(k:Int)+(m:Int)+1:=by omega
 have a4:(k:Int)+(m:Int)+1≤(cap:Int):=by omega
 have a5:((k:Int) == (k:Int)+1)=false:=by rw[beq_eq_false_iff_ne];omega
 have a6:(k:Int)≤(cap:Int):=by omega
 have a7:(0:Int)≤(k:Int)+1:=by omega
 have a8:((k:Int)+1).toNat=k+1:=by omega
 have a9:cap≤9223372036854775807:=by unfold maxLen at hcm;omega
 have b1:k+m+1 - (k+1)=m:=by omega
 have b2:cap≠k+m:=by omega
 have b3:¬cap=k+m:=by omega
 have hwr:IntKind.i64.wrap ((k:Int)+1)=(k:Int)+1:=by simp[IntKind.wrap,IntKind.bits,IntKind.signed];omega
 have HN:=Lib.hid hnews
 have HS:=Lib.hid hsp
 have HO:=Lib.hid hone
 have HL:=Lib.hid hnl
 have HC:=Lib.hid hcell
 have HR3:=Lib.hid r3
 have HR3':=Lib.hid r3
 have HR4:=Lib.hid r4
 have HFAR:=Lib.hid hfar
 have HT:=Lib.hid (And.intro t1 (And.intro t2 (And.intro t3 t4)))
 have HI:=Lib.hid hi0
 have HZ:=Lib.hid hz1
 have HR1:=Lib.hid r1
 have HR2:=Lib.hid r2
 have HV:=Lib.hid hvl
 have HQ:=Lib.hid hq
 have HCUR:=Lib.hid hcur
 clear hnews hsp hone hnl hcell r3 r4 hfar t1 t2 t3 t4 hi0 hz0 hz1 hz2 r1 r2 hvl hq hcur h1
 go_enter Tryz.func63,Tryz.ntmps63
 go_wp2_with fail
 go_region_law (refine step_append_room rfl (.tmp 22) (.tmp 25) 80 rfl 22 i0 1 Tryz.underlying80 HI.out HZ.out g off k cap rfl ad m (cap - (k+1)) (vs.drop (k+1)) rfl HL.out HN.out HO.out hroom HS.out ?_)
 have hW1:=HR1.out
 have hwt:=HT.out
 have hfar1:=HFAR.out
 clear HS HN had
 have hmo:off+k*1=off+k:=by omega
 simp only[hmo]at hW1 hwt hfar1
 try rw[hmo]
 clear hmo HR1 HT HFAR HR3
 generalize w.drew.setCells g (off+k) (vs.drop (k+1))=W1 at*
 have hclr:∀ty,(Builtin.clear_ #[80] ty #[.slice (some ⟨g,off+(k+m),none⟩) 1 (cap - (k+m))]).run Tryz.prog W1= .ok (.tuple #[]) (W1.setCells g (off+(k+m)) (List.replicate 1 (.slice none 0 0))):=fun ty=>
  Lib.run_clear_slice W1 _ _ ty _ Tryz.underlying80 zero_bytes rfl rfl g (off+(k+m)) 1 _ (by omega) (fun j hj=>by rw[blk_cell hW1,Array.getElem?_eq_getElem (by have:=HR2.out;omega)];rfl) (fun j hj=>blk_frozen hW1 _)
 have HW1:=Lib.hid hW1
 have HWT:=Lib.hid hwt
 have HF1:=Lib.hid hfar1
 clear hW1 hwt hfar1
 go_wp2_with fail
 go_ret
 have hone1:=HW1.out
 have hL:=HL.out
 have hV:=HV.out
 have hsz1:=HR2.out
 obtain⟨cur2,s1,s2,s3,s4⟩:=sc_row [Value.slice none 0 0] (off+(k+m)) W1 cur1 hone1
 refine⟨rfl,⟨by rw[List.length_eraseIdx];split <;>omega, .inr ⟨g,off,cap,cur2,rfl,s1,by omega,hcm,by omega,fun j hj=> ?_⟩⟩, ?_⟩
 ·rw[List.length_eraseIdx,if_pos (by omega)]at hj
  rw[erase_at,s3 _ (.inl (by omega))]
  split
  ·rw[HR3'.out _ (.inl (by omega)),HC.out _ (by omega)]
  ·have h4:=HR4.out (by omega) (j - k) (by omega)
   rw[show off+k*1+(j - k)=off+j by omega]at h4
   rw[h4,List.getElem?_drop]
   congr 1;omega
 ·have h5:Keeps (fun i=>i=g) w W1:=⟨HWT.out.1,HWT.out.2.1,HWT.out.2.2.1,by have:=HWT.out.2.2.2;simp at this;omega,fun i hi hne=>HF1.out i hne⟩
  exact h5.trans (Keeps.setCell _ _ _ _ rfl)
end Go.Proofs.YtebnflpanfmicaaGreatDoor
