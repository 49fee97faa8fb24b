/-
  Part 25 of the proof: TopSay, TopMoveW.
-/
import Derived.Test.YtebnflpanfmicaaGreatDoorPkAX
import Derived.Deep.RegionLaw
set_option linter.unusedVariables false
set_option linter.unusedSimpArgs false
set_option linter.unusedSectionVars false
namespace Go.Proofs.YtebnflpanfmicaaGreatDoor
open Go.RowKit
def ocells:List Value→List (Nat×List Int)→List Value
 | u :: us,x :: l=> .int .i64 (x.1:Int) :: u :: ocells us l
 | _,_=>[]
theorem ocells_snoc:∀{us:List Value} {l:List (Nat×List Int)} (h:us.length=l.length) (u:Value) (x:Nat×List Int),ocells (us ++ [u]) (l ++ [x])=ocells us l ++ [.int .i64 (x.1:Int),u]
 | [],[],_,_,_=>rfl
 | v :: us,y :: l,h,u,x=>by
   show _ :: v :: ocells (us ++ [u]) (l ++ [x])=_ :: v :: (ocells us l ++ _)
   rw[ocells_snoc (by simpa using h)]
 | [],_ :: _,h,_,_=>by cases h
 | _ :: _,[],h,_,_=>by cases h
theorem ocells_at:∀{us:List Value} {l:List (Nat×List Int)} (h:us.length=l.length) (j:Nat) (x:Nat×List Int),l[j]? =some x→∃u,us[j]? =some u∧(ocells us l)[j*2]? =some (.int .i64 (x.1:Int))∧(ocells us l)[j*2+1]? =some u
 | [],[],_,j,x,hx=>by simp at hx
 | v :: us,y :: l,h,0,x,hx=>by
   simp at hx;subst hx
   exact⟨v,rfl,rfl,rfl⟩
 | v :: us,y :: l,h,j+1,x,hx=>by
   obtain⟨u,h1,h2,h3⟩:=ocells_at (us:=us) (l:=l) (by simpa using h) j x (by simpa using hx)
   refine⟨u,by simpa using h1, ?_, ?_⟩
   ·rw[show(j+1)*2=j*2+2 by omega];simpa[ocells]using h2
   ·rw[show(j+1)*2+1=j*2+1+2 by omega];simpa[ocells]using h3
 | [],_ :: _,h,_,_,_=>by cases h
 | _ :: _,[],h,_,_,_=>by cases h
structure OutR (w:World) (B:Nat) (o:Nat→Option Cmp) (v:Value) (us:List Value) (l:List (Nat×List Int)):Prop where
 len:us.length=l.length
 row:QS w 142 2 v l.length (ocells us l)
 vown:∀k,v.ownBlock=some k→B≤k∧o k=none
 uown:∀u∈us,∀k,u.ownBlock=some k→B≤k∧o k=none
 byt:∀(j:Nat) (u:Value) (x:Nat×List Int),us[j]? =some u→l[j]? =some x→BQ w u x.2
structure Say (w:World) (B:Nat) (o:Nat→Option Cmp) (ob xb nb:Nat) (v:Value) (us:List Value) (l:List (Nat×List Int)):Prop where
 box:w.heap[ob]? =some (.cells #[v] 140 (0,0))
 nbx:w.heap[xb]? =some (.cells #[.pointer (some ⟨nb,0,none⟩)] 58 (0,0))
 out:OutR w B o v us l
 bo:B≤ob∧o ob=none
 bx:B≤xb∧o xb=none
def SayV (w:World) (B:Nat) (o:Nat→Option Cmp) (ob xb nb:Nat) (l:List (Nat×List Int)):Prop:=∃v us,Say w B o ob xb nb v us l
section
variable {w w':World} {B:Nat} {o o':Nat→Option Cmp} {ob xb nb:Nat} {v:Value} {us:List Value} {l:List (Nat×List Int)}
theorem OutR.ult (h:OutR w B o v us l):∀u∈us,∀k,u.ownBlock=some k→k < w.heap.size:=by
 intro u hu k hk
 obtain⟨j,hj,rfl⟩:=List.mem_iff_getElem.1 hu
 have hl:j < l.length:=by have:=h.len;omega
 exact(h.byt j _ _ (List.getElem?_eq_getElem hj) (List.getElem?_eq_getElem hl)).lt k hk
theorem OutR.keeps (h:OutR w B o v us l) {F:Nat→Prop} (hk:Keeps F w w') (h1:∀k,v.ownBlock=some k→¬F k) (h2:∀u∈us,∀k,u.ownBlock=some k→¬F k) (ho:∀k,k < w.heap.size→o k=none→o' k=none):OutR w' B o' v us l:=
 ⟨h.len,h.row.keeps hk h1,fun k e=>⟨(h.vown k e).1,ho k (h.row.lt k e) (h.vown k e).2⟩,fun u hu k e=>⟨(h.uown u hu k e).1,ho k (h.ult u hu k e) (h.uown u hu k e).2⟩,
  fun j u x e1 e2=>(h.byt j u x e1 e2).keeps hk (h2 u (List.mem_of_getElem? e1))⟩
theorem OutR.ext (h:OutR w B o v us l) (he:Ext o w o' w'):OutR w' B o' v us l:=
 h.keeps he.1 (fun k e=>by rw[(h.vown k e).2];decide) (fun u hu k e=>by rw[(h.uown u hu k e).2];decide) (fun k hk e=>(he.2 k hk).trans e)
theorem Say.ext (h:Say w B o ob xb nb v us l) (he:Ext o w o' w'):Say w' B o' ob xb nb v us l:=
 ⟨blk_keeps he.1 h.box (by rw[h.bo.2];decide),blk_keeps he.1 h.nbx (by rw[h.bx.2];decide),h.out.ext he,⟨h.bo.1,(he.2 _ (blk_lt h.box)).trans h.bo.2⟩,⟨h.bx.1,(he.2 _ (blk_lt h.nbx)).trans h.bx.2⟩⟩
theorem SayV.ext (h:SayV w B o ob xb nb l) (he:Ext o w o' w'):SayV w' B o' ob xb nb l:=by
 obtain⟨v,us,h⟩:=h
 exact⟨v,us,h.ext he⟩
theorem SayV.calm (h:SayV w B o ob xb nb l) (hk:Keeps (fun _=>False) w w'):SayV w' B o ob xb nb l:=h.ext (Ext.keeps o hk)
theorem Say.apart (h:Say w B o ob xb nb v us l):ob≠xb∧(∀k,v.ownBlock=some k→k≠ob∧k≠xb)∧∀u∈us,∀k,u.ownBlock=some k→k≠ob∧k≠xb∧v.ownBlock≠some k:=by
 have ty:∀{b:Nat} {c1 c2:Array Value} {t1 t2:TypeId},w.heap[b]? =some (.cells c1 t1 (0,0))→w.heap[b]? =some (.cells c2 t2 (0,0))→t1=t2:=fun e1 e2=>by
  rw[e1]at e2;injection e2 with e2;injection e2
 refine⟨fun e=> ?_,fun k hk=> ?_,fun u hu k hk=> ?_⟩
 ·exact absurd (ty h.box (e▸h.nbx)) (by decide)
 ·obtain⟨cur,hc⟩:=h.out.row.typed k hk
  exact⟨fun e=>absurd (ty hc (e▸h.box)) (by decide),fun e=>absurd (ty hc (e▸h.nbx)) (by decide)⟩
 ·obtain⟨j,hj,rfl⟩:=List.mem_iff_getElem.1 hu
  have hl:j < l.length:=by have:=h.out.len;omega
  obtain⟨cur,hc⟩:=(h.out.byt j _ _ (List.getElem?_eq_getElem hj) (List.getElem?_eq_getElem hl)).typed k hk
  refine⟨fun e=>absurd (ty hc (e▸h.box)) (by decide),fun e=>absurd (ty hc (e▸h.nbx)) (by decide),fun e=> ?_⟩
  obtain⟨cur',hc'⟩:=h.out.row.typed k e
  exact absurd (ty hc hc') (by decide)
theorem info_outT:(Tryz.prog.info? 142).map (fun i=>(i.zero,i.size,i.bytes))=some (some (.agg #[.int .i64 0, .slice none 0 0]),2,32):=by kernel_rfl
theorem Say.snoc {W:World} {v' u:Value} {x:Nat×List Int} (h:Say w B o ob xb nb v us l) (hk:Keeps (fun k=>v.ownBlock=some k) w W) (hB:B≤w.heap.size) (hno:∀k,w.heap.size≤k→o k=none)
  (hq:QS W 142 2 v' (l.length+1) (ocells us l ++ [.int .i64 (x.1:Int),u])) (hv':v'.ownBlock=v.ownBlock∨∃g,v'.ownBlock=some g∧w.heap.size≤g)
  (hu:BQ W u x.2) (hun:∀g,u.ownBlock=some g→w.heap.size≤g):
  Say (W.setCell ⟨ob,0,none⟩ v') B o ob xb nb v' (us ++ [u]) (l ++ [x])∧Keeps (fun k=>B≤k∧o k=none) w (W.setCell ⟨ob,0,none⟩ v')∧Keeps (fun k=>v.ownBlock=some k∨k=ob) w (W.setCell ⟨ob,0,none⟩ v'):=by
 obtain⟨a1,a2,a3⟩:=h.apart
 have hob:W.heap[ob]? =some (.cells #[v] 140 (0,0)):=blk_keeps hk h.box (fun e=>(a2 _ e).1 rfl)
 have hS:Keeps (fun k=>k=ob) W (W.setCell ⟨ob,0,none⟩ v'):=Keeps.setCell _ _ _ _ rfl
 have hun':∀g,u.ownBlock=some g→g≠ob:=fun g e e2=>by have:=hun g e;have:=blk_lt h.box;omega
 have hvo:∀k,v'.ownBlock=some k→B≤k∧o k=none∧k≠ob:=fun k e=>by
  rcases hv' with e2 | ⟨g',e2,e3⟩
  ·rw[e2]at e
   exact⟨(h.out.vown k e).1,(h.out.vown k e).2,(a2 k e).1⟩
  ·rw[e2]at e
   cases e
   exact⟨by omega,hno _ e3,fun e=>by have:=blk_lt h.box;omega⟩
 have hK:Keeps (fun k=>v.ownBlock=some k∨k=ob) w (W.setCell ⟨ob,0,none⟩ v'):=(hk.mono (fun _ _ e=> .inl e)).trans (hS.mono (fun _ _ e=> .inr e))
 have hll:(l ++ [x]).length=l.length+1:=by simp
 refine⟨⟨?_,blk_keeps hK h.nbx (fun e=>e.elim (fun e=>(a2 _ e).2 rfl) (fun e=>a1 e.symm)),⟨by simp[h.out.len], ?_,fun k e=>⟨(hvo k e).1,(hvo k e).2.1⟩, ?_, ?_⟩,h.bo,h.bx⟩, ?_,hK⟩
 ·have:=blk_set hob 0 v'
  exact this
 ·rw[ocells_snoc h.out.len,hll]
  exact hq.keeps hS (fun k e=>(hvo k e).2.2)
 ·intro u' hu' k e
  rcases List.mem_append.1 hu' with hu' | hu'
  ·exact h.out.uown u' hu' k e
  ·simp at hu';subst hu'
   exact⟨by have:=hun k e;omega,hno k (hun k e)⟩
 ·intro j u' y e1 e2
  by_cases hj:j < us.length
  ·rw[List.getElem?_append_left hj]at e1
   rw[List.getElem?_append_left (by have:=h.out.len;omega)]at e2
   refine(h.out.byt j u' y e1 e2).keeps hK (fun k e=> ?_)
   obtain⟨b1,b2,b3⟩:=a3 u' (List.mem_of_getElem? e1) k e
   exact fun e=>e.elim (fun e=>b3 e) (fun e=>b1 e)
  ·have hlen:=h.out.len
   rw[List.getElem?_append_right (by omega)]at e1
   rw[List.getElem?_append_right (by omega)]at e2
   have hj0:j - us.length=0:=by
    rcases Nat.eq_zero_or_pos (j - us.length)with h | h
    ·exact h
    ·rw[List.getElem?_eq_none (by simp;omega)]at e1;cases e1
   rw[hj0]at e1
   rw[show j - l.length=0 by omega]at e2
   simp at e1 e2
   subst e1 e2
   exact hu.keeps hS (fun k e=>hun' k e)
 ·exact hK.mono (fun i hi e=>e.elim (fun e=>h.out.vown i e) (fun e=>e▸h.bo))
def encE (f:Frm):Int:=if soundF f then 0 else 1
theorem encode_runs (f:Frm) (w:World):
  Calls Tryz.prog 124 #[f.val] w fun e w'=>∃A n c,e= .returned (.tuple #[.slice A n c, .int .u16 (encE f)])∧BQ w' (.slice A n c) (outB f)∧Keeps (fun _=>False) w w'∧∀k,(Value.slice A n c).ownBlock=some k→w.heap.size≤k:=by
 by_cases hs:soundF f
 ·refine(enc_yes f w hs).mono ?_
  rintro e w' ⟨v,rfl,hq,hk,ho⟩
  obtain⟨A,c,rfl,_,_⟩:=hq.shape
  refine⟨A,_,c,by unfold encE;rw[if_pos hs], ?_,hk,ho⟩
  unfold outB
  rw[if_pos hs]
  exact hq
 ·refine(enc_no f w hs).mono ?_
  rintro e w' ⟨rfl,hk⟩
  refine⟨none,0,0,by unfold encE;rw[if_neg hs], ?_,hk,fun k h=>by simp[Value.ownBlock]at h⟩
  unfold outB
  rw[if_neg hs]
  exact QS.nil _ _ _
theorem NodeR.to {w:World} {S:Nat→Prop} {g:Geo} {x:Nat} {a:NodeA} {ticks:Int} (h:NodeR w S g x a ticks) {i:Nat} (hi:i < g.ports x):∃gp op cp,a.pv= .slice (some ⟨gp,op,none⟩) (g.ports x) cp∧S gp∧
  w.cell? ⟨gp,op+i*3,none⟩=some (.int .i64 ((tos g.t x).getD i 0:Nat))∧w.cell? ⟨gp,op+i*3+1,none⟩=some (a.lv i)∧w.cell? ⟨gp,op+i*3+2,none⟩=some (.pointer (some ⟨a.wb i,0,none⟩)):=by
 obtain⟨gp,op,cp,e1,_,c1,_⟩:=h.pq.cell (by omega)
 have hlen:i < (tos g.t x).length:=hi
 obtain⟨p1,p2,p3⟩:=portsFrom_at a (tos g.t x) 0 i _ (List.getElem?_eq_getElem hlen)
 rw[Nat.zero_add]at p2 p3
 refine⟨gp,op,cp,e1,(h.pown gp (by rw[e1];rfl)).1, ?_,by rw[Nat.add_assoc];exact c1 _ _ p2,by rw[Nat.add_assoc];exact c1 _ _ p3⟩
 rw[List.getD_eq_getElem?_getD,List.getElem?_eq_getElem hlen]
 exact c1 _ _ p1
set_option maxRecDepth 100000 in
set_option maxHeartbeats 8000000 in
theorem say_runs {S:Nat→Prop} {g:Geo} {x:Nat} {a:NodeA} {ticks:Int} (h:Say w B o ob xb a.nb v us l) (hN:NodeR w S g x a ticks) (hS:∀k,S k→k≠ob∧v.ownBlock≠some k) (hlv:∀i,∃A n c,a.lv i= .slice A n c) (hB:B≤w.heap.size) (hno:∀k,w.heap.size≤k→o k=none) (t:Nat) (ht:t < g.ports x) (fr:Frm) (hl:l.length≤1000) (y:Nat) (hy:(tos g.t x).getD t 0=y):
  Calls Tryz.prog 123 #[.int .i64 t,fr.val, .pointer (some ⟨ob,0,none⟩), .pointer (some ⟨xb,0,none⟩)] w fun e w'=>e= .returned (.tuple #[])∧
   SayV w' B o ob xb a.nb (l ++ [(y,outB fr)])∧Keeps (fun k=>B≤k∧o k=none) w w'∧Keeps (fun k=>v.ownBlock=some k∨k=ob) w w':=by
 obtain⟨gp,op,cp,epv,hgS,ct,_,_⟩:=hN.to ht
 rw[hy]at ct
 have cpv:w.cell? ⟨a.nb,13,none⟩=some a.pv:=by rw[blk_cell hN.box];rfl
 rw[epv]at cpv
 obtain⟨A0,c0,hv,hc1,hc2⟩:=h.out.row.shape
 obtain⟨ap1,ap2,ap3⟩:=h.apart
 have hanb:a.nb≠ob:=(hS _ hN.sb).1
 have hgo:=(hS _ hgS).1
 have hanv:=(hS _ hN.sb).2
 have hgv:=(hS _ hgS).2
 have cob:w.cell? ⟨ob,0,none⟩=some v:=by rw[blk_cell h.box];rfl
 have cxb:w.cell? ⟨xb,0,none⟩=some (.pointer (some ⟨a.nb,0,none⟩)):=by rw[blk_cell h.nbx];rfl
 have hEN:=fun W=>encode_runs fr W
 obtain⟨f0,f1,f2,f3_,f4,f5⟩:=fr
 unfold Frm.val at hEN ⊢
 simp only at hEN ⊢
 have HEN:=Lib.hid hEN
 have hk0:Keeps (fun _=>False) w (w.alloc (.cells #[.int .u8 f0, .int .u8 f1, .int .u16 f2, .int .u8 f3_, .int .u8 f4, .int .u32 f5] 210)):=Keeps.alloc _ _ _
 have hbX:=blk_new w (.cells #[.int .u8 f0, .int .u8 f1, .int .u16 f2, .int .u8 f3_, .int .u8 f4, .int .u32 f5] 210)
 have z0:=blk_cell hbX 0
 have z1:=blk_cell hbX 1
 have z2:=blk_cell hbX 2
 have z3:=blk_cell hbX 3
 have z4:=blk_cell hbX 4
 have z5:=blk_cell hbX 5
 simp only[List.getElem?_toArray,List.getElem?_cons_zero,List.getElem?_cons_succ]at z0 z1 z2 z3 z4 z5
 have HK0:=Lib.hid hk0
 have H:=Lib.hid h
 have HV:=Lib.hid hv
 have HNO:=Lib.hid hno
 have hm:(l.length+1)*32≤140737488355328:=by omega
 have HSL:=Lib.hid h.out.row
 rw[hv]at cob HSL
 obtain⟨n,hn⟩:∃n,l.length=n:=⟨_,rfl⟩
 rw[hn]at cob HSL hm hc1
 have HN:=Lib.hid hn
 have htn:(t:Int) < ((g.ports x:Nat):Int):=by omega
 have ht0:(0:Int)≤(t:Int):=by omega
 clear h hN hS hlv hno hk0 hbX hEN hv hn hl
 generalize g.ports x=np at*
 go_enter Tryz.func123,Tryz.ntmps123
 go_wp2_with fail
 generalize w.alloc (.cells #[.int .u8 f0, .int .u8 f1, .int .u16 f2, .int .u8 f3_, .int .u8 f4, .int .u32 f5] 210)=X at*
 refine(HEN.out X).mono ?_
 rintro e U ⟨A1,m1,c1,rfl,hq,hk,ho⟩
 have hkU:=HK0.out.trans hk
 have d0:=hkU.cell cob (fun h=>h)
 have d1:=hkU.cell cxb (fun h=>h)
 have d2:=hkU.cell cpv (fun h=>h)
 have d3:=hkU.cell ct (fun h=>h)
 have HQ:=Lib.hid hq
 have HO:=Lib.hid ho
 have HKU:=Lib.hid hkU
 have HKX:=Lib.hid hk
 clear hq ho hk hkU cob cxb cpv ct z0 z1 z2 z3 z4 z5 HEN
 go_wp2_with fail
 have hka:Keeps (fun _=>False) U (U.alloc (.cells #[.int .i64 (y:Int), .slice A1 m1 c1] 142)):=Keeps.alloc _ _ _
 have x0:=hka.cell d0 (fun h=>h)
 have x1:=hka.cell d1 (fun h=>h)
 have x2:=hka.cell d2 (fun h=>h)
 have x3:=hka.cell d3 (fun h=>h)
 have hQ':QS (U.alloc (.cells #[.int .i64 (y:Int), .slice A1 m1 c1] 142)).drew 142 2 (.slice A0 n c0) n (ocells us l):=((HSL.out.keeps HKU.out (fun _ _ h=>h)).alloc _).drew
 have hSr:Src Tryz.prog 2 140 (.slice (some ⟨U.heap.size,0,none⟩) 1 1) 1 [.int .i64 (y:Int), .slice A1 m1 c1] (U.alloc (.cells #[.int .i64 (y:Int), .slice A1 m1 c1] 142)).drew:=
  src_blk Tryz.underlying140 (blk_new U _) rfl (by intro jj hjj';match jj,hjj' with | 0,_=>rfl | 1,_=>rfl) (by intro y hy;simp at hy;rcases hy with rfl | rfl <;>rfl)
 have HKA:=Lib.hid ((HKU.out.trans hka).trans (Keeps.drew _ _))
 have HBX:=Lib.hid (p:=∀w1,World.grownBy (U.alloc (.cells #[.int .i64 (y:Int), .slice A1 m1 c1] 142)).drew w1 (Value.slice A0 n c0).ownBlock→w1.cell? ⟨ob,0,none⟩=some (.slice A0 n c0)∧w1.frozen? ⟨ob,0,none⟩=false) fun w1 hg=>by
  have hb:=blk_keeps HKA.out H.out.box (fun h=>h)
  have hb2:=(hg.block ob (blk_lt hb) (fun e=>by have e1:=HV.out;rw[HN.out]at e1;rw[←e1]at e;exact(ap2 ob e.symm).1 rfl)).trans hb
  refine⟨?_,blk_frozen hb2 0⟩
  rw[blk_cell hb2,←HN.out,←HV.out];rfl
 clear hka
 have h32:0 < 32:=by decide
 go_region_law (refine step_append_QS rfl (.tmp 13) (.tmp 24) 140 140 rfl 142 _ 2 32 Tryz.underlying140 info_outT rfl _ n (ocells us l) rfl hQ' _ 1 _ rfl hSr h32 hm ?_;intro A2 c2 w1 hq1 hg1 ho1;obtain⟨k3,f3⟩:=HBX.out w1 hg1)
 all_goals
  go_end0
  have hg:(U.alloc (.cells #[.int .i64 (y:Int), .slice A1 m1 c1] 142)).drew.grownBy w1 (Value.slice A0 n c0).ownBlock:=hg1
  have ho:(Value.slice A2 (n+1) c2).ownBlock=(Value.slice A0 n c0).ownBlock∨∃b,(Value.slice A2 (n+1) c2).ownBlock=some b∧(U.alloc (.cells #[.int .i64 (y:Int), .slice A1 m1 c1] 142)).drew.heap.size≤b:=ho1
  clear hg1 ho1 k3 f3 x0 x1 x2 x3 d0 d1 d2 d3 hQ' hSr HBX
  have hv:=HV.out
  rw[HN.out]at hv
  have hk2:Keeps (fun k=>v.ownBlock=some k) w w1:=(HKA.out.mono (fun _ _ h=>h.elim)).trans (Keeps.grown hg (fun k e=>by rw[hv];exact e))
  have hsz:=HKA.out.size
  have hxs:=HK0.out.size
  have hst:=H.out.snoc (W:=w1) (x:=(y,outB ⟨f0,f1,f2,f3_,f4,f5⟩)) (v':= .slice A2 (n+1) c2) (u:= .slice A1 m1 c1) hk2 hB HNO.out (by rw[HN.out];exact hq1)
   (ho.elim (fun e=> .inl (by rw[e,hv])) (fun⟨b,e1,e2⟩=> .inr ⟨b,e1,by omega⟩))
   (HQ.out.keeps (((Keeps.alloc (fun k=>v.ownBlock=some k) U (.cells #[.int .i64 (y:Int), .slice A1 m1 c1] 142)).trans (Keeps.drew _ _)).trans (Keeps.grown hg (fun k e=>by rw[hv];exact e))) (fun k e e2=>by have:=HO.out k e;have:=H.out.out.row.lt k e2;omega))
   (fun k e=>by have:=HO.out k e;omega)
  exact⟨rfl,⟨_,_,hst.1⟩,hst.2⟩
end
end Go.Proofs.YtebnflpanfmicaaGreatDoor
namespace Go.Proofs.YtebnflpanfmicaaGreatDoor
open Go.RowKit
structure Saying (σ:Sig) (w0:World) (o0:Nat→Option Cmp) (w:World) (o:Nat→Option Cmp) (ob xb mb:Nat) (mo:Array Value) (nb:Nat) (l:List (Nat×List Int)):Prop where
 sys:SysF σ w o
 ext:Ext o0 w0 o w
 say:SayV w w0.heap.size o ob xb nb l
 mat:w.heap[mb]? =some (.cells mo 3 (0,0))∧o mb=none
section
variable {σ σ':Sig} {w0 w w':World} {o0 o o':Nat→Option Cmp} {ob xb mb nb f v:Nat} {mo:Array Value} {l:List (Nat×List Int)} {g:Geo} {a:NodeA} {s:NodeS}
theorem Saying.step (h:Saying σ w0 o0 w o ob xb mb mo nb l) (h1:SysF σ' w' o') (h2:Ext o w o' w'):Saying σ' w0 o0 w' o' ob xb mb mo nb l:=
 ⟨h1,h.ext.trans h2,h.say.ext h2,blk_keeps h2.1 h.mat.1 (by rw[h.mat.2];decide),(h2.2 _ (blk_lt h.mat.1)).trans h.mat.2⟩
theorem Saying.calm (h:Saying σ w0 o0 w o ob xb mb mo nb l) (hk:Keeps (fun _=>False) w w'):Saying σ w0 o0 w' o ob xb mb mo nb l:=
 h.step (SysF.calm' h.sys hk) (Ext.keeps o hk)
theorem Saying.tab (h:Saying σ w0 o0 w o ob xb mb mo nb l) (ht:Tab w0) (h0:o0 0=none):Tab w∧o 0=none:=h.ext.tab ht h0
theorem Saying.say_runs (h:Saying σ w0 o0 w o ob xb mb mo a.nb l) (hg:σ.geo f=some g) (hn:σ.node f v=some (a,s)) (hlv:∀i,∃A n c,a.lv i= .slice A n c) (t:Nat) (ht:t < g.ports v) (fr:Frm) (hl:l.length≤1000) (y:Nat) (hy:(tos g.t v).getD t 0=y):
  Calls Tryz.prog 123 #[.int .i64 t,fr.val, .pointer (some ⟨ob,0,none⟩), .pointer (some ⟨xb,0,none⟩)] w fun e w'=>e= .returned (.tuple #[])∧Saying σ w0 o0 w' o ob xb mb mo a.nb (l ++ [(y,outB fr)])∧
   ∀(b:Nat) (cs:Array Value) (t:TypeId),w.heap[b]? =some (.cells cs t (0,0))→t≠140→t≠142→w'.heap[b]? =some (.cells cs t (0,0)):=by
 obtain⟨u,us,hs⟩:=h.say
 have hno:∀k,w.heap.size≤k→o k=none:=fun k hk=>by
  cases e:o k with
  | none=>rfl
  | some x=>have:=Sys.lt h.sys k x e;omega
 refine(Go.Proofs.YtebnflpanfmicaaGreatDoor.say_runs hs (h.sys.nodeR hg hn) (fun k hk=>⟨fun e=>(by rw[e,hs.bo.2]at hk;cases hk),fun e=>(by rw[(hs.out.vown k e).2]at hk;cases hk)⟩) hlv h.ext.1.size hno t ht fr hl y hy).mono ?_
 rintro e w' ⟨rfl,hs',hk,hk2⟩
 have hkeep:∀(b:Nat) (cs:Array Value) (t:TypeId),w.heap[b]? =some (.cells cs t (0,0))→t≠140→t≠142→w'.heap[b]? =some (.cells cs t (0,0)):=fun b cs t hb h1 h2=>blk_keeps hk2 hb (fun e=>by
  rcases e with e | e
  ·obtain⟨cur,hc⟩:=hs.out.row.typed b e
   rw[hb]at hc;injection hc with hc;injection hc with _ hc;exact h2 hc
  ·have hc:=hs.box
   rw[←e,hb]at hc;injection hc with hc;injection hc with _ hc;exact h1 hc)
 exact⟨rfl,⟨Sys.aside h.sys hk (fun k hk=>hk.2),⟨h.ext.1.then hk (fun i hi hj=>by omega),h.ext.2⟩,hs',hkeep _ _ _ h.mat.1 (by decide) (by decide),h.mat.2⟩,hkeep⟩
set_option maxRecDepth 100000 in
set_option maxHeartbeats 16000000 in
theorem move_runs (h:Saying σ w0 o0 w o ob xb mb mo a.nb l) (hT:Tab w0) (h00:o0 0=none) (hg:σ.geo f=some g) (hn:σ.node f v=some (a,s)) (hlv:∀i,∃A n c,a.lv i= .slice A n c) (i t:Nat) (hi:i < g.ports v) (ht:t < g.ports v)
  (hwk:WheelOk g.ws (s.left t) (s.from_ t)) (hc:(s.q 3).length≤1000000000) (hl:l.length≤1000) (L n:Nat) (hL:g.ws.length=L) (hpn:g.ports v=n):
  Calls Tryz.prog 128 #[.pointer (some ⟨a.nb,0,none⟩), .int .i64 i, .int .i64 t, .func (.func 123) #[] #[.pointer (some ⟨ob,0,none⟩), .pointer (some ⟨xb,0,none⟩)]] w fun e w'=>e= .returned (.tuple #[])∧
   ∃o',Saying (σ.set f v a (moveS g i t s)) w0 o0 w' o' ob xb mb mo a.nb (l ++ moveO g v i t s):=by
 have hS:=h.sys
 obtain⟨hTw,ho0⟩:=h.tab hT h00
 have hp:=hS.planS hg
 have hL3:L≤3:=by have:=hp.nums.lanes.2;have:=hp.lanes;omega
 have hpl:=hp.lanes
 have N:=hS.nodeR hg hn
 obtain⟨gp,op,cp,epv,hgS,cto,clv,cwb⟩:=N.to ht
 have cpv:w.cell? ⟨a.nb,13,none⟩=some a.pv:=by rw[blk_cell N.box];rfl
 rw[epv,hpn]at cpv
 have htn:(t:Int) < (n:Int):=by omega
 have ht0:(0:Int)≤(t:Int):=by omega
 have hnbo:o a.nb=some (.node f v):=N.sb
 have HM:=Lib.hid (p:=∀U,Keeps (fun _=>False) w U→_) fun U hU=>may_runs (SysF.calm' hS hU) hg hn i t hi ht
 have hm16:mayTo s i t g.ws.length < 65536:=Nat.lt_of_lt_of_le (mayTo_lt s i t _) (by rw[hL];exact Nat.le_trans (Nat.pow_le_pow_right (by decide) hL3) (by decide))
 have HW:=Lib.hid (p:=∀U,Keeps (fun _=>False) w U→_) fun U hU=>wpick_runs (a.wb t) g.ws (s.left t) (s.from_ t) (mayTo s i t g.ws.length) _ U (hTw.keeps hU (fun h=>h)) (by show ¬o 0=_;rw[ho0];intro h;cases h) ((SysF.calm' hS hU).wheelV hg hn ht) hwk hm16
 have hpk:=wheelPick_ok (may:=mayTo s i t g.ws.length) hwk
 obtain⟨p,hpd⟩:∃p,wheelPick g.ws (s.left t) (s.from_ t) (mayTo s i t g.ws.length)=p:=⟨_,rfl⟩
 have hms:moveS g i t s=(let s1:=turnW s t p.2.1 p.2.2
  if p.1 < 0 then s1 else
  let k:=p.1.toNat
  let s2:=takeW s1 i t k
  if t=0 then{s2 with q:=setAt s2.q 3 (s2.q 3 ++ [headW s ⟨i,t,k⟩])}else sentW s2 t k):=by rw[←hpd];rfl
 have hmo:moveO g v i t s=if p.1 < 0∨t=0 then []else [((tos g.t v).getD t 0,outB (dataF s t p.1.toNat (headW s ⟨i,t,p.1.toNat⟩)))]:=by rw[←hpd];rfl
 rw[hpd]at HW hpk
 obtain⟨sF,hsF⟩:∃sF,moveS g i t s=sF:=⟨_,rfl⟩
 obtain⟨oF,hoF⟩:∃oF,moveO g v i t s=oF:=⟨_,rfl⟩
 rw[hsF,hoF]
 rw[hms]at hsF
 rw[hmo]at hoF
 clear hms hmo
 generalize mayTo s i t g.ws.length=m at*
 obtain⟨r,Lf,fr⟩:=p
 simp only at HW hpk hsF hoF
 have HPD:=Lib.hid hpd
 have HSF:=Lib.hid hsF
 have HOF:=Lib.hid hoF
 clear hsF hoF
 have hwk2:=hpk.1
 have hr1:=hpk.2.1
 have hr2:=hpk.2.2.1
 clear hpd hpk
 have HSS:=Lib.hid (p:=∀(F:Nat→Prop) U,Keeps F w U→(∀k,o k=some (.node f v)→¬F k)→U.cell? ⟨a.nb,13,none⟩=some (.slice (some ⟨gp,op,none⟩) n cp)∧U.cell? ⟨gp,op+t*3+2,none⟩=some (.pointer (some ⟨a.wb t,0,none⟩))) fun F U hU hF=>⟨hU.cell cpv (hF _ hnbo),hU.cell cwb (hF _ hgS)⟩
 have hd:Keeps (fun _=>False) w w.drew:=Keeps.drew _ _
 have hsd:=HSS.out _ _ hd (fun _ _ h=>h)
 have hwN:∀k,o k=some (.node f v)→¬(fun k=>o k=some (Cmp.wheel f v t)) k:=fun k e e2=>by simp only at e2;rw[e]at e2;cases e2
 have H:=Lib.hid h
 have HL:=Lib.hid hL
 clear h hS N hp hpl cpv cwb clv cto hTw
 go_enter Tryz.func128,Tryz.ntmps128
 go_wp2_with fail
 go_region_held3 (fun U=>U.cell? ⟨a.nb,13,none⟩=some (.slice (some ⟨gp,op,none⟩) n cp)∧U.cell? ⟨gp,op+t*3+2,none⟩=some (.pointer (some ⟨a.wb t,0,none⟩)))
  (with_reducible first | exact hsd | exact hsW | exact hsZ | go_keep)
  (first
   | (go_at_call 180;refine(HM.out _ hd).mono ?_;rintro e W ⟨rfl,hW⟩;have hYW:=hd.trans hW;have hsW:=HSS.out _ _ hYW (fun _ _ h=>h))
   | (go_at_call 181;refine(HW.out _ hYW).mono ?_;rintro e Z ⟨rfl,hZ,hWV⟩;have hsZ:=HSS.out _ _ ((hYW.mono (fun _ _ h=>h.elim)).trans hZ) hwN))
 obtain⟨o1,hS1,hE1⟩:=SysF.stepWheel (SysF.calm' H.out.sys hYW) hg hn ht hZ (hWV.wider (fun k h=> .inl h) (fun k hk=>hk.elim (fun e=>Nat.lt_of_lt_of_le (Sys.lt (SysF.calm' H.out.sys hYW) k _ e) hZ.size) (fun e=>e.2)))
 have HS1:Hid (Saying (σ.set f v a (turnW s t Lf fr)) w0 o0 Z o1 ob xb mb mo a.nb l):=Lib.hid (H.out.step hS1 ((Ext.keeps o hYW).trans hE1))
 have hn1:=set_get (σ:=σ) f v a (turnW s t Lf fr)
 have hq1:(turnW s t Lf fr).q=s.q:=rfl
 have hQ1:(turnW s t Lf fr).Q=s.Q:=rfl
 have hse1:(turnW s t Lf fr).sent=s.sent:=rfl
 have hli1:(turnW s t Lf fr).limit=s.limit:=rfl
 have HQ1:=Lib.hid hQ1
 have HQQ:=Lib.hid hq1
 have HSE:=Lib.hid hse1
 have HLI:=Lib.hid hli1
 clear hq1 hQ1 hse1 hli1 hS1 hE1 hWV hZ hYW hW hsW hsd hsZ hd HM HW HSS hwN H
 generalize turnW s t Lf fr=s1 at*
 by_cases hr0:r < 0
 ·have e1:s1=sF:=by have:=HSF.out;rw[if_pos hr0]at this;exact this
  have e2:[]=oF:=by have:=HOF.out;rw[if_pos (.inl hr0)]at this;exact this
  have HE1:=Lib.hid e1
  have HE2:=Lib.hid e2
  clear e1 e2
  go_wp2_with fail
  (try simp only[Exit.inBlock,Exit.then])
  refine bodyPost_ret (results_none rfl _ _ _) rfl ?_
  exact⟨rfl,o1,by rw[←HE2.out,List.append_nil,←HE1.out];exact HS1.out⟩
 ·obtain⟨k,rfl⟩:∃k:Nat,r=(k:Int):=⟨r.toNat,by omega⟩
  have e1:=HSF.out
  have e2:=HOF.out
  rw[if_neg hr0]at e1
  simp only[Int.toNat_natCast]at e1 e2
  have HE1:=Lib.hid e1
  have HE2:=Lib.hid e2
  clear e1 e2 HSF HOF
  have hkL:k < L:=by have:=HL.out;omega
  have hkL2:k < g.ws.length:=by have:=HL.out;omega
  have hlan:=(HS1.out.sys.planS hg).lanes
  have N1:=HS1.out.sys.nodeR hg hn1
  have c15:Z.cell? ⟨a.nb,15,none⟩=some (.pointer (some ⟨a.rb,0,none⟩)):=by rw[blk_cell N1.box];rfl
  have HP:=Lib.hid (pop_runs a.rb _ _ _ _ _ Z (HS1.out.sys.ringsV hg hn1) ⟨(i:Int),(t:Int),(k:Int)⟩)
  have hhd:(s1.Q ⟨(i:Int),(t:Int),(k:Int)⟩).head?.getD Pkt.zero=headW s ⟨(i:Int),(t:Int),(k:Int)⟩:=by rw[HQ1.out];rfl
  rw[hhd]at HP
  obtain⟨x,hx⟩:∃x,headW s ⟨(i:Int),(t:Int),(k:Int)⟩=x:=⟨_,rfl⟩
  rw[hx]at HP HE1 HE2
  generalize (!(s1.Q ⟨(i:Int),(t:Int),(k:Int)⟩).isEmpty)=bq at*
  obtain⟨x1,x2,x3,x4⟩:=x
  have HX:=Lib.hid hx
  clear hhd hx N1
  go_wp2_with fail
  refine HP.out.mono ?_
  rintro e V ⟨rfl,hV,hRV⟩
  obtain⟨o2,hS2,hE2⟩:=SysF.stepRings HS1.out.sys hg hn1 hV hRV
  rw[set_set]at hS2
  have HS2:Hid (Saying (σ.set f v a (popW s1 ⟨(i:Int),(t:Int),(k:Int)⟩)) w0 o0 V o2 ob xb mb mo a.nb l):=Lib.hid (HS1.out.step hS2 hE2)
  clear hV hRV hS2 hE2 HP c15 hn1 hr0
  have hn2:=set_get (σ:=σ) f v a (popW s1 ⟨(i:Int),(t:Int),(k:Int)⟩)
  have hkY:Keeps (fun _=>False) V (V.alloc (.cells #[.int .i64 x1, .int .i64 x2, .int .i64 x3, .int .u32 x4] 31)):=Keeps.alloc _ _ _
  have hpk:PktAt (V.alloc (.cells #[.int .i64 x1, .int .i64 x2, .int .i64 x3, .int .u32 x4] 31)) V.heap.size ⟨x1,x2,x3,x4⟩:=blk_new V _
  have hfr:=SysF.fresh HS2.out.sys (Nat.le_refl V.heap.size)
  have HS3:=Lib.hid (HS2.out.calm hkY)
  have HPK:=Lib.hid hpk
  clear hkY hpk HS2
  have N2:=HS3.out.sys.nodeR hg hn2
  by_cases hi0:0 < i
  case' pos=>
   have hi1:(0:Int) < (i:Int):=by omega
   have hin:(i:Int) < (n:Int):=by omega
   have hii:(0:Int)≤(i:Int):=by omega
   have hkk:(k:Int) < (L:Int):=by omega
   have hkk0:(0:Int)≤(k:Int):=by omega
   obtain⟨gp',op',cp',gl,ol,cl,e1,e2,q1,q2,q3⟩:=N2.lane (i:=i) (k:=k) hi0 hi hkL2
   have c13:(V.alloc (.cells #[.int .i64 x1, .int .i64 x2, .int .i64 x3, .int .u32 x4] 31)).cell? ⟨a.nb,13,none⟩=some a.pv:=by rw[blk_cell N2.box];rfl
   rw[e1,hpn]at c13
   rw[e2,HL.out]at q1
   have HFR:=Lib.hid (free_runs _ _ _ _ _ (HS3.out.sys.recvAt hg hn2 (by omega) hi hkL2).1)
   clear e1 e2 q2 N2 hi1
   go_wp2_with fail
   refine HFR.out.mono ?_
   rintro e Y ⟨⟨rb,rfl⟩,hY,hRY⟩
   obtain⟨o3,hS4,hE4⟩:=SysF.stepRcv HS3.out.sys hg hn2 (by omega) hi hkL2 hY hRY
   rw[set_set]at hS4
   have hob:=(HS3.out.sys.recvAt hg hn2 (by omega) hi hkL2).2
   have e3:takeW s1 i t k=freeW (popW s1 ⟨(i:Int),(t:Int),(k:Int)⟩) i k:=if_pos (by omega)
   have HS4:Hid (Saying (σ.set f v a (takeW s1 i t k)) w0 o0 Y o3 ob xb mb mo a.nb l):=Lib.hid (by rw[e3];exact HS3.out.step hS4 hE4)
   have HPK4:=Lib.hid (blk_keeps hY HPK.out (fun e=>by rw[e,hob]at hfr;cases hfr))
   have hfr4:o3 V.heap.size=none:=(hE4.2 _ (blk_lt HPK.out)).trans hfr
   clear hY hRY hS4 hE4 e3 hob HFR HS3 HPK hn2 hfr c13 q1 q3
   generalize V.heap.size=pb at*
   generalize V.alloc (.cells #[.int .i64 x1, .int .i64 x2, .int .i64 x3, .int .u32 x4] 31)=V1 at*
  case' neg=>
   have e3:takeW s1 i t k=popW s1 ⟨(i:Int),(t:Int),(k:Int)⟩:=if_neg (by omega)
   have HS4:Hid (Saying (σ.set f v a (takeW s1 i t k)) w0 o0 (V.alloc (.cells #[.int .i64 x1, .int .i64 x2, .int .i64 x3, .int .u32 x4] 31)) o2 ob xb mb mo a.nb l):=Lib.hid (by rw[e3];exact HS3.out)
   have HPK4:=HPK
   obtain⟨o3,ho3⟩:∃o3,o2=o3:=⟨_,rfl⟩
   rw[ho3]at HS4 hfr
   have hfr4:=hfr
   clear e3 HS3 HPK hn2 hfr N2 ho3
  all_goals
   have HTQ:=Lib.hid (p:=(takeW s1 i t k).q=s.q) (by rw[←HQQ.out];unfold takeW;split <;>rfl)
   have HTS:=Lib.hid (p:=(takeW s1 i t k).sent=s.sent) (by rw[←HSE.out];unfold takeW;split <;>rfl)
   have HTL:=Lib.hid (p:=(takeW s1 i t k).limit=s.limit) (by rw[←HLI.out];unfold takeW;split <;>rfl)
   generalize takeW s1 i t k=s4 at*
   have hn4:=set_get (σ:=σ) f v a s4
   by_cases t0:t=0
   ·have tb:((t:Int) == 0)=true:=by rw[beq_iff_eq];omega
    have eO:[]=oF:=by have:=HE2.out;rw[if_pos (.inr t0)]at this;exact this
    have eF:=HE1.out
    rw[if_pos t0]at eF
    have HEO:=Lib.hid eO
    have HEF:=Lib.hid eF
    clear eO eF HE1 HE2
    go_wp2_with fail
    first | (have hV1:V1=V1:=rfl;clear hV1) | (generalize V.heap.size=pb at*;generalize V.alloc (.cells #[.int .i64 x1, .int .i64 x2, .int .i64 x3, .int .u32 x4] 31)=Y at*)
    have N4:=HS4.out.sys.nodeR hg hn4
    have c14:Y.cell? ⟨a.nb,14,none⟩=some (.pointer (some ⟨a.hb,0,none⟩)):=by rw[blk_cell N4.box];rfl
    have hPK:PktAt Y pb ⟨x1,x2,x3,x4⟩:=HPK4.out
    obtain⟨q0,q1,q2,q3⟩:=hPK.cells
    simp only at q0 q1 q2 q3
    have hnb4:o3 a.nb=some (.node f v):=N4.sb
    have hF1:¬(fun k=>o3 k=some (Cmp.host f v)) a.nb:=by simp only;rw[hnb4];intro h;cases h
    have hF2:¬(fun k=>o3 k=some (Cmp.host f v)) pb:=by simp only;rw[hfr4];intro h;cases h
    have HSS:=Lib.hid (p:=∀(F:Nat→Prop) Z,Keeps F Y Z→¬F a.nb→¬F pb→Z.cell? ⟨a.nb,14,none⟩=some (.pointer (some ⟨a.hb,0,none⟩))∧Z.cell? ⟨pb,0,none⟩=some (.int .i64 x1)∧Z.cell? ⟨pb,1,none⟩=some (.int .i64 x2)∧Z.cell? ⟨pb,2,none⟩=some (.int .i64 x3)∧Z.cell? ⟨pb,3,none⟩=some (.int .u32 x4)) fun F Z hZ h1 h2=>⟨hZ.cell c14 h1,hZ.cell q0 h2,hZ.cell q1 h2,hZ.cell q2 h2,hZ.cell q3 h2⟩
    have HEJ:=Lib.hid (p:=∀U,Keeps (fun _=>False) Y U→_) fun U hU=>eject_ok a.hb ⟨x1,x2,x3,x4⟩ _ _ U ((SysF.calm' HS4.out.sys hU).hostV hg hn4) (by rw[HTQ.out];exact hc)
    have hdY:Keeps (fun _=>False) Y Y.drew:=Keeps.drew _ _
    have hsd:=HSS.out _ _ hdY (fun h=>h) (fun h=>h)
    clear c14 hPK q0 q1 q2 q3 N4
    go_region_held3 (fun Z=>Z.cell? ⟨a.nb,14,none⟩=some (.pointer (some ⟨a.hb,0,none⟩))∧Z.cell? ⟨pb,0,none⟩=some (.int .i64 x1)∧Z.cell? ⟨pb,1,none⟩=some (.int .i64 x2)∧Z.cell? ⟨pb,2,none⟩=some (.int .i64 x3)∧Z.cell? ⟨pb,3,none⟩=some (.int .u32 x4))
     (with_reducible first | exact hsd | exact hsX | go_keep)
     (first
      | (go_at_call 184;refine(HEJ.out _ hdY).mono ?_;rintro e X ⟨rfl,hX⟩;have hsX:=HSS.out _ _ ((hdY.mono (fun _ _ h=>h.elim)).trans hX.kept) hF1 hF2))
    obtain⟨o4,hS5,hE5⟩:=SysF.stepHost (SysF.calm' HS4.out.sys hdY) hg hn4 hX
    rw[set_set]at hS5
    have HS5:=Lib.hid (HS4.out.step hS5 ((Ext.keeps o3 hdY).trans hE5))
    clear hS5 hE5 hX hsX hsd hdY HEJ HSS
    go_wp2_with fail
    (try simp only[Exit.inBlock,Exit.then])
    refine bodyPost_ret (results_none rfl _ _ _) rfl ?_
    exact⟨rfl,o4,by rw[←HEO.out,List.append_nil,←HEF.out];exact HS5.out⟩
   ·have tb:((t:Int) == 0)=false:=by rw[beq_eq_false_iff_ne];omega
    have eO:[((tos g.t v).getD t 0,outB (dataF s t k ⟨x1,x2,x3,x4⟩))]=oF:=by have:=HE2.out;rw[if_neg (by omega)]at this;exact this
    have eF:sentW s4 t k=sF:=by have:=HE1.out;rw[if_neg t0]at this;exact this
    have HEO:=Lib.hid eO
    have HEF:=Lib.hid eF
    clear eO eF HE1 HE2
    have hkk:(k:Int) < (L:Int):=by omega
    have hkk0:(0:Int)≤(k:Int):=by omega
    have N4:=HS4.out.sys.nodeR hg hn4
    have c13:=N4.c13
    obtain⟨gp',op',cp',gl,ol,cl,e1,e2,q1,q2,q3⟩:=N4.lane (i:=t) (k:=k) (by omega) ht hkL2
    rw[e1,hpn]at c13
    rw[e2,HL.out]at q1
    have HNX:=Lib.hid (cnext_runs _ _ _ _ (HS4.out.sys.sendAt hg hn4 (by omega) ht hkL2).1)
    have hnn:nextN (s4.sent t k) (s4.limit t k)=nextN (s.sent t k) (s.limit t k):=by rw[HTS.out,HTL.out]
    rw[hnn]at HNX
    clear e1 e2 q3 N4 hnn
    go_wp2_with fail
    first | (have hV1:V1=V1:=rfl;clear hV1) | (generalize V.heap.size=pb at*;generalize V.alloc (.cells #[.int .i64 x1, .int .i64 x2, .int .i64 x3, .int .u32 x4] 31)=Y at*)
    refine HNX.out.mono ?_
    rintro e X ⟨⟨rb2,rfl⟩,hX,hSX⟩
    obtain⟨o4,hS5,hE5⟩:=SysF.stepSnd HS4.out.sys hg hn4 (by omega) ht hkL2 hX hSX
    rw[set_set]at hS5
    have HS5:Hid (Saying (σ.set f v a (sentW s4 t k)) w0 o0 X o4 ob xb mb mo a.nb l):=Lib.hid (HS4.out.step hS5 hE5)
    have hob:=(HS4.out.sys.sendAt hg hn4 (by omega) ht hkL2).2
    have hPK:PktAt X pb ⟨x1,x2,x3,x4⟩:=blk_keeps hX HPK4.out (fun e=>by rw[e,hob]at hfr4;cases hfr4)
    obtain⟨r0,r1,r2,r3⟩:=hPK.cells
    simp only at r0 r1 r2 r3
    have hn5:=set_get (σ:=σ) f v a (sentW s4 t k)
    have HSY:=Lib.hid (HS5.out.say_runs hg hn5 hlv t ht (dataF s t k ⟨x1,x2,x3,x4⟩) hl _ rfl)
    have w8k:W8 (k:Int)=(k:Int):=by simp[IntKind.wrap,IntKind.bits,IntKind.signed];omega
    have w8x:∀z:Int,W8 z=z % 256:=fun z=>by simp[IntKind.wrap,IntKind.bits,IntKind.signed]
    unfold dataF at HSY HEO
    rw[w8k,w8x,w8x]at HSY HEO
    simp only at HSY
    clear w8k w8x
    generalize nextN (s.sent t k) (s.limit t k)=nn at*
    clear hX hSX hS5 hE5 hob hPK q1 q2 c13 HNX HPK4
    go_wp2_with fail
    refine HSY.out.mono ?_
    rintro e P ⟨rfl,hP,_⟩
    have HP2:=Lib.hid hP
    clear hP HSY
    go_wp2_with fail
    go_end0
    exact⟨rfl,o4,by rw[←HEO.out,←HEF.out];exact HP2.out⟩
end
end Go.Proofs.YtebnflpanfmicaaGreatDoor
