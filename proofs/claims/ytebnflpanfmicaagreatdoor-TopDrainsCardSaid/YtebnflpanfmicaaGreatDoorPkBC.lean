/-
  Part 29 of the proof: TopFabT, TopFRnd, TopWithin.
-/
import Derived.Test.YtebnflpanfmicaaGreatDoorPkBB
set_option linter.unusedVariables false
set_option linter.unusedSimpArgs false
set_option linter.unusedSectionVars false
namespace Go.Proofs.YtebnflpanfmicaaGreatDoor
open Go.RowKit
theorem info_outs:(Tryz.prog.info? 140).map (fun i=>(i.zero,i.size,i.bytes))=some (some (.slice none 0 0),1,24):=by kernel_rfl
def outsTo (vs:Nat→Value) (n v:Nat):List Value:=(List.range n).map fun x=>if x < v then vs x else .slice none 0 0
theorem outsTo_length (vs:Nat→Value) (n v:Nat):(outsTo vs n v).length=n:=by simp[outsTo]
theorem outsTo_at (vs:Nat→Value) {n v x:Nat} (h:x < n):(outsTo vs n v)[x]? =some (if x < v then vs x else .slice none 0 0):=by
 unfold outsTo;rw[List.getElem?_map,List.getElem?_range h];rfl
theorem outsTo_set (vs:Nat→Value) {n v:Nat} (h:v < n) (u:Value):(outsTo vs n v).set v u=outsTo (setAt vs v u) n (v+1):=by
 apply List.ext_getElem?
 intro j
 rw[List.getElem?_set]
 by_cases hj:j < n
 ·rw[outsTo_at _ hj,outsTo_at _ hj,outsTo_length]
  by_cases e:v=j
  ·subst e;rw[if_pos rfl,if_pos hj,if_pos (by omega),setAt_same]
  ·rw[if_neg e]
   by_cases h2:j < v
   ·rw[if_pos h2,if_pos (by omega),setAt_other _ _ _ _ (by omega)]
   ·rw[if_neg h2,if_neg (by omega)]
 ·rw[List.getElem?_eq_none (by rw[outsTo_length];omega),List.getElem?_eq_none (by rw[outsTo_length];omega),outsTo_length]
  split
  ·rename_i e;subst e;omega
  ·rfl
structure Told (w:World) (B:Nat) (o:Nat→Option Cmp) (g:Geo) (nd:Nat→NodeS) (R n v:Nat) (vs:Nat→Value) (uss:Nat→List Value):Prop where
 arr:w.heap[R]? =some (.cells (outsTo vs n v).toArray 140 (0,0))
 free:B≤R∧o R=none
 out:∀x,x < v→OutR w B o (vs x) (uss x) (tickO g x (nd x))
section
variable {σ:Sig} {w w':World} {B:Nat} {o o':Nat→Option Cmp} {f:Nat} {fa:FabA} {g:Geo} {s:FabS} {c:Nat} {nd:Nat→NodeS} {R n v:Nat} {vs:Nat→Value} {uss:Nat→List Value}
theorem Told.ext (h:Told w B o g nd R n v vs uss) (he:Ext o w o' w'):Told w' B o' g nd R n v vs uss:=
 ⟨blk_keeps he.1 h.arr (by rw[h.free.2];decide),⟨h.free.1,(he.2 _ (blk_lt h.arr)).trans h.free.2⟩,fun x hx=>(h.out x hx).ext he⟩
theorem OutR.lower {us:List Value} {l:List (Nat×List Int)} {u:Value} (h:OutR w B o u us l) {B':Nat} (hB:B'≤B):OutR w B' o u us l:=
 ⟨h.len,h.row,fun k e=>⟨by have:=(h.vown k e).1;omega,(h.vown k e).2⟩,fun u hu k e=>⟨by have:=(h.uown u hu k e).1;omega,(h.uown u hu k e).2⟩,h.byt⟩
theorem Told.set (h:Told w B o g nd R n v vs uss) (hv:v < n) {u:Value} {us:List Value} (hu:OutR w B o u us (tickO g v (nd v))):
  Told (w.setCell ⟨R,v,none⟩ u) B o g nd R n (v+1) (setAt vs v u) (setAt uss v us)∧Keeps (fun k=>k=R) w (w.setCell ⟨R,v,none⟩ u):=by
 have hk:Keeps (fun k=>k=R) w (w.setCell ⟨R,v,none⟩ u):=Keeps.setCell _ _ _ _ rfl
 have ty:∀{b:Nat} {c1 c2:Array Value} {t1 t2:TypeId},w.heap[b]? =some (.cells c1 t1 (0,0))→w.heap[b]? =some (.cells c2 t2 (0,0))→t1=t2:=fun e1 e2=>by
  rw[e1]at e2;injection e2 with e2;injection e2
 have mv:∀{u':Value} {us':List Value} {l:List (Nat×List Int)},OutR w B o u' us' l→OutR (w.setCell ⟨R,v,none⟩ u) B o u' us' l:=fun{u' us' l} q=>by
  refine q.keeps hk (fun k e e2=> ?_) (fun u2 hu2 k e e2=> ?_) (fun _ _ e=>e)
  ·subst e2
   obtain⟨cur,hc⟩:=q.row.typed k e
   exact absurd (ty hc h.arr) (by decide)
  ·subst e2
   obtain⟨j,hj,rfl⟩:=List.mem_iff_getElem.1 hu2
   have hl:j < l.length:=by have:=q.len;omega
   obtain⟨cur,hc⟩:=(q.byt j _ _ (List.getElem?_eq_getElem hj) (List.getElem?_eq_getElem hl)).typed k e
   exact absurd (ty hc h.arr) (by decide)
 refine⟨⟨?_,h.free,fun x hx=> ?_⟩,hk⟩
 ·have:=blk_set h.arr v u
  rw[this]
  congr 2
  rw[←outsTo_set vs hv u]
  simp
 ·by_cases e:x=v
  ·subst e;rw[setAt_same,setAt_same];exact mv hu
  ·rw[setAt_other _ _ _ _ e,setAt_other _ _ _ _ e];exact mv (h.out x (by omega))
theorem FabR.nodeCell {S:Nat→Prop} {ticks:Int} (h:FabR w S fa g ticks) {gn on cn:Nat} (e2:fa.nv= .slice (some ⟨gn,on,none⟩) (g.t.length+1) cn) {v:Nat} (hv:v≤g.t.length):w.cell? ⟨gn,on+v,none⟩=some (.pointer (some ⟨(fa.na v).nb,0,none⟩)):=by
 obtain⟨gn',on',cn',e2',_,hcn,_⟩:=h.nodes.cell (by omega)
 rw[e2]at e2'
 injection e2' with b1 _ b2
 injection b1 with b1
 injection b1 with b1 b3
 subst b1 b2 b3
 exact hcn _ _ (nodePtrs_at fa (by omega))
theorem tickO_length (g:Geo) (v:Nat) (s:NodeS) (h6:g.ports v≤6) (h3:g.ws.length≤3):(tickO g v s).length≤100:=by
 unfold tickO
 have h1:=movesO_length g v (matchW g v (fedW g v s)).m (ranW g v s) (g.ports v)
 have h2:=exchO_length g v (movedW g v s) (g.ports v)
 have h4:g.ports v*(2*g.ws.length)≤6*6:=Nat.mul_le_mul h6 (by omega)
 rw[List.length_append]
 split
 ·omega
 ·simp only[List.length_nil];omega
theorem SysF.stepFT (h:SysF σ w o) (hF:FabAt σ f fa g s) (y:Int):SysF (σ.setF f (fabPart fa g y)) (w.setCell ⟨fa.fb,14,none⟩ (.int .i64 y)) o∧Ext o w o (w.setCell ⟨fa.fb,14,none⟩ (.int .i64 y)):=by
 have R:=h.fabR hF
 have hk1:Keeps (fun b=>b=fa.fb) w (w.setCell ⟨fa.fb,14,none⟩ (.int .i64 y)):=Keeps.setCell _ _ _ _ rfl
 have hK:Keeps (fun b=>o b=some (.fab f)) w (w.setCell ⟨fa.fb,14,none⟩ (.int .i64 y)):=Keeps.setCell _ _ _ _ R.sb
 refine Sys.step0 h (.fab f) (setF_part σ f _) hK ?_
 obtain⟨L,cl,m1,m2⟩:=R.map
 simp only[Sig.part,Sig.setF,if_true]
 exact⟨blk_set R.box 14 _,R.hops.keeps hk1 (fun k e=>(R.hown k e).2),R.nodes.keeps hk1 (fun k e=>(R.nown k e).2),⟨L,cl,blk_keeps hk1 m1 R.smb.2,m2⟩,R.sb,R.smb,R.hown,R.nown,fun k e=>Nat.lt_of_lt_of_le (Sys.lt h k _ e) hK.size⟩
set_option maxRecDepth 100000 in
set_option maxHeartbeats 16000000 in
theorem ftick_runs (h:SysF σ w o) (hT:Tab w) (h00:o 0=none) (hF:FabAt σ f fa g s) (hok:FabOk g s c) (hc:c≤800000000) (N:Nat) (hN:g.t.length+1=N):
  Calls Tryz.prog 32 #[.pointer (some ⟨fa.fb,0,none⟩)] w fun e w'=>e= .returned (.tuple #[])∧Next σ w o f fa g w' (tickF g s):=by
 have R0:=h.fabR hF
 have hp:=h.planS hF.geo
 have h5:=hp.t5
 obtain⟨gn,on,cn,e2,_,_,_⟩:=R0.nodes.cell (by omega)
 have hms:=fun w=>run_make_row' (P:=Tryz.prog) 138 140 (.slice none 0 0) 24 Tryz.underlying138 info_outs rfl .i64 .i64 N (by omega) (by omega) w
 have c12:w.cell? ⟨fa.fb,12,none⟩=some (.slice (some ⟨gn,on,none⟩) N cn):=by rw[R0.c.2.1,e2,hN]
 have hkA:Keeps (fun _=>False) w (w.alloc (.cells (madeCells #[.slice none 0 0] N) 140)):=Keeps.alloc _ _ _
 have hbR:=blk_new w (.cells (madeCells #[.slice none 0 0] N) 140)
 have hfr:=SysF.fresh h (Nat.le_refl w.heap.size)
 have hTold:Told (w.alloc (.cells (madeCells #[.slice none 0 0] N) 140)) w.heap.size o g s.nd w.heap.size N 0 (fun _=> .slice none 0 0) (fun _=>[]):=by
  refine⟨?_,⟨Nat.le_refl _,hfr⟩,fun x hx=>by omega⟩
  rw[hbR,madeRep]
  congr 3
  apply List.ext_getElem?
  intro j
  by_cases hj:j < N
  ·rw[outsTo_at _ hj];simp[hj]
  ·rw[List.getElem?_eq_none (by simp;omega),List.getElem?_eq_none (by rw[outsTo_length];omega)]
 have d12:=hkA.cell c12 (fun h=>h)
 have HF:=Lib.hid hF
 have H:=Lib.hid h
 have HTO:=Lib.hid hTold
 have HE2:=Lib.hid e2
 clear h R0 hp hTold hbR e2
 go_enter Tryz.func32,Tryz.ntmps32
 go_wp2_with fail
 generalize w.alloc (.cells (madeCells #[.slice none 0 0] N) 140)=X at*
 obtain⟨R,hR⟩:∃R,w.heap.size=R:=⟨_,rfl⟩
 have HR:=Lib.hid hR
 rw[hR]at hfr ⊢
 have hTX:=HTO.out
 rw[hR]at hTX
 have hSX:=SysF.calm' H.out hkA
 have hEX:=Ext.keeps o hkA
 have hF0:FabAt σ f fa g {s with nd:=ndTo g s.nd 0}:=by rw[ndTo_zero];exact HF.out
 clear hR hms c12 d12 HTO hkA
 go_loopw [21] (fun c wr=>∃(v:Nat) (σ1:Sig) (o1:Nat→Option Cmp) (vs:Nat→Value) (uss:Nat→List Value),v≤N∧c= .int .i64 (v:Int)∧SysF σ1 wr o1∧Ext o w o1 wr∧FabAt σ1 f fa g {s with nd:=ndTo g s.nd v}∧Agree σ σ1 f∧Told wr R o1 g s.nd R N v vs uss) (fun c _=>N - (intOf c).toNat)
 case atStart=>exact⟨0,σ,o,_,_,Nat.zero_le _,rfl,hSX,hEX,hF0,Agree.refl _ _,hTX⟩
 case round=>
  clear hSX hEX hF0 hTX hF
  obtain⟨v,σ1,o1,vs,uss,hv,rfl,h1,h2,h3,h4,h5'⟩:=hrel
  by_cases hvN:v < N
  ·have hvi:(v:Int) < (N:Int):=by omega
   have hv0:(0:Int)≤(v:Int):=by omega
   have hvl:v≤g.t.length:=by omega
   have cn1:=(h1.fabR h3).nodeCell HE2.out hvl
   have hnode:=h3.node v hvl
   simp only[ndTo_at]at hnode
   have htab:=h2.tab hT h00
   have hp1:=h1.planS h3.geo
   have hnr:=nb_rises hp1.tree hp1.t5 hvl
   have HTK:=Lib.hid (tick_runs h1 htab.1 htab.2 h3.geo hnode hvl (h3.lv v) c (hok.node v hvl) (by omega) (g.ports v) g.ws.length rfl (by show 1≤(nb g.t v).length+1;omega) (by show(nb g.t v).length+1≤6;have:=hnr.2.2.1;omega) rfl)
   have H1:=Lib.hid h1
   have H2:=Lib.hid h2
   have H3:=Lib.hid h3
   have H4:=Lib.hid h4
   have H5:=Lib.hid h5'
   clear h1 h2 h3 h4 h5' hnode htab hp1 hnr
   go_wp2_with fail
   refine HTK.out.mono ?_
   rintro e W ⟨A,m,cap,us,o2,rfl,hSW,hEW,hOW,hm⟩
   have hT2:=H5.out.ext hEW
   have hRs:R≤wr.heap.size:=by have:=blk_lt H5.out.arr;omega
   obtain⟨hT3,hkS⟩:=hT2.set hvN (hOW.lower hRs)
   have hfR:W.frozen? ⟨R,v,none⟩=false:=blk_frozen hT2.arr v
   have hcR:W.cell? ⟨R,v,none⟩=some (.slice none 0 0):=by
    rw[blk_cell hT2.arr,List.getElem?_toArray,outsTo_at _ hvN,if_neg (by omega)]
   have hS3:=Sys.aside hSW hkS (fun k e=>by rw[e];exact hT2.free.2)
   have hRw:R=w.heap.size:=HR.out.symm
   have hE3:Ext o w o2 (W.setCell ⟨R,v,none⟩ (.slice A m cap)):=by
    have hx:=H2.out.trans hEW
    exact⟨hx.1.then hkS (fun i hi e=>by omega),hx.2⟩
   have hF3:=(H3.out.setN v (tickS g v (s.nd v)))
   simp only at hF3
   rw[ndTo_next]at hF3
   have HT3:=Lib.hid hT3
   have HS3:=Lib.hid hS3
   have HE3:=Lib.hid hE3
   have HF3:=Lib.hid hF3
   have HA3:=Lib.hid (H4.out.trans (agree_set σ1 f v (fa.na v) (tickS g v (s.nd v))))
   clear hT2 hT3 hkS hS3 hE3 hF3 hSW hEW hOW HTK hRw hRs hm
   go_wp2_with fail
   go_roundw
   case rel=>exact⟨v+1,_,o2,_,_,by omega,by go_num,HS3.out,HE3.out,HF3.out,HA3.out,HT3.out⟩
   case measure=>simp[intOf];omega
  ·obtain rfl:N=v:=by omega
   have hvi:¬((N:Int) < (N:Int)):=by omega
   have H1:=Lib.hid h1
   have H2:=Lib.hid h2
   have H3:=Lib.hid h3
   have H4:=Lib.hid h4
   have H5:=Lib.hid h5'
   clear h1 h2 h3 h4 h5'
   go_wp2_with fail
   clear hvi hvN
   go_loopw [36] (fun c wr=>∃(v:Nat) (σ1:Sig) (o1:Nat→Option Cmp),v≤N∧c= .int .i64 (v:Int)∧SysF σ1 wr o1∧Ext o w o1 wr∧FabAt σ1 f fa g ⟨ndTo g s.nd N,lnTo g s.nd s.ln v,s.ticks⟩∧Agree σ σ1 f∧Told wr R o1 g s.nd R N N vs uss) (fun c _=>N - (intOf c).toNat)
   case atStart=>exact⟨0,σ1,o1,Nat.zero_le _,rfl,H1.out,H2.out,H3.out,H4.out,H5.out⟩
   case round=>
    clear H1 H2 H3 H4 H5
    obtain⟨v,σ2,o2,hv,rfl,h1,h2,h3,h4,h5'⟩:=hrel
    by_cases hvN:v < N
    ·have hvi:(v:Int) < (N:Int):=by omega
     have hv0:(0:Int)≤(v:Int):=by omega
     have hvl:v≤g.t.length:=by omega
     have hO:=h5'.out v hvN
     obtain⟨A,cap,hsh,_,_⟩:=hO.row.shape
     have cR:wr.cell? ⟨R,v,none⟩=some (.slice A (tickO g v (s.nd v)).length cap):=by
      rw[blk_cell h5'.arr,List.getElem?_toArray,outsTo_at _ hvN,if_pos hvN,hsh]
     have hp:=h1.planS h3.geo
     have hl3:g.ws.length≤3:=by have:=hp.nums.lanes.2;have:=hp.lanes;omega
     have hok1:=tickO_ok (hok.node v hvl) hl3
     have hln:=LnOk.to hp.tree hp.t5 hl3 hok v (by omega)
     have hlx:lnTo g s.nd s.ln (v+1)=sendsF g v (lnTo g s.nd s.ln v) (tickO g v (s.nd v)):=rfl
     have HLX:=Lib.hid hlx
     have HVS:=Lib.hid hsh
     have HTR:=Lib.hid (And.intro hp.tree hp.t5)
     have HOK1:=Lib.hid hok1
     have HLN:=Lib.hid hln
     have H1:=Lib.hid h1
     have H2:=Lib.hid h2
     have H3:=Lib.hid h3
     have H4:=Lib.hid h4
     have H5:=Lib.hid h5'
     have hbag:=hp.nums.bag.2
     clear h1 h2 h3 h4 h5' hO hsh hp hok1 hln hlx
     have hll:=tickO_length g v (s.nd v) (by show(nb g.t v).length+1≤6;have:=(nb_rises HTR.out.1 HTR.out.2 hvl).2.2.1;omega) hl3
     obtain⟨l,hle⟩:∃l,tickO g v (s.nd v)=l:=⟨_,rfl⟩
     have HLE:=Lib.hid hle
     rw[hle]at cR HVS HOK1 HLX hll
     clear hle
     generalize lnTo g s.nd s.ln v=ln at*
     go_wp2_with fail
     clear cR
     go_loopw [43] (fun c wr=>∃(j:Nat) (σ1:Sig) (o1:Nat→Option Cmp),j≤l.length∧c= .int .i64 (j:Int)∧SysF σ1 wr o1∧Ext o w o1 wr∧FabAt σ1 f fa g ⟨ndTo g s.nd N,sendsF g v ln (l.take j),s.ticks⟩∧Agree σ σ1 f∧Told wr R o1 g s.nd R N N vs uss) (fun c _=>l.length - (intOf c).toNat)
     case atStart=>exact⟨0,σ2,o2,Nat.zero_le _,rfl,H1.out,H2.out,H3.out,H4.out,H5.out⟩
     case round=>
      clear H1 H2 H3 H4 H5
      obtain⟨j,σ3,o3,hj,rfl,h1,h2,h3,h4,h5'⟩:=hrel
      by_cases hjl:j < l.length
      ·have hji:(j:Int) < (l.length:Int):=by omega
       have hj0:(0:Int)≤(j:Int):=by omega
       obtain⟨x,hx⟩:∃x,l[j]? =some x:=⟨_,List.getElem?_eq_getElem hjl⟩
       have hO:=h5'.out v hvN
       rw[HVS.out,HLE.out]at hO
       obtain⟨u,hu,p1,p2⟩:=ocells_at hO.len j x hx
       obtain⟨ga,oa,ca,ea,_,hcc,_⟩:=hO.row.cell (by omega)
       injection ea with ea eb ec
       clear eb
       subst ea ec
       have q1:=hcc _ _ p1
       have q2:=hcc _ _ p2
       rw[←Nat.add_assoc]at q2
       have hbq:=hO.byt j u x hu hx
       obtain⟨uA,uc,hus,_,_⟩:=hbq.shape
       have hxo:=HOK1.out x (List.mem_of_getElem? hx)
       obtain⟨hh1,hh2⟩:=hop_at HTR.out.1 HTR.out.2 hvl hxo.1
       have hlnj:=LnOk.sends HTR.out.1 HTR.out.2 hvl (l.take j) HLN.out (fun y hy=>HOK1.out y (List.mem_of_mem_take hy))
       have htk:l.take (j+1)=l.take j ++ [x]:=by rw[List.take_add_one,hx];rfl
       have hnx:sendsF g v ln (l.take (j+1))=setAt (sendsF g v ln (l.take j)) (hopI g.t v x.1) (sendL g.p.bag (sendsF g v ln (l.take j) (hopI g.t v x.1)) x.2):=by rw[htk,sendsF_snoc]
       have HNX:=Lib.hid hnx
       obtain⟨hi,hhi⟩:∃hi,hopI g.t v x.1=hi:=⟨_,rfl⟩
       rw[hhi]at hh1 hh2 HNX
       generalize sendsF g v ln (l.take j)=lj at*
       obtain⟨x1,x2⟩:=x
       simp only at q1 hbq hxo hh2 HNX hhi
       subst hus
       have hkB:Keeps (fun _=>False) wr (wr.alloc (.cells #[.int .i64 (x1:Int), .slice uA x2.length uc] 142)):=Keeps.alloc _ _ _
       have hbB:=blk_new wr (.cells #[.int .i64 (x1:Int), .slice uA x2.length uc] 142)
       have hfrB:=SysF.fresh h1 (Nat.le_refl wr.heap.size)
       have hSB:=SysF.calm' h1 hkB
       have RB:=hSB.fabR h3
       have c13:=RB.c.2.2.1
       have y0:=blk_cell hbB 0
       have y1:=blk_cell hbB 1
       simp only[List.getElem?_toArray,List.getElem?_cons_zero,List.getElem?_cons_succ]at y0 y1
       have hfbo:o3 fa.fb=some (.fab f):=RB.sb
       have HLK:=Lib.hid (RB.look hh2)
       have HEB:=Lib.hid (h2.trans (Ext.keeps o3 hkB))
       have HSB:=Lib.hid hSB
       have H3:=Lib.hid h3
       have H4:=Lib.hid h4
       have HTB:=Lib.hid (h5'.ext (Ext.keeps o3 hkB))
       have HBQ:=Lib.hid (hbq.keeps hkB (fun _ _ h=>h))
       have HXO:=Lib.hid hxo
       have hroom:=hlnj.room hi hh1
       clear h1 h2 h3 h4 h5' hO p1 p2 hcc hu hx hbq hxo hlnj htk hnx hhi RB hSB hbB hkB hh2
       simp only at HLK
       go_wp2_with fail
       generalize wr.alloc (.cells #[.int .i64 (x1:Int), .slice uA x2.length uc] 142)=Bx at*
       generalize wr.heap.size=bb at*
       have hd:Keeps (fun _=>False) Bx Bx.drew:=Keeps.drew _ _
       have hl:=HLK.out _ hd
       have HSS:=Lib.hid (p:=∀(F:Nat→Prop) Z,Keeps F Bx Z→¬F fa.fb→¬F bb→Z.cell? ⟨fa.fb,13,none⟩=some (.map (some fa.mb))∧Z.cell? ⟨bb,0,none⟩=some (.int .i64 (x1:Int))∧Z.cell? ⟨bb,1,none⟩=some (.slice uA x2.length uc)) fun F Z hZ h1 h2=>⟨hZ.cell c13 h1,hZ.cell y0 h2,hZ.cell y1 h2⟩
       have hF1:¬(fun k=>o3 k=some (Cmp.link f hi)) fa.fb:=by simp only;rw[hfbo];intro h;cases h
       have hF2:¬(fun k=>o3 k=some (Cmp.link f hi)) bb:=by simp only;rw[hfrB];intro h;cases h
       have hsd:=HSS.out _ _ hd (fun h=>h) (fun h=>h)
       have HSD:=Lib.hid (p:=∀U,Keeps (fun _=>False) Bx U→_) fun U hU=>send_runs (fa.lb hi) g.p.bag (lj hi) (.slice uA x2.length uc) x2 _ U ((SysF.calm' HSB.out hU).linkV H3.out hh1) hbag hroom (HBQ.out.keeps hU (fun _ _ h=>h)) HXO.out.2.1
       clear c13 y0 y1 q1 q2
       go_region_held3 (fun Z=>Z.cell? ⟨fa.fb,13,none⟩=some (.map (some fa.mb))∧Z.cell? ⟨bb,0,none⟩=some (.int .i64 (x1:Int))∧Z.cell? ⟨bb,1,none⟩=some (.slice uA x2.length uc))
        (with_reducible first | exact hsd | exact hsZ | go_keep)
        (first | (go_at_call 64;refine(HSD.out _ hd).mono ?_;rintro e Z ⟨rfl,hZ,hLZ⟩;have hsZ:=HSS.out _ _ ((hd.mono (fun _ _ h=>h.elim)).trans hZ) hF1 hF2))
       obtain⟨σ4,o4,k1,k2,k3,k4⟩:=SysF.stepLink (SysF.calm' HSB.out hd) H3.out hh1 hZ hLZ
       simp only at k3
       have HT4:=Lib.hid ((HTB.out.ext (Ext.keeps o3 hd)).ext k2)
       have HK1:=Lib.hid k1
       have HK2:=Lib.hid ((HEB.out.trans (Ext.keeps o3 hd)).trans k2)
       have hk3:FabAt σ4 f fa g ⟨ndTo g s.nd N,sendsF g v ln (l.take (j+1)),s.ticks⟩:=by rw[HNX.out];exact k3
       have HK3:=Lib.hid hk3
       have HK4:=Lib.hid (H4.out.trans k4)
       clear k1 k2 k3 k4 hk3 hZ hLZ hsZ hsd hl hd HSD HSS HLK
       go_wp2_with fail
       go_roundw
       case rel=>exact⟨j+1,σ4,o4,by omega,by go_num,HK1.out,HK2.out,HK3.out,HK4.out,HT4.out⟩
       case measure=>simp[intOf];omega
      ·obtain rfl:j=l.length:=by omega
       have hji:¬((l.length:Int) < (l.length:Int)):=by omega
       rw[List.take_length,←HLX.out]at h3
       have H1:=Lib.hid h1
       have H2:=Lib.hid h2
       have H3:=Lib.hid h3
       have H4:=Lib.hid h4
       have H5:=Lib.hid h5'
       clear h1 h2 h3 h4 h5'
       go_wp2_with fail
       go_roundw
       case rel=>exact⟨v+1,σ3,o3,by omega,by go_num,H1.out,H2.out,H3.out,H4.out,H5.out⟩
       case measure=>simp[intOf];omega
    ·obtain rfl:N=v:=by omega
     have hvi:¬((N:Int) < (N:Int)):=by omega
     have RR:=h1.fabR h3
     have c14:=RR.c.2.2.2
     have f14:wr.frozen? ⟨fa.fb,14,none⟩=false:=blk_frozen RR.box 14
     have hst:=SysF.stepFT h1 h3 (wrap64 (s.ticks+1))
     have hft:=h3.setT (wrap64 (s.ticks+1))
     have hag:=h4.trans (agree_setF σ2 f (fabPart fa g (wrap64 (s.ticks+1))))
     have hfin:Next σ w o f fa g (wr.setCell ⟨fa.fb,14,none⟩ (.int .i64 (wrap64 (s.ticks+1)))) (tickF g s):=⟨_,o2,hst.1,h2.trans hst.2,by unfold tickF;rw[hN];exact hft,hag⟩
     have HFIN:=Lib.hid hfin
     simp only at c14
     clear h1 h2 h3 h4 h5' RR hst hft hag hfin
     go_wp2_with fail
     go_end0
     exact⟨rfl,HFIN.out⟩
end
end Go.Proofs.YtebnflpanfmicaaGreatDoor
namespace Go.Proofs.YtebnflpanfmicaaGreatDoor
open Go.RowKit
def delN (g:Geo) (h:Nat) (s:FabS):Nat→FabS
 | 0=>s
 | n+1=>(delF g (delN g h s n) h 0).1
def delH (g:Geo) (s:FabS):Nat→FabS
 | 0=>s
 | h+1=>delN g h (delH g s h) ((delH g s h).ln h).length
def roundF (g:Geo) (s:FabS):FabS:=delH g (tickF g s) (hopsOf g.t).length
theorem FabOk.delN {g:Geo} {s:FabS} {c:Nat} (h:FabOk g s c) {i:Nat} (hi:i < (hopsOf g.t).length):∀n,FabOk g (delN g i s n) c
 | 0=>h
 | n+1=>(FabOk.delN h hi n).del i hi 0
theorem FabOk.delH {g:Geo} {s:FabS} {c:Nat} (h:FabOk g s c):∀n,n≤(hopsOf g.t).length→FabOk g (delH g s n) c
 | 0,_=>h
 | n+1,hn=>(FabOk.delH h n (by omega)).delN (by omega) _
theorem FabOk.round {g:Geo} (ht:Tree g.t) (h5:g.t.length≤5) (h3:g.ws.length≤3) {s:FabS} {c:Nat} (h:FabOk g s c):FabOk g (roundF g s) (c+6):=
 (h.tick ht h5 h3).delH _ (Nat.le_refl _)
section
variable {σ:Sig} {w w':World} {o:Nat→Option Cmp} {f:Nat} {fa:FabA} {g:Geo} {s s':FabS} {c:Nat}
theorem Next.more {w'':World} {s'':FabS} (h:Next σ w o f fa g w' s') (k:∀σ1 o1,SysF σ1 w' o1→Ext o w o1 w'→FabAt σ1 f fa g s'→Next σ1 w' o1 f fa g w'' s''):Next σ w o f fa g w'' s'':=by
 obtain⟨σ1,o1,h1,h2,h3,h4⟩:=h
 exact Next.then h1 h2 h4 (k σ1 o1 h1 h2 h3)
theorem Next.calmer {w'':World} (h:Next σ w o f fa g w' s') (hk:Keeps (fun _=>False) w' w''):Next σ w o f fa g w'' s':=
 h.more fun _ _ h1 _ h3=>Next.calm h1 h3 hk
theorem SysF.lenAll (h:SysF σ w o) (hF:FabAt σ f fa g s) {i:Nat} (hi:i < (hopsOf g.t).length):
  Calls Tryz.prog 35 #[.pointer (some ⟨fa.lb i,0,none⟩)] w fun e w'=>∃A c,e= .returned (.slice A (s.ln i).length c)∧Keeps (fun _=>False) w w':=by
 refine(all_runs (fa.lb i) _ _ _ w (h.linkV hF hi)).mono ?_
 rintro e w' ⟨A,c,us,rfl,_,hk⟩
 exact⟨A,c,rfl,hk⟩
set_option maxRecDepth 100000 in
set_option maxHeartbeats 8000000 in
theorem fround_runs (h:SysF σ w o) (hT:Tab w) (h00:o 0=none) (hF:FabAt σ f fa g s) (hok:FabOk g s c) (hc:c≤700000000):
  Calls Tryz.prog 22 #[.pointer (some ⟨fa.fb,0,none⟩)] w fun e w'=>e= .returned (.tuple #[])∧Next σ w o f fa g w' (roundF g s):=by
 have hp:=h.planS hF.geo
 have hl3:g.ws.length≤3:=by have:=hp.nums.lanes.2;have:=hp.lanes;omega
 have HOK:=Lib.hid (hok.tick hp.tree hp.t5 hl3)
 have HTK:=Lib.hid (ftick_runs h hT h00 hF hok (by omega) _ rfl)
 obtain⟨r,hr⟩:∃r,roundF g s=r:=⟨_,rfl⟩
 rw[hr]
 unfold roundF at hr
 have HR:=Lib.hid hr
 have hh:=(hops_in hp.tree hp.t5).2
 have hh10:(hopsOf g.t).length≤10:=by have:=hp.t5;omega
 clear h hT hF hok hp hr hh
 go_enter Tryz.func22,Tryz.ntmps22
 go_wp2_with fail
 refine HTK.out.mono ?_
 rintro e U ⟨rfl,hU⟩
 generalize tickF g s=s1 at*
 obtain⟨n,hn⟩:∃n,(hopsOf g.t).length=n:=⟨_,rfl⟩
 have c11:∃A c,U.cell? ⟨fa.fb,11,none⟩=some (.slice A n c):=by
  obtain⟨σ1,o1,h1,_,h3,_⟩:=hU
  obtain⟨A,cap,e,_,_⟩:=(h1.fabR h3).hops.shape
  exact⟨A,cap,by rw[(h1.fabR h3).c.1,e,hn]⟩
 obtain⟨A,cap,c11⟩:=c11
 have HN:=Lib.hid hn
 have HU:=Lib.hid hU
 rw[hn]at HR hh10
 clear hn hU HTK
 go_wp2_with fail
 go_loopw [10] (fun c wr=>∃i:Nat,i≤n∧c= .int .i64 (i:Int)∧Next σ w o f fa g wr (delH g s1 i)) (fun c _=>n - (intOf c).toNat)
 case atStart=>exact⟨0,Nat.zero_le _,rfl,HU.out⟩
 case round=>
  clear HU c11
  obtain⟨i,hi,rfl,hN⟩:=hrel
  by_cases hin:i < n
  ·have hii:(i:Int) < (n:Int):=by omega
   have HNX:=Lib.hid hN
   obtain⟨σ1,o1,h1,h2,h3,h4⟩:=hN
   have hil:i < (hopsOf g.t).length:=by rw[HN.out];exact hin
   have HL:=Lib.hid (flink_ok (h1.fabR h3) i hil)
   have HAL:=Lib.hid (p:=∀U,Keeps (fun _=>False) wr U→_) fun U hU=>SysF.lenAll (SysF.calm' h1 hU) h3 hil
   have hd:delH g s1 (i+1)=delN g i (delH g s1 i) ((delH g s1 i).ln i).length:=rfl
   have HD:=Lib.hid hd
   have HOI:=Lib.hid (HOK.out.delH i (by omega))
   obtain⟨m,hm⟩:∃m,((delH g s1 i).ln i).length=m:=⟨_,rfl⟩
   have hm64:m≤64:=by
    have h1':=HOI.out.room i hil
    have:=(h1.planS h3.geo).nums.bag.2
    omega
   have HM:=Lib.hid hm
   rw[hm]at HD HAL
   clear h1 h2 h3 h4 hd hm
   generalize delH g s1 i=s2 at*
   go_wp2_with fail
   refine HL.out.mono ?_
   rintro e U ⟨rfl,hU⟩
   have HAU:=Lib.hid (HAL.out U hU)
   have HXU:=Lib.hid (HNX.out.calmer hU)
   clear hU HAL HNX HL
   go_wp2_with fail
   refine HAU.out.mono ?_
   rintro e V ⟨A1,c1,rfl,hV⟩
   have HXV:=Lib.hid (HXU.out.calmer hV)
   clear hV HAU HXU
   go_wp2_with fail
   go_loopw [18] (fun c wr=>∃j:Nat,j≤m∧c= .int .i64 (j:Int)∧Next σ w o f fa g wr (delN g i s2 j)) (fun c _=>m - (intOf c).toNat)
   case atStart=>exact⟨0,Nat.zero_le _,rfl,HXV.out⟩
   case round=>
    clear HXV
    obtain⟨j,hj,rfl,hN⟩:=hrel
    by_cases hjm:j < m
    ·have hji:(j:Int) < (m:Int):=by omega
     have HNX:=Lib.hid hN
     obtain⟨σ1,o1,h1,h2,h3,h4⟩:=hN
     have HDL:=Lib.hid (deliver_runs h1 h3 (HOI.out.delN hil j) i hil 0)
     have H1:=Lib.hid h1
     have H2:=Lib.hid h2
     have H4:=Lib.hid h4
     clear h1 h2 h3 h4
     go_wp2_with fail
     refine HDL.out.mono ?_
     rintro e W ⟨rfl,hW⟩
     have HW:=Lib.hid (Next.then H1.out H2.out H4.out hW)
     clear hW HDL HNX H1 H2 H4
     go_wp2_with fail
     go_roundw
     case rel=>exact⟨j+1,by omega,by go_num,HW.out⟩
     case measure=>simp[intOf];omega
    ·obtain rfl:j=m:=by omega
     have hji:¬((j:Int) < (j:Int)):=by omega
     have HNX:=Lib.hid hN
     clear hN
     go_wp2_with fail
     go_roundw
     case rel=>exact⟨i+1,by omega,by go_num,by rw[HD.out];exact HNX.out⟩
     case measure=>simp[intOf];omega
  ·obtain rfl:i=n:=by omega
   have hii:¬((i:Int) < (i:Int)):=by omega
   have HNX:=Lib.hid hN
   clear hN
   go_wp2_with fail
   go_end0
   rw[←HR.out]
   exact⟨rfl,HNX.out⟩
end
end Go.Proofs.YtebnflpanfmicaaGreatDoor
namespace Go.Proofs.YtebnflpanfmicaaGreatDoor
open Go.RowKit
structure Stp where
 kind:Int
 x:Pkt
 wi:Bool
 ln:Int
 row:Int
 pos:Int
 mask:Int
def Stp.cells (s:Stp):Array Value:= #[.int .u8 s.kind, .int .i64 s.x.src, .int .i64 s.x.dst, .int .i64 s.x.lane, .int .u32 s.x.body, .bool s.wi, .int .i64 s.ln, .int .i64 s.row, .int .i64 s.pos, .int .u8 s.mask]
def Stp.val (s:Stp):Value:= .agg s.cells
def inN (x n:Int):Int:=max x 0 % n
def withinS (n lanes m:Int) (s:Stp):Stp:=if s.wi then{s with x:={s.x with src:=inN s.x.src n,dst:=inN s.x.dst n,lane:=inN s.x.lane lanes},ln:=inN s.ln m}else s
set_option maxRecDepth 100000 in
set_option maxHeartbeats 8000000 in
theorem tame_runs (s:Stp) (w:World):Calls Tryz.prog 25 #[s.val] w fun e w'=>e= .returned ({s with pos:=0}:Stp).val∧Keeps (fun _=>False) w w':=by
 obtain⟨k,⟨a,b,c,d⟩,wi,ln,row,pos,mk⟩:=s
 unfold Stp.val Stp.cells
 simp only
 go_enter Tryz.func25,Tryz.ntmps25
 go_wp2_with fail
 have hs:(w.alloc (.cells #[.int .u8 k, .int .i64 a, .int .i64 b, .int .i64 c, .int .u32 d, .bool wi, .int .i64 ln, .int .i64 row, .int .i64 0, .int .u8 mk] 33)).heap.size=w.heap.size+1:=World.size_alloc _ _
 have hb:=blk_new (w.alloc (.cells #[.int .u8 k, .int .i64 a, .int .i64 b, .int .i64 c, .int .u32 d, .bool wi, .int .i64 ln, .int .i64 row, .int .i64 0, .int .u8 mk] 33)) (.cells #[.int .u8 k, .int .i64 a, .int .i64 b, .int .i64 c, .int .u32 d, .bool wi, .int .i64 ln, .int .i64 row, .int .i64 0, .int .u8 mk] 33)
 rw[hs]at hb
 have hk:Keeps (fun _=>False) w ((w.alloc (.cells #[.int .u8 k, .int .i64 a, .int .i64 b, .int .i64 c, .int .u32 d, .bool wi, .int .i64 ln, .int .i64 row, .int .i64 0, .int .u8 mk] 33)).alloc (.cells #[.int .u8 k, .int .i64 a, .int .i64 b, .int .i64 c, .int .u32 d, .bool wi, .int .i64 ln, .int .i64 row, .int .i64 0, .int .u8 mk] 33)):=(Keeps.alloc _ _ _).trans (Keeps.alloc _ _ _)
 have q:=fun j=>blk_cell hb j
 have z0:=q 0;have z1:=q 1;have z2:=q 2;have z3:=q 3;have z4:=q 4;have z5:=q 5;have z6:=q 6;have z7:=q 7;have z8:=q 8;have z9:=q 9
 simp only[List.getElem?_toArray,List.getElem?_cons_zero,List.getElem?_cons_succ]at z0 z1 z2 z3 z4 z5 z6 z7 z8 z9
 clear q hb
 generalize (w.alloc (.cells #[.int .u8 k, .int .i64 a, .int .i64 b, .int .i64 c, .int .u32 d, .bool wi, .int .i64 ln, .int .i64 row, .int .i64 0, .int .u8 mk] 33)).alloc (.cells #[.int .u8 k, .int .i64 a, .int .i64 b, .int .i64 c, .int .u32 d, .bool wi, .int .i64 ln, .int .i64 row, .int .i64 0, .int .u8 mk] 33)=V at*
 exact bodyPost_ret (v:= .agg #[.int .u8 k, .int .i64 a, .int .i64 b, .int .i64 c, .int .u32 d, .bool wi, .int .i64 ln, .int .i64 row, .int .i64 0, .int .u8 mk]) (by simp[results,Tryz.results25,go_sem,z0,z1,z2,z3,z4,z5,z6,z7,z8,z9]) rfl ⟨rfl,hk⟩
set_option maxRecDepth 100000 in
set_option maxHeartbeats 8000000 in
theorem within_runs (s:Stp) (n:Int) (hn:1≤n) (e1 wt nx:Value) (lanes room queue rounds every bag start m:Int) (hl:1≤lanes) (hm:1≤m) (w:World):
  Calls Tryz.prog 26 #[s.val, .agg #[.int .i64 n,e1, .int .i64 lanes, .int .i64 room, .int .i64 queue, .int .i64 rounds, .int .i64 every, .int .i64 bag,wt, .int .u16 start,nx], .int .i64 m] w fun e w'=>e= .returned (withinS n lanes m s).val∧Keeps (fun _=>False) w w':=by
 obtain⟨k,⟨a,b,c,d⟩,wi,ln,row,pos,mk⟩:=s
 have n0:¬n=0:=by omega
 have l0:¬lanes=0:=by omega
 have m0:¬m=0:=by omega
 unfold Stp.val Stp.cells withinS inN
 simp only
 cases wi with
 | false=>
   go_enter Tryz.func26,Tryz.ntmps26
   go_wp2_with fail
   have hs:((w.alloc (.cells #[.int .u8 k, .int .i64 a, .int .i64 b, .int .i64 c, .int .u32 d, .bool false, .int .i64 ln, .int .i64 row, .int .i64 pos, .int .u8 mk] 33)).alloc (.cells #[.int .i64 n,e1, .int .i64 lanes, .int .i64 room, .int .i64 queue, .int .i64 rounds, .int .i64 every, .int .i64 bag,wt, .int .u16 start,nx] 38)).heap.size=w.heap.size+1+1:=by rw[World.size_alloc,World.size_alloc]
   have hb:=blk_new ((w.alloc (.cells #[.int .u8 k, .int .i64 a, .int .i64 b, .int .i64 c, .int .u32 d, .bool false, .int .i64 ln, .int .i64 row, .int .i64 pos, .int .u8 mk] 33)).alloc (.cells #[.int .i64 n,e1, .int .i64 lanes, .int .i64 room, .int .i64 queue, .int .i64 rounds, .int .i64 every, .int .i64 bag,wt, .int .u16 start,nx] 38)) (.cells #[.int .u8 k, .int .i64 a, .int .i64 b, .int .i64 c, .int .u32 d, .bool false, .int .i64 ln, .int .i64 row, .int .i64 pos, .int .u8 mk] 33)
   rw[hs]at hb
   have hk:Keeps (fun _=>False) w (((w.alloc (.cells #[.int .u8 k, .int .i64 a, .int .i64 b, .int .i64 c, .int .u32 d, .bool false, .int .i64 ln, .int .i64 row, .int .i64 pos, .int .u8 mk] 33)).alloc (.cells #[.int .i64 n,e1, .int .i64 lanes, .int .i64 room, .int .i64 queue, .int .i64 rounds, .int .i64 every, .int .i64 bag,wt, .int .u16 start,nx] 38)).alloc (.cells #[.int .u8 k, .int .i64 a, .int .i64 b, .int .i64 c, .int .u32 d, .bool false, .int .i64 ln, .int .i64 row, .int .i64 pos, .int .u8 mk] 33)):=((Keeps.alloc _ _ _).trans (Keeps.alloc _ _ _)).trans (Keeps.alloc _ _ _)
   have q:=fun j=>blk_cell hb j
   have z0:=q 0;have z1:=q 1;have z2:=q 2;have z3:=q 3;have z4:=q 4;have z5:=q 5;have z6:=q 6;have z7:=q 7;have z8:=q 8;have z9:=q 9
   simp only[List.getElem?_toArray,List.getElem?_cons_zero,List.getElem?_cons_succ]at z0 z1 z2 z3 z4 z5 z6 z7 z8 z9
   clear q hb
   generalize ((w.alloc (.cells #[.int .u8 k, .int .i64 a, .int .i64 b, .int .i64 c, .int .u32 d, .bool false, .int .i64 ln, .int .i64 row, .int .i64 pos, .int .u8 mk] 33)).alloc (.cells #[.int .i64 n,e1, .int .i64 lanes, .int .i64 room, .int .i64 queue, .int .i64 rounds, .int .i64 every, .int .i64 bag,wt, .int .u16 start,nx] 38)).alloc (.cells #[.int .u8 k, .int .i64 a, .int .i64 b, .int .i64 c, .int .u32 d, .bool false, .int .i64 ln, .int .i64 row, .int .i64 pos, .int .u8 mk] 33)=V at*
   exact bodyPost_ret (v:= .agg #[.int .u8 k, .int .i64 a, .int .i64 b, .int .i64 c, .int .u32 d, .bool false, .int .i64 ln, .int .i64 row, .int .i64 pos, .int .u8 mk]) (by simp[results,Tryz.results26,go_sem,z0,z1,z2,z3,z4,z5,z6,z7,z8,z9]) rfl ⟨rfl,hk⟩
 | true=>
   go_enter Tryz.func26,Tryz.ntmps26
   go_wp2_with fail
   have hs:((w.alloc (.cells #[.int .u8 k, .int .i64 (max a 0 % n), .int .i64 (max b 0 % n), .int .i64 (max c 0 % lanes), .int .u32 d, .bool true, .int .i64 (max ln 0 % m), .int .i64 row, .int .i64 pos, .int .u8 mk] 33)).alloc (.cells #[.int .i64 n,e1, .int .i64 lanes, .int .i64 room, .int .i64 queue, .int .i64 rounds, .int .i64 every, .int .i64 bag,wt, .int .u16 start,nx] 38)).heap.size=w.heap.size+1+1:=by rw[World.size_alloc,World.size_alloc]
   have hb:=blk_new ((w.alloc (.cells #[.int .u8 k, .int .i64 (max a 0 % n), .int .i64 (max b 0 % n), .int .i64 (max c 0 % lanes), .int .u32 d, .bool true, .int .i64 (max ln 0 % m), .int .i64 row, .int .i64 pos, .int .u8 mk] 33)).alloc (.cells #[.int .i64 n,e1, .int .i64 lanes, .int .i64 room, .int .i64 queue, .int .i64 rounds, .int .i64 every, .int .i64 bag,wt, .int .u16 start,nx] 38)) (.cells #[.int .u8 k, .int .i64 (max a 0 % n), .int .i64 (max b 0 % n), .int .i64 (max c 0 % lanes), .int .u32 d, .bool true, .int .i64 (max ln 0 % m), .int .i64 row, .int .i64 pos, .int .u8 mk] 33)
   rw[hs]at hb
   have hk:Keeps (fun _=>False) w (((w.alloc (.cells #[.int .u8 k, .int .i64 (max a 0 % n), .int .i64 (max b 0 % n), .int .i64 (max c 0 % lanes), .int .u32 d, .bool true, .int .i64 (max ln 0 % m), .int .i64 row, .int .i64 pos, .int .u8 mk] 33)).alloc (.cells #[.int .i64 n,e1, .int .i64 lanes, .int .i64 room, .int .i64 queue, .int .i64 rounds, .int .i64 every, .int .i64 bag,wt, .int .u16 start,nx] 38)).alloc (.cells #[.int .u8 k, .int .i64 (max a 0 % n), .int .i64 (max b 0 % n), .int .i64 (max c 0 % lanes), .int .u32 d, .bool true, .int .i64 (max ln 0 % m), .int .i64 row, .int .i64 pos, .int .u8 mk] 33)):=((Keeps.alloc _ _ _).trans (Keeps.alloc _ _ _)).trans (Keeps.alloc _ _ _)
   have q:=fun j=>blk_cell hb j
   have z0:=q 0;have z1:=q 1;have z2:=q 2;have z3:=q 3;have z4:=q 4;have z5:=q 5;have z6:=q 6;have z7:=q 7;have z8:=q 8;have z9:=q 9
   simp only[List.getElem?_toArray,List.getElem?_cons_zero,List.getElem?_cons_succ]at z0 z1 z2 z3 z4 z5 z6 z7 z8 z9
   clear q hb
   generalize ((w.alloc (.cells #[.int .u8 k, .int .i64 (max a 0 % n), .int .i64 (max b 0 % n), .int .i64 (max c 0 % lanes), .int .u32 d, .bool true, .int .i64 (max ln 0 % m), .int .i64 row, .int .i64 pos, .int .u8 mk] 33)).alloc (.cells #[.int .i64 n,e1, .int .i64 lanes, .int .i64 room, .int .i64 queue, .int .i64 rounds, .int .i64 every, .int .i64 bag,wt, .int .u16 start,nx] 38)).alloc (.cells #[.int .u8 k, .int .i64 (max a 0 % n), .int .i64 (max b 0 % n), .int .i64 (max c 0 % lanes), .int .u32 d, .bool true, .int .i64 (max ln 0 % m), .int .i64 row, .int .i64 pos, .int .u8 mk] 33)=V at*
   exact bodyPost_ret (v:= .agg #[.int .u8 k, .int .i64 (max a 0 % n), .int .i64 (max b 0 % n), .int .i64 (max c 0 % lanes), .int .u32 d, .bool true, .int .i64 (max ln 0 % m), .int .i64 row, .int .i64 pos, .int .u8 mk]) (by simp[results,Tryz.results26,go_sem,z0,z1,z2,z3,z4,z5,z6,z7,z8,z9]) rfl ⟨rfl,hk⟩
end Go.Proofs.YtebnflpanfmicaaGreatDoor
