/-
  Part 21 of the proof: TopAsks, TopFeed, TopFeedW, TopDec.
-/
import Derived.Test.YtebnflpanfmicaaGreatDoorPkAT
import Derived.Deep.RegionLaw
import Derived.Test.YtebnflpanfmicaaGreatDoorPkAG
import Derived.Lib.QuietBelow
import Derived.Deep.RegionHeld3
set_option linter.unusedVariables false
set_option linter.unusedSimpArgs false
set_option linter.unusedSectionVars false
namespace Go.Proofs.YtebnflpanfmicaaGreatDoor
open Go.RowKit
def askTo (s:NodeS) (L i:Nat):Nat→Nat
 | 0=>0
 | t+1=>if mayTo s i t L≠0 then askTo s L i t+2^t else askTo s L i t
theorem askTo_lt (s:NodeS) (L i:Nat):∀t,askTo s L i t < 2^t
 | 0=>by simp[askTo]
 | t+1=>by
   have:=askTo_lt s L i t
   unfold askTo
   split <;>omega
theorem or_bit6:∀(k:Nat),k < 6→∀m:Nat,m < 2^k→bits .or .u16 (m:Int) (IntKind.u16.wrap (2^k))=((m+2^k:Nat):Int):=by decide+kernel
theorem info_u16t:(Tryz.prog.info? 23).map (fun i=>(i.zero,i.size,i.bytes))=some (some (.int .u16 0),1,2):=by kernel_rfl
def asksAt (s:NodeS) (L n i t:Nat):List Nat:=(List.range n).map fun i'=>if i' < i then askTo s L i' n else if i'=i then askTo s L i t else 0
theorem asksAt_length (s:NodeS) (L n i t:Nat):(asksAt s L n i t).length=n:=by simp[asksAt]
theorem asksAt_get (s:NodeS) (L n i t:Nat) (h:i < n):(asksAt s L n i t)[i]? =some (askTo s L i t):=by
 unfold asksAt
 rw[List.getElem?_map,List.getElem?_range h]
 simp
theorem asksAt_next (s:NodeS) (L n i:Nat):asksAt s L n i n=asksAt s L n (i+1) 0:=by
 unfold asksAt
 apply List.map_congr_left
 intro i' _
 by_cases h1:i' < i
 ·rw[if_pos h1,if_pos (by omega)]
 ·by_cases h2:i'=i
  ·subst h2
   rw[if_neg h1,if_pos rfl,if_pos (by omega)]
  ·rw[if_neg h1,if_neg h2,if_neg (by omega)]
   split
   ·rfl
   ·rfl
theorem asksAt_set (s:NodeS) (L n i t:Nat) (h:i < n):(asksAt s L n i t).set i (askTo s L i (t+1))=asksAt s L n i (t+1):=by
 apply List.ext_getElem?
 intro j
 rw[List.getElem?_set]
 by_cases hj:i=j
 ·subst hj
  rw[if_pos rfl,asksAt_length,if_pos h,asksAt_get s L n i (t+1) h]
 ·rw[if_neg hj]
  unfold asksAt
  rw[List.getElem?_map,List.getElem?_map]
  by_cases hjn:j < n
  ·rw[List.getElem?_range hjn]
   simp only[Option.map_some]
   rw[if_neg (Ne.symm hj),if_neg (Ne.symm hj)]
  ·rw[List.getElem?_eq_none (by simp;omega)];rfl
section
variable {σ:Sig} {w:World} {o:Nat→Option Cmp} {f v:Nat} {g:Geo} {a:NodeA} {s:NodeS}
set_option maxRecDepth 100000 in
set_option maxHeartbeats 8000000 in
theorem asks_runs (h:SysF σ w o) (hg:σ.geo f=some g) (hn:σ.node f v=some (a,s)) (n:Nat) (hpn:g.ports v=n) (h6:n≤6):
  Calls Tryz.prog 127 #[.pointer (some ⟨a.nb,0,none⟩)] w fun e w'=>∃R,e= .returned (.slice (some ⟨R,0,none⟩) n n)∧w'.heap[R]? =some (.cells ((asksAt s g.ws.length n n 0).map encU).toArray 23 (0,0))∧Keeps (fun _=>False) w w'∧w.heap.size≤R:=by
 have N:=h.nodeR hg hn
 obtain⟨pA,pc,hpv,_,_⟩:=N.pq.shape
 rw[hpn]at hpv
 have HN:=Lib.hid (p:=∀U,Keeps (fun _=>False) w U→U.cell? ⟨a.nb,13,none⟩=some (.slice pA n pc)) fun U hU=>by rw[blk_cell (N.keeps hU (fun _ _ h=>h)).box,←hpv];rfl
 have HM:=Lib.hid (p:=∀U,Keeps (fun _=>False) w U→∀i t,i < n→t < n→_) fun U hU i t hi ht=>may_runs (SysF.calm' h hU) hg hn i t (by omega) (by omega)
 have hms:=fun w=>run_make_row' (P:=Tryz.prog) 221 23 (.int .u16 0) 2 Tryz.underlying221 info_u16t rfl .i64 .i64 n (by omega) (by omega) w
 have c13:=HN.out w (Keeps.refl _ _)
 clear h N hpv
 generalize g.ws.length=L at*
 have hkV:Keeps (fun _=>False) w (w.alloc (.cells (madeCells #[.int .u16 0] n) 23)):=Keeps.alloc _ _ _
 have c13':=HN.out _ hkV
 have hR:(w.alloc (.cells (madeCells #[.int .u16 0] n) 23)).heap[w.heap.size]? =some (.cells ((asksAt s L n 0 0).map encU).toArray 23 (0,0)):=by
  rw[blk_new,madeRep]
  congr 3
  apply List.ext_getElem?
  intro j
  unfold asksAt
  rw[List.map_map,List.getElem?_map]
  by_cases hj:j < n
  ·rw[List.getElem?_range hj];simp[hj,askTo,encU]
  ·rw[List.getElem?_eq_none (by simp;omega),List.getElem?_eq_none (by simp;omega)];rfl
 go_enter Tryz.func127,Tryz.ntmps127
 go_wp2_with fail
 obtain⟨R,hRe⟩:∃R,w.heap.size=R:=⟨_,rfl⟩
 have HRE:=Lib.hid hRe
 rw[hRe]at hR ⊢
 clear hRe c13 c13' hms
 go_loopw [17] (fun c wr=>∃i:Nat,i≤n∧c= .int .i64 (i:Int)∧wr.heap[R]? =some (.cells ((asksAt s L n i 0).map encU).toArray 23 (0,0))∧Keeps (fun _=>False) w wr) (fun c _=>n - (intOf c).toNat)
 case atStart=>exact⟨0,Nat.zero_le _,rfl,hR,hkV⟩
 case round=>
  clear hR hkV
  obtain⟨i,hi,rfl,hb,hk⟩:=hrel
  by_cases hin:i < n
  ·have hii:(i:Int) < (n:Int):=by omega
   have hi0:(0:Int)≤(i:Int):=by omega
   have c13:=HN.out wr hk
   have HB:=Lib.hid hb
   have HK:=Lib.hid hk
   clear hb hk
   go_wp2_with fail
   clear c13
   go_loopw [25] (fun c wr=>∃t:Nat,t≤n∧c= .int .i64 (t:Int)∧wr.heap[R]? =some (.cells ((asksAt s L n i t).map encU).toArray 23 (0,0))∧Keeps (fun _=>False) w wr) (fun c _=>n - (intOf c).toNat)
   case atStart=>exact⟨0,Nat.zero_le _,rfl,HB.out,HK.out⟩
   case round=>
    obtain⟨t,ht,rfl,hb,hk⟩:=hrel
    by_cases htn:t < n
    ·have htt:(t:Int) < (n:Int):=by omega
     have ht0:(0:Int)≤(t:Int):=by omega
     have HC:=Lib.hid (HM.out wr hk i t hin htn)
     have HB:=Lib.hid hb
     have HK:=Lib.hid hk
     clear hb hk
     go_wp2_with fail
     refine HC.out.mono ?_
     rintro e U ⟨rfl,hU⟩
     have hbU:=blk_keeps hU HB.out (fun h=>h)
     have hstep:askTo s L i (t+1)=if mayTo s i t L≠0 then askTo s L i t+2^t else askTo s L i t:=rfl
     have hnx:=asksAt_set s L n i t hin
     have HGE:=Lib.hid (asksAt_get s L n i t hin)
     have hor:=or_bit6 t (by omega) (askTo s L i t) (askTo_lt s L i t)
     have x1:U.cell? ⟨R,i,none⟩=some (.int .u16 (askTo s L i t:Nat)):=by
      rw[blk_cell hbU,List.getElem?_toArray,List.getElem?_map,asksAt_get s L n i t hin];rfl
     have xf:U.frozen? ⟨R,i,none⟩=false:=blk_frozen hbU i
     have HBU:=Lib.hid hbU
     have HKU:=Lib.hid (HK.out.trans hU)
     have HNX:=Lib.hid hnx
     have HOR:=Lib.hid hor
     have HST:=Lib.hid hstep
     clear hbU hU hnx hor hstep HC HB
     generalize askTo s L i (t+1)=y2 at*
     generalize askTo s L i t=y at*
     generalize mayTo s i t L=m at*
     by_cases hm:m=0
     ·have hb:((m:Int) == 0)=true:=by rw[beq_iff_eq];omega
      have HY:Hid (y2=y):=Lib.hid (HST.out.trans (by rw[if_neg (by simp[hm])]))
      clear hm x1 xf
      go_wp2_with fail
      have hsame:asksAt s L n i (t+1)=asksAt s L n i t:=by
       rw[←HNX.out,HY.out]
       apply List.ext_getElem?
       intro j
       rw[List.getElem?_set]
       by_cases hj:i=j
       ·subst hj;rw[if_pos rfl,asksAt_length,if_pos hin,HGE.out]
       ·rw[if_neg hj]
      exact⟨⟨t+1,by omega,rfl,by rw[hsame];exact HBU.out,HKU.out⟩,by simp[intOf];omega⟩
     ·have hb:((m:Int) == 0)=false:=by rw[beq_eq_false_iff_ne];omega
      have HY:Hid (y2=y+2^t):=Lib.hid (HST.out.trans (if_pos hm))
      clear hm
      go_wp2_with fail
      go_region_law (fail)
      go_wp2_with fail
      have hkS:Keeps (fun k=>k=R) U (U.setCell ⟨R,i,none⟩ (.int .u16 (bits .or .u16 (y:Int) (IntKind.u16.wrap (2^t))))).drew:=(Keeps.setCell (fun k=>k=R) U ⟨R,i,none⟩ _ rfl).trans (Keeps.drew _ _)
      have hbS:(U.setCell ⟨R,i,none⟩ (.int .u16 (bits .or .u16 (y:Int) (IntKind.u16.wrap (2^t))))).drew.heap[R]? =some (.cells ((asksAt s L n i (t+1)).map encU).toArray 23 (0,0)):=by
       show(U.setCell ⟨R,i,none⟩ (.int .u16 (bits .or .u16 (y:Int) (IntKind.u16.wrap (2^t))))).heap[R]? =_
       rw[blk_set HBU.out,HOR.out,←HNX.out,HY.out]
       simp[List.map_set]
       rfl
      have hRE:=HRE.out
      exact⟨⟨t+1,by omega,rfl,hbS,HKU.out.then hkS (fun k hk e=>by omega)⟩,by simp[intOf];omega⟩
    ·obtain rfl:t=n:=by omega
     have htt:¬((t:Int) < (t:Int)):=by omega
     rw[asksAt_next]at hb
     have HB:=Lib.hid hb
     have HK:=Lib.hid hk
     clear hb hk
     go_wp2_with fail
     exact⟨⟨i+1,by omega,rfl,HB.out,HK.out⟩,by simp[intOf];omega⟩
  ·obtain rfl:i=n:=by omega
   have hii:¬((i:Int) < (i:Int)):=by omega
   have HB:=Lib.hid hb
   have HK:=Lib.hid hk
   clear hb hk
   go_wp2_with fail
   go_ret
   exact⟨R,rfl,HB.out,HK.out,Nat.le_of_eq HRE.out⟩
end
end Go.Proofs.YtebnflpanfmicaaGreatDoor
namespace Go.Proofs.YtebnflpanfmicaaGreatDoor
open Go.RowKit
def manyTo (s:NodeS) (k:Nat):Nat→Int
 | 0=>0
 | t+1=>wrap64 (manyTo s k t+((s.Q ⟨0,t,k⟩).length:Int))
def feedOne (g:Geo) (v:Nat) (s:NodeS) (k:Nat):NodeS:=
 if g.p.room≤manyTo s k (g.ports v)then s else
 match s.q k with
 | []=>s
 | x :: r=>{s with q:=setAt s.q k r,free:=s.free - 1,Q:=pushQ s.Q s.free ⟨0,towardI g.t v x.dst.toNat,k⟩ x}
def feedTo (g:Geo) (v:Nat) (s:NodeS):Nat→NodeS
 | 0=>s
 | k+1=>feedOne g v (feedTo g v s k) k
theorem feedOne_q (g:Geo) (v:Nat) (s:NodeS) (k j:Nat):∀x∈(feedOne g v s k).q j,x∈s.q j:=by
 intro x hx
 unfold feedOne at hx
 split at hx
 ·exact hx
 ·split at hx
  ·exact hx
  ·rename_i y r e
   simp only[setAt]at hx
   by_cases h:j=k
   ·subst h;rw[e];simp at hx;exact List.mem_cons_of_mem _ hx
   ·simp[h]at hx;exact hx
theorem feedTo_q (g:Geo) (v:Nat) (s:NodeS):∀(k j:Nat),∀x∈(feedTo g v s k).q j,x∈s.q j
 | 0,_,_,h=>h
 | k+1,j,x,h=>feedTo_q g v s k j x (feedOne_q g v _ k j x h)
end Go.Proofs.YtebnflpanfmicaaGreatDoor
namespace Go.Proofs.YtebnflpanfmicaaGreatDoor
open Go.RowKit
section
variable {σ:Sig} {w:World} {o:Nat→Option Cmp} {f v:Nat} {g:Geo} {a:NodeA} {s:NodeS}
set_option maxRecDepth 100000 in
set_option maxHeartbeats 16000000 in
theorem feed_runs (h:SysF σ w o) (hg:σ.geo f=some g) (hn:σ.node f v=some (a,s)) (hv:v≤g.t.length) (hlv:∀i,∃A n c,a.lv i= .slice A n c) (hq:∀k,k < 3→∀x∈s.q k,∃d:Nat,x.dst=(d:Int)∧d≤g.t.length) (n L:Nat) (hpn:g.ports v=n) (h6:n≤6) (hL:g.ws.length=L):
  Calls Tryz.prog 125 #[.pointer (some ⟨a.nb,0,none⟩)] w fun e w'=>e= .returned (.tuple #[])∧∃o',SysF (σ.set f v a (feedTo g v s L)) w' o'∧Ext o w o' w':=by
 have hp:=h.planS hg
 have hL3:L≤3:=by have:=hp.nums.lanes.2;have:=hp.lanes;omega
 have N:=h.nodeR hg hn
 have cl:=N.lanesN hp.lanes
 rw[hL]at cl
 have h0:SysF (σ.set f v a s) w o:=by rw[set_self hn];exact h
 clear h N
 go_enter Tryz.func125,Tryz.ntmps125
 go_wp2_with fail
 clear cl
 go_loopw [12] (fun c wr=>∃(k:Nat) (o1:Nat→Option Cmp),k≤L∧c= .int .i64 (k:Int)∧SysF (σ.set f v a (feedTo g v s k)) wr o1∧Ext o w o1 wr) (fun c _=>L - (intOf c).toNat)
 case atStart=>exact⟨0,o,Nat.zero_le _,rfl,h0,Ext.refl _ _⟩
 case round=>
  clear h0
  obtain⟨k,o1,hk,rfl,hS,hE⟩:=hrel
  by_cases hkl:k < L
  ·have hkk:(k:Int) < (L:Int):=by omega
   have hk0:(0:Int)≤(k:Int):=by omega
   have hq2:∀x∈(feedTo g v s k).q k,∃d:Nat,x.dst=(d:Int)∧d≤g.t.length:=fun x hx=>hq k (by omega) x (feedTo_q g v s k k x hx)
   have hfo:feedTo g v s (k+1)=feedOne g v (feedTo g v s k) k:=rfl
   have HFO:=Lib.hid hfo
   clear hfo
   generalize feedTo g v s k=sk at*
   have hnk:=set_get (σ:=σ) f v a sk
   have N:=hS.nodeR hg hnk
   obtain⟨pA,pc,hpv,_,_⟩:=N.pq.shape
   rw[hpn]at hpv
   have c13:wr.cell? ⟨a.nb,13,none⟩=some (.slice pA n pc):=by rw[blk_cell N.box,←hpv];rfl
   have c15:wr.cell? ⟨a.nb,15,none⟩=some (.pointer (some ⟨a.rb,0,none⟩)):=by rw[blk_cell N.box];rfl
   have c14:wr.cell? ⟨a.nb,14,none⟩=some (.pointer (some ⟨a.hb,0,none⟩)):=by rw[blk_cell N.box];rfl
   have c4:wr.cell? ⟨a.nb,4,none⟩=some (.int .i64 g.p.room):=by rw[blk_cell N.box];rfl
   have HLN:=Lib.hid (p:=∀t:Nat,_) fun t=>rlen_runs a.rb _ _ _ _ _ wr (hS.ringsV hg hnk) ⟨0,(t:Int),(k:Int)⟩
   have HS:=Lib.hid hS
   have HE:=Lib.hid hE
   have HQ2:=Lib.hid hq2
   clear hS hE hq2 N hpv
   go_wp2_with fail
   go_loopw [3,20] (fun m c wr2=>∃t:Nat,t≤n∧c= .int .i64 (t:Int)∧m= .int .i64 (manyTo sk k t)∧wr2=wr) (fun _ c _=>n - (intOf c).toNat)
   case atStart=>exact⟨0,Nat.zero_le _,rfl,rfl,rfl⟩
   case round=>
    obtain⟨t,ht,rfl,rfl,rfl⟩:=hrel
    by_cases htn:t < n
    ·have htt:(t:Int) < (n:Int):=by omega
     have hmn:manyTo sk k (t+1)=wrap64 (manyTo sk k t+((sk.Q ⟨0,t,k⟩).length:Int)):=rfl
     have HMN:=Lib.hid hmn
     have HC:=Lib.hid (HLN.out t)
     clear hmn
     go_wp2_with fail
     refine HC.out.mono ?_
     rintro e W ⟨rfl,rfl⟩
     go_wp2_with fail
     go_roundw
     case rel=>exact⟨t+1,by omega,by go_num,by rw[HMN.out],trivial⟩
     case measure=>simp[intOf];omega
    ·obtain rfl:t=n:=by omega
     have htt:¬((t:Int) < (t:Int)):=by omega
     by_cases hroom:g.p.room≤manyTo sk k t
     ·have HRM:=Lib.hid hroom
      go_wp2_with fail
      have hsame:feedTo g v s (k+1)=sk:=HFO.out.trans (by unfold feedOne;rw[hpn,if_pos HRM.out])
      exact⟨⟨k+1,o1,by omega,rfl,by rw[hsame];exact HS.out,HE.out⟩,by simp[intOf];omega⟩
     ·have HRM:=Lib.hid hroom
      have hlan:g.p.lanes=(L:Int):=hL▸hp.lanes
      cases hqk:sk.q k with
      | nil=>
        have HC:=Lib.hid (next_empty (T:=200) (E:=31) a.hb (k:Int) _ _ wr (HS.out.hostV hg hnk) (by omega) (.inr (.inr ⟨hk0,by omega,by simpa using hqk⟩)))
        have HQK:=Lib.hid hqk
        clear hqk
        go_wp2_with fail
        refine HC.out.mono ?_
        rintro e W ⟨rfl,hW⟩
        have HW:=Lib.hid hW
        clear hW HC
        go_wp2_with fail
        have hsame:feedTo g v s (k+1)=sk:=HFO.out.trans (by unfold feedOne;rw[hpn,if_neg (by have:=HRM.out;omega),HQK.out])
        have hkA:=HW.out.trans (Keeps.alloc (fun _=>False) W (.cells #[.int .i64 0, .int .i64 0, .int .i64 0, .int .u32 0] 31))
        exact⟨⟨k+1,o1,by omega,rfl,by rw[hsame];exact SysF.calm' HS.out hkA,HE.out.trans (Ext.keeps o1 hkA)⟩,by simp[intOf];omega⟩
      | cons x r=>
        obtain⟨d,hd,hdl⟩:=HQ2.out x (by rw[hqk];exact List.mem_cons_self)
        have HC:=Lib.hid (next_ok (T:=200) a.hb (k:Int) _ _ wr (HS.out.hostV hg hnk) (by omega) hk0 (by omega) x r (by simpa using hqk))
        have HQK:=Lib.hid hqk
        clear hqk
        obtain⟨x1,x2,x3,x4⟩:=x
        simp only at hd
        subst hd
        go_wp2_with fail
        refine HC.out.mono ?_
        rintro e W ⟨rfl,hW⟩
        obtain⟨o2,hS2,hE2⟩:=SysF.stepHost HS.out hg hnk hW
        rw[set_set]at hS2
        have HS2:=Lib.hid hS2
        have HE2:=Lib.hid (HE.out.trans hE2)
        clear hW hS2 hE2 HC
        go_wp2_with fail
        have hkY:Keeps (fun _=>False) W (W.alloc (.cells #[.int .i64 x1, .int .i64 (d:Int), .int .i64 x3, .int .u32 x4] 31)):=Keeps.alloc _ _ _
        have hpk:PktAt (W.alloc (.cells #[.int .i64 x1, .int .i64 (d:Int), .int .i64 x3, .int .u32 x4] 31)) W.heap.size ⟨x1,d,x3,x4⟩:=blk_new W _
        have hS3:=SysF.calm' HS2.out hkY
        have hfresh:o2 W.heap.size=none:=by
         cases e:o2 W.heap.size with
         | none=>rfl
         | some x=>have:=Sys.lt HS2.out _ _ e;omega
        generalize W.alloc (.cells #[.int .i64 x1, .int .i64 (d:Int), .int .i64 x3, .int .u32 x4] 31)=Y at*
        generalize W.heap.size=yb at*
        have hn3:=set_get (σ:=σ) f v a {sk with q:=setAt sk.q (k:Int).toNat r}
        have N1:=hS3.nodeR hg hn3
        have P1:=hS3.planS hg
        have R1:=hS3.ringsV hg hn3
        have e15:Y.cell? ⟨a.nb,15,none⟩=some (.pointer (some ⟨a.rb,0,none⟩)):=by rw[blk_cell N1.box];rfl
        obtain⟨q0,q1,q2,q3⟩:=hpk.cells
        simp only at q0 q1 q2 q3
        have hnbo:o2 a.nb=some (.node f v):=N1.sb
        have HT:=Lib.hid (p:=∀Z,Keeps (fun _=>False) Y Z→_) fun Z hZ=>toward_runs (N1.keeps hZ (fun _ _ h=>h)) (P1.keeps hZ (fun _ _ h=>h)) hlv hv d hdl
        have hrange:=towardI_range g.t v d
        have hpos:(0:Int) < ((g.ports v:Nat):Int):=by show(0:Int) < (((nb g.t v).length+1:Nat):Int);omega
        have HPU:=Lib.hid (p:=∀Z,Keeps (fun _=>False) Y Z→_) fun Z hZ=>push_runs a.rb _ _ _ _ _ Z (R1.keeps hZ (fun _ _ h=>h)) ⟨0,towardI g.t v d,(k:Int)⟩ ⟨x1,d,x3,x4⟩ ⟨Int.le_refl _,hpos⟩ hrange ⟨by simp only;omega,by simp only;omega⟩
        have HSS:=Lib.hid (p:=∀(F:Nat→Prop) Z,Keeps F Y Z→¬F a.nb→¬F yb→Z.cell? ⟨a.nb,15,none⟩=some (.pointer (some ⟨a.rb,0,none⟩))∧Z.cell? ⟨yb,0,none⟩=some (.int .i64 x1)∧Z.cell? ⟨yb,1,none⟩=some (.int .i64 (d:Int))∧Z.cell? ⟨yb,2,none⟩=some (.int .i64 x3)∧Z.cell? ⟨yb,3,none⟩=some (.int .u32 x4)) fun F Z hZ h1 h2=>⟨hZ.cell e15 h1,hZ.cell q0 h2,hZ.cell q1 h2,hZ.cell q2 h2,hZ.cell q3 h2⟩
        have hF1:¬(fun k=>o2 k=some (Cmp.rings f v)) a.nb:=by simp only;rw[hnbo];intro h;cases h
        have hF2:¬(fun k=>o2 k=some (Cmp.rings f v)) yb:=by simp only;rw[hfresh];intro h;cases h
        have hd:Keeps (fun _=>False) Y Y.drew:=Keeps.drew _ _
        have hsd:=HSS.out _ _ hd (fun h=>h) (fun h=>h)
        have HS3:=Lib.hid hS3
        have HE3:=Lib.hid (HE2.out.trans (Ext.keeps o2 hkY))
        clear hkY hpk hS3 N1 P1 R1 hn3 e15 q0 q1 q2 q3 hnbo hfresh HS2 HE2 c13 c14 c15 c4
        go_region_held3 (fun Z=>Z.cell? ⟨a.nb,15,none⟩=some (.pointer (some ⟨a.rb,0,none⟩))∧Z.cell? ⟨yb,0,none⟩=some (.int .i64 x1)∧Z.cell? ⟨yb,1,none⟩=some (.int .i64 (d:Int))∧Z.cell? ⟨yb,2,none⟩=some (.int .i64 x3)∧Z.cell? ⟨yb,3,none⟩=some (.int .u32 x4))
         (with_reducible first | exact hsd | exact hsW | exact hsZ | go_keep)
         (first
          | (go_at_call 172;refine(HT.out _ hd).mono ?_;rintro e X ⟨rfl,hX⟩;have hYX:=hd.trans hX;have hsW:=HSS.out _ _ hYX (fun h=>h) (fun h=>h))
          | (go_at_call 171;refine(HPU.out _ hYX).mono ?_;rintro e Z ⟨rfl,hZ,hRZ⟩;have hsZ:=HSS.out _ _ ((hYX.mono (fun _ _ h=>h.elim)).trans hZ) hF1 hF2))
        have hn3:=set_get (σ:=σ) f v a {sk with q:=setAt sk.q (k:Int).toNat r}
        obtain⟨o3,hS4,hE4⟩:=SysF.stepRings (SysF.calm' HS3.out hYX) hg hn3 hZ hRZ
        rw[set_set]at hS4
        have HS4:=Lib.hid hS4
        have HE4:=Lib.hid ((HE3.out.trans (Ext.keeps o2 hYX)).trans hE4)
        clear hS4 hE4 hZ hRZ hYX hsW hsZ hsd hd HT HPU HSS hn3
        go_wp2_with fail
        have hsame:feedTo g v s (k+1)={sk with q:=setAt sk.q (k:Int).toNat r,free:=sk.free - 1,Q:=pushQ sk.Q sk.free ⟨0,towardI g.t v d,(k:Int)⟩ ⟨x1,d,x3,x4⟩}:=HFO.out.trans (by unfold feedOne;rw[hpn,if_neg (by have:=HRM.out;omega),HQK.out];rfl)
        exact⟨⟨k+1,o3,by omega,rfl,by rw[hsame];exact HS4.out,HE4.out⟩,by simp[intOf];omega⟩
  ·obtain rfl:k=L:=by omega
   have hkk:¬((k:Int) < (k:Int)):=by omega
   have HS:=Lib.hid hS
   have HE:=Lib.hid hE
   clear hS hE
   go_wp2_with fail
   go_end0
   exact⟨rfl,o1,HS.out,HE.out⟩
end
end Go.Proofs.YtebnflpanfmicaaGreatDoor
namespace Go.Proofs.YtebnflpanfmicaaGreatDoor
open Go.RowKit Go.Sort
theorem quietF {W:World} {f:FuncId} {args:Array Value} {v:Value} (d:Nat) (os:Array Obj) (c:∀A,Keeps (fun _=>False) W A→Calls Tryz.prog f args A fun e w'=>e= .returned v∧Keeps (fun _=>False) A w'):
  Calls Tryz.prog f args (grow (redrawn W d) os) fun e w'=>e= .returned v∧∃p:Regrown,w'=grow (redrawn W p.d) p.os:=by
 have h:Keeps (fun _=>False) W (grow (redrawn W d) os):=Keeps.of_below (below_regrown W d os)
 exact(c _ h).mono fun _ _ ⟨h1,h2⟩=>⟨h1,regrown_of_below ((h.trans h2).below (Nat.le_refl _) (fun _ _ h=>h))⟩
theorem Byt.part {w:World} {g off n cap:Nat} {l:List Int} (h:Byt w (.slice (some ⟨g,off,none⟩) n cap) l) (i j c:Nat) (hij:i≤j) (hj:j≤l.length) (hc:j - i≤c) (hm:c≤maxLen):
  Byt w (.slice (some ⟨g,off+i,none⟩) (j - i) c) ((l.take j).drop i):=by
 obtain⟨A,c',e,h1,h2,h3⟩:=h
 have hlen:((l.take j).drop i).length=j - i:=by simp;omega
 refine⟨some ⟨g,off+i,none⟩,c,by rw[hlen],by rw[hlen];exact hc,hm,fun h0=>⟨g,off+i,rfl,fun k x hx=> ?_⟩⟩
 obtain⟨g',off',hA,h4⟩:=h3 (by omega)
 injection e with e1 e2 e3
 rw[hA]at e1
 injection e1 with e1
 injection e1 with e4 e5
 subst e4;subst e5
 have:=h4 (i+k) x (by
  rw[List.getElem?_drop]at hx
  rw[List.getElem?_take]at hx
  split at hx
  ·exact hx
  ·cases hx)
 rw[show off+i+k=off+(i+k) by omega]
 exact this
theorem Byt.at {w:World} {g off n cap:Nat} {l:List Int} (h:Byt w (.slice (some ⟨g,off,none⟩) n cap) l) (j:Nat) (x:Int) (hx:l[j]? =some x):w.cell? ⟨g,off+j,none⟩=some (.int .u8 x):=by
 obtain⟨A,c',e,h1,h2,h3⟩:=h
 obtain⟨g',off',hA,h4⟩:=h3 (Nat.lt_of_le_of_lt (Nat.zero_le _) (List.getElem?_eq_some_iff.1 hx).1)
 injection e with e1 e2 e3
 rw[hA]at e1
 injection e1 with e1
 injection e1 with e4 e5
 subst e4;subst e5
 exact h4 j x hx
theorem byt_two {w:World} {g o c:Nat} {x y:Int} (h0:w.cell? ⟨g,o,none⟩=some (.int .u8 x)) (h1:w.cell? ⟨g,o+1,none⟩=some (.int .u8 y)) (hc:2≤c) (hm:c≤maxLen):Byt w (.slice (some ⟨g,o,none⟩) 2 c) [x,y]:=
 ⟨_,c,rfl,hc,hm,fun _=>⟨g,o,rfl,fun j z hz=>by
   match j,hz with
   | 0,hz=>cases hz;exact h0
   | 1,hz=>cases hz;exact h1⟩⟩
def FBox (w:World) (b:Nat) (f:Frm):Prop:=w.heap[b]? =some (.cells f.cells 210 (0,0))
theorem FBox.all {w:World} {b:Nat} {f:Frm} (h:FBox w b f):w.cell? ⟨b,0,none⟩=some (.int .u8 f.kind)∧w.cell? ⟨b,1,none⟩=some (.int .u8 f.lane)∧w.cell? ⟨b,2,none⟩=some (.int .u16 f.seq)∧
  w.cell? ⟨b,3,none⟩=some (.int .u8 f.src)∧w.cell? ⟨b,4,none⟩=some (.int .u8 f.dst)∧w.cell? ⟨b,5,none⟩=some (.int .u32 f.body)∧
  w.frozen? ⟨b,0,none⟩=false∧w.frozen? ⟨b,1,none⟩=false∧w.frozen? ⟨b,2,none⟩=false∧w.frozen? ⟨b,3,none⟩=false∧w.frozen? ⟨b,4,none⟩=false∧w.frozen? ⟨b,5,none⟩=false:=by
 refine⟨?_, ?_, ?_, ?_, ?_, ?_,blk_frozen h 0,blk_frozen h 1,blk_frozen h 2,blk_frozen h 3,blk_frozen h 4,blk_frozen h 5⟩ <;>(rw[blk_cell h];rfl)
def set6 (w:World) (b:Nat) (f:Frm):World:=
 (((((w.setCell ⟨b,0,none⟩ (.int .u8 f.kind)).setCell ⟨b,1,none⟩ (.int .u8 f.lane)).setCell ⟨b,2,none⟩ (.int .u16 f.seq)).setCell ⟨b,3,none⟩ (.int .u8 f.src)).setCell ⟨b,4,none⟩ (.int .u8 f.dst)).setCell ⟨b,5,none⟩ (.int .u32 f.body)
theorem set6_box {w:World} {b:Nat} {f:Frm} (h:FBox w b f) (f':Frm):FBox (set6 w b f') b f':=by
 unfold FBox set6
 rw[blk_set (blk_set (blk_set (blk_set (blk_set (blk_set h _ _) _ _) _ _) _ _) _ _) _ _]
 rfl
theorem set6_keeps (w:World) (b:Nat) (f:Frm):Keeps (fun k=>k=b) w (set6 w b f):=
 (((((Keeps.setCell (fun k=>k=b) _ _ _ rfl).trans (Keeps.setCell (fun k=>k=b) _ _ _ rfl)).trans (Keeps.setCell (fun k=>k=b) _ _ _ rfl)).trans (Keeps.setCell (fun k=>k=b) _ _ _ rfl)).trans (Keeps.setCell (fun k=>k=b) _ _ _ rfl)).trans (Keeps.setCell (fun k=>k=b) _ _ _ rfl)
def decV (f:Frm):Frm:=if soundF f then f else Frm.zero
def decE (f:Frm):Int:=if soundF f then 0 else 30
abbrev decBad:Ending:= .returned (.tuple #[Frm.zero.val, .int .u16 30])
set_option maxHeartbeats 1000000 in
theorem dec_len (v:Value) (l:List Int) (w:World) (h:Byt w v l) (h6:l.length≠6) (h12:l.length≠12):
  Calls Tryz.prog 118 #[v] w fun e w'=>e=decBad∧Keeps (fun _=>False) w w':=by
 obtain⟨A,cap,rfl,h1,h2,h3⟩:=h
 have hmx:cap≤9223372036854775807:=by unfold maxLen at h2;omega
 have e6:((l.length:Int) == 6)=false:=beq_eq_false_iff_ne.2 (by omega)
 have e12:((l.length:Int) == 12)=false:=beq_eq_false_iff_ne.2 (by omega)
 have n6:((l.length:Int) != 6)=true:=by rw[bne_iff_ne];omega
 have n12:((l.length:Int) != 12)=true:=by rw[bne_iff_ne];omega
 generalize l.length=n at*
 clear h3
 go_enter Tryz.func118,Tryz.ntmps118
 go_wp2_with fail
 exact bodyPost_ret (v:= .tuple #[Frm.zero.val, .int .u16 30]) (by simp[results,Tryz.results118,go_sem]) rfl ⟨rfl,(Keeps.alloc _ _ _).trans (Keeps.alloc _ _ _)⟩
set_option maxHeartbeats 4000000 in
theorem dec_six (g off cap:Nat) (b0 b1 b2 b3 b4 b5:Int) (w:World) (h:Byt w (.slice (some ⟨g,off,none⟩) 6 cap) [b0,b1,b2,b3,b4,b5]) (hcase:(sumC [b0,b1,b2,b3] % 4294967296 != readC [b4,b5])=true∨((sumC [b0,b1,b2,b3] % 4294967296 != readC [b4,b5])=false∧(b0 == 1)=true)):
  Calls Tryz.prog 118 #[.slice (some ⟨g,off,none⟩) 6 cap] w fun e w'=>e=decBad∧Keeps (fun _=>False) w w':=by
 have hcap:6≤cap∧cap≤9223372036854775807:=by
  obtain⟨A,c',e,h1,h2,h3⟩:=h
  injection e with e1 e2 e3
  subst e3
  simp at h1
  unfold maxLen at h2
  omega
 obtain⟨hc6,hcm⟩:=hcap
 have hc6':(6:Int)≤(cap:Int):=by omega
 have p4:=h.part 0 4 4 (by decide) (by simp) (by decide) (by decide)
 have p2:=h.part 4 6 (cap - 4) (by decide) (by simp) (by omega) (by unfold maxLen;omega)
 rw[show [b0,b1,b2,b3,b4,b5].take 4=[b0,b1,b2,b3]from rfl]at p4
 have CS:=Lib.hid (p:=∀W,Keeps (fun _=>False) w W→∀d os,_) fun W hk d os=>quietF (W:=W) d os (fun A hA=>sum_runs _ _ A (p4.keeps (hk.trans hA) (fun _ _ h=>h)))
 have CR:=Lib.hid (p:=∀W,Keeps (fun _=>False) w W→∀d os,_) fun W hk d os=>quietF (W:=W) d os (fun A hA=>(read_runs _ _ A (p2.keeps (hk.trans hA) (fun _ _ h=>h))).mono (fun e w' h=>⟨h.1,h.2▸Keeps.refl _ _⟩))
 obtain⟨o,ho⟩:∃o:Obj,o= .cells Frm.zero.cells 210:=⟨_,rfl⟩
 have hk2:Keeps (fun _=>False) w ((w.alloc o).alloc o):=(Keeps.alloc _ _ _).trans (Keeps.alloc _ _ _)
 subst ho
 go_enter Tryz.func118,Tryz.ntmps118
 go_wp2_with fail
 refine wp_region_quiet_below (by kernel_rfl) (by kernel_rfl) ?_
 repeat (go_big_quiet_step ((first | (go_at_call 166;exact CS.out _ hk2 _ _) | (go_at_call 167;exact CR.out _ hk2 _ _))))
 refine wpQuiet_nil ?_
 intro w' hw'
 obtain⟨⟨nq,osq⟩,hw''⟩:=hw'
 have hkV:Keeps (fun _=>False) w (grow (redrawn ((w.alloc (.cells Frm.zero.cells 210)).alloc (.cells Frm.zero.cells 210)) nq) osq):=hk2.trans (Keeps.of_below (below_regrown _ nq osq))
 have hz1:=blk_keeps (Keeps.of_below (F:=fun _=>False) (below_regrown ((w.alloc (.cells Frm.zero.cells 210)).alloc (.cells Frm.zero.cells 210)) nq osq)) (blk_alloc (blk_new w (.cells Frm.zero.cells 210)) (.cells Frm.zero.cells 210)) (fun h=>h)
 have hz2:=blk_keeps (Keeps.of_below (F:=fun _=>False) (below_regrown ((w.alloc (.cells Frm.zero.cells 210)).alloc (.cells Frm.zero.cells 210)) nq osq)) (blk_new (w.alloc (.cells Frm.zero.cells 210)) (.cells Frm.zero.cells 210)) (fun h=>h)
 rw[World.size_alloc]at hz2
 subst hw''
 clear CS CR hk2
 generalize grow (redrawn ((w.alloc (.cells Frm.zero.cells 210)).alloc (.cells Frm.zero.cells 210)) nq) osq=V at*
 obtain⟨x0,x1,x2,x3,x4,x5,fx0,fx1,fx2,fx3,fx4,fx5⟩:=FBox.all (f:=Frm.zero) hz1
 obtain⟨y0,y1,y2,y3,y4,y5,fy0,fy1,fy2,fy3,fy4,fy5⟩:=FBox.all (f:=Frm.zero) hz2
 have c0:=(h.keeps hkV (fun _ _ h=>h)).at 0 b0 rfl
 rw[Nat.add_zero]at c0
 rcases hcase with h0 | ⟨h0,h1⟩
 ·go_wp2_with fail
  have hzb':=set6_box (f:=Frm.zero) hz1 Frm.zero
  have hkZ':=hkV.then (set6_keeps V w.heap.size Frm.zero) (fun i hi h=>by omega)
  obtain⟨z0,z1,z2,z3,z4,z5,_⟩:=hzb'.all
  unfold set6 at z0 z1 z2 z3 z4 z5 hkZ'
  clear hzb' hz1 hz2
  clear x0 x1 x2 x3 x4 x5 fx0 fx1 fx2 fx3 fx4 fx5 y0 y1 y2 y3 y4 y5 fy0 fy1 fy2 fy3 fy4 fy5
  exact bodyPost_ret (v:= .tuple #[Frm.zero.val, .int .u16 30]) (by simp[results,Tryz.results118,go_sem,z0,z1,z2,z3,z4,z5]) rfl ⟨rfl,hkZ'⟩
 ·go_wp2_with fail
  have hzb':=set6_box (f:=Frm.zero) hz1 Frm.zero
  have hkZ':=hkV.then (set6_keeps V w.heap.size Frm.zero) (fun i hi h=>by omega)
  obtain⟨z0,z1,z2,z3,z4,z5,_⟩:=hzb'.all
  unfold set6 at z0 z1 z2 z3 z4 z5 hkZ'
  clear hzb' hz1 hz2
  clear x0 x1 x2 x3 x4 x5 fx0 fx1 fx2 fx3 fx4 fx5 y0 y1 y2 y3 y4 y5 fy0 fy1 fy2 fy3 fy4 fy5
  exact bodyPost_ret (v:= .tuple #[Frm.zero.val, .int .u16 30]) (by simp[results,Tryz.results118,go_sem,z0,z1,z2,z3,z4,z5]) rfl ⟨rfl,hkZ'⟩
set_option maxRecDepth 100000 in
set_option maxHeartbeats 4000000 in
theorem dec_six_ok (g off cap:Nat) (b0 b1 b2 b3 b4 b5:Int) (w:World) (h:Byt w (.slice (some ⟨g,off,none⟩) 6 cap) [b0,b1,b2,b3,b4,b5]) (h0:(sumC [b0,b1,b2,b3] % 4294967296 != readC [b4,b5])=false) (h1:(b0 == 1)=false) (f:Frm) (hf:f=⟨b0,b1,IntKind.u16.wrap (readC [b2,b3]),0,0,0⟩):
  Calls Tryz.prog 118 #[.slice (some ⟨g,off,none⟩) 6 cap] w fun e w'=>e= .returned (.tuple #[(decV f).val, .int .u16 (decE f)])∧Keeps (fun _=>False) w w':=by
 have hcap:6≤cap∧cap≤9223372036854775807:=by
  obtain⟨A,c',e,h1,h2,h3⟩:=h
  injection e with e1 e2 e3
  subst e3
  simp at h1
  unfold maxLen at h2
  omega
 obtain⟨hc6,hcm⟩:=hcap
 have HFE:=Lib.hid hf
 clear hf
 have hc4':(4:Int)≤(cap:Int):=by omega
 have hcn2:¬cap=2:=by omega
 have hc6':(6:Int)≤(cap:Int):=by omega
 have p4:=h.part 0 4 4 (by decide) (by simp) (by decide) (by decide)
 have p2:=h.part 4 6 (cap - 4) (by decide) (by simp) (by omega) (by unfold maxLen;omega)
 rw[show [b0,b1,b2,b3,b4,b5].take 4=[b0,b1,b2,b3]from rfl]at p4
 have CS:=Lib.hid (p:=∀W,Keeps (fun _=>False) w W→∀d os,_) fun W hk d os=>quietF (W:=W) d os (fun A hA=>sum_runs _ _ A (p4.keeps (hk.trans hA) (fun _ _ h=>h)))
 have CR:=Lib.hid (p:=∀W,Keeps (fun _=>False) w W→∀d os,_) fun W hk d os=>quietF (W:=W) d os (fun A hA=>(read_runs _ _ A (p2.keeps (hk.trans hA) (fun _ _ h=>h))).mono (fun e w' h=>⟨h.1,h.2▸Keeps.refl _ _⟩))
 obtain⟨o,ho⟩:∃o:Obj,o= .cells Frm.zero.cells 210:=⟨_,rfl⟩
 have hk2:Keeps (fun _=>False) w ((w.alloc o).alloc o):=(Keeps.alloc _ _ _).trans (Keeps.alloc _ _ _)
 subst ho
 go_enter Tryz.func118,Tryz.ntmps118
 go_wp2_with fail
 refine wp_region_quiet_below (by kernel_rfl) (by kernel_rfl) ?_
 repeat (go_big_quiet_step ((first | (go_at_call 166;exact CS.out _ hk2 _ _) | (go_at_call 167;exact CR.out _ hk2 _ _))))
 refine wpQuiet_nil ?_
 intro w' hw'
 obtain⟨⟨nq,osq⟩,hw''⟩:=hw'
 have hkV:Keeps (fun _=>False) w (grow (redrawn ((w.alloc (.cells Frm.zero.cells 210)).alloc (.cells Frm.zero.cells 210)) nq) osq):=hk2.trans (Keeps.of_below (below_regrown _ nq osq))
 have hz1:=blk_keeps (Keeps.of_below (F:=fun _=>False) (below_regrown ((w.alloc (.cells Frm.zero.cells 210)).alloc (.cells Frm.zero.cells 210)) nq osq)) (blk_alloc (blk_new w (.cells Frm.zero.cells 210)) (.cells Frm.zero.cells 210)) (fun h=>h)
 have hz2:=blk_keeps (Keeps.of_below (F:=fun _=>False) (below_regrown ((w.alloc (.cells Frm.zero.cells 210)).alloc (.cells Frm.zero.cells 210)) nq osq)) (blk_new (w.alloc (.cells Frm.zero.cells 210)) (.cells Frm.zero.cells 210)) (fun h=>h)
 rw[World.size_alloc]at hz2
 subst hw''
 clear CS CR hk2
 generalize grow (redrawn ((w.alloc (.cells Frm.zero.cells 210)).alloc (.cells Frm.zero.cells 210)) nq) osq=V at*
 obtain⟨x0,x1,x2,x3,x4,x5,fx0,fx1,fx2,fx3,fx4,fx5⟩:=FBox.all (f:=Frm.zero) hz1
 obtain⟨y0,y1,y2,y3,y4,y5,fy0,fy1,fy2,fy3,fy4,fy5⟩:=FBox.all (f:=Frm.zero) hz2
 have c0:=(h.keeps hkV (fun _ _ h=>h)).at 0 b0 rfl
 rw[Nat.add_zero]at c0
 have hB:=(h.keeps hkV (fun _ _ h=>h))
 have c1:=hB.at 1 b1 rfl
 have c2:=hB.at 2 b2 rfl
 have c3:=hB.at 3 b3 rfl
 have hgw:g < w.heap.size:=World.block_lt_of_cell? w _ (h.at 0 b0 rfl)
 have hne:g≠w.heap.size+1:=by omega
 have hne':¬(w.heap.size+1=g):=by omega
 have CR:=Lib.hid (p:=∀W:World,(W.cell? ⟨g,off,none⟩=some (.int .u8 b0)∧W.cell? ⟨g,off+1,none⟩=some (.int .u8 b1)∧W.cell? ⟨g,off+2,none⟩=some (.int .u8 b2)∧W.cell? ⟨g,off+3,none⟩=some (.int .u8 b3))→_) fun W hW=>read_runs _ _ W (byt_two (c:=cap - 2) hW.2.2.1 hW.2.2.2 (by omega) (by unfold maxLen;omega))
 have hc2:4≤cap:=by omega
 have hz1':=Lib.hid hz1
 have hz2':=Lib.hid hz2
 clear hB h p4 p2 x0 x1 x2 x3 x4 x5 fx0 fx1 fx2 fx3 fx4 fx5 hz1
 have S8:=Lib.hid (p:=∀U,Keeps (fun k=>k=w.heap.size+1) V U→U.cell? ⟨g,off,none⟩=some (.int .u8 b0)∧U.cell? ⟨g,off+1,none⟩=some (.int .u8 b1)∧U.cell? ⟨g,off+2,none⟩=some (.int .u8 b2)∧U.cell? ⟨g,off+3,none⟩=some (.int .u8 b3)) fun U hU=>⟨hU.cell c0 hne,hU.cell c1 hne,hU.cell c2 hne,hU.cell c3 hne⟩
 have hd8:Keeps (fun k=>k=w.heap.size+1) V V.drew:=Keeps.drew _ _
 have K8:=Lib.hid (p:=Keeps (fun k=>k=w.heap.size+1) V (set6 V.drew (w.heap.size+1) ⟨b0,b1,IntKind.u16.wrap (readC [b2,b3]),0,0,0⟩)) (hd8.trans (set6_keeps _ _ _))
 dsimp only[set6]at K8
 go_wp2_with fail
 go_region_held3 (fun w'=>w'.cell? ⟨g,off,none⟩=some (.int .u8 b0)∧w'.cell? ⟨g,off+1,none⟩=some (.int .u8 b1)∧w'.cell? ⟨g,off+2,none⟩=some (.int .u8 b2)∧w'.cell? ⟨g,off+3,none⟩=some (.int .u8 b3)) (with_reducible first | exact S8.out _ hd8 | exact S8.out _ K8.out | go_keep) (first
  | (go_at_call 167;refine(CR.out _ (by assumption)).mono ?_;rintro e w' ⟨rfl,hw⟩;subst hw))
 have hzf:=set6_box hz2'.out ⟨b0,b1,IntKind.u16.wrap (readC [b2,b3]),0,0,0⟩
 have hkf:=set6_keeps V (w.heap.size+1) ⟨b0,b1,IntKind.u16.wrap (readC [b2,b3]),0,0,0⟩
 have hzr:=blk_keeps hkf hz1'.out (by omega)
 have hkX:=hkV.then hkf (fun i hi e=>by omega)
 obtain⟨X,hX⟩:∃X,set6 V (w.heap.size+1) ⟨b0,b1,IntKind.u16.wrap (readC [b2,b3]),0,0,0⟩=X:=⟨_,rfl⟩
 rw[hX]at hzf hkf hzr hkX
 dsimp only[set6]at hX
 rw[hX]
 clear hX hkf K8 S8 hd8 y0 y1 y2 y3 y4 y5 fy0 fy1 fy2 fy3 fy4 fy5 c0 c1 c2 c3 CR hkV hz1' hz2'
 rw[←HFE.out]at hzf
 obtain⟨k,l,q,s,d,bo⟩:=f
 have hzfd:FBox X.drew (w.heap.size+1) ⟨k,l,q,s,d,bo⟩:=hzf
 have hzrd:FBox X.drew w.heap.size Frm.zero:=hzr
 have hkd:=hkX.trans (Keeps.drew (fun _=>False) X)
 clear hzf hzr hkX
 generalize X.drew=Y at*
 have CS:=Lib.hid (p:=∀b,decide (soundF ⟨k,l,q,s,d,bo⟩)=b→Calls Tryz.prog 168 #[.agg #[.int .u8 k, .int .u8 l, .int .u16 q, .int .u8 s, .int .u8 d, .int .u32 bo]] Y fun e w'=>e= .returned (.bool b)∧Keeps (fun _=>False) Y w') fun b hb=>by
  have:=sound_runs ⟨k,l,q,s,d,bo⟩ Y
  rw[hb]at this
  exact this
 obtain⟨y0,y1,y2,y3,y4,y5,_⟩:=hzfd.all
 simp only at y0 y1 y2 y3 y4 y5
 have HF:=Lib.hid hzfd
 have HR:=Lib.hid hzrd
 have HK:=Lib.hid hkd
 clear hzfd hzrd hkd
 by_cases hs:soundF ⟨k,l,q,s,d,bo⟩
 ·have hb:=decide_eq_true hs
  go_wp2_with fail
  refine(CS.out true hb).mono ?_
  rintro e Z ⟨rfl,hZ⟩
  have hfz:FBox Z (w.heap.size+1) ⟨k,l,q,s,d,bo⟩:=blk_keeps hZ HF.out (fun h=>h)
  obtain⟨z0,z1,z2,z3,z4,z5,_⟩:=hfz.all
  simp only at z0 z1 z2 z3 z4 z5
  have hrz:FBox Z w.heap.size Frm.zero:=blk_keeps hZ HR.out (fun h=>h)
  obtain⟨r0,r1,r2,r3,r4,r5,g0,g1,g2,g3,g4,g5⟩:=hrz.all
  have HRZ:=Lib.hid hrz
  clear CS y0 y1 y2 y3 y4 y5 hrz
  go_wp2_with fail
  have hbx:=set6_box HRZ.out ⟨k,l,q,s,d,bo⟩
  have hkx:=set6_keeps Z w.heap.size ⟨k,l,q,s,d,bo⟩
  obtain⟨t0,t1,t2,t3,t4,t5,_⟩:=hbx.all
  dsimp only[set6]at t0 t1 t2 t3 t4 t5 hkx
  clear hbx
  exact bodyPost_ret (v:= .tuple #[Frm.val ⟨k,l,q,s,d,bo⟩, .int .u16 0]) (by simp[results,Tryz.results118,go_sem,t0,t1,t2,t3,t4,t5]) rfl ⟨by rw[decV,decE,if_pos hs,if_pos hs],(HK.out.trans hZ).then hkx (fun i hi e=>by omega)⟩
 ·have hb:=decide_eq_false hs
  go_wp2_with fail
  refine(CS.out false hb).mono ?_
  rintro e Z ⟨rfl,hZ⟩
  have hrz:FBox Z w.heap.size Frm.zero:=blk_keeps hZ HR.out (fun h=>h)
  obtain⟨r0,r1,r2,r3,r4,r5,g0,g1,g2,g3,g4,g5⟩:=hrz.all
  have HRZ:=Lib.hid hrz
  clear CS y0 y1 y2 y3 y4 y5 hrz
  go_wp2_with fail
  have hbx:=set6_box HRZ.out Frm.zero
  have hkx:=set6_keeps Z w.heap.size Frm.zero
  obtain⟨t0,t1,t2,t3,t4,t5,_⟩:=hbx.all
  dsimp only[set6]at t0 t1 t2 t3 t4 t5 hkx
  clear hbx
  exact bodyPost_ret (v:= .tuple #[Frm.zero.val, .int .u16 30]) (by simp[results,Tryz.results118,go_sem,t0,t1,t2,t3,t4,t5]) rfl ⟨by rw[decV,decE,if_neg hs,if_neg hs],(HK.out.trans hZ).then hkx (fun i hi e=>by omega)⟩
end Go.Proofs.YtebnflpanfmicaaGreatDoor
