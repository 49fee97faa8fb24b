/-
  Part 19 of the proof: TopToward, TopTow, TopInj, IslipRep, TopParts.
-/
import Derived.Test.YtebnflpanfmicaaGreatDoorPkAR
import Derived.Test.YtebnflpanfmicaaGreatDoorPkAD
import Derived.Test.YtebnflpanfmicaaGreatDoorPkAH
import Derived.Test.YtebnflpanfmicaaGreatDoorPkAK
import Derived.Laws.CopyOwn
import Derived.Test.YtebnflpanfmicaaGreatDoorPkAG
import Derived.Test.YtebnflpanfmicaaGreatDoorPkAM
set_option linter.unusedVariables false
set_option linter.unusedSimpArgs false
set_option linter.unusedSectionVars false
namespace Go.Proofs.YtebnflpanfmicaaGreatDoor
open Go.RowKit
def PortIs (f:Nat):Prop:=∀(W:World) (xb:Nat) (x y:Int) (lA:Option Addr) (ln lc:Nat) (p:Option Addr),W.cell? ⟨xb,0,none⟩=some (.int .i64 x)→Calls Tryz.prog f #[.agg #[.int .i64 y, .slice lA ln lc, .pointer p], .pointer (some ⟨xb,0,none⟩)] W fun e w'=>e= .returned (.bool (y == x))∧Keeps (fun _=>False) W w'
theorem isToward:PortIs 210:=fun W xb x y lA ln lc p hx=>by
 have hx2:(W.alloc (.cells #[.int .i64 y, .slice lA ln lc, .pointer p] 165)).cell? ⟨xb,0,none⟩=some (.int .i64 x):=(Keeps.alloc (fun _=>False) W _).cell hx (fun h=>h)
 go_enter Tryz.func210,Tryz.ntmps210
 go_wp2_with fail
 go_ret
 exact⟨rfl,Keeps.alloc _ _ _⟩
theorem isTake:PortIs 117:=fun W xb x y lA ln lc p hx=>by
 have hx2:(W.alloc (.cells #[.int .i64 y, .slice lA ln lc, .pointer p] 165)).cell? ⟨xb,0,none⟩=some (.int .i64 x):=(Keeps.alloc (fun _=>False) W _).cell hx (fun h=>h)
 go_enter Tryz.func117,Tryz.ntmps117
 go_wp2_with fail
 go_ret
 exact⟨rfl,Keeps.alloc _ _ _⟩
set_option maxHeartbeats 4000000 in
set_option maxRecDepth 100000 in
theorem indexT_runs (a:NodeA) (hlv:∀i,∃A n c,a.lv i= .slice A n c) (i0:Nat) (l:List Nat) (n:Nat) (hn:l.length=n) (pA:Option Addr) (pc:Nat) (xb x:Nat) (w:World) (h:QS w 165 3 (.slice pA n pc) n (portsFrom a i0 l)) (h6:n≤6) (hx:w.cell? ⟨xb,0,none⟩=some (.int .i64 (x:Int))):
  Calls Tryz.prog 116 #[.slice pA n pc, .func (.func 210) #[] #[.pointer (some ⟨xb,0,none⟩)]] w fun e w'=>e= .returned (.int .i64 (idxI l x))∧Keeps (fun _=>False) w w':=by
 obtain⟨z,hz⟩:∃z,idxI l x=z:=⟨_,rfl⟩
 rw[hz]
 have HZ:=Lib.hid hz
 have HF:=Lib.hid isToward
 have HLV:=Lib.hid hlv
 clear hz hlv
 go_enter Tryz.func116,Tryz.ntmps116
 go_wp2_with fail
 go_loopw [8] (fun s wr=>∃i:Nat,i≤n∧s= .int .i64 (i:Int)∧x ∉ l.take i∧Keeps (fun _=>False) w wr) (fun s _=>n - (intOf s).toNat)
 case atStart=>exact⟨0,Nat.zero_le _,rfl,by simp,Keeps.refl _ _⟩
 case round=>
  obtain⟨i,hi,rfl,hno,hk⟩:=hrel
  by_cases hil:i < n
  ·have hii:(i:Int) < (n:Int):=by omega
   have hi0:(0:Int)≤(i:Int):=by omega
   obtain⟨g,off,c',e',_,hcell,_⟩:=(h.keeps hk (fun _ _ h=>h)).cell (by omega)
   cases e'
   have hll:i < l.length:=by omega
   obtain⟨c1,c2,c3⟩:=portsFrom_at a l i0 i _ (List.getElem?_eq_getElem hll)
   have y1:=hcell _ _ c1
   have y2:=hcell _ _ c2
   have y3:=hcell _ _ c3
   rw[←Nat.add_assoc]at y2 y3
   obtain⟨lA,ln,lc,hl2⟩:=HLV.out (i0+i)
   rw[hl2]at y2
   have hst:l.take (i+1)=l.take i ++ [l[i]]:=List.take_succ_eq_append_getElem hll
   have hidx:l[i]=x→idxI l x=(i:Int):=fun e=>by
    unfold idxI
    rw[if_pos (by rw[←e];exact List.getElem_mem _)]
    have h2:l=l.take i ++ x :: l.drop (i+1):=by rw[←e,←List.drop_eq_getElem_cons hll,List.take_append_drop]
    have h3:l.idxOf x=i:=by
     rw[h2,List.idxOf_append,if_neg hno,List.idxOf_cons_self,List.length_take];omega
    rw[h3]
   have HST:=Lib.hid hst
   have HID:=Lib.hid hidx
   have HNO:=Lib.hid hno
   have hxw:=hk.cell hx (fun h=>h)
   have HC:=Lib.hid (HF.out wr xb (x:Int) ((l[i]:Nat):Int) lA ln lc (some ⟨a.wb (i0+i),0,none⟩) hxw)
   have HK:=Lib.hid hk
   clear hcell c1 c2 c3 hst hidx hno hxw hk hl2
   generalize l[i]=y at*
   go_wp2_with fail
   refine HC.out.mono ?_
   rintro e' U ⟨rfl,hU⟩
   have HU:=Lib.hid (HK.out.trans hU)
   clear hU HC y1 y2 y3
   by_cases hxy:y=x
   ·have hb:((y:Int) == (x:Int))=true:=by rw[beq_iff_eq];omega
    have HE:=Lib.hid (HZ.out.symm.trans (HID.out hxy))
    clear hxy
    go_wp2_with fail
    go_ret
    exact⟨by rw[HE.out];rfl,HU.out⟩
   ·have hb:((y:Int) == (x:Int))=false:=by rw[beq_eq_false_iff_ne];omega
    have HXY:=Lib.hid hxy
    clear hxy
    go_wp2_with fail
    go_roundw
    case rel=>exact⟨i+1,by omega,by go_num,by rw[HST.out,List.mem_append,List.mem_singleton];exact fun h=>h.elim HNO.out (fun h=>HXY.out h.symm),HU.out⟩
    case measure=>simp[intOf];omega
  ·obtain rfl:i=n:=by omega
   have hii:¬(i:Int) < (i:Int):=by omega
   have e:idxI l x= -1:=if_neg (by rwa[←hn,List.take_length]at hno)
   have HE:=Lib.hid (HZ.out.symm.trans e)
   have HK:=Lib.hid hk
   clear hno e hk
   go_wp2_with fail
   go_ret
   exact⟨by rw[HE.out];rfl,HK.out⟩
set_option maxHeartbeats 4000000 in
set_option maxRecDepth 100000 in
theorem indexK_runs (a:NodeA) (hlv:∀i,∃A n c,a.lv i= .slice A n c) (i0:Nat) (l:List Nat) (n:Nat) (hn:l.length=n) (pA:Option Addr) (pc:Nat) (xb x:Nat) (w:World) (h:QS w 165 3 (.slice pA n pc) n (portsFrom a i0 l)) (h6:n≤6) (hx:w.cell? ⟨xb,0,none⟩=some (.int .i64 (x:Int))):
  Calls Tryz.prog 116 #[.slice pA n pc, .func (.func 117) #[] #[.pointer (some ⟨xb,0,none⟩)]] w fun e w'=>e= .returned (.int .i64 (idxI l x))∧Keeps (fun _=>False) w w':=by
 obtain⟨z,hz⟩:∃z,idxI l x=z:=⟨_,rfl⟩
 rw[hz]
 have HZ:=Lib.hid hz
 have HF:=Lib.hid isTake
 have HLV:=Lib.hid hlv
 clear hz hlv
 go_enter Tryz.func116,Tryz.ntmps116
 go_wp2_with fail
 go_loopw [8] (fun s wr=>∃i:Nat,i≤n∧s= .int .i64 (i:Int)∧x ∉ l.take i∧Keeps (fun _=>False) w wr) (fun s _=>n - (intOf s).toNat)
 case atStart=>exact⟨0,Nat.zero_le _,rfl,by simp,Keeps.refl _ _⟩
 case round=>
  obtain⟨i,hi,rfl,hno,hk⟩:=hrel
  by_cases hil:i < n
  ·have hii:(i:Int) < (n:Int):=by omega
   have hi0:(0:Int)≤(i:Int):=by omega
   obtain⟨g,off,c',e',_,hcell,_⟩:=(h.keeps hk (fun _ _ h=>h)).cell (by omega)
   cases e'
   have hll:i < l.length:=by omega
   obtain⟨c1,c2,c3⟩:=portsFrom_at a l i0 i _ (List.getElem?_eq_getElem hll)
   have y1:=hcell _ _ c1
   have y2:=hcell _ _ c2
   have y3:=hcell _ _ c3
   rw[←Nat.add_assoc]at y2 y3
   obtain⟨lA,ln,lc,hl2⟩:=HLV.out (i0+i)
   rw[hl2]at y2
   have hst:l.take (i+1)=l.take i ++ [l[i]]:=List.take_succ_eq_append_getElem hll
   have hidx:l[i]=x→idxI l x=(i:Int):=fun e=>by
    unfold idxI
    rw[if_pos (by rw[←e];exact List.getElem_mem _)]
    have h2:l=l.take i ++ x :: l.drop (i+1):=by rw[←e,←List.drop_eq_getElem_cons hll,List.take_append_drop]
    have h3:l.idxOf x=i:=by
     rw[h2,List.idxOf_append,if_neg hno,List.idxOf_cons_self,List.length_take];omega
    rw[h3]
   have HST:=Lib.hid hst
   have HID:=Lib.hid hidx
   have HNO:=Lib.hid hno
   have hxw:=hk.cell hx (fun h=>h)
   have HC:=Lib.hid (HF.out wr xb (x:Int) ((l[i]:Nat):Int) lA ln lc (some ⟨a.wb (i0+i),0,none⟩) hxw)
   have HK:=Lib.hid hk
   clear hcell c1 c2 c3 hst hidx hno hxw hk hl2
   generalize l[i]=y at*
   go_wp2_with fail
   refine HC.out.mono ?_
   rintro e' U ⟨rfl,hU⟩
   have HU:=Lib.hid (HK.out.trans hU)
   clear hU HC y1 y2 y3
   by_cases hxy:y=x
   ·have hb:((y:Int) == (x:Int))=true:=by rw[beq_iff_eq];omega
    have HE:=Lib.hid (HZ.out.symm.trans (HID.out hxy))
    clear hxy
    go_wp2_with fail
    go_ret
    exact⟨by rw[HE.out];rfl,HU.out⟩
   ·have hb:((y:Int) == (x:Int))=false:=by rw[beq_eq_false_iff_ne];omega
    have HXY:=Lib.hid hxy
    clear hxy
    go_wp2_with fail
    go_roundw
    case rel=>exact⟨i+1,by omega,by go_num,by rw[HST.out,List.mem_append,List.mem_singleton];exact fun h=>h.elim HNO.out (fun h=>HXY.out h.symm),HU.out⟩
    case measure=>simp[intOf];omega
  ·obtain rfl:i=n:=by omega
   have hii:¬(i:Int) < (i:Int):=by omega
   have e:idxI l x= -1:=if_neg (by rwa[←hn,List.take_length]at hno)
   have HE:=Lib.hid (HZ.out.symm.trans e)
   have HK:=Lib.hid hk
   clear hno e hk
   go_wp2_with fail
   go_ret
   exact⟨by rw[HE.out];rfl,HK.out⟩
end Go.Proofs.YtebnflpanfmicaaGreatDoor
namespace Go.Proofs.YtebnflpanfmicaaGreatDoor
open Go.RowKit
def towardI (t:List Nat) (v d:Nat):Int:=if d=v then 0 else idxI (nb t v) (nxt t v d)+1
section
variable {w:World} {S SP:Nat→Prop} {g:Geo} {v:Nat} {a:NodeA} {ticks:Int}
set_option maxRecDepth 100000 in
set_option maxHeartbeats 8000000 in
theorem toward_runs (h:NodeR w S g v a ticks) (hp:PlanS w SP g.p g.t g.ws g.e g.wt g.nx) (hlv:∀i,∃A n c,a.lv i= .slice A n c) (hv:v≤g.t.length) (d:Nat) (hd:d≤g.t.length):
  Calls Tryz.prog 172 #[.pointer (some ⟨a.nb,0,none⟩), .int .i64 d] w fun e w'=>e= .returned (.int .i64 (towardI g.t v d))∧Keeps (fun _=>False) w w':=by
 have cme:w.cell? ⟨a.nb,12,none⟩=some (.int .i64 (v:Int)):=by rw[blk_cell h.box];rfl
 by_cases hdv:d=v
 ·subst hdv
  have hz:towardI g.t d d=0:=if_pos rfl
  rw[hz]
  have hb:((d:Int) == (d:Int))=true:=by simp
  clear h hp hlv hz
  go_enter Tryz.func172,Tryz.ntmps172
  go_wp2_with fail
  go_ret
  exact⟨rfl,Keeps.refl _ _⟩
 ·have hb:((d:Int) == (v:Int))=false:=by rw[beq_eq_false_iff_ne];omega
  obtain⟨z,hz⟩:∃z,towardI g.t v d=z:=⟨_,rfl⟩
  have hz2:idxI (nb g.t v) (nxt g.t v d)+1=z:=by rw[←hz];exact(if_neg hdv).symm
  rw[hz]
  obtain⟨h1,h2⟩:=idxI_le (nb g.t v) (nxt g.t v d)
  obtain⟨g1,o1,cn,g2,o2,cr,e1,c1,c2⟩:=hp.hop (Keeps.refl _ _) hv hd
  have cnx:w.cell? ⟨a.nb,11,none⟩=some g.nx:=by rw[blk_cell h.box];rfl
  rw[e1]at cnx
  have cpv:w.cell? ⟨a.nb,13,none⟩=some a.pv:=by rw[blk_cell h.box];rfl
  have hnb:=nb_rises hp.tree hp.t5 hv
  have ht1:=hp.t1
  have hn1:1≤(nb g.t v).length:=by rcases hnb.2.2.2.2 with h | h <;>omega
  have hn5:=hnb.2.2.1
  have hpq:=h.pq
  have hgp:g.ports v=(nb g.t v).length+1:=rfl
  rw[hgp]at hpq
  obtain⟨gp,op,cp,e2,hcp,_,_⟩:=hpq.cell (by omega)
  rw[e2]at hpq cpv
  obtain⟨cq,rfl⟩:∃cq,cp=cq+1:=⟨cp - 1,by omega⟩
  have hcq:¬cq=0:=by omega
  have hdr:=hpq.drop 1 (by omega)
  have hpl:(portsFrom a 0 (tos g.t v)).drop (1*3)=portsFrom a 1 (nb g.t v):=rfl
  rw[hpl]at hdr
  have hIX:Hid (∀U xb,Keeps (fun _=>False) w U→U.cell? ⟨xb,0,none⟩=some (.int .i64 ((nxt g.t v d:Nat):Int))→_):=Lib.hid fun U xb hU hx=>indexT_runs a hlv 1 (nb g.t v) (nb g.t v).length rfl (some ⟨gp,op+1*3,none⟩) cq xb (nxt g.t v d) U (hdr.keeps hU (fun _ _ h=>h)) (by omega) hx
  have hvi:(v:Int) < (g.t.length:Int)+1:=by omega
  have hv0:(0:Int)≤(v:Int):=by omega
  have hdi:(d:Int) < (g.t.length:Int)+1:=by omega
  have hd0:(0:Int)≤(d:Int):=by omega
  have hif:(if cq=0 then(some ⟨gp,op,none⟩:Option Addr)else some ⟨gp,op+3,none⟩)=some ⟨gp,op+1*3,none⟩:=if_neg hcq
  have HZ:=Lib.hid hz2
  have HDV:=Lib.hid hdv
  clear h hp hlv hz hz2 e1 e2 hnb hpq hdr hpl hdv hgp
  generalize idxI (nb g.t v) (nxt g.t v d)=ix at*
  generalize nxt g.t v d=y at*
  generalize (nb g.t v).length=m at*
  go_enter Tryz.func172,Tryz.ntmps172
  go_wp2_with fail
  have HS:=Lib.hid (p:=∀U,Keeps (fun _=>False) w U→U.cell? ⟨a.nb,12,none⟩=some (.int .i64 (v:Int))∧U.cell? ⟨a.nb,11,none⟩=some (.slice (some ⟨g1,o1,none⟩) (g.t.length+1) cn)∧U.cell? ⟨g1,o1+v,none⟩=some (.slice (some ⟨g2,o2,none⟩) (g.t.length+1) cr)∧U.cell? ⟨g2,o2+d,none⟩=some (encI y)) fun U hU=>⟨hU.cell cme (fun h=>h),hU.cell cnx (fun h=>h),hU.cell c1 (fun h=>h),hU.cell c2 (fun h=>h)⟩
  have HPV:=Lib.hid (p:=∀U,Keeps (fun _=>False) w U→U.cell? ⟨a.nb,13,none⟩=some (.slice (some ⟨gp,op,none⟩) (m+1) (cq+1))) fun U hU=>hU.cell cpv (fun h=>h)
  have hkd:Keeps (fun _=>False) w w.drew:=Keeps.drew _ _
  have hka:∀o,Keeps (fun _=>False) w (w.drew.alloc o):=fun o=>hkd.trans (Keeps.alloc _ _ _)
  have hkb:∀x,Keeps (fun _=>False) w ((w.drew.alloc (.cells #[.int .i64 0] 3)).setCell ⟨w.heap.size,0,none⟩ x):=fun x=>(hka _).then (Keeps.setCell (fun k=>k=w.heap.size) _ ⟨w.heap.size,0,none⟩ x rfl) (fun i hi h=>by omega)
  go_region_held3 (fun U=>U.cell? ⟨a.nb,12,none⟩=some (.int .i64 (v:Int))∧U.cell? ⟨a.nb,11,none⟩=some (.slice (some ⟨g1,o1,none⟩) (g.t.length+1) cn)∧U.cell? ⟨g1,o1+v,none⟩=some (.slice (some ⟨g2,o2,none⟩) (g.t.length+1) cr)∧U.cell? ⟨g2,o2+d,none⟩=some (encI y))
   (with_reducible first | exact HS.out _ hkd | exact HS.out _ (hka _) | exact HS.out _ (hkb _) | go_keep)
   (first | (trace_state;fail))
  have hkY:Keeps (fun _=>False) w (w.alloc (.cells #[.int .i64 (y:Int)] 3)).drew:=(Keeps.alloc _ _ _).trans (Keeps.drew _ _)
  have hxY:(w.alloc (.cells #[.int .i64 (y:Int)] 3)).drew.cell? ⟨w.heap.size,0,none⟩=some (.int .i64 (y:Int)):=by
   have:=blk_cell (blk_new w (.cells #[.int .i64 (y:Int)] 3)) 0
   exact this
  have hC:=hIX.out _ w.heap.size hkY hxY
  have hpY:=HPV.out _ hkY
  generalize (w.alloc (.cells #[.int .i64 (y:Int)] 3)).drew=Y at*
  have HC:=Lib.hid hC
  have HKY:=Lib.hid hkY
  have hb1:¬((m:Int)+1) < 1:=by omega
  have hb2:(1:Int)≤(m:Int)+1:=by omega
  have hb3:(1:Int)≤((m+1:Nat):Int):=by omega
  have hb4:((m+1:Nat):Int)≤((cq+1:Nat):Int):=by omega
  have hw:IntKind.i64.wrap (ix+1)=ix+1:=by simp[IntKind.wrap,IntKind.bits,IntKind.signed];omega
  clear hC hkY hxY hIX hkd hka hkb HS HPV cme cnx cpv c1 c2
  go_wp2_with fail
  refine HC.out.mono ?_
  rintro e U ⟨rfl,hU⟩
  have HU:=Lib.hid (HKY.out.trans hU)
  clear hU HC HKY
  go_wp2_with fail
  go_ret
  exact⟨by rw[←HZ.out];rfl,HU.out⟩
end
end Go.Proofs.YtebnflpanfmicaaGreatDoor
namespace Go.Proofs.YtebnflpanfmicaaGreatDoor
open Go.RowKit
def injOk (t:List Nat) (v:Nat) (x:Pkt):Prop:=x.src=(v:Int)∧0≤x.dst∧x.dst < (t.length:Int)+1∧x.dst≠(v:Int)
section
variable {w:World} {S SH:Nat→Prop} {g:Geo} {v:Nat} {a:NodeA} {ticks:Int} {q:Nat→List Pkt}
set_option maxRecDepth 100000 in
set_option maxHeartbeats 8000000 in
theorem inject_arg (h:NodeR w S g v a ticks) (x:Pkt) (hno:¬injOk g.t v x):
  Calls Tryz.prog 36 #[.pointer (some ⟨a.nb,0,none⟩), .agg #[.int .i64 x.src, .int .i64 x.dst, .int .i64 x.lane, .int .u32 x.body]] w fun e w'=>e= .returned (.int .u16 1)∧Keeps (fun _=>False) w w':=by
 obtain⟨x1,x2,x3,x4⟩:=x
 unfold injOk at hno
 simp only at hno
 have cme:w.cell? ⟨a.nb,12,none⟩=some (.int .i64 (v:Int)):=by rw[blk_cell h.box];rfl
 have cn:w.cell? ⟨a.nb,1,none⟩=some (.int .i64 ((g.t.length:Int)+1)):=by rw[blk_cell h.box];rfl
 have hk0:Keeps (fun _=>False) w (w.alloc (.cells #[.int .i64 x1, .int .i64 x2, .int .i64 x3, .int .u32 x4] 31)):=Keeps.alloc _ _ _
 have hb:=blk_new w (.cells #[.int .i64 x1, .int .i64 x2, .int .i64 x3, .int .u32 x4] 31)
 have d0:=hk0.cell cme (fun h=>h)
 have d1:=hk0.cell cn (fun h=>h)
 have z0:=blk_cell hb 0
 have z1:=blk_cell hb 1
 simp only[List.getElem?_toArray,List.getElem?_cons_zero,List.getElem?_cons_succ]at z0 z1
 have HNO:=Lib.hid hno
 have HK0:=Lib.hid hk0
 clear h hno cme cn hb hk0
 go_enter Tryz.func36,Tryz.ntmps36
 go_wp2_with fail
 generalize w.alloc (.cells #[.int .i64 x1, .int .i64 x2, .int .i64 x3, .int .u32 x4] 31)=X at*
 by_cases c1:x1=(v:Int)
 ·have b1:(x1 == (v:Int))=true:=by rw[beq_iff_eq];exact c1
  have b1':(x1 != (v:Int))=false:=by rw[bne,b1];rfl
  by_cases c2:x2 < 0
  ·clear c1
   go_quiet (fail)
   go_wp2_with fail
   go_ret
   exact⟨rfl,HK0.out.trans (Keeps.drewN _ _ _)⟩
  ·by_cases c3:(g.t.length:Int)+1≤x2
   ·clear c1
    go_quiet (fail)
    go_wp2_with fail
    go_ret
    exact⟨rfl,HK0.out.trans (Keeps.drewN _ _ _)⟩
   ·have c4:x2=(v:Int):=by
     by_cases c4:x2=(v:Int)
     ·exact c4
     ·exact absurd ⟨c1,by omega,by omega,c4⟩ HNO.out
    have b4:(x2 == (v:Int))=true:=by rw[beq_iff_eq];exact c4
    clear c1 c4
    go_quiet (fail)
    go_wp2_with fail
    go_ret
    exact⟨rfl,HK0.out.trans (Keeps.drewN _ _ _)⟩
 ·have b1:(x1 == (v:Int))=false:=by rw[beq_eq_false_iff_ne];exact c1
  have b1':(x1 != (v:Int))=true:=by rw[bne,b1];rfl
  clear c1
  go_quiet (fail)
  go_wp2_with fail
  go_ret
  exact⟨rfl,HK0.out.trans (Keeps.drewN _ _ _)⟩
set_option maxRecDepth 100000 in
set_option maxHeartbeats 8000000 in
theorem inject_pass (h:NodeR w S g v a ticks) (x:Pkt) (hok:injOk g.t v x) (c:Int) (F:Nat→Prop) (hF1:¬F a.nb) (hF2:∀k,F k→k < w.heap.size) (R:World→World→Prop)
  (hput:∀U,Keeps (fun _=>False) w U→Calls Tryz.prog 71 #[.pointer (some ⟨a.hb,0,none⟩), .agg #[.int .i64 x.src, .int .i64 x.dst, .int .i64 x.lane, .int .u32 x.body]] U fun e w'=>e= .returned (.int .u16 c)∧Keeps F U w'∧R U w'):
  Calls Tryz.prog 36 #[.pointer (some ⟨a.nb,0,none⟩), .agg #[.int .i64 x.src, .int .i64 x.dst, .int .i64 x.lane, .int .u32 x.body]] w fun e w'=>e= .returned (.int .u16 c)∧∃U,Keeps (fun _=>False) w U∧R U w':=by
 obtain⟨x1,x2,x3,x4⟩:=x
 obtain⟨c1,c2,c3,c4⟩:=hok
 simp only at c1 c2 c3 c4 hput
 have cme:w.cell? ⟨a.nb,12,none⟩=some (.int .i64 (v:Int)):=by rw[blk_cell h.box];rfl
 have cn:w.cell? ⟨a.nb,1,none⟩=some (.int .i64 ((g.t.length:Int)+1)):=by rw[blk_cell h.box];rfl
 have ch:w.cell? ⟨a.nb,14,none⟩=some (.pointer (some ⟨a.hb,0,none⟩)):=by rw[blk_cell h.box];rfl
 have hk0:Keeps (fun _=>False) w (w.alloc (.cells #[.int .i64 x1, .int .i64 x2, .int .i64 x3, .int .u32 x4] 31)):=Keeps.alloc _ _ _
 have hb:PktAt (w.alloc (.cells #[.int .i64 x1, .int .i64 x2, .int .i64 x3, .int .u32 x4] 31)) w.heap.size ⟨x1,x2,x3,x4⟩:=blk_new w _
 have d0:=hk0.cell cme (fun h=>h)
 have d1:=hk0.cell cn (fun h=>h)
 have d2:=hk0.cell ch (fun h=>h)
 have HP:=Lib.hid hput
 have b1:(x1 == (v:Int))=true:=by rw[beq_iff_eq];exact c1
 have b1':(x1 != (v:Int))=false:=by rw[bne,b1];rfl
 have b2:¬x2 < 0:=by omega
 have b3:¬(g.t.length:Int)+1≤x2:=by omega
 have b4:(x2 == (v:Int))=false:=by rw[beq_eq_false_iff_ne];exact c4
 clear h cme cn ch c1 c4 hput
 go_enter Tryz.func36,Tryz.ntmps36
 go_wp2_with fail
 generalize w.alloc (.cells #[.int .i64 x1, .int .i64 x2, .int .i64 x3, .int .u32 x4] 31)=X at*
 obtain⟨xb,hxb⟩:∃xb,w.heap.size=xb:=⟨_,rfl⟩
 have hF3:¬F xb:=fun h=>by have:=hF2 xb h;omega
 rw[hxb]at hb ⊢
 clear hxb
 obtain⟨z0,z1,z2,z3⟩:=hb.cells
 simp only at z0 z1 z2 z3
 clear hb
 go_quiet (fail)
 rename_i nq
 have hkq:Keeps (fun _=>False) X (X.drewN nq):=Keeps.drewN _ _ _
 have e2:=hkq.cell d2 (fun h=>h)
 have y0:=hkq.cell z0 (fun h=>h)
 have y1:=hkq.cell z1 (fun h=>h)
 have y2:=hkq.cell z2 (fun h=>h)
 have y3:=hkq.cell z3 (fun h=>h)
 have hkV:=hk0.trans hkq
 clear hk0 hkq d0 d1 d2 z0 z1 z2 z3
 generalize X.drewN nq=V at*
 have hd:Keeps (fun _=>False) V V.drew:=Keeps.drew _ _
 have HS:=Lib.hid (p:=∀U,Keeps (fun _=>False) V U→U.cell? ⟨a.nb,14,none⟩=some (.pointer (some ⟨a.hb,0,none⟩))∧U.cell? ⟨xb,0,none⟩=some (.int .i64 x1)∧U.cell? ⟨xb,1,none⟩=some (.int .i64 x2)∧U.cell? ⟨xb,2,none⟩=some (.int .i64 x3)∧U.cell? ⟨xb,3,none⟩=some (.int .u32 x4)) fun U hU=>⟨hU.cell e2 (fun h=>h),hU.cell y0 (fun h=>h),hU.cell y1 (fun h=>h),hU.cell y2 (fun h=>h),hU.cell y3 (fun h=>h)⟩
 have HSF:=Lib.hid (p:=∀U,Keeps F V.drew U→U.cell? ⟨a.nb,14,none⟩=some (.pointer (some ⟨a.hb,0,none⟩))∧U.cell? ⟨xb,0,none⟩=some (.int .i64 x1)∧U.cell? ⟨xb,1,none⟩=some (.int .i64 x2)∧U.cell? ⟨xb,2,none⟩=some (.int .i64 x3)∧U.cell? ⟨xb,3,none⟩=some (.int .u32 x4)) fun U hU=>by
  obtain⟨s1,s2,s3,s4,s5⟩:=HS.out _ hd
  exact⟨hU.cell s1 hF1,hU.cell s2 hF3,hU.cell s3 hF3,hU.cell s4 hF3,hU.cell s5 hF3⟩
 have HC:=Lib.hid (HP.out _ (hkV.trans hd))
 have HKD:=Lib.hid (hkV.trans hd)
 clear hkV HP
 go_wp2_with fail
 go_region_held3 (fun U=>U.cell? ⟨a.nb,14,none⟩=some (.pointer (some ⟨a.hb,0,none⟩))∧U.cell? ⟨xb,0,none⟩=some (.int .i64 x1)∧U.cell? ⟨xb,1,none⟩=some (.int .i64 x2)∧U.cell? ⟨xb,2,none⟩=some (.int .i64 x3)∧U.cell? ⟨xb,3,none⟩=some (.int .u32 x4))
  (with_reducible first | exact HS.out _ hd | exact hSW | go_keep)
  (first | (go_at_call 71;refine HC.out.mono ?_;rintro e W ⟨rfl,hkW,hRW⟩;have hSW:=HSF.out W hkW))
 have HR:=Lib.hid hRW
 clear hRW hkW hSW HC HS HSF hd e2 y0 y1 y2 y3
 go_wp2_with fail
 go_ret
 exact⟨rfl,_,HKD.out,HR.out⟩
end
end Go.Proofs.YtebnflpanfmicaaGreatDoor
namespace Go.Proofs.YtebnflpanfmicaaGreatDoor
open Go.RowKit
theorem and_u64:∀k:Nat,k≤16→bits .and .u64 (k:Int) 4294967295=(k:Int):=by decide+kernel
theorem mul64_calls (n:Nat) (h:n≤16) (w:World):
  Calls Tryz.prog 240 #[.int .u64 1, .int .u64 n] w fun e w'=>e= .returned (.tuple #[.int .u64 0, .int .u64 n])∧w'=w:=by
 have h1:bits .and .u64 1 4294967295=1:=and_u64 1 (by decide)
 have h2:=and_u64 n h
 have h3:(n:Int) / 4294967296=0:=by omega
 have h4:(n:Int) / 2^32=0:=by omega
 have h0:bits .and .u64 0 4294967295=0:=and_u64 0 (by decide)
 go_enter Tryz.func240,Tryz.ntmps240
 go_wp2_with fail
 go_ret2
 simp_all
theorem mul_calls (n:Nat) (h:n≤16) (w:World):
  Calls Tryz.prog 211 #[.int .u64 1, .int .u64 n] w fun e w'=>e= .returned (.tuple #[.int .u64 0, .int .u64 n])∧w'=w:=by
 go_enter Tryz.func211,Tryz.ntmps211
 go_wp2_with fail
 refine(mul64_calls n h _).mono ?_
 rintro e w' ⟨rfl,rfl⟩
 go_wp2_with fail
 go_ret2
 exact⟨rfl,rfl⟩
theorem wrap_nat (x:Nat) (h:x≤1000):IntKind.i64.wrap (x:Int)=(x:Int):=by simp[IntKind.wrap,IntKind.bits,IntKind.signed];omega
def rp (n j:Nat):List Value:=List.replicate j (.int .i64 (-1)) ++ List.replicate (n - j) (.int .i64 0)
theorem rp_length {n j:Nat} (h:j≤n):(rp n j).length=n:=by simp[rp];omega
theorem rp_splice {n j c:Nat} (h:j+c≤n):splice (rp n j) j (List.replicate c (.int .i64 (-1)))=rp n (j+c):=by
 unfold splice rp
 rw[List.take_append_of_le_length (by simp),List.take_of_length_le (by simp),List.length_replicate,←List.append_assoc,List.replicate_append_replicate,List.drop_append,List.drop_of_length_le (by simp),List.nil_append,List.drop_replicate,List.length_replicate]
 congr 2
 omega
theorem rp_at {n j i:Nat} (h:i < j):(rp n j)[i]? =some (.int .i64 (-1)):=by
 unfold rp
 rw[List.getElem?_append_left (by simpa using h)]
 simp[h]
theorem made_rp (n:Nat):madeCells #[.int .i64 0] n=(rp n 0).toArray:=by
 apply Array.ext
 ·simp[madeCells,rp]
 ·intro i h1 h2
  simp[madeCells,Nat.mod_one,rp]
theorem rp_all (n:Nat):rp n n=List.replicate n (.int .i64 (-1)):=by simp[rp]
set_option maxRecDepth 100000 in
set_option maxHeartbeats 2000000 in
theorem repeat_calls (k n:Nat) (h1:1≤n) (h2:n≤16) (w:World) (hk:w.cell? ⟨k,0,none⟩=some (.int .i64 (-1))):
  Calls Tryz.prog 176 #[.slice (some ⟨k,0,none⟩) 1 1, .int .i64 n] w fun e w'=>∃m,e= .returned (.slice (some ⟨m,0,none⟩) n n)∧w'.heap[m]? =some (.cells (rp n n).toArray 3 (0,0))∧Keeps (fun _=>False) w w'∧w.heap.size≤m:=by
 have hms:=fun w=>run_make_row' (P:=Tryz.prog) 35 3 (.int .i64 0) 8 Tryz.underlying35 info_int rfl .i64 .i64 n (by omega) (by omega) w
 have hn0:¬(n:Int) < 0:=by omega
 have hnb:¬(9223372036854775807:Int) < (n:Int):=by omega
 have hw:IntKind.u64.wrap (n:Int)=(n:Int):=by simp[IntKind.wrap,IntKind.bits,IntKind.signed];omega
 have hw2:IntKind.i64.wrap (n:Int)=(n:Int):=by simp[IntKind.wrap,IntKind.bits,IntKind.signed];omega
 have hkl:=World.block_lt_of_cell? _ _ hk
 go_enter Tryz.func176,Tryz.ntmps176
 go_wp2_with fail
 refine(mul_calls n h2 _).mono ?_
 rintro e w2 ⟨rfl,hw2'⟩
 subst w2
 have hcp:=run_copy_row Tryz.prog (w.alloc (.cells (madeCells #[.int .i64 0] n) 3)) 35 35 3 3 w.heap.size 0 n n ⟨k,0,none⟩ 1 1 (rp n 0).toArray 3 (List.replicate 1 (.int .i64 (-1)))
  Tryz.underlying35 rfl (by rw[made_rp];exact blk_new _ _) (by show 1=min 1 n;omega)
  (fun j v hj=>by
   obtain⟨h,hv⟩:=List.getElem?_eq_some_iff.1 hj
   rw[List.length_replicate]at h
   obtain rfl:j=0:=by omega
   subst hv
   exact(Keeps.alloc (fun _=>False) w _).cell hk (fun h=>h)) (by simp[rp_length];omega) (by simp[Value.oneCell'])
 rw[show((rp n 0).toArray.toList.take 0 ++ List.replicate 1 (Value.int .i64 (-1)) ++ (rp n 0).toArray.toList.drop (0+(List.replicate 1 (Value.int .i64 (-1))).length))=rp n 1 from rp_splice (n:=n) (j:=0) (c:=1) h1]at hcp
 have hM:((w.alloc (.cells (madeCells #[.int .i64 0] n) 3)).setRow w.heap.size (rp n 1).toArray).heap[w.heap.size]? =some (.cells (rp n 1).toArray 3 (0,0)):=setRow_heap _ _ _ _ _ _ (blk_new _ _)
 have hK:Keeps (fun _=>False) w ((w.alloc (.cells (madeCells #[.int .i64 0] n) 3)).setRow w.heap.size (rp n 1).toArray):=by
  refine(Keeps.alloc (fun _=>False) w _).then (G:=fun i=>i=w.heap.size) ⟨rfl,rfl,rfl,by simp[World.setRow],fun i hi hne=>setRow_other _ _ _ _ hne⟩ (fun i hi h=>by omega)
 go_wp2_with fail
 clear hcp hms hw hw2 hk
 generalize (w.alloc (.cells (madeCells #[.int .i64 0] n) 3)).setRow w.heap.size (rp n 1).toArray=W0 at hM hK ⊢
 go_loopw [8] (fun s wr=>∃j:Nat,1≤j∧j≤n∧s= .int .i64 (j:Int)∧Keeps (fun _=>False) w wr∧wr.heap[w.heap.size]? =some (.cells (rp n j).toArray 3 (0,0))) (fun s _=>n - (intOf s).toNat)
 case atStart=>exact⟨1,Nat.le_refl _,h1,rfl,hK,hM⟩
 case round=>
  obtain⟨j,hj1,hjn,rfl,hk,hm⟩:=hrel
  clear hK hM
  by_cases hlt:j < n
  ·have hlt':(j:Int) < (n:Int):=by omega
   have hle':(j:Int)≤(n:Int):=by omega
   have hj0:(0:Int)≤(j:Int):=by omega
   obtain⟨c,hc,hc0,hcn⟩:∃c:Nat,min j (n - j)=c∧0 < c∧j+c≤n:=⟨_,rfl,by omega,by omega⟩
   have hcp:=run_copy_row Tryz.prog wr.drew 35 35 3 3 w.heap.size j (n - j) (n - j) ⟨w.heap.size,0,none⟩ j n (rp n j).toArray 3 (List.replicate c (.int .i64 (-1)))
    Tryz.underlying35 rfl hm (by rw[List.length_replicate];exact hc.symm)
    (fun i v hi=>by
     obtain⟨h,hv⟩:=List.getElem?_eq_some_iff.1 hi
     rw[List.length_replicate]at h
     rw[List.getElem_replicate]at hv
     subst hv
     have hb:wr.drew.heap[w.heap.size]? =some (.cells (rp n j).toArray 3 (0,0)):=hm
     rw[Addr.add_lit,blk_cell hb,Nat.zero_add]
     simp only[List.getElem?_toArray]
     exact rp_at (by omega)) (by simp[rp_length hjn];omega) (by simp[Value.oneCell'])
   rw[show((rp n j).toArray.toList.take j ++ List.replicate c (Value.int .i64 (-1)) ++ (rp n j).toArray.toList.drop (j+(List.replicate c (Value.int .i64 (-1))).length))=rp n (j+c) by rw[←rp_splice hcn,splice,List.append_assoc]]at hcp
   simp only[List.length_replicate]at hcp
   have hwr:IntKind.i64.wrap ((j:Int)+(c:Int))=(j:Int)+(c:Int):=wrap_nat (j+c) (by omega)
   have hM2:(wr.drew.setRow w.heap.size (rp n (j+c)).toArray).heap[w.heap.size]? =some (.cells (rp n (j+c)).toArray 3 (0,0)):=setRow_heap _ _ _ _ _ _ hm
   have hK2:Keeps (fun _=>False) w (wr.drew.setRow w.heap.size (rp n (j+c)).toArray):=by
    refine hk.then (G:=fun i=>i=w.heap.size) ⟨rfl,rfl,rfl,by rw[World.setRow,Array.size_modify];exact Nat.le_refl _,fun i hi hne=>setRow_other _ _ _ _ hne⟩ (fun i hi h=>by omega)
   go_wp2_with fail
   go_region
   all_goals (go_wp2_with fail;go_roundw)
   all_goals first | exact⟨j+c,by omega,hcn,rfl,hK2,hM2⟩ | (simp[intOf];omega)
  ·obtain rfl:j=n:=by omega
   have hlt':¬(j:Int) < (j:Int):=by omega
   go_wp2_with fail
   go_ret
   exact⟨_,rfl,hm,hk,Nat.le_refl _⟩
end Go.Proofs.YtebnflpanfmicaaGreatDoor
namespace Go.Proofs.YtebnflpanfmicaaGreatDoor
open Go.RowKit
inductive Cmp where
 | node (f v:Nat)
 | host (f v:Nat)
 | rings (f v:Nat)
 | arb (f v:Nat)
 | wheel (f v i:Nat)
 | snd (f v i k:Nat)
 | rcv (f v i k:Nat)
 | link (f h:Nat)
 | plan (f:Nat)
 | fab (f:Nat)
deriving DecidableEq
structure NodeS where
 q:Nat→List Pkt
 free:Nat
 Q:Way→List Pkt
 sent:Nat→Nat→Int
 limit:Nat→Nat→Int
 next:Nat→Nat→Int
 held:Nat→Nat→Int
 left:Nat→List Nat
 from_:Nat→Nat
 G:Nat→Nat
 A:Nat→Nat
 ticks:Int
theorem HostV.lt' {w:World} {S:Nat→Prop} {T E b:Nat} {lanes queue:Int} {q:Nat→List Pkt} (h:HostV w S T E b lanes queue q):∀k,S k→k < w.heap.size:=by
 obtain⟨v,_,hr⟩:=h
 exact hr.lt
theorem HostV.wider {w:World} {S S':Nat→Prop} {T E b:Nat} {lanes queue:Int} {q:Nat→List Pkt} (h:HostV w S T E b lanes queue q) (hS:∀k,S k→S' k) (hlt:∀k,S' k→k < w.heap.size):HostV w S' T E b lanes queue q:=by
 obtain⟨v,hb,hr⟩:=h
 exact⟨v,hb,hr.rows,hS _ hr.self,hr.off,hr.apart,fun i hi k hk=>hS _ (hr.own i hi k hk),hlt⟩
def nodePart (g:Geo) (v:Nat) (a:NodeA) (ticks:Int):Part:=⟨fun w S=>NodeR w S g v a ticks,fun h hk hF=>h.keeps hk hF,fun h=>h.lt⟩
def hostPart (b:Nat) (lanes queue:Int) (q:Nat→List Pkt):Part:=⟨fun w S=>HostV w S 200 31 b lanes queue q,fun h hk hF=>h.keeps hk hF,fun h=>h.lt'⟩
def ringsPart (b:Nat) (ports lanes:Int) (free:Nat) (Q:Way→List Pkt):Part:=⟨fun w S=>RingsV w S b ports lanes free Q,fun h hk hF=>h.keeps hk hF,fun h=>h.lt⟩
def wheelPart (b:Nat) (W L:List Nat) (fr:Nat):Part:=⟨fun w S=>WheelV w S b W L fr,fun h hk hF=>h.keeps hk hF,fun h=>h.lt⟩
def linkPart (b:Nat) (room:Int) (rows:List (List Int)):Part:=⟨fun w S=>LinkV w S b room rows,fun h hk hF=>h.keeps hk hF,fun h=>h.lt⟩
def planPart (g:Geo):Part:=⟨fun w S=>PlanS w S g.p g.t g.ws g.e g.wt g.nx,fun h hk hF=>h.keeps hk hF,fun h=>h.lt⟩
def arbPart (b n:Nat) (G A:List Nat) (ga aa:Nat):Part:=
 ⟨fun w S=>Arb w b n G A ga aa∧S b∧S ga∧S aa∧∀k,S k→k < w.heap.size,
  fun h hk hF=>⟨h.1.keeps hk (fun k hk'=>by rcases hk' with rfl | rfl | rfl <;>exact hF _ (by first | exact h.2.1 | exact h.2.2.1 | exact h.2.2.2.1)),h.2.1,h.2.2.1,h.2.2.2.1,fun k hk'=>Nat.lt_of_lt_of_le (h.2.2.2.2 k hk') hk.size⟩,
  fun h=>h.2.2.2.2⟩
def sndPart (b:Nat) (sent limit:Int):Part:=
 ⟨fun w S=>SendAt w b sent limit∧S b∧∀k,S k→k < w.heap.size,fun h hk hF=>⟨h.1.keeps hk (hF _ h.2.1),h.2.1,fun k hk'=>Nat.lt_of_lt_of_le (h.2.2 k hk') hk.size⟩,fun h=>h.2.2⟩
def rcvPart (b:Nat) (next held room:Int):Part:=
 ⟨fun w S=>RecvAt w b next held room∧S b∧∀k,S k→k < w.heap.size,fun h hk hF=>⟨h.1.keeps hk (hF _ h.2.1),h.2.1,fun k hk'=>Nat.lt_of_lt_of_le (h.2.2 k hk') hk.size⟩,fun h=>h.2.2⟩
structure Sig where
 geo:Nat→Option Geo
 node:Nat→Nat→Option (NodeA×NodeS)
 link:Nat→Nat→Option (Nat×List (List Int))
 fab:Nat→Part
def Sig.part (σ:Sig):Cmp→Part
 | .plan f=>match σ.geo f with
   | some g=>planPart g
   | none=>Part.none
 | .fab f=>σ.fab f
 | .link f h=>match σ.geo f,σ.link f h with
   | some g,some (b,rows)=>linkPart b g.p.bag rows
   | _,_=>Part.none
 | .node f v=>match σ.geo f,σ.node f v with
   | some g,some (a,s)=>nodePart g v a s.ticks
   | _,_=>Part.none
 | .host f v=>match σ.geo f,σ.node f v with
   | some g,some (a,s)=>hostPart a.hb g.p.lanes g.p.queue s.q
   | _,_=>Part.none
 | .rings f v=>match σ.geo f,σ.node f v with
   | some g,some (a,s)=>ringsPart a.rb (g.ports v:Int) g.p.lanes s.free s.Q
   | _,_=>Part.none
 | .arb f v=>match σ.geo f,σ.node f v with
   | some g,some (a,s)=>arbPart a.ab (g.ports v) (lst (g.ports v) s.G) (lst (g.ports v) s.A) a.ga a.aa
   | _,_=>Part.none
 | .wheel f v i=>match σ.geo f,σ.node f v with
   | some g,some (a,s)=>if i < g.ports v then wheelPart (a.wb i) g.ws (s.left i) (s.from_ i)else Part.none
   | _,_=>Part.none
 | .snd f v i k=>match σ.geo f,σ.node f v with
   | some g,some (a,s)=>if 1≤i∧i < g.ports v∧k < g.ws.length then sndPart (a.sb i k) (s.sent i k) (s.limit i k)else Part.none
   | _,_=>Part.none
 | .rcv f v i k=>match σ.geo f,σ.node f v with
   | some g,some (a,s)=>if 1≤i∧i < g.ports v∧k < g.ws.length then rcvPart (a.cb i k) (s.next i k) (s.held i k) g.p.room else Part.none
   | _,_=>Part.none
def Sig.set (σ:Sig) (f v:Nat) (a:NodeA) (s:NodeS):Sig:={σ with node:=fun f' v'=>if f'=f∧v'=v then some (a,s)else σ.node f' v'}
abbrev SysF (σ:Sig) (w:World) (o:Nat→Option Cmp):Prop:=Sys σ.part w o
end Go.Proofs.YtebnflpanfmicaaGreatDoor
