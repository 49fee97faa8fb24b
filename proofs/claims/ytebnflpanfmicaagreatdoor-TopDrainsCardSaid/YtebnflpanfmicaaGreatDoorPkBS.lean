/-
  Part 45 of the proof: TopDrainsW.
-/
import Derived.Test.YtebnflpanfmicaaGreatDoorPkBR
import Derived.Lib.QuietBelow
import Derived.Deep.RegionHeld3
set_option linter.unusedVariables false
set_option linter.unusedSimpArgs false
set_option linter.unusedSectionVars false
namespace Go.Proofs.YtebnflpanfmicaaGreatDoor
open Go.RowKit Go.Sort
theorem One.cells {U w:World} {P:PlayA} {s:PlayS} (h:One U w P s):w.cell? ⟨P.b,0,none⟩=some (.int .i64 ((P.g.t.length:Int)+1))∧w.cell? ⟨P.b,6,none⟩=some (.int .i64 P.g.p.every)∧w.cell? ⟨P.b,11,none⟩=some (.pointer (some ⟨P.fa.fb,0,none⟩))∧w.cell? ⟨P.b,13,none⟩=some (.int .i64 s.over)∧∃A c,w.cell? ⟨P.b,12,none⟩=some (.slice A s.sent.length c):=by
 obtain⟨S,sv,hr⟩:=h.row
 have:=fun j=>blk_cell hr.box j
 obtain⟨A,c,e,_⟩:=hr.row.shape
 refine⟨by rw[this];rfl,by rw[this];rfl,by rw[this];rfl,by rw[this];rfl,A,c, ?_⟩
 rw[this,←e];rfl
theorem wrap_big (n:Nat) (h:n≤1000000):IntKind.i64.wrap (n:Int)=(n:Int):=by
 simp[IntKind.wrap,IntKind.bits,IntKind.signed];omega
set_option maxRecDepth 100000 in
set_option maxHeartbeats 32000000 in
theorem topDrains_walk {W:World} (v0:Value) (a1 a2 a3:Int) (v4:Value) (w0:Arg Tryz.prog W 22 v0) (w1:(Lit.int .u8 a1).wf=true) (w2:(Lit.int .u8 a2).wf=true) (w3:(Lit.int .u16 a3).wf=true) (w4:Arg Tryz.prog W 24 v4) (hT:Tab W):
  Calls Tryz.prog 3 #[v0, .int .u8 a1, .int .u8 a2, .int .u16 a3,v4] W fun e w'=>e= .returned (.bool true)∧Below W.heap.size W w':=by
 obtain⟨zs,hz,hR⟩:=bytes_of_arg w0
 obtain⟨rm,rfl,hrm⟩:=u8_nat w1
 obtain⟨mr,rfl,hmr⟩:=u8_nat w2
 have hst:0≤a3∧a3 < 65536:=by
  rw[Lit.wf_int_iff,IntKind.min_u16,IntKind.max_u16]at w3;omega
 obtain⟨n,l,hL,hln,hlg⟩:=stps_in w4
 obtain⟨LA,lc,rfl,hl1,hl2⟩:∃A c,v4= .slice A n c∧n≤c∧c≤maxLen:=by obtain⟨_,A,c,e,q1,q2,_⟩:=hL;exact⟨A,c,e,q1,q2⟩
 have hmx:(n:Int)≤9223372036854775807:=by simp only[maxLen]at hl2;omega
 have hbd:∀s∈l,0≤s.x.body∧s.x.body < 4294967296:=fun s hs=>by
  have:=(hlg s hs).body
  rw[Lit.wf_int_iff,IntKind.min_u32,IntKind.max_u32]at this;omega
 have HBD:=Lib.hid hbd
 have HT:=Lib.hid hT
 have HARG:=Lib.hid (And.intro hz (And.intro hrm (And.intro hmr (And.intro hst hR))))
 have HL:=Lib.hid (And.intro hL (And.intro hln hlg))
 clear w0 w1 w2 w3 w4 hz hrm hmr hst hR hL hln hlg hl1 hl2 hT hbd
 have HKN:=Lib.hid (p:=∀U,Keeps (fun _=>False) W U→_) fun U hU=>tknown_runs U (HT.out.keeps hU (fun h=>h))
 go_enter Tryz.func3,Tryz.ntmps3
 by_cases h60:60 < n
 ·have h60':(60:Int) < (n:Int):=by omega
  go_wp2_with fail
  refine(HKN.out _ (Keeps.refl _ _)).mono ?_
  rintro e U ⟨rfl,hU⟩
  have HU:=Lib.hid hU
  clear hU
  go_wp2_with fail
  go_ret
  exact⟨rfl,keeps_below HU.out⟩
 ·have h60':¬(60:Int) < (n:Int):=by omega
  go_wp2_with fail
  refine(HKN.out _ (Keeps.refl _ _)).mono ?_
  rintro e U ⟨rfl,hU⟩
  have hkU:=hU
  obtain⟨z1,z2,z3,z4,z5⟩:=HARG.out
  have HPB:=Lib.hid (began_runs (f:=0) (pf:=2) (sys0 U) (free0 0) rfl (by decide) v0 zs z1 rm mr z2 z3 a3 z4 (z5.keepsF hkU hkU.size))
  have HKU:=Lib.hid hkU
  have HST:=Lib.hid z4
  clear hU hkU z1 z2 z3 z4 z5
  go_wp2_with fail
  refine HPB.out.mono ?_
  rintro e V ⟨P,⟨hp1,hp2,hp3⟩,rfl,σ1,o1,k1,k2,k3,k4⟩
  have hone:One U V P (stepsTo P.g l 0):=⟨σ1,o1,k1,k2,k3⟩
  have hdg:=hone.dg hp1 HST.out
  obtain⟨ht,ht1,ht5,hln,hnm⟩:=hone.plan
  have hl3:P.g.p.lanes≤3:=hnm.lanes.2
  have hws3:P.g.ws.length≤3:=by omega
  have hws1:1≤P.g.ws.length:=by have:=hnm.lanes.1;omega
  have hgw:∀x∈P.g.ws,1≤x∧x≤5:=by rw[hp3];exact makeW_goodS mr _
  have hnm2:Within (makeNumsS rm mr a3) 2:=make_withinS rm mr a3 2 (by omega)
  have h0:FabOk P.g (newF P.g) 0:=FabOk.new P.g hws3 hws1 hgw (by rw[hp1];have:=hnm2.queue;omega) (by rw[hp1];have:=hnm2.bag;omega)
  obtain⟨E,hE⟩:∃E:Nat,P.g.p.every=(E:Int):=⟨P.g.p.every.toNat,by have:=hdg.every;omega⟩
  have HOK:=Lib.hid (p:=∀i,i≤60→_) fun i hi=>stepsTo_ok hdg ht1 h0 hl3 l HBD.out i hi
  have HDRY:=Lib.hid (p:=∀i,i≤60→_) fun i hi=>dry_of hdg hE hl3 ht1 h0 l HBD.out i hi
  have HTU:=Lib.hid (HT.out.keeps HKU.out (fun h=>h))
  have HONE:=Lib.hid hone
  have HEV:=Lib.hid (And.intro hE (And.intro hdg.every ht5))
  clear hone hdg ht ht1 ht5 hln hnm hl3 hws3 hws1 hgw hnm2 h0 hE HPB k1 k2 k3 k4 hp1 hp2 hp3 HST
  have HSL:=Lib.hid (p:=∀wr i s,i < 60→l[i]? =some s→s.good→One U wr P (stepsTo P.g l i)→Calls Tryz.prog 8 #[.pointer (some ⟨P.b,0,none⟩), .agg #[.int .u8 s.kind, .int .i64 s.x.src, .int .i64 s.x.dst, .int .i64 s.x.lane, .int .u32 s.x.body, .bool s.wi, .int .i64 s.ln, .int .i64 s.row, .int .i64 s.pos, .int .u8 s.mask]] wr fun e w'=>e= .returned (.tuple #[])∧One U w' P (stepsTo P.g l (i+1))) fun wr i s hi hs hg hw=>by
   have hk:=hg.kind
   rw[Lit.wf_int_iff,IntKind.min_u8,IntKind.max_u8]at hk
   obtain⟨_,_,q3,q4,_⟩:=HOK.out i (by omega)
   have:=hw.step HTU.out q3 (by omega) (by omega) s hk
   have e:stepsTo P.g l (i+1)=stepF P.g (stepsTo P.g l i) s:=by rw[stepsTo,hs]
   rw[e];exact this
  go_wp2_with fail
  go_loopw [12] (fun c wr=>∃i:Nat,i≤n∧c= .int .i64 (i:Int)∧One U wr P (stepsTo P.g l i)) (fun c _=>n - (intOf c).toNat)
  case atStart=>exact⟨0,Nat.zero_le _,rfl,HONE.out⟩
  case round=>
   clear HONE
   obtain⟨i,hi,rfl,hW⟩:=hrel
   by_cases hin:i < n
   ·have hii:(i:Int) < (n:Int):=by omega
    have hi0:(0:Int)≤(i:Int):=by omega
    obtain⟨hRL,hll,hgd⟩:=HL.out
    obtain⟨s,hs⟩:∃s,l[i]? =some s:=⟨_,List.getElem?_eq_getElem (by omega)⟩
    have hsg:=hgd s (List.mem_of_getElem? hs)
    have hat:=stps_at l i s hs
    have hkW:=HKU.out.trans hW.keeps
    obtain⟨gp,op,cp,e1,_,_,hcc⟩:=(hRL.keepsF hkW hkW.size).at_ (by rw[flat_len (sz:=10) (fun _=>rfl)];omega)
    injection e1 with ea _ ec
    subst ea ec
    have y0:=hcc _ _ (by rw[hat 0 (by decide)];rfl)
    have y1:=hcc _ _ (by rw[hat 1 (by decide)];rfl)
    have y2:=hcc _ _ (by rw[hat 2 (by decide)];rfl)
    have y3:=hcc _ _ (by rw[hat 3 (by decide)];rfl)
    have y4:=hcc _ _ (by rw[hat 4 (by decide)];rfl)
    have y5:=hcc _ _ (by rw[hat 5 (by decide)];rfl)
    have y6:=hcc _ _ (by rw[hat 6 (by decide)];rfl)
    have y7:=hcc _ _ (by rw[hat 7 (by decide)];rfl)
    have y8:=hcc _ _ (by rw[hat 8 (by decide)];rfl)
    have y9:=hcc _ _ (by rw[hat 9 (by decide)];rfl)
    rw[←Nat.add_assoc]at y1 y2 y3 y4 y5 y6 y7 y8 y9
    simp only[Nat.add_zero]at y0
    have HS1:=Lib.hid (HSL.out wr i s (by omega) hs hsg hW)
    clear hRL hll hgd hs hsg hat hkW hcc hW
    go_wp2_with fail
    refine HS1.out.mono ?_
    rintro e Y ⟨rfl,hY⟩
    have HY:=Lib.hid hY
    clear y0 y1 y2 y3 y4 y5 y6 y7 y8 y9 hY HS1
    go_wp2_with fail
    go_roundw
    case rel=>exact⟨i+1,by omega,by go_num,HY.out⟩
    case measure=>simp[intOf];omega
   ·obtain rfl:i=n:=by omega
    have hii:¬((i:Int) < (i:Int)):=by omega
    have HW:=Lib.hid hW
    obtain⟨s,hs⟩:∃s,stepsTo P.g l i=s:=⟨_,rfl⟩
    obtain⟨hdry,hm60⟩:=HDRY.out i (by omega)
    rw[hs]at HW hdry hm60
    have HD:=Lib.hid hdry
    obtain⟨c0,c6,c11,c13,Sa,Sc,c12⟩:=HW.out.cells
    obtain⟨hE,hE8,ht5⟩:=HEV.out
    rw[hE]at c6 hE8
    have hw1:IntKind.i64.wrap ((P.g.t.length:Int)+1+1)=((P.g.t.length+1+1:Nat):Int):=by rw[←Int.natCast_one,←Int.natCast_add,←Int.natCast_add];exact wrap_nat _ (by omega)
    obtain⟨X,hX⟩:∃X,s.sent.length*(P.g.t.length+1+1)=X:=⟨_,rfl⟩
    have hX2:X≤60*7:=by rw[←hX];exact Nat.mul_le_mul hm60 (by omega)
    obtain⟨M,hM⟩:∃M,(X+2)*(2*E+2)=M:=⟨_,rfl⟩
    have hM2:M≤422*18:=by rw[←hM];exact Nat.mul_le_mul (by omega) (by omega)
    rw[hX,hM]at HD
    have hw2:IntKind.i64.wrap ((s.sent.length:Int)*((P.g.t.length+1+1:Nat):Int))=(X:Int):=by rw[←hX,←Int.natCast_mul];exact wrap_nat _ (by rw[hX];omega)
    have hw3:IntKind.i64.wrap ((X:Int)+2)=((X+2:Nat):Int):=wrap_nat (X+2) (by omega)
    have hw4:IntKind.i64.wrap (2*(E:Int))=((2*E:Nat):Int):=wrap_nat (2*E) (by omega)
    have hw5:IntKind.i64.wrap (((2*E:Nat):Int)+2)=((2*E+2:Nat):Int):=wrap_nat (2*E+2) (by omega)
    have hw6:IntKind.i64.wrap (((X+2:Nat):Int)*((2*E+2:Nat):Int))=(M:Int):=by rw[←Int.natCast_mul,hM];exact wrap_big _ (by omega)
    generalize (((P.g.t.length+1+1:Nat)):Int)=NN at*
    have HM2:=Lib.hid hM2
    have HX:=Lib.hid hM
    clear hW hs HSL HOK HDRY hX hM hX2 hE hE8 hdry hM2
    go_wp2_with fail
    go_quiet (fail)
    have hfin:wrap64 (((X:Int)+2)*wrap64 (2*(E:Int)+2))=(M:Int):=by
     have hE8:=HEV.out.2.1
     rw[HEV.out.1]at hE8
     have e1:wrap64 (2*(E:Int)+2)=((2*E+2:Nat):Int):=by unfold wrap64;omega
     have e2:(X:Int)+2=((X+2:Nat):Int):=by omega
     rw[e1,e2,←Int.natCast_mul,HX.out]
     have:=HM2.out
     unfold wrap64;omega
    rw[hfin]
    have hY:One U (wr.drewN nq) P (rndsTo P.g s 0):=HW.out.calm (Keeps.drewN _ _ _)
    generalize wr.drewN nq=Y at*
    have HY:=Lib.hid hY
    clear hfin hw1 hw2 hw3 hw4 hw5 hw6 c0 c6 c11 c12 c13 hY hm60 ht5
    go_wp2_with fail
    go_loopw [14] (fun c wr=>∃j:Nat,j≤M∧c= .int .i64 (j:Int)∧One U wr P (rndsTo P.g s j)∧∀q,q < j→0 < insideF P.g (rndsTo P.g s q).fs) (fun c _=>M - (intOf c).toNat)
    case atStart=>exact⟨0,Nat.zero_le _,rfl,HY.out,fun q hq=>absurd hq (Nat.not_lt_zero _)⟩
    case round=>
     clear HY
     obtain⟨j,hj,rfl,hW,hpos⟩:=hrel
     obtain⟨x,hx⟩:∃x,insideF P.g (rndsTo P.g s j).fs=x:=⟨_,rfl⟩
     have hxs:=HD.out.small j hj
     rw[hx]at hxs
     have hwx:wrap64 x=x:=by unfold wrap64;omega
     have HI:=Lib.hid (p:=∀V,Keeps (fun _=>False) wr V→Calls Tryz.prog 9 #[.pointer (some ⟨P.fa.fb,0,none⟩)] V fun e w'=>e= .returned (.int .i64 x)∧Keeps (fun _=>False) V w') fun V hV=>by
      have:=(hW.calm hV).ins (HD.out.ok j hj)
      rw[hx,hwx]at this
      exact this
     have HWW:=Lib.hid hW
     have HPOS:=Lib.hid hpos
     have HXX:=Lib.hid hx
     obtain⟨c0,c6,c11,c13,Sa,Sc,c12⟩:=hW.cells
     clear hW hpos hx hwx c0 c6 c13 c12
     by_cases hgo:j < M∧0 < x
     ·obtain⟨hjM,hx0⟩:=hgo
      have hjj:(j:Int) < (M:Int):=by omega
      have hHM:=HM2.out
      go_wp2_with fail
      refine(HI.out _ (Keeps.refl _ _)).mono ?_
      rintro e Z ⟨rfl,hZ⟩
      have HR:=Lib.hid ((HWW.out.calm hZ).round HTU.out (HD.out.ok j hj) (by omega))
      clear hZ c11 HI
      go_wp2_with fail
      refine HR.out.mono ?_
      rintro e Z2 ⟨rfl,hZ2⟩
      have HZ2:=Lib.hid hZ2
      clear hZ2 HR
      go_wp2_with fail
      go_roundw
      case rel=>exact⟨j+1,by omega,by go_num,HZ2.out,fun q hq=>by
       rcases Nat.lt_or_ge q j with h | h
       ·exact HPOS.out q h
       ·obtain rfl:q=j:=by omega
        rw[HXX.out];exact hx0⟩
      case measure=>simp[intOf];omega
     ·have hz:x=0:=by
       by_cases hjM:j < M
       ·have:¬0 < x:=fun h=>hgo ⟨hjM,h⟩
        omega
       ·obtain⟨n0,hn0,hz0⟩:=HD.out.none
        rcases Nat.lt_or_ge n0 j with h | h
        ·have:=HPOS.out n0 h;omega
        ·obtain rfl:n0=j:=by omega
         rw[←HXX.out];exact hz0
      subst hz
      clear hgo hxs
      have hend:∀V,Keeps (fun _=>False) wr V→One U V P (rndsTo P.g s j):=fun V hV=>HWW.out.calm hV
      have HEND:=Lib.hid hend
      clear hend
      by_cases hjM:j < M
      ·have hjj:(j:Int) < (M:Int):=by omega
       go_wp2_with fail
       refine(HI.out _ (Keeps.refl _ _)).mono ?_
       rintro e Z ⟨rfl,hZ⟩
       have HZ:=Lib.hid hZ
       clear hZ c11
       go_wp2_with fail
       have hO:=HEND.out _ HZ.out
       obtain⟨c0,c6,c11,c13,Sa,Sc,c12⟩:=hO.cells
       rw[(HD.out.sent j hj).2]at c13
       rw[(HD.out.sent j hj).1]at c12
       obtain⟨N,hN⟩:∃N,(gotF (rndsTo P.g s j).fs (P.g.t.length+1)).length=N:=⟨_,rfl⟩
       have hNm:=HD.out.got j hj
       rw[hN]at hNm
       have hHM:=HM2.out
       have HIZ:=Lib.hid (p:=∀V,Keeps (fun _=>False) Z V→Calls Tryz.prog 9 #[.pointer (some ⟨P.fa.fb,0,none⟩)] V fun e w'=>e= .returned (.int .i64 0)∧Keeps (fun _=>False) Z w') fun V hV=>(HI.out V (HZ.out.trans hV)).mono (fun e w' h=>⟨h.1,hV.trans h.2⟩)
       have HGZ:=Lib.hid (p:=∀V,Keeps (fun _=>False) Z V→Calls Tryz.prog 11 #[.pointer (some ⟨P.b,0,none⟩)] V fun e w'=>∃A cp,e= .returned (.slice A N cp)∧Keeps (fun _=>False) Z w') fun V hV=>((hO.calm hV).got (HD.out.ok j hj) (by omega) N hN).mono (by rintro e w' ⟨A,cp,rfl,_,hk,_⟩;exact⟨A,cp,rfl,hV.trans hk⟩)
       have HS:=Lib.hid (p:=∀V,Keeps (fun _=>False) Z V→V.cell? ⟨P.b,11,none⟩=some (.pointer (some ⟨P.fa.fb,0,none⟩))∧V.cell? ⟨P.b,12,none⟩=some (.slice Sa s.sent.length Sc)∧V.cell? ⟨P.b,13,none⟩=some (.int .i64 0)) fun V hV=>⟨hV.cell c11 (fun h=>h),hV.cell c12 (fun h=>h),hV.cell c13 (fun h=>h)⟩
       have HK:=Lib.hid (HKU.out.trans hO.keeps)
       have hd:Keeps (fun _=>False) Z Z.drew:=Keeps.drew _ _
       have hle:decide ((N:Int)≤(s.sent.length:Int))=true:=decide_eq_true (by omega)
       have hle2:(N:Int)≤(s.sent.length:Int):=by omega
       clear hO c0 c6 c11 c12 c13 hN HI HEND
       go_region_held3 (fun V=>V.cell? ⟨P.b,11,none⟩=some (.pointer (some ⟨P.fa.fb,0,none⟩))∧V.cell? ⟨P.b,12,none⟩=some (.slice Sa s.sent.length Sc)∧V.cell? ⟨P.b,13,none⟩=some (.int .i64 0))
        (with_reducible first | exact HS.out _ hd | exact HS.out _ hZ1 | exact HS.out _ hZ2)
        (first | (go_at_call 9;refine(HIZ.out _ hd).mono ?_;rintro e Z1 ⟨rfl,hZ1⟩) | (go_at_call 11;refine(HGZ.out _ hZ1).mono ?_;rintro e Z2 ⟨A1,cp1,rfl,hZ2⟩))
       have HKF:=Lib.hid (HK.out.trans hZ2)
       clear hZ1 hZ2 hd
       go_wp2_with fail
       go_ret
       exact⟨rfl,keeps_below HKF.out⟩
      ·have hjj:¬(j:Int) < (M:Int):=by omega
       clear c11
       go_wp2_with fail
       have HZ:=Lib.hid (Keeps.refl (fun _=>False) wr)
       have hO:=HEND.out _ HZ.out
       obtain⟨c0,c6,c11,c13,Sa,Sc,c12⟩:=hO.cells
       rw[(HD.out.sent j hj).2]at c13
       rw[(HD.out.sent j hj).1]at c12
       obtain⟨N,hN⟩:∃N,(gotF (rndsTo P.g s j).fs (P.g.t.length+1)).length=N:=⟨_,rfl⟩
       have hNm:=HD.out.got j hj
       rw[hN]at hNm
       have hHM:=HM2.out
       have HIZ:=Lib.hid (p:=∀V,Keeps (fun _=>False) wr V→Calls Tryz.prog 9 #[.pointer (some ⟨P.fa.fb,0,none⟩)] V fun e w'=>e= .returned (.int .i64 0)∧Keeps (fun _=>False) wr w') fun V hV=>(HI.out V (HZ.out.trans hV)).mono (fun e w' h=>⟨h.1,hV.trans h.2⟩)
       have HGZ:=Lib.hid (p:=∀V,Keeps (fun _=>False) wr V→Calls Tryz.prog 11 #[.pointer (some ⟨P.b,0,none⟩)] V fun e w'=>∃A cp,e= .returned (.slice A N cp)∧Keeps (fun _=>False) wr w') fun V hV=>((hO.calm hV).got (HD.out.ok j hj) (by omega) N hN).mono (by rintro e w' ⟨A,cp,rfl,_,hk,_⟩;exact⟨A,cp,rfl,hV.trans hk⟩)
       have HS:=Lib.hid (p:=∀V,Keeps (fun _=>False) wr V→V.cell? ⟨P.b,11,none⟩=some (.pointer (some ⟨P.fa.fb,0,none⟩))∧V.cell? ⟨P.b,12,none⟩=some (.slice Sa s.sent.length Sc)∧V.cell? ⟨P.b,13,none⟩=some (.int .i64 0)) fun V hV=>⟨hV.cell c11 (fun h=>h),hV.cell c12 (fun h=>h),hV.cell c13 (fun h=>h)⟩
       have HK:=Lib.hid (HKU.out.trans hO.keeps)
       have hd:Keeps (fun _=>False) wr wr.drew:=Keeps.drew _ _
       have hle:decide ((N:Int)≤(s.sent.length:Int))=true:=decide_eq_true (by omega)
       have hle2:(N:Int)≤(s.sent.length:Int):=by omega
       clear hO c0 c6 c11 c12 c13 hN HI HEND
       go_region_held3 (fun V=>V.cell? ⟨P.b,11,none⟩=some (.pointer (some ⟨P.fa.fb,0,none⟩))∧V.cell? ⟨P.b,12,none⟩=some (.slice Sa s.sent.length Sc)∧V.cell? ⟨P.b,13,none⟩=some (.int .i64 0))
        (with_reducible first | exact HS.out _ hd | exact HS.out _ hZ1 | exact HS.out _ hZ2)
        (first | (go_at_call 9;refine(HIZ.out _ hd).mono ?_;rintro e Z1 ⟨rfl,hZ1⟩) | (go_at_call 11;refine(HGZ.out _ hZ1).mono ?_;rintro e Z2 ⟨A1,cp1,rfl,hZ2⟩))
       have HKF:=Lib.hid (HK.out.trans hZ2)
       clear hZ1 hZ2 hd
       go_wp2_with fail
       go_ret
       exact⟨rfl,keeps_below HKF.out⟩
end Go.Proofs.YtebnflpanfmicaaGreatDoor
