/-
  Part 39 of the proof: TopKnown, TopTwo, TopDrA, TopDrB, TopDrC.
-/
import Derived.Test.YtebnflpanfmicaaGreatDoorPkBI
import Derived.Test.YtebnflpanfmicaaGreatDoorPkBL
import Derived.Test.YtebnflpanfmicaaGreatDoorPkBG
set_option linter.unusedVariables false
set_option linter.unusedSimpArgs false
set_option linter.unusedSectionVars false
namespace Go.Proofs.YtebnflpanfmicaaGreatDoor
open Go.RowKit
theorem FabOk.new (g:Geo) (h1:g.ws.length≤3) (h2:1≤g.ws.length) (hw:∀x∈g.ws,1≤x∧x≤5) (hq:0≤g.p.queue) (hb:0≤g.p.bag):FabOk g (newF g) 0:=by
 refine⟨fun v hv=>⟨fun i hi=>⟨h2,h1,rfl,h2,hw,fun x hx=>(hw x hx).2⟩,fun k hk=> ?_,fun k hk=> ?_,(fun k hk x hx=>by cases hx),fun k hk=> ?_,Nat.le_refl _⟩,fun h hh=> ?_,(fun h hh l hl=>by cases hl)⟩
 ·exact Nat.lt_of_le_of_lt (Nat.zero_le _) hk
 ·exact Nat.lt_of_le_of_lt (Nat.zero_le _) hk
 ·show((0:Nat):Int)≤_;omega
 ·show((0:Nat):Int)≤_;omega
def sig0:Sig:=⟨fun _=>none,fun _ _=>none,fun _ _=>none,fun _=>Part.none⟩
theorem sys0 (w:World):SysF sig0 w (fun _=>none):=by
 refine⟨fun c=> ?_,fun k c e=>by cases e⟩
 have:sig0.part c=Part.none:=by cases c <;>rfl
 rw[this]
 intro k e
 cases e
theorem free0 (f:Nat):FreeF sig0 f:=⟨rfl,fun _=>rfl,fun _=>rfl,rfl⟩
def g2 (e w n:Value):Geo:=⟨⟨1,2,1,1,1,64,0⟩,[0],[1],e,w,n⟩
abbrev g20:Geo:=g2 (.slice none 0 0) (.slice none 0 0) (.slice none 0 0)
def kn1 (g:Geo):FabS:=(injF g (newF g) ⟨0,1,0,7⟩).1
def kn2 (g:Geo):FabS:=roundF g (kn1 g)
def kn3 (g:Geo):FabS:=roundF g (kn2 g)
theorem kn_any (e w n:Value):kn3 (g2 e w n)=kn3 g20:=by kernel_rfl
theorem kn_ins (e w n:Value):insideF (g2 e w n) (kn3 g20)=insideF g20 (kn3 g20):=by kernel_rfl
theorem kn_got:((kn3 g20).nd 1 |>.q 3).length=1:=by decide+kernel
theorem kn_ins0:insideF g20 (kn3 g20)=0:=by decide+kernel
theorem kn_hops (e w n:Value):(hopsOf (g2 e w n).t).length*(g2 e w n).ws.length=2:=by
 show(hopsOf [0]).length*[1].length=2
 decide+kernel
theorem kn_make:makeNumsS 1 0 0=⟨1,2,1,1,1,64,0⟩∧makeW 0 (1+0 % 3)=[1]∧ofL [0]=[0]:=⟨rfl,by decide+kernel,by decide+kernel⟩
set_option maxRecDepth 100000 in
set_option maxHeartbeats 16000000 in
theorem tknown_runs (w:World) (hT:Tab w):Calls Tryz.prog 6 #[] w fun e w'=>e= .returned (.bool true)∧Keeps (fun _=>False) w w':=by
 have hkA:Keeps (fun _=>False) w (w.alloc (.cells #[.int .u8 0] 5)):=Keeps.alloc _ _ _
 have hqA:QS (w.alloc (.cells #[.int .u8 0] 5)) 5 1 (.slice (some ⟨w.heap.size,0,none⟩) 1 1) 1 [.int .u8 0]:=⟨rfl, .inr ⟨w.heap.size,0,1,_,rfl,blk_new _ _,Nat.le_refl _,by simp only[maxLen];omega,by simp,fun j hj=>(by
  obtain rfl:j=0:=by(simpa using hj)
  rfl)⟩⟩
 have HP16:=Lib.hid (plan16_runs (.slice (some ⟨w.heap.size,0,none⟩) 1 1) [0] (by intro x hx;simp at hx;omega) 1 0 (by decide) (by decide) 0 (by decide) _ hqA.reads)
 rw[show((1:Nat):Int)=1 from rfl,show((0:Nat):Int)=0 from rfl]at HP16
 obtain⟨m1,m2,m3⟩:=kn_make
 obtain⟨p,hp⟩:∃p,makeNumsS 1 0 0=p:=⟨_,rfl⟩
 obtain⟨ws,hws⟩:∃ws,makeW 0 (1+0 % 3)=ws:=⟨_,rfl⟩
 obtain⟨t,ht⟩:∃t,ofL [0]=t:=⟨_,rfl⟩
 rw[hp,hws,ht]at HP16
 have HMK:=Lib.hid (show p=⟨1,2,1,1,1,64,0⟩∧ws=[1]∧t=[0]from⟨hp.symm.trans m1,hws.symm.trans m2,ht.symm.trans m3⟩)
 have hst:0≤p.start∧p.start < 65536:=by rw[HMK.out.1];decide
 obtain⟨lanes,room,queue,rounds,every,bag,start⟩:=p
 unfold planV Nums.plan at HP16
 dsimp only at HP16 hst
 have HST:=Lib.hid hst
 have HKA:=Lib.hid hkA
 have HT:=Lib.hid hT
 clear hkA hqA m1 m2 m3 hT hp hws ht hst
 go_enter Tryz.func6,Tryz.ntmps6
 go_wp2_with fail
 generalize w.alloc (.cells #[.int .u8 0] 5)=X at*
 generalize w.heap.size=xb at*
 refine HP16.out.mono ?_
 rintro e U ⟨e1,wt1,nx1,rfl,hP,hU⟩
 obtain⟨⟨Ea,ec,rfl⟩,⟨Wa,wc,rfl⟩,⟨Na,nc,rfl⟩⟩:=hP.shapes
 have hNW:=fnew_runs (sys0 U) (free0 0) hP HST.out
 unfold planV Nums.plan at hNW
 dsimp only at hNW
 have HNW:=Lib.hid hNW
 have HKU:=Lib.hid (HKA.out.trans hU)
 clear hP hU HP16 hNW
 go_wp2_with fail
 refine HNW.out.mono ?_
 rintro e V ⟨fa,e2,wt2,nx2,rfl,σ1,o1,k1,k2,k3,k4⟩
 obtain⟨h1,h2,h3⟩:=HMK.out
 injection h1 with q1 q2 q3 q4 q5 q6 q7
 subst q1 q2 q3 q4 q5 q6 q7 h2 h3
 have hg:(⟨⟨1,2,1,1,1,64,0⟩,[0],[1],e2,wt2,nx2⟩:Geo)=g2 e2 wt2 nx2:=rfl
 rw[hg]at k3
 have hTV:Tab V∧o1 0=none:=k2.tab (HT.out.keeps HKU.out (fun h=>h)) rfl
 have HK1:=Lib.hid k1
 have HK2:=Lib.hid ((Ext.keeps (fun _=>none) HKU.out).trans k2)
 have HK3:=Lib.hid k3
 have HTV:=Lib.hid hTV
 have b0:((0:Int) == 0)=true:=rfl
 have b1:((0:Int) != 0)=false:=rfl
 have HN0:=Lib.hid (p:=∀U,Keeps (fun _=>False) V U→_) fun U hU=>fnode_ok ((SysF.calm' k1 hU).fabR k3) 0 (show 0≤([0]:List Nat).length by decide)
 have HN1:=Lib.hid (p:=∀U,Keeps (fun _=>False) V U→_) fun U hU=>fnode_ok ((SysF.calm' k1 hU).fabR k3) 1 (show 1≤([0]:List Nat).length by decide)
 have HL0:=Lib.hid (p:=∀U,Keeps (fun _=>False) V U→_) fun U hU=>flink_ok ((SysF.calm' k1 hU).fabR k3) 0 (by show 0 < (hopsOf [0]).length;decide+kernel)
 have HH1:=Lib.hid (p:=∀U,Keeps (fun _=>False) V U→_) fun U hU=>nhost_runs ((SysF.calm' k1 hU).nodeR k3.geo (k3.node 1 (show 1≤([0]:List Nat).length by decide)))
 rw[show(((0:Nat)):Int)=0 from rfl]at HN0 HL0
 rw[show(((1:Nat)):Int)=1 from rfl]at HN1
 clear k1 k2 k3 k4 hTV HNW hg
 go_wp2_with fail
 refine(HN0.out V (Keeps.refl _ _)).mono ?_
 rintro e U1 ⟨rfl,hU1⟩
 go_wp2_with fail
 refine(HL0.out U1 hU1).mono ?_
 rintro e U2 ⟨rfl,hU2⟩
 have hV2:=hU1.trans hU2
 go_wp2_with fail
 refine(HN1.out U2 hV2).mono ?_
 rintro e U3 ⟨rfl,hU3⟩
 have hV3:=hV2.trans hU3
 go_wp2_with fail
 refine(HN1.out U3 hV3).mono ?_
 rintro e U4 ⟨rfl,hU4⟩
 have hV4:=hV3.trans hU4
 go_wp2_with fail
 refine(HH1.out U4 hV4).mono ?_
 rintro e _ ⟨rfl,rfl⟩
 clear hU1 hU2 hU3 hU4 hV2 hV3 HN0 HN1 HL0 HH1
 obtain⟨g,hg⟩:∃g,g2 e2 wt2 nx2=g:=⟨_,rfl⟩
 have hok:=FabOk.new (g2 e2 wt2 nx2) (by show([1]:List Nat).length≤3;decide) (by show 1≤([1]:List Nat).length;decide) (by show ∀x∈([1]:List Nat),1≤x∧x≤5;decide) (by show(0:Int)≤1;decide) (by show(0:Int)≤64;decide)
 have hk3:=kn_any e2 wt2 nx2
 have hki:=kn_ins e2 wt2 nx2
 have hkh:=kn_hops e2 wt2 nx2
 have hl3:(g2 e2 wt2 nx2).p.lanes≤3:=by show(1:Int)≤3;decide
 have htl:1≤(g2 e2 wt2 nx2).t.length:=show 1≤([0]:List Nat).length by decide
 have hws3:(g2 e2 wt2 nx2).ws.length≤3:=by show([1]:List Nat).length≤3;decide
 have hH3:=HK3.out
 rw[hg]at hok hk3 hki hkh hl3 htl hws3 hH3
 have h1:=SysF.calm' HK1.out hV4
 have hIN:=finject_runs h1 hH3 hok ⟨0,1,0,7⟩
 unfold Pkt.val at hIN
 dsimp only at hIN
 have hI1:(injF g (newF g) ⟨0,1,0,7⟩).1=kn1 g:=rfl
 rw[hI1]at hIN
 obtain⟨er,her⟩:∃er,(injF g (newF g) ⟨0,1,0,7⟩).2=er:=⟨_,rfl⟩
 rw[her]at hIN
 have hok1:FabOk g (kn1 g) 0:=hok.inj _ hl3
 have HIN:=Lib.hid hIN
 have HOK1:=Lib.hid hok1
 have HT4:=Lib.hid ((Ext.keeps o1 hV4).tab HTV.out.1 HTV.out.2)
 have HV4:=Lib.hid hV4
 have HFACT:=Lib.hid (And.intro hk3 (And.intro hki (And.intro hkh (And.intro htl hws3))))
 clear h1 hIN hI1 her hok1 hok hk3 hki hkh htl hws3 hH3 hg hV4 HMK HST
 go_wp2_with fail
 refine HIN.out.mono ?_
 rintro e W1 ⟨rfl,σ2,o2,p1,p2,p3,p4⟩
 have hT2:=p2.tab HT4.out.1 HT4.out.2
 have hp:=p1.planS p3.geo
 have hokr:=HOK1.out.round hp.tree hp.t5 HFACT.out.2.2.2.2
 have HR1:=Lib.hid (fround_runs p1 hT2.1 hT2.2 p3 HOK1.out (by decide))
 have HE1:=Lib.hid (((Ext.keeps o1 HV4.out)).trans p2)
 have HT2:=Lib.hid hT2
 have HOKR:=Lib.hid hokr
 have HTR:=Lib.hid (And.intro hp.tree hp.t5)
 clear p1 p2 p3 p4 hT2 hp hokr HIN
 go_wp2_with fail
 refine HR1.out.mono ?_
 rintro e W2 ⟨rfl,σ3,o3,p1,p2,p3,p4⟩
 have hr1:roundF g (kn1 g)=kn2 g:=rfl
 have hokr:=HOKR.out
 rw[hr1]at p3 hokr
 have hT3:=p2.tab HT2.out.1 HT2.out.2
 have HR2:=Lib.hid (fround_runs p1 hT3.1 hT3.2 p3 hokr (by decide))
 have HOK3:=Lib.hid (hokr.round HTR.out.1 HTR.out.2 HFACT.out.2.2.2.2)
 have HE2:=Lib.hid (HE1.out.trans p2)
 clear p1 p2 p3 p4 hr1 hokr hT3 HR1 HE1
 go_wp2_with fail
 refine HR2.out.mono ?_
 rintro e W3 ⟨rfl,σ4,o4,p1,p2,p3,p4⟩
 have hr2:roundF g (kn2 g)=kn3 g:=rfl
 have hokr:=HOK3.out
 rw[hr2]at p3 hokr
 obtain⟨f1,f2,f3,f4,f5⟩:=HFACT.out
 rw[f1]at p3 hokr
 have HGT:=Lib.hid (fgot_runs p1 p3 1 f4 (by rw[kn_got];decide) 1 kn_got)
 have HINS:=Lib.hid (p:=∀U,Keeps (fun _=>False) W3 U→_) fun U hU=>insides_runs (SysF.calm' p1 hU) p3 hokr
 have HALL:=Lib.hid (p:=∀U,Keeps (fun _=>False) W3 U→_) fun U hU=>accs_runs (SysF.calm' p1 hU) p3 hokr
 rw[f2,kn_ins0,wrap64_zero]at HINS
 rw[f3]at HALL
 have HE3:=Lib.hid (HE2.out.trans p2)
 clear p1 p2 p3 p4 hr2 hokr f1 f2 f3 f4 f5 HR2 HE2
 rw[show((1:Nat):Int)=1 from rfl]at HGT
 go_wp2_with fail
 refine HGT.out.mono ?_
 rintro e Y1 ⟨A1,c1,rfl,_,hY1,_⟩
 go_wp2_with fail
 refine(HINS.out Y1 hY1).mono ?_
 rintro e Y2 ⟨rfl,hY2⟩
 go_wp2_with fail
 refine(HALL.out Y2 (hY1.trans hY2)).mono ?_
 rintro e Y3 ⟨A3,c3,rfl,_,hY3⟩
 go_wp2_with fail
 go_ret
 exact⟨rfl,((HK2.out.trans HE3.out).1.mono (fun i _ e=>by cases e)).trans ((hY1.trans hY2).trans hY3)⟩
end Go.Proofs.YtebnflpanfmicaaGreatDoor
namespace Go.Proofs.YtebnflpanfmicaaGreatDoor
open Go.RowKit
def Two (X w:World) (P Q:PlayA) (sp sq:PlayS):Prop:=
 ∃σ o,SysF σ w o∧Ext (fun _=>none) X o w∧PlayAt σ 0 2 P sp∧PlayAt σ 1 3 Q sq
section
variable {X w w':World} {P Q:PlayA} {sp sq sp' sq':PlayS} {c:Nat}
theorem Two.calm (h:Two X w P Q sp sq) (hk:Keeps (fun _=>False) w w'):Two X w' P Q sp sq:=by
 obtain⟨σ,o,h1,h2,h3,h4⟩:=h
 exact⟨σ,o,SysF.calm' h1 hk,h2.trans (Ext.keeps o hk),h3,h4⟩
theorem Two.keeps (h:Two X w P Q sp sq):Keeps (fun _=>False) X w:=by
 obtain⟨σ,o,h1,h2,h3,h4⟩:=h
 exact h2.1.mono (fun i _ e=>by cases e)
theorem Two.left {σ:Sig} {o:Nat→Option Cmp} (h2:Ext (fun _=>none) X o w) (h4:PlayAt σ 1 3 Q sq) (h:PNext σ w o 0 2 P w' sp'):Two X w' P Q sp' sq:=by
 obtain⟨σ',o',k1,k2,k3,k4⟩:=h
 exact⟨σ',o',k1,h2.trans k2,k3,h4.agree k4 (by decide) (by decide) (by decide) (by decide)⟩
theorem Two.right {σ:Sig} {o:Nat→Option Cmp} (h2:Ext (fun _=>none) X o w) (h3:PlayAt σ 0 2 P sp) (h:PNext σ w o 1 3 Q w' sq'):Two X w' P Q sp sq':=by
 obtain⟨σ',o',k1,k2,k3,k4⟩:=h
 exact⟨σ',o',k1,h2.trans k2,h3.agree k4 (by decide) (by decide) (by decide) (by decide),k3⟩
theorem Two.plan (h:Two X w P Q sp sq):Tree P.g.t∧1≤P.g.t.length∧P.g.t.length≤5∧P.g.ws.length≤3∧P.g.p.lanes≤3∧P.g.p.lanes=(P.g.ws.length:Int)∧1≤P.g.ws.length:=by
 obtain⟨σ,o,h1,h2,h3,h4⟩:=h
 have hp:=h1.planS h3.fab.geo
 have:=hp.nums.lanes
 have:=hp.lanes
 exact⟨hp.tree,hp.t1,hp.t5,by omega,by omega,by omega,by omega⟩
end
def SameG (g g':Geo):Prop:=g'.p=g.p∧g'.t=g.t∧g'.ws=g.ws
section
variable {g g':Geo}
theorem SameG.step (h:SameG g g') (s:PlayS) (o:Stp):stepF g' s o=stepF g s o:=by
 obtain⟨p,t,ws,e,w,n⟩:=g
 obtain⟨p',t',ws',e',w',n'⟩:=g'
 obtain⟨rfl,rfl,rfl⟩:=h
 kernel_rfl
theorem SameG.round (h:SameG g g') (s:PlayS):roundY g' s=roundY g s:=by
 obtain⟨p,t,ws,e,w,n⟩:=g
 obtain⟨p',t',ws',e',w',n'⟩:=g'
 obtain⟨rfl,rfl,rfl⟩:=h
 kernel_rfl
theorem SameG.new (h:SameG g g'):newF g'=newF g:=by
 obtain⟨p,t,ws,e,w,n⟩:=g
 obtain⟨p',t',ws',e',w',n'⟩:=g'
 obtain⟨rfl,rfl,rfl⟩:=h
 kernel_rfl
theorem SameG.inside (h:SameG g g') (s:FabS):insideF g' s=insideF g s:=by
 obtain⟨p,t,ws,e,w,n⟩:=g
 obtain⟨p',t',ws',e',w',n'⟩:=g'
 obtain⟨rfl,rfl,rfl⟩:=h
 kernel_rfl
theorem SameG.ok (h:SameG g g') {s:FabS} {c:Nat} (k:FabOk g s c):FabOk g' s c:=by
 obtain⟨p,t,ws,e,w,n⟩:=g
 obtain⟨p',t',ws',e',w',n'⟩:=g'
 obtain⟨rfl,rfl,rfl⟩:=h
 exact⟨fun v hv=>⟨(k.node v hv).wheel,(k.node v hv).G,(k.node v hv).A,(k.node v hv).q,(k.node v hv).wait,(k.node v hv).came⟩,k.room,k.rows⟩
end
end Go.Proofs.YtebnflpanfmicaaGreatDoor
namespace Go.Proofs.YtebnflpanfmicaaGreatDoor
open Go.RowKit
theorem W16_ofInt (x:Int):W16 x=((BitVec.ofInt 16 x).toNat:Int):=by
 simp[IntKind.wrap,IntKind.bits,IntKind.signed,BitVec.toNat_ofInt]
 omega
theorem ofInt_toNat (v:BitVec 16):BitVec.ofInt 16 (v.toNat:Int)=v:=by
 apply BitVec.eq_of_toNat_eq
 simp[BitVec.toNat_ofInt]
theorem xor_bv (a b:BitVec 16):bits .xor .u16 (a.toNat:Int) (b.toNat:Int)=((a ^^^ b).toNat:Int):=by
 show W16 ((BitVec.ofInt 16 (a.toNat:Int) ^^^ BitVec.ofInt 16 (b.toNat:Int)).toNat:Int)=_
 rw[W16_ofInt,ofInt_toNat,ofInt_toNat,ofInt_toNat]
theorem and_bv (a b:BitVec 16):bits .and .u16 (a.toNat:Int) (b.toNat:Int)=((a &&& b).toNat:Int):=by
 show W16 ((BitVec.ofInt 16 (a.toNat:Int) &&& BitVec.ofInt 16 (b.toNat:Int)).toNat:Int)=_
 rw[W16_ofInt,ofInt_toNat,ofInt_toNat,ofInt_toNat]
def shB (v:BitVec 16):BitVec 16:=(v <<< 1) ^^^ (if v.getLsbD 15=true then 4129#16 else 0#16)
theorem shl1_bv (v:BitVec 16):shl1 (v.toNat:Int)=((v <<< 1).toNat:Int):=by
 unfold shl1
 rw[W16_ofInt]
 congr 2
 apply BitVec.eq_of_toNat_eq
 rw[BitVec.toNat_shiftLeft,BitVec.toNat_ofInt,Nat.shiftLeft_eq]
 omega
theorem top_bv (v:BitVec 16):v &&& 32768#16=0#16 ↔ v.getLsbD 15=false:=by
 constructor
 ·intro h
  have:=congrArg (·.getLsbD 15) h
  simpa using this
 ·intro h
  apply BitVec.eq_of_getLsbD_eq
  intro i hi
  have e:(32768#16)=BitVec.twoPow 16 15:=by decide
  rw[e]
  simp only[BitVec.getLsbD_and,BitVec.getLsbD_twoPow,BitVec.getLsbD_zero]
  by_cases hi15:i=15
  ·subst hi15;simp only[h,Bool.false_and]
  ·simp;intro _;omega
theorem shiftC_bv (v:BitVec 16):shiftC (v.toNat:Int)=((shB v).toNat:Int):=by
 unfold shiftC shB
 have e:(32768:Int)=((32768#16).toNat:Int):=by decide
 have e2:(4129:Int)=((4129#16).toNat:Int):=by decide
 rw[e,and_bv,shl1_bv]
 by_cases h:v.getLsbD 15=true
 ·have h1:¬(v &&& 32768#16=0#16):=fun hh=>by rw[top_bv]at hh;rw[h]at hh;cases hh
  rw[if_neg,if_pos h,e2,xor_bv]
  intro hh
  apply h1
  apply BitVec.eq_of_toNat_eq
  have:(v &&& 32768#16).toNat=0:=by exact_mod_cast hh
  rw[this];rfl
 ·have h0:v.getLsbD 15=false:=by simpa using h
  rw[if_neg h,if_pos (by rw[(top_bv v).2 h0];rfl),BitVec.xor_zero]
theorem shB_inj {v w:BitVec 16} (h:shB v=shB w):v=w:=by
 have b0:∀x:BitVec 16,(shB x).getLsbD 0=x.getLsbD 15:=by
  intro x
  unfold shB
  by_cases hx:x.getLsbD 15=true
  ·rw[if_pos hx,BitVec.getLsbD_xor,BitVec.getLsbD_shiftLeft,hx];simp
  ·rw[if_neg hx,BitVec.getLsbD_xor,BitVec.getLsbD_shiftLeft];simp at hx ⊢;exact hx
 have h15:v.getLsbD 15=w.getLsbD 15:=by rw[←b0,←b0,h]
 have hs:v <<< 1=w <<< 1:=by
  unfold shB at h
  rw[h15]at h
  have:=congrArg (·^^^ (if w.getLsbD 15=true then 4129#16 else 0#16)) h
  simpa[BitVec.xor_assoc]using this
 apply BitVec.eq_of_getLsbD_eq
 intro i hi
 by_cases hi15:i=15
 ·subst hi15;exact h15
 ·have:=congrArg (·.getLsbD (i+1)) hs
  simp only[BitVec.getLsbD_shiftLeft]at this
  have h1:decide (i+1 < 16)=true:=by simp;omega
  simpa[h1]using this
def Word (r:Int):Prop:=∃v:BitVec 16,r=(v.toNat:Int)
theorem Word.of {r:Int} (h0:0≤r) (h1:r < 65536):Word r:=⟨BitVec.ofInt 16 r,by rw[←W16_ofInt];simp[IntKind.wrap,IntKind.bits,IntKind.signed];omega⟩
theorem Word.lo {r:Int} (h:Word r):0≤r∧r < 65536:=by obtain⟨v,rfl⟩:=h;have:=v.isLt;omega
theorem Word.shiftC {r:Int} (h:Word r):Word (shiftC r):=by obtain⟨v,rfl⟩:=h;exact⟨_,shiftC_bv v⟩
theorem shiftC_inj {r s:Int} (hr:Word r) (hs:Word s) (h:shiftC r=shiftC s):r=s:=by
 obtain⟨v,rfl⟩:=hr;obtain⟨u,rfl⟩:=hs
 rw[shiftC_bv,shiftC_bv]at h
 have:shB v=shB u:=BitVec.eq_of_toNat_eq (by exact_mod_cast h)
 rw[shB_inj this]
theorem Word.shiftN {r:Int} (h:Word r):∀n,Word (shiftN r n)
 | 0=>h
 | n+1=>(Word.shiftN h n).shiftC
theorem shiftN_inj {r s:Int} (hr:Word r) (hs:Word s):∀n,shiftN r n=shiftN s n→r=s
 | 0,h=>h
 | n+1,h=>shiftN_inj hr hs n (shiftC_inj (hr.shiftN n) (hs.shiftN n) h)
theorem Word.W16 (x:Int):Word (W16 x):=⟨_,W16_ofInt x⟩
theorem Word.xor {a b:Int} (ha:Word a) (hb:Word b):Word (bits .xor .u16 a b):=by
 obtain⟨u,rfl⟩:=ha;obtain⟨v,rfl⟩:=hb;exact⟨_,xor_bv u v⟩
theorem xor_cancel_left {a b c:Int} (ha:Word a) (hb:Word b) (hc:Word c) (h:bits .xor .u16 a b=bits .xor .u16 a c):b=c:=by
 obtain⟨u,rfl⟩:=ha;obtain⟨v,rfl⟩:=hb;obtain⟨x,rfl⟩:=hc
 rw[xor_bv,xor_bv]at h
 have h2:u ^^^ v=u ^^^ x:=BitVec.eq_of_toNat_eq (by exact_mod_cast h)
 have:=congrArg (u ^^^ ·) h2
 simp only[←BitVec.xor_assoc,BitVec.xor_self,BitVec.zero_xor]at this
 rw[this]
theorem xor_cancel_right {a b c:Int} (ha:Word a) (hb:Word b) (hc:Word c) (h:bits .xor .u16 b a=bits .xor .u16 c a):b=c:=by
 obtain⟨u,rfl⟩:=ha;obtain⟨v,rfl⟩:=hb;obtain⟨x,rfl⟩:=hc
 rw[xor_bv,xor_bv,BitVec.xor_comm,BitVec.xor_comm x]at h
 exact xor_cancel_left ⟨u,rfl⟩ ⟨v,rfl⟩ ⟨x,rfl⟩ (by rw[xor_bv,xor_bv];exact h)
theorem Word.takeC {r:Int} (h:Word r) (c:Int):Word (takeC r c):=(h.xor (Word.W16 _)).shiftN 8
theorem takeC_inj {r s c:Int} (hr:Word r) (hs:Word s) (h:takeC r c=takeC s c):r=s:=
 xor_cancel_right (Word.W16 _) hr hs (shiftN_inj (hr.xor (Word.W16 _)) (hs.xor (Word.W16 _)) 8 h)
theorem takeC_byte {r c d:Int} (hr:Word r) (hc:0≤c∧c≤255) (hd:0≤d∧d≤255) (h:takeC r c=takeC r d):c=d:=by
 have:=xor_cancel_left hr (Word.W16 _) (Word.W16 _) (shiftN_inj (hr.xor (Word.W16 _)) (hr.xor (Word.W16 _)) 8 h)
 simp[IntKind.wrap,IntKind.bits,IntKind.signed]at this
 omega
theorem Word.crcC:∀(l:List Int) {r:Int},Word r→Word (crcC l r)
 | [],_,h=>h
 | c :: l,_,h=>Word.crcC l (h.takeC c)
theorem crcC_inj:∀(l:List Int) {r s:Int},Word r→Word s→crcC l r=crcC l s→r=s
 | [],_,_,_,_,h=>h
 | c :: l,_,_,hr,hs,h=>takeC_inj hr hs (crcC_inj l (hr.takeC c) (hs.takeC c) h)
theorem sumC_word (l:List Int):Word (sumC l):=Word.crcC l (Word.of (by decide) (by decide))
theorem sumC_first {c d:Int} (l:List Int) (hc:0≤c∧c≤255) (hd:0≤d∧d≤255) (h:sumC (c :: l)=sumC (d :: l)):c=d:=by
 have hw:Word 65535:=Word.of (by decide) (by decide)
 exact takeC_byte hw hc hd (crcC_inj l (hw.takeC c) (hw.takeC d) h)
theorem W32_val {x:Int} (h0:0≤x) (h1:x < 4294967296):W32 x=x:=by simp[IntKind.wrap,IntKind.bits,IntKind.signed];omega
theorem W16_mod (x:Int):W16 x=x % 65536:=by simp[IntKind.wrap,IntKind.bits,IntKind.signed]
theorem W8_mod (x:Int):W8 x=x % 256:=by simp[IntKind.wrap,IntKind.bits,IntKind.signed]
theorem readS_val {n c:Int} (h0:0≤n) (h1:n < 16777216) (c0:0≤c) (c1:c≤255):readS n c=n*256+c:=by
 obtain⟨m,rfl⟩:=Int.eq_ofNat_of_zero_le h0
 obtain⟨b,rfl⟩:=Int.eq_ofNat_of_zero_le c0
 have hb:b < 2^8:=by have:(b:Int)≤255:=c1;omega
 have hm:m < 16777216:=by omega
 have w1:W32 ((m:Int)*256)=((2^8*m:Nat):Int):=by rw[W32_val (by omega) (by omega)];omega
 have w2:W32 (b:Int)=(b:Int):=W32_val (by omega) (by omega)
 have wr:∀n:Int,0≤n→n < 2^32→IntKind.u32.wrap n=n:=fun n h₀ h₁=>W32_val h₀ (by omega)
 unfold readS
 rw[w1,w2,(bits_nat .u32 32 (by decide) wr (2^8*m) b (by omega) (by omega)).2,←Nat.two_pow_add_eq_or_of_lt hb]
 omega
theorem readC2 {a b:Int} (ha:0≤a∧a≤255) (hb:0≤b∧b≤255):readC [a,b]=a*256+b:=by
 show readS (readS 0 a) b=_
 rw[readS_val (by omega) (by omega) ha.1 ha.2,readS_val (by omega) (by omega) hb.1 hb.2]
 omega
theorem readC4 {a b c d:Int} (ha:0≤a∧a≤255) (hb:0≤b∧b≤255) (hc:0≤c∧c≤255) (hd:0≤d∧d≤255):readC [a,b,c,d]=((a*256+b)*256+c)*256+d:=by
 show readS (readS (readS (readS 0 a) b) c) d=_
 rw[readS_val (by omega) (by omega) ha.1 ha.2,readS_val (by omega) (by omega) hb.1 hb.2,readS_val (by omega) (by omega) hc.1 hc.2,readS_val (by omega) (by omega) hd.1 hd.2]
 omega
theorem read_word {s:Int} (h0:0≤s) (h1:s < 65536):readC [hiB s,loB s]=s:=by
 rw[show readC [hiB s,loB s]=hiB s*256+loB s from readC2 (W8_ok _) (W8_ok _)]
 unfold hiB loB
 rw[W8_mod,W8_mod]
 omega
theorem read_four {x:Int} (h0:0≤x) (h1:x < 4294967296):readC (fourB x)=x:=by
 unfold fourB
 rw[show readC [hiB (W16 (x / 65536)),loB (W16 (x / 65536)),hiB (W16 x),loB (W16 x)]=((hiB (W16 (x / 65536))*256+loB (W16 (x / 65536)))*256+hiB (W16 x))*256+loB (W16 x)from readC4 (W8_ok _) (W8_ok _) (W8_ok _) (W8_ok _)]
 unfold hiB loB
 rw[W8_mod,W8_mod,W8_mod,W8_mod,W16_mod,W16_mod]
 omega
structure FrmOk (f:Frm):Prop where
 sound:soundF f
 lane:0≤f.lane
 seq:0≤f.seq∧f.seq < 65536
 src:0≤f.src
 dst:0≤f.dst
 body:0≤f.body∧f.body < 4294967296
theorem FrmOk.kind {f:Frm} (h:FrmOk f):0≤f.kind∧f.kind≤255:=by
 have:=h.sound;unfold soundF at this;omega
theorem decF_encF {f:Frm} (h:FrmOk f):decF (encF f)=(f,0):=by
 have hs:=h.sound
 by_cases hk:f.kind=1
 ·have hb:=(sumC_word (bareF f)).lo
  have e:encF f=[f.kind,f.lane,hiB f.seq,loB f.seq,f.src,f.dst,hiB (W16 (f.body / 65536)),loB (W16 (f.body / 65536)),hiB (W16 f.body),loB (W16 f.body),hiB (sumC (bareF f)),loB (sumC (bareF f))]:=by
   unfold encF bareF fourB;rw[if_pos hk];rfl
  have eb:[f.kind,f.lane,hiB f.seq,loB f.seq,f.src,f.dst,hiB (W16 (f.body / 65536)),loB (W16 (f.body / 65536)),hiB (W16 f.body),loB (W16 f.body)]=bareF f:=by
   unfold bareF fourB;rw[if_pos hk];rfl
  have hg:goodF (encF f)=true:=by
   rw[e]
   unfold goodF
   simp only[List.length_cons,List.length_nil,List.take_succ_cons,List.take_zero,List.drop_succ_cons,List.drop_zero,Nat.reduceAdd,Nat.reduceSub,eb,read_word hb.1 hb.2,List.getD_cons_zero]
   have:sumC (bareF f) % 4294967296=sumC (bareF f):=Int.emod_eq_of_lt hb.1 (by omega)
   rw[this]
   simp[hk]
  have hf:frameOf (encF f)=f:=by
   rw[e]
   unfold frameOf
   rw[if_pos (by rfl)]
   have e4:readC [hiB (W16 (f.body / 65536)),loB (W16 (f.body / 65536)),hiB (W16 f.body),loB (W16 f.body)]=f.body:=read_four h.body.1 h.body.2
   simp only[List.take_succ_cons,List.take_zero,List.drop_succ_cons,List.drop_zero,List.getD_cons_zero,List.getD_cons_succ,read_word h.seq.1 h.seq.2,e4]
   have:IntKind.u16.wrap f.seq=f.seq:=(W16_mod _).trans (Int.emod_eq_of_lt h.seq.1 h.seq.2)
   rw[this]
  unfold decF
  rw[if_pos hg,hf]
  unfold decV decE
  rw[if_pos hs,if_pos hs]
 ·have hb:=(sumC_word (bareF f)).lo
  have e:encF f=[f.kind,f.lane,hiB f.seq,loB f.seq,hiB (sumC (bareF f)),loB (sumC (bareF f))]:=by
   unfold encF bareF;rw[if_neg hk];rfl
  have eb:[f.kind,f.lane,hiB f.seq,loB f.seq]=bareF f:=by unfold bareF;rw[if_neg hk]
  have hz:f.src=0∧f.dst=0∧f.body=0:=by unfold soundF at hs;omega
  have hg:goodF (encF f)=true:=by
   rw[e]
   unfold goodF
   simp only[List.length_cons,List.length_nil,List.take_succ_cons,List.take_zero,List.drop_succ_cons,List.drop_zero,Nat.reduceAdd,Nat.reduceSub,eb,read_word hb.1 hb.2,List.getD_cons_zero]
   have:sumC (bareF f) % 4294967296=sumC (bareF f):=Int.emod_eq_of_lt hb.1 (by omega)
   rw[this]
   simp[hk]
  have hf:frameOf (encF f)=f:=by
   rw[e]
   unfold frameOf
   rw[if_neg (by simp)]
   simp only[List.take_succ_cons,List.take_zero,List.drop_succ_cons,List.drop_zero,List.getD_cons_zero,List.getD_cons_succ,read_word h.seq.1 h.seq.2]
   have:IntKind.u16.wrap f.seq=f.seq:=(W16_mod _).trans (Int.emod_eq_of_lt h.seq.1 h.seq.2)
   rw[this]
   obtain⟨h1,h2,h3⟩:=hz
   cases f
   simp_all
  unfold decF
  rw[if_pos hg,hf]
  unfold decV decE
  rw[if_pos hs,if_pos hs]
theorem encF_cons (f:Frm):∃m,m.length=(if f.kind=1 then 9 else 3)∧bareF f=f.kind :: m∧encF f=f.kind :: m ++ [hiB (sumC (bareF f)),loB (sumC (bareF f))]:=by
 by_cases hk:f.kind=1
 ·refine⟨f.lane :: hiB f.seq :: loB f.seq :: f.src :: f.dst :: fourB f.body,by simp[fourB,hk], ?_, ?_⟩
  ·unfold bareF;rw[if_pos hk];rfl
  ·unfold encF;congr 1;unfold bareF;rw[if_pos hk];rfl
 ·refine⟨[f.lane,hiB f.seq,loB f.seq],by simp[hk], ?_, ?_⟩
  ·unfold bareF;rw[if_neg hk]
  ·unfold encF;congr 1;unfold bareF;rw[if_neg hk]
theorem decF_bent {f:Frm} (h:FrmOk f) {x:Int} (hx:0≤x∧x≤255) (hne:x≠f.kind):decF ((encF f).set 0 x)=(Frm.zero,30):=by
 obtain⟨m,hm,h1,h2⟩:=encF_cons f
 have e:(encF f).set 0 x=x :: m ++ [hiB (sumC (bareF f)),loB (sumC (bareF f))]:=by rw[h2];rfl
 have hg:goodF ((encF f).set 0 x)=false:=by
  rw[e]
  unfold goodF
  have hl:(x :: m ++ [hiB (sumC (bareF f)),loB (sumC (bareF f))]).length - 2=(x :: m).length:=by simp
  rw[hl,List.take_left,List.drop_left]
  have hb:=(sumC_word (bareF f)).lo
  have hc:=(sumC_word (x :: m)).lo
  rw[read_word hb.1 hb.2,Int.emod_eq_of_lt hc.1 (by omega)]
  have:sumC (x :: m)≠sumC (bareF f):=fun hh=>by
   rw[h1]at hh
   exact hne (sumC_first m hx h.kind hh)
  simp[this]
 unfold decF
 rw[hg]
 rfl
end Go.Proofs.YtebnflpanfmicaaGreatDoor
namespace Go.Proofs.YtebnflpanfmicaaGreatDoor
open Go.RowKit
theorem W64_mod (x:Int):W64 x=x % 18446744073709551616:=by simp[IntKind.wrap,IntKind.bits,IntKind.signed]
abbrev Sm (x:Int):Prop:=0≤x∧x < 1099511627776
theorem widen_eq {near n:Int} (h:Sm near) (hn:Sm n) (h1:near - 32768≤n) (h2:n < near+32768):widen near (W16 n)=n:=by
 unfold widen
 rw[W64_mod,W64_mod,W64_mod,W16_mod,W16_mod,W16_mod]
 omega
theorem wrap64_id {x:Int} (h0: -9223372036854775808≤x) (h1:x < 9223372036854775808):wrap64 x=x:=by unfold wrap64;omega
theorem opn_eq {s l:Int} (hs:Sm s) (hl:Sm l) (h:s≤l):opn s l=l - s:=by
 unfold opn
 rw[W64_mod,Int.emod_eq_of_lt (by omega) (by omega)]
 exact wrap64_id (by omega) (by omega)
theorem rfree_eq {h r:Int} (h0:0≤h) (h1:h≤r) (h2:r≤8):rfree h r=r - h:=by
 unfold rfree
 rw[show wrap64 (r - h)=r - h from wrap64_id (by omega) (by omega),W64_mod,Int.emod_eq_of_lt (by omega) (by omega)]
theorem rlim_eq {n h r:Int} (hn:Sm n) (h0:0≤h) (h1:h≤r) (h2:r≤8):rlim n h r=n+r - h:=by
 unfold rlim
 rw[rfree_eq h0 h1 h2,W64_mod,Int.emod_eq_of_lt (by omega) (by omega)]
 omega
theorem nextS_eq {s l:Int} (hs:Sm s) (hl:Sm l) (h:s < l):nextS s l=s+1:=by
 unfold nextS
 rw[opn_eq hs hl (by omega),if_neg (by omega),W64_mod,Int.emod_eq_of_lt (by omega) (by omega)]
theorem nextN_eq {s l:Int} (hs:Sm s) (hl:Sm l) (h:s < l):nextN s l=s:=by
 unfold nextN
 rw[opn_eq hs hl (by omega),if_neg (by omega)]
theorem hearC_eq {s l m:Int} (hs:Sm s) (hl:Sm l) (hm:Sm m) (h1:l - 32768≤m) (h2:m < l+32768):hearC s l (W16 m)=if m≤l∨s+8 < m then l else m:=by
 unfold hearC
 rw[widen_eq hl hm h1 h2,W64_mod,Int.emod_eq_of_lt (by omega) (by omega)]
theorem hearR_eq {n h r m:Int} (hn:Sm n) (hm:Sm m) (h0:0≤h) (h1:h≤r) (h2:r≤8) (h3:n - 32768≤m) (h4:m≤n+r - h):hearR n h r (W16 m)=max n m:=by
 have hw:widen n (W16 m)=m:=widen_eq hn hm h3 (by omega)
 have hno:hearNo n h r (W16 m) ↔ m≤n:=by
  unfold hearNo far
  rw[hw,rfree_eq h0 h1 h2]
  by_cases h5:m < n
  ·exact⟨fun _=>by omega,fun _=> .inl h5⟩
  ·rw[W64_mod,Int.emod_eq_of_lt (by omega) (by omega)];omega
 unfold hearR
 by_cases h5:m≤n
 ·rw[if_pos (hno.2 h5)];omega
 ·rw[if_neg (fun h=>h5 (hno.1 h)),hw];omega
theorem comeE_eq {n h r m:Int} (hn:Sm n) (hm:Sm m) (h0:0≤h) (h1:h≤r) (h2:r≤8) (h3:n - 32768≤m) (h4:m < n+r - h):comeE n h r (W16 m)=if m < n then 60 else 0:=by
 unfold comeE far
 rw[widen_eq hn hm h3 (by omega),rfree_eq h0 h1 h2]
 by_cases h5:m < n
 ·rw[if_pos h5,if_pos h5]
 ·rw[if_neg h5,if_neg h5,W64_mod,Int.emod_eq_of_lt (by omega) (by omega),if_neg (by omega)]
theorem freeR_eq {h:Int} (h0:0 < h) (h1:h≤8):freeR h=h - 1:=by
 unfold freeR
 rw[if_neg (by omega)]
 exact wrap64_id (by omega) (by omega)
theorem freeR_le {h:Int} (h0:0≤h) (h1:h≤8):0≤freeR h∧freeR h≤h:=by
 by_cases h2:h=0
 ·subst h2;decide
 ·rw[freeR_eq (by omega) h1];omega
end Go.Proofs.YtebnflpanfmicaaGreatDoor
namespace Go.Proofs.YtebnflpanfmicaaGreatDoor
open Go.RowKit
def dsN (t:List Nat) (v x:Nat):Nat:=(pathN t v x).length
theorem way_all:allT (fun t v x=>decide (1≤dsN t v x) && decide (dsN t v x≤t.length+1) && (if v=x then decide (dsN t v x=1)else decide (nxt t v x∈nb t v) && decide (dsN t (nxt t v x) x+1=dsN t v x)))=true:=by decide+kernel
section
variable {t:List Nat} (ht:Tree t) (h5:t.length≤5)
include ht h5
theorem ds_le {v x:Nat} (hv:v≤t.length) (hx:x≤t.length):1≤dsN t v x∧dsN t v x≤t.length+1:=by
 have:=allT_at way_all ht h5 hv hx
 simp only[Bool.and_eq_true,decide_eq_true_eq]at this
 exact this.1
theorem ds_here {v:Nat} (hv:v≤t.length):dsN t v v=1:=by
 have:=allT_at way_all ht h5 hv hv
 simp only[Bool.and_eq_true,decide_eq_true_eq,if_pos]at this
 exact this.2
theorem ds_next {v x:Nat} (hv:v≤t.length) (hx:x≤t.length) (hne:x≠v):nxt t v x∈nb t v∧dsN t (nxt t v x) x+1=dsN t v x:=by
 have:=allT_at way_all ht h5 hv hx
 rw[if_neg (Ne.symm hne)]at this
 simp only[Bool.and_eq_true,decide_eq_true_eq]at this
 exact this.2
theorem nb_le {v x:Nat} (hv:v≤t.length) (h:x∈nb t v):x≤t.length:=(nb_rises ht h5 hv).2.1 x h
theorem nb_nd {v:Nat} (hv:v≤t.length):(nb t v).Nodup:=(nb_rises ht h5 hv).1.imp (fun h=>Nat.ne_of_lt h)
theorem nb_self {v:Nat} (hv:v≤t.length):v ∉ nb t v:=(nb_rises ht h5 hv).2.2.2.1
theorem nb_back {v x:Nat} (hv:v≤t.length) (h:x∈nb t v):v∈nb t x:=by
 obtain⟨h1,h2⟩:=hop_at ht h5 hv h
 exact((hops_in ht h5).1 _ (List.mem_of_getElem? h2)).2.2.1
end
def pn (t:List Nat) (v i:Nat):Nat:=(tos t v).getD i 0
def pj (t:List Nat) (v i:Nat):Nat:=portN t (pn t v i) v
theorem pn_at {t:List Nat} {v i:Nat} (h0:1≤i) (h:i < (nb t v).length+1):(nb t v)[i - 1]? =some (pn t v i):=by
 unfold pn tos
 obtain⟨j,rfl⟩:∃j,i=j+1:=⟨i - 1,by omega⟩
 rw[List.getD_cons_succ,Nat.add_sub_cancel,List.getD_eq_getElem?_getD,List.getElem?_eq_getElem (by omega)]
 rfl
theorem pn_mem {t:List Nat} {v i:Nat} (h0:1≤i) (h:i < (nb t v).length+1):pn t v i∈nb t v:=List.mem_of_getElem? (pn_at h0 h)
theorem portN_range {t:List Nat} {v x:Nat} (h:x∈nb t v):1≤portN t v x∧portN t v x < (nb t v).length+1:=(portN_ok h).2
theorem pn_port {t:List Nat} {v x:Nat} (h:x∈nb t v):pn t v (portN t v x)=x:=by
 have h1:=List.idxOf_lt_length_of_mem h
 have:=pn_at (portN_range h).1 (portN_range h).2
 unfold portN at this
 rw[Nat.add_sub_cancel,List.getElem?_eq_getElem h1,List.getElem_idxOf]at this
 unfold portN
 exact(Option.some.inj this).symm
theorem port_pn {t:List Nat} (ht:Tree t) (h5:t.length≤5) {v i:Nat} (hv:v≤t.length) (h0:1≤i) (h:i < (nb t v).length+1):portN t v (pn t v i)=i:=by
 have h1:=pn_at h0 h
 obtain⟨h2,h3⟩:=List.getElem?_eq_some_iff.1 h1
 unfold portN
 rw[←h3,(nb_nd ht h5 hv).idxOf_getElem]
 omega
theorem toward_here (t:List Nat) (v:Nat):towardI t v v=0:=by unfold towardI;rw[if_pos rfl]
theorem toward_next {t:List Nat} (ht:Tree t) (h5:t.length≤5) {v x:Nat} (hv:v≤t.length) (hx:x≤t.length) (hne:x≠v):towardI t v x=(portN t v (nxt t v x):Int):=by
 have h:=(ds_next ht h5 hv hx hne).1
 unfold towardI idxI portN
 rw[if_neg hne,if_pos h]
 rfl
theorem toward_port {t:List Nat} (ht:Tree t) (h5:t.length≤5) {v x i:Nat} (hv:v≤t.length) (hx:x≤t.length) (h0:1≤i) (h:towardI t v x=(i:Int)):x≠v∧pn t v i=nxt t v x:=by
 have hne:x≠v:=fun e=>by rw[e,toward_here]at h;omega
 rw[toward_next ht h5 hv hx hne]at h
 have:portN t v (nxt t v x)=i:=by exact_mod_cast h
 rw[←this]
 exact⟨hne,pn_port (ds_next ht h5 hv hx hne).1⟩
end Go.Proofs.YtebnflpanfmicaaGreatDoor
