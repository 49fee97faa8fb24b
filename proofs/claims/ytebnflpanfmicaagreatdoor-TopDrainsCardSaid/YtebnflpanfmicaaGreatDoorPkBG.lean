/-
  Part 33 of the proof: TopStep, TopGot.
-/
import Derived.Test.YtebnflpanfmicaaGreatDoorPkBD
import Derived.Test.YtebnflpanfmicaaGreatDoorPkBF
import Derived.Test.YtebnflpanfmicaaGreatDoorPkAU
import Derived.Test.YtebnflpanfmicaaGreatDoorPkBA
import Derived.Lib.QuietBelow
import Derived.Deep.RegionLaw
import Derived.Deep.RegionHeld3
set_option linter.unusedVariables false
set_option linter.unusedSimpArgs false
set_option linter.unusedSectionVars false
namespace Go.Proofs.YtebnflpanfmicaaGreatDoor
open Go.RowKit Go.Sort
section
variable {σ:Sig} {w:World} {o:Nat→Option Cmp} {f pf:Nat} {P:PlayA} {p:PlayS} {c:Nat}
theorem SysF.playCells (h:SysF σ w o) (hP:PlayAt σ f pf P p):w.cell? ⟨P.b,0,none⟩=some (.int .i64 ((P.g.t.length:Int)+1))∧w.cell? ⟨P.b,1,none⟩=some P.pe∧w.cell? ⟨P.b,2,none⟩=some (.int .i64 P.g.p.lanes)∧w.cell? ⟨P.b,3,none⟩=some (.int .i64 P.g.p.room)∧w.cell? ⟨P.b,4,none⟩=some (.int .i64 P.g.p.queue)∧w.cell? ⟨P.b,5,none⟩=some (.int .i64 P.g.p.rounds)∧
  w.cell? ⟨P.b,6,none⟩=some (.int .i64 P.g.p.every)∧w.cell? ⟨P.b,7,none⟩=some (.int .i64 P.g.p.bag)∧w.cell? ⟨P.b,8,none⟩=some P.pw∧w.cell? ⟨P.b,9,none⟩=some (.int .u16 P.g.p.start)∧w.cell? ⟨P.b,10,none⟩=some P.pn∧w.cell? ⟨P.b,11,none⟩=some (.pointer (some ⟨P.fa.fb,0,none⟩)):=by
 obtain⟨sv,h⟩:=h.playR hP
 have:=fun j=>blk_cell h.box j
 refine⟨?_, ?_, ?_, ?_, ?_, ?_, ?_, ?_, ?_, ?_, ?_, ?_⟩ <;>rw[this] <;>rfl
theorem PNext.from_ {w' w'':World} {s':PlayS} (hk:Keeps (fun _=>False) w w') (h:PNext σ w' o f pf P w'' s'):PNext σ w o f pf P w'' s':=by
 obtain⟨σ2,o2,k1,k2,k3,k4⟩:=h
 exact⟨σ2,o2,k1,(Ext.keeps o hk).trans k2,k3,k4⟩
theorem SysF.stepSent (h:SysF σ w o) (hP:PlayAt σ f pf P p) (hne:f≠pf) {sv v':Value} {X W:World} {x:Pkt} (R:PlayR w (fun k=>o k=some (.fab pf)) P p.sent p.over sv) (hkX:Keeps (fun _=>False) w X) (hg:X.grownBy W sv.ownBlock) (hq:QS W 31 4 v' (p.sent.length+1) (pcells p.sent ++ x.cells)) (ho:v'.ownBlock=sv.ownBlock∨∃b,v'.ownBlock=some b∧X.heap.size≤b):
  PNext σ w o f pf P (W.setCell ⟨P.b,12,none⟩ v') ⟨p.fs,p.sent ++ [x],p.over⟩:=by
 have hk1:Keeps (fun k=>sv.ownBlock=some k) w W:=(hkX.mono (fun _ _ h=>h.elim)).trans (Keeps.grown hg (fun _ h=>h))
 have hkS:Keeps (fun k=>k=P.b) W (W.setCell ⟨P.b,12,none⟩ v'):=Keeps.setCell _ _ _ _ rfl
 have hK:Keeps (fun k=>o k=some (.fab pf)) w (W.setCell ⟨P.b,12,none⟩ v'):=(hk1.mono (fun k _ e=>(R.own k e).1)).trans (Keeps.setCell _ _ _ _ R.sb)
 have hb1:=blk_keeps hk1 R.box (fun e=>(R.own _ e).2 rfl)
 have hlb:=blk_lt R.box
 have hno:∀k,v'.ownBlock=some k→k≠P.b:=fun k e=>by
  rcases ho with h | ⟨b,h,hb⟩
  ·exact(R.own k (h▸e)).2
  ·rw[e]at h;cases h
   have:=hkX.size
   omega
 obtain⟨o',h1,h2⟩:=Sys.step (A':=(σ.setF pf (playPart P (p.sent ++ [x]) p.over)).part) h (.fab pf) (setF_part σ pf _) hK (by
  simp only[Sig.part,Sig.setF,if_true]
  refine⟨v',blk_set hb1 12 v', ?_, .inl R.sb,fun k e=>⟨?_,hno k e⟩,fun k e=> ?_⟩
  ·rw[List.length_append,pcells_snoc]
   exact hq.keeps hkS hno
  ·rcases ho with h | ⟨b,h,hb⟩
   ·exact .inl (R.own k (h▸e)).1
   ·rw[e]at h;cases h
    have:=hkX.size
    exact .inr ⟨by omega,Nat.lt_of_lt_of_le (hq.lt k e) hkS.size⟩
  ·rcases e with e | e
   ·exact Nat.lt_of_lt_of_le (Sys.lt h k _ e) hK.size
   ·exact e.2)
 exact⟨_,o',h1,h2,hP.setO hne _ _,agreeP_setF _ _ _ _⟩
set_option maxRecDepth 100000 in
set_option maxHeartbeats 16000000 in
theorem pstep_runs (h:SysF σ w o) (hT:Tab w) (h00:o 0=none) (hP:PlayAt σ f pf P p) (hne:f≠pf) (hok:FabOk P.g p.fs c) (hc:c≤700000000) (hs:p.sent.length≤1000000) (s:Stp) (hkd:0≤s.kind∧s.kind≤255):
  Calls Tryz.prog 8 #[.pointer (some ⟨P.b,0,none⟩),s.val] w fun e w'=>e= .returned (.tuple #[])∧PNext σ w o f pf P w' (stepF P.g p s):=by
 have hp:=h.planS hP.fab.geo
 have hl3:P.g.ws.length≤3:=by have:=hp.nums.lanes.2;have:=hp.lanes;omega
 have hcnt:=(hops_in hp.tree hp.t5).2
 have ht1:=hp.t1
 have ht5:=hp.t5
 have hln1:=hp.nums.lanes.1
 obtain⟨r,hr⟩:∃r,stepF P.g p s=r:=⟨_,rfl⟩
 rw[hr]
 unfold stepF at hr
 simp only at hr
 obtain⟨m,hm⟩:∃m,s.made P.g=m:=⟨_,rfl⟩
 rw[hm]at hr
 have hH1:(1:Int)≤((hopsOf P.g.t).length:Int):=by omega
 have HWI:=Lib.hid (p:=∀e1 wt nx U,_) fun e1 wt nx U=>within_runs {s with wi:=true} ((P.g.t.length:Int)+1) (by omega) e1 wt nx P.g.p.lanes P.g.p.room P.g.p.queue P.g.p.rounds P.g.p.every P.g.p.bag P.g.p.start ((hopsOf P.g.t).length:Int) hln1 hH1 U
 have HTA:=Lib.hid (p:=∀U,_) fun U=>tame_runs (withinS ((P.g.t.length:Int)+1) P.g.p.lanes ((hopsOf P.g.t).length:Int) {s with wi:=true}) U
 have hm2:({withinS ((P.g.t.length:Int)+1) P.g.p.lanes ((hopsOf P.g.t).length:Int) {s with wi:=true}with pos:=0}:Stp)=m:=hm
 rw[hm2]at HTA
 obtain⟨hh1,hh2⟩:0≤m.ln∧m.ln < ((hopsOf P.g.t).length:Int):=by
  rw[←hm];exact inN_ok _ _ hH1
 obtain⟨hx,hxe⟩:∃hx:Nat,m.ln=(hx:Int):=⟨m.ln.toNat,by omega⟩
 have hpos:m.pos=0:=by rw[←hm];rfl
 have hkd2:0≤m.kind∧m.kind≤255:=by rw[←hm];exact hkd
 have HR:=Lib.hid hr
 obtain⟨W1,hW1⟩:∃W1,withinS ((P.g.t.length:Int)+1) P.g.p.lanes ((hopsOf P.g.t).length:Int) {s with wi:=true}=W1:=⟨_,rfl⟩
 rw[hW1]at HWI HTA
 have HHP:=Lib.hid (p:=∀U,Keeps (fun _=>False) w U→_) fun U hU=>fhops_runs ((SysF.calm' h hU).fabR hP.fab) (by omega)
 have HLK:=Lib.hid (p:=∀U,Keeps (fun _=>False) w U→∀i,i < (hopsOf P.g.t).length→_) fun U hU i hi=>flink_ok ((SysF.calm' h hU).fabR hP.fab) i hi
 have HPC:=Lib.hid (p:=∀U,Keeps (fun _=>False) w U→_) fun U hU=>(SysF.calm' h hU).playCells hP
 have H:=Lib.hid h
 have HT:=Lib.hid hT
 have HP:=Lib.hid hP
 have HOK:=Lib.hid hok
 have HPP:=Lib.hid hp
 have hxl:hx < (hopsOf P.g.t).length:=by omega
 obtain⟨nh,hnh⟩:∃nh,(hopsOf P.g.t).length=nh:=⟨_,rfl⟩
 have HNH:=Lib.hid hnh
 rw[hnh]at HWI HHP hxl hh2
 have hb0:=blk_new w (.cells s.cells 33)
 have hk0:Keeps (fun _=>False) w (w.alloc (.cells s.cells 33)):=Keeps.alloc _ _ _
 obtain⟨ka,⟨ma,mb,mc,md⟩,mwi,mln,mrow,mpos,mma⟩:=m
 dsimp only at hh1 hh2 hxe hpos HR hkd2
 obtain⟨hka0,hka1⟩:=hkd2
 subst hxe hpos
 simp only[Int.toNat_natCast]at HR
 obtain⟨kd,⟨xa,xb,xc,xd⟩,wi,ln,rw',ps,mk⟩:=s
 unfold Stp.val
 unfold Stp.cells at hb0 hk0 ⊢
 simp only at hb0 hk0 ⊢
 have HB0:=Lib.hid hb0
 have HK0:=Lib.hid hk0
 obtain⟨z0,z1,z2,z3,z4,z5,z6,z7,z8,z9,zf⟩:=OpBox.all (s:=⟨kd,⟨xa,xb,xc,xd⟩,wi,ln,rw',ps,mk⟩) hb0
 simp only at z0 z1 z2 z3 z4 z5 z6 z7 z8 z9
 clear h hT hP hok hp hcnt ht1 hln1 hr hm hm2 hH1 hW1 hnh hb0 hk0
 go_enter Tryz.func8,Tryz.ntmps8
 go_wp2_with fail
 have hbZ:OpBox (w.alloc (.cells #[.int .u8 kd, .int .i64 xa, .int .i64 xb, .int .i64 xc, .int .u32 xd, .bool true, .int .i64 ln, .int .i64 rw', .int .i64 ps, .int .u8 mk] 33)) w.heap.size ⟨kd,⟨xa,xb,xc,xd⟩,true,ln,rw',ps,mk⟩:=blk_new w _
 have hkZ:Keeps (fun _=>False) w (w.alloc (.cells #[.int .u8 kd, .int .i64 xa, .int .i64 xb, .int .i64 xc, .int .u32 xd, .bool true, .int .i64 ln, .int .i64 rw', .int .i64 ps, .int .u8 mk] 33)):=Keeps.alloc _ _ _
 clear z0 z1 z2 z3 z4 z5 z6 z7 z8 z9 zf HB0 HK0
 generalize w.alloc (.cells #[.int .u8 kd, .int .i64 xa, .int .i64 xb, .int .i64 xc, .int .u32 xd, .bool true, .int .i64 ln, .int .i64 rw', .int .i64 ps, .int .u8 mk] 33)=Z at*
 obtain⟨b0,hb0⟩:∃b0,w.heap.size=b0:=⟨_,rfl⟩
 have HBE:=Lib.hid hb0
 rw[hb0]at hbZ ⊢
 clear hb0
 have hfact:=fun(U:World) (hU:Keeps (fun _=>False) Z U)=>And.intro (OpBox.all (show OpBox U b0 ⟨kd,⟨xa,xb,xc,xd⟩,true,ln,rw',ps,mk⟩from blk_keeps hU hbZ (fun h=>h))) (HPC.out U (hkZ.trans hU))
 dsimp only at hfact
 have HF:=Lib.hid hfact
 clear hfact
 have hdZ:Keeps (fun _=>False) Z Z.drew:=Keeps.drew _ _
 have HKZ:=Lib.hid hkZ
 have HBZ:=Lib.hid hbZ
 unfold Stp.val Stp.cells at HWI HTA
 simp only at HWI HTA
 obtain⟨PM,hPM⟩:∃PM:World→Prop,PM=fun W=>OpBox W b0 ⟨ka,⟨ma,mb,mc,md⟩,mwi,hx,mrow,0,mma⟩∧Keeps (fun k=>k=b0) Z W:=⟨_,rfl⟩
 have hPF:∀Y,Keeps (fun _=>False) Z Y→PM ((((((((((Y.setCell ⟨b0,0,none⟩ (.int .u8 ka)).setCell ⟨b0,1,none⟩ (.int .i64 ma)).setCell ⟨b0,2,none⟩ (.int .i64 mb)).setCell ⟨b0,3,none⟩ (.int .i64 mc)).setCell ⟨b0,4,none⟩ (.int .u32 md)).setCell ⟨b0,5,none⟩ (.bool mwi)).setCell ⟨b0,6,none⟩ (.int .i64 hx)).setCell ⟨b0,7,none⟩ (.int .i64 mrow)).setCell ⟨b0,8,none⟩ (.int .i64 0)).setCell ⟨b0,9,none⟩ (.int .u8 mma)):=fun Y hkY=>by
  obtain⟨hb,hk⟩:=set10 (blk_keeps hkY hbZ (fun h=>h)) (.int .u8 ka) (.int .i64 ma) (.int .i64 mb) (.int .i64 mc) (.int .u32 md) (.bool mwi) (.int .i64 hx) (.int .i64 mrow) (.int .i64 0) (.int .u8 mma)
  generalize ((((((((((Y.setCell ⟨b0,0,none⟩ (.int .u8 ka)).setCell ⟨b0,1,none⟩ (.int .i64 ma)).setCell ⟨b0,2,none⟩ (.int .i64 mb)).setCell ⟨b0,3,none⟩ (.int .i64 mc)).setCell ⟨b0,4,none⟩ (.int .u32 md)).setCell ⟨b0,5,none⟩ (.bool mwi)).setCell ⟨b0,6,none⟩ (.int .i64 hx)).setCell ⟨b0,7,none⟩ (.int .i64 mrow)).setCell ⟨b0,8,none⟩ (.int .i64 0)).setCell ⟨b0,9,none⟩ (.int .u8 mma))=N at hb hk ⊢
  rw[hPM]
  exact⟨hb,(hkY.mono (fun _ _ h=>h.elim)).trans hk⟩
 have HPF:=Lib.hid hPF
 have HPM:=Lib.hid hPM
 clear hPM hkZ hbZ hPF
 obtain⟨⟨x0,x1,x2,x3,x4,x5,x6,x7,x8,x9,_⟩,y0,y1,y2,y3,y4,y5,y6,y7,y8,y9,y10,y11⟩:=HF.out _ hdZ
 refine wp_mid 7 13 PM ?_ ?_
 ·intro M hM
  have HMM:=Lib.hid hM
  clear hM
  go_region_law (first
   | (go_simp;go_at_call 27;refine(HHP.out Z.drew (HKZ.out.trans hdZ)).mono ?_;rintro e U ⟨Ah,ch,rfl,_,hU,_⟩;obtain⟨⟨u0,u1,u2,u3,u4,u5,u6,u7,u8,u9,_⟩,v0,v1,v2,v3,v4,v5,v6,v7,v8,v9,v10,v11⟩:=HF.out _ (hdZ.trans hU))
   | (go_simp;go_at_call 26;refine(HWI.out P.pe P.pw P.pn _).mono ?_;rintro e V ⟨rfl,hV⟩)
   | (go_simp;go_at_call 25;refine(HTA.out _).mono ?_;rintro e Y ⟨rfl,hY⟩;obtain⟨⟨t0,t1,t2,t3,t4,t5,t6,t7,t8,t9,tf⟩,_⟩:=HF.out _ ((hdZ.trans hU).trans (hV.trans hY))))
  all_goals
   clear x0 x1 x2 x3 x4 x5 x6 x7 x8 x9 y0 y1 y2 y3 y4 y5 y6 y7 y8 y9 y10 y11 u0 u1 u2 u3 u4 u5 u6 u7 u8 u9 v0 v1 v2 v3 v4 v5 v6 v7 v8 v9 v10 v11 t0 t1 t2 t3 t4 t5 t6 t7 t8 t9 tf
   exact HMM.out _ _ (mid_frame rfl rfl rfl) (HPF.out Y ((hdZ.trans hU).trans (hV.trans hY)))
 ·intro fu W hPW
  rw[HPM.out]at hPW
  obtain⟨hbW,hkW⟩:=hPW
  clear x0 x1 x2 x3 x4 x5 x6 x7 x8 x9 y0 y1 y2 y3 y4 y5 y6 y7 y8 y9 y10 y11
  rw[show List.range 13=[0,1,2,3,4,5,6,7,8,9,10,11,12]from rfl]
  simp only[List.take_succ_cons,List.take_zero,List.drop_succ_cons,List.drop_zero,List.cons_append,List.nil_append,List.map_cons,List.map_nil]
  have hkW2:Keeps (fun _=>False) w W:=HKZ.out.then hkW (fun i hi e=>by have:=HBE.out;omega)
  have HBW:=Lib.hid hbW
  have HKW:=Lib.hid hkW2
  obtain⟨x0,x1,x2,x3,x4,x5,x6,x7,x8,x9,_⟩:=OpBox.all hbW
  simp only at x0 x1 x2 x3 x4 x5 x6 x7 x8 x9
  have y11:=(HPC.out W hkW2).2.2.2.2.2.2.2.2.2.2.2
  clear hbW hkW hkW2 HF hdZ HKZ HBZ HPM HWI HTA HHP HPF
  clear x0 x1 x2 x3 x4 x5 x7 x8 x9
  go_wp2_with fail
  have r6:=cell_regrown x6
  have r11:=cell_regrown y11
  have Q1:=Lib.hid (p:=∀d os,_) fun d os=>quietF (W:=W) d os (fun A hA=>HLK.out A (HKW.out.trans hA) hx (by rw[HNH.out];exact hxl))
  clear x6 y11
  refine wp_region_quiet_below (by kernel_rfl) (by kernel_rfl) ?_
  repeat (go_big_quiet_step ((go_at_call 20;exact Q1.out _ _)))
  refine wpQuiet_nil ?_
  intro w' hw'
  obtain⟨⟨nq,osq⟩,hw''⟩:=hw'
  have hkV:Keeps (fun _=>False) W (grow (redrawn W nq) osq):=Keeps.of_below (below_regrown W nq osq)
  subst hw''
  clear Q1 r6 r11
  generalize grow (redrawn W nq) osq=V at*
  have HBV:=Lib.hid (show OpBox V b0 _ from blk_keeps hkV HBW.out (fun h=>h))
  have HKV:=Lib.hid (HKW.out.trans hkV)
  clear hkV HBW HKW HLK
  obtain⟨x0,x1,x2,x3,x4,x5,x6,x7,x8,x9,xf⟩:=OpBox.all HBV.out
  simp only at x0 x1 x2 x3 x4 x5 x6 x7 x8 x9
  have hm16:ka % 16 < 16:=by omega
  have hm0:0≤ka % 16:=by omega
  by_cases c4:ka % 16 < 4
  ·have hrr:=HR.out
   rw[if_pos c4]at hrr
   have hdV:Keeps (fun _=>False) V V.drew:=Keeps.drew _ _
   have hSV:=SysF.calm' H.out (HKV.out.trans hdV)
   have hy:=hSV.playF HP.out
   have hbd:OpBox V.drew b0 _:=blk_keeps hdV HBV.out (fun h=>h)
   have hnone:o b0=none:=SysF.fresh H.out (by rw[HBE.out];exact Nat.le_refl _)
   have hinj:=finject_runs hSV HP.out.fab HOK.out ⟨ma,mb,mc,md⟩
   obtain⟨I,hI⟩:∃I,injF P.g p.fs ⟨ma,mb,mc,md⟩=I:=⟨_,rfl⟩
   have hr2:(⟨I.1,if I.2=0 then p.sent ++ [⟨ma,mb,mc,md⟩]else p.sent,p.over⟩:PlayS)=r:=by rw[←hI];exact hrr
   rw[hI]at hinj
   obtain⟨fs2,er⟩:=I
   unfold Pkt.val at hinj
   dsimp only at hinj hr2
   have HRR:=Lib.hid hr2
   have HIN:=Lib.hid hinj
   have hsd:V.drew.cell? ⟨P.b,11,none⟩=some (.pointer (some ⟨P.fa.fb,0,none⟩))∧V.drew.cell? ⟨b0,1,none⟩=some (.int .i64 ma)∧V.drew.cell? ⟨b0,2,none⟩=some (.int .i64 mb)∧V.drew.cell? ⟨b0,3,none⟩=some (.int .i64 mc)∧V.drew.cell? ⟨b0,4,none⟩=some (.int .u32 md):=by
    obtain⟨_,q1,q2,q3,q4,_⟩:=hbd.all
    exact⟨hy,q1,q2,q3,q4⟩
   have HW:=Lib.hid (p:=∀W,Next σ V.drew o f P.fa P.g W fs2→PNext σ w o f pf P W ⟨fs2,p.sent,p.over⟩∧OpBox W b0 ⟨ka,⟨ma,mb,mc,md⟩,mwi,hx,mrow,0,mma⟩∧W.cell? ⟨P.b,11,none⟩=some (.pointer (some ⟨P.fa.fb,0,none⟩))∧W.cell? ⟨b0,1,none⟩=some (.int .i64 ma)∧W.cell? ⟨b0,2,none⟩=some (.int .i64 mb)∧W.cell? ⟨b0,3,none⟩=some (.int .i64 mc)∧W.cell? ⟨b0,4,none⟩=some (.int .u32 md)) fun W hW=>by
    have h1:=PNext.from_ (HKV.out.trans hdV) (PNext.fab HP.out (Ne.symm hne) hW)
    obtain⟨σ2,o2,k1,k2,k3,k4⟩:=hW
    have hb:=blk_keeps k2.1 hbd (by rw[hnone];decide)
    obtain⟨σ3,o3,l1,l2,l3,l4⟩:=h1
    obtain⟨_,q1,q2,q3,q4,_⟩:=OpBox.all hb
    exact⟨⟨σ3,o3,l1,l2,l3,l4⟩,hb,l1.playF l3,q1,q2,q3,q4⟩
   clear hrr hr2 hSV hy hbd hnone hinj hI HR x1 x2 x3 x4 x5 x6 x7 x8 x9 xf
   go_wp2_with fail
   clear x0
   go_region_held3 (fun Z=>Z.cell? ⟨P.b,11,none⟩=some (.pointer (some ⟨P.fa.fb,0,none⟩))∧Z.cell? ⟨b0,1,none⟩=some (.int .i64 ma)∧Z.cell? ⟨b0,2,none⟩=some (.int .i64 mb)∧Z.cell? ⟨b0,3,none⟩=some (.int .i64 mc)∧Z.cell? ⟨b0,4,none⟩=some (.int .u32 md))
    (with_reducible first | exact hsd | exact hsW | go_keep)
    (first | (go_at_call 12;refine HIN.out.mono ?_;rintro e W ⟨rfl,hW⟩;obtain⟨hPW,hBW,hsW⟩:=HW.out W hW))
   have HPW:=Lib.hid hPW
   have HBW:=Lib.hid hBW
   clear hPW hBW hsW hW hsd HW HIN hdV
   by_cases h0:er=0
   ·have hb:(er == 0)=true:=by rw[beq_iff_eq];exact h0
    have hrr:=HRR.out
    rw[if_pos h0]at hrr
    have HRR2:=Lib.hid hrr
    obtain⟨σ2,o2,k1,k2,k3,k4⟩:=HPW.out
    obtain⟨sv,R⟩:=k1.playR k3
    obtain⟨sA,sc,hsv,_,_⟩:=R.row.shape
    subst hsv
    have hkA:Keeps (fun _=>False) W (W.alloc (.cells #[.int .i64 ma, .int .i64 mb, .int .i64 mc, .int .u32 md] 31)).drew:=(Keeps.alloc _ _ _).trans (Keeps.drew _ _)
    have HFIN:=Lib.hid (p:=∀A1 c1 w1,QS w1 31 4 (.slice A1 (p.sent.length+1) c1) (p.sent.length+1) (pcells p.sent ++ (⟨ma,mb,mc,md⟩:Pkt).cells)→(W.alloc (.cells #[.int .i64 ma, .int .i64 mb, .int .i64 mc, .int .u32 md] 31)).drew.grownBy w1 (Value.slice sA p.sent.length sc).ownBlock→((Value.slice A1 (p.sent.length+1) c1).ownBlock=(Value.slice sA p.sent.length sc).ownBlock∨∃b,(Value.slice A1 (p.sent.length+1) c1).ownBlock=some b∧(W.alloc (.cells #[.int .i64 ma, .int .i64 mb, .int .i64 mc, .int .u32 md] 31)).drew.heap.size≤b)→PNext σ w o f pf P (w1.setCell ⟨P.b,12,none⟩ (.slice A1 (p.sent.length+1) c1)) ⟨fs2,p.sent ++ [⟨ma,mb,mc,md⟩],p.over⟩) fun A1 c1 w1 hq1 hg1 ho1=>by
     obtain⟨σ3,o3,l1,l2,l3,l4⟩:=SysF.stepSent k1 k3 hne R hkA hg1 hq1 ho1
     exact⟨σ3,o3,l1,k2.trans l2,l3,k4.trans l4⟩
    have HB:=Lib.hid (p:=∀w1,(W.alloc (.cells #[.int .i64 ma, .int .i64 mb, .int .i64 mc, .int .u32 md] 31)).drew.grownBy w1 (Value.slice sA p.sent.length sc).ownBlock→w1.cell? ⟨P.b,12,none⟩=some (.slice sA p.sent.length sc)∧w1.frozen? ⟨P.b,12,none⟩=false) fun w1 hg1=>by
     have hb1:=blk_keeps (Keeps.grown hg1 (fun _ h=>h)) (blk_keeps hkA R.box (fun h=>h)) (fun e=>(R.own _ e).2 rfl)
     exact⟨by rw[blk_cell hb1];rfl,blk_frozen hb1 12⟩
    have c12:=R.cells.2.1
    have hd:Keeps (fun _=>False) W W.drew:=Keeps.drew _ _
    have d12:=hd.cell c12 (fun h=>h)
    have a12:=hkA.cell c12 (fun h=>h)
    obtain⟨_,q1,q2,q3,q4,_⟩:=OpBox.all HBW.out
    dsimp only at q1 q2 q3 q4
    have d1:=hd.cell q1 (fun h=>h)
    have d2:=hd.cell q2 (fun h=>h)
    have d3:=hd.cell q3 (fun h=>h)
    have d4:=hd.cell q4 (fun h=>h)
    have hQ:QS (W.alloc (.cells #[.int .i64 ma, .int .i64 mb, .int .i64 mc, .int .u32 md] 31)).drew 31 4 (.slice sA p.sent.length sc) p.sent.length (pcells p.sent):=R.row.keeps hkA (fun _ _ h=>h)
    have hS:Src Tryz.prog 4 40 (.slice (some ⟨W.heap.size,0,none⟩) 1 1) 1 [.int .i64 ma, .int .i64 mb, .int .i64 mc, .int .u32 md] (W.alloc (.cells #[.int .i64 ma, .int .i64 mb, .int .i64 mc, .int .u32 md] 31)).drew:=
     src_blk Tryz.underlying40 (e:=31) (cur:= #[.int .i64 ma, .int .i64 mb, .int .i64 mc, .int .u32 md]) (blk_new W (.cells #[.int .i64 ma, .int .i64 mb, .int .i64 mc, .int .u32 md] 31)) rfl (by intro jj hjj';match jj,hjj' with | 0,_=>rfl | 1,_=>rfl | 2,_=>rfl | 3,_=>rfl) (by intro u hu;simp at hu;rcases hu with rfl | rfl | rfl | rfl <;>rfl)
    have h32:0 < 32:=by decide
    have hbnd:(p.sent.length+1)*32≤140737488355328:=by omega
    clear k1 k2 k3 k4 R hkA c12 hd q1 q2 q3 q4 hrr h0 HRR
    generalize p.sent.length=n at*
    go_wp2_with fail
    go_region_law (refine step_append_QS rfl (.tmp 47) (.tmp 50) 40 40 rfl 31 _ 4 32 Tryz.underlying40 info_pkt rfl _ n (pcells p.sent) rfl hQ _ 1 _ rfl hS h32 hbnd ?_;intro A1 c1 w1 hq1 hg1 ho1;obtain⟨hc12,hf12⟩:=HB.out w1 hg1)
    all_goals
     have HN:=Lib.hid (HFIN.out A1 c1 w1 hq1 hg1 ho1)
     clear hq1 hg1 ho1 hc12 hf12 hQ hS HB HFIN d12 a12 d1 d2 d3 d4
     go_wp2_with fail
     go_end0
     rw[←HRR2.out]
     exact⟨rfl,HN.out⟩
   ·have hb:(er == 0)=false:=by rw[beq_eq_false_iff_ne];exact h0
    have hrr:=HRR.out
    rw[if_neg h0]at hrr
    have HRR2:=Lib.hid hrr
    clear hrr h0 HRR
    go_wp2_with fail
    go_end0
    rw[←HRR2.out]
    exact⟨rfl,HPW.out⟩
  ·by_cases c8:ka % 16 < 8
   ·have hrr:=HR.out
    rw[if_neg c4,if_pos c8]at hrr
    have hdV:Keeps (fun _=>False) V V.drew:=Keeps.drew _ _
    have hSV:=SysF.calm' H.out (HKV.out.trans hdV)
    have hy:=hSV.playF HP.out
    have hbd:OpBox V.drew b0 _:=blk_keeps hdV HBV.out (fun h=>h)
    have hnone:o b0=none:=SysF.fresh H.out (by rw[HBE.out];exact Nat.le_refl _)
    have hdl:=deliver_runs hSV HP.out.fab HOK.out hx (by rw[HNH.out];exact hxl) mrow
    obtain⟨I,hI⟩:∃I,delF P.g p.fs hx mrow=I:=⟨_,rfl⟩
    have hr2:(⟨I.1,p.sent,if I.2=61 then wrap64 (p.over+1)else p.over⟩:PlayS)=r:=by rw[←hI];exact hrr
    rw[hI]at hdl
    obtain⟨fs2,er⟩:=I
    dsimp only at hdl hr2
    have HRR:=Lib.hid hr2
    have HDL:=Lib.hid hdl
    have hsd:V.drew.cell? ⟨P.b,11,none⟩=some (.pointer (some ⟨P.fa.fb,0,none⟩))∧V.drew.cell? ⟨b0,6,none⟩=some (.int .i64 (hx:Int))∧V.drew.cell? ⟨b0,7,none⟩=some (.int .i64 mrow):=by
     obtain⟨_,_,_,_,_,_,q6,q7,_⟩:=hbd.all
     exact⟨hy,q6,q7⟩
    have HW:=Lib.hid (p:=∀W,Next σ V.drew o f P.fa P.g W fs2→PNext σ w o f pf P W ⟨fs2,p.sent,p.over⟩∧W.cell? ⟨P.b,11,none⟩=some (.pointer (some ⟨P.fa.fb,0,none⟩))∧W.cell? ⟨b0,6,none⟩=some (.int .i64 (hx:Int))∧W.cell? ⟨b0,7,none⟩=some (.int .i64 mrow)) fun W hW=>by
     have h1:=PNext.from_ (HKV.out.trans hdV) (PNext.fab HP.out (Ne.symm hne) hW)
     obtain⟨σ2,o2,k1,k2,k3,k4⟩:=hW
     have hb:=blk_keeps k2.1 hbd (by rw[hnone];decide)
     obtain⟨σ3,o3,l1,l2,l3,l4⟩:=h1
     obtain⟨_,_,_,_,_,_,q6,q7,_⟩:=OpBox.all hb
     exact⟨⟨σ3,o3,l1,l2,l3,l4⟩,l1.playF l3,q6,q7⟩
    clear hrr hr2 hSV hy hbd hnone hdl hI HR x1 x2 x3 x4 x5 x6 x7 x8 x9 xf
    go_wp2_with fail
    clear x0
    go_region_held3 (fun Z=>Z.cell? ⟨P.b,11,none⟩=some (.pointer (some ⟨P.fa.fb,0,none⟩))∧Z.cell? ⟨b0,6,none⟩=some (.int .i64 (hx:Int))∧Z.cell? ⟨b0,7,none⟩=some (.int .i64 mrow))
     (with_reducible first | exact hsd | exact hsW | go_keep)
     (first | (go_at_call 28;refine HDL.out.mono ?_;rintro e W ⟨rfl,hW⟩;obtain⟨hPW,hsW⟩:=HW.out W hW))
    have HPW:=Lib.hid hPW
    clear hPW hsW hW hsd HW HDL hdV
    by_cases h61:er=61
    ·have hb:(er == 61)=true:=by rw[beq_iff_eq];exact h61
     have hrr:=HRR.out
     rw[if_pos h61]at hrr
     have HRR2:=Lib.hid hrr
     obtain⟨σ2,o2,k1,k2,k3,k4⟩:=HPW.out
     obtain⟨sv,R⟩:=k1.playR k3
     have c13:=R.cells.2.2
     have f13:W.frozen? ⟨P.b,13,none⟩=false:=blk_frozen R.box 13
     have hfin:∀y,PNext σ w o f pf P (W.setCell ⟨P.b,13,none⟩ (.int .i64 y)) ⟨fs2,p.sent,y⟩:=fun y=>by
      obtain⟨σ3,o3,l1,l2,l3,l4⟩:=SysF.stepOver k1 k3 hne y
      exact⟨σ3,o3,l1,k2.trans l2,l3,k4.trans l4⟩
     have HFIN:=Lib.hid hfin
     simp only at c13
     clear k1 k2 k3 k4 R hfin hrr HPW h61 HRR
     go_wp2_with fail
     go_end0
     rw[←HRR2.out]
     exact⟨rfl,HFIN.out _⟩
    ·have hb:(er == 61)=false:=by rw[beq_eq_false_iff_ne];exact h61
     have hrr:=HRR.out
     rw[if_neg h61]at hrr
     have HRR2:=Lib.hid hrr
     clear hrr h61 HRR
     go_wp2_with fail
     go_end0
     rw[←HRR2.out]
     exact⟨rfl,HPW.out⟩
   ·have hSV:=SysF.calm' H.out HKV.out
    have hLV:=hSV.linkV HP.out.fab (i:=hx) (by rw[HNH.out];exact hxl)
    have hrow:=HOK.out.room hx (by rw[HNH.out];exact hxl)
    have hbag:=HPP.out.nums.bag.2
    have HSV:=Lib.hid hSV
    by_cases e8:ka % 16=8
    ·have hrr:=HR.out
     rw[if_neg c4,if_neg c8,if_pos e8]at hrr
     have b8:(ka % 16 == 8)=true:=by rw[beq_iff_eq];exact e8
     have HRR:=Lib.hid hrr
     have HC:=Lib.hid (take_runs (P.fa.lb hx) _ _ _ V hLV mrow)
     clear hrr hSV hLV hrow HR
     go_wp2_with fail
     refine HC.out.mono ?_
     rintro e Y ⟨u,rfl,_,_,hY,hLY⟩
     have HN:=Lib.hid (PNext.from_ HKV.out (PNext.fab HP.out (Ne.symm hne) (SysF.stepLink HSV.out HP.out.fab (by rw[HNH.out];exact hxl) hY (hLY.wider (fun k h=> .inl h) (fun k hk=>hk.elim (fun e=>Nat.lt_of_lt_of_le (Sys.lt HSV.out k _ e) hY.size) (fun e=>e.2))))))
     clear hY hLY HC x0 x1 x2 x3 x4 x5 x6 x7 x8 x9 xf
     go_wp2_with fail
     go_end0
     rw[←HRR.out]
     exact⟨rfl,HN.out⟩
    ·have b8:(ka % 16 == 8)=false:=by rw[beq_eq_false_iff_ne];exact e8
     by_cases e9:ka % 16=9
     ·have hrr:=HR.out
      rw[if_neg c4,if_neg c8,if_neg e8,if_pos e9]at hrr
      have b9:(ka % 16 == 9)=true:=by rw[beq_iff_eq];exact e9
      have HRR:=Lib.hid hrr
      have HC:=Lib.hid (twice_runs (P.fa.lb hx) _ _ _ V hLV hbag hrow mrow)
      clear hrr hSV hLV hrow HR
      go_wp2_with fail
      refine HC.out.mono ?_
      rintro e Y ⟨⟨u,rfl⟩,hY,hLY⟩
      have HN:=Lib.hid (PNext.from_ HKV.out (PNext.fab HP.out (Ne.symm hne) (SysF.stepLink HSV.out HP.out.fab (by rw[HNH.out];exact hxl) hY hLY)))
      clear hY hLY HC x0 x1 x2 x3 x4 x5 x6 x7 x8 x9 xf
      go_wp2_with fail
      go_end0
      rw[←HRR.out]
      exact⟨rfl,HN.out⟩
     ·have b9:(ka % 16 == 9)=false:=by rw[beq_eq_false_iff_ne];exact e9
      by_cases e10:ka % 16=10
      ·have hrr:=HR.out
       rw[if_neg c4,if_neg c8,if_neg e8,if_neg e9,if_pos e10]at hrr
       have b10:(ka % 16 == 10)=true:=by rw[beq_iff_eq];exact e10
       have HRR:=Lib.hid hrr
       have HC:=Lib.hid (bend_runs (P.fa.lb hx) _ _ _ V hLV mrow 0 mma)
       clear hrr hSV hLV hrow HR
       go_wp2_with fail
       refine HC.out.mono ?_
       rintro e Y ⟨⟨u,rfl⟩,hY,hLY⟩
       have HN:=Lib.hid (PNext.from_ HKV.out (PNext.fab HP.out (Ne.symm hne) (SysF.stepLink HSV.out HP.out.fab (by rw[HNH.out];exact hxl) hY (hLY.wider (fun k h=> .inl h) (fun k hk=>hk.elim (fun e=>Nat.lt_of_lt_of_le (Sys.lt HSV.out k _ e) hY.size) (fun e=>e.2))))))
       clear hY hLY HC x0 x1 x2 x3 x4 x5 x6 x7 x8 x9 xf
       go_wp2_with fail
       go_end0
       rw[←HRR.out]
       exact⟨rfl,HN.out⟩
      ·have b10:(ka % 16 == 10)=false:=by rw[beq_eq_false_iff_ne];exact e10
       have htab:=(Ext.keeps o HKV.out).tab HT.out h00
       by_cases c13:ka % 16 < 13
       ·have hrr:=HR.out
        rw[if_neg c4,if_neg c8,if_neg e8,if_neg e9,if_neg e10,if_pos c13]at hrr
        have HRR:=Lib.hid hrr
        have HC:=Lib.hid (ftick_runs hSV htab.1 htab.2 HP.out.fab HOK.out (by omega) _ rfl)
        have y11:=hSV.playF HP.out
        clear hrr hSV hLV hrow HR htab
        go_wp2_with fail
        refine HC.out.mono ?_
        rintro e Y ⟨rfl,hY⟩
        have HN:=Lib.hid (PNext.from_ HKV.out (PNext.fab HP.out (Ne.symm hne) hY))
        clear hY HC x0 x1 x2 x3 x4 x5 x6 x7 x8 x9 xf y11
        go_wp2_with fail
        go_end0
        rw[←HRR.out]
        exact⟨rfl,HN.out⟩
       ·have hrr:=HR.out
        rw[if_neg c4,if_neg c8,if_neg e8,if_neg e9,if_neg e10,if_neg c13]at hrr
        have HRR:=Lib.hid hrr
        have HC:=Lib.hid (pround_runs hSV htab.1 htab.2 HP.out hne HOK.out (by omega))
        clear hrr hSV hLV hrow HR htab
        go_wp2_with fail
        refine HC.out.mono ?_
        rintro e Y ⟨rfl,hY⟩
        have HN:=Lib.hid (PNext.from_ HKV.out hY)
        clear hY HC x0 x1 x2 x3 x4 x5 x6 x7 x8 x9 xf
        go_wp2_with fail
        go_end0
        rw[←HRR.out]
        exact⟨rfl,HN.out⟩
end
end Go.Proofs.YtebnflpanfmicaaGreatDoor
namespace Go.Proofs.YtebnflpanfmicaaGreatDoor
open Go.RowKit
def gotF (s:FabS):Nat→List Pkt
 | 0=>[]
 | v+1=>gotF s v ++ (s.nd v).q 3
section
variable {σ:Sig} {w:World} {o:Nat→Option Cmp} {f pf:Nat} {P:PlayA} {s:PlayS} {c:Nat}
set_option maxRecDepth 100000 in
set_option maxHeartbeats 16000000 in
theorem pgot_runs (h:SysF σ w o) (hP:PlayAt σ f pf P s) (hok:FabOk P.g s.fs c) (hc:c≤700000000) (N:Nat) (hN:(gotF s.fs (P.g.t.length+1)).length=N):
  Calls Tryz.prog 11 #[.pointer (some ⟨P.b,0,none⟩)] w fun e w'=>∃A cp,e= .returned (.slice A N cp)∧QS w' 31 4 (.slice A N cp) N (pcells (gotF s.fs (P.g.t.length+1)))∧Keeps (fun _=>False) w w'∧∀k,(Value.slice A N cp).ownBlock=some k→w.heap.size≤k:=by
 have hp:=h.planS hP.fab.geo
 have ht5:=hp.t5
 have HG:=Lib.hid (p:=∀U,Keeps (fun _=>False) w U→∀v:Nat,v≤P.g.t.length→∀m,((s.fs.nd v).q 3).length=m→_) fun U hU v hv m hm=>fgot_runs (SysF.calm' h hU) hP.fab v hv (by have:=(hok.node v hv).came;omega) m hm
 have HCM:=Lib.hid (p:=∀v:Nat,v≤P.g.t.length→((s.fs.nd v).q 3).length≤c) fun v hv=>(hok.node v hv).came
 have HC:=Lib.hid (p:=∀U,Keeps (fun _=>False) w U→U.cell? ⟨P.b,0,none⟩=some (.int .i64 ((P.g.t.length:Int)+1))∧U.cell? ⟨P.b,11,none⟩=some (.pointer (some ⟨P.fa.fb,0,none⟩))) fun U hU=>by
  obtain⟨sv,R⟩:=(SysF.calm' h hU).playR hP
  exact⟨by rw[blk_cell R.box];rfl,R.cells.1⟩
 obtain⟨T,hT⟩:∃T,P.g.t.length+1=T:=⟨_,rfl⟩
 have hT2:(P.g.t.length:Int)+1=(T:Int):=by omega
 have hT6:T≤6:=by omega
 have HT3:=Lib.hid (p:=∀v:Nat,v < T→v≤P.g.t.length) fun v hv=>by omega
 rw[hT2]at HC
 rw[hT]at hN ⊢
 have HN:=Lib.hid hN
 clear h hP hok hp ht5 hT hT2 hN
 go_enter Tryz.func11,Tryz.ntmps11
 go_wp2_with fail
 go_loopw [3,4] (fun l c' wr=>∃(v n:Nat) (A:Option Addr) (cp:Nat),v≤T∧c'= .int .i64 (v:Int)∧l= .slice A n cp∧(gotF s.fs v).length=n∧n≤v*c∧QS wr 31 4 (.slice A n cp) n (pcells (gotF s.fs v))∧(∀k,(Value.slice A n cp).ownBlock=some k→w.heap.size≤k)∧Keeps (fun _=>False) w wr) (fun _ c _=>T - (intOf c).toNat)
 case atStart=>exact⟨0,0,none,0,Nat.zero_le _,rfl,rfl,rfl,Nat.zero_le _,QS.nil _ _ _,(fun k e=>by cases e),Keeps.refl _ _⟩
 case round=>
  obtain⟨v,n,A,cp,hv,rfl,rfl,hl,hn,hq,ho,hk⟩:=hrel
  obtain⟨c0,c11⟩:=HC.out wr hk
  by_cases hvT:v < T
  ·have hvi:(v:Int) < (T:Int):=by omega
   obtain⟨m,hm⟩:∃m,((s.fs.nd v).q 3).length=m:=⟨_,rfl⟩
   have hmc:m≤c:=by rw[←hm];exact HCM.out v (HT3.out v hvT)
   have hvc:(v+1)*c=v*c+c:=Nat.succ_mul v c
   have hvc2:(v+1)*c≤6*700000000:=Nat.mul_le_mul (by omega) hc
   have hg:gotF s.fs (v+1)=gotF s.fs v ++ (s.fs.nd v).q 3:=rfl
   have HGV:=Lib.hid (HG.out wr hk v (HT3.out v hvT) m hm)
   have HM:=Lib.hid hm
   have HL:=Lib.hid hl
   have HQ:=Lib.hid hq
   have HO:=Lib.hid ho
   have HK:=Lib.hid hk
   have HGG:=Lib.hid hg
   clear hm hl hq ho hk hg
   generalize gotF s.fs v=gv at*
   generalize (s.fs.nd v).q 3=qv at*
   go_wp2_with fail
   refine HGV.out.mono ?_
   rintro e U ⟨B,bp,rfl,hqB,hkU,hoB⟩
   have hqA:=HQ.out.keeps hkU (fun _ _ h=>h)
   have hsrc:=hqB.src (tx:=40) Tryz.underlying40 (pcells_one _)
   have hbnd:(n+m)*32≤140737488355328:=by omega
   have HKU:=Lib.hid (HK.out.trans hkU)
   have HQA:=Lib.hid hqA
   clear hqB hkU hoB c0 c11 HGV
   go_wp2_with (at_builtin;refine wpList_append_QS rfl _ _ 40 40 rfl 31 _ 4 32 Tryz.underlying40 info_pkt rfl _ n (pcells gv) rfl hqA _ m (pcells qv) rfl hsrc (by decide) hbnd ?_;intro A1 c1 w1 hq1 hg1 ho1)
   have hk1:Keeps (fun k=>(Value.slice A n cp).ownBlock=some k) U w1:=Keeps.grown hg1 (fun _ h=>h)
   have hkw:Keeps (fun _=>False) w w1:=HKU.out.then hk1 (fun i hi e=>by have:=HO.out i e;omega)
   have hown:∀k,(Value.slice A1 (n+m) c1).ownBlock=some k→w.heap.size≤k:=fun k e=>by
    rcases ho1 with h | ⟨b,h,hb⟩
    ·exact HO.out k (h▸e)
    ·rw[e]at h;cases h
     have:=HKU.out.size
     omega
   rw[←pcells_append,←HGG.out]at hq1
   have HQ1:=Lib.hid hq1
   have HOW:=Lib.hid hown
   have HKW:=Lib.hid hkw
   clear hq1 hown hkw hk1 hg1 ho1 hqA hsrc
   go_wp2_with fail
   go_roundw
   case rel=>exact⟨v+1,n+m,A1,c1,by omega,by go_num,rfl,by rw[HGG.out,List.length_append,HL.out,HM.out],by omega,HQ1.out,HOW.out,HKW.out⟩
   case measure=>simp[intOf];omega
  ·obtain rfl:v=T:=by omega
   have hvi:¬((v:Int) < (v:Int)):=by omega
   obtain rfl:n=N:=by rw[←hl];exact HN.out
   have HQ:=Lib.hid hq
   have HO:=Lib.hid ho
   have HK:=Lib.hid hk
   clear hq ho hk hl
   go_wp2_with fail
   go_ret
   exact⟨A,cp,rfl,HQ.out,HK.out,HO.out⟩
end
end Go.Proofs.YtebnflpanfmicaaGreatDoor
