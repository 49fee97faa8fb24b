/-
  Part 30 of the proof: TopPlay, TopStepP, TopNewP, TopMid.
-/
import Derived.Test.YtebnflpanfmicaaGreatDoorPkBC
import Derived.Test.YtebnflpanfmicaaGreatDoorPkAQ
import Derived.Deep.RegionLaw
set_option linter.unusedVariables false
set_option linter.unusedSimpArgs false
set_option linter.unusedSectionVars false
namespace Go.Proofs.YtebnflpanfmicaaGreatDoor
open Go.RowKit
structure PlayA where
 fa:FabA
 g:Geo
 b:Nat
 pe:Value
 pw:Value
 pn:Value
structure PlayS where
 fs:FabS
 sent:List Pkt
 over:Int
structure PlayR (w:World) (S:Nat→Prop) (P:PlayA) (sent:List Pkt) (over:Int) (sv:Value):Prop where
 box:w.heap[P.b]? =some (.cells #[.int .i64 ((P.g.t.length:Int)+1),P.pe, .int .i64 P.g.p.lanes, .int .i64 P.g.p.room, .int .i64 P.g.p.queue, .int .i64 P.g.p.rounds, .int .i64 P.g.p.every, .int .i64 P.g.p.bag,P.pw, .int .u16 P.g.p.start,P.pn, .pointer (some ⟨P.fa.fb,0,none⟩),sv, .int .i64 over] 42 (0,0))
 row:QS w 31 4 sv sent.length (pcells sent)
 sb:S P.b
 own:∀k,sv.ownBlock=some k→S k∧k≠P.b
 lt:∀k,S k→k < w.heap.size
theorem PlayR.keeps {w w':World} {S F:Nat→Prop} {P:PlayA} {sent:List Pkt} {over:Int} {sv:Value} (h:PlayR w S P sent over sv) (hk:Keeps F w w') (hF:∀k,S k→¬F k):PlayR w' S P sent over sv:=
 ⟨blk_keeps hk h.box (hF _ h.sb),h.row.keeps hk (fun k e=>hF k (h.own k e).1),h.sb,h.own,fun k hk'=>Nat.lt_of_lt_of_le (h.lt k hk') hk.size⟩
def playPart (P:PlayA) (sent:List Pkt) (over:Int):Part:=
 ⟨fun w S=>∃sv,PlayR w S P sent over sv,fun h hk hF=>by obtain⟨sv,h⟩:=h;exact⟨sv,h.keeps hk hF⟩,fun h=>by obtain⟨sv,h⟩:=h;exact h.lt⟩
structure PlayAt (σ:Sig) (f pf:Nat) (P:PlayA) (s:PlayS):Prop where
 fab:FabAt σ f P.fa P.g s.fs
 play:σ.fab pf=playPart P s.sent s.over
def AgreeP (σ σ':Sig) (f pf:Nat):Prop:=∀f',f'≠f→f'≠pf→σ'.geo f'=σ.geo f'∧σ'.fab f'=σ.fab f'∧(∀v,σ'.node f' v=σ.node f' v)∧∀h,σ'.link f' h=σ.link f' h
theorem AgreeP.refl (σ:Sig) (f pf:Nat):AgreeP σ σ f pf:=fun _ _ _=>⟨rfl,rfl,fun _=>rfl,fun _=>rfl⟩
theorem AgreeP.trans {σ σ' σ'':Sig} {f pf:Nat} (h:AgreeP σ σ' f pf) (k:AgreeP σ' σ'' f pf):AgreeP σ σ'' f pf:=fun f' h1 h2=>
 ⟨(k f' h1 h2).1.trans (h f' h1 h2).1,(k f' h1 h2).2.1.trans (h f' h1 h2).2.1,fun v=>((k f' h1 h2).2.2.1 v).trans ((h f' h1 h2).2.2.1 v),fun i=>((k f' h1 h2).2.2.2 i).trans ((h f' h1 h2).2.2.2 i)⟩
theorem PlayAt.agree {σ σ':Sig} {f pf f' pf':Nat} {P:PlayA} {s:PlayS} (h:PlayAt σ f' pf' P s) (k:AgreeP σ σ' f pf) (h1:f'≠f) (h2:f'≠pf) (h3:pf'≠f) (h4:pf'≠pf):PlayAt σ' f' pf' P s:=by
 obtain⟨k1,k2,k3,k4⟩:=k f' h1 h2
 exact⟨⟨k1.trans h.fab.geo,k2.trans h.fab.fab,fun v hv=>(k3 v).trans (h.fab.node v hv),fun i hi=>(k4 i).trans (h.fab.link i hi),h.fab.lv⟩,(k pf' h3 h4).2.1.trans h.play⟩
def PNext (σ:Sig) (w:World) (o:Nat→Option Cmp) (f pf:Nat) (P:PlayA) (w':World) (s':PlayS):Prop:=
 ∃σ' o',SysF σ' w' o'∧Ext o w o' w'∧PlayAt σ' f pf P s'∧AgreeP σ σ' f pf
section
variable {σ:Sig} {w w' w'':World} {o:Nat→Option Cmp} {f pf:Nat} {P:PlayA} {s s' s'':PlayS} {c:Nat}
theorem PNext.refl (h:SysF σ w o) (hP:PlayAt σ f pf P s):PNext σ w o f pf P w s:=⟨σ,o,h,Ext.refl _ _,hP,AgreeP.refl _ _ _⟩
theorem PNext.more (h:PNext σ w o f pf P w' s') (k:∀σ1 o1,SysF σ1 w' o1→Ext o w o1 w'→PlayAt σ1 f pf P s'→PNext σ1 w' o1 f pf P w'' s''):PNext σ w o f pf P w'' s'':=by
 obtain⟨σ1,o1,h1,h2,h3,h4⟩:=h
 obtain⟨σ2,o2,k1,k2,k3,k4⟩:=k σ1 o1 h1 h2 h3
 exact⟨σ2,o2,k1,h2.trans k2,k3,h4.trans k4⟩
theorem PNext.calm (h:SysF σ w o) (hP:PlayAt σ f pf P s) (hk:Keeps (fun _=>False) w w'):PNext σ w o f pf P w' s:=
 ⟨σ,o,SysF.calm' h hk,Ext.keeps o hk,hP,AgreeP.refl _ _ _⟩
theorem PNext.calmer (h:PNext σ w o f pf P w' s') (hk:Keeps (fun _=>False) w' w''):PNext σ w o f pf P w'' s':=
 h.more fun _ _ h1 _ h3=>PNext.calm h1 h3 hk
theorem PNext.fab {fs:FabS} (hP:PlayAt σ f pf P s) (hne:pf≠f) (h:Next σ w o f P.fa P.g w' fs):PNext σ w o f pf P w' {s with fs:=fs}:=by
 obtain⟨σ1,o1,h1,h2,h3,h4⟩:=h
 exact⟨σ1,o1,h1,h2,⟨h3,(h4 pf hne).2.1.trans hP.play⟩,fun f' k1 k2=>h4 f' k1⟩
theorem SysF.playR (h:SysF σ w o) (hP:PlayAt σ f pf P s):∃sv,PlayR w (fun k=>o k=some (.fab pf)) P s.sent s.over sv:=by
 have:=h.part (.fab pf)
 simp only[Sig.part,hP.play]at this
 exact this
theorem PlayR.cells {S:Nat→Prop} {sent:List Pkt} {over:Int} {sv:Value} (h:PlayR w S P sent over sv):w.cell? ⟨P.b,11,none⟩=some (.pointer (some ⟨P.fa.fb,0,none⟩))∧w.cell? ⟨P.b,12,none⟩=some sv∧w.cell? ⟨P.b,13,none⟩=some (.int .i64 over):=by
 have:=fun j=>blk_cell h.box j
 exact⟨by rw[this];rfl,by rw[this];rfl,by rw[this];rfl⟩
theorem SysF.playF (h:SysF σ w o) (hP:PlayAt σ f pf P s):w.cell? ⟨P.b,11,none⟩=some (.pointer (some ⟨P.fa.fb,0,none⟩)):=by
 obtain⟨sv,h⟩:=h.playR hP
 exact h.cells.1
theorem PlayAt.setO (hP:PlayAt σ f pf P s) (hne:f≠pf) (sent:List Pkt) (over:Int):PlayAt (σ.setF pf (playPart P sent over)) f pf P ⟨s.fs,sent,over⟩:=
 ⟨⟨hP.fab.geo,by simp[Sig.setF,hne,hP.fab.fab],hP.fab.node,hP.fab.link,hP.fab.lv⟩,by simp[Sig.setF]⟩
theorem agreeP_setF (σ:Sig) (f pf:Nat) (Q:Part):AgreeP σ (σ.setF pf Q) f pf:=fun f' _ h2=>⟨rfl,by simp[Sig.setF,h2],fun _=>rfl,fun _=>rfl⟩
theorem SysF.stepOver (h:SysF σ w o) (hP:PlayAt σ f pf P s) (hne:f≠pf) (y:Int):PNext σ w o f pf P (w.setCell ⟨P.b,13,none⟩ (.int .i64 y)) {s with over:=y}:=by
 obtain⟨sv,R⟩:=h.playR hP
 have hk1:Keeps (fun k=>k=P.b) w (w.setCell ⟨P.b,13,none⟩ (.int .i64 y)):=Keeps.setCell _ _ _ _ rfl
 have hK:Keeps (fun k=>o k=some (.fab pf)) w (w.setCell ⟨P.b,13,none⟩ (.int .i64 y)):=Keeps.setCell _ _ _ _ R.sb
 obtain⟨h1,h2⟩:=Sys.step0 h (.fab pf) (setF_part σ pf (playPart P s.sent y)) hK (by
  simp only[Sig.part,Sig.setF,if_true]
  exact⟨sv,blk_set R.box 13 _,R.row.keeps hk1 (fun k e=>(R.own k e).2),R.sb,R.own,fun k e=>Nat.lt_of_lt_of_le (Sys.lt h k _ e) hK.size⟩)
 exact⟨_,o,h1,h2,hP.setO hne _ _,agreeP_setF _ _ _ _⟩
end
def ovN (g:Geo) (h:Nat) (s:FabS):Nat→Int→Int
 | 0,v=>v
 | n+1,v=>if(delF g (delN g h s n) h 0).2=61 then wrap64 (ovN g h s n v+1)else ovN g h s n v
def ovH (g:Geo) (s:FabS):Nat→Int→Int
 | 0,v=>v
 | h+1,v=>ovN g h (delH g s h) ((delH g s h).ln h).length (ovH g s h v)
def roundY (g:Geo) (s:PlayS):PlayS:=⟨roundF g s.fs,s.sent,ovH g (tickF g s.fs) (hopsOf g.t).length s.over⟩
section
variable {σ:Sig} {w:World} {o:Nat→Option Cmp} {f pf:Nat} {P:PlayA} {s:PlayS} {c:Nat}
set_option maxRecDepth 100000 in
set_option maxHeartbeats 16000000 in
theorem pround_runs (h:SysF σ w o) (hT:Tab w) (h00:o 0=none) (hP:PlayAt σ f pf P s) (hne:f≠pf) (hok:FabOk P.g s.fs c) (hc:c≤700000000):
  Calls Tryz.prog 10 #[.pointer (some ⟨P.b,0,none⟩)] w fun e w'=>e= .returned (.tuple #[])∧PNext σ w o f pf P w' (roundY P.g s):=by
 have hp:=h.planS hP.fab.geo
 have hl3:P.g.ws.length≤3:=by have:=hp.nums.lanes.2;have:=hp.lanes;omega
 have HOK:=Lib.hid (hok.tick hp.tree hp.t5 hl3)
 have HTK:=Lib.hid (ftick_runs h hT h00 hP.fab hok (by omega) _ rfl)
 obtain⟨r,hr⟩:∃r,roundY P.g s=r:=⟨_,rfl⟩
 rw[hr]
 unfold roundY roundF at hr
 have hcnt:=(hops_in hp.tree hp.t5).2
 have ht5:=hp.t5
 have cf:=h.playF hP
 have HP:=Lib.hid hP
 have hh10:(hopsOf P.g.t).length≤10:=by omega
 have HBAG:=Lib.hid hp.nums.bag.2
 obtain⟨fs,sent,over⟩:=s
 simp only at hr
 have HR:=Lib.hid hr
 clear h hT hP hok hp hr ht5 hcnt
 go_enter Tryz.func10,Tryz.ntmps10
 go_wp2_with fail
 refine HTK.out.mono ?_
 rintro e U ⟨rfl,hU⟩
 have HU:=Lib.hid (PNext.fab HP.out (Ne.symm hne) hU)
 simp only at HU
 generalize tickF P.g fs=s1 at*
 clear hU HTK cf
 obtain⟨n,hn⟩:∃n,(hopsOf P.g.t).length=n:=⟨_,rfl⟩
 have HN:=Lib.hid hn
 rw[hn]at HR hh10
 clear hn
 go_wp2_with fail
 go_loopw [2] (fun c wr=>∃i:Nat,i≤n∧c= .int .i64 (i:Int)∧PNext σ w o f pf P wr ⟨delH P.g s1 i,sent,ovH P.g s1 i over⟩) (fun c _=>n - (intOf c).toNat)
 case atStart=>exact⟨0,Nat.zero_le _,rfl,HU.out⟩
 case round=>
  clear HU
  obtain⟨i,hi,rfl,hX⟩:=hrel
  have HX:=Lib.hid hX
  obtain⟨σ1,o1,h1,h2,h3,h4⟩:=hX
  have cf:=h1.playF h3
  have HHP:=Lib.hid (fhops_runs (h1.fabR h3.fab) (by rw[HN.out];omega))
  rw[HN.out]at HHP
  clear h1 h2 h3 h4
  by_cases hin:i < n
  ·have hii:(i:Int) < (n:Int):=by omega
   have hil:i < (hopsOf P.g.t).length:=by rw[HN.out];exact hin
   have HOI:=Lib.hid (HOK.out.delH i (by omega))
   have hd:delH P.g s1 (i+1)=delN P.g i (delH P.g s1 i) ((delH P.g s1 i).ln i).length:=rfl
   have hv:ovH P.g s1 (i+1) over=ovN P.g i (delH P.g s1 i) ((delH P.g s1 i).ln i).length (ovH P.g s1 i over):=rfl
   obtain⟨m,hm⟩:∃m,((delH P.g s1 i).ln i).length=m:=⟨_,rfl⟩
   have hm64:m≤64:=by
    have h1':=HOI.out.room i hil
    have:=HBAG.out
    omega
   rw[hm]at hd hv
   have HD:=Lib.hid hd
   have HV:=Lib.hid hv
   have HM:=Lib.hid hm
   clear hd hv hm
   generalize delH P.g s1 i=s2 at*
   generalize ovH P.g s1 i over=ov at*
   go_wp2_with fail
   refine HHP.out.mono ?_
   rintro e U ⟨Ah,ch,rfl,_,hU,_⟩
   have HXU:=Lib.hid (HX.out.calmer hU)
   obtain⟨σ1,o1,h1,h2,h3,h4⟩:=HX.out.calmer hU
   have cfU:=h1.playF h3
   have HL:=Lib.hid (flink_ok (h1.fabR h3.fab) i hil)
   have HAL:=Lib.hid (p:=∀V,Keeps (fun _=>False) U V→_) fun V hV=>SysF.lenAll (SysF.calm' h1 hV) h3.fab hil
   simp only[HM.out]at HAL
   clear h1 h2 h3 h4 hU HX HHP cf
   go_wp2_with fail
   refine HL.out.mono ?_
   rintro e V ⟨rfl,hV⟩
   have HA2:=Lib.hid (HAL.out V hV)
   have HXV:=Lib.hid (HXU.out.calmer hV)
   clear hV HAL HXU HL cfU
   go_wp2_with fail
   refine HA2.out.mono ?_
   rintro e W ⟨A1,c1,rfl,hW⟩
   have HXW:=Lib.hid (HXV.out.calmer hW)
   clear hW HA2 HXV
   go_wp2_with fail
   go_loopw [4] (fun c wr=>∃j:Nat,j≤m∧c= .int .i64 (j:Int)∧PNext σ w o f pf P wr ⟨delN P.g i s2 j,sent,ovN P.g i s2 j ov⟩) (fun c _=>m - (intOf c).toNat)
   case atStart=>exact⟨0,Nat.zero_le _,rfl,HXW.out⟩
   case round=>
    clear HXW
    obtain⟨j,hj,rfl,hX⟩:=hrel
    by_cases hjm:j < m
    ·have hji:(j:Int) < (m:Int):=by omega
     have HX:=Lib.hid hX
     obtain⟨σ1,o1,h1,h2,h3,h4⟩:=hX
     have cf:=h1.playF h3
     have HDL:=Lib.hid (deliver_runs h1 h3.fab (HOI.out.delN hil j) i hil 0)
     have hvj:ovN P.g i s2 (j+1) ov=if(delF P.g (delN P.g i s2 j) i 0).2=61 then wrap64 (ovN P.g i s2 j ov+1)else ovN P.g i s2 j ov:=rfl
     have hdj:delN P.g i s2 (j+1)=(delF P.g (delN P.g i s2 j) i 0).1:=rfl
     have H1:=Lib.hid h1
     have H2:=Lib.hid h2
     have H3:=Lib.hid h3
     have H4:=Lib.hid h4
     obtain⟨D,hD⟩:∃D,delF P.g (delN P.g i s2 j) i 0=D:=⟨_,rfl⟩
     simp only at HDL
     rw[hD]at HDL hvj hdj
     obtain⟨ds,de⟩:=D
     simp only at HDL hvj hdj
     have HVJ:=Lib.hid hvj
     have HDJ:=Lib.hid hdj
     clear h1 h2 h3 h4 HX hvj hdj hD
     go_wp2_with fail
     refine HDL.out.mono ?_
     rintro e Z ⟨rfl,hZ⟩
     have hNZ:PNext σ w o f pf P Z ⟨ds,sent,ovN P.g i s2 j ov⟩:=by
      have:=PNext.fab H3.out (Ne.symm hne) hZ
      obtain⟨σ2,o2,k1,k2,k3,k4⟩:=this
      exact⟨σ2,o2,k1,H2.out.trans k2,k3,H4.out.trans k4⟩
     have HNZ:=Lib.hid hNZ
     clear hZ hNZ H1 H2 H3 H4 HDL cf
     by_cases h61:de=61
     ·have hb:(de == 61)=true:=by rw[beq_iff_eq];exact h61
      have hvv:=HVJ.out
      rw[if_pos h61]at hvv
      have HVV:=Lib.hid hvv
      obtain⟨σ2,o2,k1,k2,k3,k4⟩:=HNZ.out
      obtain⟨sv,R⟩:=k1.playR k3
      have c13:=R.cells.2.2
      have f13:Z.frozen? ⟨P.b,13,none⟩=false:=blk_frozen R.box 13
      have hfin:∀y,PNext σ w o f pf P (Z.setCell ⟨P.b,13,none⟩ (.int .i64 y)) ⟨ds,sent,y⟩:=fun y=>by
       obtain⟨σ3,o3,l1,l2,l3,l4⟩:=SysF.stepOver k1 k3 hne y
       exact⟨σ3,o3,l1,k2.trans l2,l3,k4.trans l4⟩
      have HFIN:=Lib.hid hfin
      simp only at c13
      clear k1 k2 k3 k4 R hfin hvv HNZ h61 HVJ
      generalize ovN P.g i s2 j ov=oj at*
      go_wp2_with fail
      go_roundw
      case rel=>exact⟨j+1,by omega,by go_num,by rw[HDJ.out,HVV.out];exact HFIN.out _⟩
      case measure=>simp[intOf];omega
     ·have hb:(de == 61)=false:=by rw[beq_eq_false_iff_ne];exact h61
      have hvv:=HVJ.out
      rw[if_neg h61]at hvv
      have HVV:=Lib.hid hvv
      clear hvv HVJ h61
      go_wp2_with fail
      go_roundw
      case rel=>exact⟨j+1,by omega,by go_num,by rw[HDJ.out,HVV.out];exact HNZ.out⟩
      case measure=>simp[intOf];omega
    ·obtain rfl:j=m:=by omega
     have hji:¬((j:Int) < (j:Int)):=by omega
     have HX:=Lib.hid hX
     clear hX
     go_wp2_with fail
     go_roundw
     case rel=>exact⟨i+1,by omega,by go_num,by rw[HD.out,HV.out];exact HX.out⟩
     case measure=>simp[intOf];omega
  ·obtain rfl:i=n:=by omega
   have hii:¬((i:Int) < (i:Int)):=by omega
   go_wp2_with fail
   refine HHP.out.mono ?_
   rintro e U ⟨Ah,ch,rfl,_,hU,_⟩
   have HXU:=Lib.hid (HX.out.calmer hU)
   clear hU HX HHP cf
   go_wp2_with fail
   go_end0
   rw[←HR.out]
   exact⟨rfl,HXU.out⟩
end
end Go.Proofs.YtebnflpanfmicaaGreatDoor
namespace Go.Proofs.YtebnflpanfmicaaGreatDoor
open Go.RowKit
def OpBox (w:World) (b:Nat) (s:Stp):Prop:=w.heap[b]? =some (.cells s.cells 33 (0,0))
theorem OpBox.all {w:World} {b:Nat} {s:Stp} (h:OpBox w b s):w.cell? ⟨b,0,none⟩=some (.int .u8 s.kind)∧w.cell? ⟨b,1,none⟩=some (.int .i64 s.x.src)∧w.cell? ⟨b,2,none⟩=some (.int .i64 s.x.dst)∧w.cell? ⟨b,3,none⟩=some (.int .i64 s.x.lane)∧w.cell? ⟨b,4,none⟩=some (.int .u32 s.x.body)∧
  w.cell? ⟨b,5,none⟩=some (.bool s.wi)∧w.cell? ⟨b,6,none⟩=some (.int .i64 s.ln)∧w.cell? ⟨b,7,none⟩=some (.int .i64 s.row)∧w.cell? ⟨b,8,none⟩=some (.int .i64 s.pos)∧w.cell? ⟨b,9,none⟩=some (.int .u8 s.mask)∧∀i,w.frozen? ⟨b,i,none⟩=false:=
 ⟨by rw[blk_cell h];rfl,by rw[blk_cell h];rfl,by rw[blk_cell h];rfl,by rw[blk_cell h];rfl,by rw[blk_cell h];rfl,by rw[blk_cell h];rfl,by rw[blk_cell h];rfl,by rw[blk_cell h];rfl,by rw[blk_cell h];rfl,by rw[blk_cell h];rfl,fun i=>blk_frozen h i⟩
theorem set10 {w:World} {b:Nat} {c0 c1 c2 c3 c4 c5 c6 c7 c8 c9:Value} (h:w.heap[b]? =some (.cells #[c0,c1,c2,c3,c4,c5,c6,c7,c8,c9] 33 (0,0))) (a0 a1 a2 a3 a4 a5 a6 a7 a8 a9:Value):
  ((((((((((w.setCell ⟨b,0,none⟩ a0).setCell ⟨b,1,none⟩ a1).setCell ⟨b,2,none⟩ a2).setCell ⟨b,3,none⟩ a3).setCell ⟨b,4,none⟩ a4).setCell ⟨b,5,none⟩ a5).setCell ⟨b,6,none⟩ a6).setCell ⟨b,7,none⟩ a7).setCell ⟨b,8,none⟩ a8).setCell ⟨b,9,none⟩ a9).heap[b]? =some (.cells #[a0,a1,a2,a3,a4,a5,a6,a7,a8,a9] 33 (0,0))∧Keeps (fun k=>k=b) w ((((((((((w.setCell ⟨b,0,none⟩ a0).setCell ⟨b,1,none⟩ a1).setCell ⟨b,2,none⟩ a2).setCell ⟨b,3,none⟩ a3).setCell ⟨b,4,none⟩ a4).setCell ⟨b,5,none⟩ a5).setCell ⟨b,6,none⟩ a6).setCell ⟨b,7,none⟩ a7).setCell ⟨b,8,none⟩ a8).setCell ⟨b,9,none⟩ a9):=by
 have h0:(w.setCell ⟨b,0,none⟩ a0).heap[b]? =some (.cells #[a0,c1,c2,c3,c4,c5,c6,c7,c8,c9] 33 (0,0)):=blk_set h 0 a0
 have h1:((w.setCell ⟨b,0,none⟩ a0).setCell ⟨b,1,none⟩ a1).heap[b]? =some (.cells #[a0,a1,c2,c3,c4,c5,c6,c7,c8,c9] 33 (0,0)):=blk_set h0 1 a1
 have h2:(((w.setCell ⟨b,0,none⟩ a0).setCell ⟨b,1,none⟩ a1).setCell ⟨b,2,none⟩ a2).heap[b]? =some (.cells #[a0,a1,a2,c3,c4,c5,c6,c7,c8,c9] 33 (0,0)):=blk_set h1 2 a2
 have h3:((((w.setCell ⟨b,0,none⟩ a0).setCell ⟨b,1,none⟩ a1).setCell ⟨b,2,none⟩ a2).setCell ⟨b,3,none⟩ a3).heap[b]? =some (.cells #[a0,a1,a2,a3,c4,c5,c6,c7,c8,c9] 33 (0,0)):=blk_set h2 3 a3
 have h4:(((((w.setCell ⟨b,0,none⟩ a0).setCell ⟨b,1,none⟩ a1).setCell ⟨b,2,none⟩ a2).setCell ⟨b,3,none⟩ a3).setCell ⟨b,4,none⟩ a4).heap[b]? =some (.cells #[a0,a1,a2,a3,a4,c5,c6,c7,c8,c9] 33 (0,0)):=blk_set h3 4 a4
 have h5:((((((w.setCell ⟨b,0,none⟩ a0).setCell ⟨b,1,none⟩ a1).setCell ⟨b,2,none⟩ a2).setCell ⟨b,3,none⟩ a3).setCell ⟨b,4,none⟩ a4).setCell ⟨b,5,none⟩ a5).heap[b]? =some (.cells #[a0,a1,a2,a3,a4,a5,c6,c7,c8,c9] 33 (0,0)):=blk_set h4 5 a5
 have h6:(((((((w.setCell ⟨b,0,none⟩ a0).setCell ⟨b,1,none⟩ a1).setCell ⟨b,2,none⟩ a2).setCell ⟨b,3,none⟩ a3).setCell ⟨b,4,none⟩ a4).setCell ⟨b,5,none⟩ a5).setCell ⟨b,6,none⟩ a6).heap[b]? =some (.cells #[a0,a1,a2,a3,a4,a5,a6,c7,c8,c9] 33 (0,0)):=blk_set h5 6 a6
 have h7:((((((((w.setCell ⟨b,0,none⟩ a0).setCell ⟨b,1,none⟩ a1).setCell ⟨b,2,none⟩ a2).setCell ⟨b,3,none⟩ a3).setCell ⟨b,4,none⟩ a4).setCell ⟨b,5,none⟩ a5).setCell ⟨b,6,none⟩ a6).setCell ⟨b,7,none⟩ a7).heap[b]? =some (.cells #[a0,a1,a2,a3,a4,a5,a6,a7,c8,c9] 33 (0,0)):=blk_set h6 7 a7
 have h8:(((((((((w.setCell ⟨b,0,none⟩ a0).setCell ⟨b,1,none⟩ a1).setCell ⟨b,2,none⟩ a2).setCell ⟨b,3,none⟩ a3).setCell ⟨b,4,none⟩ a4).setCell ⟨b,5,none⟩ a5).setCell ⟨b,6,none⟩ a6).setCell ⟨b,7,none⟩ a7).setCell ⟨b,8,none⟩ a8).heap[b]? =some (.cells #[a0,a1,a2,a3,a4,a5,a6,a7,a8,c9] 33 (0,0)):=blk_set h7 8 a8
 have h9:((((((((((w.setCell ⟨b,0,none⟩ a0).setCell ⟨b,1,none⟩ a1).setCell ⟨b,2,none⟩ a2).setCell ⟨b,3,none⟩ a3).setCell ⟨b,4,none⟩ a4).setCell ⟨b,5,none⟩ a5).setCell ⟨b,6,none⟩ a6).setCell ⟨b,7,none⟩ a7).setCell ⟨b,8,none⟩ a8).setCell ⟨b,9,none⟩ a9).heap[b]? =some (.cells #[a0,a1,a2,a3,a4,a5,a6,a7,a8,a9] 33 (0,0)):=blk_set h8 9 a9
 refine⟨h9, ?_⟩
 have k:∀(x:World) (i:Nat) (v:Value),Keeps (fun k=>k=b) x (x.setCell ⟨b,i,none⟩ v):=fun _ _ _=>Keeps.setCell _ _ _ _ rfl
 exact((((((((((k _ _ _)).trans (k _ _ _)).trans (k _ _ _)).trans (k _ _ _)).trans (k _ _ _)).trans (k _ _ _)).trans (k _ _ _)).trans (k _ _ _)).trans (k _ _ _)).trans (k _ _ _)
def Stp.made (s:Stp) (g:Geo):Stp:={withinS ((g.t.length:Int)+1) g.p.lanes ((hopsOf g.t).length:Int) {s with wi:=true}with pos:=0}
theorem inN_ok (x n:Int) (h:1≤n):0≤inN x n∧inN x n < n:=by
 unfold inN
 exact⟨Int.emod_nonneg _ (by omega),Int.emod_lt_of_pos _ (by omega)⟩
def stepF (g:Geo) (p:PlayS) (s:Stp):PlayS:=
 let m:=s.made g
 let h:=m.ln.toNat
 if m.kind % 16 < 4 then⟨(injF g p.fs m.x).1,if(injF g p.fs m.x).2=0 then p.sent ++ [m.x]else p.sent,p.over⟩
 else if m.kind % 16 < 8 then⟨(delF g p.fs h m.row).1,p.sent,if(delF g p.fs h m.row).2=61 then wrap64 (p.over+1)else p.over⟩
 else if m.kind % 16=8 then{p with fs:={p.fs with ln:=setAt p.fs.ln h (takeL (p.fs.ln h) m.row)}}
 else if m.kind % 16=9 then{p with fs:={p.fs with ln:=setAt p.fs.ln h (twiceL g.p.bag (p.fs.ln h) m.row)}}
 else if m.kind % 16=10 then{p with fs:={p.fs with ln:=setAt p.fs.ln h (bendL (p.fs.ln h) m.row m.pos m.mask)}}
 else if m.kind % 16 < 13 then{p with fs:=tickF g p.fs}
 else roundY g p
theorem FabOk.ln' {g:Geo} {s:FabS} {c:Nat} (h:FabOk g s c) (i:Nat) {rows:List (List Int)} (h1:i < (hopsOf g.t).length→(rows.length:Int)≤g.p.bag) (h2:i < (hopsOf g.t).length→∀l∈rows,l.length≤12∧Bytes l):FabOk g {s with ln:=setAt s.ln i rows} c:=by
 refine⟨h.node,fun x hx=> ?_,fun x hx=> ?_⟩
 ·show((setAt s.ln i rows x).length:Int)≤_
  unfold setAt
  split
  ·rename_i e;subst e;exact h1 hx
  ·exact h.room x hx
 ·show ∀l∈setAt s.ln i rows x,_
  unfold setAt
  split
  ·rename_i e;subst e;exact h2 hx
  ·exact h.rows x hx
theorem takeL_ok {rows:List (List Int)} {k:Int}:(takeL rows k).length≤rows.length∧∀l∈takeL rows k,l∈rows:=by
 unfold takeL
 split
 ·refine⟨?_,fun l hl=>List.mem_of_mem_eraseIdx hl⟩
  rw[List.length_eraseIdx];split <;>omega
 ·exact⟨Nat.le_refl _,fun l hl=>hl⟩
theorem bits_u8 (a b:Int):0≤bits .xor .u8 a b∧bits .xor .u8 a b≤255:=W8_ok _
theorem bendL_ok {rows:List (List Int)} {k a x:Int} (h:∀l∈rows,l.length≤12∧Bytes l):(bendL rows k a x).length=rows.length∧∀l∈bendL rows k a x,l.length≤12∧Bytes l:=by
 unfold bendL
 split
 ·rename_i hc
  refine⟨List.length_set,fun l hl=> ?_⟩
  rcases List.mem_or_eq_of_mem_set hl with hl | rfl
  ·exact h l hl
  ·have hr:=h _ (mem_rowOf hc.1)
   refine⟨by rw[bendRow_length];exact hr.1,fun y hy=> ?_⟩
   unfold bendRow at hy
   rcases List.mem_or_eq_of_mem_set hy with hy | rfl
   ·exact hr.2 y hy
   ·exact bits_u8 _ _
 ·exact⟨rfl,h⟩
theorem twiceL_ok {bag:Int} {rows:List (List Int)} {k:Int} (h0:(rows.length:Int)≤bag) (h:∀l∈rows,l.length≤12∧Bytes l):((twiceL bag rows k).length:Int)≤bag∧∀l∈twiceL bag rows k,l.length≤12∧Bytes l:=by
 unfold twiceL
 split
 ·rename_i hc
  exact sendL_ok h0 h (h _ (mem_rowOf hc))
 ·exact⟨h0,h⟩
theorem FabOk.step {g:Geo} (ht:Tree g.t) (h5:g.t.length≤5) (h3:g.ws.length≤3) (hl:g.p.lanes≤3) {p:PlayS} {c:Nat} (h:FabOk g p.fs c) (s:Stp) (hm:((s.made g).ln.toNat) < (hopsOf g.t).length):FabOk g (stepF g p s).fs (c+6):=by
 unfold stepF
 simp only
 split
 ·exact(h.inj _ hl).more (by omega)
 ·split
  ·exact(h.del _ hm _).more (by omega)
  ·split
   ·exact(h.ln' _ (fun hx=>by have:=(takeL_ok (rows:=p.fs.ln (s.made g).ln.toNat) (k:=(s.made g).row)).1;have:=h.room _ hx;omega) (fun hx l hl=>h.rows _ hx l (takeL_ok.2 l hl))).more (by omega)
   ·split
    ·exact(h.ln' _ (fun hx=>(twiceL_ok (h.room _ hx) (h.rows _ hx)).1) (fun hx=>(twiceL_ok (h.room _ hx) (h.rows _ hx)).2)).more (by omega)
    ·split
     ·exact(h.ln' _ (fun hx=>by rw[(bendL_ok (h.rows _ hx)).1];exact h.room _ hx) (fun hx=>(bendL_ok (h.rows _ hx)).2)).more (by omega)
     ·split
      ·exact h.tick ht h5 h3
      ·exact h.round ht h5 h3
theorem stepF_sent (g:Geo) (p:PlayS) (s:Stp):(stepF g p s).sent.length≤p.sent.length+1:=by
 unfold stepF
 simp only
 split
 ·split <;>simp
 ·repeat (first | (split) | (exact Nat.le_succ _) | (simp only[roundY];omega))
end Go.Proofs.YtebnflpanfmicaaGreatDoor
namespace Go.Proofs.YtebnflpanfmicaaGreatDoor
open Go.RowKit
open Classical in
theorem Sys.claim {ι:Type} {A A':ι→Part} {w:World} {o:Nat→Option ι} {S:Nat→Prop} (h:Sys A w o) (c:ι) (hA:∀x,x≠c→A' x=A x) (hc:∀k,o k≠some c) (hS:∀k,S k→o k=none) (hB:(A' c).at_ w S):
  ∃o',Sys A' w o'∧(∀k,S k→o' k=some c)∧∀k,¬S k→o' k=o k:=by
 refine⟨fun k=>if S k then some c else o k,⟨fun x=> ?_,fun k x e=> ?_⟩,fun k hs=>if_pos hs,fun k hs=>if_neg hs⟩
 ·by_cases hx:x=c
  ·subst hx
   have e:(fun k=>(if S k then some x else o k)=some x)=S:=by
    funext k
    by_cases hs:S k
    ·simp[hs]
    ·simp[hs,hc k]
   rw[e]
   exact hB
  ·rw[hA x hx]
   have e:(fun k=>(if S k then some c else o k)=some x)=(fun k=>o k=some x):=by
    funext k
    by_cases hs:S k
    ·rw[if_pos hs,hS k hs]
     simp[Ne.symm hx]
    ·rw[if_neg hs]
   rw[e]
   exact h.part x
 ·by_cases hs:S k
  ·exact(A' c).lt hB k hs
  ·rw[if_neg hs]at e
   exact h.lt k x e
def newS (g:Geo) (v:Nat):NodeS:=
 {q:=fun _=>[],free:=g.ports v*g.ws.length*g.p.room.toNat,Q:=fun _=>[],sent:=fun _ _=>g.p.start,limit:=fun _ _=>W64 (g.p.start+g.p.room),next:=fun _ _=>g.p.start,held:=fun _ _=>0,
  left:=fun _=>g.ws,from_:=fun _=>0,G:=fun _=>0,A:=fun _=>0,ticks:=0}
def bParts (σ:Sig) (f v:Nat) (g:Geo) (a:NodeA) (jw jl ks kr:Nat):Cmp→Part
 | .host f' v'=>if f'=f∧v'=v then hostPart a.hb g.p.lanes g.p.queue (fun _=>[])else σ.part (.host f' v')
 | .wheel f' v' i=>if(f'=f∧v'=v)∧i < jw then wheelPart (a.wb i) g.ws g.ws 0 else σ.part (.wheel f' v' i)
 | .snd f' v' i k=>if(f'=f∧v'=v)∧1≤i∧k < g.ws.length∧(i < jl∨(i=jl∧k < ks))then sndPart (a.sb i k) g.p.start (W64 (g.p.start+g.p.room))else σ.part (.snd f' v' i k)
 | .rcv f' v' i k=>if(f'=f∧v'=v)∧1≤i∧k < g.ws.length∧(i < jl∨(i=jl∧k < kr))then rcvPart (a.cb i k) g.p.start 0 g.p.room else σ.part (.rcv f' v' i k)
 | c=>σ.part c
section
variable {σ:Sig} {w w':World} {o o':Nat→Option Cmp} {f v:Nat} {g:Geo} {a:NodeA} {jw jl ks kr:Nat}
theorem none_part (hn:σ.node f v=none) (c:Cmp) (hc:c= .host f v∨c= .rings f v∨c= .arb f v∨c= .node f v∨(∃i,c= .wheel f v i)∨(∃i k,c= .snd f v i k)∨∃i k,c= .rcv f v i k):σ.part c=Part.none:=by
 rcases hc with rfl | rfl | rfl | rfl | ⟨i,rfl⟩ | ⟨i,k,rfl⟩ | ⟨i,k,rfl⟩ <;>simp only[Sig.part,hn] <;>cases σ.geo f <;>rfl
theorem Sys.noneOf {ι:Type} {A:ι→Part} {w:World} {o:Nat→Option ι} (h:Sys A w o) {c:ι} (hc:A c=Part.none):∀k,o k≠some c:=fun k e=>by
 have:=h.part c
 rw[hc]at this
 exact this k e
theorem Ext.claim {w0:World} {o0:Nat→Option Cmp} {S:Nat→Prop} (h:Ext o0 w0 o w) (hno:∀k,¬S k→o' k=o k) (hS:∀k,S k→w0.heap.size≤k):Ext o0 w0 o' w:=
 ⟨h.1,fun k hk=>(hno k (fun e=>by have:=hS k e;omega)).trans (h.2 k hk)⟩
theorem b_host (hn:σ.node f v=none) (hb:Nat) (h:Sys σ.part w o) (S:Nat→Prop) (hS:∀k,S k→o k=none) (hB:HostV w S 200 31 hb g.p.lanes g.p.queue (fun _=>[])) (ha:a.hb=hb):
  ∃o',Sys (bParts σ f v g a 0 1 0 0) w o'∧(∀k,S k→o' k=some (.host f v))∧∀k,¬S k→o' k=o k:=by
 subst ha
 refine Sys.claim h (.host f v) (fun x hx=> ?_) (h.noneOf (none_part hn _ (.inl rfl))) hS (by simp only[bParts,and_self,if_true];exact hB)
 cases x with
 | host f' v'=>
   have:¬(f'=f∧v'=v):=fun e=>hx (by rw[e.1,e.2])
   simp[bParts,this]
 | snd f' v' i k=>simp only[bParts];rw[if_neg (fun e=>by omega)]
 | rcv f' v' i k=>simp only[bParts];rw[if_neg (fun e=>by omega)]
 | wheel f' v' i=>simp[bParts]
 | _=>rfl
theorem b_wheel (hn:σ.node f v=none) (b:Nat) (h:Sys (bParts σ f v g a jw jl ks kr) w o) (S:Nat→Prop) (hS:∀k,S k→o k=none) (hB:WheelV w S b g.ws g.ws 0):
  ∃o',Sys (bParts σ f v g {a with wb:=setAt a.wb jw b} (jw+1) jl ks kr) w o'∧(∀k,S k→o' k=some (.wheel f v jw))∧∀k,¬S k→o' k=o k:=by
 refine Sys.claim h (.wheel f v jw) (fun x hx=> ?_) (h.noneOf ?_) hS (by rw[show bParts σ f v g {a with wb:=setAt a.wb jw b} (jw+1) jl ks kr (.wheel f v jw)=wheelPart b g.ws g.ws 0 from(if_pos ⟨⟨rfl,rfl⟩,Nat.lt_succ_self _⟩).trans (by simp only[setAt_same])];exact hB)
 ·cases x with
  | wheel f' v' i=>
    simp only[bParts]
    by_cases e:f'=f∧v'=v
    ·have hi:i≠jw:=fun e2=>hx (by rw[e.1,e.2,e2])
     by_cases h2:i < jw
     ·have c1:(f'=f∧v'=v)∧i < jw+1:=⟨e,by omega⟩
      have c2:(f'=f∧v'=v)∧i < jw:=⟨e,h2⟩
      rw[if_pos c1,if_pos c2,setAt_other _ _ _ _ hi]
     ·have c1:¬((f'=f∧v'=v)∧i < jw+1):=fun h=>by have:=h.2;omega
      have c2:¬((f'=f∧v'=v)∧i < jw):=fun h=>h2 h.2
      rw[if_neg c1,if_neg c2]
    ·rw[if_neg (fun h=>e h.1),if_neg (fun h=>e h.1)]
  | _=>rfl
 ·simp only[bParts]
  rw[if_neg (fun h=>Nat.lt_irrefl _ h.2)]
  exact none_part hn _ (.inr (.inr (.inr (.inr (.inl ⟨_,rfl⟩)))))
theorem b_snd (hn:σ.node f v=none) (b:Nat) (hj:1≤jl) (hk:ks < g.ws.length) (h:Sys (bParts σ f v g a jw jl ks kr) w o) (S:Nat→Prop) (hS:∀k,S k→o k=none) (hB:SendAt w b g.p.start (W64 (g.p.start+g.p.room))∧S b∧∀k,S k→k < w.heap.size):
  ∃o',Sys (bParts σ f v g {a with sb:=fun i k=>if i=jl∧k=ks then b else a.sb i k} jw jl (ks+1) kr) w o'∧(∀k,S k→o' k=some (.snd f v jl ks))∧∀k,¬S k→o' k=o k:=by
 refine Sys.claim h (.snd f v jl ks) (fun x hx=> ?_) (h.noneOf ?_) hS (by rw[show bParts σ f v g {a with sb:=fun i k=>if i=jl∧k=ks then b else a.sb i k} jw jl (ks+1) kr (.snd f v jl ks)=sndPart b g.p.start (W64 (g.p.start+g.p.room))from(if_pos ⟨⟨rfl,rfl⟩,hj,hk, .inr ⟨rfl,Nat.lt_succ_self _⟩⟩).trans (by simp only[and_self,if_true])];exact hB)
 ·cases x with
  | snd f' v' i k=>
    simp only[bParts]
    by_cases e:f'=f∧v'=v
    ·have hi:¬(i=jl∧k=ks):=fun e2=>hx (by rw[e.1,e.2,e2.1,e2.2])
     by_cases h2:1≤i∧k < g.ws.length∧(i < jl∨(i=jl∧k < ks))
     ·have c1:(f'=f∧v'=v)∧1≤i∧k < g.ws.length∧(i < jl∨(i=jl∧k < ks+1)):=⟨e,by omega⟩
      have c2:(f'=f∧v'=v)∧1≤i∧k < g.ws.length∧(i < jl∨(i=jl∧k < ks)):=⟨e,h2⟩
      rw[if_pos c1,if_pos c2,if_neg hi]
     ·have c1:¬((f'=f∧v'=v)∧1≤i∧k < g.ws.length∧(i < jl∨(i=jl∧k < ks+1))):=fun h=>by have:=h.2;omega
      have c2:¬((f'=f∧v'=v)∧1≤i∧k < g.ws.length∧(i < jl∨(i=jl∧k < ks))):=fun h=>h2 h.2
      rw[if_neg c1,if_neg c2]
    ·rw[if_neg (fun h=>e h.1),if_neg (fun h=>e h.1)]
  | _=>rfl
 ·simp only[bParts]
  rw[if_neg (fun h=>by omega)]
  exact none_part hn _ (.inr (.inr (.inr (.inr (.inr (.inl ⟨_,_,rfl⟩))))))
theorem b_rcv (hn:σ.node f v=none) (b:Nat) (hj:1≤jl) (hk:kr < g.ws.length) (h:Sys (bParts σ f v g a jw jl ks kr) w o) (S:Nat→Prop) (hS:∀k,S k→o k=none) (hB:RecvAt w b g.p.start 0 g.p.room∧S b∧∀k,S k→k < w.heap.size):
  ∃o',Sys (bParts σ f v g {a with cb:=fun i k=>if i=jl∧k=kr then b else a.cb i k} jw jl ks (kr+1)) w o'∧(∀k,S k→o' k=some (.rcv f v jl kr))∧∀k,¬S k→o' k=o k:=by
 refine Sys.claim h (.rcv f v jl kr) (fun x hx=> ?_) (h.noneOf ?_) hS (by rw[show bParts σ f v g {a with cb:=fun i k=>if i=jl∧k=kr then b else a.cb i k} jw jl ks (kr+1) (.rcv f v jl kr)=rcvPart b g.p.start 0 g.p.room from(if_pos ⟨⟨rfl,rfl⟩,hj,hk, .inr ⟨rfl,Nat.lt_succ_self _⟩⟩).trans (by simp only[and_self,if_true])];exact hB)
 ·cases x with
  | rcv f' v' i k=>
    simp only[bParts]
    by_cases e:f'=f∧v'=v
    ·have hi:¬(i=jl∧k=kr):=fun e2=>hx (by rw[e.1,e.2,e2.1,e2.2])
     by_cases h2:1≤i∧k < g.ws.length∧(i < jl∨(i=jl∧k < kr))
     ·have c1:(f'=f∧v'=v)∧1≤i∧k < g.ws.length∧(i < jl∨(i=jl∧k < kr+1)):=⟨e,by omega⟩
      have c2:(f'=f∧v'=v)∧1≤i∧k < g.ws.length∧(i < jl∨(i=jl∧k < kr)):=⟨e,h2⟩
      rw[if_pos c1,if_pos c2,if_neg hi]
     ·have c1:¬((f'=f∧v'=v)∧1≤i∧k < g.ws.length∧(i < jl∨(i=jl∧k < kr+1))):=fun h=>by have:=h.2;omega
      have c2:¬((f'=f∧v'=v)∧1≤i∧k < g.ws.length∧(i < jl∨(i=jl∧k < kr))):=fun h=>h2 h.2
      rw[if_neg c1,if_neg c2]
    ·rw[if_neg (fun h=>e h.1),if_neg (fun h=>e h.1)]
  | _=>rfl
 ·simp only[bParts]
  rw[if_neg (fun h=>by omega)]
  exact none_part hn _ (.inr (.inr (.inr (.inr (.inr (.inr ⟨_,_,rfl⟩))))))
theorem bParts_next (h:ks=g.ws.length) (h2:kr=g.ws.length):bParts σ f v g a jw jl ks kr=bParts σ f v g a jw (jl+1) 0 0:=by
 funext x
 cases x with
 | snd f' v' i k=>
   simp only[bParts]
   by_cases e:(f'=f∧v'=v)∧1≤i∧k < g.ws.length∧(i < jl∨(i=jl∧k < ks))
   ·rw[if_pos e,if_pos ⟨e.1,by have:=e.2;omega⟩]
   ·rw[if_neg e,if_neg (fun h=>e ⟨h.1,by have:=h.2;omega⟩)]
 | rcv f' v' i k=>
   simp only[bParts]
   by_cases e:(f'=f∧v'=v)∧1≤i∧k < g.ws.length∧(i < jl∨(i=jl∧k < kr))
   ·rw[if_pos e,if_pos ⟨e.1,by have:=e.2;omega⟩]
   ·rw[if_neg e,if_neg (fun h=>e ⟨h.1,by have:=h.2;omega⟩)]
 | _=>rfl
theorem bParts_addr {a':NodeA} (h1:a'.hb=a.hb) (h2:∀i,i < jw→a'.wb i=a.wb i) (h3:a'.sb=a.sb) (h4:a'.cb=a.cb):bParts σ f v g a' jw jl ks kr=bParts σ f v g a jw jl ks kr:=by
 funext x
 cases x with
 | host f' v'=>simp only[bParts,h1]
 | wheel f' v' i=>
   simp only[bParts]
   split
   ·rename_i e;rw[h2 i e.2]
   ·rfl
 | snd f' v' i k=>simp only[bParts,h3]
 | rcv f' v' i k=>simp only[bParts,h4]
 | _=>rfl
theorem b_rings {A:Cmp→Part} (b:Nat) (h:Sys A w o) (hA:A (.rings f v)=Part.none) (S:Nat→Prop) (hS:∀k,S k→o k=none) (P:Part) (hB:P.at_ w S):
  ∃o',Sys (fun x=>if x= .rings f v then P else A x) w o'∧(∀k,S k→o' k=some (.rings f v))∧∀k,¬S k→o' k=o k:=
 Sys.claim h (.rings f v) (fun x hx=>if_neg hx) (h.noneOf hA) hS (by rw[if_pos rfl];exact hB)
theorem b_arb {A:Cmp→Part} (h:Sys A w o) (hA:A (.arb f v)=Part.none) (S:Nat→Prop) (hS:∀k,S k→o k=none) (P:Part) (hB:P.at_ w S):
  ∃o',Sys (fun x=>if x= .arb f v then P else A x) w o'∧(∀k,S k→o' k=some (.arb f v))∧∀k,¬S k→o' k=o k:=
 Sys.claim h (.arb f v) (fun x hx=>if_neg hx) (h.noneOf hA) hS (by rw[if_pos rfl];exact hB)
theorem b_node {A:Cmp→Part} (h:Sys A w o) (hA:A (.node f v)=Part.none) (S:Nat→Prop) (hS:∀k,S k→o k=none) (P:Part) (hB:P.at_ w S):
  ∃o',Sys (fun x=>if x= .node f v then P else A x) w o'∧(∀k,S k→o' k=some (.node f v))∧∀k,¬S k→o' k=o k:=
 Sys.claim h (.node f v) (fun x hx=>if_neg hx) (h.noneOf hA) hS (by rw[if_pos rfl];exact hB)
theorem all_parts (hg:σ.geo f=some g) (hn:σ.node f v=none) (hz:lst (g.ports v) (newS g v).G=List.replicate (g.ports v) 0):
  (fun x=>if x=Cmp.node f v then nodePart g v a 0 else(fun x=>if x=Cmp.rings f v then ringsPart a.rb (g.ports v:Int) g.p.lanes (g.ports v*g.ws.length*g.p.room.toNat) (fun _=>[])else
   (fun x=>if x=Cmp.arb f v then arbPart a.ab (g.ports v) (List.replicate (g.ports v) 0) (List.replicate (g.ports v) 0) a.ga a.aa else bParts σ f v g a (g.ports v) (g.ports v) 0 0 x) x) x)=(σ.set f v a (newS g v)).part:=by
 have hz2:lst (g.ports v) (newS g v).A=List.replicate (g.ports v) 0:=hz
 funext x
 cases x with
 | plan f'=>rfl
 | fab f'=>rfl
 | link f' h'=>rfl
 | node f' v'=>
   by_cases e:f'=f∧v'=v
   ·obtain⟨rfl,rfl⟩:=e;simp[Sig.part,Sig.set,hg,newS]
   ·have e2:¬Cmp.node f' v'=Cmp.node f v:=fun h=>by injection h with h1 h2;exact e ⟨h1,h2⟩
    simp[e2,bParts,Sig.part,Sig.set,e]
 | rings f' v'=>
   by_cases e:f'=f∧v'=v
   ·obtain⟨rfl,rfl⟩:=e;simp[Sig.part,Sig.set,hg,newS]
   ·have e2:¬Cmp.rings f' v'=Cmp.rings f v:=fun h=>by injection h with h1 h2;exact e ⟨h1,h2⟩
    simp[e2,bParts,Sig.part,Sig.set,e]
 | arb f' v'=>
   by_cases e:f'=f∧v'=v
   ·obtain⟨rfl,rfl⟩:=e;simp[Sig.part,Sig.set,hg,hz,hz2]
   ·have e2:¬Cmp.arb f' v'=Cmp.arb f v:=fun h=>by injection h with h1 h2;exact e ⟨h1,h2⟩
    simp[e2,bParts,Sig.part,Sig.set,e]
 | host f' v'=>
   by_cases e:f'=f∧v'=v
   ·obtain⟨rfl,rfl⟩:=e;simp[bParts,Sig.part,Sig.set,hg,newS]
   ·simp[bParts,Sig.part,Sig.set,e]
 | wheel f' v' i=>
   by_cases e:f'=f∧v'=v
   ·obtain⟨rfl,rfl⟩:=e;simp[bParts,Sig.part,Sig.set,hg,hn,newS]
   ·simp[bParts,Sig.part,Sig.set,e]
 | snd f' v' i k=>
   by_cases e:f'=f∧v'=v
   ·obtain⟨rfl,rfl⟩:=e
    simp[bParts,Sig.part,Sig.set,hg,hn,newS]
    split <;>split <;>first | rfl | (exfalso;omega)
   ·simp[bParts,Sig.part,Sig.set,e]
 | rcv f' v' i k=>
   by_cases e:f'=f∧v'=v
   ·obtain⟨rfl,rfl⟩:=e
    simp[bParts,Sig.part,Sig.set,hg,hn,newS]
    split <;>split <;>first | rfl | (exfalso;omega)
   ·simp[bParts,Sig.part,Sig.set,e]
end
end Go.Proofs.YtebnflpanfmicaaGreatDoor
namespace Go.Proofs.YtebnflpanfmicaaGreatDoor
open Go.RowKit
abbrev lateLoad (n t:Nat):Op:= .load n (.tmp t)
theorem wp_mid {c:Code} {Q:Exit→Act→World→Prop} {T:Array Value} {W:World} (lo n:Nat) (P:World→Prop)
  (h1:∀M:Act→World→Prop,(∀a W',(∃us:List Value,us.length=n∧a=⟨(T.toList.take lo ++ us ++ T.toList.drop (lo+n)).toArray,[]⟩)→P W'→M a W')→Code.wp Tryz.prog c (fun e a W'=>match e with | .normal=>M a W' | _=>False) ⟨T,[]⟩ W)
  (h2:∀(f:Nat→Value) W',P W'→Q .normal ⟨(T.toList.take lo ++ (List.range n).map f ++ T.toList.drop (lo+n)).toArray,[]⟩ W'):Code.wp Tryz.prog c Q ⟨T,[]⟩ W:=by
 refine Code.wp_mono ?_ (h1 (fun a W'=>(∃us:List Value,us.length=n∧a=⟨(T.toList.take lo ++ us ++ T.toList.drop (lo+n)).toArray,[]⟩)∧P W') (fun a W' h1 h2=>⟨h1,h2⟩))
 intro e a W' h
 cases e with
 | normal=>
   obtain⟨⟨us,hl,rfl⟩,hP⟩:=h
   have e:us=(List.range n).map (fun i=>us.getD i undef):=by
    apply List.ext_getElem?
    intro i
    by_cases hi:i < n
    ·rw[List.getElem?_map,List.getElem?_range hi,Option.map_some,List.getD_eq_getElem?_getD,List.getElem?_eq_getElem (by omega)];rfl
    ·rw[List.getElem?_eq_none (by omega),List.getElem?_eq_none (by simp;omega)]
   rw[e]
   exact h2 _ W' hP
 | _=>exact h.elim
theorem mid_frame {A T:Array Value} {lo n:Nat} (h1:A.toList.take lo=T.toList.take lo) (h2:A.toList.drop (lo+n)=T.toList.drop (lo+n)) (h3:((A.toList.drop lo).take n).length=n):
  ∃us:List Value,us.length=n∧(⟨A,[]⟩:Act)=⟨(T.toList.take lo ++ us ++ T.toList.drop (lo+n)).toArray,[]⟩:=by
 refine⟨_,h3, ?_⟩
 rw[←h1,←h2]
 congr 1
 have e:A.toList=A.toList.take lo ++ (A.toList.drop lo).take n ++ A.toList.drop (lo+n):=by
  have e2:A.toList.drop (lo+n)=(A.toList.drop lo).drop n:=by rw[List.drop_drop]
  rw[List.append_assoc,e2,List.take_append_drop,List.take_append_drop]
 rw[←e]
end Go.Proofs.YtebnflpanfmicaaGreatDoor
