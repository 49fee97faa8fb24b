/-
  Part 27 of the proof: TopTakeW, TopBend, TopAll, TopFab.
-/
import Derived.Test.YtebnflpanfmicaaGreatDoorPkAX
import Derived.Test.YtebnflpanfmicaaGreatDoorPkAH
import Derived.Test.YtebnflpanfmicaaGreatDoorPkAZ
set_option linter.unusedVariables false
set_option linter.unusedSimpArgs false
set_option linter.unusedSectionVars false
namespace Go.Proofs.YtebnflpanfmicaaGreatDoor
open Go.RowKit
def Bytes (l:List Int):Prop:=∀x∈l,0≤x∧x≤255
theorem Bytes.getD {l:List Int} (h:Bytes l) (i:Nat):0≤l.getD i 0∧l.getD i 0≤255:=by
 rw[List.getD_eq_getElem?_getD]
 cases e:l[i]? with
 | none=>simp
 | some x=>exact h x (List.mem_of_getElem? e)
theorem decF_ok {l:List Int} (hl:Bytes l) (h:(decF l).2=0):soundF (decF l).1∧(0≤(decF l).1.kind∧(decF l).1.kind≤255)∧(0≤(decF l).1.lane∧(decF l).1.lane≤255)∧(0≤(decF l).1.src∧(decF l).1.src≤255)∧(0≤(decF l).1.dst∧(decF l).1.dst≤255):=by
 unfold decF at h ⊢
 split at h
 ·rename_i hg
  rw[if_pos hg]
  unfold decE at h
  simp only at h ⊢
  split at h
  ·rename_i hs
   unfold decV
   rw[if_pos hs]
   refine⟨hs, ?_⟩
   unfold frameOf
   split
   ·exact⟨hl.getD 0,hl.getD 1,hl.getD 4,hl.getD 5⟩
   ·exact⟨hl.getD 0,hl.getD 1,by simp,by simp⟩
  ·cases h
 ·cases h
section
variable {σ:Sig} {w:World} {o:Nat→Option Cmp} {f v:Nat} {g:Geo} {a:NodeA} {s:NodeS}
set_option maxRecDepth 100000 in
set_option maxHeartbeats 16000000 in
theorem take_runs' (h:SysF σ w o) (hg:σ.geo f=some g) (hn:σ.node f v=some (a,s)) (hv:v≤g.t.length) (hlv:∀i,∃A n c,a.lv i= .slice A n c) (x:Nat) (u:Value) (b:List Int) (hb:Byt w u b) (hby:Bytes b) (n L:Nat) (hpn:g.ports v=n+1) (hn1:1≤n) (hL:g.ws.length=L) (h6:n≤5):
  Calls Tryz.prog 61 #[.pointer (some ⟨a.nb,0,none⟩), .int .i64 x,u] w fun e w'=>e= .returned (.int .u16 (takeS g v x b s).2)∧∃o',SysF (σ.set f v a (takeS g v x b s).1) w' o'∧Ext o w o' w':=by
 have N:=h.nodeR hg hn
 obtain⟨gp,op,cp,epv,hcp,cpp,_⟩:=N.pq.cell (by omega)
 have cpv:w.cell? ⟨a.nb,13,none⟩=some a.pv:=by rw[blk_cell N.box];rfl
 have hpq:=N.pq
 rw[epv,hpn]at hpq
 rw[epv,hpn]at cpv
 rw[hpn]at hcp
 obtain⟨cq,rfl⟩:∃cq,cp=cq+1:=⟨cp - 1,by omega⟩
 have hcq:¬cq=0:=by omega
 have hdr:=hpq.drop 1 (by omega)
 have hpl:(portsFrom a 0 (tos g.t v)).drop (1*3)=portsFrom a 1 (nb g.t v):=rfl
 rw[hpl]at hdr
 have hnbl:(nb g.t v).length=n:=by have:g.ports v=(nb g.t v).length+1:=rfl;omega
 have hIX:Hid (∀U xb,Keeps (fun _=>False) w U→U.cell? ⟨xb,0,none⟩=some (.int .i64 (x:Int))→_):=Lib.hid fun U xb hU hx=>indexK_runs a hlv 1 (nb g.t v) n hnbl (some ⟨gp,op+1*3,none⟩) cq xb x U (hdr.keeps hU (fun _ _ h=>h)) (by omega) hx
 have hif:(if cq=0 then(some ⟨gp,op,none⟩:Option Addr)else some ⟨gp,op+3,none⟩)=some ⟨gp,op+1*3,none⟩:=if_neg hcq
 obtain⟨hi1,hi2⟩:=idxI_le (nb g.t v) x
 rw[hnbl]at hi1
 have h0:SysF (σ.set f v a s) w o:=by rw[set_self hn];exact h
 have H:=Lib.hid h0
 have HB:=Lib.hid hb
 obtain⟨uA,uc,hu,_⟩:=hb
 subst hu
 have hwx:IntKind.i64.wrap (idxI (nb g.t v) x+1)=idxI (nb g.t v) x+1:=by simp[IntKind.wrap,IntKind.bits,IntKind.signed];omega
 have hb1:¬((n:Int)+1) < 1:=by omega
 have hb2:(1:Int)≤(n:Int)+1:=by omega
 have hb3:(1:Int)≤((n+1:Nat):Int):=by omega
 have hb4:((n+1:Nat):Int)≤((cq+1:Nat):Int):=by omega
 have hkX:Keeps (fun _=>False) w (w.alloc (.cells #[.int .i64 (x:Int)] 3)):=Keeps.alloc _ _ _
 have hxX:(w.alloc (.cells #[.int .i64 (x:Int)] 3)).cell? ⟨w.heap.size,0,none⟩=some (.int .i64 (x:Int)):=by have:=blk_cell (blk_new w (.cells #[.int .i64 (x:Int)] 3)) 0;exact this
 have dpv:=hkX.cell cpv (fun h=>h)
 have HIX:=Lib.hid (hIX.out _ _ hkX hxX)
 have HKX:=Lib.hid hkX
 obtain⟨ts,hts⟩:∃ts,takeS g v x b s=ts:=⟨_,rfl⟩
 have hts2:=hts
 unfold takeS at hts2
 have HTS:=Lib.hid hts2
 rw[hts]
 clear hts hts2 h h0 N hpq hdr hpl hkX cpp hIX epv cpv hxX
 generalize idxI (nb g.t v) x=ix at*
 go_enter Tryz.func61,Tryz.ntmps61
 go_wp2_with fail
 generalize w.alloc (.cells #[.int .i64 (x:Int)] 3)=X at*
 generalize w.heap.size=xb at*
 refine HIX.out.mono ?_
 rintro e U ⟨rfl,hU⟩
 have HKU:=Lib.hid (HKX.out.trans hU)
 clear hU HIX HKX dpv
 have hSU:=SysF.calm' H.out HKU.out
 have hEU:=Ext.keeps o HKU.out
 have hbU:=HB.out.keeps HKU.out (fun _ _ h=>h)
 have HSU:=Lib.hid hSU
 have HEU:=Lib.hid hEU
 have HBU:=Lib.hid hbU
 clear hSU hEU hbU H HB HKU
 by_cases hi0:ix < 0
 ·obtain rfl:ix= -1:=by omega
  have e1:(s,(1:Int))=ts:=by have:=HTS.out;rw[if_pos (by omega)]at this;exact this
  subst e1
  have hb0:((-1:Int)+1 == 0)=true:=by decide
  clear HTS
  go_wp2_with fail
  go_ret
  exact⟨rfl,o,HSU.out,HEU.out⟩
 ·obtain⟨j,rfl⟩:∃j:Nat,ix=(j:Int):=⟨ix.toNat,by omega⟩
  have e1:=HTS.out
  rw[if_neg hi0]at e1
  have HT2:=Lib.hid e1
  clear e1 HTS
  have hb0:(((j:Int)+1) == 0)=false:=by rw[beq_eq_false_iff_ne];omega
  have HDC:=Lib.hid (decode_runs _ b U HBU.out)
  obtain⟨D,hD⟩:∃D,decF b=D:=⟨_,rfl⟩
  have hok:D.2=0→_:=fun e=>decF_ok hby (by rw[hD];exact e)
  rw[hD]at HDC HT2 hok
  obtain⟨fr,ec⟩:=D
  simp only at HDC HT2 hok
  have HOK:=Lib.hid hok
  clear hok hD
  obtain⟨f0,f1,f2,f3,f4,f5⟩:=fr
  go_wp2_with fail
  refine HDC.out.mono ?_
  rintro e V ⟨rfl,hV⟩
  have HSV:=Lib.hid (SysF.calm' HSU.out hV)
  have HEV:=Lib.hid (HEU.out.trans (Ext.keeps o hV))
  clear hV HDC HSU HEU
  by_cases hec:ec=0
  case neg=>
   have hb1:(ec == 0)=false:=by rw[beq_eq_false_iff_ne];exact hec
   have hb2:(ec != 0)=true:=by rw[bne,hb1];rfl
   have e1:(s,ec)=ts:=by have:=HT2.out;rw[if_pos hec]at this;exact this
   subst e1
   clear HT2 hec
   go_wp2_with fail
   go_ret
   have hkA:Keeps (fun _=>False) V (V.alloc (.cells #[.int .u8 f0, .int .u8 f1, .int .u16 f2, .int .u8 f3, .int .u8 f4, .int .u32 f5] 210)):=Keeps.alloc _ _ _
   exact⟨rfl,o,SysF.calm' HSV.out hkA,HEV.out.trans (Ext.keeps o hkA)⟩
  case pos=>
   subst hec
   obtain⟨hso,hr0,hr1,hr3,hr4⟩:=HOK.out rfl
   have e1:=HT2.out
   rw[if_neg (by simp)]at e1
   have HT3:=Lib.hid e1
   have HSO:=Lib.hid hso
   clear e1 HT2 HOK hso
   have hkA:Keeps (fun _=>False) V (V.alloc (.cells #[.int .u8 f0, .int .u8 f1, .int .u16 f2, .int .u8 f3, .int .u8 f4, .int .u32 f5] 210)):=Keeps.alloc _ _ _
   have hbX:=blk_new V (.cells #[.int .u8 f0, .int .u8 f1, .int .u16 f2, .int .u8 f3, .int .u8 f4, .int .u32 f5] 210)
   have HSX:=Lib.hid (SysF.calm' HSV.out hkA)
   have HEX:=Lib.hid (HEV.out.trans (Ext.keeps o hkA))
   have HFX:=Lib.hid hbX
   have hfr:=SysF.fresh HSV.out (Nat.le_refl V.heap.size)
   have z1:=blk_cell hbX 1
   simp only[List.getElem?_toArray,List.getElem?_cons_zero,List.getElem?_cons_succ]at z1
   clear hkA HSV HEV hbX
   have w1:IntKind.i64.wrap f1=f1:=by simp[IntKind.wrap,IntKind.bits,IntKind.signed];omega
   have hb1:((0:Int) == 0)=true:=rfl
   have hb2:((0:Int) != 0)=false:=rfl
   have hnk:=set_get (σ:=σ) f v a s
   have N:=HSX.out.nodeR hg hnk
   have P:=HSX.out.planS hg
   have hij:1≤j+1∧j+1 < g.ports v:=⟨by omega,by omega⟩
   unfold frameS at HT3
   simp only[hL,show((j:Int)+1).toNat=j+1 by omega]at HT3
   by_cases hln:(L:Int)≤f1
   ·have e1:(s,(30:Int))=ts:=by have:=HT3.out;rw[if_pos hln]at this;exact this
    subst e1
    have hen:=ends_no N P.lanes ((j+1:Nat):Int) f1 (.inr (.inr (.inr (by rw[hL];exact hln))))
    rw[show((j+1:Nat):Int)=(j:Int)+1 by omega]at hen
    have HEN:=Lib.hid hen
    clear HT3 N P hnk hen
    go_wp2_with fail
    refine HEN.out.mono ?_
    rintro e W ⟨rfl,hW⟩
    have HSW:=Lib.hid (SysF.calm' HSX.out hW)
    have HEW:=Lib.hid (HEX.out.trans (Ext.keeps o hW))
    clear hW HEN HSX HEX z1
    go_wp2_with fail
    go_ret
    have hkA:Keeps (fun _=>False) W (W.alloc (.cells #[.pointer none, .pointer none] 172)):=Keeps.alloc _ _ _
    exact⟨rfl,o,SysF.calm' HSW.out hkA,HEW.out.trans (Ext.keeps o hkA)⟩
   ·obtain⟨k,rfl⟩:∃k:Nat,f1=(k:Int):=⟨f1.toNat,by omega⟩
    have e1:=HT3.out
    rw[if_neg hln]at e1
    simp only[Int.toNat_natCast]at e1
    have HT4:=Lib.hid e1
    have hkL:k < g.ws.length:=by omega
    have hen:=ends_ok N P.lanes (j+1) k hij.1 hij.2 hkL
    rw[show((j+1:Nat):Int)=(j:Int)+1 by omega]at hen
    have HEN:=Lib.hid hen
    clear e1 HT3 N P hnk hen
    go_wp2_with fail
    refine HEN.out.mono ?_
    rintro e W ⟨rfl,hW⟩
    have hkA:Keeps (fun _=>False) W (W.alloc (.cells #[.pointer (some ⟨a.sb (j+1) k,0,none⟩), .pointer (some ⟨a.cb (j+1) k,0,none⟩)] 172)):=Keeps.alloc _ _ _
    have hbF:=blk_keeps (hW.trans hkA) HFX.out (fun h=>h)
    have hbL:=blk_new W (.cells #[.pointer (some ⟨a.sb (j+1) k,0,none⟩), .pointer (some ⟨a.cb (j+1) k,0,none⟩)] 172)
    have HSY:=Lib.hid (SysF.calm' HSX.out (hW.trans hkA))
    have HEY:=Lib.hid (HEX.out.trans (Ext.keeps o (hW.trans hkA)))
    have y0:=blk_cell hbF 0
    have y1:=blk_cell hbF 1
    have y2:=blk_cell hbF 2
    have y3:=blk_cell hbF 3
    have y4:=blk_cell hbF 4
    have y5:=blk_cell hbF 5
    have l0:=blk_cell hbL 0
    have l1:=blk_cell hbL 1
    simp only[List.getElem?_toArray,List.getElem?_cons_zero,List.getElem?_cons_succ]at y0 y1 y2 y3 y4 y5 l0 l1
    have hns:=set_get (σ:=σ) f v a s
    clear hW hkA hbF hbL HEN HSX HEX z1 HFX
    by_cases h2:f0=2
    ·subst h2
     have e1:=HT4.out
     rw[if_pos rfl]at e1
     subst e1
     have HC:=Lib.hid (chear_runs _ _ _ f2 _ (HSY.out.sendAt hg hns hij.1 hij.2 hkL).1)
     clear HT4
     go_wp2_with fail
     refine HC.out.mono ?_
     rintro e T ⟨⟨rb,rfl⟩,hT,hST⟩
     obtain⟨o1,hS1,hE1⟩:=SysF.stepSnd HSY.out hg hns hij.1 hij.2 hkL hT hST
     rw[set_set]at hS1
     have HS1:=Lib.hid hS1
     have HE1:=Lib.hid (HEY.out.trans hE1)
     clear hT hST hS1 hE1 HC HSY HEY y0 y1 y2 y3 y4 y5 l0 l1
     go_wp2_with fail
     go_ret
     exact⟨rfl,o1,HS1.out,HE1.out⟩
    ·by_cases h3:f0=3
     ·subst h3
      have e1:=HT4.out
      rw[if_neg (by decide),if_pos rfl]at e1
      subst e1
      have HC:=Lib.hid (rhear_runs _ _ _ _ f2 _ (HSY.out.recvAt hg hns hij.1 hij.2 hkL).1)
      clear HT4 h2
      go_wp2_with fail
      refine HC.out.mono ?_
      rintro e T ⟨⟨rb,rfl⟩,hT,hRT⟩
      obtain⟨o1,hS1,hE1⟩:=SysF.stepRcv HSY.out hg hns hij.1 hij.2 hkL hT hRT
      rw[set_set]at hS1
      have HS1:=Lib.hid hS1
      have HE1:=Lib.hid (HEY.out.trans hE1)
      clear hT hRT hS1 hE1 HC HSY HEY y0 y1 y2 y3 y4 y5 l0 l1
      go_wp2_with fail
      go_ret
      exact⟨rfl,o1,HS1.out,HE1.out⟩
     ·have h1:f0=1:=by
       rcases HSO.out with h | h
       ·exact h.1
       ·rcases h.1 with h | h
        ·exact absurd h h2
        ·exact absurd h h3
      subst h1
      have hsd:max f3 f4 < 6:=by
       rcases HSO.out with h | h
       ·exact h.2.2.1
       ·rcases h.1 with h | h <;>cases h
      have e1:=HT4.out
      rw[if_neg h2,if_neg h3]at e1
      have HDT:Hid (Calls Tryz.prog 122 #[.pointer (some ⟨a.nb,0,none⟩), .int .i64 ((j:Int)+1),lanePtrs a (j+1) k,Frm.val ⟨1,(k:Int),f2,f3,f4,f5⟩] (W.alloc (.cells #[.pointer (some ⟨a.sb (j+1) k,0,none⟩), .pointer (some ⟨a.cb (j+1) k,0,none⟩)] 172)) fun e w'=>e= .returned (.int .u16 ts.2)∧∃o',SysF (σ.set f v a ts.1) w' o'∧Ext o (W.alloc (.cells #[.pointer (some ⟨a.sb (j+1) k,0,none⟩), .pointer (some ⟨a.cb (j+1) k,0,none⟩)] 172)) o' w'):=Lib.hid (by
       have hcast:((j+1:Nat):Int)=(j:Int)+1:=by omega
       by_cases hfar:(g.t.length:Int)+1≤max f3 f4
       ·rw[if_pos hfar]at e1
        subst e1
        have hd:=data_far (HSY.out.nodeR hg hns) (j+1) k ⟨1,(k:Int),f2,f3,f4,f5⟩ hr3 hr4 hfar
        rw[hcast]at hd
        refine hd.mono ?_
        rintro e w' ⟨rfl,hk⟩
        exact⟨rfl,o,SysF.calm' HSY.out hk,Ext.keeps o hk⟩
       ·rw[if_neg hfar]at e1
        by_cases hc:comeE (s.next (j+1) k) (s.held (j+1) k) g.p.room f2=0
        ·rw[if_pos hc]at e1
         subst e1
         have hd:=data_ok HSY.out hg hns hv hlv (j+1) k hij.1 hij.2 hkL ⟨1,(k:Int),f2,f3,f4,f5⟩ f4.toNat (by simp only;omega) (by omega) (by simp only;omega) rfl hc
         rw[hcast,set_set]at hd
         exact hd
        ·rw[if_neg hc]at e1
         subst e1
         have hd:=data_no (HSY.out.nodeR hg hns) (j+1) k _ _ _ (HSY.out.recvAt hg hns hij.1 hij.2 hkL).1 ⟨1,(k:Int),f2,f3,f4,f5⟩ hr3 hr4 (by simp only;omega) _ rfl hc
         rw[hcast]at hd
         refine hd.mono ?_
         rintro e w' ⟨rfl,hk⟩
         exact⟨rfl,o,SysF.calm' HSY.out hk,Ext.keeps o hk⟩)
      unfold lanePtrs Frm.val at HDT
      simp only at HDT
      clear HT4 h2 h3 e1 HSY
      go_wp2_with fail
      refine HDT.out.mono ?_
      rintro e T ⟨rfl,o1,hS1,hE1⟩
      have HS1:=Lib.hid hS1
      have HE1:=Lib.hid (HEY.out.trans hE1)
      clear hS1 hE1 HDT HEY y0 y1 y2 y3 y4 y5 l0 l1
      go_wp2_with fail
      go_ret
      exact⟨rfl,o1,HS1.out,HE1.out⟩
end
end Go.Proofs.YtebnflpanfmicaaGreatDoor
namespace Go.Proofs.YtebnflpanfmicaaGreatDoor
open Go.RowKit
def bendRow (l:List Int) (at_ x:Int):List Int:=l.set (at_.toNat % l.length) (bits .xor .u8 (l.getD (at_.toNat % l.length) 0) x)
def bendL (rows:List (List Int)) (i at_ x:Int):List (List Int):=
 if inRow rows i=true∧0≤at_∧x≠0∧(rowOf rows i).length≠0 then rows.set i.toNat (bendRow (rowOf rows i) at_ x)else rows
theorem bendRow_length (l:List Int) (a x:Int):(bendRow l a x).length=l.length:=by simp[bendRow]
theorem LinkR.byte {w:World} {S:Nat→Prop} {b:Nat} {room:Int} {v:Value} {vs:List Value} {rows:List (List Int)} (h:LinkR w S b room v vs rows) {k:Nat} {g off n cap:Nat} {l:List Int} (hv:vs[k]? =some (.slice (some ⟨g,off,none⟩) n cap)) (hl:rows[k]? =some l) (j:Nat) (hj:j < l.length) (x:Int):
  LinkR (w.setCell ⟨g,off+j,none⟩ (encB x)) S b room v vs (rows.set k (l.set j x))∧Keeps S w (w.setCell ⟨g,off+j,none⟩ (encB x)):=by
 have hown:=h.own _ (List.mem_of_getElem? hv) g rfl
 have kset:Keeps (fun i=>i=g) w (w.setCell ⟨g,off+j,none⟩ (encB x)):=Keeps.setCell _ _ _ _ rfl
 refine⟨⟨blk_keeps kset h.box (fun e=>hown.2.1 e.symm),by rw[List.length_set];exact h.row.keeps kset (fun g' hg' e=>hown.2.2 (by rw[hg',e])),fun i u m h1 h2=> ?_,h.apart,h.own,h.vown,h.sb,fun g' hg'=>by simpa[World.setCell]using h.lt g' hg',by rw[List.length_set];exact h.most,fun m hm=> ?_⟩,kset.mono (fun i _ e=>e▸hown.1)⟩
 ·by_cases hi:i=k
  ·subst hi
   rw[hv]at h1
   cases h1
   rw[List.getElem?_set_self (List.getElem?_eq_some_iff.1 hl).1]at h2
   cases h2
   have hq:=h.each i _ l hv hl
   unfold BQ at hq ⊢
   obtain⟨q1,q2⟩:=hq
   rw[List.length_map,Nat.mul_one]at q1
   rw[List.length_set]
   refine⟨by simp, .inr ?_⟩
   rcases q2 with⟨h3,_⟩ | ⟨g',off',cap',cur,h3,h4,h5,h6,h7,h8⟩
   ·cases h3
   ·cases h3
    refine⟨g,off,cap,_,rfl,blk_set h4 (off+j) (encB x),h5,h6,by simpa using h7,fun t ht=> ?_⟩
    simp only[List.length_map,List.length_set]at ht
    rw[List.map_set,List.getElem?_set]
    by_cases e:j=t
    ·subst e
     rw[if_pos rfl,if_pos (by simpa using ht),Array.getElem?_setIfInBounds_self_of_lt (by omega)]
    ·rw[if_neg e,Array.getElem?_setIfInBounds_ne (by omega)]
     exact h8 t (by simpa using ht)
  ·rw[List.getElem?_set_ne (fun e=>hi e.symm)]at h2
   exact(h.each i u m h1 h2).keeps kset (fun g' hg' e=>h.apart i k u _ h1 hv hi g' hg' (by rw[e];rfl))
 ·rcases List.mem_or_eq_of_mem_set hm with hm | rfl
  ·exact h.short m hm
  ·rw[List.length_set];exact h.short l (List.mem_of_getElem? hl)
set_option maxHeartbeats 4000000 in
theorem bend_no (b:Nat) (u:Value) (ok:Bool) (i a x:Int) (w:World) (n:Nat) (A:Option Addr) (cap:Nat) (hu:u= .slice A n cap)
  (hA:Calls Tryz.prog 62 #[.pointer (some ⟨b,0,none⟩), .int .i64 i] w fun e w'=>e= .returned (.tuple #[u, .bool ok])∧w=w')
  (hc:ok=false∨(ok=true∧decide (a < 0)=true)∨(ok=true∧decide (a < 0)=false∧(x == 0)=true)∨(ok=true∧decide (a < 0)=false∧(x == 0)=false∧n=0)):
  Calls Tryz.prog 31 #[.pointer (some ⟨b,0,none⟩), .int .i64 i, .int .i64 a, .int .u8 x] w fun e w'=>e= .returned (.bool false)∧w=w':=by
 have HA:=Lib.hid hA
 clear hA
 subst hu
 rcases hc with rfl | ⟨rfl,h1⟩ | ⟨rfl,h1,h2⟩ | ⟨rfl,h1,h2,rfl⟩
 all_goals
  go_enter Tryz.func31,Tryz.ntmps31
  go_wp2_with fail
  refine HA.out.mono ?_
  rintro e w' ⟨rfl,hw⟩
  subst hw
  go_wp2_with fail
  go_ret
  exact⟨rfl,rfl⟩
set_option maxHeartbeats 4000000 in
theorem bend_yes (b:Nat) (i:Int) (a:Nat) (x:Int) (w:World) (g off n cap j:Nat) (c:Int) (hn:0 < n) (h12:n≤12) (hj:a % n=j)
  (hA:Calls Tryz.prog 62 #[.pointer (some ⟨b,0,none⟩), .int .i64 i] w fun e w'=>e= .returned (.tuple #[.slice (some ⟨g,off,none⟩) n cap, .bool true])∧w=w')
  (hx:(x == 0)=false) (hc:w.cell? ⟨g,off+j,none⟩=some (encB c)) (hf:w.frozen? ⟨g,off+j,none⟩=false):
  Calls Tryz.prog 31 #[.pointer (some ⟨b,0,none⟩), .int .i64 i, .int .i64 a, .int .u8 x] w fun e w'=>e= .returned (.bool true)∧w'=w.setCell ⟨g,off+j,none⟩ (encB (bits .xor .u8 c x)):=by
 have HA:=Lib.hid hA
 clear hA
 have h1:decide ((a:Int) < 0)=false:=decide_eq_false (by omega)
 have h1':¬(a:Int) < 0:=by omega
 have h2:((n:Int) == 0)=false:=by rw[beq_eq_false_iff_ne];omega
 have h3:(a:Int) % (n:Int)=(j:Int):=by rw[←hj];exact(Int.natCast_emod a n).symm
 have h4:j < n:=by rw[←hj];exact Nat.mod_lt _ hn
 have h5:(j:Int) < (n:Int):=by omega
 have h6:(0:Int)≤(a:Int):=by omega
 have h7:(0:Int) < (n:Int):=by omega
 have h8:(a:Int).tmod (n:Int)=(j:Int):=by rw[←h3];exact Int.tmod_eq_emod_of_nonneg h6
 have h9:¬(n:Int)=0:=by omega
 clear hj
 go_enter Tryz.func31,Tryz.ntmps31
 go_wp2_with fail
 refine HA.out.mono ?_
 rintro e w' ⟨rfl,hw⟩
 subst hw
 go_wp2_with fail
 go_ret
 exact⟨rfl,rfl⟩
theorem bend_runs (b:Nat) (room:Int) (rows:List (List Int)) (S:Nat→Prop) (w:World) (h:LinkV w S b room rows) (i a x:Int):
  Calls Tryz.prog 31 #[.pointer (some ⟨b,0,none⟩), .int .i64 i, .int .i64 a, .int .u8 x] w fun e w'=>(∃r,e= .returned (.bool r))∧Keeps S w w'∧LinkV w' S b room (bendL rows i a x):=by
 obtain⟨v,vs,h⟩:=h
 have hA:=lat_runs b room v vs rows S w h i
 have no:∀A n cap,rowAt vs i= .slice A n cap→_→bendL rows i a x=rows→Calls Tryz.prog 31 #[.pointer (some ⟨b,0,none⟩), .int .i64 i, .int .i64 a, .int .u8 x] w fun e w'=>(∃r,e= .returned (.bool r))∧Keeps S w w'∧LinkV w' S b room (bendL rows i a x):=fun A n cap h1 h2 h3=>by
  rw[h3]
  refine(bend_no b _ (inRow rows i) i a x w n A cap h1 hA h2).mono ?_
  rintro e w' ⟨rfl,hw⟩
  subst hw
  exact⟨⟨_,rfl⟩,Keeps.refl _ _,v,vs,h⟩
 cases hi:inRow rows i with
 | false=>
   have e1:rowAt vs i= .slice none 0 0:=by
    have hl:=h.len
    have:=of_decide_eq_false hi
    unfold rowAt
    split
    ·rfl
    ·rw[List.getElem?_eq_none (by omega)];rfl
   exact no none 0 0 e1 (.inl hi) (if_neg (by rw[hi];simp))
 | true=>
   obtain⟨h0,h1⟩:0≤i∧i < rows.length:=of_decide_eq_true hi
   obtain⟨k,rfl⟩:=Int.eq_ofNat_of_zero_le h0
   have hk:k < rows.length:=by omega
   have hl:=h.len
   have hkv:vs[k]? =some vs[k]:=List.getElem?_eq_getElem (by omega)
   have hkr:rows[k]? =some rows[k]:=List.getElem?_eq_getElem hk
   have e1:rowAt vs (k:Int)=vs[k]:=by
    unfold rowAt
    rw[if_neg (by omega),Int.toNat_natCast,hkv];rfl
   have e3:rowOf rows (k:Int)=rows[k]:=by
    unfold rowOf
    rw[if_pos h0,Int.toNat_natCast,List.getD_eq_getElem?_getD,hkr];rfl
   have hq:=h.each k _ _ hkv hkr
   obtain⟨A',cap',hv',_,_⟩:=hq.shape
   rw[e1]at no
   by_cases ha:a < 0
   ·exact no _ _ _ hv' (.inr (.inl ⟨hi,decide_eq_true ha⟩)) (if_neg (by omega))
   by_cases hx:x=0
   ·exact no _ _ _ hv' (.inr (.inr (.inl ⟨hi,decide_eq_false ha,beq_iff_eq.2 hx⟩))) (if_neg (by simp[hx]))
   by_cases hn:rows[k].length=0
   ·exact no _ _ _ hv' (.inr (.inr (.inr ⟨hi,decide_eq_false ha,beq_eq_false_iff_ne.2 hx,hn⟩))) (if_neg (by rw[e3];simp[hn]))
   obtain⟨a,rfl⟩:=Int.eq_ofNat_of_zero_le (show 0≤a by omega)
   have e4:bendL rows (k:Int) (a:Int) x=rows.set k (bendRow rows[k] a x):=by
    unfold bendL
    rw[if_pos ⟨hi,by omega,hx,by rw[e3];exact hn⟩,e3,Int.toNat_natCast]
   rw[e4]
   obtain⟨g,off,cap,hvv,_,hcell,hfz⟩:=hq.cell (by omega)
   have hj:a % rows[k].length < rows[k].length:=Nat.mod_lt _ (by omega)
   rw[hi,e1,hvv]at hA
   have hkv2:=hkv
   rw[hvv]at hkv2
   refine(bend_yes b k a x w g off rows[k].length cap (a % rows[k].length) (rows[k].getD (a % rows[k].length) 0) (by omega) (h.short _ (List.getElem_mem _)) rfl hA (beq_eq_false_iff_ne.2 hx) (hcell _ _ ?_) (hfz _)).mono ?_
   ·rw[List.getElem?_map,List.getElem?_eq_getElem hj,List.getD_eq_getElem?_getD,List.getElem?_eq_getElem hj];rfl
   ·rintro e w' ⟨rfl,rfl⟩
    obtain⟨r1,r2⟩:=h.byte hkv2 hkr _ hj (bits .xor .u8 (rows[k].getD (a % rows[k].length) 0) x)
    exact⟨⟨_,rfl⟩,r2,v,vs,r1⟩
end Go.Proofs.YtebnflpanfmicaaGreatDoor
namespace Go.Proofs.YtebnflpanfmicaaGreatDoor
open Go.RowKit
structure Rows (w:World) (B:Nat) (v:Value) (us:List Value) (rows:List (List Int)):Prop where
 row:QS w 22 1 v rows.length us
 each:∀(i:Nat) u l,us[i]? =some u→rows[i]? =some l→BQ w u l
 vnew:∀g,v.ownBlock=some g→B≤g
 unew:∀u∈us,∀g,u.ownBlock=some g→B≤g∧v.ownBlock≠some g
theorem Rows.keeps {w w':World} {B:Nat} {v:Value} {us:List Value} {rows:List (List Int)} {F:Nat→Prop} (h:Rows w B v us rows) (hk:Keeps F w w') (hF:∀k,B≤k→¬F k):Rows w' B v us rows:=
 ⟨h.row.keeps hk (fun g hg=>hF g (h.vnew g hg)),fun i u l h1 h2=>(h.each i u l h1 h2).keeps hk (fun g hg=>hF g (h.unew u (List.mem_of_getElem? h1) g hg).1),h.vnew,h.unew⟩
theorem Rows.nil (w:World) (B:Nat):Rows w B (.slice none 0 0) [] []:=
 ⟨QS.nil _ _ _,fun i u l h=>by simp at h,fun g h=>(by cases h),fun u h=>by simp at h⟩
theorem Rows.len {w:World} {B:Nat} {v:Value} {us:List Value} {rows:List (List Int)} (h:Rows w B v us rows):us.length=rows.length:=by have:=h.row.1;omega
set_option maxRecDepth 100000 in
set_option maxHeartbeats 8000000 in
theorem all_runs (b:Nat) (room:Int) (rows:List (List Int)) (S:Nat→Prop) (w:World) (h:LinkV w S b room rows):
  Calls Tryz.prog 35 #[.pointer (some ⟨b,0,none⟩)] w fun e w'=>∃A c us,e= .returned (.slice A rows.length c)∧Rows w' w.heap.size (.slice A rows.length c) us rows∧Keeps (fun _=>False) w w':=by
 obtain⟨v,vs,h⟩:=h
 obtain⟨c0,_⟩:=h.cells
 obtain⟨VA,vc,hv,hc1,hc2⟩:=h.row.shape
 have hm:=h.most
 rw[hv]at c0
 have H:=Lib.hid h
 have HV:=Lib.hid hv
 obtain⟨n,hn⟩:∃n,rows.length=n:=⟨_,rfl⟩
 have HN:=Lib.hid hn
 rw[hn]at c0 hm hc1 ⊢
 have hmx:n≤9223372036854775807:=by omega
 clear h hv hn hc1 hc2
 go_enter Tryz.func35,Tryz.ntmps35
 go_wp2_with fail
 go_loopw [3,11] (fun o s wr=>∃(j:Nat) (A:Option Addr) (c:Nat) (us:List Value),j≤n∧s= .int .i64 (j:Int)∧o= .slice A j c∧Rows wr w.heap.size (.slice A j c) us (rows.take j)∧Keeps (fun _=>False) w wr) (fun _ s _=>n - (intOf s).toNat)
 case atStart=>exact⟨0,none,0,[],Nat.zero_le _,rfl,rfl,Rows.nil _ _,Keeps.refl _ _⟩
 case round=>
  obtain⟨j,A,c,us,hj,rfl,rfl,hR,hk⟩:=hrel
  by_cases hlt:j < n
  ·have hlt':(j:Int) < (n:Int):=by omega
   have hj0:(0:Int)≤(j:Int):=by omega
   have h2:=H.out.keeps hk (fun _ _ h=>h)
   have hjr:j < rows.length:=by have:=HN.out;omega
   have hl:=h2.len
   have hkv:vs[j]? =some vs[j]:=List.getElem?_eq_getElem (by omega)
   have hkr:rows[j]? =some rows[j]:=List.getElem?_eq_getElem hjr
   have hq:=h2.each j _ _ hkv hkr
   obtain⟨uA,uc,hu,_,_⟩:=hq.shape
   obtain⟨g,off,cp,hvv,_,hcell,_⟩:=h2.row.cell (by omega)
   have hcl:=hcell j _ hkv
   have hva:VA=some ⟨g,off,none⟩∧vc=cp:=by
    have:=HV.out
    rw[hvv]at this
    injection this with e1 e2 e3
    exact⟨e1.symm,e3.symm⟩
   obtain⟨hva1,hva2⟩:=hva
   subst hva1 hva2
   have h12:=h2.short _ (List.getElem_mem hjr)
   obtain⟨l,hl2⟩:∃l,rows[j]=l:=⟨_,rfl⟩
   rw[hl2]at hq hu hkr h12
   rw[hu]at hq hcl
   have HCL:=Lib.hid (bclone_runs _ l wr hq (by omega))
   have htk:rows.take (j+1)=rows.take j ++ [l]:=by rw[List.take_add_one,hkr];rfl
   have HTK:=Lib.hid htk
   have HR:=Lib.hid hR
   have HK:=Lib.hid hk
   have htl:(rows.take j).length=j:=by rw[List.length_take];omega
   have HTL:=Lib.hid htl
   clear h2 hl hkv hkr hq hu hcell hvv htk hR hk hl2 htl
   go_wp2_with fail
   refine HCL.out.mono ?_
   rintro e U ⟨A1,c1,rfl,hq1,hk1,ho1⟩
   have hR1:=HR.out.keeps hk1 (fun _ _ h=>h)
   have hQ1:=hR1.row
   rw[HTL.out]at hQ1
   have hQ2:QS (U.alloc (.cells #[.slice A1 l.length c1] 22)) 22 1 (.slice A j c) j us:=hQ1.alloc _
   have hS:Src Tryz.prog 1 80 (.slice (some ⟨U.heap.size,0,none⟩) 1 1) 1 [.slice A1 l.length c1] (U.alloc (.cells #[.slice A1 l.length c1] 22)):=
    src_blk Tryz.underlying80 (blk_new U _) rfl (by intro jj hjj';match jj,hjj' with | 0,_=>rfl) (by intro y hy;simp at hy;rcases hy with rfl;rfl)
   have h24:0 < 24:=by decide
   have hb24:(j+1)*24≤140737488355328:=by omega
   have HQ1:=Lib.hid hq1
   have HK1:=Lib.hid hk1
   have HR1:=Lib.hid hR1
   have HO1:=Lib.hid ho1
   clear hq1 hk1 hR1 ho1 hQ1
   go_wp2_with (at_builtin;refine wpList_append_QS rfl (.tmp 15) (.tmp 18) 80 80 rfl 22 _ 1 24 Tryz.underlying80 info_bs rfl _ j us rfl hQ2 _ 1 _ rfl hS h24 hb24 ?_;intro A2 c2 U2 hq2 hg2 ho2)
   go_roundw
   case rel=>
    have hg:(U.alloc (.cells #[.slice A1 l.length c1] 22)).grownBy U2 (Value.slice A j c).ownBlock:=hg2
    have ho3:(Value.slice A2 (j+1) c2).ownBlock=(Value.slice A j c).ownBlock∨∃b,(Value.slice A2 (j+1) c2).ownBlock=some b∧(U.alloc (.cells #[.slice A1 l.length c1] 22)).heap.size≤b:=ho2
    have hkg:Keeps (fun g=>(Value.slice A j c).ownBlock=some g) U U2:=(Keeps.alloc _ _ _).trans (Keeps.grown hg (fun i h=>h))
    have hsz1:=HK1.out.size
    have hsz0:=HK.out.size
    have hv2:∀g,(Value.slice A2 (j+1) c2).ownBlock=some g→w.heap.size≤g:=fun g hg'=>by
     rcases ho3 with h | ⟨b',h,hb'⟩
     ·exact HR1.out.vnew g (h▸hg')
     ·rw[hg']at h;cases h;simp at hb';omega
    have hul:∀u∈us,∀g,u.ownBlock=some g→g < U.heap.size:=fun u hu g hg'=>by
     obtain⟨i,hi,e⟩:=List.mem_iff_getElem.1 hu
     have hle:=HR1.out.len
     exact(HR1.out.each i u _ (by rw[←e];exact List.getElem?_eq_getElem hi) (List.getElem?_eq_getElem (by omega))).lt g hg'
    have hal:∀g,(Value.slice A1 l.length c1).ownBlock=some g→g < U.heap.size:=HQ1.out.lt
    refine⟨j+1,A2,c2,us ++ [.slice A1 l.length c1],by omega,by go_num,rfl,⟨?_,fun i u m h1 h2=> ?_,hv2,fun u hu g hg'=> ?_⟩,(HK.out.trans HK1.out).then hkg (fun i hi h=>by have:=HR1.out.vnew i h;omega)⟩
    ·rw[HTK.out,List.length_append,HTL.out];exact hq2
    ·rw[HTK.out]at h2
     have hle:=HR1.out.len
     rcases get_snoc' h1 with⟨hi,h3⟩ | ⟨hi,rfl⟩
     ·rcases get_snoc' h2 with⟨_,h4⟩ | ⟨hi2,_⟩
      ·exact(HR1.out.each i u m h3 h4).keeps hkg (fun g hg' e=>(HR1.out.unew u (List.mem_of_getElem? h3) g hg').2 e)
      ·omega
     ·rcases get_snoc' h2 with⟨hi2,_⟩ | ⟨_,rfl⟩
      ·omega
      ·refine HQ1.out.keeps hkg (fun g hg' e=> ?_)
       have h5:=HO1.out g hg'
       have h6:=HR.out.row.lt g e
       omega
    ·rcases List.mem_append.1 hu with hu | hu
     ·obtain⟨h1,h2⟩:=HR1.out.unew u hu g hg'
      refine⟨h1,fun e=> ?_⟩
      rcases ho3 with h | ⟨b',h,hb'⟩
      ·exact h2 (h▸e)
      ·rw[e]at h;cases h;simp at hb';have:=hul u hu g hg';omega
     ·simp only[List.mem_singleton]at hu
      subst hu
      have h5:=HO1.out g hg'
      refine⟨by omega,fun e=> ?_⟩
      rcases ho3 with h | ⟨b',h,hb'⟩
      ·rw[e]at h;have:=HR.out.row.lt g h.symm;omega
      ·rw[e]at h;cases h;simp at hb';have:=hal g hg';omega
   case measure=>simp[intOf];omega
  ·obtain rfl:j=n:=by omega
   have hlt':¬(j:Int) < (j:Int):=by omega
   have HR:=Lib.hid hR
   clear hR
   go_wp2_with fail
   go_ret
   refine⟨A,c,rfl,⟨us, ?_⟩,hk⟩
   have h3:=HR.out
   rw[List.take_of_length_le (by have:=HN.out;omega)]at h3
   exact h3
end Go.Proofs.YtebnflpanfmicaaGreatDoor
namespace Go.Proofs.YtebnflpanfmicaaGreatDoor
open Go.RowKit
structure FabA where
 fb:Nat
 hv:Value
 nv:Value
 mb:Nat
 lb:Nat→Nat
 na:Nat→NodeA
structure FabS where
 nd:Nat→NodeS
 ln:Nat→List (List Int)
 ticks:Int
def nodePtrs (fa:FabA) (n:Nat):List Value:=(List.range n).map fun v=> .pointer (some ⟨(fa.na v).nb,0,none⟩)
abbrev hopK (x:Nat×Nat):Hop:=⟨(x.1:Int),(x.2:Int)⟩
structure FabR (w:World) (S:Nat→Prop) (fa:FabA) (g:Geo) (ticks:Int):Prop where
 box:w.heap[fa.fb]? =some (.cells #[.int .i64 ((g.t.length:Int)+1),g.e, .int .i64 g.p.lanes, .int .i64 g.p.room, .int .i64 g.p.queue, .int .i64 g.p.rounds, .int .i64 g.p.every, .int .i64 g.p.bag,g.wt, .int .u16 g.p.start,g.nx,fa.hv,fa.nv, .map (some fa.mb), .int .i64 ticks] 92 (0,0))
 hops:QS w 95 2 fa.hv (hopsOf g.t).length (ecells (hopsOf g.t))
 nodes:QS w 58 1 fa.nv (g.t.length+1) (nodePtrs fa (g.t.length+1))
 map:∃L c,w.heap[fa.mb]? =some (entsObj Hop.val L c)∧∀h x,(hopsOf g.t)[h]? =some x→∃i,findE (hopK x) L 0=some (i, .pointer (some ⟨fa.lb h,0,none⟩))
 sb:S fa.fb
 smb:S fa.mb∧fa.mb≠fa.fb
 hown:∀k,fa.hv.ownBlock=some k→S k∧k≠fa.fb
 nown:∀k,fa.nv.ownBlock=some k→S k∧k≠fa.fb
 lt:∀k,S k→k < w.heap.size
theorem FabR.keeps {w w':World} {S F:Nat→Prop} {fa:FabA} {g:Geo} {ticks:Int} (h:FabR w S fa g ticks) (hk:Keeps F w w') (hF:∀k,S k→¬F k):FabR w' S fa g ticks:=by
 obtain⟨L,c,h1,h2⟩:=h.map
 exact⟨blk_keeps hk h.box (hF _ h.sb),h.hops.keeps hk (fun k e=>hF k (h.hown k e).1),h.nodes.keeps hk (fun k e=>hF k (h.nown k e).1),⟨L,c,blk_keeps hk h1 (hF _ h.smb.1),h2⟩,h.sb,h.smb,h.hown,h.nown,fun k hk'=>Nat.lt_of_lt_of_le (h.lt k hk') hk.size⟩
def fabPart (fa:FabA) (g:Geo) (ticks:Int):Part:=⟨fun w S=>FabR w S fa g ticks,fun h hk hF=>h.keeps hk hF,fun h=>h.lt⟩
def Sig.setL (σ:Sig) (f h b:Nat) (rows:List (List Int)):Sig:={σ with link:=fun f' h'=>if f'=f∧h'=h then some (b,rows)else σ.link f' h'}
def Sig.setF (σ:Sig) (f:Nat) (P:Part):Sig:={σ with fab:=fun f'=>if f'=f then P else σ.fab f'}
structure FabAt (σ:Sig) (f:Nat) (fa:FabA) (g:Geo) (s:FabS):Prop where
 geo:σ.geo f=some g
 fab:σ.fab f=fabPart fa g s.ticks
 node:∀v,v≤g.t.length→σ.node f v=some (fa.na v,s.nd v)
 link:∀h,h < (hopsOf g.t).length→σ.link f h=some (fa.lb h,s.ln h)
 lv:∀v,∀i,∃A n c,(fa.na v).lv i= .slice A n c
def Agree (σ σ':Sig) (f:Nat):Prop:=∀f',f'≠f→σ'.geo f'=σ.geo f'∧σ'.fab f'=σ.fab f'∧(∀v,σ'.node f' v=σ.node f' v)∧∀h,σ'.link f' h=σ.link f' h
theorem Agree.refl (σ:Sig) (f:Nat):Agree σ σ f:=fun _ _=>⟨rfl,rfl,fun _=>rfl,fun _=>rfl⟩
theorem Agree.trans {σ σ' σ'':Sig} {f:Nat} (h:Agree σ σ' f) (k:Agree σ' σ'' f):Agree σ σ'' f:=fun f' hf=>
 ⟨(k f' hf).1.trans (h f' hf).1,(k f' hf).2.1.trans (h f' hf).2.1,fun v=>((k f' hf).2.2.1 v).trans ((h f' hf).2.2.1 v),fun i=>((k f' hf).2.2.2 i).trans ((h f' hf).2.2.2 i)⟩
theorem FabAt.agree {σ σ':Sig} {f f':Nat} {fa:FabA} {g:Geo} {s:FabS} (h:FabAt σ f' fa g s) (k:Agree σ σ' f) (hf:f'≠f):FabAt σ' f' fa g s:=by
 obtain⟨k1,k2,k3,k4⟩:=k f' hf
 exact⟨k1.trans h.geo,k2.trans h.fab,fun v hv=>(k3 v).trans (h.node v hv),fun i hi=>(k4 i).trans (h.link i hi),h.lv⟩
def Next (σ:Sig) (w:World) (o:Nat→Option Cmp) (f:Nat) (fa:FabA) (g:Geo) (w':World) (s':FabS):Prop:=
 ∃σ' o',SysF σ' w' o'∧Ext o w o' w'∧FabAt σ' f fa g s'∧Agree σ σ' f
section
variable {σ:Sig} {w w' w'':World} {o:Nat→Option Cmp} {f:Nat} {fa:FabA} {g:Geo} {s s' s'':FabS}
theorem Next.calm (h:SysF σ w o) (hF:FabAt σ f fa g s) (hk:Keeps (fun _=>False) w w'):Next σ w o f fa g w' s:=
 ⟨σ,o,SysF.calm' h hk,Ext.keeps o hk,hF,Agree.refl _ _⟩
theorem FabAt.setN (h:FabAt σ f fa g s) (v:Nat) (n:NodeS):FabAt (σ.set f v (fa.na v) n) f fa g {s with nd:=setAt s.nd v n}:=by
 refine⟨h.geo,h.fab,fun x hx=> ?_,h.link,h.lv⟩
 by_cases e:x=v
 ·subst e;simp[Sig.set,setAt]
 ·simp[Sig.set,setAt,e,h.node x hx]
theorem agree_set (σ:Sig) (f v:Nat) (a:NodeA) (n:NodeS):Agree σ (σ.set f v a n) f:=fun f' hf=>
 ⟨rfl,rfl,fun x=>by simp[Sig.set,hf],fun _=>rfl⟩
theorem FabAt.setLn (h:FabAt σ f fa g s) (i:Nat) (rows:List (List Int)):FabAt (σ.setL f i (fa.lb i) rows) f fa g {s with ln:=setAt s.ln i rows}:=by
 refine⟨h.geo,h.fab,h.node,fun x hx=> ?_,h.lv⟩
 by_cases e:x=i
 ·subst e;simp[Sig.setL,setAt]
 ·simp[Sig.setL,setAt,e,h.link x hx]
theorem agree_setL (σ:Sig) (f i b:Nat) (rows:List (List Int)):Agree σ (σ.setL f i b rows) f:=fun f' hf=>
 ⟨rfl,rfl,fun _=>rfl,fun x=>by simp[Sig.setL,hf]⟩
theorem FabAt.setT (h:FabAt σ f fa g s) (y:Int):FabAt (σ.setF f (fabPart fa g y)) f fa g {s with ticks:=y}:=
 ⟨h.geo,by simp[Sig.setF],h.node,h.link,h.lv⟩
theorem agree_setF (σ:Sig) (f:Nat) (P:Part):Agree σ (σ.setF f P) f:=fun f' hf=>
 ⟨rfl,by simp[Sig.setF,hf],fun _=>rfl,fun _=>rfl⟩
theorem SysF.fabR (h:SysF σ w o) (hF:FabAt σ f fa g s):FabR w (fun k=>o k=some (.fab f)) fa g s.ticks:=by
 have:=h.part (.fab f)
 simp only[Sig.part,hF.fab]at this
 exact this
theorem SysF.linkV (h:SysF σ w o) (hF:FabAt σ f fa g s) {i:Nat} (hi:i < (hopsOf g.t).length):LinkV w (fun k=>o k=some (.link f i)) (fa.lb i) g.p.bag (s.ln i):=by
 have:=h.part (.link f i)
 simp only[Sig.part,hF.geo,hF.link i hi]at this
 exact this
theorem setL_part (σ:Sig) (f i b:Nat) (rows:List (List Int)):∀x,x≠Cmp.link f i→(σ.setL f i b rows).part x=σ.part x:=by
 intro x hx
 cases x with
 | link f' h'=>
   have:¬(f'=f∧h'=i):=fun e=>hx (by rw[e.1,e.2])
   simp[Sig.part,Sig.setL,this]
 | _=>rfl
theorem setF_part (σ:Sig) (f:Nat) (P:Part):∀x,x≠Cmp.fab f→(σ.setF f P).part x=σ.part x:=by
 intro x hx
 cases x with
 | fab f'=>
   have:¬f'=f:=fun e=>hx (by rw[e])
   simp[Sig.part,Sig.setF,this]
 | _=>rfl
theorem SysF.stepLink (h:SysF σ w o) (hF:FabAt σ f fa g s) {i:Nat} (hi:i < (hopsOf g.t).length) {rows:List (List Int)} (hk:Keeps (fun k=>o k=some (.link f i)) w w') (hw:LinkV w' (more (fun k=>o k=some (.link f i)) w w') (fa.lb i) g.p.bag rows):
  Next σ w o f fa g w' {s with ln:=setAt s.ln i rows}:=by
 obtain⟨o',h1,h2⟩:=Sys.step (A':=(σ.setL f i (fa.lb i) rows).part) h (.link f i) (setL_part σ f i _ rows) hk (by simp only[Sig.part,Sig.setL,hF.geo,and_self,if_true];exact hw)
 exact⟨_,o',h1,h2,hF.setLn i rows,agree_setL _ _ _ _ _⟩
theorem Next.then {σ':Sig} {o':Nat→Option Cmp} (h1:SysF σ' w' o') (h2:Ext o w o' w') (h3:Agree σ σ' f) (h:Next σ' w' o' f fa g w'' s''):Next σ w o f fa g w'' s'':=by
 obtain⟨σ'',o'',k1,k2,k3,k4⟩:=h
 exact⟨σ'',o'',k1,h2.trans k2,k3,h3.trans k4⟩
theorem FabAt.nodeNext (hF:FabAt σ f fa g s) {v:Nat} {n:NodeS} (h:∃o',SysF (σ.set f v (fa.na v) n) w' o'∧Ext o w o' w'):Next σ w o f fa g w' {s with nd:=setAt s.nd v n}:=by
 obtain⟨o',h1,h2⟩:=h
 exact⟨_,o',h1,h2,hF.setN v n,agree_set _ _ _ _ _⟩
end
structure FabOk (g:Geo) (s:FabS) (c:Nat):Prop where
 node:∀v,v≤g.t.length→NodeOk g v (s.nd v) c
 room:∀h,h < (hopsOf g.t).length→((s.ln h).length:Int)≤g.p.bag
 rows:∀h,h < (hopsOf g.t).length→∀l∈s.ln h,l.length≤12∧Bytes l
theorem flat2_at:∀(l:List (Nat×Nat)) (j:Nat) (x:Nat×Nat),l[j]? =some x→(ecells l)[j*2]? =some (encI x.1)∧(ecells l)[j*2+1]? =some (encI x.2)
 | [],j,x,h=>by simp at h
 | y :: l,0,x,h=>by simp at h;subst h;exact⟨rfl,rfl⟩
 | y :: l,j+1,x,h=>by
   obtain⟨h1,h2⟩:=flat2_at l j x (by simpa using h)
   refine⟨?_, ?_⟩
   ·rw[show(j+1)*2=j*2+2 by omega];simpa[ecells]using h1
   ·rw[show(j+1)*2+1=j*2+1+2 by omega];simpa[ecells]using h2
end Go.Proofs.YtebnflpanfmicaaGreatDoor
