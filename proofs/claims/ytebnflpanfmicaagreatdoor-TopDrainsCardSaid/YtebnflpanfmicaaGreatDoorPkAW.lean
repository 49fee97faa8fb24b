/-
  Part 23 of the proof: TopPop, IslipGrant.
-/
import Derived.Test.YtebnflpanfmicaaGreatDoorPkAN
import Derived.Test.YtebnflpanfmicaaGreatDoorPkAS
import Derived.Test.YtebnflpanfmicaaGreatDoorPkAL
import Derived.Sort.AtCall
import Derived.BigQuiet
import Derived.Lib.QuietBelow
set_option linter.unusedVariables false
set_option linter.unusedSimpArgs false
set_option linter.unusedSectionVars false
namespace Go.Proofs.YtebnflpanfmicaaGreatDoor
open Go.RowKit
section
variable {w w':World} {S SP F:Nat→Prop} {b pb mb:Nat} {ports lanes:Int} {st:PoolS} {L:List (Ent Way)} {c:Nat} {sl:Way→List Nat}
theorem RingsR.there (h:RingsR w S b pb mb ports lanes SP st L c sl) {k:Way} {j:Nat} {r:List Nat} (hs:sl k=j :: r):
  ∃i e,findE k L 0=some (i,e.val)∧e∈L∧e.key=k∧lookV L k=e.val∧∃g off cap,e.val= .slice (some ⟨g,off,none⟩) (r.length+1) (cap+1)∧w.cell? ⟨g,off,none⟩=some (encN j)∧
   (∀W,Keeps (fun g'=>g'≠g) w W→IQ W (.slice (some ⟨g,if cap=0 then off else off+1,none⟩) r.length cap) r)∧S g∧g≠b∧g≠mb∧¬SP g:=by
 rcases look_case L k with⟨h1,_,_⟩ | ⟨i,e,h0,_,h2,h3,h4⟩
 ·rw[h.gone k h1]at hs;cases hs
 ·refine⟨i,e,h0,h2,h3,h4, ?_⟩
  have hq:=h.rows e h2
  rw[h3,hs]at hq
  obtain⟨g,off,cap,hv,hnc,hcell,hfr⟩:=hq.cell (by simp)
  rw[List.length_cons]at hv hnc
  obtain⟨cap,rfl⟩:∃c,cap=c+1:=⟨cap - 1,by omega⟩
  have ho:=h.own e h2 g (by rw[hv];rfl)
  refine⟨g,off,cap,hv,hcell 0 _ rfl,fun W hW=> ?_,ho⟩
  have hq':IQ W e.val (j :: r):=hq.keeps hW (fun g' hg'=>by
   rw[hv]at hg'
   cases hg'
   exact fun h=>h rfl)
  rw[hv]at hq'
  unfold IQ at hq' ⊢
  rw[List.length_cons]at hq'
  by_cases hc:cap=0
  ·subst hc
   obtain rfl:r=[]:=List.eq_nil_of_length_eq_zero (by omega)
   exact hq'.dropAll
  ·rw[if_neg hc]
   have:=hq'.drop 1 (by omega)
   exact this
end
theorem head_runs (b:Nat) (S:Nat→Prop) (ports lanes:Int) (free:Nat) (Q:Way→List Pkt) (w:World) (h:RingsV w S b ports lanes free Q) (k:Way):
  Calls Tryz.prog 216 #[.pointer (some ⟨b,0,none⟩), .int .i64 k.inp, .int .i64 k.out, .int .i64 k.lane] w fun e w'=>e= .returned (.tuple #[((Q k).head?.getD Pkt.zero).val, .bool !(Q k).isEmpty])∧Keeps (fun _=>False) w w':=by
 obtain⟨pb,mb,SP,st,L,c,sl,F,h,h2,h3,h4⟩:=h
 have hlen:=h2.len k
 have hlk:=fun W hW=>RingsR.run_look (c:=c) (L:=L) (h.keeps (w':=W) (F:=fun _=>False) hW (fun _ _ h=>h)).map k
 obtain⟨c0,c1,_,_⟩:=h.cells
 cases hq:Q k with
 | nil=>
   rw[hq]at hlen
   have hs:sl k=[]:=List.eq_nil_of_length_eq_zero hlen
   have hv:=h.look k
   rw[hs]at hv
   obtain⟨A,cap,e,_,_⟩:=hv.shape
   simp only[List.length_nil]at e
   rw[e]at hlk
   exact head_no b pb mb ports lanes k A cap w c1 hlk
 | cons x q=>
   cases hs:sl k with
   | nil=>rw[hq,hs]at hlen;simp at hlen
   | cons j r=>
     obtain⟨i,e,_,_,_,h8,g,off,cap,hv,hc,_⟩:=h.there hs
     rw[h8,hv]at hlk
     have hsm:=h2.small k
     rw[hs,List.length_cons]at hsm
     refine head_yes b pb mb ports lanes k g off r.length (cap+1) j x w c0 c1 hlk hc (by omega) (fun W hW=> ?_)
     have:=get_runs pb st SP W (h.pool.keeps hW (fun _ _ h=>h)) j
     rw[h2.first hs hq]at this
     exact this
set_option maxRecDepth 100000 in
set_option maxHeartbeats 4000000 in
theorem pop_no (b:Nat) (k:Way) (w:World)
  (hh:∀W,Keeps (fun _=>False) w W→Calls Tryz.prog 216 #[.pointer (some ⟨b,0,none⟩), .int .i64 k.inp, .int .i64 k.out, .int .i64 k.lane] W fun e w'=>e= .returned (.tuple #[.agg #[.int .i64 0, .int .i64 0, .int .i64 0, .int .u32 0], .bool false])∧Keeps (fun _=>False) W w'):
  Calls Tryz.prog 182 #[.pointer (some ⟨b,0,none⟩), .int .i64 k.inp, .int .i64 k.out, .int .i64 k.lane] w fun e w'=>e= .returned (.tuple #[Pkt.zero.val, .bool false])∧Keeps (fun _=>False) w w':=by
 have HH:=Lib.hid hh
 clear hh
 have hk:=Keeps.alloc (fun _=>False) w (.cells Pkt.zero.cells.toArray 31)
 have hbx:PktAt (w.alloc (.cells Pkt.zero.cells.toArray 31)) w.heap.size Pkt.zero:=blk_new w (.cells Pkt.zero.cells.toArray 31)
 go_enter Tryz.func182,Tryz.ntmps182
 go_wp2_with fail
 refine(HH.out _ hk).mono ?_
 rintro e V ⟨rfl,hV⟩
 have hb1:=blk_keeps hV hbx (fun h=>h)
 have hkV:=hk.trans hV
 have hsz:=blk_lt hb1
 have hne:¬V.heap.size=w.heap.size:=by omega
 have hne':¬w.heap.size=V.heap.size:=by omega
 have HB1:=Lib.hid (p:=PktAt V w.heap.size Pkt.zero) hb1
 have hcs:=PktAt.cells HB1.out
 simp only at hcs
 obtain⟨b0,b1,b2,b3⟩:=hcs
 obtain⟨f0,f1,f2,f3⟩:=PktAt.free HB1.out
 clear HH hk hV hbx hb1
 obtain⟨xb,hxb⟩:∃xb,w.heap.size=xb:=⟨_,rfl⟩
 rw[hxb]at b0 b1 b2 b3 f0 f1 f2 f3 HB1 hne hne' hsz ⊢
 have HX:=Lib.hid hxb
 clear hxb
 go_wp2_with fail
 have hbx:=set4_box HB1.out Pkt.zero
 have hkx:=set4_keeps V xb Pkt.zero
 obtain⟨z0,z1,z2,z3⟩:=PktAt.cells (blk_alloc hbx (.cells Pkt.zero.cells.toArray 31))
 unfold set4 at z0 z1 z2 z3 hkx
 exact bodyPost_ret (v:= .tuple #[Pkt.zero.val, .bool false]) (by simp[results,Tryz.results182,go_sem,z0,z1,z2,z3]) rfl ⟨rfl,(hkV.then hkx (fun i hi e=>by rw[HX.out]at hi;omega)).trans (Keeps.alloc _ _ _)⟩
set_option maxRecDepth 100000 in
set_option maxHeartbeats 16000000 in
theorem pop_low (b pb mb:Nat) (ports lanes:Int) (k:Way) (x:Pkt) (w:World) (j:Nat) (r:List Nat) (S SP:Nat→Prop) (st:PoolS) (L:List (Ent Way)) (c:Nat) (sl:Way→List Nat) (h:RingsR w S b pb mb ports lanes SP st L c sl) (hs:sl k=j :: r)
  (hh:∀W,Keeps (fun _=>False) w W→Calls Tryz.prog 216 #[.pointer (some ⟨b,0,none⟩), .int .i64 k.inp, .int .i64 k.out, .int .i64 k.lane] W fun e w'=>e= .returned (.tuple #[x.val, .bool true])∧Keeps (fun _=>False) W w')
  (hsm:r.length≤200):
  Calls Tryz.prog 182 #[.pointer (some ⟨b,0,none⟩), .int .i64 k.inp, .int .i64 k.out, .int .i64 k.lane] w fun e w'=>e= .returned (.tuple #[x.val, .bool true])∧Keeps S w w'∧
   ∃SP' L' c',RingsR w' (more S w w') b pb mb ports lanes SP' (dropP st j) L' c' (setW sl k r):=by
 have HH:=Lib.hid (p:=∀W,Keeps (fun _=>False) w W→Calls Tryz.prog 216 #[.pointer (some ⟨b,0,none⟩), .int .i64 k.inp, .int .i64 k.out, .int .i64 k.lane] W fun e w'=>e= .returned (.tuple #[.agg #[.int .i64 x.src, .int .i64 x.dst, .int .i64 x.lane, .int .u32 x.body], .bool true])∧Keeps (fun _=>False) W w') hh
 clear hh
 have hk:=Keeps.alloc (fun _=>False) w (.cells Pkt.zero.cells.toArray 31)
 have hbx:PktAt (w.alloc (.cells Pkt.zero.cells.toArray 31)) w.heap.size Pkt.zero:=blk_new w (.cells Pkt.zero.cells.toArray 31)
 have H:=Lib.hid h
 have HS:=Lib.hid hs
 clear h hs
 obtain⟨kk,hkk⟩:∃kk,k=kk:=⟨_,rfl⟩
 obtain⟨k1,k2,k3⟩:=k
 have HKK:=Lib.hid hkk
 obtain⟨x1,x2,x3,x4⟩:=x
 simp only at HH
 go_enter Tryz.func182,Tryz.ntmps182
 clear hkk
 go_wp2_with fail
 refine(HH.out _ hk).mono ?_
 rintro e V ⟨rfl,hV⟩
 have hb1:=blk_keeps hV hbx (fun h=>h)
 have hkV:=hk.trans hV
 have hsz:=blk_lt hb1
 clear HH hk hV hbx
 obtain⟨xb,hxb⟩:∃xb,w.heap.size=xb:=⟨_,rfl⟩
 rw[hxb]at hb1 hsz ⊢
 have HX:=Lib.hid hxb
 have HB1:=Lib.hid (p:=PktAt V xb Pkt.zero) hb1
 clear hxb hb1
 go_wp2_with fail
 have hk1:=(hkV.trans (Keeps.alloc (fun _=>False) V (.cells #[.int .i64 x1, .int .i64 x2, .int .i64 x3, .int .u32 x4] 31))).trans (Keeps.alloc (fun _=>False) _ (.cells #[.int .i64 k1, .int .i64 k2, .int .i64 k3] 231))
 have hpb:PktAt ((V.alloc (.cells #[.int .i64 x1, .int .i64 x2, .int .i64 x3, .int .u32 x4] 31)).alloc (.cells #[.int .i64 k1, .int .i64 k2, .int .i64 k3] 231)) V.heap.size ⟨x1,x2,x3,x4⟩:=blk_alloc (blk_new V _) _
 have hkb:=blk_new' (n:=V.heap.size+1) (V.alloc (.cells #[.int .i64 x1, .int .i64 x2, .int .i64 x3, .int .u32 x4] 31)) (.cells #[.int .i64 k1, .int .i64 k2, .int .i64 k3] 231) (by simp)
 have hrb:PktAt ((V.alloc (.cells #[.int .i64 x1, .int .i64 x2, .int .i64 x3, .int .u32 x4] 31)).alloc (.cells #[.int .i64 k1, .int .i64 k2, .int .i64 k3] 231)) xb Pkt.zero:=blk_alloc (blk_alloc HB1.out _) _
 generalize (V.alloc (.cells #[.int .i64 x1, .int .i64 x2, .int .i64 x3, .int .u32 x4] 31)).alloc (.cells #[.int .i64 k1, .int .i64 k2, .int .i64 k3] 231)=V1 at*
 generalize V.heap.size=pbx at*
 clear HB1 hkV
 have hxw:=HX.out
 have hv1:=H.out.keeps hk1 (fun _ _ h=>h)
 have hlS:∀g,S g→g < xb:=fun g hg=>by have:=H.out.lt g hg;omega
 obtain⟨i,e,hfe,heL,hek,hlv,g,off,cap,hev,hgc,hgq,hgS,hgb,hgm,hgP⟩:=hv1.there HS.out
 obtain⟨c0,c1,_,_⟩:=hv1.cells
 have hlook:=RingsR.run_look hv1.map ⟨k1,k2,k3⟩
 rw[hlv,hev]at hlook
 have HD:=Lib.hid (drop_runs pb st SP V1.drew (hv1.pool.keeps (Keeps.drew (fun _=>False) V1) (fun _ _ h=>h)) (j:Int))
 have hlook1:(Instr.lookup 227 (.map (some mb)) (.agg #[.int .i64 k1, .int .i64 k2, .int .i64 k3]) false).run Tryz.prog V1.drew= .ok (.slice (some ⟨g,off,none⟩) (r.length+1) (cap+1)) V1.drew:=RingsR.run_look (w:=V1.drew) hv1.map ⟨k1,k2,k3⟩ |>.trans (by rw[hlv,hev])
 have k0:=blk_cell hkb 0;have k1':=blk_cell hkb 1;have k2':=blk_cell hkb 2
 simp only[List.getElem?_toArray,List.getElem?_cons_zero,List.getElem?_cons_succ]at k0 k1' k2'
 have hkx:¬SP (pbx+1):=fun h=>by have:=hlS _ (hv1.sp _ h);omega
 have HS1:=Lib.hid (p:=∀U,Keeps SP V1 U→U.cell? ⟨b,0,none⟩=some (.pointer (some ⟨pb,0,none⟩))∧U.cell? ⟨b,1,none⟩=some (.map (some mb))∧U.cell? ⟨pbx+1,0,none⟩=some (.int .i64 k1)∧U.cell? ⟨pbx+1,1,none⟩=some (.int .i64 k2)∧U.cell? ⟨pbx+1,2,none⟩=some (.int .i64 k3)∧U.cell? ⟨g,off,none⟩=some (.int .i64 j)) fun U hU=>
  ⟨hU.cell c0 hv1.pb_,hU.cell c1 hv1.pb_,hU.cell k0 hkx,hU.cell k1' hkx,hU.cell k2' hkx,hU.cell hgc hgP⟩
 have hdS:Keeps SP V1 V1.drew:=Keeps.drew _ _
 have hlen1:(0:Int) < ((r.length+1:Nat):Int):=by omega
 have hlen2:0 < r.length+1:=by omega
 have hlen3:(0:Int) < (r.length:Int)+1:=by omega
 have HV1:=Lib.hid hv1
 have HG:=Lib.hid (And.intro hfe (And.intro heL (And.intro hek (And.intro hlv hev))))
 have HGQ:=Lib.hid hgq
 have HLS:=Lib.hid hlS
 have HKB:=Lib.hid hkb
 have HPB:=Lib.hid hpb
 have HRB:=Lib.hid hrb
 have HGS:=Lib.hid (And.intro hgS (And.intro hgb (And.intro hgm hgP)))
 clear hv1 hfe heL hek hlv hev hgq hgS hgb hgm hgP hlS hkb hpb hrb hlook c0 c1 k0 k1' k2' hgc hxw hkx
 go_region_held3 (fun U=>U.cell? ⟨b,0,none⟩=some (.pointer (some ⟨pb,0,none⟩))∧U.cell? ⟨b,1,none⟩=some (.map (some mb))∧U.cell? ⟨pbx+1,0,none⟩=some (.int .i64 k1)∧U.cell? ⟨pbx+1,1,none⟩=some (.int .i64 k2)∧U.cell? ⟨pbx+1,2,none⟩=some (.int .i64 k3)∧U.cell? ⟨g,off,none⟩=some (.int .i64 j))
  (with_reducible first | exact HS1.out _ hdS | exact HS1.out _ (by assumption))
  (first | (go_at_call 217;refine HD.out.mono ?_;rintro e V2 ⟨⟨rb,rfl⟩,hV2,hP2⟩;have hk2:=hdS.trans hV2))
 have hv2:=(HV1.out.pooled hk2 hP2).keeps (Keeps.drew (fun _=>False) V2) (fun _ _ h=>h)
 have hkx:∀i,xb≤i→¬SP i:=fun i hi h=>by have:=HLS.out _ (H.out.sp _ h);omega
 have hpx:xb≤pbx:=by omega
 have hxV1:xb < V1.heap.size:=blk_lt HRB.out
 have hkb2:=blk_keeps hk2 HKB.out (hkx _ (by omega))
 have hpb2:=blk_keeps hk2 HPB.out (hkx _ hpx)
 have hrb2:=blk_keeps hk2 HRB.out (hkx _ (Nat.le_refl _))
 obtain⟨hfe,heL,hek,hlv,hev⟩:=HG.out
 have hq2:IQ V2.drew (.slice (some ⟨g,if cap=0 then off else off+1,none⟩) r.length cap) r:=HGQ.out _ ((hk2.trans (Keeps.drew SP V2)).mono (fun i _ hi e=>HGS.out.2.2.2 (e▸hi)))
 obtain⟨off',hoff⟩:∃o,(if cap=0 then off else off+1)=o:=⟨_,rfl⟩
 rw[hoff]at hq2
 have hoff2:(if cap=0 then some (⟨g,off,none⟩:Addr)else some ⟨g,off+1,none⟩)=some ⟨g,off',none⟩:=by rw[←hoff];split <;>rfl
 have hlook2:(Instr.lookup 227 (.map (some mb)) (.agg #[.int .i64 k1, .int .i64 k2, .int .i64 k3]) false).run Tryz.prog V2.drew= .ok (.slice (some ⟨g,off,none⟩) (r.length+1) (cap+1)) V2.drew:=RingsR.run_look (w:=V2.drew) hv2.map ⟨k1,k2,k3⟩ |>.trans (by rw[hlv,hev])
 obtain⟨o3,ho3⟩:∃o,entsObj Way.val (atKey L ⟨k1,k2,k3⟩ (.slice (some ⟨g,off',none⟩) r.length cap)) c=o:=⟨_,rfl⟩
 have hup:(Instr.mapUpdate 227 (.map (some mb)) (.agg #[.int .i64 k1, .int .i64 k2, .int .i64 k3]) (.slice (some ⟨g,off',none⟩) r.length cap)).run Tryz.prog V2.drew= .ok () (V2.drew.putObj mb o3):=by
  have:=run_update_at (P:=Tryz.prog) way_ok Tryz.underlying227 V2.drew mb L c ⟨k1,k2,k3⟩ (.slice (some ⟨g,off',none⟩) r.length cap) hv2.keys hv2.map
  rw[hfe]at this
  rw[←ho3];exact this
 obtain⟨hR3,hK3⟩:=hv2.set heL hek (W:=V2.drew) (v:= .slice (some ⟨g,off',none⟩) r.length cap) (l:=r) (Keeps.refl _ _) hq2 (.inl (by rw[hev];rfl))
 have hlv3:lookV (atKey L ⟨k1,k2,k3⟩ (.slice (some ⟨g,off',none⟩) r.length cap)) ⟨k1,k2,k3⟩= .slice (some ⟨g,off',none⟩) r.length cap:=by
  rcases look_case (atKey L ⟨k1,k2,k3⟩ (.slice (some ⟨g,off',none⟩) r.length cap)) ⟨k1,k2,k3⟩with⟨g1,_⟩ | ⟨i',e',_,_,g2,g3,g4⟩
  ·obtain⟨e'',g5,g6⟩:=atKey_has (k:=⟨k1,k2,k3⟩) (v:= .slice (some ⟨g,off',none⟩) r.length cap) heL
   exact absurd (g6.trans hek) (g1 e'' g5)
  ·rw[g4]
   obtain⟨e0,_,f2,_,f3⟩:=atKey_mem g2
   rcases f3 with⟨_,f4⟩ | ⟨f3,_⟩
   ·exact f4
   ·exact absurd (f2.symm.trans g3) f3
 rw[ho3]at hR3 hK3
 obtain⟨c0,c1,_,_⟩:=hv2.cells
 have k0:=blk_cell hkb2 0;have k1':=blk_cell hkb2 1;have k2':=blk_cell hkb2 2
 simp only[List.getElem?_toArray,List.getElem?_cons_zero,List.getElem?_cons_succ]at k0 k1' k2'
 have hmx:mb < xb:=HLS.out _ H.out.smb
 have hbm:=hv2.bm
 have HS2:=Lib.hid (p:=∀U,Keeps (fun g=>g=mb) V2 U→U.cell? ⟨b,1,none⟩=some (.map (some mb))∧U.cell? ⟨pbx+1,0,none⟩=some (.int .i64 k1)∧U.cell? ⟨pbx+1,1,none⟩=some (.int .i64 k2)∧U.cell? ⟨pbx+1,2,none⟩=some (.int .i64 k3)) fun U hU=>
  ⟨hU.cell (a:=⟨b,1,none⟩) c1 hbm,hU.cell k0 (fun e=>by simp at e;omega),hU.cell k1' (fun e=>by simp at e;omega),hU.cell k2' (fun e=>by simp at e;omega)⟩
 have hd2:Keeps (fun g=>g=mb) V2 V2.drew:=Keeps.drew _ _
 have hp2:Keeps (fun g=>g=mb) V2 (V2.drew.putObj mb o3):=hd2.trans (Keeps.putM _ _ _ rfl)
 have hr1:(1:Int)≤((r.length+1:Nat):Int):=by omega
 have hr2:(1:Int)≤(r.length:Int)+1:=by omega
 have hr3:1≤r.length+1:=by omega
 have hr4:(r.length:Int)+1≤(cap:Int)+1:=by
  have:=hq2.shape
  obtain⟨_,_,e1,e2,_⟩:=this
  cases e1;omega
 have HR3:=Lib.hid hR3
 have HK3:=Lib.hid hK3
 have HLV3:=Lib.hid hlv3
 have HO3:=Lib.hid ho3
 have HKB2:=Lib.hid hkb2
 have HPB2:=Lib.hid hpb2
 have HRB2:=Lib.hid hrb2
 have HK2:=Lib.hid hk2
 have HP2:=Lib.hid hpx
 have hq2l:=hq2.shape
 clear hv2 hkx hkb2 hpb2 hrb2 hfe heL hek hlv hev hq2 ho3 hR3 hK3 hlv3 c0 c1 k0 k1' k2' hlook1 hV2 hP2 hdS HD hk2
 go_wp2_with fail
 go_region_held3 (fun U=>U.cell? ⟨b,1,none⟩=some (.map (some mb))∧U.cell? ⟨pbx+1,0,none⟩=some (.int .i64 k1)∧U.cell? ⟨pbx+1,1,none⟩=some (.int .i64 k2)∧U.cell? ⟨pbx+1,2,none⟩=some (.int .i64 k3))
  (with_reducible first | exact HS2.out _ hd2 | exact HS2.out _ hp2)
  (fail)
 have hmb3:∀i,xb≤i→¬i=mb:=fun i hi e=>by omega
 have hpx:=HP2.out
 have hkb3:=blk_keeps hp2 HKB2.out (hmb3 _ (by omega))
 have hpb3:=blk_keeps hp2 HPB2.out (hmb3 _ hpx)
 have hrb3:=blk_keeps hp2 HRB2.out (hmb3 _ (Nat.le_refl _))
 have hfin3:=((hk1.mono (G:=S) (fun _ _ h=>h.elim)).trans (HK2.out.mono (fun i _ h=>H.out.sp i h))).trans (hp2.mono (fun i _ h=>h▸H.out.smb))
 have hR3:=HR3.out
 have hS3a:∀i,more (more S V1 V2) V2.drew V2.drew i→more S w (V2.drew.putObj mb o3) i:=fun i hi=>by
  have hs1:=hk1.size
  have hs2:=hp2.size
  rcases hi with(hi | hi) | hi
  ·exact .inl hi
  ·exact .inr (by omega)
  ·exact .inr (by simp at hi;omega)
 have hS3b:¬more (more S V1 V2) V2.drew V2.drew xb:=fun hi=>by
  rcases hi with(hi | hi) | hi
  ·have:=HLS.out _ hi;omega
  ·omega
  ·simp at hi;omega
 obtain⟨S3,hS3⟩:∃S3,more (more S V1 V2) V2.drew V2.drew=S3:=⟨_,rfl⟩
 rw[hS3]at hR3 hS3a hS3b
 have HS3a:=Lib.hid hS3a
 clear hS3 hS3a
 have hR4:=hR3.keeps (Keeps.drew (fun _=>False) _) (fun _ _ h=>h)
 have hkb4:=blk_keeps (Keeps.drew (fun _=>False) _) hkb3 (fun h=>h)
 have hpb4:=blk_keeps (Keeps.drew (fun _=>False) _) hpb3 (fun h=>h)
 have hrb4:=blk_keeps (Keeps.drew (fun _=>False) _) hrb3 (fun h=>h)
 have hfin4:=hfin3.trans (Keeps.drew S _)
 have hsz4:(V2.drew.putObj mb o3).drew.heap.size=(V2.drew.putObj mb o3).heap.size:=rfl
 have hm3:=hR3.map
 have hlt13:V1.heap.size≤(V2.drew.putObj mb o3).heap.size:=by have h1:=HK2.out.size;have h2:=hp2.size;omega
 clear HR3 HK3 HKB2 HPB2 HRB2 HK2 hp2 hd2 HS2 hup hlook2 HKB HPB HRB HS1 HGQ HG
 generalize V2.drew.putObj mb o3=V3 at*
 have hlook3:(Instr.lookup 227 (.map (some mb)) (.agg #[.int .i64 k1, .int .i64 k2, .int .i64 k3]) false).run Tryz.prog V3.drew= .ok (.slice (some ⟨g,off',none⟩) r.length cap) V3.drew:=RingsR.run_look (w:=V3.drew) hR3.map ⟨k1,k2,k3⟩ |>.trans (by rw[HLV3.out])
 obtain⟨c0,c1,_,_⟩:=hR3.cells
 have k0:=blk_cell hkb3 0;have k1':=blk_cell hkb3 1;have k2':=blk_cell hkb3 2
 simp only[List.getElem?_toArray,List.getElem?_cons_zero,List.getElem?_cons_succ]at k0 k1' k2'
 have HS3:=Lib.hid (p:=∀U,Keeps (fun g=>g=mb) V3 U→U.cell? ⟨b,1,none⟩=some (.map (some mb))∧U.cell? ⟨pbx+1,0,none⟩=some (.int .i64 k1)∧U.cell? ⟨pbx+1,1,none⟩=some (.int .i64 k2)∧U.cell? ⟨pbx+1,2,none⟩=some (.int .i64 k3)) fun U hU=>
  ⟨hU.cell (a:=⟨b,1,none⟩) c1 hbm,hU.cell k0 (fun e=>by simp at e;omega),hU.cell k1' (fun e=>by simp at e;omega),hU.cell k2' (fun e=>by simp at e;omega)⟩
 have hd3:Keeps (fun g=>g=mb) V3 V3.drew:=Keeps.drew _ _
 have HR4:=Lib.hid hR4
 have HKB4:=Lib.hid hkb4
 have HPB4:=Lib.hid hpb4
 have HRB4:=Lib.hid hrb4
 have HF4:=Lib.hid hfin4
 have hsm':r.length≤9223372036854775807:=by omega
 clear hR3 hR4 hkb3 hpb3 hrb3 hkb4 hpb4 hrb4 hfin3 hfin4 hm3 c0 c1 k0 k1' k2' hmb3
 have HEND:∀(V4:World) L' c',RingsR V4 S3 b pb mb ports lanes (more SP V1 V2) (dropP st j) L' c' (setW sl ⟨k1,k2,k3⟩ r)→Keeps S w V4→PktAt V4 xb Pkt.zero→V3.heap.size≤V4.heap.size→
   Keeps S w (set4 V4 xb ⟨x1,x2,x3,x4⟩)∧RingsR (set4 V4 xb ⟨x1,x2,x3,x4⟩) (more S w (set4 V4 xb ⟨x1,x2,x3,x4⟩)) b pb mb ports lanes (more SP V1 V2) (dropP st j) L' c' (setW sl ⟨k1,k2,k3⟩ r):=fun V4 L' c' h1 h2 h3 h4=>by
  have h5:=set4_keeps V4 xb ⟨x1,x2,x3,x4⟩
  have h6:=h2.then h5 (fun i hi e=>by have:=HX.out;omega)
  refine⟨h6,(h1.keeps h5 (fun i hi e=>hS3b (e▸hi))).grown (fun i hi=> ?_) (more_lt H.out.lt h6.size)⟩
  have h7:=h5.size
  rcases HS3a.out i hi with h | h
  ·exact .inl h
  ·exact .inr (by omega)
 have HEND:=Lib.hid HEND
 have hdl:∀(W:World) (ty:TypeId),W.heap=V3.heap→(Builtin.delete_ #[227,231] ty #[.map (some mb), .agg #[.int .i64 k1, .int .i64 k2, .int .i64 k3]]).run Tryz.prog W= .ok (.tuple #[]) (W.putObj mb (entsObj Way.val (noKey (atKey L ⟨k1,k2,k3⟩ (.slice (some ⟨g,off',none⟩) r.length cap)) ⟨k1,k2,k3⟩) c)):=fun W ty hW=>
  run_delete_at (P:=Tryz.prog) way_ok Tryz.underlying227 W mb _ c ⟨k1,k2,k3⟩ HR4.out.keys (by rw[hW];exact HR4.out.map)
 have HDL:=Lib.hid hdl
 clear hdl
 by_cases hr:r=[]
 ·have hr0:((r.length:Int) == 0)=true:=by rw[hr];rfl
  have HRE:=Lib.hid hr
  clear hr
  go_wp2_with fail
  go_region_held3 (fun U=>U.cell? ⟨b,1,none⟩=some (.map (some mb))∧U.cell? ⟨pbx+1,0,none⟩=some (.int .i64 k1)∧U.cell? ⟨pbx+1,1,none⟩=some (.int .i64 k2)∧U.cell? ⟨pbx+1,2,none⟩=some (.int .i64 k3))
   (with_reducible first | exact HS3.out _ hd3)
   (fail)
  have HS4:=Lib.hid (p:=∀U,Keeps (fun g=>g=mb) V3.drew U→U.cell? ⟨b,1,none⟩=some (.map (some mb))∧U.cell? ⟨pbx+1,0,none⟩=some (.int .i64 k1)∧U.cell? ⟨pbx+1,1,none⟩=some (.int .i64 k2)∧U.cell? ⟨pbx+1,2,none⟩=some (.int .i64 k3)) fun U hU=>HS3.out _ (hd3.trans hU)
  have HDL4:=HDL.out V3.drew.drew
  have hz4:V3.heap.size≤V3.drew.heap.size:=Nat.le_refl _
  have HD4:∀ty,(Builtin.delete_ #[227,231] ty #[.map (some mb), .agg #[.int .i64 k1, .int .i64 k2, .int .i64 k3]]).run Tryz.prog V3.drew.drew= .ok (.tuple #[]) (V3.drew.drew.putObj mb (entsObj Way.val (noKey (atKey L ⟨k1,k2,k3⟩ (.slice (some ⟨g,off',none⟩) r.length cap)) ⟨k1,k2,k3⟩) c)):=fun ty=>HDL.out V3.drew.drew ty rfl
  have hDEL:=HR4.out.del (k:=⟨k1,k2,k3⟩) (by rw[setW_same];exact HRE.out)
  clear hlook3 HS3 hd3 HDL HDL4
  generalize V3.drew=V4 at*
  obtain⟨o5,ho5⟩:∃o,entsObj Way.val (noKey (atKey L ⟨k1,k2,k3⟩ (.slice (some ⟨g,off',none⟩) r.length cap)) ⟨k1,k2,k3⟩) c=o:=⟨_,rfl⟩
  rw[ho5]at HD4 hDEL
  have hd4:Keeps (fun g=>g=mb) V4 V4.drew:=Keeps.drew _ _
  have hp4:Keeps (fun g=>g=mb) V4 (V4.drew.putObj mb o5):=hd4.trans (Keeps.putM _ _ _ rfl)
  have HDEL:=Lib.hid hDEL
  clear hDEL ho5
  go_wp2_with fail
  go_region_held3 (fun U=>U.cell? ⟨b,1,none⟩=some (.map (some mb))∧U.cell? ⟨pbx+1,0,none⟩=some (.int .i64 k1)∧U.cell? ⟨pbx+1,1,none⟩=some (.int .i64 k2)∧U.cell? ⟨pbx+1,2,none⟩=some (.int .i64 k3))
   (with_reducible first | exact HS4.out _ hd4 | exact HS4.out _ hp4)
   (fail)
  have hRF:=HDEL.out.1.keeps (w':=V4.drew.putObj mb o5) (F:=fun _=>False) ⟨rfl,rfl,rfl,Nat.le_refl _,fun _ _ _=>rfl⟩ (fun _ _ h=>h)
  have hKF:=HF4.out.trans (hp4.mono (fun i _ e=>e▸H.out.smb))
  have hpF:=blk_keeps hp4 HPB4.out (by omega)
  have hrF:=blk_keeps hp4 HRB4.out (by omega)
  have hzF:=Nat.le_trans hz4 hp4.size
  clear HD4 HS4 hd4 hp4 HDEL HF4 HPB4 HRB4
  generalize V4.drew.putObj mb o5=V5 at*
  have hcs:=PktAt.cells hpF
  have hct:=PktAt.cells hrF
  simp only at hcs hct
  obtain⟨p0,p1,p2,p3⟩:=hcs
  obtain⟨q0,q1,q2,q3⟩:=hct
  obtain⟨f0,f1,f2,f3⟩:=PktAt.free hrF
  have HRF:=Lib.hid hRF
  have HKF:=Lib.hid hKF
  have HRX:=Lib.hid hrF
  have HZF:=Lib.hid hzF
  clear hRF hKF hpF hrF hzF
  go_wp2_with fail
  obtain⟨z0,z1,z2,z3⟩:=PktAt.cells (set4_box HRX.out ⟨x1,x2,x3,x4⟩)
  obtain⟨g1,g2⟩:=HEND.out V5 _ _ HRF.out HKF.out HRX.out HZF.out
  unfold set4 at z0 z1 z2 z3 g1 g2
  exact bodyPost_ret (v:= .tuple #[Pkt.val ⟨x1,x2,x3,x4⟩, .bool true]) (by simp[results,Tryz.results182,go_sem,z0,z1,z2,z3]) rfl ⟨rfl,g1,_,_,_,g2⟩
 ·have hr0:((r.length:Int) == 0)=false:=by
   rw[beq_eq_false_iff_ne]
   intro e0
   exact hr (List.eq_nil_of_length_eq_zero (by omega))
  clear hr
  go_wp2_with fail
  go_region_held3 (fun U=>U.cell? ⟨b,1,none⟩=some (.map (some mb))∧U.cell? ⟨pbx+1,0,none⟩=some (.int .i64 k1)∧U.cell? ⟨pbx+1,1,none⟩=some (.int .i64 k2)∧U.cell? ⟨pbx+1,2,none⟩=some (.int .i64 k3))
   (with_reducible first | exact HS3.out _ hd3)
   (fail)
  have hz4:V3.heap.size≤V3.drew.heap.size:=Nat.le_refl _
  clear hlook3 HS3 hd3
  generalize V3.drew=V4 at*
  have hcs:=PktAt.cells HPB4.out
  have hct:=PktAt.cells HRB4.out
  simp only at hcs hct
  obtain⟨p0,p1,p2,p3⟩:=hcs
  obtain⟨q0,q1,q2,q3⟩:=hct
  obtain⟨f0,f1,f2,f3⟩:=PktAt.free HRB4.out
  go_wp2_with fail
  obtain⟨z0,z1,z2,z3⟩:=PktAt.cells (set4_box HRB4.out ⟨x1,x2,x3,x4⟩)
  obtain⟨g1,g2⟩:=HEND.out V4 _ _ HR4.out HF4.out HRB4.out hz4
  unfold set4 at z0 z1 z2 z3 g1 g2
  exact bodyPost_ret (v:= .tuple #[Pkt.val ⟨x1,x2,x3,x4⟩, .bool true]) (by simp[results,Tryz.results182,go_sem,z0,z1,z2,z3]) rfl ⟨rfl,g1,_,_,_,g2⟩
theorem pop_runs (b:Nat) (S:Nat→Prop) (ports lanes:Int) (free:Nat) (Q:Way→List Pkt) (w:World) (h:RingsV w S b ports lanes free Q) (k:Way):
  Calls Tryz.prog 182 #[.pointer (some ⟨b,0,none⟩), .int .i64 k.inp, .int .i64 k.out, .int .i64 k.lane] w fun e w'=>e= .returned (.tuple #[((Q k).head?.getD Pkt.zero).val, .bool !(Q k).isEmpty])∧Keeps S w w'∧
   RingsV w' (more S w w') b ports lanes (if Q k=[]then free else free+1) (setW Q k (Q k).tail):=by
 have hh:∀W,Keeps (fun _=>False) w W→_:=fun W hW=>head_runs b S ports lanes free Q W (h.keeps hW (fun _ _ h=>h)) k
 obtain⟨pb,mb,SP,st,L,c,sl,F,h,h2,h3,h4⟩:=h
 cases hq:Q k with
 | nil=>
   rw[hq]at hh
   refine(pop_no b k w (fun W hW=>hh W hW)).mono ?_
   rintro e w' ⟨rfl,hk⟩
   have hQ:setW Q k []=Q:=by
    funext k'
    unfold setW
    split
    ·rename_i e;rw[e,hq]
    ·rfl
   refine⟨rfl,hk.mono (fun _ _ h=>h.elim), ?_⟩
   simp only[if_true,List.tail_nil]
   rw[hQ]
   exact⟨pb,mb,SP,st,L,c,sl,F,(h.keeps hk (fun _ _ h=>h)).grown (fun _ h=> .inl h) (more_lt h.lt hk.size),h2,h3,h4⟩
 | cons x q=>
   rw[hq]at hh
   have hlen:=h2.len k
   cases hs:sl k with
   | nil=>rw[hq,hs]at hlen;simp at hlen
   | cons j r=>
     have hsm:=h2.small k
     rw[hs,List.length_cons]at hsm
     refine(pop_low b pb mb ports lanes k x w j r S SP st L c sl h hs (fun W hW=>hh W hW) (by omega)).mono ?_
     rintro e w' ⟨rfl,hk,SP',L',c',hR⟩
     refine⟨rfl,hk,pb,mb,SP',_,L',c',_,j :: F,hR, ?_, ?_, ?_⟩
     ·exact h2.drop hs hq
     ·rw[if_neg (by simp),←h3];rfl
     ·unfold dropP
      split
      ·rw[List.length_set];exact h4
      ·exact h4
set_option maxHeartbeats 1000000 in
theorem rnew_runs (ports lanes n:Nat) (hp1:1≤ports) (hp2:ports≤16) (hl1:1≤lanes) (hl2:lanes≤3) (h1:1≤n) (h2:n≤200) (w:World):
  Calls Tryz.prog 85 #[.int .i64 ports, .int .i64 lanes, .int .i64 n] w fun e w'=>∃b,e= .returned (.pointer (some ⟨b,0,none⟩))∧w.heap.size≤b∧Keeps (fun _=>False) w w'∧RingsV w' (more (fun _=>False) w w') b ports lanes n (fun _=>[]):=by
 have a1:¬(ports:Int) < 1:=by omega
 have a2:¬(16:Int) < (ports:Int):=by omega
 have a3:¬(lanes:Int) < 1:=by omega
 have a4:¬(3:Int) < (lanes:Int):=by omega
 have hmm:= @run_makeMap Tryz.prog
 have HP:=Lib.hid (pnew_runs n h1 h2 w)
 go_enter Tryz.func85,Tryz.ntmps85
 go_wp2_with fail
 refine HP.out.mono ?_
 rintro e V ⟨pb,rfl,hpb,hk,hP⟩
 clear HP
 go_wp2_with fail
 go_ret
 have hkm:=(hk.trans (Keeps.alloc (fun _=>False) V (.map #[] 0))).trans (Keeps.alloc (fun _=>False) _ (ringsBox pb V.heap.size ports lanes))
 have hm:=blk_alloc (blk_new V (.map #[] 0)) (ringsBox pb V.heap.size ports lanes)
 have hb:=blk_new' (n:=V.heap.size+1) (V.alloc (.map #[] 0)) (ringsBox pb V.heap.size ports lanes) (by simp)
 have hp:=(hP.keeps (Keeps.alloc (fun _=>False) V (.map #[] 0)) (fun _ _ h=>h)).keeps (Keeps.alloc (fun _=>False) _ (ringsBox pb V.heap.size ports lanes)) (fun _ _ h=>h)
 have hs:=hk.size
 have hz:((V.alloc (.map #[] 0)).alloc (ringsBox pb V.heap.size ports lanes)).heap.size=V.heap.size+2:=by simp
 unfold ringsBox at hz
 refine⟨V.heap.size+1,rfl,by omega,hkm,pb,V.heap.size,_,_,[],0,_,_,⟨hb,hm,hp,List.nodup_nil,List.nodup_nil,fun e he=>(by cases he),fun e he=>(by cases he),fun k _=>rfl,fun e he=>(by cases he),fun e he=>(by cases he), .inr ⟨by omega,by omega⟩, .inr ⟨by omega,by omega⟩,by omega,
  fun h=> ?_,fun h=> ?_,fun k hk'=> ?_,fun k hk'=> ?_⟩,RingP.new n h1,by simp,by simpa[poolNew]using h2⟩
 ·rcases h with h | h
  ·exact h
  ·omega
 ·rcases h with h | h
  ·exact h
  ·omega
 ·rcases hk' with h | h
  ·exact h.elim
  ·exact .inr ⟨h.1,by omega⟩
 ·rcases hk' with h | h
  ·exact h.elim
  ·exact h.2
end Go.Proofs.YtebnflpanfmicaaGreatDoor
namespace Go.Proofs.YtebnflpanfmicaaGreatDoor
open Go.RowKit Go.Sort
theorem quiet_ofT {W:World} {f:FuncId} {args:Array Value} {v:Value} (d:Nat) (os:Array Obj) (c:∀A,Keeps (fun _=>False) W A→Calls Tryz.prog f args A fun e w'=>e= .returned v∧Keeps (fun _=>False) A w'):
  Calls Tryz.prog f args (grow (redrawn W d) os) fun e w'=>e= .returned v∧∃p:Regrown,w'=grow (redrawn W p.d) p.os:=by
 have h:Keeps (fun _=>False) W (grow (redrawn W d) os):=Keeps.of_below (below_regrown W d os)
 exact(c _ h).mono fun _ _ ⟨h1,h2⟩=>⟨h1,regrown_of_below ((h.trans h2).below (Nat.le_refl _) (fun _ _ h=>h))⟩
structure Stm (w:World) (sb mb n:Nat) (m:Nat→Int):Prop where
 box:w.heap[sb]? =some (.cells #[.slice (some ⟨mb,0,none⟩) n n, .int .u16 (insB m n:Nat), .int .u16 (outsB m n:Nat)] 280 (0,0))
 row:w.heap[mb]? =some (.cells ((lst n m).map (Value.int .i64)).toArray 3 (0,0))
theorem Stm.keeps {w w':World} {sb mb n:Nat} {m:Nat→Int} {F:Nat→Prop} (h:Stm w sb mb n m) (hk:Keeps F w w') (hF:∀k,k=sb∨k=mb→¬F k):Stm w' sb mb n m:=
 ⟨blk_keeps hk h.box (hF sb (.inl rfl)),blk_keeps hk h.row (hF mb (.inr rfl))⟩
theorem zeros_lst (n:Nat) (R:Nat→Nat→Bool) (s:St):madeCells #[.int .u16 0] n=((lst n fun i=>grB R s n i 0).map encU).toArray:=by
 apply Array.ext
 ·simp[madeCells,lst]
 ·intro i h1 h2
  simp[madeCells,Nat.mod_one,lst,grB,bt]
attribute [local irreducible] pickI pickOf
set_option maxRecDepth 100000 in
set_option maxHeartbeats 4000000 in
theorem granted_calls (R:Nat→Nat→Bool) (s:St) (n b g a sb mb cg co cc:Nat) (h1:1≤n) (h2:n≤16) (w:World) (hT:Tab w) (hA:Arb w b n (lst n s.G) (lst n s.A) g a) (hF:Fit n s) (hS:Stm w sb mb n s.m)
  (hc:∀k,k < n→w.cell? ⟨cg,co+k,none⟩=some (.int .u16 (bt (fun i=>R i k) n:Nat))):
  Calls Tryz.prog 178 #[.pointer (some ⟨b,0,none⟩), .pointer (some ⟨sb,0,none⟩), .slice (some ⟨cg,co,none⟩) n cc] w fun e w'=>∃ob,e= .returned (.slice (some ⟨ob,0,none⟩) n n)∧
   w'.heap[ob]? =some (.cells ((lst n fun i=>grB R s n i n).map encU).toArray 23 (0,0))∧Keeps (fun _=>False) w w'∧w.heap.size≤ob:=by
 have hms:=fun w=>run_make_row' (P:=Tryz.prog) 221 23 (.int .u16 0) 2 Tryz.underlying221 info_u16 rfl .i64 .i64 n (by omega) (by omega) w
 have hG0:=Lib.hid hA.gr
 obtain⟨x0,x1⟩:=hA.cells
 have y1:w.cell? ⟨sb,1,none⟩=some (.int .u16 (insB s.m n:Nat)):=by rw[blk_cell hS.box];rfl
 have y2:w.cell? ⟨sb,2,none⟩=some (.int .u16 (outsB s.m n:Nat)):=by rw[blk_cell hS.box];rfl
 go_enter Tryz.func178,Tryz.ntmps178
 go_wp2_with fail
 have hM0:(w.alloc (.cells (madeCells #[.int .u16 0] n) 23)).heap[w.heap.size]? =some (.cells ((lst n fun i=>grB R s n i 0).map encU).toArray 23 (0,0)):=by
  rw[←zeros_lst];exact blk_new _ _
 have hK0:Keeps (fun _=>False) w (w.alloc (.cells (madeCells #[.int .u16 0] n) 23)):=Keeps.alloc _ _ _
 generalize w.alloc (.cells (madeCells #[.int .u16 0] n) 23)=W0 at hM0 hK0 ⊢
 clear hms
 go_loopw [16] (fun v wr=>∃k:Nat,k≤n∧v= .int .i64 (k:Int)∧Keeps (fun _=>False) w wr∧wr.heap[w.heap.size]? =some (.cells ((lst n fun i=>grB R s n i k).map encU).toArray 23 (0,0))) (fun v _=>n - (intOf v).toNat)
 case atStart=>exact⟨0,Nat.zero_le _,rfl,hK0,hM0⟩
 case round=>
  obtain⟨k,hkn,rfl,hk,hm⟩:=hrel
  clear hK0 hM0
  by_cases hlt:k < n
  ·have hlt':(k:Int) < (n:Int):=by omega
   have hk0:(0:Int)≤(k:Int):=by omega
   have hck:=hk.cell (hc k hlt) (fun h=>h)
   have z1:=hk.cell y1 (fun h=>h)
   have z2:=hk.cell y2 (fun h=>h)
   have z0:=hk.cell x0 (fun h=>h)
   have zg:wr.cell? ⟨g,k,none⟩=some (.int .i64 (s.G k:Nat)):=hk.cell (by rw[blk_cell hG0.out];simp[lst_at _ hlt]) (fun h=>h)
   have hgk:=hF.g k hlt
   have hand:=and_u16 (bt (fun i=>R i k) n) (insB s.m n) (bt_lt16 _ h2) (bt_lt16 _ h2)
   have hask:bt (fun i=>R i k) n &&& insB s.m n=askB R s.m n k:=by
    unfold insB askB
    rw[bt_and _ _ h2]
    exact bt_congr n fun i _=>Bool.and_comm _ _
   rw[hask]at hand
   have cp:=fun W (hW:Keeps (fun _=>False) wr W)=>pick_calls (askB R s.m n k) (s.G k) n (bt_lt16 _ h2) W ((hT.keeps hk (fun h=>h)).keeps hW (fun h=>h))
   rw[pickI_nat _ _ _ hgk h2]at cp
   have hgp:gp R s n k=pickOf (askB R s.m n k) (s.G k) n:=rfl
   rw[←hgp]at cp
   have C:=Lib.hid (p:=∀d os,Calls Tryz.prog 179 #[.int .u16 (askB R s.m n k:Nat), .int .i64 (s.G k:Nat), .int .i64 n] (grow (redrawn wr d) os) fun e w'=>e= .returned (.int .i64 (gp R s n k))∧∃p:Regrown,w'=grow (redrawn wr p.d) p.os) fun d os=>quiet_ofT d os (fun A hA=>cp A hA)
   clear cp hask hgp
   go_wp2_with fail
   have r1:=cell_regrown z1
   have r0:=cell_regrown z0
   have rg:=cell_regrown zg
   refine wp_region_quiet_below (by kernel_rfl) (by kernel_rfl) ?_
   repeat (go_big_quiet_step ((go_at_call 179;exact C.out _ _)))
   refine wpQuiet_nil ?_
   intro w' hw'
   obtain⟨⟨nq,osq⟩,hw''⟩:=hw'
   have hkV:Keeps (fun _=>False) wr (grow (redrawn wr nq) osq):=Keeps.of_below (below_regrown wr nq osq)
   subst hw''
   clear r1 r0 rg C hand z0 z1 zg hck
   generalize grow (redrawn wr nq) osq=V at hkV ⊢
   replace z2:=hkV.cell z2 (fun h=>h)
   replace hm:=blk_keeps hkV hm (fun h=>h)
   replace hk:=hk.trans hkV
   clear hkV wr
   rcases pick_cases (askB R s.m n k) (s.G k) n hgk with⟨e,_⟩ | ⟨i,e,hin,_⟩
   ·have hg:gp R s n k= -1:=e
    have hrow:(lst n fun i=>grB R s n i k)=lst n fun i=>grB R s n i (k+1):=lst_congr fun i _=>by
     unfold grB
     rw[bt,grants,hg]
     simp
    rw[hrow]at hm
    rw[hg]
    go_wp2_with fail
    go_roundw
    case rel=>exact⟨k+1,by omega,rfl,hk,hm⟩
    case measure=>simp[intOf];omega
   ·have hg:gp R s n k=(i:Int):=e
    rw[hg]
    have hne:((i:Int) != -1)=true:=by rw[bne_iff_ne];omega
    have cH:=has_calls (outsB s.m n) (k:Int) (bt_lt16 _ h2) V
    rw[hasI_nat,outsB,has_bt,decide_eq_true hlt,Bool.true_and,←outsB]at cH
    have hin':(i:Int) < (n:Int):=by omega
    have hi0:(0:Int)≤(i:Int):=by omega
    go_wp2_with fail
    refine cH.mono ?_
    rintro e w' ⟨rfl,hw'⟩
    subst w'
    clear cH
    cases hf:freeB s.m n k with
    | false=>
      have hrow:(lst n fun i=>grB R s n i k)=lst n fun i=>grB R s n i (k+1):=lst_congr fun i _=>by
       unfold grB
       rw[bt,grants,hf]
       simp
      rw[hrow]at hm
      go_wp2_with fail
      go_roundw
      case rel=>exact⟨k+1,by omega,rfl,hk,hm⟩
      case measure=>simp[intOf];omega
    | true=>
      have hrow:(lst n fun i=>grB R s n i k).set i (grB R s n i k+2^k)=lst n fun i=>grB R s n i (k+1):=by
       rw[lst_set]
       refine lst_congr fun j _=> ?_
       unfold upd
       by_cases ej:j=i
       ·subst ej
        rw[if_pos rfl]
        show _=bt _ _+_
        rw[grants,hf,hg]
        simp[grB]
       ·rw[if_neg ej]
        show _=bt _ _+_
        rw[grants,hg]
        have:((i:Int) == (j:Int))=false:=by rw[beq_eq_false_iff_ne];omega
        simp[grB,this]
      have hcm:V.cell? ⟨w.heap.size,i,none⟩=some (.int .u16 (grB R s n i k:Nat)):=by rw[blk_cell hm];simp[lst_at _ hin]
      have hfm:V.frozen? ⟨w.heap.size,i,none⟩=false:=blk_frozen hm i
      have hor:=orpow_u16 (grB R s n i k) k (bt_lt _ k) (by omega)
      have hnew:=blk_set hm i (.int .u16 (grB R s n i k+2^k:Nat))
      rw[List.setIfInBounds_toArray,←List.map_set (f:=encU) (a:=grB R s n i k+2^k),hrow]at hnew
      generalize grB R s n i k+2^k=c' at hor hnew
      generalize grB R s n i k=c at hor hcm
      have hmx:Tryz.prog.follows .mixedOrders=true:=by kernel_rfl
      have hkv:Keeps (fun _=>False) w (V.setCell ⟨w.heap.size,i,none⟩ (.int .u16 (c':Int))).drew:=(hk.then (Keeps.setCell (fun i=>i=w.heap.size) _ _ _ rfl) (fun i hi h=>by omega)).trans (Keeps.drew _ _)
      clear hm hk hrow hf hg
      go_wp2_with fail
      go_region
      all_goals (go_wp2_with fail;go_roundw)
      all_goals first | exact⟨k+1,by omega,rfl,hkv,hnew⟩ | (simp[intOf];omega)
  ·obtain rfl:k=n:=by omega
   have hlt':¬(k:Int) < (k:Int):=by omega
   go_wp2_with fail
   go_ret
   exact⟨_,rfl,hm,hk,Nat.le_refl _⟩
end Go.Proofs.YtebnflpanfmicaaGreatDoor
