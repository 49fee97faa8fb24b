/-
  Part 17 of the proof: TopWaits, TopRound, TopCheck.
-/
import Derived.Test.YtebnflpanfmicaaGreatDoorPkAP
set_option linter.unusedVariables false
set_option linter.unusedSimpArgs false
set_option linter.unusedSectionVars false
namespace Go.Proofs.YtebnflpanfmicaaGreatDoor
open Go.RowKit
theorem edgesOf_at (t:List Nat) (n i:Nat) (h:i < (edgesOf t n).length):(edgesOf t n)[i]=(t.getD i 0,i+1):=by simp[edgesOf]
theorem edges_good {t:List Nat} (ht:Tree t):∀(i:Nat) (h:i < (edgesOf t t.length).length),(edgesOf t t.length)[i].1 < (edgesOf t t.length)[i].2∧((edgesOf t t.length)[i].2:Int) < ((t.length+1:Nat):Int)∧
  ∀e∈(edgesOf t t.length).take i,e≠(edgesOf t t.length)[i]:=by
 intro i h
 have hi:i < t.length:=by rw[edgesOf_length]at h;exact h
 rw[edgesOf_at]
 refine⟨?_,by omega,fun e he=> ?_⟩
 ·have:=ht i hi
  rw[List.getD_eq_getElem?_getD,List.getElem?_eq_getElem hi]
  show t[i] < i+1
  omega
 ·obtain⟨j,hj,rfl⟩:=List.getElem_of_mem he
  rw[List.length_take]at hj
  rw[List.getElem_take,edgesOf_at]
  intro e
  have:=congrArg Prod.snd e
  simp only at this
  omega
theorem pcheck_runs {w:World} {S:Nat→Prop} {p:Nums} {t ws:List Nat} {e wt nx:Value} (h:PlanS w S p t ws e wt nx):
  Calls Tryz.prog 72 #[planV p t e wt nx] w fun e w'=>e= .returned (.int .u16 0)∧Keeps (fun _=>False) w w':=by
 obtain⟨⟨Ea,ec,rfl⟩,⟨Wa,wc,rfl⟩,⟨Na,nc,rfl⟩⟩:=h.shapes
 obtain⟨vs,n1,n2,n3,_⟩:=h.nq
 have hel:=edgesOf_length t t.length
 have hml:(ws.map Int.ofNat).length=ws.length:=by simp
 have hrows:∀u∈vs,∃A c,u= .slice A (t.length+1) c:=fun u hu=>by
  obtain⟨i,hi,rfl⟩:=List.getElem_of_mem hu
  have h2:=n3 i _ (List.getElem?_eq_getElem hi)
  unfold NQ at h2
  rw[rowOf_length]at h2
  obtain⟨A,c,e,_,_⟩:=h2.shape
  exact⟨A,c,e⟩
 have h3:=check_calls p (t.length+1) (edgesOf t t.length) (ws.map Int.ofNat) vs Ea Wa Na ec wc nc w h.nums (by rw[hml];exact h.lanes) (by rw[hel];exact h.eq) (by rw[hel];exact h.t5) (edges_good h.tree)
  (by rw[hml,List.map_map];exact h.wq.reads) (fun x hx=>by obtain⟨y,hy,rfl⟩:=List.mem_map.1 hx;have:=h.weights y hy;exact⟨Int.ofNat_le.2 this.1,Int.ofNat_le.2 this.2⟩) n1 hrows
 rw[hel,hml]at h3
 exact h3
theorem madeRep (z:Value) (n:Nat):madeCells #[z] n=(List.replicate n z).toArray:=by
 apply Array.ext
 ·simp[madeCells]
 ·intro i h1 h2
  simp[madeCells,Nat.mod_one]
structure WaitsV (w:World) (t:List Nat) (H:List (Nat×Nat)) (R n:Nat) (vs:List Value) (m:Nat):Prop where
 blk:w.heap[R]? =some (.cells vs.toArray 35 (0,0))
 len:vs.length=n
 rows:∀j,j < m→∃(r:Value) (ys:List Int) (h:Nat×Nat),vs[j]? =some r∧H[j]? =some h∧ZQ w r ys∧ys.length≤6∧(∀y∈ys,∃z:Nat,y=(z:Int)∧Below1 t H (rk t h) z)∧∀k,r.ownBlock=some k→R < k
theorem hopsTo_le {t:List Nat} (ht:Tree t) (h5:t.length≤5):∀v,v≤t.length+1→∀h∈hopsTo t v,h.1≤t.length∧h.2≤t.length
 | 0,_,h,hh=>absurd hh (by simp[hopsTo])
 | v+1,hv,h,hh=>by
   rcases List.mem_append.1 hh with h1 | h1
   ·exact hopsTo_le ht h5 v (by omega) h h1
   ·obtain⟨x,hx,rfl⟩:=List.mem_map.1 h1
    exact⟨by simp only;omega,(nb_rises ht h5 (v:=v) (by omega)).2.1 x hx⟩
theorem hopsOf_le {t:List Nat} (ht:Tree t) (h5:t.length≤5):∀h∈hopsOf t,h.1≤t.length∧h.2≤t.length:=hopsTo_le ht h5 _ (Nat.le_refl _)
set_option maxRecDepth 100000 in
set_option maxHeartbeats 16000000 in
theorem waits_runs {w:World} {S:Nat→Prop} {p:Nums} {t ws:List Nat} {e wt nx:Value} (h:PlanS w S p t ws e wt nx):
  Calls Tryz.prog 74 #[planV p t e wt nx] w fun e' w'=>
   ∃R vs,e'= .returned (.slice (some ⟨R,0,none⟩) (hopsOf t).length (hopsOf t).length)∧WaitsV w' t (hopsOf t) R (hopsOf t).length vs (hopsOf t).length∧Keeps (fun _=>False) w w'∧w.heap.size≤R:=by
 obtain⟨⟨Ea,ec,rfl⟩,⟨Wa,wc,rfl⟩,⟨Na,nc,rfl⟩⟩:=h.shapes
 have CHK:Hid (∀U,Keeps (fun _=>False) w U→_):=Lib.hid fun U hU=>pcheck_runs (h.keeps hU (fun _ _ h=>h))
 have HPS:Hid (∀U,Keeps (fun _=>False) w U→_):=Lib.hid fun U hU=>hops_runs (h.keeps hU (fun _ _ h=>h))
 have hHl:=hopsTo_length h.tree h.t5 (t.length+1) (Nat.le_refl _)
 have h5:=h.t5
 have hle:=hopsOf_le h.tree h.t5
 have hHl':(hopsOf t).length≤30:=by unfold hopsOf;omega
 generalize hopsOf t=H at*
 have AFT:Hid (∀U,Keeps (fun _=>False) w U→∀a b,a≤t.length→b≤t.length→∀Ha hc,_):=Lib.hid fun U hU a b ha hb Ha hc=>after_runs (h.keeps hU (fun _ _ h=>h)) a b ha hb H H.length rfl hHl' Ha hc
 have HLE:=Lib.hid hle
 clear h hle hHl
 obtain⟨lanes,room,queue,rounds,every,bag,start⟩:=p
 unfold planV Nums.plan at CHK HPS AFT ⊢
 have hms:=fun w=>run_make_row' (P:=Tryz.prog) 36 35 (.slice none 0 0) 24 Tryz.underlying36 info_ints rfl .i64 .i64 H.length (by omega) (by omega) w
 go_enter Tryz.func74,Tryz.ntmps74
 go_wp2_with fail
 have hk0:Keeps (fun _=>False) w (w.alloc (.cells #[.int .i64 ((t.length:Int)+1), .slice Ea t.length ec, .int .i64 lanes, .int .i64 room, .int .i64 queue, .int .i64 rounds, .int .i64 every, .int .i64 bag, .slice Wa ws.length wc, .int .u16 start, .slice Na (t.length+1) nc] 38)):=Keeps.alloc _ _ _
 have hbx:PBox (w.alloc (.cells #[.int .i64 ((t.length:Int)+1), .slice Ea t.length ec, .int .i64 lanes, .int .i64 room, .int .i64 queue, .int .i64 rounds, .int .i64 every, .int .i64 bag, .slice Wa ws.length wc, .int .u16 start, .slice Na (t.length+1) nc] 38)) w.heap.size #[.int .i64 ((t.length:Int)+1), .slice Ea t.length ec, .int .i64 lanes, .int .i64 room, .int .i64 queue, .int .i64 rounds, .int .i64 every, .int .i64 bag, .slice Wa ws.length wc, .int .u16 start, .slice Na (t.length+1) nc]:=blk_new _ _
 refine(CHK.out _ hk0).mono ?_
 generalize w.alloc (.cells #[.int .i64 ((t.length:Int)+1), .slice Ea t.length ec, .int .i64 lanes, .int .i64 room, .int .i64 queue, .int .i64 rounds, .int .i64 every, .int .i64 bag, .slice Wa ws.length wc, .int .u16 start, .slice Na (t.length+1) nc] 38)=X at*
 obtain⟨B0,hB0⟩:∃B,w.heap.size=B:=⟨_,rfl⟩
 have hBX:B0≤X.heap.size:=hB0▸hk0.size
 have HB0:=Lib.hid hB0
 rw[hB0]at hbx ⊢
 clear hB0
 rintro e' U ⟨rfl,hU⟩
 have HBX:=Lib.hid hbx
 obtain⟨y0,y1,y2,y3,y4,y5,y6,y7,y8,y9,y10,yf⟩:=(hbx.kept hU).all
 have HU:=Lib.hid hU
 have HK0:=Lib.hid hk0
 have HPSU:=Lib.hid (HPS.out U (hk0.trans hU))
 clear hU hk0 hbx CHK
 go_wp2_with fail
 refine HPSU.out.mono ?_
 rintro e' V ⟨Ha,hc,rfl,hHV,hUV,_⟩
 clear y0 y1 y2 y3 y4 y5 y6 y7 y8 y9 y10 yf HPSU
 have HHV:=Lib.hid hHV
 have hXV:=HU.out.trans hUV
 have HXV:=Lib.hid hXV
 clear hHV hUV hXV HU
 go_wp2_with fail
 have hR:(V.alloc (.cells (madeCells #[.slice none 0 0] H.length) 35)).heap[V.heap.size]? =some (.cells (List.replicate H.length (Value.slice none 0 0)).toArray 35 (0,0)):=by
  rw[blk_new,madeRep]
 have hkR:Keeps (fun _=>False) V (V.alloc (.cells (madeCells #[.slice none 0 0] H.length) 35)):=Keeps.alloc _ _ _
 obtain⟨R,hRe⟩:∃R,V.heap.size=R:=⟨_,rfl⟩
 have HRE:=Lib.hid hRe
 rw[hRe]at hR ⊢
 clear hRe
 go_loopw [17] (fun s wr=>∃(i:Nat) (vs:List Value),i≤H.length∧s= .int .i64 (i:Int)∧WaitsV wr t H R H.length vs i∧Keeps (fun _=>False) V wr) (fun s _=>H.length - (intOf s).toNat)
 case atStart=>exact⟨0,_,Nat.zero_le _,rfl,⟨hR,by simp,fun j hj=>absurd hj (by omega)⟩,hkR⟩
 case round=>
  clear hR hkR
  obtain⟨i,vs,hi,rfl,hV,hk⟩:=hrel
  by_cases hil:i < H.length
  ·have hii:(i:Int) < (H.length:Int):=by omega
   have hi0:(0:Int)≤(i:Int):=by omega
   obtain⟨g,off,c',e',_,hcell,_⟩:=(HHV.out.keeps hk (fun _ _ h=>h)).cell (by omega)
   cases e'
   obtain⟨q1,q2⟩:=ecells_two H i hil
   have x1:=hcell _ _ q1
   have x2:=hcell _ _ q2
   rw[←Nat.add_assoc]at x2
   have hat:H[i]? =some H[i]:=List.getElem?_eq_getElem hil
   have hle:=HLE.out _ (List.getElem_mem hil)
   have HAT:=Lib.hid hat
   clear hcell q1 q2 hat
   generalize H[i]=hh at*
   obtain⟨a,b⟩:=hh
   simp only at x1 x2 hle
   have hkh:Keeps (fun _=>False) wr (wr.alloc (.cells #[.int .i64 (a:Int), .int .i64 (b:Int)] 95)):=Keeps.alloc _ _ _
   obtain⟨y0,y1,y2,y3,y4,y5,y6,y7,y8,y9,y10,yf⟩:=((HBX.out.kept (HXV.out.trans hk)).kept hkh).all
   have HKH:=Lib.hid hkh
   have HCA:=Lib.hid (AFT.out _ (((HK0.out.trans HXV.out).trans hk).trans hkh) a b hle.1 hle.2 _ hc ((HHV.out.keeps hk (fun _ _ h=>h)).keeps hkh (fun _ _ h=>h)))
   clear hkh
   have HVV:=Lib.hid hV
   have HK:=Lib.hid hk
   clear hV hk
   go_wp2_with fail
   refine HCA.out.mono ?_
   rintro e' U ⟨r,ys,rfl,hr1,hr2,hr3,hr4,hr5⟩
   obtain⟨rA,rc,rfl,_,_⟩:=QS.shape hr1
   have hkWU:=HKH.out.trans hr4
   have hb:=blk_keeps hkWU HVV.out.blk (fun h=>h)
   have hvl:=HVV.out.len
   have z1:U.cell? ⟨R,i,none⟩=some vs[i]:=by rw[blk_cell hb];simp
   have zf:U.frozen? ⟨R,i,none⟩=false:=blk_frozen hb i
   have HB:=Lib.hid hb
   have HR:=Lib.hid (And.intro hr1 (And.intro hr2 (And.intro hr3 (And.intro hkWU hr5))))
   clear hr1 hr2 hr3 hr4 hr5 hkWU hb HCA y0 y1 y2 y3 y4 y5 y6 y7 y8 y9 y10 yf x1 x2 hms
   go_wp2_with fail
   go_roundw
   case rel=>
    obtain⟨hr1,hr2,hr3,hkWU,hr5⟩:=HR.out
    have hks:Keeps (fun k=>k=R) U (U.setCell ⟨R,i,none⟩ (.slice rA ys.length rc)):=Keeps.setCell _ _ _ _ rfl
    have hRl:=blk_lt HVV.out.blk
    have hWs:=HK.out.size
    have hVR:=HRE.out
    have hno:∀k,(Value.slice rA ys.length rc).ownBlock=some k→R < k:=fun k hk=>by have:=hr5 k hk;rw[World.size_alloc]at this;omega
    refine⟨i+1,vs.set i (.slice rA ys.length rc),by omega,by go_num,⟨?_,by simp[hvl],fun j hj=> ?_⟩,(HK.out.trans hkWU).then hks (fun k hk h=>by omega)⟩
    ·rw[blk_set HB.out];simp
    ·by_cases hji:j=i
     ·subst hji
      exact⟨.slice rA ys.length rc,ys,(a,b),by simp[hvl,hil],HAT.out,hr1.keeps hks (fun k hk h=>by have:=hno k hk;omega),hr2,hr3,hno⟩
     ·obtain⟨r',ys',h',e1,e2,e3,e4,e5,e6⟩:=HVV.out.rows j (by omega)
      exact⟨r',ys',h',by rw[List.getElem?_set_ne (fun h=>hji h.symm)];exact e1,e2,(e3.keeps hkWU (fun _ _ h=>h)).keeps hks (fun k hk h=>by have:=e6 k hk;omega),e4,e5,e6⟩
   case measure=>simp[intOf];omega
  ·obtain rfl:i=H.length:=by omega
   have hii:¬(H.length:Int) < (H.length:Int):=by omega
   have HV:=Lib.hid hV
   have HK:=Lib.hid ((HK0.out.trans HXV.out).trans hk)
   clear hV hk
   go_wp2_with fail
   go_ret
   have:=HK0.out.size
   have:=HXV.out.size
   have:=HB0.out
   have:=HRE.out
   exact⟨R,rfl,⟨vs,HV.out⟩,HK.out,by omega⟩
end Go.Proofs.YtebnflpanfmicaaGreatDoor
namespace Go.Proofs.YtebnflpanfmicaaGreatDoor
open Go.RowKit
structure MarksV (w:World) (t:List Nat) (H:List (Nat×Nat)) (mb ab R n:Nat) (vs:List Value) (ms:List Int):Prop where
 box:w.heap[mb]? =some (.cells #[.slice (some ⟨ab,0,none⟩) n n, .slice (some ⟨R,0,none⟩) n n] 155 (0,0))
 at_:w.heap[ab]? =some (.cells (ms.map (Value.int .i64)).toArray 3 (0,0))
 len:ms.length=n
 small:∀x∈ms,0≤x∧x≤2
 waits:WaitsV w t H R n vs n
 own:∀r∈vs,∀k,r.ownBlock=some k→k < mb
 ord:R < mb∧mb < ab
theorem MarksV.set {w:World} {t:List Nat} {H:List (Nat×Nat)} {mb ab R n:Nat} {vs:List Value} {ms:List Int} (h:MarksV w t H mb ab R n vs ms) (i:Nat) (x:Int) (hx:0≤x∧x≤2):
  MarksV (w.setCell ⟨ab,i,none⟩ (.int .i64 x)) t H mb ab R n vs (ms.set i x)∧Keeps (fun k=>k=ab) w (w.setCell ⟨ab,i,none⟩ (.int .i64 x)):=by
 have hk:Keeps (fun k=>k=ab) w (w.setCell ⟨ab,i,none⟩ (.int .i64 x)):=Keeps.setCell _ _ _ _ rfl
 obtain⟨o1,o2⟩:=h.ord
 refine⟨⟨blk_keeps hk h.box (by omega), ?_,by simp[h.len], ?_,⟨blk_keeps hk h.waits.blk (by omega),h.waits.len,fun j hj=> ?_⟩,h.own,h.ord⟩,hk⟩
 ·rw[blk_set h.at_];simp[List.map_set]
 ·intro y hy
  rcases List.mem_or_eq_of_mem_set hy with h1 | h1
  ·exact h.small y h1
  ·rw[h1];exact hx
 ·obtain⟨r,ys,hh,e1,e2,e3,e4,e5,e6⟩:=h.waits.rows j hj
  exact⟨r,ys,hh,e1,e2,e3.keeps hk (fun k hk e=>by have:=h.own r (List.mem_of_getElem? e1) k hk;omega),e4,e5,e6⟩
set_option maxRecDepth 100000 in
set_option maxHeartbeats 16000000 in
theorem round_runs (t:List Nat) (H:List (Nat×Nat)) (mb ab R n:Nat) (vs:List Value) (hn:H.length=n) (hn30:n≤30):∀(r i:Nat) (h:Nat×Nat) (ms:List Int) (w:World),H[i]? =some h→rk t h < r→MarksV w t H mb ab R n vs ms→
  (∀(k:Nat) h',H[k]? =some h'→rk t h'≤rk t h→ms[k]? ≠some 1)→
  Calls Tryz.prog 75 #[.pointer (some ⟨mb,0,none⟩), .int .i64 i] w fun e w'=>e= .returned (.bool false)∧Keeps (fun k=>k=ab) w w'∧∃ms',MarksV w' t H mb ab R n vs ms'∧∀k:Nat,ms'[k]? =some 1→ms[k]? =some 1
 | 0,_,_,_,_,_,h,_,_=>absurd h (Nat.not_lt_zero _)
 | r+1,i,h,ms,w,hi,hr,hM,hno=>by
   have HIH:=Lib.hid (round_runs t H mb ab R n vs hn hn30 r)
   have hin:i < n:=hn▸(List.getElem?_eq_some_iff.1 hi).1
   have hii:(i:Int) < (n:Int):=by omega
   have hi0:(0:Int)≤(i:Int):=by omega
   have hml:=hM.len
   obtain⟨hM1,hk1⟩:=hM.set i 1 (by decide)
   obtain⟨rr,ys,h',e1,e2,e3,e4,e5,e6⟩:=hM1.waits.rows i hin
   rw[hi]at e2
   cases e2
   have x0:w.cell? ⟨mb,0,none⟩=some (.slice (some ⟨ab,0,none⟩) n n):=by rw[blk_cell hM.box];rfl
   have xi:w.cell? ⟨ab,i,none⟩=some (.int .i64 ms[i]):=by rw[blk_cell hM.at_];simp[hml,hin]
   have xf:w.frozen? ⟨ab,i,none⟩=false:=blk_frozen hM.at_ i
   have z1:(w.setCell ⟨ab,i,none⟩ (.int .i64 1)).cell? ⟨mb,1,none⟩=some (.slice (some ⟨R,0,none⟩) n n):=by rw[blk_cell hM1.box];rfl
   have zr:(w.setCell ⟨ab,i,none⟩ (.int .i64 1)).cell? ⟨R,i,none⟩=some rr:=by rw[blk_cell hM1.waits.blk];simpa using e1
   obtain⟨rA,rc,rfl,_,_⟩:=QS.shape e3
   have HI:=Lib.hid hi
   have HM1:=Lib.hid hM1
   have HK1:=Lib.hid hk1
   have HNO:=Lib.hid hno
   have HE5:=Lib.hid e5
   have HE3:=Lib.hid e3
   have HOW:=Lib.hid (hM1.own _ (List.mem_of_getElem? e1))
   obtain⟨ho1,ho2⟩:=hM1.ord
   have HE1:=Lib.hid e1
   clear hM hM1 hk1 hno e5 e1 e3 e6 hi
   go_enter Tryz.func75,Tryz.ntmps75
   go_wp2_with fail
   apply wp_scope_straight
   go_wp2_with fail
   generalize w.setCell ⟨ab,i,none⟩ (.int .i64 1)=X at*
   apply wp_label
   go_wp2_with fail
   clear z1 zr x0 xi xf
   go_loopw [21] (fun s wr=>∃(j:Nat) (msj:List Int),j≤ys.length∧s= .int .i64 (j:Int)∧MarksV wr t H mb ab R n vs msj∧(∀k:Nat,msj[k]? =some 1→(ms.set i 1)[k]? =some 1)∧Keeps (fun k=>k=ab) X wr) (fun s _=>ys.length - (intOf s).toNat)
   case atStart=>exact⟨0,_,Nat.zero_le _,rfl,HM1.out,fun k h=>h,Keeps.refl _ _⟩
   case round=>
    obtain⟨j,msj,hj,rfl,hM,hone,hk⟩:=hrel
    by_cases hjl:j < ys.length
    ·have hjj:(j:Int) < (ys.length:Int):=by omega
     have hj0:(0:Int)≤(j:Int):=by omega
     obtain⟨g,off,c',e',_,hcell,_⟩:=(HE3.out.keeps hk (fun k hk h=>by have:=HOW.out k hk;omega)).cell (by omega)
     cases e'
     have x1:=hcell j _ (by rw[List.getElem?_map,List.getElem?_eq_getElem hjl];rfl)
     obtain⟨z,hz,hzn,h',hz1,hz2⟩:=HE5.out _ (List.getElem_mem hjl)
     rw[hz]at x1
     have hml2:=hM.len
     have hzl:z < msj.length:=by omega
     have hzi:(z:Int) < (n:Int):=by omega
     have hz0:(0:Int)≤(z:Int):=by omega
     have x0:wr.cell? ⟨mb,0,none⟩=some (.slice (some ⟨ab,0,none⟩) n n):=by rw[blk_cell hM.box];rfl
     have xz:wr.cell? ⟨ab,z,none⟩=some (.int .i64 msj[z]):=by rw[blk_cell hM.at_];simp[hzl]
     obtain⟨s1,s2⟩:=hM.small _ (List.getElem_mem hzl)
     have hnot:∀(k:Nat) h2,H[k]? =some h2→rk t h2≤rk t h'→msj[k]? ≠some 1:=fun k h2 hk2 hle hk1=>by
      have h3:=hone k hk1
      by_cases hki:k=i
      ·subst hki
       rw[HI.out]at hk2
       cases hk2
       omega
      ·rw[List.getElem?_set_ne (fun h=>hki h.symm)]at h3
       exact HNO.out k h2 hk2 (by omega) h3
     have hn1:msj[z]≠1:=fun e=>hnot z h' hz1 (Nat.le_refl _) (by rw[List.getElem?_eq_getElem hzl,e])
     have HC:=Lib.hid (HIH.out z h' msj wr hz1 (by omega) hM hnot)
     have HM:=Lib.hid hM
     have HK:=Lib.hid hk
     have HON:=Lib.hid hone
     clear hM hk hone hnot hcell hz hz1 hz2
     generalize msj[z]=m at*
     by_cases hm:m=2
     ·subst hm
      clear HC hn1
      go_wp2_with fail
      go_roundw
      case rel=>exact⟨j+1,msj,by omega,by go_num,HM.out,HON.out,HK.out⟩
      case measure=>simp[intOf];omega
     ·obtain rfl:m=0:=by omega
      clear hn1 hm s1 s2
      go_wp2_with fail
      refine HC.out.mono ?_
      rintro e U ⟨rfl,hkU,ms',hMU,hoU⟩
      have HF:=Lib.hid (And.intro hkU (And.intro hMU hoU))
      clear hkU hMU hoU HC x0 xz x1
      go_wp2_with fail
      go_roundw
      case rel=>
       obtain⟨hkU,hMU,hoU⟩:=HF.out
       exact⟨j+1,ms',by omega,by go_num,hMU,fun k hk=>HON.out k (hoU k hk),HK.out.trans hkU⟩
      case measure=>simp[intOf];omega
    ·obtain rfl:j=ys.length:=by omega
     have hjj:¬(ys.length:Int) < (ys.length:Int):=by omega
     have hml2:=hM.len
     obtain⟨hM2,hk2⟩:=hM.set i 2 (by decide)
     have x0:wr.cell? ⟨mb,0,none⟩=some (.slice (some ⟨ab,0,none⟩) n n):=by rw[blk_cell hM.box];rfl
     have xi:wr.cell? ⟨ab,i,none⟩=some (.int .i64 msj[i]):=by rw[blk_cell hM.at_];simp[hml2,hin]
     have xf:wr.frozen? ⟨ab,i,none⟩=false:=blk_frozen hM.at_ i
     have HM2:=Lib.hid hM2
     have HK2:=Lib.hid ((HK1.out.trans hk).trans hk2)
     have HON:=Lib.hid hone
     clear hM hM2 hk hk2 hone
     go_wp2_with fail
     go_ret
     refine⟨rfl,HK2.out,_,HM2.out,fun k hk=> ?_⟩
     by_cases hki:k=i
     ·subst hki
      rw[List.getElem?_set_self (by omega)]at hk
      simp at hk
     ·rw[List.getElem?_set_ne (fun h=>hki h.symm)]at hk
      have:=HON.out k hk
      rwa[List.getElem?_set_ne (fun h=>hki h.symm)]at this
end Go.Proofs.YtebnflpanfmicaaGreatDoor
namespace Go.Proofs.YtebnflpanfmicaaGreatDoor
open Go.RowKit
set_option maxRecDepth 100000 in
set_option maxHeartbeats 16000000 in
theorem rcheck_runs {w:World} {S:Nat→Prop} {p:Nums} {t ws:List Nat} {e wt nx:Value} (h:PlanS w S p t ws e wt nx):
  Calls Tryz.prog 40 #[planV p t e wt nx] w fun e' w'=>e'= .returned (.int .u16 0)∧Keeps (fun _=>False) w w':=by
 obtain⟨⟨Ea,ec,rfl⟩,⟨Wa,wc,rfl⟩,⟨Na,nc,rfl⟩⟩:=h.shapes
 have CHK:Hid (∀U,Keeps (fun _=>False) w U→_):=Lib.hid fun U hU=>pcheck_runs (h.keeps hU (fun _ _ h=>h))
 have WTS:Hid (∀U,Keeps (fun _=>False) w U→_):=Lib.hid fun U hU=>waits_runs (h.keeps hU (fun _ _ h=>h))
 have PTH:Hid (∀U,Keeps (fun _=>False) w U→∀v x,v≤t.length→x≤t.length→_):=Lib.hid fun U hU v x hv hx=>path_runs (h.keeps hU (fun _ _ h=>h)) v x hv hx
 have hHl:=hopsTo_length h.tree h.t5 (t.length+1) (Nat.le_refl _)
 have h5:=h.t5
 have hHl':(hopsOf t).length≤30:=by unfold hopsOf;omega
 generalize hopsOf t=H at*
 have RND:Hid (∀mb ab R vs i h ms w,_):=Lib.hid fun mb ab R vs i h ms w a b c=>round_runs t H mb ab R H.length vs rfl hHl' (rk t h+1) i h ms w a (Nat.lt_succ_self _) b c
 clear h hHl
 obtain⟨lanes,room,queue,rounds,every,bag,start⟩:=p
 unfold planV Nums.plan at CHK WTS PTH ⊢
 have hms:=fun w=>run_make_row' (P:=Tryz.prog) 35 3 (.int .i64 0) 8 Tryz.underlying35 info_i rfl .i64 .i64 H.length (by omega) (by omega) w
 go_enter Tryz.func40,Tryz.ntmps40
 go_wp2_with fail
 have hk0:Keeps (fun _=>False) w (w.alloc (.cells #[.int .i64 ((t.length:Int)+1), .slice Ea t.length ec, .int .i64 lanes, .int .i64 room, .int .i64 queue, .int .i64 rounds, .int .i64 every, .int .i64 bag, .slice Wa ws.length wc, .int .u16 start, .slice Na (t.length+1) nc] 38)):=Keeps.alloc _ _ _
 have hbx:PBox (w.alloc (.cells #[.int .i64 ((t.length:Int)+1), .slice Ea t.length ec, .int .i64 lanes, .int .i64 room, .int .i64 queue, .int .i64 rounds, .int .i64 every, .int .i64 bag, .slice Wa ws.length wc, .int .u16 start, .slice Na (t.length+1) nc] 38)) w.heap.size #[.int .i64 ((t.length:Int)+1), .slice Ea t.length ec, .int .i64 lanes, .int .i64 room, .int .i64 queue, .int .i64 rounds, .int .i64 every, .int .i64 bag, .slice Wa ws.length wc, .int .u16 start, .slice Na (t.length+1) nc]:=blk_new _ _
 refine(CHK.out _ hk0).mono ?_
 generalize w.alloc (.cells #[.int .i64 ((t.length:Int)+1), .slice Ea t.length ec, .int .i64 lanes, .int .i64 room, .int .i64 queue, .int .i64 rounds, .int .i64 every, .int .i64 bag, .slice Wa ws.length wc, .int .u16 start, .slice Na (t.length+1) nc] 38)=X at*
 generalize w.heap.size=B0 at*
 rintro e' U ⟨rfl,hU⟩
 replace hbx:=hbx.kept hU
 replace hk0:=hk0.trans hU
 have HBX:=Lib.hid hbx
 have HK0:=Lib.hid hk0
 obtain⟨y0,y1,y2,y3,y4,y5,y6,y7,y8,y9,y10,yf⟩:=hbx.all
 clear hU hbx hk0 CHK hms
 go_wp2_with fail
 clear y0 y1 y2 y3 y4 y5 y6 y7 y8 y9 y10 yf
 go_loopw [17] (fun s wr=>∃i:Nat,i≤t.length+1∧s= .int .i64 (i:Int)∧Keeps (fun _=>False) U wr) (fun s _=>t.length+1 - (intOf s).toNat)
 case atStart=>exact⟨0,Nat.zero_le _,rfl,Keeps.refl _ _⟩
 case round=>
  obtain⟨i,hi,rfl,hk⟩:=hrel
  by_cases hil:i < t.length+1
  ·have hii:(i:Int) < (t.length:Int)+1:=by omega
   have hi0:(0:Int)≤(i:Int):=by omega
   obtain⟨y0,y1,y2,y3,y4,y5,y6,y7,y8,y9,y10,yf⟩:=(HBX.out.kept hk).all
   have HK:=Lib.hid hk
   clear hk
   go_wp2_with fail
   clear y0 y1 y2 y3 y4 y5 y6 y7 y8 y9 y10 yf
   go_loopw [22] (fun s wr=>∃j:Nat,j≤t.length+1∧s= .int .i64 (j:Int)∧Keeps (fun _=>False) U wr) (fun s _=>t.length+1 - (intOf s).toNat)
   case atStart=>exact⟨0,Nat.zero_le _,rfl,HK.out⟩
   case round=>
    obtain⟨j,hj,rfl,hk⟩:=hrel
    by_cases hjl:j < t.length+1
    ·have hjj:(j:Int) < (t.length:Int)+1:=by omega
     obtain⟨y0,y1,y2,y3,y4,y5,y6,y7,y8,y9,y10,yf⟩:=(HBX.out.kept hk).all
     have HC:=Lib.hid (PTH.out _ (HK0.out.trans hk) i j (by omega) (by omega))
     have HK2:=Lib.hid hk
     clear hk
     go_wp2_with fail
     refine HC.out.mono ?_
     rintro e' V ⟨u,rfl,hV⟩
     have HV:=Lib.hid hV
     clear hV HC y0 y1 y2 y3 y4 y5 y6 y7 y8 y9 y10 yf
     go_wp2_with fail
     go_roundw
     case rel=>exact⟨j+1,by omega,by go_num,HK2.out.trans HV.out⟩
     case measure=>simp[intOf];omega
    ·obtain rfl:j=t.length+1:=by omega
     have hjj:¬(((t.length+1:Nat):Int) < (t.length:Int)+1):=by omega
     have HK2:=Lib.hid hk
     clear hk
     go_wp2_with fail
     exact⟨⟨i+1,by omega,rfl,HK2.out⟩,by simp[intOf];omega⟩
  ·obtain rfl:i=t.length+1:=by omega
   have hii:¬(((t.length+1:Nat):Int) < (t.length:Int)+1):=by omega
   obtain⟨y0,y1,y2,y3,y4,y5,y6,y7,y8,y9,y10,yf⟩:=(HBX.out.kept hk).all
   have HC:=Lib.hid (WTS.out _ (HK0.out.trans hk))
   have HK:=Lib.hid (HK0.out.trans hk)
   clear hk
   go_wp2_with fail
   refine HC.out.mono ?_
   rintro e' V ⟨R,vs,rfl,hW,hV,hR⟩
   have HW:=Lib.hid hW
   have HV:=Lib.hid (HK.out.trans hV)
   clear hW hV hR HC y0 y1 y2 y3 y4 y5 y6 y7 y8 y9 y10 yf
   have hms:=fun w=>run_make_row' (P:=Tryz.prog) 35 3 (.int .i64 0) 8 Tryz.underlying35 info_i rfl .i64 .i64 H.length (by omega) (by omega) w
   have hM:MarksV ((V.alloc (.cells #[.slice (some ⟨V.heap.size+1,0,none⟩) H.length H.length, .slice (some ⟨R,0,none⟩) H.length H.length] 155)).alloc (.cells (madeCells #[.int .i64 0] H.length) 3)) t H V.heap.size (V.heap.size+1) R H.length vs (List.replicate H.length 0)∧
     Keeps (fun _=>False) V ((V.alloc (.cells #[.slice (some ⟨V.heap.size+1,0,none⟩) H.length H.length, .slice (some ⟨R,0,none⟩) H.length H.length] 155)).alloc (.cells (madeCells #[.int .i64 0] H.length) 3)):=by
    have hka:Keeps (fun _=>False) V ((V.alloc (.cells #[.slice (some ⟨V.heap.size+1,0,none⟩) H.length H.length, .slice (some ⟨R,0,none⟩) H.length H.length] 155)).alloc (.cells (madeCells #[.int .i64 0] H.length) 3)):=(Keeps.alloc _ _ _).trans (Keeps.alloc _ _ _)
    have hW:=HW.out
    refine⟨⟨blk_alloc (blk_new _ _) _, ?_,by simp,fun x hx=>by rw[(List.mem_replicate.1 hx).2];decide,⟨blk_keeps hka hW.blk (fun h=>h),hW.len,fun j hj=> ?_⟩,fun r hr k hk=> ?_,⟨blk_lt hW.blk,Nat.lt_succ_self _⟩⟩,hka⟩
    ·have:=blk_new (V.alloc (.cells #[.slice (some ⟨V.heap.size+1,0,none⟩) H.length H.length, .slice (some ⟨R,0,none⟩) H.length H.length] 155)) (.cells (madeCells #[.int .i64 0] H.length) 3)
     rw[World.size_alloc,madeRep]at this
     rw[madeRep,this,List.map_replicate]
    ·obtain⟨r,ys,h',e1,e2,e3,e4,e5,e6⟩:=hW.rows j hj
     exact⟨r,ys,h',e1,e2,e3.keeps hka (fun _ _ h=>h),e4,e5,e6⟩
    ·obtain⟨j,hj,rfl⟩:=List.getElem_of_mem hr
     obtain⟨r,ys,h',e1,e2,e3,e4,e5,e6⟩:=hW.rows j (by rw[←hW.len];exact hj)
     rw[List.getElem?_eq_getElem hj]at e1
     cases e1
     exact e3.lt k hk
   obtain⟨hM,hka⟩:=hM
   have HM0:=Lib.hid hM
   have x0:((V.alloc (.cells #[.slice (some ⟨V.heap.size+1,0,none⟩) H.length H.length, .slice (some ⟨R,0,none⟩) H.length H.length] 155)).alloc (.cells (madeCells #[.int .i64 0] H.length) 3)).cell? ⟨V.heap.size,0,none⟩=some (.slice (some ⟨V.heap.size+1,0,none⟩) H.length H.length):=by rw[blk_cell hM.box];rfl
   clear hM
   have HKA:=Lib.hid hka
   clear hka
   go_wp2_with fail
   clear x0 hms
   generalize (V.alloc (.cells #[.slice (some ⟨V.heap.size+1,0,none⟩) H.length H.length, .slice (some ⟨R,0,none⟩) H.length H.length] 155)).alloc (.cells (madeCells #[.int .i64 0] H.length) 3)=Y at*
   go_loopw [54] (fun s wr2=>∃(j:Nat) (ms:List Int),j≤H.length∧s= .int .i64 (j:Int)∧MarksV wr2 t H V.heap.size (V.heap.size+1) R H.length vs ms∧(∀k:Nat,ms[k]? ≠some 1)∧Keeps (fun k=>k=V.heap.size+1) Y wr2) (fun s _=>H.length - (intOf s).toNat)
   case atStart=>exact⟨0,_,Nat.zero_le _,rfl,HM0.out,fun k hk=>by rw[List.getElem?_replicate]at hk;split at hk <;>simp at hk,Keeps.refl _ _⟩
   case round=>
    obtain⟨j,ms,hj,rfl,hM,hno,hk⟩:=hrel
    by_cases hjl:j < H.length
    ·have hjj:(j:Int) < (H.length:Int):=by omega
     have hj0:(0:Int)≤(j:Int):=by omega
     have hml:=hM.len
     have x0:wr.cell? ⟨V.heap.size,0,none⟩=some (.slice (some ⟨V.heap.size+1,0,none⟩) H.length H.length):=by rw[blk_cell hM.box];rfl
     have xj:wr.cell? ⟨V.heap.size+1,j,none⟩=some (.int .i64 ms[j]):=by rw[blk_cell hM.at_];simp[hml,hjl]
     obtain⟨s1,s2⟩:=hM.small _ (List.getElem_mem (by omega:j < ms.length))
     have hn1:ms[j]≠1:=fun e=>hno j (by rw[List.getElem?_eq_getElem (by omega),e])
     have HC:=Lib.hid (RND.out _ _ R vs j _ ms wr (List.getElem?_eq_getElem hjl) hM (fun k _ _ _=>hno k))
     have HM:=Lib.hid hM
     have HK2:=Lib.hid hk
     have HNO:=Lib.hid hno
     clear hM hno hk
     generalize ms[j]=m at*
     by_cases hm:m=0
     ·subst hm
      clear hn1 s1 s2
      go_wp2_with fail
      refine HC.out.mono ?_
      rintro e' Z ⟨rfl,hkZ,ms',hMZ,hoZ⟩
      have HF:=Lib.hid (And.intro hkZ (And.intro hMZ hoZ))
      clear hkZ hMZ hoZ HC x0 xj
      go_wp2_with fail
      go_roundw
      case rel=>
       obtain⟨hkZ,hMZ,hoZ⟩:=HF.out
       exact⟨j+1,ms',by omega,by go_num,hMZ,fun k hk=>HNO.out k (hoZ k hk),HK2.out.trans hkZ⟩
      case measure=>simp[intOf];omega
     ·obtain rfl:m=2:=by omega
      clear hn1 s1 s2 hm HC
      go_wp2_with fail
      go_roundw
      case rel=>exact⟨j+1,ms,by omega,by go_num,HM.out,HNO.out,HK2.out⟩
      case measure=>simp[intOf];omega
    ·obtain rfl:j=H.length:=by omega
     have hjj:¬((H.length:Int) < (H.length:Int)):=by omega
     have HK2:=Lib.hid hk
     clear hM hno hk
     go_wp2_with fail
     go_ret
     have hsz:=HV.out.size
     exact⟨rfl,(HV.out.trans HKA.out).then HK2.out (fun k hk h=>by omega)⟩
end Go.Proofs.YtebnflpanfmicaaGreatDoor
