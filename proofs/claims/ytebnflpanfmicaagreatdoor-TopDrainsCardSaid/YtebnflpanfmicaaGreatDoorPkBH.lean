/-
  Part 34 of the proof: TopIns, TopFly.
-/
import Derived.Test.YtebnflpanfmicaaGreatDoorPkBC
import Derived.Test.YtebnflpanfmicaaGreatDoorPkAV
import Derived.Test.YtebnflpanfmicaaGreatDoorPkAD
import Derived.Test.YtebnflpanfmicaaGreatDoorPkAH
import Derived.Test.YtebnflpanfmicaaGreatDoorPkBA
import Derived.Deep.RegionHeld3
set_option linter.unusedVariables false
set_option linter.unusedSimpArgs false
set_option linter.unusedSectionVars false
namespace Go.Proofs.YtebnflpanfmicaaGreatDoor
open Go.RowKit
def sumI (f:Nat→Int):Nat→Int
 | 0=>0
 | n+1=>sumI f n+f n
theorem sumI_congr {f f':Nat→Int}:∀{n:Nat},(∀i,i < n→f i=f' i)→sumI f n=sumI f' n
 | 0,_=>rfl
 | n+1,h=>by
   unfold sumI
   rw[sumI_congr (fun i hi=>h i (by omega)),h n (by omega)]
theorem sumI_nat (f:Nat→Int) (h:∀i,0≤f i):∀n,0≤sumI f n
 | 0=>Int.le_refl _
 | n+1=>by have:=sumI_nat f h n;have:=h n;unfold sumI;omega
theorem wrap64_add (a b:Int):wrap64 (wrap64 a+b)=wrap64 (a+b):=by unfold wrap64;omega
theorem wrap64_add2 (a b:Int):wrap64 (wrap64 a+wrap64 b)=wrap64 (a+b):=by unfold wrap64;omega
theorem wrap64_zero:wrap64 0=0:=by unfold wrap64;omega
theorem run_plan_lanes (w:World) (a0 a1 a2 a3 a4 a5 a6 a7 a8 a9 a10:Value):(Instr.field 38 (.agg #[a0,a1,a2,a3,a4,a5,a6,a7,a8,a9,a10]) 2).run Tryz.prog w= .ok a2 w:=by kernel_rfl
theorem run_plan_nodes (w:World) (a0 a1 a2 a3 a4 a5 a6 a7 a8 a9 a10:Value):(Instr.field 38 (.agg #[a0,a1,a2,a3,a4,a5,a6,a7,a8,a9,a10]) 0).run Tryz.prog w= .ok a0 w:=by kernel_rfl
def lenQ (s:NodeS) (P k i:Nat):Int:=sumI (fun j=>((s.Q ⟨(i:Int),(j:Int),(k:Int)⟩).length:Int)) P
def insK (s:NodeS) (P k:Nat):Int:=((s.q k).length:Int)+sumI (lenQ s P k) P
def insV (g:Geo) (v:Nat) (s:NodeS):Int:=sumI (insK s (g.ports v)) g.ws.length
section
variable {σ:Sig} {w:World} {o:Nat→Option Cmp} {f:Nat} {fa:FabA} {g:Geo} {s:FabS}
set_option maxRecDepth 100000 in
set_option maxHeartbeats 16000000 in
theorem inside_runs (h:SysF σ w o) (hF:FabAt σ f fa g s) (v:Nat) (hv:v≤g.t.length) (n:NodeS) (hn:s.nd v=n):
  Calls Tryz.prog 34 #[.pointer (some ⟨fa.fb,0,none⟩), .int .i64 v] w fun e w'=>e= .returned (.int .i64 (wrap64 (insV g v n)))∧Keeps (fun _=>False) w w':=by
 have hp:=h.planS hF.geo
 have hl3:=hp.nums.lanes.2
 have hln:=hp.lanes
 have hL3:g.ws.length≤3:=by omega
 have hnode:=hF.node v hv
 rw[hn]at hnode
 have HND:=Lib.hid (fnode_ok (h.fabR hF) v hv)
 obtain⟨L,hL⟩:∃L,g.ws.length=L:=⟨_,rfl⟩
 have hvn:=nb_rises hp.tree hp.t5 hv
 have HPL:=Lib.hid (p:=∀U,Keeps (fun _=>False) w U→Calls Tryz.prog 33 #[.pointer (some ⟨fa.fb,0,none⟩)] U fun e w'=>∃e1 wt1 nx1,e= .returned (.agg #[.int .i64 ((g.t.length:Int)+1),e1, .int .i64 (L:Int), .int .i64 g.p.room, .int .i64 g.p.queue, .int .i64 g.p.rounds, .int .i64 g.p.every, .int .i64 g.p.bag,wt1, .int .u16 g.p.start,nx1])∧
  Calls Tryz.prog 66 #[.agg #[.int .i64 ((g.t.length:Int)+1),e1, .int .i64 (L:Int), .int .i64 g.p.room, .int .i64 g.p.queue, .int .i64 g.p.rounds, .int .i64 g.p.every, .int .i64 g.p.bag,wt1, .int .u16 g.p.start,nx1], .int .i64 v] w' (fun e w''=>∃A c,e= .returned (.slice A (nb g.t v).length c)∧Keeps (fun _=>False) w w'')∧Keeps (fun _=>False) w w') fun U hU=>by
   have hS:=SysF.calm' h hU
   refine(fplan_runs (hS.fabR hF) (hS.planS hF.geo)).mono ?_
   rintro e w' ⟨e1,wt1,nx1,rfl,hq,hk⟩
   have hB:=beside_runs hq v hv
   unfold planV Nums.plan at hB ⊢
   rw[hln,hL]at hB ⊢
   refine⟨e1,wt1,nx1,rfl,hB.mono ?_,hU.trans hk⟩
   rintro e w'' ⟨A,c,rfl,_,hk2,_⟩
   exact⟨A,c,rfl,(hU.trans hk).trans hk2⟩
 have HHO:=Lib.hid (p:=∀U,Keeps (fun _=>False) w U→_) fun U hU=>nhost_runs ((SysF.calm' h hU).nodeR hF.geo hnode)
 have HRI:=Lib.hid (p:=∀U,Keeps (fun _=>False) w U→_) fun U hU=>nrings_runs ((SysF.calm' h hU).nodeR hF.geo hnode)
 have HWA:=Lib.hid (p:=∀U,Keeps (fun _=>False) w U→∀k:Nat,k < L→Calls Tryz.prog 67 #[.pointer (some ⟨(fa.na v).hb,0,none⟩), .int .i64 k] U fun e w'=>e= .returned (.int .i64 ((n.q k).length:Int))∧U=w') fun U hU k hk=>waits_as (fa.na v).hb (k:Int) _ _ U ((SysF.calm' h hU).hostV hF.geo hnode) (by omega) (by rw[hln,hL];omega) hl3 _ rfl
 have HLE:=Lib.hid (p:=∀U,Keeps (fun _=>False) w U→∀i j k:Nat,_) fun U hU i j k=>rlen_runs (fa.na v).rb _ _ _ _ _ U ((SysF.calm' h hU).ringsV hF.geo hnode) ⟨(i:Int),(j:Int),(k:Int)⟩
 obtain⟨r,hr⟩:∃r,insV g v n=r:=⟨_,rfl⟩
 rw[hr]
 unfold insV at hr
 rw[hL]at hr hL3
 have hP6:(nb g.t v).length≤5:=hvn.2.2.1
 obtain⟨P,hP⟩:∃P,(nb g.t v).length+1=P:=⟨_,rfl⟩
 have hPr:g.ports v=P:=hP
 rw[hPr]at hr
 have HR:=Lib.hid hr
 have hP1:((nb g.t v).length:Int)+1=(P:Int):=by omega
 have hPle:P≤6:=by omega
 obtain⟨B,hB⟩:∃B,(nb g.t v).length=B:=⟨_,rfl⟩
 rw[hB]at HPL hP6 hP1
 clear h hF hp hl3 hln hL hvn hnode hr hP hPr hB
 generalize g.p.room=pr at*
 generalize g.p.queue=pq at*
 generalize g.p.rounds=po at*
 generalize g.p.every=pe at*
 generalize g.p.bag=pb at*
 generalize g.p.start=ps at*
 generalize g.t.length=T at*
 generalize fa.na v=a at*
 go_enter Tryz.func34,Tryz.ntmps34
 go_wp2_with fail
 refine HND.out.mono ?_
 rintro e U ⟨rfl,hU⟩
 have HU:=Lib.hid hU
 clear hU HND
 go_wp2_with fail
 refine(HPL.out U HU.out).mono ?_
 rintro e V ⟨e1,wt1,nx1,rfl,hB,hV⟩
 have HB:=Lib.hid hB
 clear hB hV
 go_wp2_with fail
 refine HB.out.mono ?_
 rintro e V ⟨A,c,rfl,hV⟩
 have HV:=Lib.hid hV
 clear hV HB HU
 go_wp2_with fail
 refine(HPL.out V HV.out).mono ?_
 rintro e U ⟨e2,wt2,nx2,rfl,_,hU⟩
 have HU:=Lib.hid hU
 clear hU HV HPL
 have hfl:=run_plan_lanes
 go_wp2_with fail
 clear hfl
 go_loopw [6,23] (fun m c wr=>∃k:Nat,k≤L∧c= .int .i64 (k:Int)∧m= .int .i64 (wrap64 (sumI (insK n P) k))∧Keeps (fun _=>False) w wr) (fun _ c _=>L - (intOf c).toNat)
 case atStart=>exact⟨0,Nat.zero_le _,rfl,by rw[sumI,wrap64_zero],HU.out⟩
 case round=>
  clear HU
  obtain⟨k,hk,rfl,rfl,hW⟩:=hrel
  by_cases hkl:k < L
  ·have hkk:(k:Int) < (L:Int):=by omega
   have HW:=Lib.hid hW
   have H1:=Lib.hid (HHO.out wr hW)
   have H2:=Lib.hid (HWA.out wr hW k hkl)
   have hs1:sumI (insK n P) (k+1)=sumI (insK n P) k+(((n.q k).length:Int)+sumI (lenQ n P k) P):=rfl
   have HS1:=Lib.hid hs1
   generalize sumI (insK n P) k=x at*
   obtain⟨m0,hm0⟩:∃m0,wrap64 x=m0:=⟨_,rfl⟩
   have HM0:=Lib.hid hm0
   rw[hm0]
   clear hW hs1 hm0
   go_wp2_with fail
   refine H1.out.mono ?_
   rintro e U ⟨rfl,rfl⟩
   go_wp2_with fail
   refine H2.out.mono ?_
   rintro e U ⟨rfl,rfl⟩
   clear H1 H2
   go_wp2_with fail
   obtain⟨m1,hm1⟩:∃m1,wrap64 (m0+((n.q k).length:Int))=m1:=⟨_,rfl⟩
   have hm1':m1=wrap64 (x+((n.q k).length:Int)):=by rw[←hm1,←HM0.out,wrap64_add]
   have HM1:=Lib.hid hm1'
   rw[hm1]
   clear hm1 hm1' HM0
   generalize (((n.q k).length:Nat):Int)=y at*
   go_loopw [6,33] (fun m c wr=>∃i:Nat,i≤P∧c= .int .i64 (i:Int)∧m= .int .i64 (wrap64 (x+y+sumI (lenQ n P k) i))∧Keeps (fun _=>False) w wr) (fun _ c _=>P - (intOf c).toNat)
   case atStart=>exact⟨0,Nat.zero_le _,rfl,by rw[HM1.out];simp[sumI],HW.out⟩
   case round=>
    clear HM1 HW
    obtain⟨i,hi,rfl,rfl,hW⟩:=hrel
    by_cases hil:i < P
    ·have hii:(i:Int) < (P:Int):=by omega
     have HW:=Lib.hid hW
     have hs2:sumI (lenQ n P k) (i+1)=sumI (lenQ n P k) i+sumI (fun j=>((n.Q ⟨(i:Int),(j:Int),(k:Int)⟩).length:Int)) P:=rfl
     have HS2:=Lib.hid hs2
     generalize sumI (lenQ n P k) i=z at*
     obtain⟨m2,hm2⟩:∃m2,wrap64 (x+y+z)=m2:=⟨_,rfl⟩
     have HM2:=Lib.hid hm2
     rw[hm2]
     clear hW hs2 hm2
     go_wp2_with fail
     go_loopw [6,37] (fun m c wr=>∃j:Nat,j≤P∧c= .int .i64 (j:Int)∧m= .int .i64 (wrap64 (x+y+z+sumI (fun j=>((n.Q ⟨(i:Int),(j:Int),(k:Int)⟩).length:Int)) j))∧Keeps (fun _=>False) w wr) (fun _ c _=>P - (intOf c).toNat)
     case atStart=>exact⟨0,Nat.zero_le _,rfl,by rw[←HM2.out];simp[sumI],HW.out⟩
     case round=>
      clear HM2 HW
      obtain⟨j,hj,rfl,rfl,hW⟩:=hrel
      by_cases hjl:j < P
      ·have hjj:(j:Int) < (P:Int):=by omega
       have HW:=Lib.hid hW
       have H1:=Lib.hid (HRI.out wr hW)
       have H2:=Lib.hid (HLE.out wr hW i j k)
       have hs3:sumI (fun j:Nat=>((n.Q ⟨(i:Int),(j:Int),(k:Int)⟩).length:Int)) (j+1)=sumI (fun j:Nat=>((n.Q ⟨(i:Int),(j:Int),(k:Int)⟩).length:Int)) j+((n.Q ⟨(i:Int),(j:Int),(k:Int)⟩).length:Int):=rfl
       have HS3:=Lib.hid hs3
       generalize sumI (fun j:Nat=>((n.Q ⟨(i:Int),(j:Int),(k:Int)⟩).length:Int)) j=u at*
       obtain⟨m3,hm3⟩:∃m3,wrap64 (x+y+z+u)=m3:=⟨_,rfl⟩
       have HM3:=Lib.hid hm3
       rw[hm3]
       clear hW hs3 hm3
       go_wp2_with fail
       refine H1.out.mono ?_
       rintro e U ⟨rfl,rfl⟩
       go_wp2_with fail
       refine H2.out.mono ?_
       rintro e U ⟨rfl,rfl⟩
       clear H1 H2
       go_wp2_with fail
       go_roundw
       case rel=>exact⟨j+1,by omega,by go_num,by rw[HS3.out,←HM3.out,wrap64_add];congr 2;omega,HW.out⟩
       case measure=>simp[intOf];omega
      ·obtain rfl:j=P:=by omega
       have hjj:¬((j:Int) < (j:Int)):=by omega
       have HW:=Lib.hid hW
       clear hW
       go_wp2_with fail
       go_roundw
       case rel=>exact⟨i+1,by omega,by go_num,by rw[HS2.out];congr 2;omega,HW.out⟩
       case measure=>simp[intOf];omega
    ·obtain rfl:i=P:=by omega
     have hii:¬((i:Int) < (i:Int)):=by omega
     have HW:=Lib.hid hW
     clear hW
     go_wp2_with fail
     go_roundw
     case rel=>exact⟨k+1,by omega,by go_num,by rw[HS1.out];congr 2;omega,HW.out⟩
     case measure=>simp[intOf];omega
  ·obtain rfl:k=L:=by omega
   have hkk:¬((k:Int) < (k:Int)):=by omega
   have HW:=Lib.hid hW
   clear hW
   go_wp2_with fail
   go_ret
   rw[←HR.out]
   exact⟨rfl,HW.out⟩
end
end Go.Proofs.YtebnflpanfmicaaGreatDoor
namespace Go.Proofs.YtebnflpanfmicaaGreatDoor
open Go.RowKit
theorem KeyOk.of_int {P:Program} {kt:TypeId} {q:IntKind} (hu:P.underlying kt=some (.int q)):KeyOk (fun x:Int=>Value.int q x) P kt where
 check w em k:=MapKept.run_checkKey (k:= .int q k) hu (by simp[MapKept.IsKey]) em 9999
 stays w k:=by simp[Instr.keyThatStays,Instr.sameBits]
 find w k L:=by
  refine MapKept.run_findKey hu ?_
  have key:∀(L:List (Ent Int)) (i:Nat),Instr.findNow (.int q) (.int q k) (L.map (toE fun x:Int=>Value.int q x)) i=some (findE k L i):=by
   intro L
   induction L with
   | nil=>intro i;rfl
   | cons e L ih=>
     intro i
     simp only[List.map_cons,Instr.findNow,toE,Instr.sameNow,if_true]
     unfold findE
     by_cases h:k=e.key
     ·simp[h]
     ·simp only[h,if_false,beq_eq_false_iff_ne.2 h]
      exact ih (i+1)
  exact key L 0
theorem run_len_at {K:Type} {P:Program} {enc:K→Value} {T kt et:TypeId} (hT:P.underlying T=some (.map kt et)) (W:World) (b:Nat) (L:List (Ent K)) (c:Nat) (ty:TypeId)
  (hb:W.heap[b]? =some (entsObj enc L c)):(Builtin.len_ #[T] ty #[.map (some b)]).run P W= .ok (.int .i64 (L.length:Int)) W:=by
 unfold entsObj at hb
 simp[Builtin.len_,run_underlying hT,MapKept.run_getObj_map hb,goInt,Result.andThen]
theorem u64_ok:KeyOk (fun x:Int=>Value.int .u64 x) Tryz.prog 168:=KeyOk.of_int Tryz.underlying168
def flies (lane fr to:Int) (row:List Int):Bool:=
 (decF row).2 == 0 && ((decF row).1.kind == 1 && ((decF row).1.lane == lane && (decide (fr≤widen fr (decF row).1.seq) && decide (widen fr (decF row).1.seq < to))))
def seenStep (lane fr to:Int) (S:List Int) (row:List Int):List Int:=
 if flies lane fr to row=true then(if widen fr (decF row).1.seq∈S then S else S ++ [widen fr (decF row).1.seq])else S
def seenL (lane fr to:Int) (rows:List (List Int)):List Int:=rows.foldl (seenStep lane fr to) []
theorem seenL_snoc (lane fr to:Int) (rows:List (List Int)) (r:List Int):seenL lane fr to (rows ++ [r])=seenStep lane fr to (seenL lane fr to rows) r:=by
 unfold seenL;rw[List.foldl_append];rfl
theorem seenStep_le (lane fr to:Int) (S:List Int) (r:List Int):(seenStep lane fr to S r).length≤S.length+1:=by
 unfold seenStep
 split
 ·split
  ·omega
  ·simp
 ·omega
theorem seenL_le (lane fr to:Int) (rows:List (List Int)):(seenL lane fr to rows).length≤rows.length:=by
 unfold seenL
 have key:∀(rows:List (List Int)) (S:List Int),(rows.foldl (seenStep lane fr to) S).length≤S.length+rows.length:=by
  intro rows
  induction rows with
  | nil=>intro S;simp
  | cons r rows ih=>
    intro S
    have h1:=ih (seenStep lane fr to S r)
    have h2:=seenStep_le lane fr to S r
    simp only[List.foldl_cons,List.length_cons]
    omega
 have:=key rows []
 simpa using this
structure Seen (w:World) (b:Nat) (S:List Int):Prop where
 map:∃L c,w.heap[b]? =some (entsObj (fun x:Int=>Value.int .u64 x) L c)∧L.map (·.key)=S
 nodup:S.Nodup
theorem Seen.keeps {w w':World} {b:Nat} {S:List Int} {F:Nat→Prop} (h:Seen w b S) (hk:Keeps F w w') (hF:¬F b):Seen w' b S:=by
 obtain⟨⟨L,c,h1,h2⟩,h3⟩:=h
 exact⟨⟨L,c,blk_keeps hk h1 hF,h2⟩,h3⟩
theorem Seen.put {w:World} {b:Nat} {S:List Int} (h:Seen w b S) (n:Int) (v:Value):
  ∃o,(Instr.mapUpdate 265 (.map (some b)) (.int .u64 n) v).run Tryz.prog w= .ok () (w.putObj b o)∧Seen (w.putObj b o) b (if n∈S then S else S ++ [n]):=by
 obtain⟨⟨L,c,h1,rfl⟩,hd⟩:=h
 have hu:=run_update_at u64_ok Tryz.underlying265 w b L c n v hd h1
 have hlt:b < w.heap.size:=(Array.getElem?_eq_some_iff.1 h1).1
 have hput:∀o:Obj,(w.putObj b o).heap[b]? =some o:=fun o=>by simp[World.putObj,hlt]
 cases he:findE n L 0 with
 | none=>
   rw[he]at hu
   have hno:=findE_none he
   have hn:n ∉ L.map (·.key):=fun hm=>by
    obtain⟨e,h1,h2⟩:=List.mem_map.1 hm
    exact hno e h1 h2
   refine⟨_,hu, ?_⟩
   rw[if_neg hn]
   refine⟨⟨_,_,hput _,by simp⟩, ?_⟩
   rw[List.nodup_append]
   refine⟨hd,by simp,fun x hx y hy=> ?_⟩
   simp only[List.mem_singleton]at hy
   subst hy
   exact fun e=>hn (e▸hx)
 | some p=>
   rw[he]at hu
   obtain⟨i,v0⟩:=p
   obtain⟨_,e,h2,h3,_⟩:=findE_some he
   have hn:n∈L.map (·.key):=List.mem_map.2 ⟨e,List.mem_of_getElem? h2,h3⟩
   refine⟨_,hu, ?_⟩
   rw[if_pos hn]
   refine⟨⟨_,_,hput _, ?_⟩,hd⟩
   unfold atKey
   rw[List.map_map]
   refine List.map_congr_left fun e' _=> ?_
   simp only[Function.comp]
   split <;>rfl
theorem Seen.len {w:World} {b:Nat} {S:List Int} (h:Seen w b S) (ty:TypeId):(Builtin.len_ #[265] ty #[.map (some b)]).run Tryz.prog w= .ok (.int .i64 (S.length:Int)) w:=by
 obtain⟨⟨L,c,h1,rfl⟩,hd⟩:=h
 rw[run_len_at Tryz.underlying265 w b L c ty h1,List.length_map]
set_option maxRecDepth 100000 in
set_option maxHeartbeats 16000000 in
theorem flying_runs (lane fr to:Int) (w:World) (B:Nat) (A:Option Addr) (cap:Nat) (us:List Value) (rows:List (List Int)) (h:Rows w B (.slice A rows.length cap) us rows) (hb:∀l∈rows,Bytes l) (hl:rows.length≤64):
  Calls Tryz.prog 113 #[.slice A rows.length cap, .int .i64 lane, .int .u64 fr, .int .u64 to] w fun e w'=>e= .returned (.int .i64 ((seenL lane fr to rows).length:Int))∧Keeps (fun _=>False) w w':=by
 have hmm:= @run_makeMap Tryz.prog
 have hk0:Keeps (fun _=>False) w (w.alloc (.map #[] 0)):=Keeps.alloc _ _ _
 have hs0:Seen (w.alloc (.map #[] 0)) w.heap.size []:=⟨⟨[],0,blk_new w (.map #[] 0),rfl⟩,List.nodup_nil⟩
 have H:=Lib.hid h
 have HB:=Lib.hid hb
 obtain⟨n,hn⟩:∃n,rows.length=n:=⟨_,rfl⟩
 have HN:=Lib.hid hn
 rw[hn]at hl ⊢
 have hlen:=h.len
 have hmx:n≤9223372036854775807:=by omega
 have HK0:=Lib.hid hk0
 have HS0:=Lib.hid hs0
 clear h hb hn hk0 hs0 hlen
 go_enter Tryz.func113,Tryz.ntmps113
 go_wp2_with fail
 generalize w.alloc (.map #[] 0)=X at*
 obtain⟨mb,hmb⟩:∃mb,w.heap.size=mb:=⟨_,rfl⟩
 have HMB:=Lib.hid hmb
 rw[hmb]at HS0 ⊢
 clear hmb hmm
 go_loopw [18] (fun c wr=>∃j:Nat,j≤n∧c= .int .i64 (j:Int)∧Keeps (fun k=>k=mb) X wr∧Seen wr mb (seenL lane fr to (rows.take j))) (fun c _=>n - (intOf c).toNat)
 case atStart=>exact⟨0,Nat.zero_le _,rfl,Keeps.refl _ _,HS0.out⟩
 case round=>
  clear HS0
  obtain⟨j,hj,rfl,hk,hS⟩:=hrel
  by_cases hlt:j < n
  ·have hlt':(j:Int) < (n:Int):=by omega
   have hj0:(0:Int)≤(j:Int):=by omega
   have hkw:Keeps (fun _=>False) w wr:=HK0.out.then hk (fun i hi e=>by have:=HMB.out;omega)
   have hR:=H.out.keeps hkw (fun _ _ h=>h)
   have hjr:j < rows.length:=by have:=HN.out;omega
   have hul:=hR.len
   obtain⟨l,hlj⟩:∃l,rows[j]? =some l:=⟨_,List.getElem?_eq_getElem hjr⟩
   obtain⟨u,huj⟩:∃u,us[j]? =some u:=⟨_,List.getElem?_eq_getElem (by omega)⟩
   have hq:=hR.each j u l huj hlj
   obtain⟨uA,uc,hu,_,_⟩:=hq.shape
   subst hu
   obtain⟨gp,op,cp,e1,_,hcc,_⟩:=hR.row.cell (by omega)
   injection e1 with ea eb ec
   clear eb
   subst ea ec
   have hcj:=hcc _ _ huj
   have htk:rows.take (j+1)=rows.take j ++ [l]:=by rw[List.take_add_one,hlj];rfl
   have hsn:seenL lane fr to (rows.take (j+1))=seenStep lane fr to (seenL lane fr to (rows.take j)) l:=by rw[htk,seenL_snoc]
   have HSN:=Lib.hid hsn
   have HDC:=Lib.hid (decode_runs _ l wr hq.byt)
   have hby:=HB.out l (List.mem_of_getElem? hlj)
   have HKW:=Lib.hid hk
   have HS:=Lib.hid hS
   generalize seenL lane fr to (rows.take j)=S at*
   obtain⟨R,hR2⟩:∃R,seenStep lane fr to S l=R:=⟨_,rfl⟩
   rw[hR2]at HSN
   unfold seenStep flies at hR2
   obtain⟨D,hD⟩:∃D,decF l=D:=⟨_,rfl⟩
   have hok:D.2=0→_:=fun e=>decF_ok hby (by rw[hD];exact e)
   rw[hD]at HDC hR2 hok
   obtain⟨⟨f0,f1,f2,f3,f4,f5⟩,ec⟩:=D
   simp only at HDC hR2 hok
   have HOK:=Lib.hid hok
   have HR2:=Lib.hid hR2
   clear hkw hR hul hlj huj hq hcc htk hsn hby hk hS hok hD hR2 hjr
   go_wp2_with fail
   refine HDC.out.mono ?_
   rintro e V ⟨rfl,hV⟩
   have HKV:=Lib.hid (HKW.out.trans (hV.mono (fun _ _ h=>h.elim)))
   have HSV:=Lib.hid (HS.out.keeps hV (fun h=>h))
   clear hV hcj HDC HKW HS
   have hkA:Keeps (fun _=>False) V (V.alloc (.cells #[.int .u8 f0, .int .u8 f1, .int .u16 f2, .int .u8 f3, .int .u8 f4, .int .u32 f5] 210)):=Keeps.alloc _ _ _
   have hbX:=blk_new V (.cells #[.int .u8 f0, .int .u8 f1, .int .u16 f2, .int .u8 f3, .int .u8 f4, .int .u32 f5] 210)
   have q:=fun j=>blk_cell hbX j
   have z0:=q 0;have z1:=q 1;have z2:=q 2
   simp only[List.getElem?_toArray,List.getElem?_cons_zero,List.getElem?_cons_succ]at z0 z1 z2
   have HKA:=Lib.hid (HKV.out.trans (hkA.mono (fun _ _ h=>h.elim)))
   have HSA:=Lib.hid (HSV.out.keeps hkA (fun h=>h))
   clear q hbX hkA HKV HSV
   by_cases hec:ec=0
   case neg=>
    have hb1:(ec == 0)=false:=by rw[beq_eq_false_iff_ne];exact hec
    have hb2:(ec != 0)=true:=by rw[bne,hb1];rfl
    have e1:S=R:=by have:=HR2.out;rw[hb1]at this;exact this
    subst e1
    go_wp2_with fail
    go_roundw
    case rel=>exact⟨j+1,by omega,by go_num,HKA.out,by rw[HSN.out];exact HSA.out⟩
    case measure=>simp[intOf];omega
   case pos=>
    subst hec
    obtain⟨hso,hr0,hr1,hr3,hr4⟩:=HOK.out rfl
    clear hso hr3 hr4 HOK
    by_cases h0:f0=1
    case neg=>
     have hb1:(f0 == 1)=false:=by rw[beq_eq_false_iff_ne];exact h0
     have hb2:(f0 != 1)=true:=by rw[bne,hb1];rfl
     have e1:S=R:=by have:=HR2.out;rw[hb1]at this;exact this
     subst e1
     go_wp2_with fail
     go_roundw
     case rel=>exact⟨j+1,by omega,by go_num,HKA.out,by rw[HSN.out];exact HSA.out⟩
     case measure=>simp[intOf];omega
    case pos=>
     subst h0
     by_cases h1:f1=lane
     case neg=>
      have hb1:(f1 == lane)=false:=by rw[beq_eq_false_iff_ne];exact h1
      have hb2:(f1 != lane)=true:=by rw[bne,hb1];rfl
      have e1:S=R:=by have:=HR2.out;rw[hb1]at this;exact this
      subst e1
      go_wp2_with fail
      go_roundw
      case rel=>exact⟨j+1,by omega,by go_num,HKA.out,by rw[HSN.out];exact HSA.out⟩
      case measure=>simp[intOf];omega
     case pos=>
      subst h1
      have hb1:(f1 == f1)=true:=beq_self_eq_true _
      have hb2:(f1 != f1)=false:=by rw[bne,hb1];rfl
      have hrr:=HR2.out
      rw[hb1]at hrr
      simp only[beq_self_eq_true,Bool.true_and]at hrr
      have HR3:=Lib.hid hrr
      clear hrr HR2
      have HWD:=Lib.hid (p:=∀U,_) fun U=>widen_runs fr f2 U
      obtain⟨n2,hn2⟩:∃n2,widen fr f2=n2:=⟨_,rfl⟩
      rw[hn2]at HWD HR3
      clear hn2
      go_wp2_with fail
      refine(HWD.out _).mono ?_
      rintro e Z ⟨rfl,rfl⟩
      generalize V.alloc (.cells #[.int .u8 1, .int .u8 f1, .int .u16 f2, .int .u8 f3, .int .u8 f4, .int .u32 f5] 210)=Z at*
      generalize V.heap.size=fb at*
      clear z0 z1 z2 HWD
      by_cases h3:fr≤n2
      case neg=>
       have hd:decide (fr≤n2)=false:=decide_eq_false h3
       have e1:S=R:=by have:=HR3.out;rw[hd]at this;exact this
       subst e1
       have h3':n2 < fr:=by omega
       go_wp2_with fail
       go_roundw
       case rel=>exact⟨j+1,by omega,by go_num,HKA.out,by rw[HSN.out];exact HSA.out⟩
       case measure=>simp[intOf];omega
      case pos=>
       have hd:decide (fr≤n2)=true:=decide_eq_true h3
       by_cases h4:n2 < to
       case neg=>
        have hd4:decide (n2 < to)=false:=decide_eq_false h4
        have e1:S=R:=by have:=HR3.out;rw[hd,hd4]at this;exact this
        subst e1
        go_wp2_with fail
        go_roundw
        case rel=>exact⟨j+1,by omega,by go_num,HKA.out,by rw[HSN.out];exact HSA.out⟩
        case measure=>simp[intOf];omega
       case pos=>
        have hd4:decide (n2 < to)=true:=decide_eq_true h4
        have e1:(if n2∈S then S else S ++ [n2])=R:=by have:=HR3.out;rw[hd,hd4]at this;exact this
        obtain⟨ob,hrun,hS2⟩:=HSA.out.put n2 (.int .i64 (j:Int))
        rw[e1]at hS2
        have HS2:=Lib.hid hS2
        have HKP:=Lib.hid (HKA.out.trans (Keeps.putObj _ Z mb ob rfl))
        clear e1 hS2
        go_wp2_with fail
        go_roundw
        case rel=>exact⟨j+1,by omega,by go_num,HKP.out,by rw[HSN.out];exact HS2.out⟩
        case measure=>simp[intOf];omega
  ·obtain rfl:j=n:=by omega
   have hji:¬((j:Int) < (j:Int)):=by omega
   have hlen:=hS.len
   rw[List.take_of_length_le (by have:=HN.out;omega)]at hlen
   have hkw:Keeps (fun _=>False) w wr:=HK0.out.then hk (fun i hi e=>by have:=HMB.out;omega)
   have HKW:=Lib.hid hkw
   clear hS hk hkw
   go_wp2_with fail
   go_ret
   exact⟨rfl,HKW.out⟩
end Go.Proofs.YtebnflpanfmicaaGreatDoor
