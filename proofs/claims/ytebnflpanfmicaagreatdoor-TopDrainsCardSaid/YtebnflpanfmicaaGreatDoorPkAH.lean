/-
  Part 8 of the proof: TopTake, TopMap, TopWay, TopRing, TreePure.
-/
import Derived.Test.YtebnflpanfmicaaGreatDoorPkAG
import Derived.Test.YtebnflpanfmicaaGreatDoorPkAA
import Derived.RangeFuncRecord
import Derived.MapKept
import Derived.Laws.StructEq
import Derived.Test.YtebnflpanfmicaaGreatDoorPkAF
import Derived.Test.YtebnflpanfmicaaGreatDoorPkAC
import Derived.Test.YtebnflpanfmicaaGreatDoorPkAD
import Derived.KernelRfl
set_option linter.unusedVariables false
set_option linter.unusedSimpArgs false
set_option linter.unusedSectionVars false
namespace Go.Proofs.YtebnflpanfmicaaGreatDoor
open Go.RowKit
theorem more_lt' {w:World} {S:Nat→Prop} (hlt:∀k,S k→k < w.heap.size):∀k,more S w w k→k < w.heap.size:=fun k hk=>by
 rcases hk with hk | hk
 ·exact hlt k hk
 ·exact hk.2
theorem erase_mem {α:Type} {l:List α} {i j:Nat} {x:α} (h:(l.eraseIdx i)[j]? =some x):∃j',l[j']? =some x∧(j < i→j'=j)∧(¬j < i→j'=j+1):=by
 rw[erase_at]at h
 split at h
 ·rename_i hj;exact⟨j,h,fun _=>rfl,fun h'=>absurd hj h'⟩
 ·rename_i hj;exact⟨j+1,h,fun h'=>absurd h' hj,fun _=>rfl⟩
theorem LinkR.erase {w W:World} {S:Nat→Prop} {b:Nat} {room:Int} {v v':Value} {vs:List Value} {rows:List (List Int)} (h:LinkR w S b room v vs rows) (k:Nat) (hk:Keeps (fun g=>v.ownBlock=some g) w W)
  (hq:QS W 22 1 v' (rows.eraseIdx k).length (vs.eraseIdx k)) (ho:v'.ownBlock=v.ownBlock):
  LinkR (W.setCell ⟨b,0,none⟩ v') S b room v' (vs.eraseIdx k) (rows.eraseIdx k)∧Keeps S w (W.setCell ⟨b,0,none⟩ v'):=by
 have kset:Keeps (fun g=>g=b) W (W.setCell ⟨b,0,none⟩ v'):=Keeps.setCell _ _ _ _ rfl
 have hv':∀g,v'.ownBlock=some g→S g∧g≠b:=fun g hg=>h.vown g (ho▸hg)
 have hsz:(W.setCell ⟨b,0,none⟩ v').heap.size=W.heap.size:=by simp[World.setCell]
 refine⟨⟨?_,hq.keeps kset (fun g hg e=>(hv' g hg).2 e),fun i u l h1 h2=> ?_,fun i j u u' h1 h2 hne=> ?_,fun u hu g hg=> ?_,hv',h.sb,fun g hg=>by rw[hsz];exact Nat.lt_of_lt_of_le (h.lt g hg) hk.size,Nat.le_trans (List.length_eraseIdx_le ..) h.most,fun l hl=>h.short l (List.mem_of_mem_eraseIdx hl)⟩, ?_⟩
 ·rw[blk_set (blk_keeps hk h.box (fun e=>(h.vown b e).2 rfl)) 0 v']
  rfl
 ·obtain⟨i1,g1,g2,g3⟩:=erase_mem h1
  obtain⟨i2,f1,f2,f3⟩:=erase_mem h2
  have e:i2=i1:=by
   by_cases hi:i < k
   ·rw[g2 hi,f2 hi]
   ·rw[g3 hi,f3 hi]
  subst e
  exact((h.each _ u l g1 f1).keeps hk (fun g hg e=>(h.own u (List.mem_of_getElem? g1) g hg).2.2 e)).keeps kset (fun g hg e=>(h.own u (List.mem_of_getElem? g1) g hg).2.1 e)
 ·obtain⟨i1,g1,g2,g3⟩:=erase_mem h1
  obtain⟨i2,f1,f2,f3⟩:=erase_mem h2
  refine h.apart i1 i2 u u' g1 f1 ?_
  by_cases hi:i < k
  ·by_cases hj:j < k
   ·rw[g2 hi,f2 hj];exact hne
   ·rw[g2 hi,f3 hj];omega
  ·by_cases hj:j < k
   ·rw[g3 hi,f2 hj];omega
   ·rw[g3 hi,f3 hj];omega
 ·obtain⟨h1,h2,h3⟩:=h.own u (List.mem_of_mem_eraseIdx hu) g hg
  exact⟨h1,h2,by rw[ho];exact h3⟩
 ·exact(hk.mono (fun g _ hg=>(h.vown g hg).1)).trans (Keeps.setCell _ _ _ _ h.sb)
set_option maxHeartbeats 4000000 in
theorem take_no (b:Nat) (room:Int) (v:Value) (vs:List Value) (rows:List (List Int)) (S:Nat→Prop) (w:World) (h:LinkR w S b room v vs rows) (i:Int) (hi:inRow rows i=false) (hr:rowAt vs i= .slice none 0 0):
  Calls Tryz.prog 29 #[.pointer (some ⟨b,0,none⟩), .int .i64 i] w fun e w'=>e= .returned (.tuple #[.slice none 0 0, .bool false])∧w=w':=by
 have HA:=Lib.hid (lat_runs b room v vs rows S w h i)
 rw[hi,hr]at HA
 clear h hi hr
 go_enter Tryz.func29,Tryz.ntmps29
 go_wp2_with fail
 refine HA.out.mono ?_
 rintro e w' ⟨rfl,hw⟩
 subst hw
 go_wp2_with fail
 go_ret2
 exact⟨rfl,rfl⟩
set_option maxHeartbeats 4000000 in
theorem take_yes (b:Nat) (room:Int) (v:Value) (vs:List Value) (rows:List (List Int)) (S:Nat→Prop) (w:World) (h:LinkR w S b room v vs rows) (k:Nat) (hk:k < rows.length):
  Calls Tryz.prog 29 #[.pointer (some ⟨b,0,none⟩), .int .i64 k] w fun e w'=>e= .returned (.tuple #[rowAt vs k, .bool true])∧Keeps S w w'∧Keeps (fun i=>i=b∨v.ownBlock=some i) w w'∧∃v',LinkR w' S b room v' (vs.eraseIdx k) (rows.eraseIdx k):=by
 have HA:=Lib.hid (lat_runs b room v vs rows S w h k)
 have e2:inRow rows (k:Int)=true:=decide_eq_true (by omega)
 rw[e2]at HA
 obtain⟨c0,c1⟩:=h.cells
 have hl:=h.len
 have hkv:vs[k]? =some vs[k]:=List.getElem?_eq_getElem (by omega)
 have e1:rowAt vs (k:Int)=vs[k]:=by
  unfold rowAt
  rw[if_neg (by omega),Int.toNat_natCast,hkv];rfl
 obtain⟨A',cap',hv',_,_⟩:=(h.each k vs[k] rows[k] hkv (List.getElem?_eq_getElem hk)).shape
 rw[e1,hv']at HA ⊢
 obtain⟨g,off,cp,hvv,_,_,fz⟩:=h.row.cell (by omega)
 obtain⟨p,hp⟩:∃p,rows.length=p+1:=⟨rows.length - 1,by omega⟩
 have hone:∀u∈vs,u.oneCell'=true:=fun u hu=>by
  obtain⟨i,hi,e⟩:=List.mem_iff_getElem.1 hu
  obtain⟨A,c,e3,_⟩:=(h.each i u (rows[i]'(by omega)) (by rw[←e];exact List.getElem?_eq_getElem hi) (List.getElem?_eq_getElem (by omega))).shape
  rw[e3];rfl
 have hm:=h.most
 have hrow:=h.row
 rw[hvv,hp]at hrow
 rw[hvv,hp]at c0
 have HD:=Lib.hid (del_low g off p cp k vs w hrow (by omega) (by omega) hone)
 have hgb:g≠b:=(h.vown g (by rw[hvv];rfl)).2
 have hbf:=blk_frozen h.box 0
 have H:=Lib.hid h
 have HB:=Lib.hid (p:=∀U,Keeps (fun i=>i=g) w U→U.cell? ⟨b,0,none⟩=some (.slice (some ⟨g,off,none⟩) (p+1) cp)∧U.frozen? ⟨b,0,none⟩=false) fun U hU=>⟨hU.cell c0 (fun e=>hgb e.symm),by rw[hU.frozen c0 (fun e=>hgb e.symm)];exact hbf⟩
 have HP:=Lib.hid hp
 have HVV:=Lib.hid hvv
 have hk2:(k:Int)+1≤100:=by omega
 clear h hl hkv hrow hone fz hp hvv hbf e1 e2 hv'
 go_enter Tryz.func29,Tryz.ntmps29
 go_wp2_with fail
 refine HA.out.mono ?_
 rintro e w' ⟨rfl,hw⟩
 subst hw
 go_wp2_with fail
 refine HD.out.mono ?_
 rintro e U ⟨rfl,hq,hkU⟩
 obtain⟨d0,d1⟩:=HB.out U hkU
 have HQ:=Lib.hid hq
 clear hq
 go_wp2_with fail
 go_ret2
 have hvv:=HVV.out
 have hp:=HP.out
 have hlen:(rows.eraseIdx k).length=p:=by rw[List.length_eraseIdx,if_pos hk];omega
 have r:=H.out.erase k (W:=U) (v':= .slice (some ⟨g,off,none⟩) p cp) (hkU.mono (fun i _ e=>by rw[hvv,e];rfl)) (by rw[hlen];exact HQ.out) (by rw[hvv];rfl)
 exact⟨rfl,r.2,(hkU.mono (fun i _ e=> .inr (by rw[hvv,e];rfl))).trans (Keeps.setCell _ _ _ _ (.inl rfl)),_,r.1⟩
def takeL (rows:List (List Int)) (i:Int):List (List Int):=if 0≤i∧i < rows.length then rows.eraseIdx i.toNat else rows
def rowOf (rows:List (List Int)) (i:Int):List Int:=if 0≤i then rows.getD i.toNat []else []
theorem take_runs (b:Nat) (room:Int) (rows:List (List Int)) (S:Nat→Prop) (w:World) (h:LinkV w S b room rows) (i:Int):
  Calls Tryz.prog 29 #[.pointer (some ⟨b,0,none⟩), .int .i64 i] w fun e w'=>∃u,e= .returned (.tuple #[u, .bool (inRow rows i)])∧BQ w' u (if inRow rows i then rowOf rows i else [])∧(∀g,u.ownBlock=some g→S g)∧Keeps S w w'∧LinkV w' S b room (takeL rows i):=by
 obtain⟨v,vs,h⟩:=h
 have hl:=h.len
 by_cases hi:0≤i∧i < rows.length
 ·obtain⟨k,rfl⟩:=Int.eq_ofNat_of_zero_le hi.1
  have hk:k < rows.length:=by omega
  have e:inRow rows (k:Int)=true:=decide_eq_true hi
  have e2:takeL rows (k:Int)=rows.eraseIdx k:=by unfold takeL;rw[if_pos hi,Int.toNat_natCast]
  have hkv:vs[k]? =some vs[k]:=List.getElem?_eq_getElem (by omega)
  have e1:rowAt vs (k:Int)=vs[k]:=by
   unfold rowAt
   rw[if_neg (by omega),Int.toNat_natCast,hkv];rfl
  have e3:rowOf rows (k:Int)=rows[k]:=by
   unfold rowOf
   rw[if_pos hi.1,Int.toNat_natCast,List.getD_eq_getElem?_getD,List.getElem?_eq_getElem hk];rfl
  rw[e,e2,e3,if_pos rfl]
  refine(take_yes b room v vs rows S w h k hk).mono ?_
  rintro e w' ⟨rfl,hK,hK2,v',hR⟩
  refine⟨vs[k],by rw[e1], ?_,fun g hg=>(h.own _ (List.getElem_mem _) g hg).1,hK,v',_,hR⟩
  refine(h.each k _ _ hkv (List.getElem?_eq_getElem hk)).keeps hK2 (fun g hg e=> ?_)
  obtain⟨_,g2,g3⟩:=h.own _ (List.getElem_mem _) g hg
  rcases e with e | e
  ·exact g2 e
  ·exact g3 e
 ·have e:inRow rows i=false:=decide_eq_false hi
  have e2:takeL rows i=rows:=if_neg hi
  have e1:rowAt vs i= .slice none 0 0:=by
   unfold rowAt
   split
   ·rfl
   ·rw[List.getElem?_eq_none (by omega)];rfl
  rw[e,e2,if_neg (by decide)]
  refine(take_no b room v vs rows S w h i e e1).mono ?_
  rintro e w' ⟨rfl,hw⟩
  subst hw
  exact⟨_,rfl,QS.nil _ _ _,fun g hg=>(by cases hg),Keeps.refl _ _,v,vs,h⟩
def twiceL (room:Int) (rows:List (List Int)) (i:Int):List (List Int):=if inRow rows i then sendL room rows (rowOf rows i)else rows
set_option maxHeartbeats 4000000 in
theorem twice_runs (b:Nat) (room:Int) (rows:List (List Int)) (S:Nat→Prop) (w:World) (h:LinkV w S b room rows) (hr:room≤64) (hrow:(rows.length:Int)≤room) (i:Int):
  Calls Tryz.prog 30 #[.pointer (some ⟨b,0,none⟩), .int .i64 i] w fun e w'=>(∃r,e= .returned (.bool r))∧Keeps S w w'∧LinkV w' (more S w w') b room (twiceL room rows i):=by
 obtain⟨v,vs,h⟩:=h
 have HA:=Lib.hid (lat_runs b room v vs rows S w h i)
 unfold twiceL
 cases hi:inRow rows i with
 | false=>
   rw[hi]at HA
   rw[if_neg (by decide)]
   have H:=Lib.hid h
   clear h hi hrow hr
   go_enter Tryz.func30,Tryz.ntmps30
   go_wp2_with fail
   refine HA.out.mono ?_
   rintro e w' ⟨rfl,hw⟩
   subst hw
   go_wp2_with fail
   go_ret
   exact⟨⟨_,rfl⟩,Keeps.refl _ _,v,vs,H.out.wider (fun _ h=> .inl h) (more_lt' H.out.lt)⟩
 | true=>
   rw[if_pos rfl]
   obtain⟨h0,h1⟩:0≤i∧i < rows.length:=of_decide_eq_true hi
   obtain⟨k,rfl⟩:=Int.eq_ofNat_of_zero_le h0
   have hk:k < rows.length:=by omega
   have hl:=h.len
   have hkv:vs[k]? =some vs[k]:=List.getElem?_eq_getElem (by omega)
   have e1:rowAt vs (k:Int)=vs[k]:=by
    unfold rowAt
    rw[if_neg (by omega),Int.toNat_natCast,hkv];rfl
   have e3:rowOf rows (k:Int)=rows[k]:=by
    unfold rowOf
    rw[if_pos h0,Int.toNat_natCast,List.getD_eq_getElem?_getD,List.getElem?_eq_getElem hk];rfl
   rw[hi,e1]at HA
   rw[e3]
   have HS:=Lib.hid (send_runs b room rows vs[k] rows[k] S w ⟨v,vs,h⟩ hr hrow (h.each k _ _ hkv (List.getElem?_eq_getElem hk)) (h.short _ (List.getElem_mem _)))
   obtain⟨A',cap',hv',_,_⟩:=(h.each k vs[k] rows[k] hkv (List.getElem?_eq_getElem hk)).shape
   rw[hv']at HA HS
   clear h hi hrow hr e1 e3 hkv hv' h0 h1
   go_enter Tryz.func30,Tryz.ntmps30
   go_wp2_with fail
   refine HA.out.mono ?_
   rintro e w' ⟨rfl,hw⟩
   subst hw
   go_wp2_with fail
   refine HS.out.mono ?_
   rintro e w' ⟨rfl,hK,hL⟩
   generalize decide ((rows.length:Int)≠room)=r
   go_wp2_with fail
   go_ret
   exact⟨⟨_,rfl⟩,hK,hL⟩
end Go.Proofs.YtebnflpanfmicaaGreatDoor
namespace Go.Proofs.YtebnflpanfmicaaGreatDoor
open Go.RowKit
theorem nodup_inj {α:Type} {l:List α} (hd:l.Nodup) {i j:Nat} (hi:i < l.length) (hj:j < l.length) (h:l[i]=l[j]):i=j:=by
 rcases Nat.lt_trichotomy i j with h1 | h1 | h1
 ·exact absurd h (List.pairwise_iff_getElem.1 hd i j hi hj h1)
 ·exact h1
 ·exact absurd h.symm (List.pairwise_iff_getElem.1 hd j i hj hi h1)
structure Ent (K:Type)where
 key:K
 val:Value
 born:Nat
section
variable {K:Type} [DecidableEq K] (enc:K→Value)
def toE (e:Ent K):MapEntry:=⟨enc e.key,e.val,e.born⟩
def findE (k:K):List (Ent K)→Nat→Option (Nat×Value)
 | [],_=>none
 | e :: es,i=>if k=e.key then some (i,e.val)else findE k es (i+1)
def entsObj (L:List (Ent K)) (clock:Nat):Obj:= .map (L.map (toE enc)).toArray clock
structure KeyOk (P:Program) (kt:TypeId):Prop where
 find:∀(w:World) (k:K) (L:List (Ent K)),(Instr.findKey kt (enc k) (L.map (toE enc))).run P w= .ok (findE k L 0) w
 check:∀(w:World) (em:Bool) (k:K),(Instr.checkKey em 10000 kt (enc k)).run P w= .ok () w
 stays:∀(w:World) (k:K),(Instr.keyThatStays (enc k) (enc k)).run P w= .ok (enc k) w
variable {enc}
theorem findE_some {k:K}:∀{L:List (Ent K)} {i j:Nat} {v:Value},findE k L i=some (j,v)→i≤j∧∃e,L[j - i]? =some e∧e.key=k∧e.val=v
 | [],_,_,_,h=>by cases h
 | e :: es,i,j,v,h=>by
   unfold findE at h
   split at h
   ·rename_i hk
    cases h
    exact⟨Nat.le_refl _,e,by simp,hk.symm,rfl⟩
   ·obtain⟨h1,e',h2,h3,h4⟩:=findE_some h
    refine⟨by omega,e', ?_,h3,h4⟩
    rw[show j - i=(j - (i+1))+1 by omega];exact h2
theorem findE_none {k:K}:∀{L:List (Ent K)} {i:Nat},findE k L i=none→∀e∈L,e.key≠k
 | [],_,_,e,he=>by cases he
 | e :: es,i,h,e',he=>by
   unfold findE at h
   split at h
   ·cases h
   ·rename_i hk
    rcases List.mem_cons.1 he with rfl | he
    ·exact fun e=>hk e.symm
    ·exact findE_none h e' he
variable {P:Program} {kt:TypeId}
theorem run_lookup_at (H:KeyOk enc P kt) {T et:TypeId} (hT:P.underlying T=some (.map kt et)) {z:Value} (hz:∀w,(zeroValue et).run P w= .ok z w) (W:World) (b:Nat) (L:List (Ent K)) (c:Nat) (k:K)
  (hb:W.heap[b]? =some (entsObj enc L c)):(Instr.lookup T (.map (some b)) (enc k) false).run P W= .ok (((findE k L 0).map (·.2)).getD z) W:=by
 unfold entsObj at hb
 unfold Instr.lookup
 simp only[Sem.run_bind,run_underlying hT,Result.andThen_ok,MapKept.run_getObj_map hb,Sem.run_pure,H.check,H.find]
 cases h:findE k L 0 with
 | none=>simp[hz,h]
 | some p=>simp[h]
theorem run_entry_at (H:KeyOk enc P kt) {T et:TypeId} (hT:P.underlying T=some (.map kt et)) {z:Value} (hz:∀w,(zeroValue et).run P w= .ok z w) (W:World) (b:Nat) (L:List (Ent K)) (c:Nat) (k:K)
  (hb:W.heap[b]? =some (entsObj enc L c)):
  (Instr.mapEntry T (.map (some b)) (enc k)).run P W=match findE k L 0 with
   | some (i,v)=> .ok (.tuple #[v,goInt ((L[i]?.map (·.born)).getD 0)]) (W.putObj b (entsObj enc L c))
   | none=> .ok (.tuple #[z,goInt c]) (W.putObj b (entsObj enc (L ++ [⟨k,z,c⟩]) (c+1))):=by
 unfold entsObj at hb
 unfold Instr.mapEntry
 simp only[Sem.run_bind,run_underlying hT,Result.andThen_ok,MapKept.run_getObj_map hb,Sem.run_pure,H.check,H.find]
 cases h:findE k L 0 with
 | none=>
   simp only[hz,Sem.run_bind,Result.andThen_ok,MapKept.run_setObj_map _ hb,Sem.run_pure]
   simp only[entsObj,World.putObj,toE,List.map_append,List.map_cons,List.map_nil,List.push_toArray]
 | some p=>
   obtain⟨i,v⟩:=p
   obtain⟨_,e,h1,h2,h3⟩:=findE_some h
   rw[Nat.sub_zero]at h1
   have h4:(L.map (toE enc)).toArray[i]? =some (toE enc e):=by simp[h1]
   simp only[h4,h1,Option.map_some,Option.getD_some,Sem.run_bind,Result.andThen_ok]
   have h5:(toE enc e).key=enc k:=by rw[←h2];rfl
   rw[h5]
   simp only[H.stays,Result.andThen_ok,MapKept.run_setObj_map _ hb,Sem.run_pure]
   have h6:(L.map (toE enc)).toArray.modify i (fun e=>{e with key:=enc k})=(L.map (toE enc)).toArray:=by
    apply Array.ext_getElem?
    intro j
    rw[Array.getElem?_modify]
    split
    ·rename_i hj
     subst hj
     rw[h4]
     simp only[Option.map_some,Option.some.injEq]
     rw[←h5]
    ·rfl
   rw[h6]
   simp only[World.putObj,entsObj]
   have h7:((L.map (toE enc)).toArray[i]?).map (·.born)=some e.born:=by rw[h4];rfl
   first | rfl | simp[toE]
def atBorn (L:List (Ent K)) (s:Nat) (v:Value):List (Ent K):=L.map fun e=>if e.born=s then{e with val:=v}else e
omit [DecidableEq K]in
theorem run_store_at {T:TypeId} (W:World) (b:Nat) (L:List (Ent K)) (c s:Nat) (v:Value) (hd:(L.map (·.born)).Nodup) (hs:∃e∈L,e.born=s)
  (hb:W.heap[b]? =some (entsObj enc L c)):(Instr.entryStore T (.map (some b)) (.int .i64 (s:Int)) v).run P W= .ok () (W.putObj b (entsObj enc (atBorn L s v) c)):=by
 unfold entsObj at hb
 unfold Instr.entryStore
 have hf:∃i e,L[i]? =some e∧e.born=s∧(L.map (toE enc)).toArray.findIdx? (fun e=>(e.born:Int) == (s:Int))=some i:=by
  clear hb hd
  obtain⟨e0,he0,hs0⟩:=hs
  have:∃i,(L.map (toE enc)).toArray.findIdx? (fun e=>(e.born:Int) == (s:Int))=some i:=by
   rw[←Option.isSome_iff_exists]
   simp only[List.findIdx?_toArray]
   rw[List.findIdx?_isSome]
   simp only[List.any_map,List.any_eq_true,Function.comp,toE]
   exact⟨e0,he0,by simp[hs0]⟩
  obtain⟨i,hi⟩:=this
  simp only[List.findIdx?_toArray]at hi
  have h1:=List.findIdx?_eq_some_iff_getElem.1 hi
  obtain⟨hlt,hp,_⟩:=h1
  simp only[List.length_map]at hlt
  refine⟨i,L[i],List.getElem?_eq_getElem hlt, ?_,by simpa using hi⟩
  have h9:(L[i].born:Int)=(s:Int):=by simpa[toE]using hp
  omega
 obtain⟨i,e,h1,h2,h3⟩:=hf
 simp only[Sem.run_bind,Sem.run_pure,MapKept.run_getObj_map hb,Result.andThen_ok]
 simp only[asInt,asIntOf,Sem.run_bind,Sem.run_pure,Result.andThen_ok,h3,MapKept.run_setObj_map _ hb]
 congr 1
 unfold World.putObj entsObj
 congr 3
 apply Array.ext_getElem?
 intro j
 rw[Array.getElem?_modify]
 unfold atBorn
 simp only[List.getElem?_toArray,List.getElem?_map,Option.map_map]
 by_cases hj:i=j
 ·subst hj
  rw[if_pos rfl,h1]
  simp[toE,h2]
 ·rw[if_neg hj]
  cases hL:L[j]? with
  | none=>rfl
  | some e'=>
    have hne:e'.born≠s:=fun he=>by
     obtain⟨hi',hie⟩:=List.getElem?_eq_some_iff.1 h1
     obtain⟨hj',hje⟩:=List.getElem?_eq_some_iff.1 hL
     exact hj (nodup_inj hd (by simpa using hi') (by simpa using hj') (by simp[hie,hje,h2,he]))
    simp[Function.comp,toE,hne]
def atKey (L:List (Ent K)) (k:K) (v:Value):List (Ent K):=L.map fun e=>if e.key=k then{e with val:=v}else e
theorem run_update_at (H:KeyOk enc P kt) {T et:TypeId} (hT:P.underlying T=some (.map kt et)) (W:World) (b:Nat) (L:List (Ent K)) (c:Nat) (k:K) (v:Value) (hd:(L.map (·.key)).Nodup)
  (hb:W.heap[b]? =some (entsObj enc L c)):
  (Instr.mapUpdate T (.map (some b)) (enc k) v).run P W=match findE k L 0 with
   | some _=> .ok () (W.putObj b (entsObj enc (atKey L k v) c))
   | none=> .ok () (W.putObj b (entsObj enc (L ++ [⟨k,v,c⟩]) (c+1))):=by
 unfold entsObj at hb
 unfold Instr.mapUpdate
 simp only[Sem.run_bind,run_underlying hT,Result.andThen_ok,MapKept.run_getObj_map hb,Sem.run_pure,H.check,H.find]
 cases h:findE k L 0 with
 | none=>
   simp only[MapKept.run_setObj_map _ hb]
   simp only[entsObj,World.putObj,toE,List.map_append,List.map_cons,List.map_nil,List.push_toArray]
 | some p=>
   obtain⟨i,v0⟩:=p
   obtain⟨_,e,h1,h2,h3⟩:=findE_some h
   rw[Nat.sub_zero]at h1
   have h4:(L.map (toE enc)).toArray[i]? =some (toE enc e):=by simp[h1]
   simp only[h4,Option.map_some,Option.getD_some,Sem.run_bind,Result.andThen_ok]
   have h5:(toE enc e).key=enc k:=by rw[←h2];rfl
   rw[h5]
   simp only[H.stays,Result.andThen_ok,MapKept.run_setObj_map _ hb]
   congr 1
   unfold World.putObj entsObj
   congr 3
   apply Array.ext_getElem?
   intro j
   rw[Array.getElem?_modify]
   unfold atKey
   simp only[List.getElem?_toArray,List.getElem?_map,Option.map_map]
   by_cases hj:i=j
   ·subst hj
    rw[if_pos rfl,h1]
    simp[toE,h2]
   ·rw[if_neg hj]
    cases hL:L[j]? with
    | none=>rfl
    | some e'=>
      have hne:e'.key≠k:=fun he=>by
       obtain⟨hi',hie⟩:=List.getElem?_eq_some_iff.1 h1
       obtain⟨hj',hje⟩:=List.getElem?_eq_some_iff.1 hL
       exact hj (nodup_inj hd (by simpa using hi') (by simpa using hj') (by simp[hie,hje,h2,he]))
      simp[Function.comp,toE,hne]
def noKey (L:List (Ent K)) (k:K):List (Ent K):=L.filter fun e=>decide (e.key≠k)
theorem run_delete_at (H:KeyOk enc P kt) {T et tk ty:TypeId} (hT:P.underlying T=some (.map kt et)) (W:World) (b:Nat) (L:List (Ent K)) (c:Nat) (k:K) (hd:(L.map (·.key)).Nodup)
  (hb:W.heap[b]? =some (entsObj enc L c)):
  (Builtin.delete_ #[T,tk] ty #[.map (some b),enc k]).run P W= .ok (.tuple #[]) (W.putObj b (entsObj enc (noKey L k) c)):=by
 unfold entsObj at hb
 unfold Builtin.delete_
 simp only[List.getElem?_toArray,List.getElem?_cons_zero,List.getElem?_cons_succ,Sem.run_bind,run_underlying hT,Result.andThen_ok,MapKept.run_getObj_map hb,Sem.run_pure,H.check,H.find]
 cases h:findE k L 0 with
 | none=>
   simp only[Sem.run_bind,MapKept.run_setObj_map _ hb,Result.andThen_ok,Sem.run_pure]
   have:noKey L k=L:=List.filter_eq_self.2 fun e he=>by simpa using findE_none h e he
   simp only[this,World.putObj,entsObj]
 | some p=>
   obtain⟨i,v0⟩:=p
   obtain⟨_,e,h1,h2,h3⟩:=findE_some h
   rw[Nat.sub_zero]at h1
   simp only[Sem.run_bind,MapKept.run_setObj_map _ hb,Result.andThen_ok,Sem.run_pure]
   have hlt:=(List.getElem?_eq_some_iff.1 h1).1
   have:(L.map (toE enc)).toArray.eraseIdxIfInBounds i=((noKey L k).map (toE enc)).toArray:=by
    rw[Array.eraseIdxIfInBounds,dif_pos (by simpa using hlt)]
    simp only[List.eraseIdx_toArray]
    rw[←ChangeMaps.map_eraseIdx]
    congr 2
    clear hb h h3
    induction L generalizing i with
    | nil=>cases hlt
    | cons x l ih=>
      match i with
      | 0=>
        simp only[List.getElem?_cons_zero,Option.some.injEq]at h1
        subst h1
        rw[List.eraseIdx_cons_zero]
        unfold noKey
        rw[List.filter_cons_of_neg (by simp[h2])]
        refine(List.filter_eq_self.2 fun e he=> ?_).symm
        simp only[List.map_cons,List.nodup_cons,List.mem_map,not_exists,not_and]at hd
        have:=hd.1 e he
        simp only[decide_eq_true_eq]
        rw[←h2];exact this
      | i+1=>
        simp only[List.getElem?_cons_succ]at h1
        rw[List.eraseIdx_cons_succ,ih (List.nodup_cons.1 hd).2 i (Nat.zero_le _) h1 (by simpa using hlt)]
        unfold noKey
        rw[List.filter_cons_of_pos]
        simp only[List.map_cons,List.nodup_cons,List.mem_map,not_exists,not_and]at hd
        simp only[decide_eq_true_eq]
        intro e'
        have hm:=List.mem_of_getElem? h1
        exact hd.1 e hm (by rw[h2,e'])
   simp only[this,World.putObj,entsObj]
theorem KeyOk.of_struct {fs:Array Field} (hu:P.underlying kt=some (.struct fs)) (heq:∀(w:World) (a b:K),(Op.equal kt (enc a) (enc b)).run P w= .ok (decide (a=b)) w)
  (hc:∀(w:World) (em:Bool) (k:K),(Instr.checkKey em 10000 kt (enc k)).run P w= .ok () w) (hs:∀k:K,Instr.sameBits 10000 (enc k) (enc k)=true):KeyOk enc P kt where
 check:=hc
 stays w k:=by simp[Instr.keyThatStays,hs]
 find w k L:=by
  have ask:∀(L:List (Ent K)) (i:Nat),(Instr.findAsking kt (enc k) (L.map (toE enc)) i).run P w= .ok (findE k L i) w:=by
   intro L
   induction L with
   | nil=>intro i;rfl
   | cons e L ih=>
     intro i
     simp only[List.map_cons,Instr.findAsking,Sem.run_bind,toE,heq,Result.andThen_ok]
     unfold findE
     by_cases h:k=e.key
     ·simp[h]
     ·simp only[h,decide_false,Bool.false_eq_true,if_false]
      exact ih (i+1)
  unfold Instr.findKey
  simp only[Sem.run_bind,run_underlying hu,Result.andThen_ok]
  cases L with
  | nil=>rfl
  | cons e L=>
    have:Instr.findNow (.struct fs) (enc k) ((e :: L).map (toE enc)) 0=none:=by simp[Instr.findNow,Instr.sameNow]
    rw[this]
    exact ask (e :: L) 0
theorem Keeps.putM {F:Nat→Prop} (w:World) (b:Nat) (o:Obj) (h:F b):Keeps F w (w.putObj b o):=
 ⟨rfl,rfl,rfl,by simp[World.putObj],fun i _ hn=>World.putObj_heap_other (w:=w) (fun e=>hn (e▸h))⟩
end
end Go.Proofs.YtebnflpanfmicaaGreatDoor
namespace Go.Proofs.YtebnflpanfmicaaGreatDoor
open Go.RowKit
structure Way where
 inp:Int
 out:Int
 lane:Int
 deriving DecidableEq
abbrev Way.val (k:Way):Value:= .agg #[.int .i64 k.inp, .int .i64 k.out, .int .i64 k.lane]
structure Hop where
 src:Int
 dst:Int
 deriving DecidableEq
abbrev Hop.val (k:Hop):Value:= .agg #[.int .i64 k.src, .int .i64 k.dst]
theorem eq_int (d:Nat) (x y:Int) (w:World):(Op.equalIn (d+1) 3 (.int .i64 x) (.int .i64 y)).run Tryz.prog w= .ok (x == y) w:=run_equalIn_int w d 3 .i64 .i64 x y Tryz.underlying3
theorem size_int (w:World):(sizeOf 3).run Tryz.prog w= .ok 1 w:=by kernel_rfl
theorem way_eq (w:World) (a b:Way):(Op.equal 231 a.val b.val).run Tryz.prog w= .ok (decide (a=b)) w:=by
 have hf:Tryz.prog.underlying 231=some (.struct (Tryz.prog.fieldsOf 231)):=by simp only[Program.fieldsOf,Tryz.underlying231]
 have hs:Tryz.prog.stoodInHeld 231=false:=by kernel_rfl
 show(Op.equalIn (9999+1) _ _ _).run _ _=_
 rw[run_equalIn_struct w 9999 231 _ _ hf hs]
 simp only[Program.fieldsOf,Tryz.underlying231]
 have e4:=eq_int 9998
 obtain⟨a1,a2,a3⟩:=a
 obtain⟨b1,b2,b3⟩:=b
 simp[Op.eqFields,Go.part,size_int,e4]
 by_cases h1:a1=b1 <;>by_cases h2:a2=b2 <;>by_cases h3:a3=b3 <;>simp[h1,h2,h3]
theorem hop_eq (w:World) (a b:Hop):(Op.equal 95 a.val b.val).run Tryz.prog w= .ok (decide (a=b)) w:=by
 have hf:Tryz.prog.underlying 95=some (.struct (Tryz.prog.fieldsOf 95)):=by simp only[Program.fieldsOf,Tryz.underlying95]
 have hs:Tryz.prog.stoodInHeld 95=false:=by kernel_rfl
 show(Op.equalIn (9999+1) _ _ _).run _ _=_
 rw[run_equalIn_struct w 9999 95 _ _ hf hs]
 simp only[Program.fieldsOf,Tryz.underlying95]
 have e4:=eq_int 9998
 obtain⟨a1,a2⟩:=a
 obtain⟨b1,b2⟩:=b
 simp[Op.eqFields,Go.part,size_int,e4]
 by_cases h1:a1=b1 <;>by_cases h2:a2=b2 <;>simp[h1,h2]
theorem check_int (d:Nat) (em:Bool) (x:Int) (w:World):(Instr.checkKey em (d+1) 3 (.int .i64 x)).run Tryz.prog w= .ok () w:=by
 unfold Instr.checkKey
 simp[run_underlying Tryz.underlying3]
theorem way_ok:KeyOk Way.val Tryz.prog 231:=
 KeyOk.of_struct Tryz.underlying231 way_eq (fun w em k=>by
  have e4:=check_int 9998 em
  show(Instr.checkKey em (9999+1) _ _).run _ _=_
  unfold Instr.checkKey
  simp[run_underlying Tryz.underlying231,Go.part,size_int,e4]) (fun k=>by simp[Instr.sameBits])
theorem hop_ok:KeyOk Hop.val Tryz.prog 95:=
 KeyOk.of_struct Tryz.underlying95 hop_eq (fun w em k=>by
  have e4:=check_int 9998 em
  show(Instr.checkKey em (9999+1) _ _).run _ _=_
  unfold Instr.checkKey
  simp[run_underlying Tryz.underlying95,Go.part,size_int,e4]) (fun k=>by simp[Instr.sameBits])
theorem zero_ints (w:World):(zeroValue 35).run Tryz.prog w= .ok (.slice none 0 0) w:=by kernel_rfl
theorem zero_link (w:World):(zeroValue 60).run Tryz.prog w= .ok (.pointer none) w:=by kernel_rfl
end Go.Proofs.YtebnflpanfmicaaGreatDoor
namespace Go.Proofs.YtebnflpanfmicaaGreatDoor
open Go.RowKit
abbrev encN (j:Nat):Value:= .int .i64 (j:Int)
def setW {α:Type} (Q:Way→α) (k:Way) (v:α):Way→α:=fun k'=>if k'=k then v else Q k'
theorem setW_same {α:Type} (Q:Way→α) (k:Way) (v:α):setW Q k v k=v:=if_pos rfl
theorem setW_other {α:Type} (Q:Way→α) (k k':Way) (v:α) (h:k'≠k):setW Q k v k'=Q k':=if_neg h
def Chain (slots:List Slot):Int→List Nat→Prop
 | t,[]=>t= -1
 | t,f :: F=>t=(f:Int)∧∃z,slots[f]? =some (none,z)∧Chain slots z F
theorem Chain.set {slots:List Slot} {j:Nat} {s:Slot}:∀{F:List Nat} {t:Int},Chain slots t F→j ∉ F→Chain (slots.set j s) t F
 | [],_,h,_=>h
 | f :: F,t,⟨h1,z,h2,h3⟩,hj=>by
   refine⟨h1,z, ?_,h3.set (fun h=>hj (List.mem_cons_of_mem _ h))⟩
   rw[List.getElem?_set_ne (fun e=>hj (by rw[e];exact List.mem_cons_self))]
   exact h2
theorem Chain.mem {slots:List Slot}:∀{F:List Nat} {t:Int},Chain slots t F→∀f∈F,∃z,slots[f]? =some (none,z)
 | f :: F,t,⟨h1,z,h2,h3⟩,g,hg=>by
   rcases List.mem_cons.1 hg with rfl | hg
   ·exact⟨z,h2⟩
   ·exact h3.mem g hg
structure RingP (st:PoolS) (Q:Way→List Pkt) (sl:Way→List Nat) (F:List Nat):Prop where
 chain:Chain st.slots st.top F
 nd:F.Nodup
 len:∀k,(sl k).length=(Q k).length
 at_:∀k (i j:Nat) x,(sl k)[i]? =some j→(Q k)[i]? =some x→∃z,st.slots[j]? =some (some x,z)
 inj:∀k k' (i i' j:Nat),(sl k)[i]? =some j→(sl k')[i']? =some j→k=k'∧i=i'
 pos:0 < st.slots.length
theorem nodup_le:∀(n:Nat) (l:List Nat),l.Nodup→(∀x∈l,x < n)→l.length≤n
 | 0,[],_,_=>Nat.le_refl _
 | 0,x :: l,_,h=>absurd (h x (by simp)) (Nat.not_lt_zero _)
 | n+1,l,hd,h=>by
   have h1:=nodup_le n (l.erase n) (hd.erase _) (fun x hx=>by
    have h2:=h x (List.mem_of_mem_erase hx)
    have h3:x≠n:=fun e=>by subst e;exact hd.not_mem_erase hx
    omega)
   have:=List.length_erase (l:=l) (a:=n)
   split at this <;>omega
theorem RingP.occ {st:PoolS} {Q:Way→List Pkt} {sl:Way→List Nat} {F:List Nat} (h:RingP st Q sl F) (k:Way) (j:Nat) (hj:j∈sl k):∃x z,st.slots[j]? =some (some x,z):=by
 obtain⟨i,hi,e⟩:=List.mem_iff_getElem.1 hj
 have h1:(Q k)[i]? =some ((Q k)[i]'(by rw[←h.len];exact hi)):=List.getElem?_eq_getElem _
 obtain⟨z,hz⟩:=h.at_ k i j _ (by rw[List.getElem?_eq_getElem hi,e]) h1
 exact⟨_,z,hz⟩
theorem RingP.small {st:PoolS} {Q:Way→List Pkt} {sl:Way→List Nat} {F:List Nat} (h:RingP st Q sl F) (k:Way):(sl k).length≤st.slots.length:=by
 refine nodup_le _ _ ?_ (fun x hx=> ?_)
 ·rw[List.nodup_iff_pairwise_ne,List.pairwise_iff_getElem]
  intro i j hi hj hij e
  have:=(h.inj k k i j (sl k)[i] (List.getElem?_eq_getElem hi) (by rw[e];exact List.getElem?_eq_getElem hj)).2
  omega
 ·obtain⟨y,z,hz⟩:=h.occ k x hx
  exact(List.getElem?_eq_some_iff.1 hz).1
theorem RingP.top {st:PoolS} {Q:Way→List Pkt} {sl:Way→List Nat} {F:List Nat} (h:RingP st Q sl F): -1≤st.top∧st.top < st.slots.length:=by
 have hc:=h.chain
 cases F with
 | nil=>have e:st.top= -1:=hc;have:=h.pos;omega
 | cons f F=>
   obtain⟨e,z,h2,_⟩:=hc
   have:=(List.getElem?_eq_some_iff.1 h2).1
   omega
theorem RingP.full {st:PoolS} {Q:Way→List Pkt} {sl:Way→List Nat} {F:List Nat} (h:RingP st Q sl F):st.top= -1 ↔ F.length=0:=by
 have hc:=h.chain
 cases F with
 | nil=>exact⟨fun _=>rfl,fun _=>hc⟩
 | cons f F=>obtain⟨e,_⟩:=hc;simp;omega
theorem get_snoc {α:Type} {l:List α} {i:Nat} {x y:α} (h:(l ++ [x])[i]? =some y):l[i]? =some y∨(i=l.length∧y=x):=by
 rw[List.getElem?_append]at h
 split at h
 ·exact .inl h
 ·rename_i hi
  have h1:=(List.getElem?_eq_some_iff.1 h)
  obtain⟨hlt,e⟩:=h1
  simp only[List.length_singleton]at hlt
  refine .inr ⟨by omega, ?_⟩
  rw[←e]
  simp
theorem RingP.put {st:PoolS} {Q:Way→List Pkt} {sl:Way→List Nat} {j:Nat} {F:List Nat} (h:RingP st Q sl (j :: F)) (k:Way) (x:Pkt):
  st.top=(j:Int)∧RingP (putP st x) (setW Q k (Q k ++ [x])) (setW sl k (sl k ++ [j])) F:=by
 obtain⟨ht,z,hz,hc⟩:=h.chain
 have hd:=List.nodup_cons.1 h.nd
 have hjn:∀k',j ∉ sl k':=fun k' hj=>by
  obtain⟨y,z',h1⟩:=h.occ k' j hj
  rw[hz]at h1;cases h1
 have hjl:=(List.getElem?_eq_some_iff.1 hz).1
 rw[putP_yes st x j ht none z hz]
 refine⟨ht,⟨hc.set hd.1,hd.2,fun k'=> ?_,fun k' i j' y h1 h2=> ?_,fun k1 k2 i1 i2 j' h1 h2=> ?_,by simpa using h.pos⟩⟩
 ·unfold setW
  split
  ·simp[h.len]
  ·exact h.len k'
 ·unfold setW at h1 h2
  have old:∀k',(sl k')[i]? =some j'→(Q k')[i]? =some y→∃z',(st.slots.set j (some x,z))[j']? =some (some y,z'):=fun k' g1 g2=>by
   obtain⟨z',g3⟩:=h.at_ k' i j' y g1 g2
   refine⟨z', ?_⟩
   rw[List.getElem?_set_ne (fun e=>hjn k' (by rw[e];exact List.mem_of_getElem? g1))]
   exact g3
  split at h1
  ·rename_i hk
   rw[if_pos hk]at h2
   rcases get_snoc h1 with h1 | ⟨h1,rfl⟩
   ·rcases get_snoc h2 with h2 | ⟨h2,rfl⟩
    ·exact old k h1 h2
    ·have:=(List.getElem?_eq_some_iff.1 h1).1
     rw[h.len]at this;omega
   ·rcases get_snoc h2 with h2 | ⟨h2,rfl⟩
    ·have:=(List.getElem?_eq_some_iff.1 h2).1
     rw[←h.len]at this;omega
    ·exact⟨z,by rw[List.getElem?_set_self hjl]⟩
  ·rename_i hk
   rw[if_neg hk]at h2
   exact old k' h1 h2
 ·unfold setW at h1 h2
  split at h1
  ·rename_i e1
   split at h2
   ·rename_i e2
    rcases get_snoc h1 with g1 | ⟨g1,rfl⟩
    ·rcases get_snoc h2 with g2 | ⟨g2,rfl⟩
     ·exact⟨e1.trans e2.symm,(h.inj k k i1 i2 j' g1 g2).2⟩
     ·exact absurd (List.mem_of_getElem? g1) (hjn k)
    ·rcases get_snoc h2 with h2 | ⟨h2,_⟩
     ·exact absurd (List.mem_of_getElem? h2) (hjn k)
     ·exact⟨e1.trans e2.symm,by omega⟩
   ·rename_i e2
    rcases get_snoc h1 with h1 | ⟨h1,rfl⟩
    ·exact absurd (h.inj k k2 i1 i2 j' h1 h2).1.symm e2
    ·exact absurd (List.mem_of_getElem? h2) (hjn k2)
  ·rename_i e1
   split at h2
   ·rcases get_snoc h2 with h2 | ⟨h2,rfl⟩
    ·exact absurd (h.inj k1 k i1 i2 j' h1 h2).1 e1
    ·exact absurd (List.mem_of_getElem? h1) (hjn k1)
   ·exact h.inj k1 k2 i1 i2 j' h1 h2
theorem RingP.first {st:PoolS} {Q:Way→List Pkt} {sl:Way→List Nat} {F:List Nat} (h:RingP st Q sl F) {k:Way} {j:Nat} {r:List Nat} {x:Pkt} {q:List Pkt} (hs:sl k=j :: r) (hq:Q k=x :: q):slotAt st (j:Int)=some (j,x):=by
 obtain⟨z,hz⟩:=h.at_ k 0 j x (by rw[hs];rfl) (by rw[hq];rfl)
 unfold slotAt
 rw[if_neg (by omega),Int.toNat_natCast,hz]
theorem RingP.drop {st:PoolS} {Q:Way→List Pkt} {sl:Way→List Nat} {F:List Nat} (h:RingP st Q sl F) {k:Way} {j:Nat} {r:List Nat} {x:Pkt} {q:List Pkt} (hs:sl k=j :: r) (hq:Q k=x :: q):
  RingP (dropP st (j:Int)) (setW Q k q) (setW sl k r) (j :: F):=by
 unfold dropP
 rw[h.first hs hq]
 obtain⟨z,hz⟩:=h.at_ k 0 j x (by rw[hs];rfl) (by rw[hq];rfl)
 have hjl:=(List.getElem?_eq_some_iff.1 hz).1
 have hjF:j ∉ F:=fun hj=>by
  obtain⟨z',h1⟩:=h.chain.mem j hj
  rw[hz]at h1;cases h1
 have tl:∀(k':Way) (i j':Nat),(setW sl k r k')[i]? =some j'→∃i',(sl k')[i']? =some j'∧(k'=k→i'=i+1)∧(k'≠k→i'=i):=fun k' i j' h1=>by
  unfold setW at h1
  split at h1
  ·rename_i e;subst e
   exact⟨i+1,by rw[hs];exact h1,fun _=>rfl,fun h=>absurd rfl h⟩
  ·rename_i e
   exact⟨i,h1,fun h=>absurd h e,fun _=>rfl⟩
 have tq:∀(k':Way) (i:Nat) (y:Pkt),(setW Q k q k')[i]? =some y→∃i',(Q k')[i']? =some y∧(k'=k→i'=i+1)∧(k'≠k→i'=i):=fun k' i y h1=>by
  unfold setW at h1
  split at h1
  ·rename_i e;subst e
   exact⟨i+1,by rw[hq];exact h1,fun _=>rfl,fun h=>absurd rfl h⟩
  ·rename_i e
   exact⟨i,h1,fun h=>absurd h e,fun _=>rfl⟩
 have hne:∀(k':Way) (i j':Nat),(setW sl k r k')[i]? =some j'→j'≠j:=fun k' i j' h1 e=>by
  obtain⟨i',h2,h3,h4⟩:=tl k' i j' h1
  have h5:=h.inj k' k i' 0 j' h2 (by rw[e,hs];rfl)
  have:=h3 h5.1
  omega
 refine⟨⟨rfl,st.top,by rw[List.getElem?_set_self hjl],h.chain.set hjF⟩,List.nodup_cons.2 ⟨hjF,h.nd⟩,fun k'=> ?_,fun k' i j' y h1 h2=> ?_,fun k1 k2 i1 i2 j' h1 h2=> ?_,by simpa using h.pos⟩
 ·unfold setW
  split
  ·have:=h.len k;rw[hs,hq]at this;simpa using this
  ·exact h.len k'
 ·have hn:=hne k' i j' h1
  obtain⟨i',g1,g2,g3⟩:=tl k' i j' h1
  obtain⟨i'',f1,f2,f3⟩:=tq k' i y h2
  have e:i''=i':=by
   by_cases hk:k'=k
   ·rw[f2 hk,g2 hk]
   ·rw[f3 hk,g3 hk]
  subst e
  obtain⟨z',hz'⟩:=h.at_ k' _ j' y g1 f1
  exact⟨z',by rw[List.getElem?_set_ne (Ne.symm hn)];exact hz'⟩
 ·obtain⟨a1,g1,g2,g3⟩:=tl k1 i1 j' h1
  obtain⟨a2,f1,f2,f3⟩:=tl k2 i2 j' h2
  obtain⟨e1,e2⟩:=h.inj k1 k2 a1 a2 j' g1 f1
  refine⟨e1, ?_⟩
  subst e1
  by_cases hk:k1=k
  ·have:=g2 hk;have:=f2 hk;omega
  ·have:=g3 hk;have:=f3 hk;omega
theorem chain_new (n:Nat):∀(m i:Nat),i+m=n→0 < n→Chain (poolNew n).slots (if i=n then -1 else(i:Int)) (List.range' i m)
 | 0,i,h,h0=>by show(if i=n then(-1:Int)else(i:Int))= -1;rw[if_pos (by omega)]
 | m+1,i,h,h0=>by
   rw[List.range'_succ]
   refine⟨if_neg (by omega),_, ?_,chain_new n m (i+1) (by omega) h0⟩
   unfold poolNew
   simp only[List.getElem?_map]
   rw[List.getElem?_range (by omega)]
   simp only[Option.map_some]
   congr 2
theorem RingP.new (n:Nat) (h:0 < n):RingP (poolNew n) (fun _=>[]) (fun _=>[]) (List.range' 0 n):=
 ⟨by have:=chain_new n n 0 (by omega) h;rw[if_neg (by omega)]at this;exact this,List.nodup_range',fun _=>rfl,fun _ _ _ _ h=>by simp at h,fun _ _ _ _ _ h=>by simp at h,by simpa[poolNew]using h⟩
end Go.Proofs.YtebnflpanfmicaaGreatDoor
namespace Go.Proofs.YtebnflpanfmicaaGreatDoor
open Go.RowKit
def Tree (t:List Nat):Prop:=∀i (h:i < t.length),t[i]≤i
def upF (t:List Nat):Nat→Nat→List Nat
 | 0,v=>[v]
 | k+1,v=>if v=0 then [v]else v :: upF t k (t.getD (v - 1) 0)
def upl (t:List Nat) (v:Nat):List Nat:=upF t v v
theorem upF_more {t:List Nat} (ht:Tree t):∀k j v,v≤k→v≤j→upF t k v=upF t j v
 | 0,0,v,_,_=>rfl
 | 0,j+1,v,h,_=>by
   obtain rfl:v=0:=by omega
   rfl
 | k+1,0,v,_,h=>by
   obtain rfl:v=0:=by omega
   rfl
 | k+1,j+1,v,h1,h2=>by
   unfold upF
   by_cases hv:v=0
   ·rw[if_pos hv,if_pos hv]
   ·rw[if_neg hv,if_neg hv]
    have hp:t.getD (v - 1) 0≤v - 1:=by
     rw[List.getD_eq_getElem?_getD]
     by_cases h:v - 1 < t.length
     ·rw[List.getElem?_eq_getElem h];exact ht _ h
     ·rw[List.getElem?_eq_none (by omega)];exact Nat.zero_le _
    rw[upF_more ht k j _ (by omega) (by omega)]
theorem par_lt {t:List Nat} (ht:Tree t) {v:Nat} (h:0 < v):t.getD (v - 1) 0 < v:=by
 rw[List.getD_eq_getElem?_getD]
 by_cases h':v - 1 < t.length
 ·rw[List.getElem?_eq_getElem h'];have:=ht _ h';simp;omega
 ·rw[List.getElem?_eq_none (by omega)];exact h
theorem upl_zero (t:List Nat):upl t 0=[0]:=rfl
theorem upl_step {t:List Nat} (ht:Tree t) {v:Nat} (h:0 < v):upl t v=v :: upl t (t.getD (v - 1) 0):=by
 have hp:=par_lt ht h
 obtain⟨k,rfl⟩:∃k,v=k+1:=⟨v - 1,by omega⟩
 have e:upl t (k+1)=(k+1) :: upF t k (t.getD (k+1 - 1) 0):=by
  show upF t (k+1) (k+1)=_
  rw[upF,if_neg (by omega)]
 rw[e]
 congr 1
 exact upF_more ht _ _ _ (by omega) (Nat.le_refl _)
theorem zero_mem_upl {t:List Nat} (ht:Tree t) (v:Nat):0∈upl t v:=by
 induction v using Nat.strongRecOn with
 | _ v ih=>
   by_cases h:v=0
   ·subst h;simp[upl_zero]
   ·rw[upl_step ht (by omega)];exact List.mem_cons_of_mem _ (ih _ (par_lt ht (by omega)))
theorem upl_length {t:List Nat} (ht:Tree t) (v:Nat):(upl t v).length≤v+1:=by
 induction v using Nat.strongRecOn with
 | _ v ih=>
   by_cases h:v=0
   ·subst h;simp[upl_zero]
   ·have hp:=par_lt ht (show 0 < v by omega)
    have:=ih _ hp
    rw[upl_step ht (by omega),List.length_cons];omega
def climb (d:List Nat):List Nat→List Nat×Nat
 | []=>([],0)
 | x :: l=>if x∈d then([x],d.idxOf x)else(x :: (climb d l).1,(climb d l).2)
def pathN (t:List Nat) (v w:Nat):List Nat:=(climb (upl t w) (upl t v)).1 ++ ((upl t w).take (climb (upl t w) (upl t v)).2).reverse
def rightI (ps:List Int):Bool:=(List.range ps.length).all (fun i=>decide (0≤ps.getD i 0∧ps.getD i 0≤(i:Int))) && decide (ps.length < 6)
end Go.Proofs.YtebnflpanfmicaaGreatDoor
