/-
  Part 32 of the proof: TopFNewP.
-/
import Derived.Test.YtebnflpanfmicaaGreatDoorPkBE
import Derived.Test.YtebnflpanfmicaaGreatDoorPkBC
set_option linter.unusedVariables false
set_option linter.unusedSimpArgs false
set_option linter.unusedSectionVars false
namespace Go.Proofs.YtebnflpanfmicaaGreatDoor
open Go.RowKit
def newF (g:Geo):FabS:=⟨fun v=>newS g v,fun _=>[],0⟩
structure FreeF (σ:Sig) (f:Nat):Prop where
 geo:σ.geo f=none
 node:∀v,σ.node f v=none
 link:∀h,σ.link f h=none
 fab:σ.fab f=Part.none
def newSig (σ:Sig) (f:Nat) (g:Geo) (fa:FabA) (m j:Nat):Sig:=
 {geo:=fun f'=>if f'=f then some g else σ.geo f'
  node:=fun f' v=>if f'=f∧v < m then some (fa.na v,newS g v)else σ.node f' v
  link:=fun f' h=>if f'=f∧h < j then some (fa.lb h,[])else σ.link f' h
  fab:=σ.fab}
def linkEnts (fa:FabA) (hs:List (Nat×Nat)) (j:Nat):List (Ent Hop):=(List.range j).map fun h=>⟨hopK (hs.getD h (0,0)), .pointer (some ⟨fa.lb h,0,none⟩),h⟩
structure FN (σ:Sig) (f:Nat) (g:Geo) (w0:World) (o0:Nat→Option Cmp) (fa:FabA) (m j:Nat) (o:Nat→Option Cmp) (w:World):Prop where
 sys:SysF (newSig σ f g fa m j) w o
 ext:Ext o0 w0 o w
 box:w.heap[fa.fb]? =some (.cells #[.int .i64 ((g.t.length:Int)+1),g.e, .int .i64 g.p.lanes, .int .i64 g.p.room, .int .i64 g.p.queue, .int .i64 g.p.rounds, .int .i64 g.p.every, .int .i64 g.p.bag,g.wt, .int .u16 g.p.start,g.nx,fa.hv,fa.nv, .map (some fa.mb), .int .i64 0] 92 (0,0))
 fbo:w0.heap.size≤fa.fb∧o fa.fb=none
 hops:QS w 95 2 fa.hv (hopsOf g.t).length (ecells (hopsOf g.t))
 hown:∀k,fa.hv.ownBlock=some k→w0.heap.size≤k∧o k=none
 nodes:QS w 58 1 fa.nv m (nodePtrs fa m)
 nown:∀k,fa.nv.ownBlock=some k→w0.heap.size≤k∧o k=none
 map:w.heap[fa.mb]? =some (entsObj Hop.val (linkEnts fa (hopsOf g.t) j) j)
 mbo:w0.heap.size≤fa.mb∧o fa.mb=none
 lv:∀v i,∃A n c,(fa.na v).lv i= .slice A n c
section
variable {σ:Sig} {f:Nat} {g:Geo} {w0 w w':World} {o0 o o':Nat→Option Cmp} {fa:FabA} {m j:Nat}
theorem map_cells {w:World} {b:Nat} {cs:Array Value} {t:TypeId} {L:List (Ent Hop)} {c:Nat} (h1:w.heap[b]? =some (.cells cs t (0,0))) (h2:w.heap[b]? =some (entsObj Hop.val L c)):False:=by
 rw[h1]at h2;injection h2 with h2;unfold entsObj at h2;cases h2
theorem FN.apart (h:FN σ f g w0 o0 fa m j o w):fa.mb≠fa.fb∧(∀k,fa.hv.ownBlock=some k→k≠fa.fb∧k≠fa.mb∧fa.nv.ownBlock≠some k)∧∀k,fa.nv.ownBlock=some k→k≠fa.fb∧k≠fa.mb:=by
 refine⟨fun e=>map_cells h.box (e▸h.map),fun k e=> ?_,fun k e=> ?_⟩
 ·obtain⟨cur,hc⟩:=h.hops.typed k e
  refine⟨fun e2=> ?_,fun e2=>map_cells hc (e2▸h.map),fun e2=> ?_⟩
  ·exact absurd (ty_eq hc (e2▸h.box)) (by decide)
  ·obtain⟨cur2,hc2⟩:=h.nodes.typed k e2
   exact absurd (ty_eq hc hc2) (by decide)
 ·obtain⟨cur,hc⟩:=h.nodes.typed k e
  exact⟨fun e2=>absurd (ty_eq hc (e2▸h.box)) (by decide),fun e2=>map_cells hc (e2▸h.map)⟩
theorem FN.calm (h:FN σ f g w0 o0 fa m j o w) (hk:Keeps (fun _=>False) w w'):FN σ f g w0 o0 fa m j o w':=
 ⟨SysF.calm' h.sys hk,h.ext.trans (Ext.keeps o hk),blk_keeps hk h.box (fun h=>h),h.fbo,h.hops.keeps hk (fun _ _ h=>h),h.hown,h.nodes.keeps hk (fun _ _ h=>h),h.nown,blk_keeps hk h.map (fun h=>h),h.mbo,h.lv⟩
theorem nodePtrs_congr {fa fa':FabA} {m:Nat} (h:∀v,v < m→fa'.na v=fa.na v):nodePtrs fa' m=nodePtrs fa m:=by
 unfold nodePtrs
 refine List.map_congr_left fun v hv=> ?_
 rw[h v (List.mem_range.1 hv)]
theorem nodePtrs_snoc (fa:FabA) (m:Nat):nodePtrs fa (m+1)=nodePtrs fa m ++ [.pointer (some ⟨(fa.na m).nb,0,none⟩)]:=by
 unfold nodePtrs
 rw[List.range_succ,List.map_append];rfl
theorem linkEnts_congr {fa fa':FabA} {hs:List (Nat×Nat)} {m:Nat} (h:∀v,v < m→fa'.lb v=fa.lb v):linkEnts fa' hs m=linkEnts fa hs m:=by
 unfold linkEnts
 refine List.map_congr_left fun v hv=> ?_
 rw[h v (List.mem_range.1 hv)]
theorem linkEnts_snoc (fa:FabA) (hs:List (Nat×Nat)) (m:Nat):linkEnts fa hs (m+1)=linkEnts fa hs m ++ [⟨hopK (hs.getD m (0,0)), .pointer (some ⟨fa.lb m,0,none⟩),m⟩]:=by
 unfold linkEnts
 rw[List.range_succ,List.map_append];rfl
theorem hopK_inj {x y:Nat×Nat} (h:hopK x=hopK y):x=y:=by
 obtain⟨a,b⟩:=x
 obtain⟨c,d⟩:=y
 have h1:(a:Int)=c:=congrArg Hop.src h
 have h2:(b:Int)=d:=congrArg Hop.dst h
 rw[Int.ofNat.inj h1,Int.ofNat.inj h2]
theorem findE_absent {K:Type} [DecidableEq K] {k:K}:∀{L:List (Ent K)} {i:Nat},(∀e∈L,e.key≠k)→findE k L i=none
 | [],_,_=>rfl
 | e :: es,i,h=>by
   unfold findE
   rw[if_neg (fun e2=>h e List.mem_cons_self e2.symm)]
   exact findE_absent (fun x hx=>h x (List.mem_cons_of_mem _ hx))
theorem findE_there {K:Type} [DecidableEq K] {k:K} {v:Value}:∀{L:List (Ent K)} {i:Nat},(∃e∈L,e.key=k)→(∀e∈L,e.key=k→e.val=v)→∃j,findE k L i=some (j,v)
 | [],_,h,_=>by obtain⟨e,he,_⟩:=h;cases he
 | e :: es,i,h,h2=>by
   unfold findE
   by_cases hk:k=e.key
   ·rw[if_pos hk,h2 e List.mem_cons_self hk.symm];exact⟨i,rfl⟩
   ·rw[if_neg hk]
    obtain⟨x,hx,he⟩:=h
    rcases List.mem_cons.1 hx with rfl | hx
    ·exact absurd he.symm hk
    ·exact findE_there ⟨x,hx,he⟩ (fun y hy=>h2 y (List.mem_cons_of_mem _ hy))
theorem getD_inj {hs:List (Nat×Nat)} (hd:hs.Nodup) {a b:Nat} (ha:a < hs.length) (hb:b < hs.length) (h:hs.getD a (0,0)=hs.getD b (0,0)):a=b:=by
 rw[List.getD_eq_getElem?_getD,List.getD_eq_getElem?_getD,List.getElem?_eq_getElem ha,List.getElem?_eq_getElem hb]at h
 exact nodup_inj hd ha hb h
theorem linkEnts_keys (fa:FabA) {hs:List (Nat×Nat)} (hd:hs.Nodup) {j:Nat} (hj:j≤hs.length):((linkEnts fa hs j).map (·.key)).Nodup:=by
 unfold linkEnts
 rw[List.map_map]
 refine List.pairwise_iff_getElem.2 fun a b ha hb hab e=> ?_
 simp only[List.length_map,List.length_range]at ha hb
 simp only[List.getElem_map,List.getElem_range,Function.comp]at e
 have:=getD_inj hd (by omega) (by omega) (hopK_inj e)
 omega
theorem linkEnts_absent (fa:FabA) {hs:List (Nat×Nat)} (hd:hs.Nodup) {j:Nat} (hj:j < hs.length):findE (hopK (hs.getD j (0,0))) (linkEnts fa hs j) 0=none:=by
 refine findE_absent fun e he e2=> ?_
 unfold linkEnts at he
 obtain⟨h,hh,rfl⟩:=List.mem_map.1 he
 have hh:=List.mem_range.1 hh
 have:=getD_inj hd (by omega) hj (hopK_inj e2)
 omega
theorem linkEnts_there (fa:FabA) {hs:List (Nat×Nat)} (hd:hs.Nodup) {j h:Nat} (hj:j≤hs.length) (hh:h < j) {x:Nat×Nat} (hx:hs[h]? =some x):∃i,findE (hopK x) (linkEnts fa hs j) 0=some (i, .pointer (some ⟨fa.lb h,0,none⟩)):=by
 have ex:hs.getD h (0,0)=x:=by rw[List.getD_eq_getElem?_getD,hx];rfl
 refine findE_there ⟨_,List.mem_map.2 ⟨h,List.mem_range.2 hh,rfl⟩,by simp only[ex]⟩ fun e he e2=> ?_
 unfold linkEnts at he
 obtain⟨a,ha,rfl⟩:=List.mem_map.1 he
 have ha:=List.mem_range.1 ha
 rw[←ex]at e2
 rw[getD_inj hd (by omega) (by omega) (hopK_inj e2)]
theorem hops_nodup {t:List Nat} (ht:Tree t) (h5:t.length≤5):(hopsOf t).Nodup:=by
 have h:allT (fun t _ _=>decide (hopsOf t).Nodup)=true:=by decide+kernel
 exact of_decide_eq_true (allT_at h ht h5 (Nat.zero_le _) (Nat.zero_le _))
theorem newSig_start (hF:FreeF σ f) (fa:FabA):∀x,x≠Cmp.plan f→(newSig σ f g fa 0 0).part x=σ.part x:=by
 intro x hx
 have e1:(newSig σ f g fa 0 0).node=σ.node:=by funext f' v;simp[newSig]
 have e2:(newSig σ f g fa 0 0).link=σ.link:=by funext f' v;simp[newSig]
 have e3:(newSig σ f g fa 0 0).fab=σ.fab:=rfl
 have e4:∀f',f'≠f→(newSig σ f g fa 0 0).geo f'=σ.geo f':=fun f' h=>by simp[newSig,h]
 cases x with
 | plan f'=>have h:f'≠f:=fun e=>hx (by rw[e]);simp only[Sig.part,e4 f' h]
 | fab f'=>simp only[Sig.part,e3]
 | link f' i=>
   by_cases h:f'=f
   ·subst h;simp[Sig.part,newSig,hF.link,hF.geo]
   ·simp only[Sig.part,e2,e4 f' h]
 | node f' v=>by_cases h:f'=f
              ·subst h;simp[Sig.part,newSig,hF.node,hF.geo]
              ·simp only[Sig.part,e1,e4 f' h]
 | host f' v=>by_cases h:f'=f
              ·subst h;simp[Sig.part,newSig,hF.node,hF.geo]
              ·simp only[Sig.part,e1,e4 f' h]
 | rings f' v=>by_cases h:f'=f
               ·subst h;simp[Sig.part,newSig,hF.node,hF.geo]
               ·simp only[Sig.part,e1,e4 f' h]
 | arb f' v=>by_cases h:f'=f
             ·subst h;simp[Sig.part,newSig,hF.node,hF.geo]
             ·simp only[Sig.part,e1,e4 f' h]
 | wheel f' v i=>by_cases h:f'=f
                 ·subst h;simp[Sig.part,newSig,hF.node,hF.geo]
                 ·simp only[Sig.part,e1,e4 f' h]
 | snd f' v i k=>by_cases h:f'=f
                 ·subst h;simp[Sig.part,newSig,hF.node,hF.geo]
                 ·simp only[Sig.part,e1,e4 f' h]
 | rcv f' v i k=>by_cases h:f'=f
                 ·subst h;simp[Sig.part,newSig,hF.node,hF.geo]
                 ·simp only[Sig.part,e1,e4 f' h]
theorem newSig_node (fa:FabA) (m:Nat) (a:NodeA) (nv:Value):(newSig σ f g fa m 0).set f m a (newS g m)=newSig σ f g {fa with nv:=nv,na:=setAt fa.na m a} (m+1) 0:=by
 unfold Sig.set newSig
 congr 1
 ·funext f' v
  by_cases hf:f'=f
  ·by_cases hv:v=m
   ·subst hv;simp[hf,setAt]
   ·by_cases h2:v < m
    ·have:v < m+1:=by omega
     simp[hf,hv,h2,this,setAt]
    ·have:¬v < m+1:=by omega
     simp[hf,hv,h2,this]
  ·simp[hf]
theorem newSig_link (fa:FabA) (m j b:Nat):(newSig σ f g fa m j).setL f j b []=newSig σ f g {fa with lb:=setAt fa.lb j b} m (j+1):=by
 unfold Sig.setL newSig
 congr 1
 funext f' v
 by_cases hf:f'=f
 ·by_cases hv:v=j
  ·subst hv;simp[hf,setAt]
  ·by_cases h2:v < j
   ·have:v < j+1:=by omega
    simp[hf,hv,h2,this,setAt]
   ·have:¬v < j+1:=by omega
    simp[hf,hv,h2,this]
 ·simp[hf]
theorem FN.node {U W:World} {v':Value} {a:NodeA} {O:Obj} (h:FN σ f g w0 o0 fa m 0 o w) (hn:SysF ((newSig σ f g fa m 0).set f m a (newS g m)) U o') (hx:Ext o w o' U) (hlv:∀i,∃A n c,a.lv i= .slice A n c)
  (hg:(U.alloc O).grownBy W fa.nv.ownBlock) (hq:QS W 58 1 v' (m+1) (nodePtrs fa m ++ [.pointer (some ⟨a.nb,0,none⟩)])) (ho:v'.ownBlock=fa.nv.ownBlock∨∃c,v'.ownBlock=some c∧(U.alloc O).heap.size≤c):
  FN σ f g w0 o0 {fa with nv:=v',na:=setAt fa.na m a} (m+1) 0 o' (W.setCell ⟨fa.fb,12,none⟩ v'):=by
 obtain⟨a1,a2,a3⟩:=h.apart
 have hs1:=hx.1.size
 have hsA:(U.alloc O).heap.size=U.heap.size+1:=World.size_alloc _ _
 have hG:Keeps (fun k=>fa.nv.ownBlock=some k) U W:=((Keeps.alloc _ _ _)).trans (Keeps.grown hg (fun q e=>e))
 have hS:Keeps (fun k=>k=fa.fb) W (W.setCell ⟨fa.fb,12,none⟩ v'):=Keeps.setCell _ _ _ _ rfl
 have hK:Keeps (fun k=>fa.nv.ownBlock=some k∨k=fa.fb) U (W.setCell ⟨fa.fb,12,none⟩ v'):=(hG.mono (fun _ _ e=> .inl e)).trans (hS.mono (fun _ _ e=> .inr e))
 have oo:∀k,k < w.heap.size→o' k=o k:=hx.2
 have hfl:=blk_lt h.box
 have fbo':o' fa.fb=none:=(oo _ hfl).trans h.fbo.2
 have nown':∀k,fa.nv.ownBlock=some k→w0.heap.size≤k∧o' k=none:=fun k e=>⟨(h.nown k e).1,(oo _ (h.nodes.lt k e)).trans (h.nown k e).2⟩
 have hfree:∀k,(fa.nv.ownBlock=some k∨k=fa.fb)→w0.heap.size≤k∧o' k=none:=fun k e=>by
  rcases e with e | e
  ·exact nown' k e
  ·rw[e];exact⟨h.fbo.1,fbo'⟩
 have hbU:=blk_keeps hx.1 h.box (fun e=>by rw[h.fbo.2]at e;cases e)
 have hmU:=blk_keeps hx.1 h.map (fun e=>by rw[h.mbo.2]at e;cases e)
 have hhU:=h.hops.keeps hx.1 (fun k e e2=>by rw[(h.hown k e).2]at e2;cases e2)
 have hvo:∀k,v'.ownBlock=some k→w0.heap.size≤k∧o' k=none:=fun k e=>by
  rcases ho with e2 | ⟨b,e2,e3⟩
  ·rw[e2]at e;exact nown' k e
  ·rw[e2]at e;cases e
   exact⟨by have:=h.ext.1.size;omega,SysF.fresh hn (by omega)⟩
 have hvn:∀k,v'.ownBlock=some k→k≠fa.fb:=fun k e e2=>by
  subst e2
  rcases ho with e3 | ⟨b,e3,e4⟩
  ·exact(a3 _ (e3▸e)).1 rfl
  ·rw[e3]at e;cases e;omega
 refine⟨?_, ?_, ?_,⟨h.fbo.1,fbo'⟩, ?_,fun k e=>⟨(h.hown k e).1,(oo _ (h.hops.lt k e)).trans (h.hown k e).2⟩, ?_,hvo, ?_,⟨h.mbo.1,(oo _ ?_).trans h.mbo.2⟩,fun v i=> ?_⟩
 ·rw[←newSig_node]
  exact Sys.aside hn hK (fun k e=>(hfree k e).2)
 ·refine⟨(h.ext.trans hx).1.then hK (fun i hi e=>by have:=(hfree i e).1;omega),(h.ext.trans hx).2⟩
 ·have hb2:=blk_keeps hG hbU (fun e=>(a3 _ e).1 rfl)
  have:=blk_set hb2 12 v'
  exact this
 ·exact hhU.keeps hK (fun k e e2=>by rcases e2 with e2 | e2;exact(a2 k e).2.2 e2;exact(a2 k e).1 e2)
 ·rw[nodePtrs_snoc,nodePtrs_congr (fa:=fa) (fun v hv=>setAt_other _ _ _ _ (by omega))]
  simp only[setAt_same]
  exact hq.keeps hS (fun k e e2=>hvn k e e2)
 ·show(W.setCell ⟨fa.fb,12,none⟩ v').heap[fa.mb]? =some (entsObj Hop.val (linkEnts fa (hopsOf g.t) 0) 0)
  exact blk_keeps hK hmU (fun e=>by rcases e with e | e;exact(a3 _ e).2 rfl;exact a1 e)
 ·exact blk_lt h.map
 ·show ∃A n c,(setAt fa.na m a v).lv i=_
  by_cases e:v=m
  ·subst e;rw[setAt_same];exact hlv i
  ·rw[setAt_other _ _ _ _ e];exact h.lv v i
theorem FN.link {U:World} {b:Nat} (h:FN σ f g w0 o0 fa m j o w) (hF:FreeF σ f) (hj:j < (hopsOf g.t).length) (hk:Keeps (fun _=>False) w U) (hb:w.heap.size≤b) (hL:LinkV U (fun k=>k=b) b g.p.bag []):
  ∃o',FN σ f g w0 o0 {fa with lb:=setAt fa.lb j b} m (j+1) o' (U.putObj fa.mb (entsObj Hop.val (linkEnts fa (hopsOf g.t) j ++ [⟨hopK ((hopsOf g.t).getD j (0,0)), .pointer (some ⟨b,0,none⟩),j⟩]) (j+1)))∧∀k,k < w.heap.size→o' k=o k:=by
 have hc:=h.calm hk
 obtain⟨a1,a2,a3⟩:=h.apart
 have hsz:=h.ext.1.size
 have hnone:(newSig σ f g fa m j).part (.link f j)=Part.none:=by simp[Sig.part,newSig,hF.link]
 obtain⟨o',h1,h2,h3⟩:=Sys.claim (A':=((newSig σ f g fa m j).setL f j b []).part) hc.sys (.link f j) (setL_part _ f j b []) (Sys.noneOf hc.sys hnone) (S:=fun k=>k=b) (fun k e=>by rw[e];exact SysF.fresh h.sys hb) (by simp only[Sig.part,Sig.setL,newSig,and_self,if_true];exact hL)
 have oo:∀k,k < w.heap.size→o' k=o k:=fun k hk=>h3 k (by omega)
 have hmb':o' fa.mb=none:=(oo _ (blk_lt h.map)).trans h.mbo.2
 have hS:Keeps (fun k=>k=fa.mb) U (U.putObj fa.mb (entsObj Hop.val (linkEnts fa (hopsOf g.t) j ++ [⟨hopK ((hopsOf g.t).getD j (0,0)), .pointer (some ⟨b,0,none⟩),j⟩]) (j+1))):=Keeps.putM _ _ _ rfl
 refine⟨o',⟨?_, ?_,blk_keeps hS hc.box (fun e=>a1 e.symm),⟨h.fbo.1,(oo _ (blk_lt h.box)).trans h.fbo.2⟩,hc.hops.keeps hS (fun k e e2=>(a2 k e).2.1 e2),fun k e=>⟨(h.hown k e).1,(oo _ (h.hops.lt k e)).trans (h.hown k e).2⟩,
  hc.nodes.keeps hS (fun k e e2=>(a3 k e).2 e2),fun k e=>⟨(h.nown k e).1,(oo _ (h.nodes.lt k e)).trans (h.nown k e).2⟩, ?_,⟨h.mbo.1,hmb'⟩,h.lv⟩,oo⟩
 ·rw[←newSig_link]
  exact Sys.aside h1 hS (fun k e=>by rw[e];exact hmb')
 ·have hx:=Ext.claim hc.ext h3 (fun k e=>by omega)
  exact⟨hx.1.then hS (fun i hi e=>by have:=h.mbo.1;omega),hx.2⟩
 ·rw[linkEnts_snoc,linkEnts_congr (fa:=fa) (fa':={fa with lb:=setAt fa.lb j b}) (fun v hv=>setAt_other _ _ _ _ (by omega))]
  simp only[setAt_same]
  have hlt:=blk_lt hc.map
  simp[World.putObj,hlt]
theorem FN.finish (h:FN σ f g w0 o0 fa (g.t.length+1) (hopsOf g.t).length o w) (hF:FreeF σ f) (ht:Tree g.t) (h5:g.t.length≤5):
  ∃σ' o',SysF σ' w o'∧Ext o0 w0 o' w∧FabAt σ' f fa g (newF g)∧Agree σ σ' f:=by
 obtain⟨a1,a2,a3⟩:=h.apart
 have hnd:=hops_nodup ht h5
 obtain⟨o',h1,h2,h3⟩:=Sys.claim (A':=((newSig σ f g fa (g.t.length+1) (hopsOf g.t).length).setF f (fabPart fa g 0)).part) h.sys (.fab f) (setF_part _ f _) (Sys.noneOf h.sys (show σ.fab f=_ from hF.fab))
  (S:=fun k=>k=fa.fb∨k=fa.mb∨fa.hv.ownBlock=some k∨fa.nv.ownBlock=some k) (fun k e=>by
   rcases e with e | e | e | e
   ·rw[e];exact h.fbo.2
   ·rw[e];exact h.mbo.2
   ·exact(h.hown k e).2
   ·exact(h.nown k e).2)
  (show((((newSig σ f g fa (g.t.length+1) (hopsOf g.t).length).setF f (fabPart fa g 0)).fab f)).at_ w _ by
   simp only[Sig.setF,if_true]
   refine⟨h.box,h.hops,h.nodes,⟨_,_,h.map,fun i x hx=>linkEnts_there fa hnd (Nat.le_refl _) (List.getElem?_eq_some_iff.1 hx).1 hx⟩, .inl rfl,⟨.inr (.inl rfl),a1⟩,fun k e=>⟨.inr (.inr (.inl e)),(a2 k e).1⟩,fun k e=>⟨.inr (.inr (.inr e)),(a3 k e).1⟩,fun k e=> ?_⟩
   rcases e with e | e | e | e
   ·rw[e];exact blk_lt h.box
   ·rw[e];exact blk_lt h.map
   ·exact h.hops.lt k e
   ·exact h.nodes.lt k e)
 refine⟨_,o',h1,Ext.claim h.ext h3 (fun k e=> ?_),⟨by simp[Sig.setF,newSig],by simp[Sig.setF,newF],fun v hv=> ?_,fun i hi=> ?_,h.lv⟩,fun f' hf=>⟨by simp[Sig.setF,newSig,hf],by simp[Sig.setF,newSig,hf],fun v=>by simp[Sig.setF,newSig,hf],fun i=>by simp[Sig.setF,newSig,hf]⟩⟩
 ·rcases e with e | e | e | e
  ·rw[e];exact h.fbo.1
  ·rw[e];exact h.mbo.1
  ·exact(h.hown k e).1
  ·exact(h.nown k e).1
 ·have:v < g.t.length+1:=by omega
  simp[Sig.setF,newSig,newF,this]
 ·simp[Sig.setF,newSig,newF,hi]
theorem FN.start {Z:World} {lo hi mb:Nat} {hv:Value} {O:Obj} (h:SysF σ w o) (hF:FreeF σ f) (hk:Keeps (fun _=>False) w Z) (hP:PlanS Z (fun k=>lo≤k∧k < hi) g.p g.t g.ws g.e g.wt g.nx) (hlo:w.heap.size≤lo) (hlh:lo≤hi) (hhi:hi≤Z.heap.size)
  (hm:Z.heap[mb]? =some (.map #[] 0)) (hmb:w.heap.size≤mb) (hmo:mb < lo∨hi≤mb) (hq:QS Z 95 2 hv (hopsOf g.t).length (ecells (hopsOf g.t))) (hho:∀k,hv.ownBlock=some k→hi≤k)
  (hO:O= .cells #[.int .i64 ((g.t.length:Int)+1),g.e, .int .i64 g.p.lanes, .int .i64 g.p.room, .int .i64 g.p.queue, .int .i64 g.p.rounds, .int .i64 g.p.every, .int .i64 g.p.bag,g.wt, .int .u16 g.p.start,g.nx,hv, .slice none 0 0, .map (some mb), .int .i64 0] 92):
  ∃o',FN σ f g w o ⟨Z.heap.size,hv, .slice none 0 0,mb,fun _=>0,fun _=>⟨0,0,0,0,0,0, .slice none 0 0,fun _=> .slice none 0 0,fun _=>0,fun _ _=>0,fun _ _=>0⟩⟩ 0 0 o' (Z.alloc O)∧∀k,¬(lo≤k∧k < hi)→o' k=o k:=by
 subst hO
 have hnone:σ.part (.plan f)=Part.none:=by simp only[Sig.part,hF.geo]
 have hsz:=hk.size
 obtain⟨o',h1,h2,h3⟩:=Sys.claim (A':=(newSig σ f g ⟨Z.heap.size,hv, .slice none 0 0,mb,fun _=>0,fun _=>⟨0,0,0,0,0,0, .slice none 0 0,fun _=> .slice none 0 0,fun _=>0,fun _ _=>0,fun _ _=>0⟩⟩ 0 0).part) (SysF.calm' h hk) (.plan f) (newSig_start hF _) (Sys.noneOf h hnone)
  (S:=fun k=>lo≤k∧k < hi) (fun k e=>SysF.fresh h (by omega)) (show _ from by simp only[Sig.part,newSig,if_true];exact hP)
 have hn:∀k,w.heap.size≤k→¬(lo≤k∧k < hi)→o' k=none:=fun k hk e=>(h3 k e).trans (SysF.fresh h hk)
 have ha:Keeps (fun _=>False) Z (Z.alloc (.cells #[.int .i64 ((g.t.length:Int)+1),g.e, .int .i64 g.p.lanes, .int .i64 g.p.room, .int .i64 g.p.queue, .int .i64 g.p.rounds, .int .i64 g.p.every, .int .i64 g.p.bag,g.wt, .int .u16 g.p.start,g.nx,hv, .slice none 0 0, .map (some mb), .int .i64 0] 92)):=Keeps.alloc _ _ _
 exact⟨o',⟨SysF.calm' h1 ha,Ext.claim (Ext.keeps o (hk.trans ha)) h3 (fun k e=>by omega),blk_new _ _,⟨hsz,hn Z.heap.size hsz (by omega)⟩,hq.keeps ha (fun _ _ h=>h),fun k e=>⟨by have:=hho k e;omega,hn k (by have:=hho k e;omega) (by have:=hho k e;omega)⟩,QS.nil _ _ _,fun k e=>by simp[Value.ownBlock]at e,
  blk_keeps ha hm (fun h=>h),⟨hmb,hn mb hmb (by omega)⟩,fun v i=>⟨none,0,0,rfl⟩⟩,h3⟩
end
theorem wp_midP {c:Code} {Q:Exit→Act→World→Prop} {T:Array Value} {W:World} (lo n:Nat) (P:(Nat→Value)→World→Prop)
  (h1:∀M:Act→World→Prop,(∀(A:Array Value) W',A.toList.take lo=T.toList.take lo→A.toList.drop (lo+n)=T.toList.drop (lo+n)→((A.toList.drop lo).take n).length=n→P (fun i=>((A.toList.drop lo).take n).getD i undef) W'→M ⟨A,[]⟩ W')→Code.wp Tryz.prog c (fun e a W'=>match e with | .normal=>M a W' | _=>False) ⟨T,[]⟩ W)
  (h2:∀(f:Nat→Value) W',P f W'→Q .normal ⟨(T.toList.take lo ++ (List.range n).map f ++ T.toList.drop (lo+n)).toArray,[]⟩ W'):Code.wp Tryz.prog c Q ⟨T,[]⟩ W:=by
 refine Code.wp_mono ?_ (h1 (fun a W'=>∃us:List Value,us.length=n∧a=⟨(T.toList.take lo ++ us ++ T.toList.drop (lo+n)).toArray,[]⟩∧P (fun i=>us.getD i undef) W') (fun A W' a1 a2 a3 a4=> ?_))
 ·intro e a W' h
  cases e with
  | normal=>
    obtain⟨us,hl,rfl,hP⟩:=h
    have e:us=(List.range n).map (fun i=>us.getD i undef):=by
     apply List.ext_getElem?
     intro i
     by_cases hi:i < n
     ·rw[List.getElem?_map,List.getElem?_range hi,Option.map_some,List.getD_eq_getElem?_getD,List.getElem?_eq_getElem (by omega)];rfl
     ·rw[List.getElem?_eq_none (by omega),List.getElem?_eq_none (by simp;omega)]
    have:=h2 _ W' hP
    rw[←e]at this
    exact this
  | _=>exact h.elim
 ·refine⟨_,a3, ?_,a4⟩
  rw[←a1,←a2]
  congr 1
  have e:A.toList=A.toList.take lo ++ (A.toList.drop lo).take n ++ A.toList.drop (lo+n):=by
   have e2:A.toList.drop (lo+n)=(A.toList.drop lo).drop n:=by rw[List.drop_drop]
   rw[List.append_assoc,e2,List.take_append_drop,List.take_append_drop]
  rw[←e]
end Go.Proofs.YtebnflpanfmicaaGreatDoor
