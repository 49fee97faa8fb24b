/-
  Part 31 of the proof: TopNewW.
-/
import Derived.Test.YtebnflpanfmicaaGreatDoorPkBD
import Derived.Deep.RegionLaw
set_option linter.unusedVariables false
set_option linter.unusedSimpArgs false
set_option linter.unusedSectionVars false
namespace Go.Proofs.YtebnflpanfmicaaGreatDoor
open Go.RowKit
structure NB (σ:Sig) (f v:Nat) (g:Geo) (w0:World) (o0:Nat→Option Cmp) (w:World) (o:Nat→Option Cmp) (a:NodeA) (jw jl ks kr m:Nat):Prop where
 sys:Sys (bParts σ f v g a jw jl ks kr) w o
 ext:Ext o0 w0 o w
 box:w.heap[a.nb]? =some (.cells #[.pointer none, .int .i64 ((g.t.length:Int)+1),g.e, .int .i64 g.p.lanes, .int .i64 g.p.room, .int .i64 g.p.queue, .int .i64 g.p.rounds, .int .i64 g.p.every, .int .i64 g.p.bag,g.wt, .int .u16 g.p.start,g.nx,
  .int .i64 (v:Int),a.pv, .pointer (some ⟨a.hb,0,none⟩), .pointer none, .int .i64 0] 129 (0,0))
 nbo:w0.heap.size≤a.nb∧o a.nb=none
 pq:QS w 165 3 a.pv m (portsFrom a 0 ((tos g.t v).take m))
 pown:∀k,a.pv.ownBlock=some k→w0.heap.size≤k∧o k=none
 lq:∀i,1≤i→i < m→QS w 172 2 (a.lv i) g.ws.length (lanesTo a i g.ws.length)
 lown:∀i,1≤i→i < m→∀k,(a.lv i).ownBlock=some k→w0.heap.size≤k∧o k=none
 l0:a.lv 0= .slice none 0 0
theorem info_port:(Tryz.prog.info? 165).map (fun i=>(i.zero,i.size,i.bytes))=some (some (.agg #[.int .i64 0, .slice none 0 0, .pointer none]),3,40):=by kernel_rfl
theorem info_lane:(Tryz.prog.info? 172).map (fun i=>(i.zero,i.size,i.bytes))=some (some (.agg #[.pointer none, .pointer none]),2,16):=by kernel_rfl
theorem portsFrom_snoc (a:NodeA) (x:Nat):∀(l:List Nat) (i:Nat),portsFrom a i (l ++ [x])=portsFrom a i l ++ portCells a (i+l.length) x
 | [],i=>by simp[portsFrom]
 | y :: l,i=>by
   show portCells a i y ++ portsFrom a (i+1) (l ++ [x])=_
   rw[portsFrom_snoc a x l (i+1),List.length_cons,show i+1+l.length=i+(l.length+1) by omega]
   show _=portCells a i y ++ portsFrom a (i+1) l ++ _
   rw[List.append_assoc]
theorem portsFrom_congr {a a':NodeA}:∀(l:List Nat) (i:Nat),(∀j,i≤j→j < i+l.length→a'.lv j=a.lv j∧a'.wb j=a.wb j)→portsFrom a' i l=portsFrom a i l
 | [],_,_=>rfl
 | y :: l,i,h=>by
   obtain⟨h1,h2⟩:=h i (Nat.le_refl _) (by simp)
   show portCells a' i y ++ portsFrom a' (i+1) l=portCells a i y ++ portsFrom a (i+1) l
   rw[portsFrom_congr l (i+1) (fun j hj hj2=>h j (by omega) (by simp only[List.length_cons];omega))]
   unfold portCells
   rw[h1,h2]
theorem lanesTo_congr {a a':NodeA} {i:Nat}:∀(n:Nat),(∀k,k < n→a'.sb i k=a.sb i k∧a'.cb i k=a.cb i k)→lanesTo a' i n=lanesTo a i n
 | 0,_=>rfl
 | n+1,h=>by
   obtain⟨h1,h2⟩:=h n (Nat.lt_succ_self _)
   unfold lanesTo
   rw[lanesTo_congr n (fun k hk=>h k (by omega)),h1,h2]
section
variable {σ:Sig} {f v:Nat} {g:Geo} {w0 w w':World} {o0 o o':Nat→Option Cmp} {a:NodeA} {jw jl ks kr m:Nat}
theorem NB.calm (h:NB σ f v g w0 o0 w o a jw jl ks kr m) (hk:Keeps (fun _=>False) w w'):NB σ f v g w0 o0 w' o a jw jl ks kr m:=
 ⟨Sys.calm h.sys hk,h.ext.trans (Ext.keeps o hk),blk_keeps hk h.box (fun h=>h),h.nbo,h.pq.keeps hk (fun _ _ h=>h),h.pown,fun i h1 h2=>(h.lq i h1 h2).keeps hk (fun _ _ h=>h),h.lown,h.l0⟩
theorem NB.fresh (h:NB σ f v g w0 o0 w o a jw jl ks kr m) {k:Nat} (hk:w.heap.size≤k):o k=none:=by
 cases e:o k with
 | none=>rfl
 | some x=>have:=Sys.lt h.sys k x e;omega
theorem NB.lt (h:NB σ f v g w0 o0 w o a jw jl ks kr m):a.nb < w.heap.size∧(∀k,a.pv.ownBlock=some k→k < w.heap.size)∧∀i,1≤i→i < m→∀k,(a.lv i).ownBlock=some k→k < w.heap.size:=
 ⟨blk_lt h.box,h.pq.lt,fun i h1 h2=>(h.lq i h1 h2).lt⟩
theorem NB.claimed (h:NB σ f v g w0 o0 w o a jw jl ks kr m) (hk:Keeps (fun _=>False) w w') {S:Nat→Prop} (hS:∀k,S k→w.heap.size≤k) {a':NodeA} {jw' jl' ks' kr':Nat} (h1:Sys (bParts σ f v g a' jw' jl' ks' kr') w' o') (hno:∀k,¬S k→o' k=o k)
  (e1:a'.nb=a.nb) (e2:a'.hb=a.hb) (e3:a'.pv=a.pv) (e4:a'.lv=a.lv) (e5:∀i,i < m→a'.wb i=a.wb i) (e6:∀i k,i < m→a'.sb i k=a.sb i k∧a'.cb i k=a.cb i k) (hm:m≤(tos g.t v).length):NB σ f v g w0 o0 w' o' a' jw' jl' ks' kr' m:=by
 obtain⟨l1,l2,l3⟩:=h.lt
 have hc:=h.calm hk
 have hsz:=h.ext.1.size
 refine⟨h1,Ext.claim hc.ext hno (fun k e=>Nat.le_trans hsz (hS k e)),by rw[e1,e2,e3];exact hc.box,⟨by rw[e1];exact h.nbo.1,by rw[e1,hno _ (fun e=>by have:=hS _ e;omega)];exact h.nbo.2⟩, ?_, ?_, ?_, ?_,by rw[e4];exact h.l0⟩
 ·rw[e3,portsFrom_congr (a:=a) (a':=a') _ _ (fun j hj hj2=>⟨by rw[e4],e5 j (by rw[List.length_take]at hj2;omega)⟩)]
  exact hc.pq
 ·intro k e
  rw[e3]at e
  exact⟨(h.pown k e).1,by rw[hno k (fun e2=>by have:=hS k e2;have:=l2 k e;omega)];exact(h.pown k e).2⟩
 ·intro i h2 h3
  rw[e4,lanesTo_congr (a:=a) (a':=a') _ (fun k _=>e6 i k h3)]
  exact hc.lq i h2 h3
 ·intro i h2 h3 k e
  rw[e4]at e
  exact⟨(h.lown i h2 h3 k e).1,by rw[hno k (fun e2=>by have:=hS k e2;have:=l3 i h2 h3 k e;omega)];exact(h.lown i h2 h3 k e).2⟩
theorem NB.wheel (h:NB σ f v g w0 o0 w o a jw jl ks kr m) (hn:σ.node f v=none) (hk:Keeps (fun _=>False) w w') (S:Nat→Prop) (hS:∀k,S k→w.heap.size≤k) (b:Nat) (hB:WheelV w' S b g.ws g.ws 0) (hm:m≤jw) (hm2:m≤(tos g.t v).length):
  ∃o',NB σ f v g w0 o0 w' o' {a with wb:=setAt a.wb jw b} (jw+1) jl ks kr m∧∀k,¬S k→o' k=o k:=by
 obtain⟨o',h1,h2,h3⟩:=b_wheel hn b (Sys.calm h.sys hk) S (fun k e=>h.fresh (hS k e)) hB
 exact⟨o',h.claimed hk hS h1 h3 rfl rfl rfl rfl (fun i hi=>setAt_other _ _ _ _ (by omega)) (fun i k _=>⟨rfl,rfl⟩) hm2,h3⟩
theorem NB.snd (h:NB σ f v g w0 o0 w o a jw jl ks kr m) (hn:σ.node f v=none) (hk:Keeps (fun _=>False) w w') (b:Nat) (hb:w.heap.size≤b) (hB:SendAt w' b g.p.start (W64 (g.p.start+g.p.room))) (hj:1≤jl) (hkl:ks < g.ws.length) (hm:m≤jl) (hm2:m≤(tos g.t v).length):
  ∃o',NB σ f v g w0 o0 w' o' {a with sb:=fun i k=>if i=jl∧k=ks then b else a.sb i k} jw jl (ks+1) kr m∧∀k,k≠b→o' k=o k:=by
 obtain⟨o',h1,h2,h3⟩:=b_snd hn b hj hkl (Sys.calm h.sys hk) (fun k=>k=b) (fun k e=>h.fresh (by omega)) ⟨hB,rfl,fun k e=>by rw[e];exact blk_lt hB⟩
 exact⟨o',h.claimed hk (fun k e=>by omega) h1 h3 rfl rfl rfl rfl (fun i hi=>rfl) (fun i k hi=>⟨if_neg (by omega),rfl⟩) hm2,h3⟩
theorem NB.rcv (h:NB σ f v g w0 o0 w o a jw jl ks kr m) (hn:σ.node f v=none) (hk:Keeps (fun _=>False) w w') (b:Nat) (hb:w.heap.size≤b) (hB:RecvAt w' b g.p.start 0 g.p.room) (hj:1≤jl) (hkl:kr < g.ws.length) (hm:m≤jl) (hm2:m≤(tos g.t v).length):
  ∃o',NB σ f v g w0 o0 w' o' {a with cb:=fun i k=>if i=jl∧k=kr then b else a.cb i k} jw jl ks (kr+1) m∧∀k,k≠b→o' k=o k:=by
 obtain⟨o',h1,h2,h3⟩:=b_rcv hn b hj hkl (Sys.calm h.sys hk) (fun k=>k=b) (fun k e=>h.fresh (by omega)) ⟨hB,rfl,fun k e=>by rw[e];exact blk_lt hB⟩
 exact⟨o',h.claimed hk (fun k e=>by omega) h1 h3 rfl rfl rfl rfl (fun i hi=>rfl) (fun i k hi=>⟨rfl,if_neg (by omega)⟩) hm2,h3⟩
theorem ty_eq {w:World} {b:Nat} {c1 c2:Array Value} {t1 t2:TypeId} (e1:w.heap[b]? =some (.cells c1 t1 (0,0))) (e2:w.heap[b]? =some (.cells c2 t2 (0,0))):t1=t2:=by
 rw[e1]at e2;injection e2 with e2;injection e2
theorem NB.planS (h:NB σ f v g w0 o0 w o a jw jl ks kr m) (hg:σ.geo f=some g):PlanS w (fun k=>o k=some (.plan f)) g.p g.t g.ws g.e g.wt g.nx:=by
 have:=h.sys.part (.plan f)
 simp only[bParts,Sig.part,hg]at this
 exact this
theorem NB.port {U:World} {v':Value} {x:Nat} (h:NB σ f v g w0 o0 w o a jw jl ks kr m) (hx:(tos g.t v)[m]? =some x) (hk:Keeps (fun k=>a.pv.ownBlock=some k) w U) (hq:QS U 165 3 v' (m+1) (portsFrom a 0 ((tos g.t v).take m) ++ portCells a m x))
  (ho:v'.ownBlock=a.pv.ownBlock∨∃b,v'.ownBlock=some b∧w.heap.size≤b) (hl:1≤m→QS w 172 2 (a.lv m) g.ws.length (lanesTo a m g.ws.length)∧∀k,(a.lv m).ownBlock=some k→w0.heap.size≤k∧o k=none):
  NB σ f v g w0 o0 (U.setCell ⟨a.nb,13,none⟩ v') o {a with pv:=v'} jw jl ks kr (m+1)∧
   ∀(b:Nat) (cs:Array Value) (T:TypeId),w.heap[b]? =some (.cells cs T (0,0))→T≠129→T≠165→(U.setCell ⟨a.nb,13,none⟩ v').heap[b]? =some (.cells cs T (0,0)):=by
 have hS:Keeps (fun k=>k=a.nb) U (U.setCell ⟨a.nb,13,none⟩ v'):=Keeps.setCell _ _ _ _ rfl
 have hK:Keeps (fun k=>a.pv.ownBlock=some k∨k=a.nb) w (U.setCell ⟨a.nb,13,none⟩ v'):=(hk.mono (fun _ _ e=> .inl e)).trans (hS.mono (fun _ _ e=> .inr e))
 have hnp:a.pv.ownBlock≠some a.nb:=fun e=>by
  obtain⟨cur,hc⟩:=h.pq.typed _ e
  exact absurd (ty_eq hc h.box) (by decide)
 have hlt:(tos g.t v).length > m:=(List.getElem?_eq_some_iff.1 hx).1
 have hlane:∀{u:Value} {cs:List Value} {n:Nat},QS w 172 2 u n cs→QS (U.setCell ⟨a.nb,13,none⟩ v') 172 2 u n cs:=fun{u cs n} q=>q.keeps hK (fun k e e2=>by
  obtain⟨cur,hc⟩:=q.typed _ e
  rcases e2 with e2 | e2
  ·obtain⟨cur2,hc2⟩:=h.pq.typed _ e2
   exact absurd (ty_eq hc hc2) (by decide)
  ·subst e2
   exact absurd (ty_eq hc h.box) (by decide))
 have hvo:∀k,v'.ownBlock=some k→w0.heap.size≤k∧o k=none:=fun k e=>by
  rcases ho with e2 | ⟨b,e2,e3⟩
  ·rw[e2]at e;exact h.pown k e
  ·rw[e2]at e;cases e
   exact⟨by have:=h.ext.1.size;omega,h.fresh e3⟩
 have hvn:∀k,v'.ownBlock=some k→k≠a.nb:=fun k e e2=>by
  subst e2
  rcases ho with e3 | ⟨b,e3,e4⟩
  ·exact hnp (e3▸e)
  ·rw[e3]at e;cases e
   have:=blk_lt h.box;omega
 have hKn:Keeps (fun k=>w0.heap.size≤k∧o k=none) w (U.setCell ⟨a.nb,13,none⟩ v'):=hK.mono (fun i _ e=>e.elim (fun e=>h.pown i e) (fun e=>e▸h.nbo))
 refine⟨⟨?_,⟨h.ext.1.then hKn (fun i hi hj=>by omega),h.ext.2⟩, ?_,h.nbo, ?_,hvo,fun i h1 h2=> ?_,fun i h1 h2=> ?_,h.l0⟩,fun b cs T hb h1 h2=>blk_keeps hK hb (fun e=> ?_)⟩
 rotate_left 5
 ·rcases e with e | e
  ·obtain⟨cur,hc⟩:=h.pq.typed _ e
   exact h2 (ty_eq hb hc)
  ·exact h1 (ty_eq hb (e▸h.box))
 ·have:=Sys.aside h.sys hKn (fun k e=>e.2)
  rwa[←bParts_addr (a:=a) (a':={a with pv:=v'}) rfl (fun _ _=>rfl) rfl rfl]at this
 ·have hb:=blk_keeps hk h.box (fun e=>hnp e)
  have:=blk_set hb 13 v'
  exact this
 ·have e:(tos g.t v).take (m+1)=(tos g.t v).take m ++ [x]:=by rw[List.take_add_one,hx];rfl
  have e2:portsFrom {a with pv:=v'} 0 ((tos g.t v).take (m+1))=portsFrom a 0 ((tos g.t v).take m) ++ portCells a m x:=by
   rw[e,portsFrom_snoc,List.length_take,Nat.min_eq_left (by omega),Nat.zero_add]
   rw[portsFrom_congr (a:=a) (a':={a with pv:=v'}) _ _ (fun _ _ _=>⟨rfl,rfl⟩)]
   rfl
  rw[e2]
  exact hq.keeps hS hvn
 ·rw[lanesTo_congr (a:=a) (a':={a with pv:=v'}) _ (fun _ _=>⟨rfl,rfl⟩)]
  by_cases e:i=m
  ·subst e;exact hlane (hl h1).1
  ·exact hlane (h.lq i h1 (by omega))
 ·by_cases e:i=m
  ·subst e;exact(hl h1).2
  ·exact h.lown i h1 (by omega)
def fr43 (p0 p1 p2 p5:Value) (u:Nat→Value):Array Value:=(p0 :: p1 :: p2 :: u 3 :: u 4 :: p5 :: u 6 :: u 7 :: u 8 :: u 9 :: u 10 :: u 11 :: u 12 :: u 13 :: u 14 :: u 15 :: u 16 :: u 17 :: u 18 :: u 19 :: u 20 :: u 21 :: u 22 :: u 23 :: u 24 :: u 25 :: u 26 :: u 27 :: u 28 :: u 29 :: u 30 :: u 31 :: u 32 :: u 33 :: u 34 :: u 35 :: u 36 :: u 37 :: u 38 :: u 39 :: u 40 :: u 41 :: u 42 :: u 43 :: u 44 :: u 45 :: u 46 :: u 47 :: u 48 :: u 49 :: u 50 :: u 51 :: u 52 :: u 53 :: u 54 :: u 55 :: u 56 :: u 57 :: u 58 :: u 59 :: u 60 :: u 61 :: u 62 :: u 63 :: u 64 :: u 65 :: u 66 :: u 67 :: u 68 :: u 69 :: u 70 :: u 71 :: u 72 :: u 73 :: u 74 :: u 75 :: u 76 :: u 77 :: u 78 :: u 79 :: u 80 :: u 81 :: u 82 :: u 83 :: u 84 :: u 85 :: u 86 :: u 87 :: u 88 :: u 89 :: u 90 :: u 91 :: u 92 :: u 93 :: u 94 :: u 95 :: u 96 :: u 97 :: u 98 :: u 99 :: u 100 :: u 101 :: u 102 :: u 103 :: u 104 :: u 105 :: u 106 :: u 107 :: u 108 :: u 109 :: u 110 :: u 111 :: u 112 :: u 113 :: u 114 :: u 115 :: u 116 :: u 117 :: u 118 :: u 119 :: u 120 :: u 121 :: u 122 :: u 123 :: []).toArray
set_option maxRecDepth 100000 in
theorem fr43_eq (p0 p1 p2 p5:Value) (u:Nat→Value):fr43 p0 p1 p2 p5 u=((List.range 124).map fun k=>if k=0 then p0 else if k=1 then p1 else if k=2 then p2 else if k=5 then p5 else u k).toArray:=rfl
theorem fr43_of (T:Array Value) (h:T.size=124) {p0 p1 p2 p5:Value} (h0:T.getD 0 undef=p0) (h1:T.getD 1 undef=p1) (h2:T.getD 2 undef=p2) (h5:T.getD 5 undef=p5):∃u,(⟨T,[]⟩:Act)=⟨fr43 p0 p1 p2 p5 u,[]⟩:=by
 refine⟨fun k=>T.getD k undef, ?_⟩
 congr 1
 rw[fr43_eq]
 apply Array.ext
 ·simp[h]
 ·intro i hi hi2
  have e:T[i]=T.getD i undef:=by rw[Array.getD_eq_getD_getElem?,Array.getElem?_eq_getElem hi];rfl
  simp only[List.getElem_toArray,List.getElem_map,List.getElem_range]
  split
  ·rename_i h;subst h;exact e.trans h0
  ·split
   ·rename_i h;subst h;exact e.trans h1
   ·split
    ·rename_i h;subst h;exact e.trans h2
    ·split
     ·rename_i h;subst h;exact e.trans h5
     ·first | rfl | exact e
structure NewAt (σ:Sig) (f v:Nat) (g:Geo) (w0:World) (o0:Nat→Option Cmp) (nb pbx:Nat) (pl:Array Value) (m:Nat) (a:NodeA) (o:Nat→Option Cmp) (W:World):Prop where
 nb:a.nb=nb
 at_:NB σ f v g w0 o0 W o a m m 0 0 m
 box:PBox W pbx pl
 lv:∀i,∃A n c,a.lv i= .slice A n c
theorem cnewA (sent room:Int) (w:World) (h0:sent < 4611686018427387904) (h1:1≤room) (h2:room≤8):
  Calls Tryz.prog 82 #[.int .u64 sent, .int .i64 room] w fun e w'=>∃b,e= .returned (.pointer (some ⟨b,0,none⟩))∧w.heap.size≤b∧Keeps (fun _=>False) w w'∧SendAt w' b sent (W64 (sent+room)):=by
 refine(cnew_runs sent room w h0 h1 h2).mono ?_
 rintro e w' ⟨rfl,rfl⟩
 exact⟨_,rfl,Nat.le_refl _,Keeps.alloc _ _ _,blk_new _ _⟩
theorem bnewA (next room:Int) (w:World) (h0:next < 4611686018427387904) (h1:1≤room) (h2:room≤8):
  Calls Tryz.prog 83 #[.int .u64 next, .int .i64 room] w fun e w'=>∃b,e= .returned (.pointer (some ⟨b,0,none⟩))∧w.heap.size≤b∧Keeps (fun _=>False) w w'∧RecvAt w' b next 0 room:=by
 refine(bnew_runs next room w h0 h1 h2).mono ?_
 rintro e w' ⟨rfl,rfl⟩
 exact⟨_,rfl,Nat.le_refl _,Keeps.alloc _ _ _,blk_new _ _⟩
structure LaneAt (σ:Sig) (f v:Nat) (g:Geo) (w0:World) (o0:Nat→Option Cmp) (nb pbx xb b mb:Nat) (pl mcur:Array Value) (x m k:Nat) (a:NodeA) (o:Nat→Option Cmp) (lx:Value) (W:World):Prop where
 nb:a.nb=nb
 at_:NB σ f v g w0 o0 W o a (m+1) m k k m
 box:PBox W pbx pl
 lv:∀i,∃A n c,a.lv i= .slice A n c
 mat:W.heap[mb]? =some (.cells mcur 3 (0,0))
 xbox:W.heap[xb]? =some (.cells #[.int .i64 (x:Int),lx, .pointer (some ⟨b,0,none⟩)] 165 (0,0))
 xfree:w0.heap.size≤xb∧o xb=none
 wb:a.wb m=b
 row:QS W 172 2 lx k (lanesTo a m k)
 rown:∀q,lx.ownBlock=some q→w0.heap.size≤q∧o q=none
 pvx:a.pv.ownBlock≠some xb
 rlv:∀i,1≤i→i < m→∀q,lx.ownBlock=some q→(a.lv i).ownBlock≠some q
theorem NB.aside (h:NB σ f v g w0 o0 w o a jw jl ks kr m) {F:Nat→Prop} (hk:Keeps F w w') (hF:∀q,F q→(w0.heap.size≤q∧o q=none)∧q≠a.nb∧a.pv.ownBlock≠some q∧∀i,1≤i→i < m→(a.lv i).ownBlock≠some q):NB σ f v g w0 o0 w' o a jw jl ks kr m:=
 ⟨Sys.aside h.sys hk (fun k e=>(hF k e).1.2),⟨h.ext.1.then hk (fun i hi e=>by have:=(hF i e).1.1;omega),h.ext.2⟩,blk_keeps hk h.box (fun e=>(hF _ e).2.1 rfl),h.nbo,h.pq.keeps hk (fun k e e2=>(hF k e2).2.2.1 e),h.pown,
  fun i h1 h2=>(h.lq i h1 h2).keeps hk (fun k e e2=>(hF k e2).2.2.2 i h1 h2 e),h.lown,h.l0⟩
theorem LaneAt.next {nb pbx xb b mb x k b1 b2:Nat} {pl mcur:Array Value} {lx lx':Value} {U1 U2 U3:World} {O:Obj} (h:LaneAt σ f v g w0 o0 nb pbx xb b mb pl mcur x m k a o lx w) (hn:σ.node f v=none) (h1:1≤m) (hkl:k < g.ws.length) (hm:m≤(tos g.t v).length)
  (hk1:Keeps (fun _=>False) w U1) (hb1:w.heap.size≤b1) (hs1:SendAt U1 b1 g.p.start (W64 (g.p.start+g.p.room))) (hk2:Keeps (fun _=>False) U1 U2) (hb2:U1.heap.size≤b2) (hr2:RecvAt U2 b2 g.p.start 0 g.p.room)
  (hg:(U2.alloc O).grownBy U3 lx.ownBlock) (hq:QS U3 172 2 lx' (k+1) (lanesTo a m k ++ [.pointer (some ⟨b1,0,none⟩), .pointer (some ⟨b2,0,none⟩)])) (ho:lx'.ownBlock=lx.ownBlock∨∃c,lx'.ownBlock=some c∧(U2.alloc O).heap.size≤c):
  ∃a' o',LaneAt σ f v g w0 o0 nb pbx xb b mb pl mcur x m (k+1) a' o' lx' (U3.setCell ⟨xb,1,none⟩ lx'):=by
 obtain⟨o3,N1,n1⟩:=h.at_.snd hn hk1 b1 hb1 hs1 h1 hkl (Nat.le_refl _) hm
 obtain⟨o4,N2,n2⟩:=N1.rcv hn hk2 b2 hb2 hr2 h1 hkl (Nat.le_refl _) hm
 have hs:=hk1.size
 have hs2:=hk2.size
 have hk12:=hk1.trans hk2
 have hsA:(U2.alloc O).heap.size=U2.heap.size+1:=World.size_alloc _ _
 have hA:Keeps (fun _=>False) w (U2.alloc O):=hk12.trans (Keeps.alloc _ _ _)
 have hG:Keeps (fun q=>lx.ownBlock=some q) w U3:=(hA.mono (fun _ _ e=>e.elim)).trans (Keeps.grown hg (fun q e=>e))
 have hS:Keeps (fun q=>q=xb) U3 (U3.setCell ⟨xb,1,none⟩ lx'):=Keeps.setCell _ _ _ _ rfl
 have hW:Keeps (fun q=>lx.ownBlock=some q∨q=xb) w (U3.setCell ⟨xb,1,none⟩ lx'):=(hG.mono (fun _ _ e=> .inl e)).trans (hS.mono (fun _ _ e=> .inr e))
 have hW2:Keeps (fun q=>lx.ownBlock=some q∨q=xb) U2 (U3.setCell ⟨xb,1,none⟩ lx'):=(((Keeps.alloc _ _ _).trans (Keeps.grown hg (fun q e=>e))).mono (fun _ _ e=> .inl e)).trans (hS.mono (fun _ _ e=> .inr e))
 have hxlt:=blk_lt h.xbox
 have oo:∀q,q < w.heap.size→o4 q=o q:=fun q hq=>by rw[n2 q (by omega),n1 q (by omega)]
 have tl:∀q,lx.ownBlock=some q→∀{cs:Array Value} {T:TypeId},w.heap[q]? =some (.cells cs T (0,0))→T=172:=fun q e cs T hc=>by
  obtain⟨cur,hc2⟩:=h.row.typed q e
  exact ty_eq hc hc2
 have hne:∀{c:Nat} {cs:Array Value} {T:TypeId},w.heap[c]? =some (.cells cs T (0,0))→T≠172→T≠165→¬(lx.ownBlock=some c∨c=xb):=fun hc t1 t2 e=>by
  rcases e with e | e
  ·exact t1 (tl _ e hc)
  ·rw[e]at hc
   exact t2 (ty_eq hc h.xbox)
 have hlx:∀q,lx'.ownBlock=some q→q≠xb:=fun q e e2=>by
  subst e2
  rcases ho with e3 | ⟨c,e3,e4⟩
  ·rw[e3]at e
   exact absurd (tl _ e h.xbox) (by decide)
  ·rw[e3]at e;cases e
   omega
 refine⟨{a with sb:=fun i k'=>if i=m∧k'=k then b1 else a.sb i k',cb:=fun i k'=>if i=m∧k'=k then b2 else a.cb i k'},o4,h.nb,N2.aside hW2 (fun q e=> ?_),blk_keeps hW h.box (hne h.box (by decide) (by decide)),h.lv,blk_keeps hW h.mat (hne h.mat (by decide) (by decide)), ?_,⟨h.xfree.1,by rw[oo _ hxlt];exact h.xfree.2⟩,h.wb, ?_,fun q e=> ?_,h.pvx,fun i i1 i2 q e=> ?_⟩
 ·rcases e with e | e
  ·have hql:=h.row.lt q e
   refine⟨⟨(h.rown q e).1,by rw[oo q hql];exact(h.rown q e).2⟩,fun e2=> ?_,fun e2=> ?_,fun i i1 i2=>h.rlv i i1 i2 q e⟩
   ·exact absurd (tl q e (e2▸h.at_.box)) (by decide)
   ·obtain⟨cur,hc⟩:=h.at_.pq.typed q e2
    exact absurd (tl q e hc) (by decide)
  ·subst e
   refine⟨⟨h.xfree.1,by rw[oo _ hxlt];exact h.xfree.2⟩,fun e2=> ?_,h.pvx,fun i i1 i2 e2=> ?_⟩
   ·exact absurd (ty_eq h.xbox (e2▸h.at_.box)) (by decide)
   ·obtain⟨cur,hc⟩:=(h.at_.lq i i1 i2).typed _ e2
    exact absurd (ty_eq hc h.xbox) (by decide)
 ·have hx3:U3.heap[xb]? =some (.cells #[.int .i64 (x:Int),lx, .pointer (some ⟨b,0,none⟩)] 165 (0,0)):=blk_keeps hG h.xbox (fun e=>absurd (tl _ e h.xbox) (by decide))
  have:=blk_set hx3 1 lx'
  exact this
 ·have e:lanesTo {a with sb:=fun i k'=>if i=m∧k'=k then b1 else a.sb i k',cb:=fun i k'=>if i=m∧k'=k then b2 else a.cb i k'} m (k+1)=lanesTo a m k ++ [.pointer (some ⟨b1,0,none⟩), .pointer (some ⟨b2,0,none⟩)]:=by
   show lanesTo _ m k ++ [.pointer (some ⟨if m=m∧k=k then b1 else a.sb m k,0,none⟩), .pointer (some ⟨if m=m∧k=k then b2 else a.cb m k,0,none⟩)]=_
   rw[lanesTo_congr (a:=a) (a':={a with sb:=fun i k'=>if i=m∧k'=k then b1 else a.sb i k',cb:=fun i k'=>if i=m∧k'=k then b2 else a.cb i k'}) k (fun k' hk'=>⟨if_neg (by omega),if_neg (by omega)⟩),if_pos ⟨rfl,rfl⟩,if_pos ⟨rfl,rfl⟩]
  rw[e]
  exact hq.keeps hS (fun q e2=>hlx q e2)
 ·rcases ho with e3 | ⟨c,e3,e4⟩
  ·rw[e3]at e
   exact⟨(h.rown q e).1,by rw[oo q (h.row.lt q e)];exact(h.rown q e).2⟩
  ·rw[e3]at e;cases e
   exact⟨by have:=h.at_.ext.1.size;omega,N2.fresh (by omega)⟩
 ·intro e2
  rcases ho with e3 | ⟨c,e3,e4⟩
  ·rw[e3]at e
   exact h.rlv i i1 i2 q e e2
  ·rw[e3]at e;cases e
   have:=(h.at_.lq i i1 i2).lt _ e2
   omega
theorem LaneAt.done {nb pbx xb b mb x:Nat} {pl mcur:Array Value} {lx v':Value} {U:World} (h:LaneAt σ f v g w0 o0 nb pbx xb b mb pl mcur x m g.ws.length a o lx w) (h1:1≤m) (hx:(tos g.t v)[m]? =some x) (hk:Keeps (fun q=>a.pv.ownBlock=some q) w U)
  (hq:QS U 165 3 v' (m+1) (portsFrom a 0 ((tos g.t v).take m) ++ [.int .i64 (x:Int),lx, .pointer (some ⟨b,0,none⟩)])) (ho:v'.ownBlock=a.pv.ownBlock∨∃c,v'.ownBlock=some c∧w.heap.size≤c):
  ∃a' o',NewAt σ f v g w0 o0 nb pbx pl (m+1) a' o' (U.setCell ⟨nb,13,none⟩ v')∧(U.setCell ⟨nb,13,none⟩ v').heap[mb]? =some (.cells mcur 3 (0,0)):=by
 obtain⟨lA,lc,hlx,_,_⟩:=h.row.shape
 have hml:(tos g.t v).length > m:=(List.getElem?_eq_some_iff.1 hx).1
 have hN:NB σ f v g w0 o0 w o {a with lv:=setAt a.lv m lx} (m+1) (m+1) 0 0 m:=by
  have hb:=h.at_
  refine⟨?_,hb.ext,hb.box,hb.nbo, ?_,hb.pown,fun i h1 h2=> ?_,fun i h1 h2=> ?_, ?_⟩
  ·have:=hb.sys
   rw[bParts_next rfl rfl]at this
   rw[bParts_addr (a:=a) (a':={a with lv:=setAt a.lv m lx}) rfl (fun _ _=>rfl) rfl rfl]
   exact this
  ·rw[portsFrom_congr (a:=a) (a':={a with lv:=setAt a.lv m lx}) _ _ (fun j hj hj2=>⟨setAt_other _ _ _ _ (by rw[List.length_take]at hj2;omega),rfl⟩)]
   exact hb.pq
  ·show QS w _ 2 (setAt a.lv m lx i) _ _
   rw[setAt_other _ _ _ _ (by omega),lanesTo_congr (a:=a) (a':={a with lv:=setAt a.lv m lx}) _ (fun _ _=>⟨rfl,rfl⟩)]
   exact hb.lq i h1 h2
  ·show ∀k,(setAt a.lv m lx i).ownBlock=some k→_
   rw[setAt_other _ _ _ _ (by omega)]
   exact hb.lown i h1 h2
  ·show setAt a.lv m lx 0=_
   rw[setAt_other _ _ _ _ (by omega)]
   exact hb.l0
 have hp:=hN.port (U:=U) (v':=v') hx hk (by
   rw[portsFrom_congr (a:=a) (a':={a with lv:=setAt a.lv m lx}) _ _ (fun j hj hj2=>⟨setAt_other _ _ _ _ (by rw[List.length_take]at hj2;omega),rfl⟩)]
   unfold portCells
   simp only[setAt_same,h.wb]
   exact hq) ho (fun _=>by
   show QS w _ 2 (setAt a.lv m lx m) _ _∧∀k,(setAt a.lv m lx m).ownBlock=some k→_
   rw[setAt_same,lanesTo_congr (a:=a) (a':={a with lv:=setAt a.lv m lx}) _ (fun _ _=>⟨rfl,rfl⟩)]
   exact⟨h.row,h.rown⟩)
 have e:=h.nb
 rw[←e]
 refine⟨{a with lv:=setAt a.lv m lx,pv:=v'},o,⟨rfl,hp.1,hp.2 _ _ _ h.box (by decide) (by decide),fun i=> ?_⟩,hp.2 _ _ _ h.mat (by decide) (by decide)⟩
 show ∃A n c,setAt a.lv m lx i= .slice A n c
 by_cases e:i=m
 ·subst e;rw[setAt_same];exact⟨lA,_,lc,hlx⟩
 ·rw[setAt_other _ _ _ _ e];exact h.lv i
theorem lst_zero (n:Nat):lst n (fun _=>0)=List.replicate n 0:=by
 unfold lst
 apply List.ext_getElem?
 intro i
 by_cases hi:i < n
 ·rw[List.getElem?_map,List.getElem?_range hi,List.getElem?_replicate,if_pos hi];rfl
 ·rw[List.getElem?_eq_none (by simp;omega),List.getElem?_eq_none (by simp;omega)]
theorem NB.finish {U1 U2:World} {ab ga aa rb:Nat} (h:NB σ f v g w0 o0 w o a (g.ports v) (g.ports v) 0 0 (g.ports v)) (hg:σ.geo f=some g) (hn:σ.node f v=none)
  (hk1:Keeps (fun _=>False) w U1) (hab:w.heap.size≤ab) (hga:w.heap.size≤ga) (haa:w.heap.size≤aa) (hA:Arb U1 ab (g.ports v) (List.replicate (g.ports v) 0) (List.replicate (g.ports v) 0) ga aa)
  (hk2:Keeps (fun _=>False) (U1.setCell ⟨a.nb,0,none⟩ (.pointer (some ⟨ab,0,none⟩))) U2) (hR:RingsV U2 (fun k=>U1.heap.size≤k∧k < U2.heap.size) rb (g.ports v:Int) g.p.lanes (g.ports v*g.ws.length*g.p.room.toNat) (fun _=>[])):
  ∃o',SysF (σ.set f v {a with rb:=rb,ab:=ab,ga:=ga,aa:=aa} (newS g v)) (U2.setCell ⟨a.nb,15,none⟩ (.pointer (some ⟨rb,0,none⟩))) o'∧Ext o0 w0 o' (U2.setCell ⟨a.nb,15,none⟩ (.pointer (some ⟨rb,0,none⟩))):=by
 obtain⟨l1,l2,l3⟩:=h.lt
 have s1:=hk1.size
 have hc:=h.calm hk1
 have hS1:Keeps (fun k=>k=a.nb) U1 (U1.setCell ⟨a.nb,0,none⟩ (.pointer (some ⟨ab,0,none⟩))):=Keeps.setCell _ _ _ _ rfl
 have s2:=hS1.size
 have s3:=hk2.size
 have hS2:Keeps (fun k=>k=a.nb) U2 (U2.setCell ⟨a.nb,15,none⟩ (.pointer (some ⟨rb,0,none⟩))):=Keeps.setCell _ _ _ _ rfl
 have s4:=hS2.size
 obtain⟨o1,h1,y1,n1⟩:=b_arb (f:=f) (v:=v) hc.sys (none_part hn _ (.inr (.inr (.inl rfl)))) (fun k=>k=ab∨k=ga∨k=aa) (fun k e=>h.fresh (by omega)) (arbPart ab (g.ports v) (List.replicate (g.ports v) 0) (List.replicate (g.ports v) 0) ga aa)
  ⟨hA, .inl rfl, .inr (.inl rfl), .inr (.inr rfl),fun k e=>by rcases e with rfl | rfl | rfl;exact blk_lt hA.box;exact blk_lt hA.gr;exact blk_lt hA.ac⟩
 have o1nb:o1 a.nb=none:=by rw[n1 _ (fun e=>by omega)];exact h.nbo.2
 have h2:=Sys.calm (Sys.aside h1 hS1 (fun k e=>by rw[e];exact o1nb)) hk2
 have fr1:∀k,U1.heap.size≤k→o1 k=none:=fun k hk=>by
  cases e:o1 k with
  | none=>rfl
  | some x=>have:=h1.lt k x e;omega
 obtain⟨o2,h3,y2,n2⟩:=b_rings (f:=f) (v:=v) rb h2 (show(if Cmp.rings f v=Cmp.arb f v then _ else bParts σ f v g a (g.ports v) (g.ports v) 0 0 (.rings f v))=_ by rw[if_neg (fun e=>by cases e)];exact none_part hn _ (.inr (.inl rfl))) (fun k=>U1.heap.size≤k∧k < U2.heap.size) (fun k e=>fr1 k e.1) (ringsPart rb (g.ports v:Int) g.p.lanes (g.ports v*g.ws.length*g.p.room.toNat) (fun _=>[])) hR
 have hns:∀k,k < w.heap.size→o2 k=o k:=fun k hk=>by rw[n2 _ (fun e=>by omega),n1 _ (fun e=>by omega)]
 have o2nb:o2 a.nb=none:=by rw[hns _ l1];exact h.nbo.2
 have h4:=Sys.aside h3 hS2 (fun k e=>by rw[e];exact o2nb)
 have hK:Keeps (fun k=>k=a.nb) w (U2.setCell ⟨a.nb,15,none⟩ (.pointer (some ⟨rb,0,none⟩))):=(((hk1.mono (fun _ _ e=>e.elim)).trans hS1).trans (hk2.mono (fun _ _ e=>e.elim))).trans hS2
 have hbox:(U2.setCell ⟨a.nb,15,none⟩ (.pointer (some ⟨rb,0,none⟩))).heap[a.nb]? =some (.cells #[.pointer (some ⟨ab,0,none⟩), .int .i64 ((g.t.length:Int)+1),g.e, .int .i64 g.p.lanes, .int .i64 g.p.room, .int .i64 g.p.queue, .int .i64 g.p.rounds, .int .i64 g.p.every, .int .i64 g.p.bag,g.wt, .int .u16 g.p.start,g.nx,
  .int .i64 (v:Int),a.pv, .pointer (some ⟨a.hb,0,none⟩), .pointer (some ⟨rb,0,none⟩), .int .i64 0] 129 (0,0)):=by
  have b1:=blk_set hc.box 0 (.pointer (some ⟨ab,0,none⟩))
  have b2:=blk_keeps hk2 b1 (fun h=>h)
  have b3:=blk_set b2 15 (.pointer (some ⟨rb,0,none⟩))
  exact b3
 have npv:∀k,a.pv.ownBlock=some k→k≠a.nb:=fun k e e2=>by
  obtain⟨cur,hc⟩:=h.pq.typed k e
  exact absurd (ty_eq hc (e2▸h.box)) (by decide)
 have nlv:∀i,1≤i→i < g.ports v→∀k,(a.lv i).ownBlock=some k→k≠a.nb:=fun i i1 i2 k e e2=>by
  obtain⟨cur,hc⟩:=(h.lq i i1 i2).typed k e
  exact absurd (ty_eq hc (e2▸h.box)) (by decide)
 have hnode:NodeR (U2.setCell ⟨a.nb,15,none⟩ (.pointer (some ⟨rb,0,none⟩))) (fun k=>k=a.nb∨a.pv.ownBlock=some k∨∃i,1≤i∧i < g.ports v∧(a.lv i).ownBlock=some k) g v {a with rb:=rb,ab:=ab,ga:=ga,aa:=aa} 0:=by
  have ht:(tos g.t v).take (g.ports v)=tos g.t v:=List.take_of_length_le (Nat.le_refl _)
  have hpq:=h.pq
  rw[ht]at hpq
  refine⟨hbox, ?_,fun i i1 i2=> ?_,h.l0,fun k e=>⟨.inr (.inl e),npv k e⟩,fun i i1 i2 k e=>⟨.inr (.inr ⟨i,i1,i2,e⟩),nlv i i1 i2 k e⟩, .inl rfl,fun k e=> ?_⟩
  ·rw[portsFrom_congr (a:=a) (a':={a with rb:=rb,ab:=ab,ga:=ga,aa:=aa}) _ _ (fun _ _ _=>⟨rfl,rfl⟩)]
   exact hpq.keeps hK npv
  ·rw[lanesTo_congr (a:=a) (a':={a with rb:=rb,ab:=ab,ga:=ga,aa:=aa}) _ (fun _ _=>⟨rfl,rfl⟩)]
   exact(h.lq i i1 i2).keeps hK (nlv i i1 i2)
  ·have:k < w.heap.size:=by
    rcases e with e | e | ⟨i,i1,i2,e⟩
    ·omega
    ·exact l2 k e
    ·exact l3 i i1 i2 k e
   have:=hK.size
   omega
 obtain⟨o3,h5,y3,n3⟩:=b_node (f:=f) (v:=v) h4 (show(if Cmp.node f v=Cmp.rings f v then _ else(if Cmp.node f v=Cmp.arb f v then _ else bParts σ f v g a (g.ports v) (g.ports v) 0 0 (.node f v)))=_ by rw[if_neg (fun e=>by cases e),if_neg (fun e=>by cases e)];exact none_part hn _ (.inr (.inr (.inr (.inl rfl)))))
  (fun k=>k=a.nb∨a.pv.ownBlock=some k∨∃i,1≤i∧i < g.ports v∧(a.lv i).ownBlock=some k) (fun k e=>by
   rcases e with e | e | ⟨i,i1,i2,e⟩
   ·rw[e];exact o2nb
   ·rw[hns k (l2 k e)];exact(h.pown k e).2
   ·rw[hns k (l3 i i1 i2 k e)];exact(h.lown i i1 i2 k e).2) (nodePart g v {a with rb:=rb,ab:=ab,ga:=ga,aa:=aa} 0) hnode
 have hall:=all_parts (a:={a with rb:=rb,ab:=ab,ga:=ga,aa:=aa}) hg hn (lst_zero _)
 have hb0:bParts σ f v g {a with rb:=rb,ab:=ab,ga:=ga,aa:=aa} (g.ports v) (g.ports v) 0 0=bParts σ f v g a (g.ports v) (g.ports v) 0 0:=bParts_addr rfl (fun _ _=>rfl) rfl rfl
 simp only[hb0]at hall
 refine⟨o3, ?_, ?_⟩
 ·rw[SysF,←hall]
  exact h5
 ·have hsz:=h.ext.1.size
  refine⟨h.ext.1.then hK (fun i hi e=>by have:=h.nbo.1;omega),fun k hk=> ?_⟩
  rw[n3 k (fun e=>by
   rcases e with e | e | ⟨i,i1,i2,e⟩
   ·have:=h.nbo.1;omega
   ·have:=(h.pown k e).1;omega
   ·have:=(h.lown i i1 i2 k e).1;omega),hns k (by omega)]
  exact h.ext.2 k hk
set_option maxRecDepth 100000 in
set_option maxHeartbeats 16000000 in
theorem nnew_runs (h:SysF σ w o) (hg:σ.geo f=some g) (hn:σ.node f v=none) (hv:v≤g.t.length) (hst:0≤g.p.start∧g.p.start < 65536):
  Calls Tryz.prog 43 #[planV g.p g.t g.e g.wt g.nx, .int .i64 v] w fun e w'=>∃a o',e= .returned (.pointer (some ⟨a.nb,0,none⟩))∧SysF (σ.set f v a (newS g v)) w' o'∧Ext o w o' w'∧∀i,∃A n c,a.lv i= .slice A n c:=by
 have hp:=h.planS hg
 obtain⟨⟨Ea,ec,he⟩,⟨Wa,wc,hw⟩,⟨Na,nc,hnx⟩⟩:=hp.shapes
 have hnums:=hp.nums
 have hlanes:=hp.lanes
 have hchk:=fun U hU=>rcheck_runs (hp.keeps (w':=U) (F:=fun _=>False) hU (fun _ _ h=>h))
 have H:=Lib.hid h
 have HP:=Lib.hid hp
 obtain⟨p,t,ws,ge,gw,gx⟩:=g
 simp only at he hw hnx
 subst he hw hnx
 obtain⟨lanes,room,queue,rounds,every,bag,start⟩:=p
 have hst':0≤start∧start < 65536:=hst
 have hrm':1≤room∧room≤8:=hnums.room
 clear hst
 unfold planV Nums.plan at hchk ⊢
 simp only at hchk ⊢
 have HCHK:=Lib.hid hchk
 have hk0:Keeps (fun _=>False) w (w.alloc (.cells #[.int .i64 ((t.length:Int)+1), .slice Ea t.length ec, .int .i64 lanes, .int .i64 room, .int .i64 queue, .int .i64 rounds, .int .i64 every, .int .i64 bag, .slice Wa ws.length wc, .int .u16 start, .slice Na (t.length+1) nc] 38)):=Keeps.alloc _ _ _
 have hb:PBox (w.alloc (.cells #[.int .i64 ((t.length:Int)+1), .slice Ea t.length ec, .int .i64 lanes, .int .i64 room, .int .i64 queue, .int .i64 rounds, .int .i64 every, .int .i64 bag, .slice Wa ws.length wc, .int .u16 start, .slice Na (t.length+1) nc] 38)) w.heap.size #[.int .i64 ((t.length:Int)+1), .slice Ea t.length ec, .int .i64 lanes, .int .i64 room, .int .i64 queue, .int .i64 rounds, .int .i64 every, .int .i64 bag, .slice Wa ws.length wc, .int .u16 start, .slice Na (t.length+1) nc]:=blk_new w _
 obtain⟨z0,z1,z2,z3,z4,z5,z6,z7,z8,z9,z10,zf⟩:=PBox.all hb
 have HB:=Lib.hid hb
 have HK0:=Lib.hid hk0
 have hv0:¬(v:Int) < 0:=by omega
 have hv1:¬(t.length:Int)+1≤(v:Int):=by simp only at hv;omega
 have HNU:=Lib.hid hnums
 have HLA:=Lib.hid hlanes
 have HST:=Lib.hid hst'
 have HRM:=Lib.hid hrm'
 have HLW:=Lib.hid (p:=1≤ws.length∧ws.length≤3) (by have h1:=hnums.lanes;simp only at h1 hlanes;omega)
 clear h hp hchk hb hk0 zf hnums hlanes hst' hrm'
 go_enter Tryz.func43,Tryz.ntmps43
 go_wp2_with fail
 generalize w.alloc (.cells #[.int .i64 ((t.length:Int)+1), .slice Ea t.length ec, .int .i64 lanes, .int .i64 room, .int .i64 queue, .int .i64 rounds, .int .i64 every, .int .i64 bag, .slice Wa ws.length wc, .int .u16 start, .slice Na (t.length+1) nc] 38)=X at*
 obtain⟨pbx,hpbx⟩:∃pbx,w.heap.size=pbx:=⟨_,rfl⟩
 rw[hpbx]at HB z0 z1 z2 z3 z4 z5 z6 z7 z8 z9 z10 ⊢
 have HPB:=Lib.hid hpbx
 refine(HCHK.out X HK0.out).mono ?_
 rintro e U ⟨rfl,hU⟩
 have hbU:=blk_keeps hU HB.out (fun h=>h)
 obtain⟨y0,y1,y2,y3,y4,y5,y6,y7,y8,y9,y10,yf⟩:=PBox.all (show PBox U pbx _ from hbU)
 have HKU:=Lib.hid (HK0.out.trans hU)
 have HBU:=Lib.hid hbU
 have b0:((0:Int) == 0)=true:=rfl
 have b0':((0:Int) != 0)=false:=rfl
 clear hU hbU HCHK HK0 HB yf z0 z1 z2 z3 z4 z5 z6 z7 z8 z9 z10 hpbx
 go_wp2_with fail
 have HPL:=Lib.hid (p:=∀(F:Nat→Prop) Z,Keeps F U Z→¬F pbx→Z.cell? ⟨pbx,0,none⟩=some (.int .i64 ((t.length:Int)+1))∧Z.cell? ⟨pbx,1,none⟩=some (.slice Ea t.length ec)∧Z.cell? ⟨pbx,2,none⟩=some (.int .i64 lanes)∧Z.cell? ⟨pbx,3,none⟩=some (.int .i64 room)∧Z.cell? ⟨pbx,4,none⟩=some (.int .i64 queue)∧Z.cell? ⟨pbx,5,none⟩=some (.int .i64 rounds)∧Z.cell? ⟨pbx,6,none⟩=some (.int .i64 every)∧Z.cell? ⟨pbx,7,none⟩=some (.int .i64 bag)∧Z.cell? ⟨pbx,8,none⟩=some (.slice Wa ws.length wc)∧Z.cell? ⟨pbx,9,none⟩=some (.int .u16 start)∧Z.cell? ⟨pbx,10,none⟩=some (.slice Na (t.length+1) nc)) fun F Z hZ h1=>⟨hZ.cell y0 h1,hZ.cell y1 h1,hZ.cell y2 h1,hZ.cell y3 h1,hZ.cell y4 h1,hZ.cell y5 h1,hZ.cell y6 h1,hZ.cell y7 h1,hZ.cell y8 h1,hZ.cell y9 h1,hZ.cell y10 h1⟩
 have hdU:Keeps (fun _=>False) U U.drew:=Keeps.drew _ _
 have hsd:=HPL.out _ _ hdU (fun h=>h)
 have HHN:=Lib.hid (hnew_ok lanes queue U.drew HNU.out.lanes.1 HNU.out.lanes.2 HNU.out.queue.1 HNU.out.queue.2)
 have hkH:Keeps (fun _=>False) U (U.alloc (.cells (hostCells lanes queue) 200)):=Keeps.alloc _ _ _
 have hsh:=HPL.out _ _ (hkH.trans (Keeps.drew (fun _=>False) _)) (fun h=>h)
 have hsb:∀o,_:=fun o=>HPL.out _ _ ((hkH.trans (Keeps.alloc (fun _=>False) (U.alloc (.cells (hostCells lanes queue) 200)) o)).trans (Keeps.drew (fun _=>False) _)) (fun h=>h)
 have HSB:=Lib.hid hsb
 clear hsb y0 y1 y2 y3 y4 y5 y6 y7 y8 y9 y10
 go_region_held3 (fun Z=>Z.cell? ⟨pbx,0,none⟩=some (.int .i64 ((t.length:Int)+1))∧Z.cell? ⟨pbx,1,none⟩=some (.slice Ea t.length ec)∧Z.cell? ⟨pbx,2,none⟩=some (.int .i64 lanes)∧Z.cell? ⟨pbx,3,none⟩=some (.int .i64 room)∧Z.cell? ⟨pbx,4,none⟩=some (.int .i64 queue)∧Z.cell? ⟨pbx,5,none⟩=some (.int .i64 rounds)∧Z.cell? ⟨pbx,6,none⟩=some (.int .i64 every)∧Z.cell? ⟨pbx,7,none⟩=some (.int .i64 bag)∧Z.cell? ⟨pbx,8,none⟩=some (.slice Wa ws.length wc)∧Z.cell? ⟨pbx,9,none⟩=some (.int .u16 start)∧Z.cell? ⟨pbx,10,none⟩=some (.slice Na (t.length+1) nc))
  (with_reducible first | exact hsd | exact hsh | exact HSB.out _ | go_keep)
  (first
   | (go_at_call 80;refine HHN.out.mono ?_;rintro e W ⟨rfl,rfl⟩))
 have hkW:Keeps (fun _=>False) U ((U.alloc (.cells (hostCells lanes queue) 200)).alloc (.cells #[.pointer none, .int .i64 ((t.length:Int)+1), .slice Ea t.length ec, .int .i64 lanes, .int .i64 room, .int .i64 queue, .int .i64 rounds, .int .i64 every, .int .i64 bag, .slice Wa ws.length wc, .int .u16 start, .slice Na (t.length+1) nc, .int .i64 (v:Int), .slice none 0 0, .pointer (some ⟨U.heap.size,0,none⟩), .pointer none, .int .i64 0] 129)).drew:=(hkH.trans (Keeps.alloc _ _ _)).trans (Keeps.drew _ _)
 have hSU:=SysF.calm' H.out HKU.out
 have hSW:=SysF.calm' hSU hkW
 have hfrU:∀k,U.heap.size≤k→o k=none:=fun k hk=>SysF.fresh hSU hk
 have hwU:=HKU.out.size
 have hHV:=(HostV.new U lanes queue 200 31).keeps (w':=((U.alloc (.cells (hostCells lanes queue) 200)).alloc (.cells #[.pointer none, .int .i64 ((t.length:Int)+1), .slice Ea t.length ec, .int .i64 lanes, .int .i64 room, .int .i64 queue, .int .i64 rounds, .int .i64 every, .int .i64 bag, .slice Wa ws.length wc, .int .u16 start, .slice Na (t.length+1) nc, .int .i64 (v:Int), .slice none 0 0, .pointer (some ⟨U.heap.size,0,none⟩), .pointer none, .int .i64 0] 129)).drew) ((Keeps.alloc (fun _=>False) _ _).trans (Keeps.drew _ _)) (fun _ _ h=>h)
 obtain⟨o1,hS1,hy1,hn1⟩:=b_host (g:=⟨⟨lanes,room,queue,rounds,every,bag,start⟩,t,ws, .slice Ea t.length ec, .slice Wa ws.length wc, .slice Na (t.length+1) nc⟩) (a:=⟨U.heap.size+1,U.heap.size,0,0,0,0, .slice none 0 0,fun _=> .slice none 0 0,fun _=>0,fun _ _=>0,fun _ _=>0⟩) hn U.heap.size hSW (fun k=>k=U.heap.size) (fun k e=>hfrU k (by omega)) hHV rfl
 have hbN:((U.alloc (.cells (hostCells lanes queue) 200)).alloc (.cells #[.pointer none, .int .i64 ((t.length:Int)+1), .slice Ea t.length ec, .int .i64 lanes, .int .i64 room, .int .i64 queue, .int .i64 rounds, .int .i64 every, .int .i64 bag, .slice Wa ws.length wc, .int .u16 start, .slice Na (t.length+1) nc, .int .i64 (v:Int), .slice none 0 0, .pointer (some ⟨U.heap.size,0,none⟩), .pointer none, .int .i64 0] 129)).drew.heap[U.heap.size+1]? =some (.cells #[.pointer none, .int .i64 ((t.length:Int)+1), .slice Ea t.length ec, .int .i64 lanes, .int .i64 room, .int .i64 queue, .int .i64 rounds, .int .i64 every, .int .i64 bag, .slice Wa ws.length wc, .int .u16 start, .slice Na (t.length+1) nc, .int .i64 (v:Int), .slice none 0 0, .pointer (some ⟨U.heap.size,0,none⟩), .pointer none, .int .i64 0] 129):=by
  have:=blk_new (U.alloc (.cells (hostCells lanes queue) 200)) (.cells #[.pointer none, .int .i64 ((t.length:Int)+1), .slice Ea t.length ec, .int .i64 lanes, .int .i64 room, .int .i64 queue, .int .i64 rounds, .int .i64 every, .int .i64 bag, .slice Wa ws.length wc, .int .u16 start, .slice Na (t.length+1) nc, .int .i64 (v:Int), .slice none 0 0, .pointer (some ⟨U.heap.size,0,none⟩), .pointer none, .int .i64 0] 129)
  rw[World.size_alloc]at this
  exact this
 have hNB:NB σ f v ⟨⟨lanes,room,queue,rounds,every,bag,start⟩,t,ws, .slice Ea t.length ec, .slice Wa ws.length wc, .slice Na (t.length+1) nc⟩ w o ((U.alloc (.cells (hostCells lanes queue) 200)).alloc (.cells #[.pointer none, .int .i64 ((t.length:Int)+1), .slice Ea t.length ec, .int .i64 lanes, .int .i64 room, .int .i64 queue, .int .i64 rounds, .int .i64 every, .int .i64 bag, .slice Wa ws.length wc, .int .u16 start, .slice Na (t.length+1) nc, .int .i64 (v:Int), .slice none 0 0, .pointer (some ⟨U.heap.size,0,none⟩), .pointer none, .int .i64 0] 129)).drew o1 ⟨U.heap.size+1,U.heap.size,0,0,0,0, .slice none 0 0,fun _=> .slice none 0 0,fun _=>0,fun _ _=>0,fun _ _=>0⟩ 0 1 0 0 0:=
  ⟨hS1,Ext.claim (Ext.keeps o (HKU.out.trans hkW)) hn1 (fun k e=>by omega),hbN,⟨by simp only;omega,(hn1 _ (by simp only;omega)).trans (hfrU _ (by simp only;omega))⟩,QS.nil _ _ _,fun k e=>by simp[Value.ownBlock]at e,fun i h1 h2=>absurd h2 (Nat.not_lt_zero _),fun i h1 h2=>absurd h2 (Nat.not_lt_zero _),rfl⟩
 have hplU:=blk_keeps hkW HBU.out (fun h=>h)
 have HPU:=Lib.hid (HP.out.keeps (HKU.out.trans hkW) (fun _ _ h=>h))
 have hpo1:o1 pbx=none∧w.heap.size≤pbx:=⟨(hn1 _ (by have:=blk_lt HBU.out;omega)).trans (SysF.fresh H.out (by rw[HPB.out];exact Nat.le_refl _)),by rw[HPB.out];exact Nat.le_refl _⟩
 have HNB:=Lib.hid hNB
 have HPLU:=Lib.hid hplU
 have HPO1:=Lib.hid hpo1
 clear hNB hplU hkW hSU hSW hHV hS1 hy1 hn1 hbN hkH HSB hsh hsd hdU HHN HPL HBU hpo1 hfrU hwU
 generalize ((U.alloc (.cells (hostCells lanes queue) 200)).alloc (.cells #[.pointer none, .int .i64 ((t.length:Int)+1), .slice Ea t.length ec, .int .i64 lanes, .int .i64 room, .int .i64 queue, .int .i64 rounds, .int .i64 every, .int .i64 bag, .slice Wa ws.length wc, .int .u16 start, .slice Na (t.length+1) nc, .int .i64 (v:Int), .slice none 0 0, .pointer (some ⟨U.heap.size,0,none⟩), .pointer none, .int .i64 0] 129)).drew=X1 at*
 generalize U.heap.size=hb at*
 go_wp2_with fail
 have hd1:Keeps (fun _=>False) X1 X1.drew:=Keeps.drew _ _
 have HWN:=Lib.hid (wnew_runs (.slice Wa ws.length wc) ws X1.drew (HPU.out.wq.keeps hd1 (fun _ _ h=>h)) HPU.out.weights HLW.out.1 HLW.out.2)
 have HC:=Lib.hid (p:=∀Z,Keeps (fun _=>False) X1 Z→Z.cell? ⟨hb+1,13,none⟩=some (.slice none 0 0)∧Z.cell? ⟨pbx,8,none⟩=some (.slice Wa ws.length wc)) fun Z hZ=>⟨by rw[blk_cell (blk_keeps hZ HNB.out.box (fun h=>h))];rfl,by rw[blk_cell (blk_keeps hZ HPLU.out (fun h=>h))];rfl⟩
 have HSA:=Lib.hid (p:=∀(U:World) (b:Nat),Src Tryz.prog 3 126 (.slice (some ⟨U.heap.size,0,none⟩) 1 1) 1 [.int .i64 (v:Int), .slice none 0 0, .pointer (some ⟨b,0,none⟩)] (U.alloc (.cells #[.int .i64 (v:Int), .slice none 0 0, .pointer (some ⟨b,0,none⟩)] 165))) fun U b=>
  src_blk Tryz.underlying126 (blk_new U _) rfl (by intro jj hjj';match jj,hjj' with | 0,_=>rfl | 1,_=>rfl | 2,_=>rfl) (by intro y hy;simp at hy;rcases hy with rfl | rfl | rfl <;>rfl)
 have HST:=Lib.hid (p:=∀U o U2,Keeps (fun _=>False) X1 U→(U.alloc o).grownBy U2 (Value.slice none 0 0).ownBlock→U2.cell? ⟨hb+1,13,none⟩=some (.slice none 0 0)∧U2.frozen? ⟨hb+1,13,none⟩=false) fun U o U2 hU hg=>by
  have hbx:=blk_keeps (hU.trans (Keeps.alloc _ _ o)) HNB.out.box (fun h=>h)
  have hb2:=(hg.block (hb+1) (blk_lt hbx) (fun e=>by simp[Value.ownBlock]at e)).trans hbx
  exact⟨by rw[blk_cell hb2];rfl,blk_frozen hb2 13⟩
 obtain⟨k1,k2⟩:=HC.out X1 (Keeps.refl _ _)
 obtain⟨m1,m2⟩:=HC.out _ hd1
 have h40:0 < 40:=by decide
 have hb40:(0+1)*40≤140737488355328:=by decide
 obtain⟨QM,hQM⟩:∃QM:Act→World→Prop,QM=(fun a W=>(∃aN oN,NewAt σ f v ⟨⟨lanes,room,queue,rounds,every,bag,start⟩,t,ws, .slice Ea t.length ec, .slice Wa ws.length wc, .slice Na (t.length+1) nc⟩ w o (hb+1) pbx #[.int .i64 ((t.length:Int)+1), .slice Ea t.length ec, .int .i64 lanes, .int .i64 room, .int .i64 queue, .int .i64 rounds, .int .i64 every, .int .i64 bag, .slice Wa ws.length wc, .int .u16 start, .slice Na (t.length+1) nc] 1 aN oN W)∧∃u:Nat→Value,a=⟨fr43 (.agg #[.int .i64 ((t.length:Int)+1), .slice Ea t.length ec, .int .i64 lanes, .int .i64 room, .int .i64 queue, .int .i64 rounds, .int .i64 every, .int .i64 bag, .slice Wa ws.length wc, .int .u16 start, .slice Na (t.length+1) nc]) (.int .i64 (v:Int)) (.pointer (some ⟨pbx,0,none⟩)) (.pointer (some ⟨hb+1,0,none⟩)) u,[]⟩):=⟨_,rfl⟩
 have HQM:=Lib.hid hQM
 clear hQM
 refine Code.wp_mono (Q:=fun e a W=>match e with | .normal=>QM a W | _=>False) ?_ ?_
 case refine_2=>
  go_region_law (first
   | (refine step_append_QS rfl (.tmp 35) (.tmp 41) 126 126 rfl 165 _ 3 40 Tryz.underlying126 info_port rfl _ 0 [] rfl (QS.nil _ _ _) _ 1 _ rfl (HSA.out _ b) h40 hb40 ?_;intro A2 c2 U2 hq2 hg2 ho2;obtain⟨hbU2,hfU2⟩:=HST.out _ _ _ hk hg2)
   | (go_simp;go_at_call 81;refine HWN.out.mono ?_;rintro e U ⟨b,rfl,hbs,hk0,hWV⟩;have hk:=hd1.trans hk0;obtain⟨n1,n2⟩:=HC.out _ hk;have hn3:∀o,(U.alloc o).cell? ⟨hb+1,13,none⟩=some (.slice none 0 0):=fun o=>(HC.out _ (hk.trans (Keeps.alloc _ _ o))).1))
  all_goals
   have hg:(U.alloc (.cells #[.int .i64 (v:Int), .slice none 0 0, .pointer (some ⟨b,0,none⟩)] 165)).grownBy U2 (Value.slice none 0 0).ownBlock:=hg2
   have hq3:QS U2 165 3 (.slice A2 (0+1) c2) (0+1) ([] ++ [.int .i64 (v:Int), .slice none 0 0, .pointer (some ⟨b,0,none⟩)]):=hq2
   have ho3:(Value.slice A2 (0+1) c2).ownBlock=(Value.slice none 0 0).ownBlock∨∃b',(Value.slice A2 (0+1) c2).ownBlock=some b'∧(U.alloc (.cells #[.int .i64 (v:Int), .slice none 0 0, .pointer (some ⟨b,0,none⟩)] 165)).heap.size≤b':=ho2
   clear hg2 hq2 ho2 n1 n2 hn3 m1 m2 k1 k2 hbU2 hfU2 HST HSA HC HWN
   obtain⟨o2,hN2,hno2⟩:=HNB.out.wheel hn hk _ (fun k e=>e.elim (fun e=>e.elim) (fun e=>e.1)) b hWV (Nat.le_refl _) (Nat.zero_le _)
   have hN3:=hN2.port (U:=U2) (v':= .slice A2 (0+1) c2) (x:=v) rfl ((Keeps.alloc _ _ _).trans (Keeps.grown hg (fun k e=>e))) hq3 (ho3.imp id (fun⟨b',e1,e2⟩=>⟨b',e1,by rw[World.size_alloc]at e2;omega⟩)) (fun h=>absurd h (by decide))
   show QM _ _
   rw[HQM.out]
   refine⟨⟨_,o2,rfl,hN3.1,hN3.2 _ _ _ (blk_keeps hk HPLU.out (fun h=>h)) (by decide) (by decide),fun i=>⟨none,0,0,rfl⟩⟩, ?_⟩
   exact fr43_of _ rfl rfl rfl rfl rfl
 intro e a W hMid
 cases e
 rotate_left
 all_goals first | exact hMid.elim | skip
 have hMid2:QM a W:=hMid
 rw[HQM.out]at hMid2
 clear HQM hMid
 obtain⟨⟨aN,oN,hNA⟩,u,rfl⟩:=hMid2
 unfold fr43
 clear HST HSA HC HWN k1 k2 m1 m2 h40 hb40 hd1 HNB HPLU HPO1
 obtain⟨l0,l1,l2,l3,l4,l5,l6,l7,l8,l9,l10,_⟩:=PBox.all hNA.box
 have hbs:=beside_runs (hNA.at_.planS hg) v hv
 unfold planV Nums.plan at hbs
 simp only at hbs
 have HBS:=Lib.hid hbs
 have HNA:=Lib.hid hNA
 clear hNA hbs
 go_wp2_with fail
 refine HBS.out.mono ?_
 rintro e U ⟨nbA,nbc,rfl,hNQ,hU,hun⟩
 have hnb1:=nb_rises HP.out.tree HP.out.t5 hv
 have hlen:1≤(nb t v).length∧(nb t v).length≤5:=⟨by rcases hnb1.2.2.2.2 with h | h;exact h;have:=HP.out.t1;omega,hnb1.2.2.1⟩
 obtain⟨mb,moff,mcap,mcur,hme,hmb,hmc⟩:=QS.wholeI hNQ hlen.1
 injection hme with hme1 hme2 hme3
 subst hme1 hme3
 clear hme2
 have hNU:NewAt σ f v ⟨⟨lanes,room,queue,rounds,every,bag,start⟩,t,ws, .slice Ea t.length ec, .slice Wa ws.length wc, .slice Na (t.length+1) nc⟩ w o (hb+1) pbx #[.int .i64 ((t.length:Int)+1), .slice Ea t.length ec, .int .i64 lanes, .int .i64 room, .int .i64 queue, .int .i64 rounds, .int .i64 every, .int .i64 bag, .slice Wa ws.length wc, .int .u16 start, .slice Na (t.length+1) nc] 1 aN oN U:=⟨HNA.out.nb,HNA.out.at_.calm hU,blk_keeps hU HNA.out.box (fun h=>h),HNA.out.lv⟩
 have HNU2:=Lib.hid hNU
 have HMB:=Lib.hid hmb
 have HMC:=Lib.hid (p:=∀(j x:Nat),(nb t v)[j]? =some x→mcur[moff+j]? =some (.int .i64 (x:Int))) fun j x hx=>hmc j _ (by rw[List.getElem?_map,hx];rfl)
 have HLEN:=Lib.hid hlen
 clear hNU hmb hmc hNQ hU hun hnb1 hlen HBS HNA l0 l1 l2 l3 l4 l5 l6 l7 l8 l9 l10
 go_wp2_with fail
 go_loopw [49] (fun c wr=>∃(j:Nat) (a:NodeA) (o':Nat→Option Cmp),j≤(nb t v).length∧c= .int .i64 (j:Int)∧NewAt σ f v ⟨⟨lanes,room,queue,rounds,every,bag,start⟩,t,ws, .slice Ea t.length ec, .slice Wa ws.length wc, .slice Na (t.length+1) nc⟩ w o (hb+1) pbx #[.int .i64 ((t.length:Int)+1), .slice Ea t.length ec, .int .i64 lanes, .int .i64 room, .int .i64 queue, .int .i64 rounds, .int .i64 every, .int .i64 bag, .slice Wa ws.length wc, .int .u16 start, .slice Na (t.length+1) nc] (j+1) a o' wr∧wr.heap[mb]? =some (.cells mcur 3 (0,0))) (fun c _=>(nb t v).length - (intOf c).toNat)
 case atStart=>exact⟨0,aN,oN,Nat.zero_le _,rfl,HNU2.out,HMB.out⟩
 case round=>
  clear HNU2 HMB
  obtain⟨j,a,o',hj,rfl,hA,hM⟩:=hrel
  by_cases hjl:j < (nb t v).length
  ·have hji:(j:Int) < ((nb t v).length:Int):=by omega
   have hj0:(0:Int)≤(j:Int):=by omega
   obtain⟨x,hx⟩:∃x,(nb t v)[j]? =some x:=⟨_,List.getElem?_eq_getElem hjl⟩
   have cm:wr.cell? ⟨mb,moff+j,none⟩=some (.int .i64 (x:Int)):=by rw[blk_cell hM];exact HMC.out j x hx
   obtain⟨l0,l1,l2,l3,l4,l5,l6,l7,l8,l9,l10,_⟩:=PBox.all hA.box
   have HWN:=Lib.hid (wnew_runs (.slice Wa ws.length wc) ws wr (hA.at_.planS hg).wq (hA.at_.planS hg).weights HLW.out.1 HLW.out.2)
   have HX:=Lib.hid hx
   have HA:=Lib.hid hA
   have HM:=Lib.hid hM
   clear hA hM hx l0 l1 l2 l3 l4 l5 l6 l7 l9 l10
   go_wp2_with fail
   refine HWN.out.mono ?_
   rintro e U ⟨b,rfl,hbs,hU,hWV⟩
   obtain⟨o2,hN2,hno2⟩:=HA.out.at_.wheel hn hU _ (fun k e=>e.elim (fun e=>e.elim) (fun e=>e.1)) b hWV (Nat.le_refl _) (by show j+1≤(nb t v).length+1;omega)
   have hkP:Keeps (fun _=>False) U (U.alloc (.cells #[.int .i64 (x:Int), .slice none 0 0, .pointer (some ⟨b,0,none⟩)] 165)):=Keeps.alloc _ _ _
   have hbP:=blk_new U (.cells #[.int .i64 (x:Int), .slice none 0 0, .pointer (some ⟨b,0,none⟩)] 165)
   have hfP:o2 U.heap.size=none:=hN2.fresh (Nat.le_refl _)
   have hN3:=hN2.calm hkP
   have hM3:=blk_keeps (hU.trans hkP) HM.out (fun h=>h)
   have hB3:=blk_keeps (hU.trans hkP) HA.out.box (fun h=>h)
   obtain⟨l0,l1,l2,l3,l4,l5,l6,l7,l8,l9,l10,_⟩:=PBox.all (show PBox _ pbx _ from hB3)
   have hLA:LaneAt σ f v ⟨⟨lanes,room,queue,rounds,every,bag,start⟩,t,ws, .slice Ea t.length ec, .slice Wa ws.length wc, .slice Na (t.length+1) nc⟩ w o (hb+1) pbx U.heap.size b mb #[.int .i64 ((t.length:Int)+1), .slice Ea t.length ec, .int .i64 lanes, .int .i64 room, .int .i64 queue, .int .i64 rounds, .int .i64 every, .int .i64 bag, .slice Wa ws.length wc, .int .u16 start, .slice Na (t.length+1) nc] mcur x (j+1) 0 {a with wb:=setAt a.wb (j+1) b} o2 (.slice none 0 0) (U.alloc (.cells #[.int .i64 (x:Int), .slice none 0 0, .pointer (some ⟨b,0,none⟩)] 165)):=
    ⟨HA.out.nb,hN3,hB3,HA.out.lv,hM3,hbP,⟨Nat.le_trans HA.out.at_.ext.1.size hU.size,hfP⟩,setAt_same _ _ _,QS.nil _ _ _,fun q e=>(by simp[Value.ownBlock]at e),fun e=>(by have:=HA.out.at_.pq.lt _ e;have:=hU.size;omega),fun i i1 i2 q e=>(by simp[Value.ownBlock]at e)⟩
   have HLA0:=Lib.hid hLA
   clear hLA hN2 hN3 hM3 hB3 hbP hkP hU hWV hbs HWN cm l0 l1 l3 l4 l5 l6 l7 l8 l9 l10 hfP
   go_wp2_with fail
   generalize U.alloc (.cells #[.int .i64 (x:Int), .slice none 0 0, .pointer (some ⟨b,0,none⟩)] 165)=Y at*
   generalize U.heap.size=xb at*
   go_loopw [60] (fun c wr=>∃(k:Nat) (a:NodeA) (o':Nat→Option Cmp) (lx:Value),k≤ws.length∧c= .int .i64 (k:Int)∧LaneAt σ f v ⟨⟨lanes,room,queue,rounds,every,bag,start⟩,t,ws, .slice Ea t.length ec, .slice Wa ws.length wc, .slice Na (t.length+1) nc⟩ w o (hb+1) pbx xb b mb #[.int .i64 ((t.length:Int)+1), .slice Ea t.length ec, .int .i64 lanes, .int .i64 room, .int .i64 queue, .int .i64 rounds, .int .i64 every, .int .i64 bag, .slice Wa ws.length wc, .int .u16 start, .slice Na (t.length+1) nc] mcur x (j+1) k a o' lx wr) (fun c _=>ws.length - (intOf c).toNat)
   case atStart=>exact⟨0,_,_,_,Nat.zero_le _,rfl,HLA0.out⟩
   case round=>
    clear HLA0
    obtain⟨k,a,o',lx,hk,rfl,hL⟩:=hrel
    by_cases hkl:k < ws.length
    ·have hkk:(k:Int) < lanes:=by have:=HLA.out;omega
     have hk0:(0:Int)≤(k:Int):=by omega
     obtain⟨lA,lc,hlx,_,_⟩:=hL.row.shape
     have hL2:=hL
     subst hlx
     have HLX:=Lib.hid hL
     clear hL hL2
     have HC:=Lib.hid (p:=∀Z,Keeps (fun _=>False) wr Z→Z.cell? ⟨xb,1,none⟩=some (.slice lA k lc)∧Z.cell? ⟨pbx,9,none⟩=some (.int .u16 start)∧Z.cell? ⟨pbx,3,none⟩=some (.int .i64 room)) fun Z hZ=>⟨by rw[blk_cell (blk_keeps hZ HLX.out.xbox (fun h=>h))];rfl,by rw[blk_cell (blk_keeps hZ HLX.out.box (fun h=>h))];rfl,by rw[blk_cell (blk_keeps hZ HLX.out.box (fun h=>h))];rfl⟩
     have hst1:IntKind.u64.wrap start=start:=by have:=HST.out;simp[IntKind.wrap,IntKind.bits,IntKind.signed];omega
     have hst2:start < 4611686018427387904:=by have:=HST.out;omega
     have HCN:=Lib.hid (p:=∀U,Calls Tryz.prog 82 #[.int .u64 start, .int .i64 room] U _) fun U=>cnewA start room U hst2 HRM.out.1 HRM.out.2
     have HBN:=Lib.hid (p:=∀U,Calls Tryz.prog 83 #[.int .u64 start, .int .i64 room] U _) fun U=>bnewA start room U hst2 HRM.out.1 HRM.out.2
     have hd1:Keeps (fun _=>False) wr wr.drew:=Keeps.drew _ _
     have HQA:=Lib.hid (p:=∀U o,Keeps (fun _=>False) wr U→QS (U.alloc o) 172 2 (.slice lA k lc) k (lanesTo a (j+1) k)) fun U o hU=>(HLX.out.row.keeps hU (fun _ _ h=>h)).alloc o
     have HSA:=Lib.hid (p:=∀(U:World) (b1 b2:Nat),Src Tryz.prog 2 163 (.slice (some ⟨U.heap.size,0,none⟩) 1 1) 1 [.pointer (some ⟨b1,0,none⟩), .pointer (some ⟨b2,0,none⟩)] (U.alloc (.cells #[.pointer (some ⟨b1,0,none⟩), .pointer (some ⟨b2,0,none⟩)] 172))) fun U b1 b2=>
      src_blk Tryz.underlying163 (blk_new U _) rfl (by intro jj hjj';match jj,hjj' with | 0,_=>rfl | 1,_=>rfl) (by intro y hy;simp at hy;rcases hy with rfl | rfl <;>rfl)
     have hxl:∀q,(Value.slice lA k lc).ownBlock=some q→q≠xb:=fun q e e2=>by
      subst e2
      obtain⟨cur,hc⟩:=HLX.out.row.typed _ e
      exact absurd (ty_eq hc HLX.out.xbox) (by decide)
     have HXL:=Lib.hid hxl
     have HSTX:=Lib.hid (p:=∀U o U2,Keeps (fun _=>False) wr U→(U.alloc o).grownBy U2 (Value.slice lA k lc).ownBlock→U2.cell? ⟨xb,1,none⟩=some (.slice lA k lc)∧U2.frozen? ⟨xb,1,none⟩=false) fun U o U2 hU hg=>by
      have hbx:=blk_keeps (hU.trans (Keeps.alloc _ _ o)) HLX.out.xbox (fun h=>h)
      have hb2:=(hg.block xb (blk_lt hbx) (fun e=>HXL.out xb e.symm rfl)).trans hbx
      exact⟨by rw[blk_cell hb2];rfl,blk_frozen hb2 1⟩
     obtain⟨c1,c2,c3⟩:=HC.out wr (Keeps.refl _ _)
     obtain⟨d1,d2,d3⟩:=HC.out _ hd1
     have h16:0 < 16:=by decide
     have hb16:(k+1)*16≤140737488355328:=by have:=HLW.out;omega
     clear hxl
     go_wp2_with fail
     obtain⟨PM,hPM⟩:∃PM:World→Prop,PM=fun W=>∃a o' lx,LaneAt σ f v ⟨⟨lanes,room,queue,rounds,every,bag,start⟩,t,ws, .slice Ea t.length ec, .slice Wa ws.length wc, .slice Na (t.length+1) nc⟩ w o (hb+1) pbx xb b mb #[.int .i64 ((t.length:Int)+1), .slice Ea t.length ec, .int .i64 lanes, .int .i64 room, .int .i64 queue, .int .i64 rounds, .int .i64 every, .int .i64 bag, .slice Wa ws.length wc, .int .u16 start, .slice Na (t.length+1) nc] mcur x (j+1) (k+1) a o' lx W:=⟨_,rfl⟩
     have HPM:=Lib.hid hPM
     clear hPM
     have hsd:=(HC.out _ hd1).2
     have hxp:∀q,(Value.slice lA k lc).ownBlock=some q→q≠pbx:=fun q e e2=>by
      subst e2
      obtain⟨cur,hc⟩:=HLX.out.row.typed _ e
      exact absurd (ty_eq hc HLX.out.box) (by decide)
     have hxp2:xb≠pbx:=fun e=>by
      have hc:=HLX.out.xbox
      rw[e]at hc
      exact absurd (ty_eq hc HLX.out.box) (by decide)
     have HS45:=Lib.hid (p:=∀U o U2 vv,Keeps (fun _=>False) wr U→(U.alloc o).grownBy U2 (Value.slice lA k lc).ownBlock→(U2.cell? ⟨pbx,9,none⟩=some (.int .u16 start)∧U2.cell? ⟨pbx,3,none⟩=some (.int .i64 room))∧((U2.setCell ⟨xb,1,none⟩ vv).cell? ⟨pbx,9,none⟩=some (.int .u16 start)∧(U2.setCell ⟨xb,1,none⟩ vv).cell? ⟨pbx,3,none⟩=some (.int .i64 room))) fun U o U2 vv hU hg=>by
      obtain⟨_,q1,q2⟩:=HC.out _ (hU.trans (Keeps.alloc _ _ o))
      have kg:Keeps (fun q=>(Value.slice lA k lc).ownBlock=some q) (U.alloc o) U2:=Keeps.grown hg (fun q e=>e)
      have ks:Keeps (fun q=>q=xb) U2 (U2.setCell ⟨xb,1,none⟩ vv):=Keeps.setCell _ _ _ _ rfl
      have r1:=kg.cell q1 (fun e=>hxp _ e rfl)
      have r2:=kg.cell q2 (fun e=>hxp _ e rfl)
      exact⟨⟨r1,r2⟩,ks.cell r1 (fun e=>hxp2 e.symm),ks.cell r2 (fun e=>hxp2 e.symm)⟩
     clear hxp hxp2 c2 c3 d2 d3
     refine wp_mid 62 18 PM ?_ ?_
     ·intro M hM
      have HMM:=Lib.hid hM
      clear hM
      rw[show Op.load 163 (Operand.tmp 62)=lateLoad 163 62 from rfl]
      go_region_held3 (fun Z=>Z.cell? ⟨pbx,9,none⟩=some (.int .u16 start)∧Z.cell? ⟨pbx,3,none⟩=some (.int .i64 room))
       (with_reducible first | exact hsd | exact hs1' | exact hs2' | exact hs3' _ | exact hs4' | exact hs5' | go_keep)
       (first
       | (refine step_append_QS rfl (.tmp 63) (.tmp 77) 163 163 rfl 172 _ 2 16 Tryz.underlying163 info_lane rfl _ k _ rfl (HQA.out _ _ hk2) _ 1 _ rfl (HSA.out _ b1 b2) h16 hb16 ?_;intro A2 c2_ U3 hq2 hg2 ho2;obtain⟨hbU3,hfU3⟩:=HSTX.out _ _ _ hk2 hg2;obtain⟨hs4',hs5'⟩:=HS45.out _ _ _ (.slice A2 (k+1) c2_) hk2 hg2)
       | (go_at_call 82;refine(HCN.out _).mono ?_;rintro e U1 ⟨b1,rfl,hb1,hk1',hs1⟩;have hk1:=hd1.trans hk1';obtain⟨e1,hs1'⟩:=HC.out _ hk1)
       | (go_at_call 83;refine(HBN.out _).mono ?_;rintro e U2 ⟨b2,rfl,hb2,hk2',hr2⟩;have hk2:=hk1.trans hk2';obtain⟨f1,hs2'⟩:=HC.out _ hk2;have f4:∀o,(U2.alloc o).cell? ⟨xb,1,none⟩=some (.slice lA k lc):=fun o=>(HC.out _ (hk2.trans (Keeps.alloc _ _ o))).1;have hs3':=fun o=>(HC.out _ (hk2.trans (Keeps.alloc (fun _=>False) U2 o))).2))
      all_goals
       show M _ _
       refine HMM.out _ _ (mid_frame rfl rfl rfl) ?_
       rw[HPM.out]
       have hg:(U2.alloc (.cells #[.pointer (some ⟨b1,0,none⟩), .pointer (some ⟨b2,0,none⟩)] 172)).grownBy U3 (Value.slice lA k lc).ownBlock:=hg2
       have hq3:QS U3 172 2 (.slice A2 (k+1) c2_) (k+1) (lanesTo a (j+1) k ++ [.pointer (some ⟨b1,0,none⟩), .pointer (some ⟨b2,0,none⟩)]):=hq2
       have ho3:(Value.slice A2 (k+1) c2_).ownBlock=(Value.slice lA k lc).ownBlock∨∃c,(Value.slice A2 (k+1) c2_).ownBlock=some c∧(U2.alloc (.cells #[.pointer (some ⟨b1,0,none⟩), .pointer (some ⟨b2,0,none⟩)] 172)).heap.size≤c:=ho2
       obtain⟨a',o'',hfin⟩:=HLX.out.next hn (by omega) hkl (by show j+1≤(nb t v).length+1;omega) hk1 hb1 hs1 hk2' hb2 hr2 hg hq3 ho3
       exact⟨a',o'',_,hfin⟩
     ·intro fu W hP
      rw[HPM.out]at hP
      obtain⟨a',o'',lx',hfin⟩:=hP
      simp only[List.take_succ_cons,List.take_zero,List.drop_succ_cons,List.drop_zero,List.cons_append,List.nil_append]
      have HFIN:=Lib.hid hfin
      clear hfin c1 d1 hsd HC HCN HBN HQA HSA HSTX HS45 HXL HLX hst1 hst2 HPM
      go_wp2_with fail
      go_roundw
      case rel=>exact⟨k+1,a',o'',lx',by omega,by go_num,HFIN.out⟩
      case measure=>simp[intOf];omega
    ·obtain rfl:k=ws.length:=by omega
     have hkk:¬((ws.length:Nat):Int) < lanes:=by have:=HLA.out;omega
     obtain⟨lA,lc,hlx,_,_⟩:=hL.row.shape
     subst hlx
     obtain⟨pA,pc,hpv,hpc,_⟩:=hL.at_.pq.shape
     have hbx:=hL.at_.box
     have hnb:=hL.nb
     rw[hnb]at hbx
     have c13:wr.cell? ⟨hb+1,13,none⟩=some (.slice pA (j+1) pc):=by rw[blk_cell hbx,←hpv];rfl
     have q0:=blk_cell hL.xbox 0
     have q1:=blk_cell hL.xbox 1
     have q2:=blk_cell hL.xbox 2
     simp only[List.getElem?_toArray,List.getElem?_cons_zero,List.getElem?_cons_succ]at q0 q1 q2
     have hka:Keeps (fun _=>False) wr (wr.alloc (.cells #[.int .i64 (x:Int), .slice lA ws.length lc, .pointer (some ⟨b,0,none⟩)] 165)):=Keeps.alloc _ _ _
     have d13:=hka.cell c13 (fun h=>h)
     have r0:=hka.cell q0 (fun h=>h)
     have r1:=hka.cell q1 (fun h=>h)
     have r2:=hka.cell q2 (fun h=>h)
     have hpq:=hL.at_.pq
     rw[hpv]at hpq
     have hQ':QS (wr.alloc (.cells #[.int .i64 (x:Int), .slice lA ws.length lc, .pointer (some ⟨b,0,none⟩)] 165)).drew 165 3 (.slice pA (j+1) pc) (j+1) (portsFrom a 0 ((tos t v).take (j+1))):=(hpq.alloc _).drew
     have hSr:Src Tryz.prog 3 126 (.slice (some ⟨wr.heap.size,0,none⟩) 1 1) 1 [.int .i64 (x:Int), .slice lA ws.length lc, .pointer (some ⟨b,0,none⟩)] (wr.alloc (.cells #[.int .i64 (x:Int), .slice lA ws.length lc, .pointer (some ⟨b,0,none⟩)] 165)).drew:=
      src_blk Tryz.underlying126 (blk_new wr _) rfl (by intro jj hjj';match jj,hjj' with | 0,_=>rfl | 1,_=>rfl | 2,_=>rfl) (by intro y hy;simp at hy;rcases hy with rfl | rfl | rfl <;>rfl)
     have hnp:(Value.slice pA (j+1) pc).ownBlock≠some (hb+1):=fun e=>by
      obtain⟨cur,hc⟩:=hpq.typed _ e
      exact absurd (ty_eq hc hbx) (by decide)
     have HNP:=Lib.hid hnp
     have HBX:=Lib.hid hbx
     have HSTX:=Lib.hid (p:=∀U2,World.grownBy (wr.alloc (.cells #[.int .i64 (x:Int), .slice lA ws.length lc, .pointer (some ⟨b,0,none⟩)] 165)).drew U2 (Value.slice pA (j+1) pc).ownBlock→U2.cell? ⟨hb+1,13,none⟩=some (.slice pA (j+1) pc)∧U2.frozen? ⟨hb+1,13,none⟩=false) fun U2 hg=>by
      have hb1:=blk_keeps (hka.trans (Keeps.drew _ _)) HBX.out (fun h=>h)
      have hb2:=(hg.block (hb+1) (blk_lt hb1) (fun e=>HNP.out e.symm)).trans hb1
      exact⟨by rw[blk_cell hb2,←hpv];rfl,blk_frozen hb2 13⟩
     have h40:0 < 40:=by decide
     have hb40:(j+1+1)*40≤140737488355328:=by have:=HLEN.out;omega
     have HPV:=Lib.hid hpv
     have HL:=Lib.hid hL
     clear hL hbx hnb hpq hnp hpv
     go_wp2_with fail
     obtain⟨PM,hPM⟩:∃PM:World→Prop,PM=fun W=>∃a o',NewAt σ f v ⟨⟨lanes,room,queue,rounds,every,bag,start⟩,t,ws, .slice Ea t.length ec, .slice Wa ws.length wc, .slice Na (t.length+1) nc⟩ w o (hb+1) pbx #[.int .i64 ((t.length:Int)+1), .slice Ea t.length ec, .int .i64 lanes, .int .i64 room, .int .i64 queue, .int .i64 rounds, .int .i64 every, .int .i64 bag, .slice Wa ws.length wc, .int .u16 start, .slice Na (t.length+1) nc] (j+1+1) a o' W∧W.heap[mb]? =some (.cells mcur 3 (0,0)):=⟨_,rfl⟩
     have HPM:=Lib.hid hPM
     clear hPM
     refine wp_mid 81 10 PM ?_ ?_
     ·intro M hM
      have HMM:=Lib.hid hM
      clear hM
      go_region_law (refine step_append_QS rfl (.tmp 85) (.tmp 87) 126 126 rfl 165 _ 3 40 Tryz.underlying126 info_port rfl _ (j+1) _ rfl hQ' _ 1 _ rfl hSr h40 hb40 ?_;intro A2 c2_ U2 hq2 hg2 ho2;obtain⟨hbU2,hfU2⟩:=HSTX.out U2 hg2)
      all_goals
       show M _ _
       refine HMM.out _ _ (mid_frame rfl rfl rfl) ?_
       rw[HPM.out]
       have hg:(wr.alloc (.cells #[.int .i64 (x:Int), .slice lA ws.length lc, .pointer (some ⟨b,0,none⟩)] 165)).drew.grownBy U2 (Value.slice pA (j+1) pc).ownBlock:=hg2
       have hq3:QS U2 165 3 (.slice A2 (j+1+1) c2_) (j+1+1) (portsFrom a 0 ((tos t v).take (j+1)) ++ [.int .i64 (x:Int), .slice lA ws.length lc, .pointer (some ⟨b,0,none⟩)]):=hq2
       have ho3:(Value.slice A2 (j+1+1) c2_).ownBlock=(Value.slice pA (j+1) pc).ownBlock∨∃c,(Value.slice A2 (j+1+1) c2_).ownBlock=some c∧(wr.alloc (.cells #[.int .i64 (x:Int), .slice lA ws.length lc, .pointer (some ⟨b,0,none⟩)] 165)).drew.heap.size≤c:=ho2
       rw[←HPV.out]at hg ho3
       have hsz:(wr.alloc (.cells #[.int .i64 (x:Int), .slice lA ws.length lc, .pointer (some ⟨b,0,none⟩)] 165)).drew.heap.size=wr.heap.size+1:=World.size_alloc _ _
       exact HL.out.done (by omega) HX.out (((Keeps.alloc _ _ _).trans (Keeps.drew _ _)).trans (Keeps.grown hg (fun q e=>e))) hq3 (ho3.imp id (fun⟨c,e1,e2⟩=>⟨c,e1,by omega⟩))
     ·intro fu W hP
      rw[HPM.out]at hP
      obtain⟨a',o'',hfin,hmat⟩:=hP
      simp only[List.take_succ_cons,List.take_zero,List.drop_succ_cons,List.drop_zero,List.cons_append,List.nil_append]
      have HFIN:=Lib.hid hfin
      have HMAT:=Lib.hid hmat
      clear hfin hmat c13 d13 q0 q1 q2 r0 r1 r2 hQ' hSr HSTX HBX HNP HPV HL HPM hka
      go_wp2_with fail
      go_roundw
      case rel=>exact⟨j+1,a',o'',by omega,by go_num,HFIN.out,HMAT.out⟩
      case measure=>simp[intOf];omega
  ·obtain rfl:j=(nb t v).length:=by omega
   have hji:¬(((nb t v).length:Nat):Int) < ((nb t v).length:Int):=by omega
   have hP:(nb t v).length+1=(tos t v).length:=rfl
   obtain⟨P,hPe⟩:∃P,(nb t v).length+1=P:=⟨_,rfl⟩
   have HPE:=Lib.hid hPe
   have hP6:1≤P∧P≤6:=by have:=HLEN.out;omega
   obtain⟨pA,pc,hpv,hpc,_⟩:=hA.at_.pq.shape
   have hbx:=hA.at_.box
   have hnb:=hA.nb
   rw[hnb]at hbx
   rw[hPe]at hpv
   have c13:wr.cell? ⟨hb+1,13,none⟩=some (.slice pA P pc):=by rw[blk_cell hbx,←hpv];rfl
   have HIN:=Lib.hid (new_calls P hP6.1 (by omega) wr)
   have HBX:=Lib.hid hbx
   have HPV:=Lib.hid hpv
   have HA:=Lib.hid hA
   clear hA hbx hnb hpv hPe hM hP
   go_wp2_with fail
   refine HIN.out.mono ?_
   rintro e U1 ⟨ab,ga,aa,rfl,hArb,hk1,i1,i2,i3⟩
   have hb1:=blk_keeps hk1 HBX.out (fun h=>h)
   have f0:U1.frozen? ⟨hb+1,0,none⟩=false:=blk_frozen hb1 0
   have g0:U1.cell? ⟨hb+1,0,none⟩=some (.pointer none):=by rw[blk_cell hb1];rfl
   have hb2:=blk_set hb1 0 (.pointer (some ⟨ab,0,none⟩))
   have hS1:Keeps (fun k=>k=hb+1) U1 (U1.setCell ⟨hb+1,0,none⟩ (.pointer (some ⟨ab,0,none⟩))):=Keeps.setCell _ _ _ _ rfl
   have hpx:PBox (U1.setCell ⟨hb+1,0,none⟩ (.pointer (some ⟨ab,0,none⟩))) pbx #[.int .i64 ((t.length:Int)+1), .slice Ea t.length ec, .int .i64 lanes, .int .i64 room, .int .i64 queue, .int .i64 rounds, .int .i64 every, .int .i64 bag, .slice Wa ws.length wc, .int .u16 start, .slice Na (t.length+1) nc]:=blk_keeps hS1 (blk_keeps hk1 HA.out.box (fun h=>h)) (fun e=>by
    have h1:=HA.out.box
    rw[e]at h1
    exact absurd (ty_eq h1 HBX.out) (by decide))
   have HARB:=Lib.hid hArb
   have HK1:=Lib.hid hk1
   have HII:=Lib.hid (And.intro i1 (And.intro i2 i3))
   have HB2:=Lib.hid hb2
   have HPX:=Lib.hid hpx
   clear hArb hk1 hb1 hb2 hpx i1 i2 i3 HIN c13 hS1
   go_wp2_with fail
   have HSP:=Lib.hid HPV.out
   generalize hW1:U1.setCell ⟨hb+1,0,none⟩ (.pointer (some ⟨ab,0,none⟩))=W1 at*
   have HW1:=Lib.hid hW1
   clear hW1
   obtain⟨RN,hRN⟩:∃RN:Nat,room=(RN:Int):=⟨room.toNat,by have:=HRM.out;omega⟩
   obtain⟨N1,hN1⟩:∃N1,P*ws.length=N1:=⟨_,rfl⟩
   obtain⟨N2,hN2⟩:∃N2,N1*RN=N2:=⟨_,rfl⟩
   have hN1b:N1≤18:=by rw[←hN1];exact Nat.le_trans (Nat.mul_le_mul hP6.2 HLW.out.2) (by decide)
   have hN1c:1≤N1:=by rw[←hN1];exact Nat.mul_pos hP6.1 HLW.out.1
   have hN2b:N2≤200:=by rw[←hN2];exact Nat.le_trans (Nat.mul_le_mul hN1b (show RN≤8 by have:=HRM.out;omega)) (by decide)
   have hN2c:1≤N2:=by rw[←hN2];exact Nat.mul_pos hN1c (by have:=HRM.out;omega)
   have hm1:IntKind.i64.wrap ((P:Int)*lanes)=(N1:Int):=by
    rw[HLA.out,←hN1,←Int.natCast_mul]
    rw[hN1];simp[IntKind.wrap,IntKind.bits,IntKind.signed];omega
   have hm2:IntKind.i64.wrap ((N1:Int)*room)=(N2:Int):=by
    rw[hRN,←Int.natCast_mul,hN2]
    simp[IntKind.wrap,IntKind.bits,IntKind.signed];omega
   have hrn:=rnew_runs P ws.length N2 hP6.1 (by omega) HLW.out.1 HLW.out.2 hN2c hN2b W1.drew
   rw[←HLA.out]at hrn
   have HRN2:=Lib.hid hrn
   have HSS:=Lib.hid (p:=∀Z,Keeps (fun _=>False) W1 Z→Z.cell? ⟨hb+1,13,none⟩=some (.slice pA P pc)∧Z.cell? ⟨pbx,2,none⟩=some (.int .i64 lanes)∧Z.cell? ⟨pbx,3,none⟩=some (.int .i64 room)) fun Z hZ=>⟨by rw[blk_cell (blk_keeps hZ HB2.out (fun h=>h)),←HPV.out];rfl,by rw[blk_cell (blk_keeps hZ HPX.out (fun h=>h))];rfl,by rw[blk_cell (blk_keeps hZ HPX.out (fun h=>h))];rfl⟩
   have hnx:pbx≠hb+1:=fun e=>by
    have h1:=HPX.out
    rw[e]at h1
    exact absurd (ty_eq h1 HB2.out) (by decide)
   have HST2:=Lib.hid (p:=∀Z vv,Keeps (fun _=>False) W1 Z→(Z.setCell ⟨hb+1,15,none⟩ vv).cell? ⟨hb+1,13,none⟩=some (.slice pA P pc)∧(Z.setCell ⟨hb+1,15,none⟩ vv).cell? ⟨pbx,2,none⟩=some (.int .i64 lanes)∧(Z.setCell ⟨hb+1,15,none⟩ vv).cell? ⟨pbx,3,none⟩=some (.int .i64 room)) fun Z vv hZ=>by
    obtain⟨_,q2,q3⟩:=HSS.out Z hZ
    have ks:Keeps (fun k=>k=hb+1) Z (Z.setCell ⟨hb+1,15,none⟩ vv):=Keeps.setCell _ _ _ _ rfl
    exact⟨by rw[blk_cell (blk_set (blk_keeps hZ HB2.out (fun h=>h)) 15 vv),←HPV.out];rfl,ks.cell q2 hnx,ks.cell q3 hnx⟩
   have hdW:Keeps (fun _=>False) W1 W1.drew:=Keeps.drew _ _
   have hsd:=HSS.out _ hdW
   have HNN:=Lib.hid (And.intro hRN (And.intro hN1 hN2))
   clear hRN hN1 hN2 hrn hnx
   go_region_held3 (fun Z=>Z.cell? ⟨hb+1,13,none⟩=some (.slice pA P pc)∧Z.cell? ⟨pbx,2,none⟩=some (.int .i64 lanes)∧Z.cell? ⟨pbx,3,none⟩=some (.int .i64 room))
    (with_reducible first | exact hsd | exact hsZ | exact hsS | go_keep)
    (first
     | (go_at_call 85;refine HRN2.out.mono ?_;rintro e Z ⟨rb,rfl,hrb,hkZ,hRZ⟩;have hkZ2:=hdW.trans hkZ;have hsZ:=HSS.out _ hkZ2;have hbZ:=blk_keeps hkZ2 HB2.out (fun h=>h);have fZ:Z.frozen? ⟨hb+1,15,none⟩=false:=blk_frozen hbZ 15;have cZ:Z.cell? ⟨hb+1,15,none⟩=some (.pointer none):=(by rw[blk_cell hbZ];rfl);have hsS:=HST2.out Z (.pointer (some ⟨rb,0,none⟩)) hkZ2))
   have hfin:∃o',SysF (σ.set f v {a with rb:=rb,ab:=ab,ga:=ga,aa:=aa} (newS ⟨⟨lanes,room,queue,rounds,every,bag,start⟩,t,ws, .slice Ea t.length ec, .slice Wa ws.length wc, .slice Na (t.length+1) nc⟩ v)) (Z.setCell ⟨hb+1,15,none⟩ (.pointer (some ⟨rb,0,none⟩))) o'∧Ext o w o' (Z.setCell ⟨hb+1,15,none⟩ (.pointer (some ⟨rb,0,none⟩))):=by
    obtain⟨e1,e2,e3⟩:=HNN.out
    obtain⟨i1,i2,i3⟩:=HII.out
    have hnb:=HA.out.nb
    have hPE:=HPE.out
    have hgp:(⟨⟨lanes,room,queue,rounds,every,bag,start⟩,t,ws, .slice Ea t.length ec, .slice Wa ws.length wc, .slice Na (t.length+1) nc⟩:Geo).ports v=P:=hPE
    have hNB:=HA.out.at_
    rw[hPE]at hNB
    have hsz:W1.heap.size=U1.heap.size:=by rw[←HW1.out];simp[World.setCell]
    rw[←hnb]
    refine NB.finish (by rw[hgp];exact hNB) hg hn HK1.out i1 i2 i3 (by rw[hgp];exact HARB.out) ?_ ?_
    ·rw[hnb,HW1.out];exact hkZ2
    ·rw[hgp]
     have hnum:P*ws.length*room.toNat=N2:=by rw[e2,e1,Int.toNat_natCast,e3]
     show RingsV Z _ rb _ lanes (P*ws.length*room.toNat) _
     rw[hnum]
     exact hRZ.wider (fun k e=>e.elim (fun e=>e.elim) (fun e=>⟨by rw[←hsz];exact e.1,e.2⟩)) (fun k e=>e.2)
   have HFIN:=Lib.hid hfin
   clear hfin hkZ hkZ2 hRZ hsZ hbZ fZ cZ hsS hsd hdW HST2 HSS HRN2
   go_wp2_with fail
   go_ret
   obtain⟨o',h1,h2⟩:=HFIN.out
   exact⟨_,o',by show _=Ending.returned (.pointer (some ⟨a.nb,0,none⟩));rw[HA.out.nb];rfl,h1,h2,HA.out.lv⟩
end
end Go.Proofs.YtebnflpanfmicaaGreatDoor
