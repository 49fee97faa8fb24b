/-
  Part 28 of the proof: TopFabW, TopFabP, TopFabI, TopDeliver, TopFabS.
-/
import Derived.Test.YtebnflpanfmicaaGreatDoorPkBA
import Derived.Test.YtebnflpanfmicaaGreatDoorPkAD
set_option linter.unusedVariables false
set_option linter.unusedSimpArgs false
set_option linter.unusedSectionVars false
namespace Go.Proofs.YtebnflpanfmicaaGreatDoor
open Go.RowKit
section
variable {w:World} {S:Nat→Prop} {fa:FabA} {g:Geo} {ticks:Int}
theorem FabR.c (h:FabR w S fa g ticks):w.cell? ⟨fa.fb,11,none⟩=some fa.hv∧w.cell? ⟨fa.fb,12,none⟩=some fa.nv∧w.cell? ⟨fa.fb,13,none⟩=some (.map (some fa.mb))∧w.cell? ⟨fa.fb,14,none⟩=some (.int .i64 ticks):=by
 have:=fun j=>blk_cell h.box j
 exact⟨by rw[this];rfl,by rw[this];rfl,by rw[this];rfl,by rw[this];rfl⟩
theorem nodePtrs_at (fa:FabA) {n v:Nat} (h:v < n):(nodePtrs fa n)[v]? =some (.pointer (some ⟨(fa.na v).nb,0,none⟩)):=by
 unfold nodePtrs
 rw[List.getElem?_map,List.getElem?_range h];rfl
set_option maxHeartbeats 4000000 in
theorem fat_ok (A:Option Addr) (n cap:Nat) (cs:List Value) (w:World) (hQ:QS w 58 1 (.slice A n cap) n cs) (v:Nat) (hv:v < n) (u:Value) (hu:cs[v]? =some u):
  Calls Tryz.prog 57 #[.slice A n cap, .int .i64 v] w fun e w'=>e= .returned u∧Keeps (fun _=>False) w w':=by
 obtain⟨gp,op,cp,e1,_,hc,_⟩:=hQ.cell (by omega)
 injection e1 with e1 _ e2
 subst e1 e2
 have c:=hc v u hu
 have h0:(0:Int)≤(v:Int):=by omega
 have h1:(v:Int) < (n:Int):=by omega
 have h2:¬(v:Int) < 0:=by omega
 have h3:¬(n:Int)≤(v:Int):=by omega
 clear hQ hc hu
 go_enter Tryz.func57,Tryz.ntmps57
 go_wp2_with fail
 go_ret
 exact⟨rfl,Keeps.refl _ _⟩
set_option maxHeartbeats 4000000 in
theorem fat_no (A:Option Addr) (n cap:Nat) (i:Int) (w:World) (hi:i < 0∨(n:Int)≤i):
  Calls Tryz.prog 57 #[.slice A n cap, .int .i64 i] w fun e w'=>e= .returned (.pointer none)∧Keeps (fun _=>False) w w':=by
 by_cases h0:i < 0
 ·clear hi
  go_enter Tryz.func57,Tryz.ntmps57
  go_wp2_with fail
  go_ret
  exact⟨rfl,Keeps.refl _ _⟩
 ·have h1:(n:Int)≤i:=by omega
  clear hi
  go_enter Tryz.func57,Tryz.ntmps57
  go_wp2_with fail
  go_ret
  exact⟨rfl,Keeps.refl _ _⟩
set_option maxHeartbeats 4000000 in
theorem fnode_ok (h:FabR w S fa g ticks) (v:Nat) (hv:v≤g.t.length):
  Calls Tryz.prog 19 #[.pointer (some ⟨fa.fb,0,none⟩), .int .i64 v] w fun e w'=>e= .returned (.pointer (some ⟨(fa.na v).nb,0,none⟩))∧Keeps (fun _=>False) w w':=by
 have c:=h.c.2.1
 obtain⟨A,cap,e,_,_⟩:=h.nodes.shape
 have hq:=h.nodes
 rw[e]at c hq
 have HC:=Lib.hid (fat_ok A _ cap _ w hq v (by omega) _ (nodePtrs_at fa (by omega)))
 clear h e hq
 go_enter Tryz.func19,Tryz.ntmps19
 go_wp2_with fail
 refine HC.out.mono ?_
 rintro e U ⟨rfl,hU⟩
 have HU:=Lib.hid hU
 clear hU HC
 go_wp2_with fail
 go_ret
 exact⟨rfl,HU.out⟩
set_option maxHeartbeats 4000000 in
theorem fnode_no (h:FabR w S fa g ticks) (i:Int) (hi:i < 0∨(g.t.length:Int)+1≤i):
  Calls Tryz.prog 19 #[.pointer (some ⟨fa.fb,0,none⟩), .int .i64 i] w fun e w'=>e= .returned (.pointer none)∧Keeps (fun _=>False) w w':=by
 have c:=h.c.2.1
 obtain⟨A,cap,e,_,_⟩:=h.nodes.shape
 rw[e]at c
 have HC:=Lib.hid (fat_no A (g.t.length+1) cap i w (by omega))
 clear h e hi
 go_enter Tryz.func19,Tryz.ntmps19
 go_wp2_with fail
 refine HC.out.mono ?_
 rintro e U ⟨rfl,hU⟩
 have HU:=Lib.hid hU
 clear hU HC
 go_wp2_with fail
 go_ret
 exact⟨rfl,HU.out⟩
theorem FabR.look (h:FabR w S fa g ticks) {i:Nat} {x:Nat×Nat} (hx:(hopsOf g.t)[i]? =some x):
  ∀W:World,Keeps (fun _=>False) w W→(Instr.lookup 89 (.map (some fa.mb)) (.agg #[.int .i64 (x.1:Int), .int .i64 (x.2:Int)]) false).run Tryz.prog W= .ok (.pointer (some ⟨fa.lb i,0,none⟩)) W:=by
 intro W hW
 obtain⟨L,c,h1,h2⟩:=h.map
 obtain⟨j,hj⟩:=h2 i x hx
 have:=run_lookup_at hop_ok Tryz.underlying89 zero_link W fa.mb L c (hopK x) (blk_keeps hW h1 (fun h=>h))
 rw[hj]at this
 exact this
set_option maxRecDepth 100000 in
set_option maxHeartbeats 4000000 in
theorem flink_ok (h:FabR w S fa g ticks) (i:Nat) (hi:i < (hopsOf g.t).length):
  Calls Tryz.prog 20 #[.pointer (some ⟨fa.fb,0,none⟩), .int .i64 i] w fun e w'=>e= .returned (.pointer (some ⟨fa.lb i,0,none⟩))∧Keeps (fun _=>False) w w':=by
 obtain⟨c11,_,c13,_⟩:=h.c
 obtain⟨x,hx⟩:∃x,(hopsOf g.t)[i]? =some x:=⟨_,List.getElem?_eq_getElem hi⟩
 have HL:=Lib.hid (h.look hx)
 obtain⟨gp,op,cp,e1,_,hc,_⟩:=h.hops.cell (by omega)
 obtain⟨x1,x2⟩:=flat2_at _ _ _ hx
 have p1:=hc _ _ x1
 have p2:=hc _ _ x2
 obtain⟨y1,y2⟩:=x
 unfold encI at p1 p2
 simp only at p1 p2 HL
 rw[e1]at c11
 rw[←Nat.add_assoc]at p2
 have h0:(0:Int)≤(i:Int):=by omega
 have h1:(i:Int) < ((hopsOf g.t).length:Int):=by omega
 have h2:¬(i:Int) < 0:=by omega
 have h3:¬((hopsOf g.t).length:Int)≤(i:Int):=by omega
 have hkd:Keeps (fun _=>False) w w.drew:=Keeps.drew _ _
 have hl:=HL.out _ hkd
 have d11:=hkd.cell c11 (fun h=>h)
 have d13:=hkd.cell c13 (fun h=>h)
 have dp1:=hkd.cell p1 (fun h=>h)
 have dp2:=hkd.cell p2 (fun h=>h)
 clear h e1 hc x1 x2 hx
 generalize (hopsOf g.t).length=n at*
 go_enter Tryz.func20,Tryz.ntmps20
 go_wp2_with fail
 go_region_law (fail)
 all_goals
  clear HL hl d11 d13 dp1 dp2 hkd
  go_wp2_with fail
  go_ret
  exact⟨rfl,Keeps.drew _ _⟩
set_option maxHeartbeats 4000000 in
theorem fhops_runs (h:FabR w S fa g ticks) (h1000:(hopsOf g.t).length≤1000):
  Calls Tryz.prog 27 #[.pointer (some ⟨fa.fb,0,none⟩)] w fun e w'=>∃A c,e= .returned (.slice A (hopsOf g.t).length c)∧QS w' 95 2 (.slice A (hopsOf g.t).length c) (hopsOf g.t).length (ecells (hopsOf g.t))∧Keeps (fun _=>False) w w'∧(∀k,(Value.slice A (hopsOf g.t).length c).ownBlock=some k→w.heap.size≤k):=by
 obtain⟨c11,_⟩:=h.c
 obtain⟨A,cap,e,_,_⟩:=h.hops.shape
 have hq:=h.hops
 rw[e]at c11 hq
 have HC:=Lib.hid (cloneH_runs _ _ _ w hq (one_ecells _) (by omega))
 clear h e hq
 generalize (hopsOf g.t).length=n at*
 generalize ecells (hopsOf g.t)=cs at*
 go_enter Tryz.func27,Tryz.ntmps27
 go_wp2_with fail
 refine HC.out.mono ?_
 rintro e U ⟨A1,c1,rfl,hU⟩
 have HU:=Lib.hid hU
 clear hU HC
 go_wp2_with fail
 go_ret
 exact⟨A1,c1,rfl,HU.out⟩
end
end Go.Proofs.YtebnflpanfmicaaGreatDoor
namespace Go.Proofs.YtebnflpanfmicaaGreatDoor
open Go.RowKit
theorem PlanS.wider {w:World} {S S':Nat→Prop} {p:Nums} {t ws:List Nat} {e wt nx:Value} (h:PlanS w S p t ws e wt nx) (hS:∀k,S k→S' k) (hlt:∀k,S' k→k < w.heap.size):PlanS w S' p t ws e wt nx:=by
 obtain⟨vs,h1,h2,h3,h4⟩:=h.nq
 exact⟨h.eq,h.wq,⟨vs,h1,h2,h3,fun u hu g hg=>hS g (h4 u hu g hg)⟩,fun g hg=>hS g (h.eown g hg),fun g hg=>hS g (h.wown g hg),fun g hg=>hS g (h.nown g hg),h.tree,h.t1,h.t5,h.nums,h.lanes,h.weights,hlt⟩
section
variable {w:World} {S SP:Nat→Prop} {fa:FabA} {g:Geo} {ticks:Int}
theorem FabR.planCells (h:FabR w S fa g ticks):w.cell? ⟨fa.fb,0,none⟩=some (.int .i64 ((g.t.length:Int)+1))∧w.cell? ⟨fa.fb,1,none⟩=some g.e∧w.cell? ⟨fa.fb,2,none⟩=some (.int .i64 g.p.lanes)∧w.cell? ⟨fa.fb,3,none⟩=some (.int .i64 g.p.room)∧w.cell? ⟨fa.fb,4,none⟩=some (.int .i64 g.p.queue)∧w.cell? ⟨fa.fb,5,none⟩=some (.int .i64 g.p.rounds)∧
  w.cell? ⟨fa.fb,6,none⟩=some (.int .i64 g.p.every)∧w.cell? ⟨fa.fb,7,none⟩=some (.int .i64 g.p.bag)∧w.cell? ⟨fa.fb,8,none⟩=some g.wt∧w.cell? ⟨fa.fb,9,none⟩=some (.int .u16 g.p.start)∧w.cell? ⟨fa.fb,10,none⟩=some g.nx:=by
 have:=fun j=>blk_cell h.box j
 refine⟨?_, ?_, ?_, ?_, ?_, ?_, ?_, ?_, ?_, ?_, ?_⟩ <;>rw[this] <;>rfl
set_option maxRecDepth 100000 in
set_option maxHeartbeats 8000000 in
theorem fplan_runs (h:FabR w S fa g ticks) (hp:PlanS w SP g.p g.t g.ws g.e g.wt g.nx):
  Calls Tryz.prog 33 #[.pointer (some ⟨fa.fb,0,none⟩)] w fun e w'=>∃e1 wt1 nx1,e= .returned (planV g.p g.t e1 wt1 nx1)∧PlanS w' (fun k=>w.heap.size≤k∧k < w'.heap.size) g.p g.t g.ws e1 wt1 nx1∧Keeps (fun _=>False) w w':=by
 obtain⟨⟨Ea,ec,he⟩,⟨Wa,wc,hw⟩,⟨Na,nc,hn⟩⟩:=hp.shapes
 have hk0:Keeps (fun _=>False) w (w.alloc (.cells #[.int .i64 0, .slice none 0 0, .int .i64 0, .int .i64 0, .int .i64 0, .int .i64 0, .int .i64 0, .int .i64 0, .slice none 0 0, .int .u16 0, .slice none 0 0] 38)):=Keeps.alloc _ _ _
 have hb:PBox (w.alloc (.cells #[.int .i64 0, .slice none 0 0, .int .i64 0, .int .i64 0, .int .i64 0, .int .i64 0, .int .i64 0, .int .i64 0, .slice none 0 0, .int .u16 0, .slice none 0 0] 38)) w.heap.size #[.int .i64 0, .slice none 0 0, .int .i64 0, .int .i64 0, .int .i64 0, .int .i64 0, .int .i64 0, .int .i64 0, .slice none 0 0, .int .u16 0, .slice none 0 0]:=blk_new w _
 obtain⟨d0,d1,d2,d3,d4,d5,d6,d7,d8,d9,d10⟩:=(h.keeps hk0 (fun _ _ h=>h)).planCells
 have hc:=pclone_runs (hp.keeps hk0 (fun _ _ h=>h))
 obtain⟨p,t,ws,ge,gw,gx⟩:=g
 simp only at*
 subst he hw hn
 obtain⟨lanes,room,queue,rounds,every,bag,start⟩:=p
 unfold planV Nums.plan at hc ⊢
 simp only at*
 have HC:=Lib.hid hc
 have HB:=Lib.hid hb
 have HK0:=Lib.hid hk0
 have hltX:=Lib.hid (blk_lt hb)
 clear h hp hc hb hk0
 go_enter Tryz.func33,Tryz.ntmps33
 go_wp2_with fail
 generalize w.alloc (.cells #[.int .i64 0, .slice none 0 0, .int .i64 0, .int .i64 0, .int .i64 0, .int .i64 0, .int .i64 0, .int .i64 0, .slice none 0 0, .int .u16 0, .slice none 0 0] 38)=X at*
 refine HC.out.mono ?_
 rintro e U ⟨e1,w1,x1,rfl,hP,hk⟩
 obtain⟨⟨E1a,e1c,rfl⟩,⟨W1a,w1c,rfl⟩,⟨N1a,n1c,rfl⟩⟩:=hP.shapes
 have hbU:=blk_keeps hk HB.out (fun h=>h)
 obtain⟨z0,z1,z2,z3,z4,z5,z6,z7,z8,z9,z10,zf⟩:=PBox.all (show PBox U w.heap.size _ from hbU)
 have HPU:=Lib.hid hP
 have HKU:=Lib.hid hk
 have HBU:=Lib.hid hbU
 clear hP hk hbU HC HB d0 d1 d2 d3 d4 d5 d6 d7 d8 d9 d10
 go_wp2_with fail
 obtain⟨hV,hkV⟩:=set11 HBU.out (.int .i64 ((t.length:Int)+1)) (.slice E1a t.length e1c) (.int .i64 lanes) (.int .i64 room) (.int .i64 queue) (.int .i64 rounds) (.int .i64 every) (.int .i64 bag) (.slice W1a ws.length w1c) (.int .u16 start) (.slice N1a (t.length+1) n1c)
 obtain⟨x0,xe1,x2,x3,x4,x5,x6,x7,x8,x9,x10,xf⟩:=PBox.all hV
 refine bodyPost_ret (v:= .agg #[.int .i64 ((t.length:Int)+1), .slice E1a t.length e1c, .int .i64 lanes, .int .i64 room, .int .i64 queue, .int .i64 rounds, .int .i64 every, .int .i64 bag, .slice W1a ws.length w1c, .int .u16 start, .slice N1a (t.length+1) n1c]) ?_ rfl ?_
 ·generalize World.setCell _ _ _=V at x0 xe1 x2 x3 x4 x5 x6 x7 x8 x9 x10 ⊢
  simp[results,Tryz.results33,go_sem,x0,xe1,x2,x3,x4,x5,x6,x7,x8,x9,x10]
 ·have hs:=HK0.out.size
  have hs2:=HKU.out.size
  have hs3:=hkV.size
  have hlt:=blk_lt HBU.out
  have hlx:=hltX.out
  exact⟨_,_,_,rfl,(HPU.out.keeps hkV (fun k hk h=>by have:=hk.1;omega)).wider (fun k hk=>⟨by have:=hk.1;omega,by have:=hk.2;omega⟩) (fun k hk=>hk.2),(HK0.out.trans HKU.out).then hkV (fun i hi h=>by omega)⟩
end
end Go.Proofs.YtebnflpanfmicaaGreatDoor
namespace Go.Proofs.YtebnflpanfmicaaGreatDoor
open Go.RowKit
instance (t:List Nat) (v:Nat) (x:Pkt):Decidable (injOk t v x):=by unfold injOk;infer_instance
def injN (g:Geo) (v:Nat) (s:NodeS) (x:Pkt):NodeS×Int:=
 if ¬injOk g.t v x then(s,1)else if x.lane < 0∨g.p.lanes≤x.lane then(s,1)else
 if((s.q x.lane.toNat).length:Int)=g.p.queue then(s,150)else({s with q:=setAt s.q x.lane.toNat (s.q x.lane.toNat ++ [x])},0)
def injF (g:Geo) (s:FabS) (x:Pkt):FabS×Int:=
 if 0≤x.src∧x.src≤g.t.length then({s with nd:=setAt s.nd x.src.toNat (injN g x.src.toNat (s.nd x.src.toNat) x).1},(injN g x.src.toNat (s.nd x.src.toNat) x).2)else(s,1)
section
variable {σ:Sig} {w:World} {o:Nat→Option Cmp} {f v:Nat} {fa:FabA} {g:Geo} {a:NodeA} {s:NodeS} {c:Nat}
theorem ninject_runs (h:SysF σ w o) (hg:σ.geo f=some g) (hn:σ.node f v=some (a,s)) (hok:NodeOk g v s c) (x:Pkt):
  Calls Tryz.prog 36 #[.pointer (some ⟨a.nb,0,none⟩),x.val] w fun e w'=>e= .returned (.int .u16 (injN g v s x).2)∧∃o',SysF (σ.set f v a (injN g v s x).1) w' o'∧Ext o w o' w':=by
 have N:=h.nodeR hg hn
 have hp:=h.planS hg
 have hl3:=hp.nums.lanes.2
 have hq8:=hp.nums.queue.2
 have same:∀{w'},Keeps (fun _=>False) w w'→∃o',SysF (σ.set f v a s) w' o'∧Ext o w o' w':=fun hk=>⟨o,by rw[set_self hn];exact SysF.calm' h hk,Ext.keeps o hk⟩
 have hHV:=h.hostV hg hn
 have hhb:∃k,o a.hb=some k:=by
  obtain⟨_,_,hr⟩:=hHV
  exact⟨_,hr.self⟩
 have hnb:o a.nb=some (.node f v):=N.sb
 by_cases h1:injOk g.t v x
 ·by_cases h2:x.lane < 0∨g.p.lanes≤x.lane
  ·have e:injN g v s x=(s,1):=by unfold injN;rw[if_neg (by simpa using h1),if_pos h2]
   rw[e]
   refine(inject_pass N x h1 1 (fun _=>False) (fun h=>h) (fun k h=>h.elim) (fun U w'=>Keeps (fun _=>False) U w') (fun U hU=> ?_)).mono ?_
   ·refine(put_bad a.hb x _ _ U (hHV.keeps hU (fun _ _ h=>h)) (by rcases h2 with h2 | h2;exact .inl h2;by_cases h3:x.lane < 0;exact .inl h3;exact .inr ⟨by omega,h2⟩)).mono ?_
    rintro e w' ⟨rfl,hk⟩
    exact⟨rfl,hk,hk⟩
   ·rintro e w' ⟨rfl,U,hU,hk⟩
    exact⟨rfl,same (hU.trans hk)⟩
  ·by_cases h3:((s.q x.lane.toNat).length:Int)=g.p.queue
   ·have e:injN g v s x=(s,150):=by unfold injN;rw[if_neg (by simpa using h1),if_neg h2,if_pos h3]
    rw[e]
    refine(inject_pass N x h1 150 (fun _=>False) (fun h=>h) (fun k h=>h.elim) (fun U w'=>Keeps (fun _=>False) U w') (fun U hU=> ?_)).mono ?_
    ·refine(put_full a.hb x _ _ U (hHV.keeps hU (fun _ _ h=>h)) hl3 (by omega) (by omega) h3).mono ?_
     rintro e w' ⟨rfl,hk⟩
     exact⟨rfl,hk,hk⟩
    ·rintro e w' ⟨rfl,U,hU,hk⟩
     exact⟨rfl,same (hU.trans hk)⟩
   ·have e:injN g v s x=({s with q:=setAt s.q x.lane.toNat (s.q x.lane.toNat ++ [x])},0):=by unfold injN;rw[if_neg (by simpa using h1),if_neg h2,if_neg h3]
    rw[e]
    have hwt:=hok.wait x.lane.toNat (by omega)
    refine(inject_pass N x h1 0 (fun k=>o k=some (.host f v)) (by show ¬o a.nb=_;rw[hnb];intro h;cases h) (fun k hk=>Sys.lt h k _ hk) (fun U w'=>HostNow U w' (fun k=>o k=some (.host f v)) 200 31 a.hb g.p.lanes g.p.queue (setAt s.q x.lane.toNat (s.q x.lane.toNat ++ [x]))) (fun U hU=> ?_)).mono ?_
    ·refine(put_ok a.hb x _ _ U (hHV.keeps hU (fun _ _ h=>h)) hl3 hq8 (by omega) (by omega) (by omega)).mono ?_
     rintro e w' ⟨rfl,hk⟩
     exact⟨rfl,hk.kept,hk⟩
    ·rintro e w' ⟨rfl,U,hU,hk⟩
     obtain⟨o',h5,h6⟩:=SysF.stepHost (SysF.calm' h hU) hg hn hk
     exact⟨rfl,o',h5,(Ext.keeps o hU).trans h6⟩
 ·have e:injN g v s x=(s,1):=by unfold injN;rw[if_pos (by simpa using h1)]
  rw[e]
  refine(inject_arg N x h1).mono ?_
  rintro e w' ⟨rfl,hk⟩
  exact⟨rfl,same hk⟩
end
section
variable {σ:Sig} {w:World} {o:Nat→Option Cmp} {f:Nat} {fa:FabA} {g:Geo} {s:FabS} {c:Nat}
theorem FabAt.same (h:FabAt σ f fa g s) (v:Nat):FabAt σ f fa g {s with nd:=setAt s.nd v (s.nd v)}:=by
 have:setAt s.nd v (s.nd v)=s.nd:=by funext x;unfold setAt;split;rename_i e;rw[e];rfl
 rw[this];exact h
set_option maxRecDepth 100000 in
set_option maxHeartbeats 8000000 in
theorem finject_runs (h:SysF σ w o) (hF:FabAt σ f fa g s) (hok:FabOk g s c) (x:Pkt):
  Calls Tryz.prog 12 #[.pointer (some ⟨fa.fb,0,none⟩),x.val] w fun e w'=>e= .returned (.int .u16 (injF g s x).2)∧Next σ w o f fa g w' (injF g s x).1:=by
 obtain⟨x1,x2,x3,x4⟩:=x
 have hk0:Keeps (fun _=>False) w (w.alloc (.cells #[.int .i64 x1, .int .i64 x2, .int .i64 x3, .int .u32 x4] 31)):=Keeps.alloc _ _ _
 have hpk:PktAt (w.alloc (.cells #[.int .i64 x1, .int .i64 x2, .int .i64 x3, .int .u32 x4] 31)) w.heap.size ⟨x1,x2,x3,x4⟩:=blk_new w _
 have R0:=(SysF.calm' h hk0).fabR hF
 have HK0:=Lib.hid hk0
 have HPK:=Lib.hid hpk
 obtain⟨z0,z1,z2,z3⟩:=hpk.cells
 simp only at z0 z1 z2 z3
 obtain⟨r,hr⟩:∃r,injF g s ⟨x1,x2,x3,x4⟩=r:=⟨_,rfl⟩
 rw[hr]
 unfold injF at hr
 simp only at hr
 by_cases hv:0≤x1∧x1≤(g.t.length:Int)
 ·rw[if_pos hv]at hr
  obtain⟨v,rfl⟩:∃v:Nat,x1=(v:Int):=⟨x1.toNat,by omega⟩
  simp only[Int.toNat_natCast]at hr
  have hvl:v≤g.t.length:=by omega
  have HC:=Lib.hid (fnode_ok R0 v hvl)
  have HR:=Lib.hid hr
  have H:=Lib.hid h
  have HOK:=Lib.hid (hok.node v hvl)
  clear h hk0 hpk R0 hr
  unfold Pkt.val
  simp only
  go_enter Tryz.func12,Tryz.ntmps12
  go_wp2_with fail
  generalize w.alloc (.cells #[.int .i64 (v:Int), .int .i64 x2, .int .i64 x3, .int .u32 x4] 31)=X at*
  refine HC.out.mono ?_
  rintro e U ⟨rfl,hU⟩
  have hpU:PktAt U w.heap.size ⟨(v:Int),x2,x3,x4⟩:=blk_keeps hU HPK.out (fun h=>h)
  obtain⟨y0,y1,y2,y3⟩:=hpU.cells
  simp only at y0 y1 y2 y3
  have hkU:=HK0.out.trans hU
  have hIN:=ninject_runs (SysF.calm' H.out hkU) hF.geo (hF.node v hvl) HOK.out ⟨(v:Int),x2,x3,x4⟩
  unfold Pkt.val at hIN
  simp only at hIN
  have HIN:=Lib.hid hIN
  have HKU:=Lib.hid hkU
  clear z0 z1 z2 z3 hU hpU hkU hIN HC HPK
  go_wp2_with fail
  refine HIN.out.mono ?_
  rintro e V ⟨rfl,hV⟩
  have HV:=Lib.hid hV
  clear hV HIN y0 y1 y2 y3
  go_wp2_with fail
  go_ret
  obtain⟨o',h5,h6⟩:=HV.out
  rw[←HR.out]
  exact⟨rfl,hF.nodeNext ⟨o',h5,(Ext.keeps o HKU.out).trans h6⟩⟩
 ·rw[if_neg hv]at hr
  subst hr
  have HC:=Lib.hid (fnode_no R0 x1 (by omega))
  have H:=Lib.hid h
  clear h hk0 hpk R0 hv
  unfold Pkt.val
  simp only
  go_enter Tryz.func12,Tryz.ntmps12
  go_wp2_with fail
  generalize w.alloc (.cells #[.int .i64 x1, .int .i64 x2, .int .i64 x3, .int .u32 x4] 31)=X at*
  refine HC.out.mono ?_
  rintro e U ⟨rfl,hU⟩
  have HU:=Lib.hid (HK0.out.trans hU)
  clear hU HC z0 z1 z2 z3 HPK
  go_wp2_with fail
  go_ret
  exact⟨rfl,Next.calm H.out hF HU.out⟩
set_option maxHeartbeats 8000000 in
theorem fgot_runs (h:SysF σ w o) (hF:FabAt σ f fa g s) (v:Nat) (hv:v≤g.t.length) (hc:((s.nd v).q 3).length≤1000000000) (m:Nat) (hm:((s.nd v).q 3).length=m):
  Calls Tryz.prog 23 #[.pointer (some ⟨fa.fb,0,none⟩), .int .i64 v] w fun e w'=>∃A c,e= .returned (.slice A m c)∧QS w' 31 4 (.slice A m c) m (pcells ((s.nd v).q 3))∧Keeps (fun _=>False) w w'∧(∀k,(Value.slice A m c).ownBlock=some k→w.heap.size≤k):=by
 have HC:=Lib.hid (fnode_ok (h.fabR hF) v hv)
 have H:=Lib.hid h
 clear h
 go_enter Tryz.func23,Tryz.ntmps23
 go_wp2_with fail
 refine HC.out.mono ?_
 rintro e U ⟨rfl,hU⟩
 have HH:=Lib.hid (nhost_runs ((SysF.calm' H.out hU).nodeR hF.geo (hF.node v hv)))
 have HG:=Lib.hid (got_as (fa.na v).hb _ _ U ((SysF.calm' H.out hU).hostV hF.geo (hF.node v hv)) _ m rfl hm (by omega))
 have HU:=Lib.hid hU
 clear hU HC
 go_wp2_with fail
 refine HH.out.mono ?_
 rintro e V ⟨rfl,rfl⟩
 go_wp2_with fail
 refine HG.out.mono ?_
 rintro e V ⟨A,cap,rfl,hV⟩
 have HV:=Lib.hid hV
 clear hV HG HH
 go_wp2_with fail
 go_ret
 obtain⟨h1,h2,h3⟩:=HV.out
 exact⟨A,cap,rfl,h1,HU.out.trans h2,fun k e=>Nat.le_trans HU.out.size (h3 k e)⟩
end
end Go.Proofs.YtebnflpanfmicaaGreatDoor
namespace Go.Proofs.YtebnflpanfmicaaGreatDoor
open Go.RowKit
def delF (g:Geo) (s:FabS) (h:Nat) (k:Int):FabS×Int:=
 if inRow (s.ln h) k=false then(s,1)else
 let x:=(hopsOf g.t).getD h (0,0)
 let r:=takeS g x.2 x.1 (rowOf (s.ln h) k) (s.nd x.2)
 ({s with nd:=setAt s.nd x.2 r.1,ln:=setAt s.ln h (takeL (s.ln h) k)},r.2)
theorem hops_all:allT (fun t _ _=>(hopsOf t).all (fun x=>decide (x.1≤t.length) && decide (x.2≤t.length) && decide (x.1∈nb t x.2) && decide (x.2∈nb t x.1)) && decide ((hopsOf t).length=2*t.length))=true:=by decide+kernel
theorem hops_in {t:List Nat} (ht:Tree t) (h5:t.length≤5):(∀x∈hopsOf t,x.1≤t.length∧x.2≤t.length∧x.1∈nb t x.2∧x.2∈nb t x.1)∧(hopsOf t).length=2*t.length:=by
 have h:=allT_at hops_all ht h5 (Nat.zero_le _) (Nat.zero_le _)
 simp only[Bool.and_eq_true,decide_eq_true_eq,List.all_eq_true]at h
 exact⟨fun x hx=>⟨(h.1 x hx).1.1.1,(h.1 x hx).1.1.2,(h.1 x hx).1.2,(h.1 x hx).2⟩,h.2⟩
section
variable {σ:Sig} {w:World} {o:Nat→Option Cmp} {f:Nat} {fa:FabA} {g:Geo} {s:FabS} {c:Nat}
theorem mem_rowOf {rows:List (List Int)} {k:Int} (h:inRow rows k=true):rowOf rows k∈rows:=by
 unfold inRow at h
 have:=of_decide_eq_true h
 unfold rowOf
 rw[if_pos this.1,List.getD_eq_getElem?_getD,List.getElem?_eq_getElem (by omega)]
 exact List.getElem_mem _
theorem takeL_no {rows:List (List Int)} {k:Int} (h:inRow rows k=false):takeL rows k=rows:=by
 unfold inRow at h
 have:=of_decide_eq_false h
 unfold takeL
 rw[if_neg this]
theorem FabR.five {S:Nat→Prop} {ticks:Int} (h:FabR w S fa g ticks) {i:Nat} {y1 y2 gp op cp gn on cn:Nat} (hx:(hopsOf g.t)[i]? =some (y1,y2)) (hy:y2≤g.t.length) (e1:fa.hv= .slice (some ⟨gp,op,none⟩) (hopsOf g.t).length cp) (e2:fa.nv= .slice (some ⟨gn,on,none⟩) (g.t.length+1) cn):
  w.cell? ⟨fa.fb,12,none⟩=some (.slice (some ⟨gn,on,none⟩) (g.t.length+1) cn)∧w.cell? ⟨fa.fb,11,none⟩=some (.slice (some ⟨gp,op,none⟩) (hopsOf g.t).length cp)∧w.cell? ⟨gp,op+i*2,none⟩=some (.int .i64 (y1:Int))∧w.cell? ⟨gp,op+i*2+1,none⟩=some (.int .i64 (y2:Int))∧w.cell? ⟨gn,on+y2,none⟩=some (.pointer (some ⟨(fa.na y2).nb,0,none⟩)):=by
 obtain⟨c11,c12,_,_⟩:=h.c
 have hi:i < (hopsOf g.t).length:=(List.getElem?_eq_some_iff.1 hx).1
 obtain⟨gp',op',cp',e1',_,hc,_⟩:=h.hops.cell (by omega)
 obtain⟨gn',on',cn',e2',_,hcn,_⟩:=h.nodes.cell (by omega)
 rw[e1]at e1'
 rw[e2]at e2'
 injection e1' with a1 _ a2
 injection a1 with a1
 injection a1 with a1 a3
 injection e2' with b1 _ b2
 injection b1 with b1
 injection b1 with b1 b3
 subst a1 a2 a3 b1 b2 b3
 obtain⟨x1,x2⟩:=flat2_at _ _ _ hx
 exact⟨by rw[c12,e2],by rw[c11,e1],hc _ _ x1,by rw[Nat.add_assoc];exact hc _ _ x2,hcn _ _ (nodePtrs_at fa (by omega))⟩
set_option maxRecDepth 100000 in
set_option maxHeartbeats 8000000 in
theorem deliver_runs (h:SysF σ w o) (hF:FabAt σ f fa g s) (hok:FabOk g s c) (i:Nat) (hi:i < (hopsOf g.t).length) (k:Int):
  Calls Tryz.prog 28 #[.pointer (some ⟨fa.fb,0,none⟩), .int .i64 i, .int .i64 k] w fun e w'=>e= .returned (.int .u16 (delF g s i k).2)∧Next σ w o f fa g w' (delF g s i k).1:=by
 have R0:=h.fabR hF
 have HL:=Lib.hid (flink_ok R0 i hi)
 have H:=Lib.hid h
 obtain⟨r,hr⟩:∃r,delF g s i k=r:=⟨_,rfl⟩
 rw[hr]
 have HR:=Lib.hid hr
 clear h R0 hr
 go_enter Tryz.func28,Tryz.ntmps28
 go_wp2_with fail
 refine HL.out.mono ?_
 rintro e U ⟨rfl,hU⟩
 have hSU:=SysF.calm' H.out hU
 have HT:=Lib.hid (take_runs (fa.lb i) _ _ _ U (hSU.linkV hF hi) k)
 have HSU:=Lib.hid hSU
 have HU:=Lib.hid hU
 clear hU hSU HL
 go_wp2_with fail
 refine HT.out.mono ?_
 rintro e V ⟨u,rfl,hb,hown,hV,hLV⟩
 by_cases hin:inRow (s.ln i) k=false
 ·rw[hin]
  have hs:(s,(1:Int))=r:=by have:=HR.out;unfold delF at this;rw[if_pos hin]at this;exact this
  subst hs
  obtain⟨σ1,o1,h1,h2,h3,h4⟩:=SysF.stepLink HSU.out hF hi hV (hLV.wider (fun k h=> .inl h) (fun k hk=>hk.elim (fun e=>Nat.lt_of_lt_of_le (Sys.lt HSU.out k _ e) hV.size) (fun e=>e.2)))
  have hsame:setAt s.ln i (takeL (s.ln i) k)=s.ln:=by rw[takeL_no hin];funext x;unfold setAt;split;rename_i e;rw[e];rfl
  rw[hsame]at h3
  have HN:Hid (Next σ w o f fa g V s):=Lib.hid ⟨σ1,o1,h1,(Ext.keeps o HU.out).trans h2,h3,h4⟩
  clear hb hown hV hLV HT h1 h2 h3 h4 hsame hin
  go_wp2_with fail
  go_ret
  exact⟨rfl,HN.out⟩
 ·have hin':inRow (s.ln i) k=true:=by simpa using hin
  rw[hin',if_pos rfl]at hb
  rw[hin']
  obtain⟨x,hx⟩:∃x,(hopsOf g.t)[i]? =some x:=⟨_,List.getElem?_eq_getElem hi⟩
  have hgd:(hopsOf g.t).getD i (0,0)=x:=by rw[List.getD_eq_getElem?_getD,hx];rfl
  have hp:=HSU.out.planS hF.geo
  obtain⟨hx1,hx2,hx3,hx4⟩:=(hops_in hp.tree hp.t5).1 x (List.mem_of_getElem? hx)
  have hrow:=hok.rows i hi _ (mem_rowOf hin')
  have hs:({s with nd:=setAt s.nd x.2 (takeS g x.2 x.1 (rowOf (s.ln i) k) (s.nd x.2)).1,ln:=setAt s.ln i (takeL (s.ln i) k)},(takeS g x.2 x.1 (rowOf (s.ln i) k) (s.nd x.2)).2)=r:=by
   have:=HR.out;unfold delF at this;rw[if_neg hin]at this;simp only[hgd]at this;exact this
  subst hs
  obtain⟨σ1,o1,h1,h2,h3,h4⟩:=SysF.stepLink HSU.out hF hi hV (hLV.wider (fun k h=> .inl h) (fun k hk=>hk.elim (fun e=>Nat.lt_of_lt_of_le (Sys.lt HSU.out k _ e) hV.size) (fun e=>e.2)))
  have R1:=h1.fabR h3
  obtain⟨gp,op,cp,e1,_,_,_⟩:=R1.hops.cell (by omega)
  obtain⟨gn,on,cn,e2,_,_,_⟩:=R1.nodes.cell (by omega)
  obtain⟨y1,y2⟩:=x
  simp only at hx1 hx2 hx3 hx4
  have HFV:=Lib.hid (p:=∀(W:World) (S:Nat→Prop) (t:Int),FabR W S fa g t→_) fun W S t R=>R.five hx hx2 e1 e2
  obtain⟨c12,c11,p1,p2,pn⟩:=HFV.out _ _ _ R1
  have HR1:=Lib.hid (p:=∀W,Keeps (fun _=>False) V W→_) fun W hW=>HFV.out _ _ _ (R1.keeps hW (fun _ _ h=>h))
  have HBY:=Lib.hid hb.byt
  obtain⟨uA,un,hus,_,_⟩:=hb.shape
  have hnr:=nb_rises hp.tree hp.t5 hx2
  have hnb1:1≤(nb g.t y2).length:=List.length_pos_of_mem hx3
  have HTK:=Lib.hid (p:=∀W,Keeps (fun _=>False) V W→_) fun W hW=>take_runs' (SysF.calm' h1 hW) h3.geo (h3.node y2 hx2) hx2 (h3.lv y2) y1 u _ (HBY.out.keeps hW (fun _ _ h=>h)) hrow.2 (nb g.t y2).length g.ws.length rfl hnb1 rfl hnr.2.2.1
  have hi0:(0:Int)≤(i:Int):=by omega
  have hil:(i:Int) < ((hopsOf g.t).length:Int):=by omega
  have hy0:(0:Int)≤(y2:Int):=by omega
  have hyl:(y2:Int) < ((g.t.length+1:Nat):Int):=by omega
  have hyl2:(y2:Int) < (g.t.length:Int)+1:=by omega
  subst hus
  have H2:=Lib.hid h2
  have H2S:=Lib.hid h1
  have H3:=Lib.hid h3
  have H4:=Lib.hid h4
  generalize (hopsOf g.t).length=n at*
  clear hb hown hV hLV HT h1 h2 h3 h4 hin R1 e1 e2 hp hnr hx hgd
  go_wp2_with fail
  have hkd:Keeps (fun _=>False) V V.drew:=Keeps.drew _ _
  have hsd:=HR1.out _ hkd
  go_region_held3 (fun Z=>Z.cell? ⟨fa.fb,12,none⟩=some (.slice (some ⟨gn,on,none⟩) (g.t.length+1) cn)∧Z.cell? ⟨fa.fb,11,none⟩=some (.slice (some ⟨gp,op,none⟩) n cp)∧Z.cell? ⟨gp,op+i*2,none⟩=some (.int .i64 (y1:Int))∧Z.cell? ⟨gp,op+i*2+1,none⟩=some (.int .i64 (y2:Int))∧Z.cell? ⟨gn,on+y2,none⟩=some (.pointer (some ⟨(fa.na y2).nb,0,none⟩)))
   (with_reducible first | exact hsd | exact hsW | go_keep)
   (first | (go_at_call 61;refine(HTK.out _ hkd).mono ?_;rintro e W ⟨rfl,o2,hSW,hEW⟩;have hsW:=HFV.out _ _ _ (hSW.fabR (H3.out.setN y2 _))))
  have HN:Hid (Next σ w o f fa g W _):=Lib.hid (Next.then (SysF.calm' H2S.out hkd) (((Ext.keeps o HU.out).trans H2.out).trans (Ext.keeps o1 hkd)) H4.out (FabAt.nodeNext H3.out ⟨o2,hSW,hEW⟩))
  clear hsW hsd hSW hEW HR1 HFV HTK c11 c12 p1 p2 pn hkd
  go_wp2_with fail
  go_ret
  exact⟨rfl,HN.out⟩
end
end Go.Proofs.YtebnflpanfmicaaGreatDoor
namespace Go.Proofs.YtebnflpanfmicaaGreatDoor
open Go.RowKit
def hopI (t:List Nat) (v x:Nat):Nat:=(hopsOf t).idxOf (v,x)
def sendsF (g:Geo) (v:Nat) (ln:Nat→List (List Int)):List (Nat×List Int)→Nat→List (List Int)
 | []=>ln
 | x :: l=>sendsF g v (setAt ln (hopI g.t v x.1) (sendL g.p.bag (ln (hopI g.t v x.1)) x.2)) l
def ndTo (g:Geo) (nd:Nat→NodeS) (v:Nat):Nat→NodeS:=fun x=>if x < v then tickS g x (nd x)else nd x
def lnTo (g:Geo) (nd:Nat→NodeS) (ln:Nat→List (List Int)):Nat→Nat→List (List Int)
 | 0=>ln
 | v+1=>sendsF g v (lnTo g nd ln v) (tickO g v (nd v))
def tickF (g:Geo) (s:FabS):FabS:=⟨ndTo g s.nd (g.t.length+1),lnTo g s.nd s.ln (g.t.length+1),wrap64 (s.ticks+1)⟩
theorem ndTo_zero (g:Geo) (nd:Nat→NodeS):ndTo g nd 0=nd:=by funext x;unfold ndTo;rw[if_neg (by omega)]
theorem ndTo_at (g:Geo) (nd:Nat→NodeS) (v:Nat):ndTo g nd v v=nd v:=if_neg (by omega)
theorem ndTo_next (g:Geo) (nd:Nat→NodeS) (v:Nat):setAt (ndTo g nd v) v (tickS g v (nd v))=ndTo g nd (v+1):=by
 funext x
 unfold setAt ndTo
 by_cases h:x=v
 ·subst h;rw[if_pos rfl,if_pos (by omega)]
 ·rw[if_neg h]
  by_cases h2:x < v
  ·rw[if_pos h2,if_pos (by omega)]
  ·rw[if_neg h2,if_neg (by omega)]
theorem sendsF_snoc (g:Geo) (v:Nat) (x:Nat×List Int):∀(l:List (Nat×List Int)) (ln:Nat→List (List Int)),sendsF g v ln (l ++ [x])=setAt (sendsF g v ln l) (hopI g.t v x.1) (sendL g.p.bag (sendsF g v ln l (hopI g.t v x.1)) x.2)
 | [],ln=>rfl
 | y :: l,ln=>by rw[List.cons_append,sendsF,sendsF_snoc g v x l,sendsF]
theorem W8_ok (x:Int):0≤W8 x∧W8 x≤255:=by simp[IntKind.wrap,IntKind.bits,IntKind.signed];omega
theorem encF_bytes (f:Frm) (h0:0≤f.kind∧f.kind≤255) (h1:0≤f.lane∧f.lane≤255) (h3:0≤f.src∧f.src≤255) (h4:0≤f.dst∧f.dst≤255):(encF f).length≤12∧Bytes (encF f):=by
 have hb:(bareF f).length≤10∧Bytes (bareF f):=by
  unfold bareF
  split
  ·refine⟨by simp[fourB],fun x hx=> ?_⟩
   simp only[fourB,List.mem_append,List.mem_cons,List.not_mem_nil,or_false]at hx
   rcases hx with(hx | hx) | hx
   ·rcases hx with rfl | rfl | rfl | rfl
    ·exact h0
    ·exact h1
    ·exact W8_ok _
    ·exact W8_ok _
   ·rcases hx with rfl | rfl
    ·exact h3
    ·exact h4
   ·rcases hx with rfl | rfl | rfl | rfl <;>exact W8_ok _
  ·refine⟨by simp,fun x hx=> ?_⟩
   simp only[List.mem_cons,List.not_mem_nil,or_false]at hx
   rcases hx with rfl | rfl | rfl | rfl
   ·exact h0
   ·exact h1
   ·exact W8_ok _
   ·exact W8_ok _
 unfold encF
 refine⟨by rw[List.length_append];simp;omega,fun x hx=> ?_⟩
 rcases List.mem_append.1 hx with hx | hx
 ·exact hb.2 x hx
 ·simp only[List.mem_cons,List.not_mem_nil,or_false]at hx
  rcases hx with rfl | rfl <;>exact W8_ok _
theorem outB_bytes (f:Frm) (h0:0≤f.kind∧f.kind≤255) (h1:0≤f.lane∧f.lane≤255) (h3:0≤f.src∧f.src≤255) (h4:0≤f.dst∧f.dst≤255):(outB f).length≤12∧Bytes (outB f):=by
 unfold outB
 split
 ·exact encF_bytes f h0 h1 h3 h4
 ·exact⟨by simp,fun x hx=>by cases hx⟩
def OutOk (g:Geo) (v:Nat) (x:Nat×List Int):Prop:=x.1∈nb g.t v∧x.2.length≤12∧Bytes x.2
theorem tos_mem {g:Geo} {v i:Nat} (h0:0 < i) (h:i < g.ports v):(tos g.t v).getD i 0∈nb g.t v:=by
 obtain⟨j,rfl⟩:∃j,i=j+1:=⟨i - 1,by omega⟩
 have hj:j < (nb g.t v).length:=by have:j+1 < (nb g.t v).length+1:=h;omega
 show(v :: nb g.t v).getD (j+1) 0∈_
 rw[List.getD_cons_succ,List.getD_eq_getElem?_getD,List.getElem?_eq_getElem hj]
 exact List.getElem_mem _
theorem moveO_ok {g:Geo} {v i t:Nat} {s:NodeS} (ht:t < g.ports v):∀x∈moveO g v i t s,OutOk g v x:=by
 intro x hx
 unfold moveO at hx
 simp only at hx
 split at hx
 ·cases hx
 ·rename_i h
  simp only[List.mem_singleton]at hx
  subst hx
  exact⟨tos_mem (by omega) ht,outB_bytes _ (by simp[dataF]) (W8_ok _) (W8_ok _) (W8_ok _)⟩
theorem movesO_ok {g:Geo} {v:Nat} {m:Nat→Int} {s:NodeS} (hm:∀i,m i < g.ports v):∀i,∀x∈movesO g v m s i,OutOk g v x
 | 0,x,hx=>by cases hx
 | i+1,x,hx=>by
   unfold movesO at hx
   split at hx
   ·rcases List.mem_append.1 hx with hx | hx
    ·exact movesO_ok hm i x hx
    ·exact moveO_ok (by have:=hm i;omega) x hx
   ·exact movesO_ok hm i x hx
theorem tellK_ok {g:Geo} {v i:Nat} {s:NodeS} (h0:0 < i) (h:i < g.ports v):∀k,∀x∈tellK g v s i k,OutOk g v x
 | 0,x,hx=>by cases hx
 | k+1,x,hx=>by
   unfold tellK at hx
   rcases List.mem_append.1 hx with hx | hx
   ·exact tellK_ok h0 h k x hx
   ·unfold tellO at hx
    simp only[List.mem_cons,List.not_mem_nil,or_false]at hx
    rcases hx with rfl | rfl
    ·exact⟨tos_mem h0 h,outB_bytes _ (by simp) (W8_ok _) (by simp) (by simp)⟩
    ·exact⟨tos_mem h0 h,outB_bytes _ (by simp) (W8_ok _) (by simp) (by simp)⟩
theorem exchO_ok {g:Geo} {v:Nat} {s:NodeS}:∀i,i≤g.ports v→∀x∈exchO g v s i,OutOk g v x
 | 0,_,x,hx=>by cases hx
 | i+1,hi,x,hx=>by
   unfold exchO at hx
   split at hx
   ·exact exchO_ok i (by omega) x hx
   ·rcases List.mem_append.1 hx with hx | hx
    ·exact exchO_ok i (by omega) x hx
    ·exact tellK_ok (by omega) (by omega) _ x hx
theorem tickO_ok {g:Geo} {v:Nat} {s:NodeS} {c:Nat} (h:NodeOk g v s c) (h3:g.ws.length≤3):∀x∈tickO g v s,OutOk g v x:=by
 intro x hx
 unfold tickO at hx
 rcases List.mem_append.1 hx with hx | hx
 ·exact movesO_ok (match_fit (h.fed h3)).hi _ x hx
 ·split at hx
  ·exact exchO_ok _ (Nat.le_refl _) x hx
  ·cases hx
structure LnOk (g:Geo) (ln:Nat→List (List Int)):Prop where
 room:∀h,h < (hopsOf g.t).length→((ln h).length:Int)≤g.p.bag
 rows:∀h,h < (hopsOf g.t).length→∀l∈ln h,l.length≤12∧Bytes l
theorem FabOk.ln {g:Geo} {s:FabS} {c:Nat} (h:FabOk g s c):LnOk g s.ln:=⟨h.room,h.rows⟩
theorem sendL_ok {bag:Int} {rows:List (List Int)} {l:List Int} (h:(rows.length:Int)≤bag) (hr:∀l∈rows,l.length≤12∧Bytes l) (hl:l.length≤12∧Bytes l):((sendL bag rows l).length:Int)≤bag∧∀l'∈sendL bag rows l,l'.length≤12∧Bytes l':=by
 unfold sendL
 split
 ·exact⟨h,hr⟩
 ·refine⟨by rw[List.length_append];simp;omega,fun l' hl'=> ?_⟩
  rcases List.mem_append.1 hl' with h | h
  ·exact hr l' h
  ·simp at h;subst h;exact hl
theorem LnOk.set {g:Geo} {ln:Nat→List (List Int)} (h:LnOk g ln) {i:Nat} {rows:List (List Int)} (h1:(rows.length:Int)≤g.p.bag) (h2:∀l∈rows,l.length≤12∧Bytes l):LnOk g (setAt ln i rows):=by
 refine⟨fun x hx=> ?_,fun x hx=> ?_⟩ <;>unfold setAt <;>split
 ·exact h1
 ·exact h.room x hx
 ·exact h2
 ·exact h.rows x hx
theorem hop_at {t:List Nat} (ht:Tree t) (h5:t.length≤5) {v x:Nat} (hv:v≤t.length) (hx:x∈nb t v):hopI t v x < (hopsOf t).length∧(hopsOf t)[hopI t v x]? =some (v,x):=by
 have hmem:(v,x)∈hopsOf t:=by
  have key:∀n,v < n→(v,x)∈hopsTo t n:=by
   intro n
   induction n with
   | zero=>intro h;omega
   | succ n ih=>
     intro h
     unfold hopsTo
     rcases Nat.lt_or_ge v n with h2 | h2
     ·exact List.mem_append_left _ (ih h2)
     ·obtain rfl:v=n:=by omega
      exact List.mem_append_right _ (List.mem_map.2 ⟨x,hx,rfl⟩)
  exact key _ (by omega)
 have h1:=List.idxOf_lt_length_of_mem hmem
 exact⟨h1,by unfold hopI;rw[List.getElem?_eq_getElem h1,List.getElem_idxOf]⟩
theorem LnOk.sends {g:Geo} (ht:Tree g.t) (h5:g.t.length≤5) {v:Nat} (hv:v≤g.t.length):∀(l:List (Nat×List Int)) {ln:Nat→List (List Int)},LnOk g ln→(∀x∈l,OutOk g v x)→LnOk g (sendsF g v ln l)
 | [],_,h,_=>h
 | x :: l,ln,h,hl=>by
   have hx:=hl x (List.mem_cons_self)
   have hi:=(hop_at ht h5 hv hx.1).1
   have:=sendL_ok (h.room _ hi) (h.rows _ hi) hx.2
   exact LnOk.sends ht h5 hv l (h.set this.1 this.2) (fun y hy=>hl y (List.mem_cons_of_mem _ hy))
theorem LnOk.to {g:Geo} (ht:Tree g.t) (h5:g.t.length≤5) (h3:g.ws.length≤3) {s:FabS} {c:Nat} (h:FabOk g s c):∀v,v≤g.t.length+1→LnOk g (lnTo g s.nd s.ln v)
 | 0,_=>h.ln
 | v+1,hv=>LnOk.sends ht h5 (by omega) _ (LnOk.to ht h5 h3 h v (by omega)) (tickO_ok (h.node v (by omega)) h3)
theorem FabOk.tick {g:Geo} (ht:Tree g.t) (h5:g.t.length≤5) (h3:g.ws.length≤3) {s:FabS} {c:Nat} (h:FabOk g s c):FabOk g (tickF g s) (c+6):=by
 have hl:=LnOk.to ht h5 h3 h (g.t.length+1) (Nat.le_refl _)
 refine⟨fun v hv=> ?_,hl.room,hl.rows⟩
 show NodeOk g v (ndTo g s.nd (g.t.length+1) v) (c+6)
 unfold ndTo
 rw[if_pos (by omega)]
 have:=(nb_rises ht h5 hv).2.2.1
 exact((h.node v hv).tick h3).more (by show c+((nb g.t v).length+1)≤_;omega)
theorem FabOk.del {g:Geo} {s:FabS} {c:Nat} (h:FabOk g s c) (i:Nat) (hi:i < (hopsOf g.t).length) (k:Int):FabOk g (delF g s i k).1 c:=by
 unfold delF
 split
 ·exact h
 ·simp only
  refine⟨fun v hv=> ?_,fun x hx=> ?_,fun x hx=> ?_⟩
  ·show NodeOk g v (setAt s.nd _ _ v) c
   unfold setAt
   split
   ·rename_i e;subst e;exact(h.node _ hv).take _ _
   ·exact h.node v hv
  ·show((setAt s.ln i _ x).length:Int)≤_
   unfold setAt
   split
   ·rename_i e;subst e
    have:=h.room x hx
    unfold takeL
    split
    ·rw[List.length_eraseIdx];split <;>omega
    ·exact this
   ·exact h.room x hx
  ·show ∀l∈setAt s.ln i _ x,_
   unfold setAt
   split
   ·rename_i e;subst e
    intro l hl
    unfold takeL at hl
    split at hl
    ·exact h.rows x hx l (List.mem_of_mem_eraseIdx hl)
    ·exact h.rows x hx l hl
   ·exact h.rows x hx
theorem NodeOk.inj {g:Geo} {v:Nat} {s:NodeS} {c:Nat} (h:NodeOk g v s c) (x:Pkt) (hl:g.p.lanes≤3):NodeOk g v (injN g v s x).1 c:=by
 unfold injN
 split
 ·exact h
 ·rename_i h1
  have h1:injOk g.t v x:=by simpa using h1
  split
  ·exact h
  ·rename_i h2
   split
   ·exact h
   ·rename_i h3
    have hlt:x.lane.toNat < 3:=by omega
    refine⟨h.wheel,h.G,h.A,fun k hk y hy=> ?_,fun k hk=> ?_, ?_⟩
    ·simp only[setAt]at hy
     split at hy
     ·rename_i e;subst e
      rcases List.mem_append.1 hy with hy | hy
      ·exact h.q _ hk y hy
      ·simp at hy;subst hy
       obtain⟨_,e2,e3,_⟩:=h1
       exact⟨y.dst.toNat,by omega,by omega⟩
     ·exact h.q k hk y hy
    ·show((setAt s.q x.lane.toNat (s.q x.lane.toNat ++ [x]) k).length:Int)≤_
     unfold setAt
     split
     ·have:=h.wait _ hlt
      rw[List.length_append];simp;omega
     ·exact h.wait k hk
    ·show(setAt s.q x.lane.toNat (s.q x.lane.toNat ++ [x]) 3).length≤c
     rw[setAt_other _ _ _ _ (by omega)];exact h.came
theorem FabOk.inj {g:Geo} {s:FabS} {c:Nat} (h:FabOk g s c) (x:Pkt) (hl:g.p.lanes≤3):FabOk g (injF g s x).1 c:=by
 unfold injF
 split
 ·refine⟨fun v hv=> ?_,h.room,h.rows⟩
  show NodeOk g v (setAt s.nd _ _ v) c
  unfold setAt
  split
  ·rename_i e;subst e;exact(h.node _ hv).inj x hl
  ·exact h.node v hv
 ·exact h
theorem FabOk.more {g:Geo} {s:FabS} {c c':Nat} (h:FabOk g s c) (hc:c≤c'):FabOk g s c':=⟨fun v hv=>(h.node v hv).more hc,h.room,h.rows⟩
end Go.Proofs.YtebnflpanfmicaaGreatDoor
