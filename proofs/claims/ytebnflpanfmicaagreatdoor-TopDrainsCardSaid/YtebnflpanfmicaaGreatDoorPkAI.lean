/-
  Part 9 of the proof: TreeUp, AppendIn, TreePath, TreePathTop, TreeLay, TreeLayYes, TreeKnown, TreeOf, TreeLawKit, TreeMake.
-/
import Derived.Test.YtebnflpanfmicaaGreatDoorProg
import Derived.BigQuiet
import Derived.Test.YtebnflpanfmicaaGreatDoorPkAH
import Derived.OwnWalkIn
import Derived.TacticsInMore
import Derived.LoopNIn
import Derived.LoopIn
import Derived.Test.YtebnflpanfmicaaGreatDoorPkAA
import Derived.Shelf.Abstract
import Derived.Lib.BitFns
import Derived.Lib.Tables
import Derived.WalkMore
import Derived.Test.YtebnflpanfmicaaGreatDoorPkAB
import Derived.Deep.OwnRows
import Derived.Lib.SliceRun
import Derived.OpenShut
import Derived.DataShut
set_option linter.unusedVariables false
set_option linter.unusedSimpArgs false
set_option linter.unusedSectionVars false
namespace Go.Proofs.YtebnflpanfmicaaGreatDoor
open Go.RowKit
def SBox (w:World) (b:Nat) (v:Value):Prop:=w.heap[b]? =some (.cells #[v] 35 (0,0))
theorem SBox.cell {w:World} {b:Nat} {v:Value} (h:SBox w b v):w.cell? ⟨b,0,none⟩=some v:=by rw[blk_cell h];rfl
theorem SBox.frozen {w:World} {b:Nat} {v:Value} (h:SBox w b v):w.frozen? ⟨b,0,none⟩=false:=blk_frozen h 0
def intAt (w:World) (b:Nat):Nat:=match w.cell? ⟨b,0,none⟩with
 | some (.int _ m)=>m.toNat
 | _=>0
theorem IBox.at_ {w:World} {b m:Nat} (h:IBox w b (m:Int)):intAt w b=m:=by unfold intAt;rw[h.cell];simp
def Fam (w:World) (A:Option Addr) (n:Nat) (t:List Nat):Prop:=
 t.length=n∧∀j,j < n→∃g off,A=some ⟨g,off,none⟩∧g < w.heap.size∧w.cell? ⟨g,off+j,none⟩=some (encI (t.getD j 0))
def famBlock (A:Option Addr) (k:Nat):Prop:=∃g off,A=some ⟨g,off,none⟩∧k=g
theorem Fam.same {w w':World} {A:Option Addr} {n:Nat} {t:List Nat} (h:Fam w A n t) (hs:∀k,0 < n→famBlock A k→w'.heap[k]? =w.heap[k]?):Fam w' A n t:=by
 refine⟨h.1,fun j hj=> ?_⟩
 obtain⟨g,off,e,hg,hc⟩:=h.2 j hj
 have h2:=hs g (by omega) ⟨g,off,e,rfl⟩
 have h3:=h2
 rw[Array.getElem?_eq_getElem hg]at h3
 exact⟨g,off,e,blk_lt h3,(World.cell?_of_block h2).trans hc⟩
theorem Fam.keeps {w w':World} {A:Option Addr} {n:Nat} {t:List Nat} {F:Nat→Prop} (h:Fam w A n t) (hk:Keeps F w w') (hF:∀k,famBlock A k→¬F k):Fam w' A n t:=by
 refine⟨h.1,fun j hj=> ?_⟩
 obtain⟨g,off,e,hg,hc⟩:=h.2 j hj
 exact⟨g,off,e,Nat.lt_of_lt_of_le hg hk.size,hk.cell hc (hF g ⟨g,off,e,rfl⟩)⟩
end Go.Proofs.YtebnflpanfmicaaGreatDoor
namespace Go.Proofs.YtebnflpanfmicaaGreatDoor
open Go.RowKit
end Go.Proofs.YtebnflpanfmicaaGreatDoor
namespace Go.Proofs.YtebnflpanfmicaaGreatDoor
open Go.RowKit Go.Shelf
theorem QS.fam {w:World} {e n:Nat} {A:Option Addr} {c:Nat} {t:List Nat} (h:QS w e 1 (.slice A n c) n (t.map encI)):Fam w A n t:=by
 have hl:t.length=n:=by have:=h.1;simpa using this
 refine⟨hl,fun j hj=> ?_⟩
 obtain⟨g,off,c',e',_,hc,_⟩:=h.cell (by omega)
 injection e' with e1 _ _
 refine⟨g,off,e1,h.lt g (by rw[e1];rfl),hc j _ ?_⟩
 rw[List.getElem?_map,List.getD_eq_getElem?_getD,List.getElem?_eq_getElem (by omega)];rfl
theorem Fam.take {w:World} {A:Option Addr} {n i:Nat} {t:List Nat} (h:Fam w A n t) (hi:i≤n):Fam w A i (t.take i):=by
 refine⟨by rw[List.length_take,h.1];omega,fun j hj=> ?_⟩
 obtain⟨g,off,e,hg,hc⟩:=h.2 j (by omega)
 refine⟨g,off,e,hg, ?_⟩
 rw[List.getD_eq_getElem?_getD,List.getElem?_take_of_lt hj,←List.getD_eq_getElem?_getD]
 exact hc
end Go.Proofs.YtebnflpanfmicaaGreatDoor
namespace Go.Proofs.YtebnflpanfmicaaGreatDoor
open Go.RowKit
abbrev encZ (z:Int):Value:= .int .i64 z
theorem getD_int {ps:List Int} {i:Nat} (h:i < ps.length):ps.getD i 0=ps[i]:=by rw[List.getD_eq_getElem?_getD,List.getElem?_eq_getElem h];rfl
theorem tright_no {ps:List Int} {i:Nat} (h:i < ps.length) (hb:¬(0≤ps[i]∧ps[i]≤(i:Int))):rightI ps=false:=by
 unfold rightI
 rw[Bool.and_eq_false_iff]
 left
 rw[List.all_eq_false]
 refine⟨i,by simpa using h, ?_⟩
 rw[getD_int h];simpa using hb
theorem tright_yes {ps:List Int} (hb:∀j (h:j < ps.length),0≤ps[j]∧ps[j]≤(j:Int)):rightI ps=decide (ps.length < 6):=by
 unfold rightI
 rw[(List.all_eq_true (l:=List.range ps.length)).2 (fun i hi=>by
  have hi':i < ps.length:=by simpa using hi
  rw[getD_int hi'];exact decide_eq_true (hb i hi')),Bool.true_and]
theorem Reads.fam {w:World} {B n c:Nat} {A:Option Addr} {t:List Nat} (h:Reads w B 1 (.slice A n c) n (t.map encI)) (hB:B≤w.heap.size):Fam w A n t∧∀k,0 < n→famBlock A k→k < B:=by
 have hl:t.length=n:=by have:=h.1;simpa using this
 refine⟨⟨hl,fun j hj=> ?_⟩,fun k hn hk=> ?_⟩
 ·obtain⟨g,off,c',e',_,hg,hc⟩:=h.at_ (by simp;omega)
  injection e' with e1 _ _
  refine⟨g,off,e1,by omega,hc j _ ?_⟩
  rw[List.getElem?_map,List.getD_eq_getElem?_getD,List.getElem?_eq_getElem (by omega)];rfl
 ·obtain⟨g,off,c',e',_,hg,hc⟩:=h.at_ (by simp;omega)
  injection e' with e1 _ _
  subst e1
  obtain⟨g',off',e2,rfl⟩:=hk
  injection e2 with e2
  injection e2 with e2 _ _
  omega
end Go.Proofs.YtebnflpanfmicaaGreatDoor
namespace Go.Proofs.YtebnflpanfmicaaGreatDoor
open Go.RowKit
theorem one_ints (zs:List Int):∀u∈zs.map encZ,u.oneCell'=true:=by
 intro u hu
 obtain⟨z,_,rfl⟩:=List.mem_map.1 hu
 rfl
set_option maxHeartbeats 2000000 in
theorem tclone_calls (fv:Value) (ps:List Int) (w:World) (h:Reads w w.heap.size 1 fv ps.length (ps.map encZ)) (hb:ps.length*8≤140737488355328):
  Calls Tryz.prog 77 #[fv] w fun e w'=>∃u,e= .returned u∧QS w' 3 1 u ps.length (ps.map encZ)∧Keeps (fun _=>False) w w'∧∀k,u.ownBlock=some k→w.heap.size≤k:=by
 obtain⟨A,c,hsh⟩:∃A c,fv= .slice A ps.length c:=by obtain⟨_,A,c,h,_⟩:=h;exact⟨A,c,h⟩
 subst hsh
 cases A with
 | none=>
   have hn:ps.length=0:=by
    obtain⟨_,A,c',e,_,_,h5⟩:=h
    injection e with e1 _ _
    rcases Nat.eq_zero_or_pos ps.length with h0 | h0
    ·exact h0
    ·obtain⟨ad,e2,_⟩:=h5 h0
     rw[←e1]at e2;cases e2
   obtain rfl:=List.eq_nil_of_length_eq_zero hn
   have he:=fun w=>Go.Lib.run_eql_slice_nil (P:=Tryz.prog) w 35 3 none 0 c 0 0 Tryz.underlying35
   simp only[Option.isNone]at he
   go_enter Tryz.func77,Tryz.ntmps77
   go_wp2_with fail
   go_ret
   exact⟨_,rfl,QS.nil _ _ _,Keeps.refl _ _,fun k h=>by cases h⟩
 | some a=>
   have h2:Reads (w.alloc (.cells #[] 3)) (w.alloc (.cells #[] 3)).heap.size 1 (.slice (some a) ps.length c) ps.length (ps.map encZ):=by
    obtain⟨h1,A,c',e,h2,h3,h5⟩:=h
    refine⟨h1,A,c',e,h2,h3,fun hn=> ?_⟩
    obtain⟨ad,e,hlt,hc⟩:=h5 hn
    exact⟨ad,e,by rw[World.size_alloc];omega,fun j u hu=>(Keeps.alloc (fun _=>False) w _).cell (hc j u hu) (fun h=>h)⟩
   have he:=fun w=>Go.Lib.run_eql_slice_nil (P:=Tryz.prog) w 35 3 (some a) ps.length c 0 0 Tryz.underlying35
   simp only[Option.isNone]at he
   have hsrc:=h2.src Tryz.underlying35 (one_ints ps)
   have hq0:QS (w.alloc (.cells #[] 3)) 3 1 (.slice (some ⟨w.heap.size,0,none⟩) 0 0) 0 []:=⟨rfl, .inr ⟨w.heap.size,0,0,_,rfl,blk_new _ _,Nat.le_refl _,Nat.zero_le _,by simp,fun j hj=>absurd hj (Nat.not_lt_zero _)⟩⟩
   go_enter Tryz.func77,Tryz.ntmps77
   go_wp2_with (at_builtin;refine wpList_append_QS rfl _ _ 35 35 rfl 3 _ 1 8 Tryz.underlying35 info_int rfl (.slice (some ⟨w.heap.size,0,none⟩) 0 0) 0 [] rfl hq0 _ ps.length (ps.map encZ) rfl hsrc (by decide) (by omega) ?_;intro A1 c1 w1 hq1 hg1 ho1;rw[Nat.zero_add]at hq1 ho1 ⊢;rw[List.nil_append]at hq1)
   go_ret
   refine⟨.slice A1 ps.length c1,rfl,hq1, ?_,fun k hk=> ?_⟩
   ·exact(Keeps.alloc (fun _=>False) w (.cells #[] 3)).then (Keeps.grown (F:=fun k=>k=w.heap.size) hg1 (fun k h=>by simpa[Value.ownBlock]using h.symm)) (fun i hi h=>by omega)
   ·rcases ho1 with h | ⟨i',h,hle⟩
    ·rw[hk]at h;simp[Value.ownBlock]at h;omega
    ·rw[hk]at h;cases h;rw[World.size_alloc]at hle;omega
def nxt (t:List Nat) (v x:Nat):Nat:=(pathN t v x).getD (if(pathN t v x).length=1 then 0 else 1) 0
def trowOf (t:List Nat) (v:Nat):List Nat:=(List.range (t.length+1)).map (nxt t v)
def rowsOf (t:List Nat) (v:Nat):List (List Nat):=(List.range v).map (trowOf t)
def edgesOf (t:List Nat) (i:Nat):List (Nat×Nat):=(List.range i).map fun j=>(t.getD j 0,j+1)
def ecells (l:List (Nat×Nat)):List Value:=l.flatMap fun e=>[encI e.1,encI e.2]
theorem ecells_length (l:List (Nat×Nat)):(ecells l).length=l.length*2:=by
 induction l with
 | nil=>rfl
 | cons x l ih=>simp only[ecells,List.flatMap_cons,List.length_append,List.length_cons,List.length_nil]at ih ⊢;omega
theorem ecells_append (l m:List (Nat×Nat)):ecells (l ++ m)=ecells l ++ ecells m:=by simp[ecells]
theorem edgesOf_succ (t:List Nat) (i:Nat):edgesOf t (i+1)=edgesOf t i ++ [(t.getD i 0,i+1)]:=by unfold edgesOf;rw[List.range_succ,List.map_append];rfl
theorem edgesOf_length (t:List Nat) (i:Nat):(edgesOf t i).length=i:=by simp[edgesOf]
theorem rowsOf_succ (t:List Nat) (v:Nat):rowsOf t (v+1)=rowsOf t v ++ [trowOf t v]:=by unfold rowsOf;rw[List.range_succ,List.map_append];rfl
theorem rowsOf_length (t:List Nat) (v:Nat):(rowsOf t v).length=v:=by simp[rowsOf]
theorem rowOf_length (t:List Nat) (v:Nat):(trowOf t v).length=t.length+1:=by simp[trowOf]
def part (f:Nat→Nat) (n j:Nat):List Nat:=(List.range n).map fun k=>if k < j then f k else 0
def NextIs (w:World) (base:Nat) (nv:Value) (rows:List (List Nat)):Prop:=
 ∃vs:List Value,QS w 35 1 nv rows.length vs∧(∀k,nv.ownBlock=some k→base≤k)∧(∀u∈vs,u.oneCell'=true)∧
  ∀(i:Nat) (v:Value) (r:List Nat),vs[i]? =some v→rows[i]? =some r→QS w 3 1 v r.length (r.map encI)∧∀k,v.ownBlock=some k→base≤k
theorem NextIs.nil (w:World) (base:Nat):NextIs w base (.slice none 0 0) []:=by
 refine⟨[],QS.nil _ _ _, ?_, ?_, ?_⟩
 ·intro k h;cases h
 ·intro u h;cases h
 ·intro i v r h;cases h
theorem NextIs.keeps {w w':World} {base:Nat} {nv:Value} {rows:List (List Nat)} {F:Nat→Prop} (h:NextIs w base nv rows) (hk:Keeps F w w') (hF:∀k,base≤k→k < w.heap.size→¬F k):NextIs w' base nv rows:=by
 obtain⟨vs,h1,h2,h3,h4⟩:=h
 refine⟨vs,h1.keeps hk (fun k hv=>hF k (h2 k hv) (h1.lt k hv)),h2,h3,fun i v r hv hr=> ?_⟩
 obtain⟨h5,h6⟩:=h4 i v r hv hr
 exact⟨h5.keeps hk (fun k hv=>hF k (h6 k hv) (h5.lt k hv)),h6⟩
theorem QS.ne {w:World} {e e' sz sz' n n':Nat} {v v':Value} {cs cs':List Value} (h:QS w e sz v n cs) (h':QS w e' sz' v' n' cs') (hne:e≠e'):∀k,v.ownBlock=some k→v'.ownBlock≠some k:=by
 intro k hk hk'
 obtain⟨c,hc⟩:=h.typed k hk
 obtain⟨c',hc'⟩:=h'.typed k hk'
 rw[hc]at hc'
 injection hc' with hc'
 injection hc' with _ e1
 exact hne e1
theorem Reads.keepsF {w w':World} {B B' sz n:Nat} {v:Value} {cs:List Value} (h:Reads w B sz v n cs) (hk:Keeps (fun _=>False) w w') (hB:B≤B'):Reads w' B' sz v n cs:=by
 obtain⟨h1,A,c,e,h2,h3,h5⟩:=h
 refine⟨h1,A,c,e,h2,h3,fun hn=> ?_⟩
 obtain⟨ad,e,hlt,hc⟩:=h5 hn
 exact⟨ad,e,by omega,fun j u hu=>hk.cell (hc j u hu) (fun h=>h)⟩
structure Nums where
 lanes:Int
 room:Int
 queue:Int
 rounds:Int
 every:Int
 bag:Int
 start:Int
def Nums.plan (p:Nums) (n:Int) (e wt nx:Value):Array Value:=
 #[.int .i64 n,e, .int .i64 p.lanes, .int .i64 p.room, .int .i64 p.queue, .int .i64 p.rounds, .int .i64 p.every, .int .i64 p.bag,wt, .int .u16 p.start,nx]
def Nums.zero:Nums:=⟨0,0,0,0,0,0,0⟩
def PBox (w:World) (b:Nat) (cs:Array Value):Prop:=w.heap[b]? =some (.cells cs 38 (0,0))
theorem info_edge:(Tryz.prog.info? 149).map (fun i=>(i.zero,i.size,i.bytes))=some (some (.agg #[.int .i64 0, .int .i64 0]),2,16):=by kernel_rfl
theorem info_ints:(Tryz.prog.info? 35).map (fun i=>(i.zero,i.size,i.bytes))=some (some (.slice none 0 0),1,24):=by kernel_rfl
end Go.Proofs.YtebnflpanfmicaaGreatDoor
namespace Go.Proofs.YtebnflpanfmicaaGreatDoor
open Go.RowKit
theorem PBox.at_ {w:World} {b:Nat} {p:Nums} {n:Int} {e wt nx:Value} (h:PBox w b (p.plan n e wt nx)):
  w.cell? ⟨b,0,none⟩=some (.int .i64 n)∧w.cell? ⟨b,1,none⟩=some e∧w.cell? ⟨b,8,none⟩=some wt∧w.cell? ⟨b,10,none⟩=some nx∧∀i,w.frozen? ⟨b,i,none⟩=false:=
 ⟨by rw[blk_cell h];rfl,by rw[blk_cell h];rfl,by rw[blk_cell h];rfl,by rw[blk_cell h];rfl,fun i=>blk_frozen h i⟩
theorem PBox.edges {w:World} {b:Nat} {p:Nums} {n:Int} {e wt nx:Value} (h:PBox w b (p.plan n e wt nx)) (e':Value):PBox (w.setCell ⟨b,1,none⟩ e') b (p.plan n e' wt nx):=blk_set h 1 e'
theorem PBox.weights {w:World} {b:Nat} {p:Nums} {n:Int} {e wt nx:Value} (h:PBox w b (p.plan n e wt nx)) (e':Value):PBox (w.setCell ⟨b,8,none⟩ e') b (p.plan n e e' nx):=blk_set h 8 e'
theorem PBox.next {w:World} {b:Nat} {p:Nums} {n:Int} {e wt nx:Value} (h:PBox w b (p.plan n e wt nx)) (e':Value):PBox (w.setCell ⟨b,10,none⟩ e') b (p.plan n e wt e'):=blk_set h 10 e'
def NextIn (w:World) (base lim:Nat) (nv:Value) (rows:List (List Nat)):Prop:=
 ∃vs:List Value,QS w 35 1 nv rows.length vs∧(∀k,nv.ownBlock=some k→base≤k∧k < lim)∧(∀u∈vs,u.oneCell'=true)∧
  ∀(i:Nat) (v:Value) (r:List Nat),vs[i]? =some v→rows[i]? =some r→QS w 3 1 v r.length (r.map encI)∧∀k,v.ownBlock=some k→base≤k∧k < lim
theorem NextIn.is {w:World} {base base' lim:Nat} {nv:Value} {rows:List (List Nat)} (h:NextIn w base lim nv rows) (hb:base'≤base):NextIs w base' nv rows:=by
 obtain⟨vs,h1,h2,h3,h4⟩:=h
 refine⟨vs,h1,fun k hk=>Nat.le_trans hb (h2 k hk).1,h3,fun i v r hv hr=> ?_⟩
 obtain⟨h5,h6⟩:=h4 i v r hv hr
 exact⟨h5,fun k hk=>Nat.le_trans hb (h6 k hk).1⟩
theorem NextIn.nil (w:World) (base lim:Nat):NextIn w base lim (.slice none 0 0) []:=by
 refine⟨[],QS.nil _ _ _, ?_, ?_, ?_⟩
 ·intro k h;cases h
 ·intro u h;cases h
 ·intro i v r h;cases h
theorem NextIn.keeps {w w':World} {base lim:Nat} {nv:Value} {rows:List (List Nat)} {F:Nat→Prop} (h:NextIn w base lim nv rows) (hk:Keeps F w w')
  (hF:∀k,F k→base≤k→k < lim→∃cur,w.heap[k]? =some (.cells cur 149 (0,0))):NextIn w' base lim nv rows:=by
 have ty:∀(k:Nat) (e:Nat) (cur:Array Value),e≠149→base≤k→k < lim→w.heap[k]? =some (.cells cur e (0,0))→¬F k:=fun k e cur hne h1 h2 hc hf=>by
  obtain⟨cur',hc'⟩:=hF k hf h1 h2
  rw[hc]at hc'
  injection hc' with hc'
  injection hc' with _ e1
  exact hne e1
 obtain⟨vs,h1,h2,h3,h4⟩:=h
 refine⟨vs,h1.keeps hk (fun k hv=> ?_),h2,h3,fun i v r hv hr=> ?_⟩
 ·obtain⟨cur,hc⟩:=h1.typed k hv
  exact ty k _ cur (by decide) (h2 k hv).1 (h2 k hv).2 hc
 ·obtain⟨h5,h6⟩:=h4 i v r hv hr
  refine⟨h5.keeps hk (fun k hv=> ?_),h6⟩
  obtain⟨cur,hc⟩:=h5.typed k hv
  exact ty k _ cur (by decide) (h6 k hv).1 (h6 k hv).2 hc
theorem PBox.all {w:World} {b:Nat} {a0 a1 a2 a3 a4 a5 a6 a7 a8 a9 a10:Value} (h:PBox w b #[a0,a1,a2,a3,a4,a5,a6,a7,a8,a9,a10]):
  w.cell? ⟨b,0,none⟩=some a0∧w.cell? ⟨b,1,none⟩=some a1∧w.cell? ⟨b,2,none⟩=some a2∧w.cell? ⟨b,3,none⟩=some a3∧w.cell? ⟨b,4,none⟩=some a4∧w.cell? ⟨b,5,none⟩=some a5∧
  w.cell? ⟨b,6,none⟩=some a6∧w.cell? ⟨b,7,none⟩=some a7∧w.cell? ⟨b,8,none⟩=some a8∧w.cell? ⟨b,9,none⟩=some a9∧w.cell? ⟨b,10,none⟩=some a10∧∀i,w.frozen? ⟨b,i,none⟩=false:=
 ⟨by rw[blk_cell h];rfl,by rw[blk_cell h];rfl,by rw[blk_cell h];rfl,by rw[blk_cell h];rfl,by rw[blk_cell h];rfl,by rw[blk_cell h];rfl,by rw[blk_cell h];rfl,by rw[blk_cell h];rfl,by rw[blk_cell h];rfl,by rw[blk_cell h];rfl,by rw[blk_cell h];rfl,fun i=>blk_frozen h i⟩
theorem set11 {w:World} {b:Nat} {c0 c1 c2 c3 c4 c5 c6 c7 c8 c9 c10:Value} (h:PBox w b #[c0,c1,c2,c3,c4,c5,c6,c7,c8,c9,c10]) (a0 a1 a2 a3 a4 a5 a6 a7 a8 a9 a10:Value):
  PBox (((((((((((w.setCell ⟨b,0,none⟩ a0).setCell ⟨b,1,none⟩ a1).setCell ⟨b,2,none⟩ a2).setCell ⟨b,3,none⟩ a3).setCell ⟨b,4,none⟩ a4).setCell ⟨b,5,none⟩ a5).setCell ⟨b,6,none⟩ a6).setCell ⟨b,7,none⟩ a7).setCell ⟨b,8,none⟩ a8).setCell ⟨b,9,none⟩ a9).setCell ⟨b,10,none⟩ a10) b #[a0,a1,a2,a3,a4,a5,a6,a7,a8,a9,a10]∧Keeps (fun k=>k=b) w (((((((((((w.setCell ⟨b,0,none⟩ a0).setCell ⟨b,1,none⟩ a1).setCell ⟨b,2,none⟩ a2).setCell ⟨b,3,none⟩ a3).setCell ⟨b,4,none⟩ a4).setCell ⟨b,5,none⟩ a5).setCell ⟨b,6,none⟩ a6).setCell ⟨b,7,none⟩ a7).setCell ⟨b,8,none⟩ a8).setCell ⟨b,9,none⟩ a9).setCell ⟨b,10,none⟩ a10):=by
 have h0:PBox (w.setCell ⟨b,0,none⟩ a0) b #[a0,c1,c2,c3,c4,c5,c6,c7,c8,c9,c10]:=blk_set h 0 a0
 have h1:PBox ((w.setCell ⟨b,0,none⟩ a0).setCell ⟨b,1,none⟩ a1) b #[a0,a1,c2,c3,c4,c5,c6,c7,c8,c9,c10]:=blk_set h0 1 a1
 have h2:PBox (((w.setCell ⟨b,0,none⟩ a0).setCell ⟨b,1,none⟩ a1).setCell ⟨b,2,none⟩ a2) b #[a0,a1,a2,c3,c4,c5,c6,c7,c8,c9,c10]:=blk_set h1 2 a2
 have h3:PBox ((((w.setCell ⟨b,0,none⟩ a0).setCell ⟨b,1,none⟩ a1).setCell ⟨b,2,none⟩ a2).setCell ⟨b,3,none⟩ a3) b #[a0,a1,a2,a3,c4,c5,c6,c7,c8,c9,c10]:=blk_set h2 3 a3
 have h4:PBox (((((w.setCell ⟨b,0,none⟩ a0).setCell ⟨b,1,none⟩ a1).setCell ⟨b,2,none⟩ a2).setCell ⟨b,3,none⟩ a3).setCell ⟨b,4,none⟩ a4) b #[a0,a1,a2,a3,a4,c5,c6,c7,c8,c9,c10]:=blk_set h3 4 a4
 have h5:PBox ((((((w.setCell ⟨b,0,none⟩ a0).setCell ⟨b,1,none⟩ a1).setCell ⟨b,2,none⟩ a2).setCell ⟨b,3,none⟩ a3).setCell ⟨b,4,none⟩ a4).setCell ⟨b,5,none⟩ a5) b #[a0,a1,a2,a3,a4,a5,c6,c7,c8,c9,c10]:=blk_set h4 5 a5
 have h6:PBox (((((((w.setCell ⟨b,0,none⟩ a0).setCell ⟨b,1,none⟩ a1).setCell ⟨b,2,none⟩ a2).setCell ⟨b,3,none⟩ a3).setCell ⟨b,4,none⟩ a4).setCell ⟨b,5,none⟩ a5).setCell ⟨b,6,none⟩ a6) b #[a0,a1,a2,a3,a4,a5,a6,c7,c8,c9,c10]:=blk_set h5 6 a6
 have h7:PBox ((((((((w.setCell ⟨b,0,none⟩ a0).setCell ⟨b,1,none⟩ a1).setCell ⟨b,2,none⟩ a2).setCell ⟨b,3,none⟩ a3).setCell ⟨b,4,none⟩ a4).setCell ⟨b,5,none⟩ a5).setCell ⟨b,6,none⟩ a6).setCell ⟨b,7,none⟩ a7) b #[a0,a1,a2,a3,a4,a5,a6,a7,c8,c9,c10]:=blk_set h6 7 a7
 have h8:PBox (((((((((w.setCell ⟨b,0,none⟩ a0).setCell ⟨b,1,none⟩ a1).setCell ⟨b,2,none⟩ a2).setCell ⟨b,3,none⟩ a3).setCell ⟨b,4,none⟩ a4).setCell ⟨b,5,none⟩ a5).setCell ⟨b,6,none⟩ a6).setCell ⟨b,7,none⟩ a7).setCell ⟨b,8,none⟩ a8) b #[a0,a1,a2,a3,a4,a5,a6,a7,a8,c9,c10]:=blk_set h7 8 a8
 have h9:PBox ((((((((((w.setCell ⟨b,0,none⟩ a0).setCell ⟨b,1,none⟩ a1).setCell ⟨b,2,none⟩ a2).setCell ⟨b,3,none⟩ a3).setCell ⟨b,4,none⟩ a4).setCell ⟨b,5,none⟩ a5).setCell ⟨b,6,none⟩ a6).setCell ⟨b,7,none⟩ a7).setCell ⟨b,8,none⟩ a8).setCell ⟨b,9,none⟩ a9) b #[a0,a1,a2,a3,a4,a5,a6,a7,a8,a9,c10]:=blk_set h8 9 a9
 have h10:PBox (((((((((((w.setCell ⟨b,0,none⟩ a0).setCell ⟨b,1,none⟩ a1).setCell ⟨b,2,none⟩ a2).setCell ⟨b,3,none⟩ a3).setCell ⟨b,4,none⟩ a4).setCell ⟨b,5,none⟩ a5).setCell ⟨b,6,none⟩ a6).setCell ⟨b,7,none⟩ a7).setCell ⟨b,8,none⟩ a8).setCell ⟨b,9,none⟩ a9).setCell ⟨b,10,none⟩ a10) b #[a0,a1,a2,a3,a4,a5,a6,a7,a8,a9,a10]:=blk_set h9 10 a10
 refine⟨h10, ?_⟩
 have k:∀(x:World) (i:Nat) (v:Value),Keeps (fun k=>k=b) x (x.setCell ⟨b,i,none⟩ v):=fun _ _ _=>Keeps.setCell _ _ _ _ rfl
 exact(((((((((((k _ _ _)).trans (k _ _ _)).trans (k _ _ _)).trans (k _ _ _)).trans (k _ _ _)).trans (k _ _ _)).trans (k _ _ _)).trans (k _ _ _)).trans (k _ _ _)).trans (k _ _ _)).trans (k _ _ _)
structure LayAt (w:World) (p:Nums) (t:List Nat) (ws:List Int) (i v lim:Nat) (X:World):Prop where
 keeps:Keeps (fun _=>False) w X
 size:w.heap.size+2≤X.heap.size
 lim1:w.heap.size+2≤lim
 res:PBox X (w.heap.size+1) (Nums.zero.plan 0 (.slice none 0 0) (.slice none 0 0) (.slice none 0 0))
 box:∃Ea ec Wa wc Na nc,PBox X w.heap.size (p.plan ((t.length:Int)+1) (.slice Ea i ec) (.slice Wa ws.length wc) (.slice Na v nc))∧
  QS X 149 2 (.slice Ea i ec) i (ecells (edgesOf t i))∧(∀k,(Value.slice Ea i ec).ownBlock=some k→w.heap.size+2≤k∧k < lim)∧
  QS X 3 1 (.slice Wa ws.length wc) ws.length (ws.map encZ)∧(∀k,(Value.slice Wa ws.length wc).ownBlock=some k→w.heap.size+2≤k∧k < lim)∧
  NextIn X (w.heap.size+2) lim (.slice Na v nc) (rowsOf t v)
theorem LayAt.calm {w:World} {p:Nums} {t:List Nat} {ws:List Int} {i v lim:Nat} {X Y:World} {F:Nat→Prop} (h:LayAt w p t ws i v lim X) (hk:Keeps F X Y) (hF:∀k,F k→lim≤k):LayAt w p t ws i v lim Y:=by
 obtain⟨h1,h2,h2',h3,Ea,ec,Wa,wc,Na,nc,h4,h5,h6,h7,h8,h9⟩:=h
 refine⟨h1.then hk (fun i hi h=>by have:=hF _ h;omega),Nat.le_trans h2 hk.size,h2',blk_keeps hk h3 (fun h=>by have:=hF _ h;omega),Ea,ec,Wa,wc,Na,nc,blk_keeps hk h4 (fun h=>by have:=hF _ h;omega),
  h5.keeps hk (fun k hv h=>by have:=hF _ h;have:=h6 k hv;omega),h6,h7.keeps hk (fun k hv h=>by have:=hF _ h;have:=h8 k hv;omega),h8,h9.keeps hk (fun k h h1 h2=>by have:=hF _ h;omega)⟩
theorem LayAt.now {w:World} {p:Nums} {t:List Nat} {ws:List Int} {i v lim:Nat} {X:World} (h:LayAt w p t ws i v lim X):LayAt w p t ws i v X.heap.size X:=by
 obtain⟨h1,h2,h2',h3,Ea,ec,Wa,wc,Na,nc,h4,h5,h6,h7,h8,vs,q1,q2,q3,q4⟩:=h
 refine⟨h1,h2,h2,h3,Ea,ec,Wa,wc,Na,nc,h4,h5,fun k hv=>⟨(h6 k hv).1,h5.lt k hv⟩,h7,fun k hv=>⟨(h8 k hv).1,h7.lt k hv⟩,vs,q1,fun k hv=>⟨(q2 k hv).1,q1.lt k hv⟩,q3,fun i v r hv hr=> ?_⟩
 obtain⟨q5,q6⟩:=q4 i v r hv hr
 exact⟨q5,fun k hv=>⟨(q6 k hv).1,q5.lt k hv⟩⟩
theorem two_boxes (w:World) (a b:Array Value) (T:Nat):((w.alloc (.cells a T)).alloc (.cells b T)).heap[w.heap.size]? =some (.cells a T (0,0))∧((w.alloc (.cells a T)).alloc (.cells b T)).heap[w.heap.size+1]? =some (.cells b T (0,0))∧
  Keeps (fun _=>False) w ((w.alloc (.cells a T)).alloc (.cells b T))∧((w.alloc (.cells a T)).alloc (.cells b T)).heap.size=w.heap.size+2:=by
 refine⟨blk_alloc (blk_new _ _) _, ?_,(Keeps.alloc _ _ _).trans (Keeps.alloc _ _ _),by simp⟩
 have:=blk_new (w.alloc (.cells a T)) (.cells b T)
 rwa[World.size_alloc]at this
end Go.Proofs.YtebnflpanfmicaaGreatDoor
namespace Go.Proofs.YtebnflpanfmicaaGreatDoor
open Go.RowKit
theorem tencN (l:List Nat):l.map encI=(l.map Int.ofNat).map encZ:=by rw[List.map_map];rfl
end Go.Proofs.YtebnflpanfmicaaGreatDoor
namespace Go.Proofs.YtebnflpanfmicaaGreatDoor
open Go.RowKit
abbrev encU8 (k:Nat):Value:= .int .u8 (k:Int)
def ofN (zs:List Nat) (n:Nat):List Nat:=(List.range n).map fun i=>zs.getD i 0 % (i+1)
def ofL (zs:List Nat):List Nat:=if zs.length=0 then [0]else ofN zs (if zs.length < 5 then zs.length else 5)
theorem ofN_length (zs:List Nat) (n:Nat):(ofN zs n).length=n:=by simp[ofN]
theorem ofN_succ (zs:List Nat) (n:Nat):ofN zs (n+1)=ofN zs n ++ [zs.getD n 0 % (n+1)]:=by unfold ofN;rw[List.range_succ,List.map_append];rfl
theorem ofL_tree (zs:List Nat):Tree (ofL zs)∧0 < (ofL zs).length∧(ofL zs).length≤5:=by
 unfold ofL
 by_cases h:zs.length=0
 ·rw[if_pos h];exact⟨by unfold Tree;decide,by decide,by decide⟩
 ·rw[if_neg h]
  refine⟨fun i hi=> ?_, ?_, ?_⟩
  ·have:(ofN zs (if zs.length < 5 then zs.length else 5))[i]=zs.getD i 0 % (i+1):=by simp[ofN]
   rw[this]
   have:=Nat.mod_lt (zs.getD i 0) (show i+1 > 0 by omega)
   omega
  ·rw[ofN_length];by_cases h5:zs.length < 5
   ·rw[if_pos h5];omega
   ·rw[if_neg h5];decide
  ·rw[ofN_length];by_cases h5:zs.length < 5
   ·rw[if_pos h5];omega
   ·rw[if_neg h5];exact Nat.le_refl _
set_option maxHeartbeats 4000000 in
theorem of_calls (v:Value) (zs:List Nat) (w:World) (h:Reads w w.heap.size 1 v zs.length (zs.map encU8)) (hz:∀x∈zs,x≤255):
  Calls Tryz.prog 39 #[v] w fun e w'=>∃u,e= .returned u∧QS w' 3 1 u (ofL zs).length ((ofL zs).map encI)∧Keeps (fun _=>False) w w'∧∀k,u.ownBlock=some k→w.heap.size≤k:=by
 obtain⟨A,c,hsh,hm1,hm2⟩:∃A c,v= .slice A zs.length c∧zs.length≤c∧c≤maxLen:=by obtain⟨_,A,c,h,h1,h2,_⟩:=h;exact⟨A,c,h,h1,h2⟩
 subst hsh
 obtain⟨R,hR⟩:∃R,ofL zs=R:=⟨_,rfl⟩
 rw[hR]
 have hR':=Lib.hid hR
 clear hR
 go_enter Tryz.func39,Tryz.ntmps39
 go_wp2_with fail
 go_loopw [3,4] (fun l s wr=>∃i:Nat,i≤zs.length∧i≤5∧s= .int .i64 (i:Int)∧QS wr 3 1 l i ((ofN zs i).map encI)∧Keeps (fun _=>False) w wr∧∀k,l.ownBlock=some k→w.heap.size≤k) (fun _ s _=>5 - (intOf s).toNat)
 case atStart=>exact⟨0,Nat.zero_le _,by decide,rfl,QS.nil _ _ _,Keeps.refl _ _,fun k h=>by cases h⟩
 case round=>
  obtain⟨i,hi,hi5,rfl,hq,hk,hb⟩:=hrel
  revert hq hb;generalize u3=l;intro hq hb
  by_cases hil:i < zs.length
  ·have hii:(i:Int) < (zs.length:Int):=by omega
   by_cases h5:i < 5
   ·have h5':(i:Int) < 5:=by omega
    obtain⟨g,off,c',e',_,_,hcell⟩:=h.at_ (by simp;omega)
    injection e' with e1 _ e2
    subst e1;subst e2
    have hci:=hk.cell (hcell i (encU8 zs[i]) (by rw[List.getElem?_map,List.getElem?_eq_getElem hil];rfl)) (fun h=>h)
    have hz1:=hz zs[i] (List.getElem_mem _)
    have hsn:=ofN_succ zs i
    rw[List.getD_eq_getElem?_getD,List.getElem?_eq_getElem hil]at hsn
    rw[show(some zs[i]).getD 0=zs[i]from rfl]at hsn
    clear hcell
    generalize zs[i]=z at*
    have hmod:(z:Int) % ((i:Int)+1)=((z % (i+1):Nat):Int):=by rw[Int.natCast_emod];rfl
    have hne:¬((i:Int)+1=0):=by omega
    generalize z % (i+1)=q at*
    have hq0:QS (wr.alloc (.cells #[encI q] 3)) 3 1 l i ((ofN zs i).map encI):=hq.alloc _
    have hsrc:Src Tryz.prog 1 35 (.slice (some ⟨wr.heap.size,0,none⟩) 1 1) 1 [encI q] (wr.alloc (.cells #[encI q] 3)):=
     src_blk Tryz.underlying35 (blk_new _ _) rfl (by intro jj hjj';match jj,hjj' with | 0,_=>rfl) (by intro u hu;simp at hu;subst hu;rfl)
    go_wp2_with (at_builtin;refine wpList_append_QS rfl _ _ 35 35 rfl 3 _ 1 8 Tryz.underlying35 info_int rfl l i ((ofN zs i).map encI) rfl hq0 _ 1 [encI q] rfl hsrc (by decide) (by omega) ?_;intro A1 c1 w1 hq1 hg1 ho1)
    go_roundw
    case rel=>
     have hk1:Keeps (fun i=>l.ownBlock=some i) wr w1:=(Keeps.alloc _ _ _).trans (Keeps.grown hg1 (fun i h=>h))
     refine⟨i+1,by omega,by omega,by simp,by rw[hsn,List.map_append];exact hq1,hk.then hk1 (fun i hi h=>by have:=hb i h;omega),fun b hb'=> ?_⟩
     rcases ho1 with h | ⟨i',h,hle⟩
     ·exact hb b (h▸hb')
     ·rw[hb']at h;cases h;have:=hk.size;rw[World.size_alloc]at hle;omega
    case measure=>simp[intOf];omega
   ·obtain rfl:i=5:=by omega
    have hRe:R=ofN zs 5:=by rw[←hR'.out];unfold ofL;rw[if_neg (by omega),if_neg (by omega)]
    subst hRe
    obtain⟨lA,lc,hsh,_,_⟩:=hq.shape
    subst hsh
    go_wp2_with fail
    go_ret
    exact⟨_,rfl,by rw[ofN_length];exact hq,hk,hb⟩
  ·obtain rfl:i=zs.length:=by omega
   obtain⟨lA,lc,hsh,_,_⟩:=hq.shape
   subst hsh
   by_cases h0:zs.length=0
   ·have hRe:R=[0]:=by rw[←hR'.out];unfold ofL;rw[if_pos h0]
    subst hRe
    generalize zs.length=n at*
    subst h0
    have hq0:QS (wr.alloc (.cells #[encI 0] 3)) 3 1 (.slice lA 0 lc) 0 ((ofN zs 0).map encI):=hq.alloc _
    have hsrc:Src Tryz.prog 1 35 (.slice (some ⟨wr.heap.size,0,none⟩) 1 1) 1 [encI 0] (wr.alloc (.cells #[encI 0] 3)):=
     src_blk Tryz.underlying35 (blk_new _ _) rfl (by intro jj hjj';match jj,hjj' with | 0,_=>rfl) (by intro u hu;simp at hu;subst hu;rfl)
    go_wp2_with (at_builtin;refine wpList_append_QS rfl _ _ 35 35 rfl 3 _ 1 8 Tryz.underlying35 info_int rfl (.slice lA 0 lc) 0 ((ofN zs 0).map encI) rfl hq0 _ 1 [encI 0] rfl hsrc (by decide) (by omega) ?_;intro A1 c1 w1 hq1 hg1 ho1)
    have hk1:Keeps (fun i=>(Value.slice lA 0 lc).ownBlock=some i) wr w1:=(Keeps.alloc _ _ _).trans (Keeps.grown hg1 (fun i h=>h))
    go_ret
    refine⟨.slice A1 1 c1,rfl,hq1,hk.then hk1 (fun i hi h=>by have:=hb i h;omega),fun b hb'=> ?_⟩
    rcases ho1 with h | ⟨i',h,hle⟩
    ·exact hb b (h▸hb')
    ·rw[show(Value.slice A1 (0+1) c1)= .slice A1 1 c1 from rfl,hb']at h;cases h;have:=hk.size;rw[World.size_alloc]at hle;omega
   ·have hRe:R=ofN zs zs.length:=by
     rw[←hR'.out];unfold ofL;rw[if_neg h0]
     by_cases h5:zs.length < 5
     ·rw[if_pos h5]
     ·rw[if_neg h5,show zs.length=5 by omega]
    subst hRe
    have hne:((zs.length:Int) == 0)=false:=by rw[beq_eq_false_iff_ne];omega
    go_wp2_with fail
    go_ret
    exact⟨_,rfl,by rw[ofN_length];exact hq,hk,hb⟩
end Go.Proofs.YtebnflpanfmicaaGreatDoor
namespace Go.Proofs.YtebnflpanfmicaaGreatDoor
open Go.RowKit
theorem u8_nat {a:Int} (h:(Lit.int .u8 a).wf=true):∃m:Nat,a=m∧m≤255:=by
 rw[Lit.wf_int_iff,IntKind.min_u8,IntKind.max_u8]at h
 exact⟨a.toNat,by omega,by omega⟩
theorem keeps_below {w w':World} (h:Keeps (fun _=>False) w w'):Below w.heap.size w w':=h.below (Nat.le_refl _) (fun _ _ h=>h)
theorem bytes_of_arg {W:World} {v:Value} (h:Arg Tryz.prog W 22 v):∃zs:List Nat,(∀x∈zs,x≤255)∧Reads W W.heap.size 1 v zs.length (zs.map encU8):=by
 obtain⟨n,zs,hR,rfl,hz⟩:=Arg.ints Tryz.underlying22 Tryz.underlying5 (by kernel_rfl) h
 have e:zs.map (Value.int .u8)=(zs.map Int.toNat).map encU8:=by
  rw[List.map_map]
  refine List.map_congr_left fun z hz'=> ?_
  obtain⟨m,rfl,hm⟩:=u8_nat (hz z hz')
  rfl
 refine⟨zs.map Int.toNat,fun x hx=> ?_,by rw[←e,List.length_map];exact hR⟩
 obtain⟨z,hz',rfl⟩:=List.mem_map.1 hx
 obtain⟨m,rfl,hm⟩:=u8_nat (hz z hz')
 exact hm
theorem QS.set {w:World} {e n g off c:Nat} {cs:List Value} (h:QS w e 1 (.slice (some ⟨g,off,none⟩) n c) n cs) (k:Nat) (hk:k < n) (u:Value):
  QS (w.setCell ⟨g,off+k,none⟩ u) e 1 (.slice (some ⟨g,off,none⟩) n c) n (cs.set k u):=by
 obtain⟨hl,h2⟩:=h
 refine⟨by rw[List.length_set];exact hl, ?_⟩
 rcases h2 with⟨hv,_⟩ | ⟨g',off',cap',cur,hv,hg,h1,h2,h3,h4⟩
 ·cases hv
 ·injection hv with ha _ hc'
  injection ha with ha
  injection ha with hg' ho
  subst hg';subst ho;subst hc'
  refine .inr ⟨g,off,c,_,rfl,blk_set hg (off+k) u,h1,h2,by rw[Array.size_setIfInBounds];exact h3,fun j hj=> ?_⟩
  rw[List.length_set]at hj
  rw[Array.getElem?_setIfInBounds,List.getElem?_set]
  by_cases e:k=j
  ·subst e
   rw[if_pos rfl,if_pos rfl,if_pos (by omega),if_pos hj]
  ·rw[if_neg (by omega),if_neg e];exact h4 j hj
theorem QS.spot {w:World} {e n c:Nat} {A:Option Addr} {cs:List Value} (h:QS w e 1 (.slice A n c) n cs) (k:Nat) (hk:k < n):
  ∃g off old,A=some ⟨g,off,none⟩∧w.cell? ⟨g,off+k,none⟩=some old∧w.frozen? ⟨g,off+k,none⟩=false:=by
 have hl:cs.length=n:=by have:=h.1;omega
 obtain⟨g,off,c',e',_,hc,hf⟩:=h.cell (by omega)
 injection e' with e1 _ _
 exact⟨g,off,cs[k],e1,hc k _ (List.getElem?_eq_getElem (by omega)),hf _⟩
end Go.Proofs.YtebnflpanfmicaaGreatDoor
namespace Go.Proofs.YtebnflpanfmicaaGreatDoor
open Go.RowKit
def makeNums (rm mr:Nat):Nums:=⟨((1+mr % 3:Nat):Int),((1+rm % 8:Nat):Int),((1+rm / 8 % 8:Nat):Int),((1+mr / 3 % 4:Nat):Int),((1+mr / 12 % 8:Nat):Int),64,0⟩
def makeW (mr i:Nat):List Nat:=(List.range i).map fun k=>1+(k+mr) % 5
theorem makeW_length (mr i:Nat):(makeW mr i).length=i:=by simp[makeW]
theorem makeW_succ (mr i:Nat):makeW mr (i+1)=makeW mr i ++ [1+(i+mr) % 5]:=by unfold makeW;rw[List.range_succ,List.map_append];rfl
structure MakeAt (w:World) (p:Nums) (n mr i v lim:Nat) (X:World):Prop where
 keeps:Keeps (fun _=>False) w X
 size:w.heap.size+2≤X.heap.size
 lim1:w.heap.size+2≤lim
 res:PBox X w.heap.size (Nums.zero.plan 0 (.slice none 0 0) (.slice none 0 0) (.slice none 0 0))
 box:∃Wa wc Na nc vs,PBox X (w.heap.size+1) (p.plan (n:Int) (.slice none 0 0) (.slice Wa i wc) (.slice Na v nc))∧
  QS X 3 1 (.slice Wa i wc) i ((makeW mr i).map encI)∧(∀k,(Value.slice Wa i wc).ownBlock=some k→w.heap.size+2≤k∧k < lim)∧
  QS X 35 1 (.slice Na v nc) v vs∧(∀k,(Value.slice Na v nc).ownBlock=some k→w.heap.size+2≤k∧k < lim)
theorem MakeAt.calm {w:World} {p:Nums} {n mr i v lim:Nat} {X Y:World} {F:Nat→Prop} (h:MakeAt w p n mr i v lim X) (hk:Keeps F X Y) (hF:∀k,F k→lim≤k):MakeAt w p n mr i v lim Y:=by
 obtain⟨h1,h2,h2',h3,Wa,wc,Na,nc,vs,h4,h5,h6,h7,h8⟩:=h
 exact⟨h1.then hk (fun i hi h=>by have:=hF _ h;omega),Nat.le_trans h2 hk.size,h2',blk_keeps hk h3 (fun h=>by have:=hF _ h;omega),Wa,wc,Na,nc,vs,blk_keeps hk h4 (fun h=>by have:=hF _ h;omega),
  h5.keeps hk (fun k hv h=>by have:=hF _ h;have:=h6 k hv;omega),h6,h7.keeps hk (fun k hv h=>by have:=hF _ h;have:=h8 k hv;omega),h8⟩
theorem MakeAt.now {w:World} {p:Nums} {n mr i v lim:Nat} {X:World} (h:MakeAt w p n mr i v lim X):MakeAt w p n mr i v X.heap.size X:=by
 obtain⟨h1,h2,h2',h3,Wa,wc,Na,nc,vs,h4,h5,h6,h7,h8⟩:=h
 exact⟨h1,h2,h2,h3,Wa,wc,Na,nc,vs,h4,h5,fun k hv=>⟨(h6 k hv).1,h5.lt k hv⟩,h7,fun k hv=>⟨(h8 k hv).1,h7.lt k hv⟩⟩
end Go.Proofs.YtebnflpanfmicaaGreatDoor
