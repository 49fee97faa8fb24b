/-
  Part 2 of the proof: Seq, MaskW1, MaskEach, Args, MaskTurnNil.
-/
import Derived.Test.YtebnflpanfmicaaGreatDoorPkAA
import Derived.RangeFuncNested
import Derived.RangeFuncLeaves
import Derived.Test.YtebnflpanfmicaaGreatDoorProg
import Derived.BigQuiet
import Derived.OwnWalkIn
import Derived.TacticsInMore
import Derived.LoopNIn
import Derived.LoopIn
import Derived.ProofKit
import Derived.Deep.Slices
import Derived.Deep.Fields
import Derived.ChangeSame
import Derived.Lib.SmallJoins
import Derived.WalkKit
import Derived.Shelf.Abstract
import Derived.Deep.OwnRows
set_option linter.unusedVariables false
set_option linter.unusedSimpArgs false
set_option linter.unusedSectionVars false
namespace Go.Proofs.YtebnflpanfmicaaGreatDoor
open Go.RowKit
theorem Keeps.putObj (F:Nat→Prop) (w:World) (l:Nat) (o:Obj) (h:F l):Keeps F w (w.putObj l o):=
 ⟨rfl,rfl,rfl,by simp,fun i _ hn=>World.putObj_heap_other (fun e=>hn (e▸h))⟩
def Minds {β:Type} (F:Nat→Prop) (J:β→World→Prop):Prop:=∀s A B,J s A→Keeps F A B→J s B
def Same (F:Nat→Prop) (A B:World):Prop:=∀k,F k→B.heap[k]? =A.heap[k]?
theorem Same.refl (F:Nat→Prop) (A:World):Same F A A:=fun _ _=>rfl
theorem Same.trans {F:Nat→Prop} {A B C:World} (h:Same F A B) (k:Same F B C):Same F A C:=fun i hi=>(k i hi).trans (h i hi)
theorem Same.mono {F G:Nat→Prop} {A B:World} (h:Same F A B) (hg:∀k,G k→F k):Same G A B:=fun i hi=>h i (hg i hi)
theorem Same.of_keeps {F G:Nat→Prop} {A B:World} (h:Keeps G A B) (hF:∀k,F k→k < A.heap.size∧¬G k):Same F A B:=fun i hi=>h.block i (hF i hi).1 (hF i hi).2
def SeqO {α:Type} (F:Fence) (n:Nat) (P:Program) (g:Nat) (lb:Array Value) (enc:α→Value) (own fixed:Nat→Prop) (xs:List α) (w:World):Prop:=
 ∀(l:Nat) (J Jx:List α→World→Prop) (W:World),Same fixed w W→Minds own J→Minds own Jx→
  (∀pre x W1,J pre W1→pre ++ [x] <+:xs→YieldAt F (n - 1) P l #[enc x] W1 fun e W'=>
   (e= .returned (.bool true)∧J (pre ++ [x]) W'∧Same fixed W1 W')∨(e= .returned (.bool false)∧Jx (pre ++ [x]) W'))→
  J [] W→
  CallsIn F n P g (#[.func (.yield l) #[] #[]] ++ lb) W fun e W'=>(∃v,e= .returned v)∧(J xs W'∨∃pre,pre <+:xs∧Jx pre W')
def postO {α:Type} (fix:Nat→Prop) (I:List α→World→Prop) (Ix:Code→List α→World→Prop) (xs:List α) (W:World):Exit→Act→World→Prop
 | .normal,_,W'=>Same fix W W'∧I xs W'
 | .ret,_,W'=>Same fix W W'∧Ix .ret xs W'
 | .exit id,_,W'=>Same fix W W'∧Ix (.exit id) xs W'
 | .goto t,_,W'=>Same fix W W'∧Ix (.goto t) xs W'
 | .panic _,_,_=>False
 | .outgrown,_,_=>False
variable {F:Fence} {n:Nat} {P:Program}
theorem wpIn_rangeFunc_O {α:Type} {g:Operand} {ps:Array Tmp} {assign body:Code} {Q:Exit→Act→World→Prop} {a:Act} {w:World}
  (hro:F.round=none) (h1:1≤n) {gf:Nat} {lb:Array Value} (hg:a.eval g= .func (.func gf) #[] lb) (hFg:F.fn gf) (eg:∀args w,(callFunc gf args).run P w= .ok (.enter gf args) w)
  {enc:α→Value} {own fixed:Nat→Prop} {xs:List α} (hseq:SeqO F (n - 1) P gf lb enc own fixed xs w) (hps:ps.size=1)
  (hof:∀k,own k→fixed k) (hfx:∀k,fixed k→k < w.heap.size)
  (I:List α→World→Prop) (Ix:Code→List α→World→Prop) (hI:Minds (fun k=>own k∨k=w.heap.size∨k=w.heap.size+1) I) (hIx:∀c,Minds (fun k=>own k∨k=w.heap.size∨k=w.heap.size+1) (Ix c))
  (h0:I [] w) (a₁:α→Act)
  (hassign:∀(l:Nat) (x:α) (W:World) (K:Act→World→Prop),K (a₁ x) W→
   assign.wpIn (F.inRound l) (n - 1 - 1) P (Exit.then K (fun _ _ _=>False)) {tmps:=(ps.zip #[enc x]).foldl (fun t (p,v)=>t.setIfInBounds p v) a.tmps,defers:=[]} W)
  (hbody:∀(pre:List α) (x:α) (W:World),I pre W→pre ++ [x] <+:xs→w.heap.size+1 < W.heap.size→
   body.wpIn (F.inRound (w.heap.size+1)) (n - 1 - 1) P (postO (fun k=>fixed k∨k=w.heap.size∨k=w.heap.size+1) I Ix (pre ++ [x]) W) (a₁ x) W)
  (hdone:∀(W:World),I xs W→W.heap[w.heap.size]? =some (.deferred (some []))→Q .normal {a with defers:={target:= .collected w.heap.size,args:= #[]} :: a.defers} W)
  (hstop:∀(c:Code) (pre:List α) (W:World),pre <+:xs→Ix c pre W→W.heap[w.heap.size]? =some (.deferred (some []))→c.wpIn F n P Q {a with defers:={target:= .collected w.heap.size,args:= #[]} :: a.defers} W):
  (Code.rangeFunc g ps assign body).wpIn F n P Q a w:=by
 refine wpIn_rangeFunc ?_
 intro fn hfn
 rw[hro]
 obtain⟨rec,hrec⟩:∃rec:LoopState→Option Code→Loop,rec=fun st pe=>{state:=st,pending:=pe,fn,tmps:=a.tmps,params:=ps,assign,body,defers:=w.heap.size}:=⟨_,rfl⟩
 obtain⟨W1,hW1⟩:∃W1,(w.alloc (.deferred (some []))).alloc (.loop (rec .ready none))=W1:=⟨_,rfl⟩
 have hL1:W1.heap[w.heap.size+1]? =some (.loop (rec .ready none)):=by
  rw[←hW1];have:=World.alloc_heap_new (w.alloc (.deferred (some []))) (.loop (rec .ready none));rwa[World.size_alloc]at this
 have hK1:W1.heap[w.heap.size]? =some (.deferred (some [])):=by
  rw[←hW1];exact(Below.heap_alloc _ _ _ (by simp)).trans (World.alloc_heap_new w _)
 have hk1:∀G,Keeps G w W1:=fun G=>by rw[←hW1];exact(Keeps.alloc G w _).trans (Keeps.alloc G _ _)
 have hI1:I [] W1:=hI _ _ _ h0 (hk1 _)
 have hs1:Same fixed w W1:=Same.of_keeps (hk1 (fun _=>False)) (fun k hk=>⟨hfx k hk,fun h=>h⟩)
 refine⟨w.heap.size+1,[{target:= .collected w.heap.size,args:= #[]}],W1,{target:= .fn (.func gf) lb,args:= #[.func (.yield (w.heap.size+1)) #[] #[]]},W1,gf,
  #[.func (.yield (w.heap.size+1)) #[] #[]] ++ lb,W1, ?_, ?_, ?_, ?_,fun _=>h1, ?_⟩
 ·rw[←hW1,hrec];exact run_enterLoop_outer _ _ _ _ _
 ·simp only[resolve,hg]
  simp[go_sem]
 ·intro f' hf';simp[Target.leads]at hf';subst hf';exact hFg
 ·simp[invoke,go_sem,eg]
 ·
  have nD:¬own w.heap.size:=fun h=>Nat.lt_irrefl _ (hfx _ (hof _ h))
  have nL:¬own (w.heap.size+1):=fun h=>Nat.not_succ_lt_self (hfx _ (hof _ h))
  have fD:∀k,fixed k→k≠w.heap.size+1:=fun k hk e=>Nat.not_succ_lt_self (e▸hfx k hk)
  refine(hseq (w.heap.size+1)
   (fun pre W=>I pre W∧W.heap[w.heap.size+1]? =some (.loop (rec .ready none))∧W.heap[w.heap.size]? =some (.deferred (some [])))
   (fun pre W=>∃c,Ix c pre W∧W.heap[w.heap.size+1]? =some (.loop (rec .done (some c)))∧W.heap[w.heap.size]? =some (.deferred (some [])))
   W1 hs1
   (fun s A B hs hk=>⟨hI s A B hs.1 (hk.mono fun _ _ h=> .inl h),blk_keeps hk hs.2.1 nL,blk_keeps hk hs.2.2 nD⟩)
   (fun s A B hs hk=>by
    obtain⟨c,hc,hl,hd⟩:=hs
    exact⟨c,hIx c s A B hc (hk.mono fun _ _ h=> .inl h),blk_keeps hk hl nL,blk_keeps hk hd nD⟩)
   ?_ ⟨hI1,hL1,hK1⟩).mono ?_
  ·
   rintro pre x W ⟨hi,hl,hk⟩ hpre
   have hlt:w.heap.size+1 < W.heap.size:=blk_lt hl
   have hy:=run_yield (P:=P) (args:= #[enc x]) hl (by rw[hrec];simp[hps])
   rw[hrec]at hy
   refine⟨fn,_,assign,body,hy,roundIn_of_wpIn hfn (hassign _ x W _ ⟨_,run_beginRound hl (by rw[hrec]), ?_⟩)⟩
   have hkp:∀(V:World) (o:Obj),Keeps (fun k=>own k∨k=w.heap.size∨k=w.heap.size+1) V (V.putObj (w.heap.size+1) o):=fun V o=>Keeps.putObj _ _ _ _ (.inr (.inr rfl))
   have hsp:∀(V:World) (o:Obj),Same fixed V (V.putObj (w.heap.size+1) o):=fun V o k hk=>World.putObj_heap_other (fD k hk)
   have hl2:(W.putObj (w.heap.size+1) (.loop {rec .ready none with state:= .busy})).heap[w.heap.size+1]? =some (.loop {rec .ready none with state:= .busy}):=World.putObj_heap_same hlt
   have hk2:(W.putObj (w.heap.size+1) (.loop {rec .ready none with state:= .busy})).heap[w.heap.size]? =some (.deferred (some [])):=(World.putObj_heap_other (by omega)).trans hk
   refine wpIn_mono (hbody pre x _ (hI _ _ _ hi (hkp _ _)) hpre (by rw[World.putObj_size];exact hlt)) ?_
   have fin:∀(jump:Option Code) (W3:World),Same (fun k=>fixed k∨k=w.heap.size∨k=w.heap.size+1) (W.putObj (w.heap.size+1) (.loop {rec .ready none with state:= .busy})) W3→
     (Instr.endRound (w.heap.size+1) jump).run P W3= .ok (.bool jump.isNone) (W3.putObj (w.heap.size+1) (.loop (rec (if jump.isNone then .ready else .done) jump)))∧
     (W3.putObj (w.heap.size+1) (.loop (rec (if jump.isNone then .ready else .done) jump))).heap[w.heap.size+1]? =some (.loop (rec (if jump.isNone then .ready else .done) jump))∧
     (W3.putObj (w.heap.size+1) (.loop (rec (if jump.isNone then .ready else .done) jump))).heap[w.heap.size]? =some (.deferred (some [])):=fun jump W3 hk3=>by
    have hl3:=(hk3 _ (.inr (.inr rfl))).trans hl2
    have:=run_endRound (P:=P) jump hl3
    rw[hrec]at this ⊢
    exact⟨this,World.putObj_heap_same (blk_lt hl3),(World.putObj_heap_other (by omega)).trans ((hk3 _ (.inr (.inl rfl))).trans hk2)⟩
   rintro e a3 W3 hp
   cases e with
   | normal=>
     obtain⟨hk3,hi3⟩:=hp
     obtain⟨hr,hl4,hk4⟩:=fin none W3 hk3
     exact⟨_,_,hr, .inl ⟨rfl,⟨hI _ _ _ hi3 (hkp _ _),hl4,hk4⟩,((hsp _ _).trans (hk3.mono fun k h=> .inl h)).trans (hsp _ _)⟩⟩
   | ret=>
     obtain⟨hk3,hi3⟩:=hp
     obtain⟨hr,hl4,hk4⟩:=fin (some .ret) W3 hk3
     exact⟨_,_,hr, .inr ⟨rfl, .ret,hIx _ _ _ _ hi3 (hkp _ _),hl4,hk4⟩⟩
   | exit id=>
     obtain⟨hk3,hi3⟩:=hp
     obtain⟨hr,hl4,hk4⟩:=fin (some (.exit id)) W3 hk3
     exact⟨_,_,hr, .inr ⟨rfl, .exit id,hIx _ _ _ _ hi3 (hkp _ _),hl4,hk4⟩⟩
   | goto t=>
     obtain⟨hk3,hi3⟩:=hp
     obtain⟨hr,hl4,hk4⟩:=fin (some (.goto t)) W3 hk3
     exact⟨_,_,hr, .inr ⟨rfl, .goto t,hIx _ _ _ _ hi3 (hkp _ _),hl4,hk4⟩⟩
   | panic ch=>exact hp.elim
   | outgrown=>exact hp.elim
  ·
   have hkp:∀(V:World) (o:Obj),Keeps (fun k=>own k∨k=w.heap.size∨k=w.heap.size+1) V (V.putObj (w.heap.size+1) o):=fun V o=>Keeps.putObj _ _ _ _ (.inr (.inr rfl))
   rintro e W2 ⟨⟨v,rfl⟩,(⟨hi,hl,hk⟩ | ⟨pre,hpre,c,hi,hl,hk⟩)⟩
   ·exact⟨none,_,by have:=run_endLoop (P:=P) hl (by rw[hrec];simp);rw[hrec]at this;exact this,hdone _ (hI _ _ _ hi (hkp _ _)) ((World.putObj_heap_other (by omega)).trans hk)⟩
   ·exact⟨some c,_,by have:=run_endLoop (P:=P) hl (by rw[hrec];simp);rw[hrec]at this;exact this,hstop c pre _ hpre (hIx _ _ _ _ hi (hkp _ _)) ((World.putObj_heap_other (by omega)).trans hk)⟩
def markOf (D:Nat):Deferred:={target:= .collected D,args:= #[]}
def Marks (Ds:List Nat) (w:World):Prop:=Ds.Nodup∧∀D∈Ds,w.heap[D]? =some (.deferred (some []))
theorem Marks.nil (w:World):Marks [] w:=⟨List.nodup_nil,fun _ h=>by cases h⟩
theorem Marks.keeps {Ds:List Nat} {A B:World} {G:Nat→Prop} (h:Marks Ds A) (hk:Keeps G A B) (hG:∀D∈Ds,¬G D):Marks Ds B:=
 ⟨h.1,fun D hD=>blk_keeps hk (h.2 D hD) (hG D hD)⟩
theorem Marks.lt {Ds:List Nat} {A:World} (h:Marks Ds A):∀D∈Ds,D < A.heap.size:=fun D hD=>blk_lt (h.2 D hD)
theorem leavesM {fn:Func} {tmps:Array Value} {R:Ending→World→Prop} {G:Nat→Prop}:∀(Ds:List Nat) (w:World),Marks Ds w→(∀D∈Ds,G D)→
  (∀w',Keeps G w w'→∃v,(results fn tmps).run P w'= .ok v w'∧R (.returned v) w')→LeavesInM F n P fn tmps R (Ds.map markOf) .returning w
 | [],w,_,_,h=>h w (Keeps.refl _ w)
 | D :: Ds,w,hm,hG,h=>by
   have hD:=hm.2 D List.mem_cons_self
   have hk:Keeps G w (w.putObj D (.deferred none)):=Keeps.putObj _ _ _ _ (hG D List.mem_cons_self)
   refine⟨by simp, .inl ⟨D,_,rfl,run_takeDeferred hD,leavesM Ds _ ⟨(List.nodup_cons.1 hm.1).2,fun E hE=> ?_⟩ (fun E hE=>hG E (List.mem_cons_of_mem _ hE)) (fun w' hk'=>h w' (hk.trans hk'))⟩⟩
   have hne:E≠D:=fun e=>(List.nodup_cons.1 hm.1).1 (e▸hE)
   exact(World.putObj_heap_other hne).trans (hm.2 E (List.mem_cons_of_mem _ hE))
end Go.Proofs.YtebnflpanfmicaaGreatDoor
namespace Go.Proofs.YtebnflpanfmicaaGreatDoor
open Go.RowKit
def Tab (w:World):Prop:=∀i:Nat,i < 32→w.cell? ⟨0,i,none⟩=some (.int .u8 (tzt i:Nat))
theorem Tab.keeps {F:Nat→Prop} {A B:World} (h:Tab A) (hk:Keeps F A B) (hF:¬F 0):Tab B:=fun i hi=>hk.cell (h i hi) hF
theorem Tab.same {F:Nat→Prop} {A B:World} (h:Tab A) (hk:Same F A B) (hF:F 0):Tab B:=fun i hi=>(World.cell?_of_block (hk 0 hF)).trans (h i hi)
theorem Tab.pos {A:World} (h:Tab A):0 < A.heap.size:=World.block_lt_of_cell? A ⟨0,0,none⟩ (h 0 (by decide))
theorem Tab.below {A B:World} (h:Tab A) (hb:Below A.heap.size A B):Tab B:=h.keeps (Keeps.of_below (F:=fun _=>False) hb) (fun h=>h)
theorem Tab.drewN {A:World} (h:Tab A) (n:Nat):Tab (A.drewN n):=fun i hi=>h i hi
theorem Tab.alloc {A:World} (h:Tab A) (o:Obj):Tab (A.alloc o):=h.keeps (Keeps.alloc (fun _=>False) A o) (fun h=>h)
theorem tz_facts (m:Nat) (hm:m < 65536) (h0:m≠0):∃lo j:Nat,bits .and .u16 (m:Int) (IntKind.u16.wrap (-(m:Int)))=(lo:Int)∧lo < 65536∧j=lo*125613361 % 4294967296 / 134217728∧j < 32∧tzt j=tzOf m:=
 ⟨lowb m,tzi m,lowb_u16 m hm h0,Nat.lt_of_le_of_lt Nat.and_le_left hm,rfl,tzi_lt m,rfl⟩
set_option maxHeartbeats 1000000 in
theorem tz_calls (m:Nat) (hm:m < 65536) (h0:m≠0) (w:World) (ht:Tab w):
  Calls Tryz.prog 242 #[.int .u16 m] w fun e w'=>e= .returned (.int .i64 (tzOf m:Nat))∧w'=w:=by
 have a0:(m:Int)≠0:=by omega
 have a1:((m:Int) == 0)=false:=by simpa using h0
 obtain⟨lo,j,el,hlo,ej,hi,hT⟩:=tz_facts m hm h0
 have hc:=ht j hi
 have h15:=(tz_at m hm h0).2.2
 rw[hT]at hc
 generalize tzOf m=t at hc h15 ⊢
 clear hT
 subst ej
 go_enter Tryz.func242,Tryz.ntmps242
 go_wp2_with fail
 go_ret
 exact⟨rfl,rfl⟩
set_option maxHeartbeats 1000000 in
theorem has_calls (m:Nat) (i:Int) (hm:m < 65536) (w:World):
  Calls Tryz.prog 214 #[.int .u16 m, .int .i64 i] w fun e w'=>e= .returned (.bool (hasI m i))∧w'=w:=by
 unfold hasI
 go_enter Tryz.func214,Tryz.ntmps214
 by_cases h1:0≤i
 ·by_cases h2:i < 16
  ·have e:(bits .and .u16 ((m:Int) / 2^i.toNat) 1 == 1)=has m i.toNat:=and1_u16 m i.toNat hm
   rw[decide_eq_true h1,Bool.true_and]
   go_wp2_with fail
   go_ret
   exact⟨rfl,rfl⟩
  ·have e:has m i.toNat=false:=by
    cases e:has m i.toNat with
    | false=>rfl
    | true=>have:=has_lt (n:=16) hm e;omega
   rw[e,Bool.and_false]
   have g1:16≤i:=by omega
   go_wp2_with fail
   go_ret
   exact⟨rfl,rfl⟩
 ·rw[decide_eq_false h1,Bool.false_and]
  have g1:i < 0:=by omega
  go_wp2_with fail
  go_ret
  exact⟨rfl,rfl⟩
set_option maxHeartbeats 1000000 in
theorem below_calls (m k:Nat) (hm:m < 65536) (hk:k≤16) (w:World):
  Calls Tryz.prog 213 #[.int .u16 m, .int .i64 k] w fun e w'=>e= .returned (.int .u16 (m % 2^k:Nat))∧w'=w:=by
 have e:=below_u16 m k hm hk
 have a0:(0:Int)≤k:=by omega
 have e1:((k:Int)).toNat=k:=by omega
 go_enter Tryz.func213,Tryz.ntmps213
 go_wp2_with fail
 have e2:((m:Int) % 2^k)=((m % 2^k:Nat):Int):=by rw[Int.natCast_emod,Int.natCast_pow];rfl
 rw[e2]
 go_ret
 exact⟨rfl,rfl⟩
end Go.Proofs.YtebnflpanfmicaaGreatDoor
namespace Go.Proofs.YtebnflpanfmicaaGreatDoor
open Go.RowKit
attribute [local go_sem] Oper.semAt_some
def maskAt (w:World) (b:Nat):Nat:=match w.cell? ⟨b,0,none⟩with
 | some (.int _ m)=>m.toNat
 | _=>0
def MBox (w:World) (b m:Nat):Prop:=w.heap[b]? =some (.cells #[.int .u16 (m:Int)] 23 (0,0))
theorem MBox.cell {w:World} {b m:Nat} (h:MBox w b m):w.cell? ⟨b,0,none⟩=some (.int .u16 m):=by rw[blk_cell h];rfl
theorem MBox.frozen {w:World} {b m:Nat} (h:MBox w b m):w.frozen? ⟨b,0,none⟩=false:=blk_frozen h 0
theorem MBox.at_ {w:World} {b m:Nat} (h:MBox w b m):maskAt w b=m:=by unfold maskAt;rw[h.cell];simp
def IBox (w:World) (b:Nat) (v:Int):Prop:=w.heap[b]? =some (.cells #[.int .i64 v] 3 (0,0))
theorem IBox.cell {w:World} {b:Nat} {v:Int} (h:IBox w b v):w.cell? ⟨b,0,none⟩=some (.int .i64 v):=by rw[blk_cell h];rfl
theorem IBox.frozen {w:World} {b:Nat} {v:Int} (h:IBox w b v):w.frozen? ⟨b,0,none⟩=false:=blk_frozen h 0
abbrev encI (k:Nat):Value:= .int .i64 (k:Int)
set_option maxRecDepth 100000 in
set_option maxHeartbeats 2000000 in
theorem each1_in (n l b m:Nat) (hn:1≤n) (hb:b≠0) (hm:m < 65536) (J Jx:List Nat→World→Prop) (W:World)
  (hJ:Minds (fun k=>k=b) J) (hJx:Minds (fun k=>k=b) Jx)
  (hY:∀pre x W1,J pre W1→pre ++ [x] <+:bitsOf m→YieldAt Fence.wide (n - 1) Tryz.prog l #[encI x] W1 fun e W'=>
   (e= .returned (.bool true)∧J (pre ++ [x]) W'∧Same (fun k=>k=b∨k=0) W1 W')∨(e= .returned (.bool false)∧Jx (pre ++ [x]) W'))
  (hB:MBox W b m) (hT:Tab W) (h0:J [] W):
  CallsIn Fence.wide n Tryz.prog 241 #[.func (.yield l) #[] #[], .pointer (some ⟨b,0,none⟩)] W fun e W'=>(∃v,e= .returned v)∧(J (bitsOf m) W'∨∃pre,pre <+:bitsOf m∧Jx pre W'):=by
 refine callsIn_of_wp Tryz.func241 rfl trivial ?_ rfl
 simp only[Tryz.ntmps241,List.size_toArray,List.length_cons,List.length_nil,Nat.reduceAdd,Nat.reduceSub,Array.replicate_succ,Array.replicate_zero,List.push_toArray,List.append_toArray,List.nil_append,List.cons_append]
 have hfT:Fence.wide.fn 242:=trivial
 gi_wp2
 gi_loopw [] (fun wr=>∃(pre:List Nat) (k:Nat),bitsOf m=pre ++ bitsOf k∧k < 65536∧MBox wr b k∧Tab wr∧J pre wr) (fun wr=>maskAt wr b)
 case atStart=>exact⟨[],m,rfl,hm,hB,hT,h0⟩
 case round=>
  obtain⟨pre,k,hx,hk,hBk,hTk,hJk⟩:=hrel
  have hc:=hBk.cell
  have hf:=hBk.frozen
  by_cases hk0:k=0
  ·subst hk0
   rw[bitsOf_zero,List.append_nil]at hx
   gi_wp2
   go_end0
   exact⟨⟨_,rfl⟩, .inl (by rw[hx];exact hJk)⟩
  ·have hk1:((k:Int) != 0)=true:=by simpa using hk0
   obtain⟨fn,tmps,assign,body,hy,hR⟩:=hY pre (tzOf k) wr hJk (by rw[hx,bitsOf_cons k hk hk0];simp)
   gi_wp2_with (gi_at_call 242;refine(callsIn_wide.2 (tz_calls k hk hk0 wr hTk)).mono ?_;rintro e w' ⟨rfl,rfl⟩)
   refine hR.mono ?_
   rintro e W3 (⟨rfl,hJ3,hs3⟩ | ⟨rfl,hJx3⟩)
   ·have hB3:MBox W3 b k:=(hs3 b (.inl rfl)).trans hBk
    have hT3:Tab W3:=hTk.same hs3 (.inr rfl)
    have hc3:=hB3.cell
    have hf3:=hB3.frozen
    have ep:bits .and .u16 (k:Int) ((k:Int) - 1)=((k &&& (k - 1):Nat):Int):=pred_u16 k hk hk0
    have ew:IntKind.u16.wrap ((k:Int) - 1)=(k:Int) - 1:=wraps_u16 _ (by omega) (by show(k:Int) - 1 < (65536:Int);omega)
    gi_wp2
    go_roundw
    case rel=>exact⟨pre ++ [tzOf k],k &&& (k - 1),by rw[hx,bitsOf_cons k hk hk0];simp,and_pred_lt k hk,blk_set hB3 0 _,hT3.keeps (F:=fun i=>i=b) (Keeps.setCell _ _ _ _ rfl) (fun h=>hb h.symm),hJ _ _ _ hJ3 (Keeps.setCell _ _ _ _ rfl)⟩
    case measure=>rw[hBk.at_,MBox.at_ (m:=k &&& (k - 1)) (blk_set hB3 0 _)];exact and_pred_lt' k hk0
   ·gi_wp2
    refine bodyPost_ret (results_none rfl _ _ _) rfl ?_
    exact⟨⟨_,rfl⟩, .inr ⟨pre ++ [tzOf k],by rw[hx,bitsOf_cons k hk hk0];simp,hJx3⟩⟩
theorem each_calls (m:Nat) (w:World):
  Calls Tryz.prog 212 #[.int .u16 m] w fun e w'=>e= .returned (.func (.func 241) #[] #[.pointer (some ⟨w.heap.size,0,none⟩)])∧w'=w.alloc (.cells #[.int .u16 (m:Int)] 23):=by
 go_enter Tryz.func212,Tryz.ntmps212
 go_wp2_with fail
 go_ret
 exact⟨rfl,rfl⟩
theorem each_seq (n b m:Nat) (hn:1≤n) (hb:b≠0) (hm:m < 65536) (w:World) (hB:MBox w b m) (hT:Tab w):
  SeqO Fence.wide n Tryz.prog 241 #[.pointer (some ⟨b,0,none⟩)] encI (fun k=>k=b) (fun k=>k=b∨k=0) (bitsOf m) w:=by
 intro l J Jx W hs hJ hJx hY h0
 exact each1_in n l b m hn hb hm J Jx W hJ hJx hY ((hs b (.inl rfl)).trans hB) (hT.same hs (.inr rfl)) h0
end Go.Proofs.YtebnflpanfmicaaGreatDoor
namespace Go.Proofs.YtebnflpanfmicaaGreatDoor
open Go.ChangeShapes Go.WideShapes Go.Deep Go.RowKit
def Arg (P:Program) (W:World) (T:TypeId) (v:Value):Prop:=
 ∃(H:Type) (enc:TypeId×Value→H) (base:Nat) (d:DataW H) (p:List MemPlace),DataW.Trod enc P W 0 (fun _=>true) true T v d p∧Value.okWide P W .any base T v
def Reads (w:World) (B sz:Nat) (v:Value) (n:Nat) (cs:List Value):Prop:=
 cs.length=n*sz∧∃A c,v= .slice A n c∧n≤c∧c≤maxLen∧(0 < n→∃ad,A=some ad∧ad.block < B∧∀j u,cs[j]? =some u→w.cell? (ad.add j)=some u)
theorem blk_of_add (a:Addr) (n:Nat):(a.add n).block=a.block:=by unfold Addr.add;split <;>rfl
theorem Reads.below {w w':World} {B sz n:Nat} {v:Value} {cs:List Value} (h:Reads w B sz v n cs) (hb:Below B w w'):Reads w' B sz v n cs:=by
 obtain⟨h1,A,c,h2,h3,h4,h5⟩:=h
 refine⟨h1,A,c,h2,h3,h4,fun hn=> ?_⟩
 obtain⟨ad,e,hlt,hc⟩:=h5 hn
 exact⟨ad,e,hlt,fun j u hu=>(hb.cell (by rw[blk_of_add];exact hlt)).trans (hc j u hu)⟩
theorem Reads.at_ {w:World} {B sz n:Nat} {v:Value} {cs:List Value} (h:Reads w B sz v n cs) (hp:0 < cs.length):
  ∃g off c,v= .slice (some ⟨g,off,none⟩) n c∧n≤c∧g < B∧∀j u,cs[j]? =some u→w.cell? ⟨g,off+j,none⟩=some u:=by
 obtain⟨hl,A,c,rfl,hnc,_,h5⟩:=h
 have hn:0 < n:=by rcases Nat.eq_zero_or_pos n with h0 | h0 <;>simp_all
 obtain⟨⟨g,off,spot⟩,rfl,hb,hc⟩:=h5 hn
 have h0:=hc 0 _ (List.getElem?_eq_getElem hp)
 have hs:spot=none:=by
  cases spot with
  | none=>rfl
  | some s=>
    exfalso
    simp only[Addr.add,if_true,World.cell?]at h0
    split at h0 <;>simp_all
 subst hs
 exact⟨g,off,c,rfl,hnc,hb,fun j u hu=>by have:=hc j u hu;rwa[Addr.add_lit]at this⟩
theorem Arg.ints {P:Program} {W:World} {T E:TypeId} {k:IntKind} {v:Value} (hT:P.underlying T=some (.slice E)) (hE:P.underlying E=some (.int k)) (hC:P.cellsOf E=1) (h:Arg P W T v):
  ∃(n:Nat) (zs:List Int),Reads W W.heap.size 1 v n (zs.map (Value.int k))∧zs.length=n∧∀z∈zs,(Lit.int k z).wf=true:=by
 obtain⟨H,enc,base,d,p,ht,ho⟩:=h
 obtain⟨a,len,cap,rfl⟩:=okWide_slice hT ho
 have lt:∀x∈p,x.block < W.heap.size:=by obtain⟨m,hm⟩:=ht;exact DataW.trod_lt m _ _ _ hm
 obtain⟨fuel,hf⟩:=ht
 rcases open_ints hT hE hC hf with⟨hcs,_⟩ | ⟨x,l,c,zs,hcs,_,hl,hm,hz,_,hcell,hwz⟩
 ·simp[Value.cells]at hcs
  obtain⟨rfl,rfl,rfl⟩:=hcs
  exact⟨0,[],⟨rfl,none,0,rfl,Nat.le_refl _,Nat.zero_le _,fun h=>absurd h (Nat.lt_irrefl _)⟩,rfl,fun _ h=>by cases h⟩
 ·simp[Value.cells]at hcs
  obtain⟨rfl,rfl,rfl⟩:=hcs
  simp at hz
  have hlen:(zs.take len).length=len:=by rw[List.length_take];omega
  refine⟨len,zs.take len,⟨by rw[List.length_map,hlen,Nat.mul_one],some x,cap,rfl,hl,hm,fun hn=>⟨x,rfl, ?_,fun j u hu=> ?_⟩⟩,hlen,fun z hz'=>hwz z (List.mem_of_mem_take hz')⟩
  ·have:=World.block_lt_of_cell? W _ (hcell 0 (by omega))
   rwa[blk_of_add]at this
  ·rw[List.getElem?_map]at hu
   obtain⟨z,hz',rfl⟩:=Option.map_eq_some_iff.1 hu
   rw[List.getElem?_take]at hz'
   split at hz'
   ·rename_i hj
    rw[hcell j (by omega)]
    rw[List.getD_eq_getElem?_getD,hz'];rfl
   ·cases hz'
theorem add_of_add (a:Addr) (i j:Nat):(a.add i).add j=a.add (i+j):=by
 unfold Addr.add
 by_cases hi:i=0 <;>by_cases hj:j=0 <;>simp[hi,hj,Nat.add_assoc]
theorem list_of_all {α:Type} {Q:Nat→α→Prop}:∀n,(∀i,i < n→∃a,Q i a)→∃l:List α,l.length=n∧∀i a,l[i]? =some a→Q i a
 | 0,_=>⟨[],rfl,fun i a h=>by simp at h⟩
 | n+1,h=>by
   obtain⟨l,hl,hq⟩:=list_of_all n (fun i hi=>h i (by omega))
   obtain⟨a,ha⟩:=h n (by omega)
   refine⟨l ++ [a],by simp[hl],fun i b hb=> ?_⟩
   by_cases hi:i < l.length
   ·rw[List.getElem?_append_left hi]at hb;exact hq i b hb
   ·rw[List.getElem?_append_right (by omega)]at hb
    have h0:i - l.length=0:=by have:=(List.getElem?_eq_some_iff.1 hb).1;simp at this;omega
    rw[h0]at hb
    simp at hb
    subst hb
    rwa[show i=n by omega]
theorem flat_at {α β:Type} {f:α→List β} {sz:Nat} (hf:∀a,(f a).length=sz):∀(l:List α) (J:Nat) (u:β),(l.flatMap f)[J]? =some u→∃i j a,J=i*sz+j∧l[i]? =some a∧(f a)[j]? =some u
 | [],J,u,h=>by simp at h
 | a :: l,J,u,h=>by
   rw[List.flatMap_cons]at h
   by_cases hJ:J < sz
   ·rw[List.getElem?_append_left (by rw[hf];exact hJ)]at h
    exact⟨0,J,a,by omega,rfl,h⟩
   ·rw[List.getElem?_append_right (by rw[hf];omega),hf]at h
    obtain⟨i,j,b,e,h1,h2⟩:=flat_at hf l _ u h
    exact⟨i+1,j,b,by rw[Nat.add_mul];omega,h1,h2⟩
theorem flat_len {α β:Type} {f:α→List β} {sz:Nat} (hf:∀a,(f a).length=sz) (l:List α):(l.flatMap f).length=l.length*sz:=by
 induction l with
 | nil=>simp
 | cons a l ih=>rw[List.flatMap_cons,List.length_append,hf,ih,List.length_cons,Nat.add_mul];omega
theorem Arg.rows {α:Type} {P:Program} {W:World} {T E:TypeId} {v:Value} (f:α→List Value) (good:α→Prop) (sz:Nat) (hf:∀a,(f a).length=sz) (hT:P.underlying T=some (.slice E)) (hC:P.cellsOf E=sz)
  (hel:∀(H:Type) (enc:TypeId×Value→H) (n:Nat) (cs:List Value) (x:DataW H×List MemPlace),DataW.trod enc P W 0 (fun _=>true) true n E cs=some x→∃a:α,cs=f a∧good a) (hpos:0 < sz) (h:Arg P W T v):
  ∃(n:Nat) (l:List α),Reads W W.heap.size sz v n (l.flatMap f)∧l.length=n∧∀a∈l,good a:=by
 obtain⟨H,enc,base,d,p,ht,ho⟩:=h
 obtain⟨A,len,cap,rfl⟩:=okWide_slice hT ho
 obtain⟨fuel,hf'⟩:=ht
 rcases DataW.trod_slice hT hf' with⟨hcs,_⟩ | ⟨a,len',cap',elems,rest,n,_,hcs,_,_,hl,hm,hlen,hel',_,_⟩
 ·simp[Value.cells]at hcs
  obtain⟨rfl,rfl,rfl⟩:=hcs
  exact⟨0,[],⟨by simp,none,0,rfl,Nat.le_refl _,Nat.zero_le _,fun h=>absurd h (Nat.lt_irrefl _)⟩,rfl,fun _ h=>by cases h⟩
 ·simp[Value.cells]at hcs
  obtain⟨rfl,rfl,rfl⟩:=hcs
  have hall:∀i,i < len→∃b:α,good b∧∀j,j < sz→W.cell? ((a.add (i*sz)).add j)=(f b)[j]? :=by
   intro i hi
   have h1:=hel' i hi
   rw[List.getElem?_eq_getElem (by omega),hC]at h1
   obtain⟨cs',hc1,hc2⟩:=Option.bind_eq_some_iff.1 h1
   obtain⟨_,_,hc3⟩:=World.cells?_some hc1
   obtain⟨b,rfl,hg⟩:=hel _ _ _ _ _ hc2
   exact⟨b,hg,hc3⟩
  obtain⟨l,hll,hlq⟩:=list_of_all (Q:=fun i b=>good b∧∀j,j < sz→W.cell? ((a.add (i*sz)).add j)=(f b)[j]?) len hall
  have hcell:∀J u,(l.flatMap f)[J]? =some u→W.cell? (a.add J)=some u:=by
   intro J u hu
   obtain⟨i,j,b,rfl,hi,hj⟩:=flat_at hf l J u hu
   have:=(hlq i b hi).2 j (by rw[←hf b];exact(List.getElem?_eq_some_iff.1 hj).1)
   rw[add_of_add]at this
   rw[this,hj]
  refine⟨len,l,⟨by rw[flat_len hf,hll],some a,cap,rfl,hl,hm,fun hn=>⟨a,rfl, ?_,hcell⟩⟩,hll,fun b hb=> ?_⟩
  ·have hp:0 < (l.flatMap f).length:=by rw[flat_len hf,hll];exact Nat.mul_pos hn hpos
   have:=World.block_lt_of_cell? W _ (hcell 0 _ (List.getElem?_eq_getElem hp))
   rwa[blk_of_add]at this
  ·obtain⟨i,hi⟩:=List.getElem?_of_mem hb
   exact(hlq i b hi).1
theorem field_int {H:Type} {enc:TypeId×Value→H} {P:Program} {w:World} {n:Nat} {t:TypeId} {k:IntKind} {cs:List Value} {o c:Nat} {r:Option (DataW H×List MemPlace)} (ht:P.underlying t=some (.int k)) (hc:P.cellsOf t=c) (hc1:c=1) (ho:o < cs.length) (hr:r.isSome=true)
  (h:DataW.trod enc P w 0 (fun _=>true) true n t ((cs.drop o).take (P.cellsOf t))=r):∃z:Int,cs[o]? =some (.int k z)∧(Lit.int k z).wf=true:=by
 obtain⟨y,rfl⟩:=Option.isSome_iff_exists.1 hr
 rw[hc,hc1,List.drop_eq_getElem_cons ho,List.take_succ_cons,List.take_zero]at h
 obtain⟨z,hz,_,hw⟩:=DataW.trod_int ht h
 injection hz with hz
 exact⟨z,by rw[List.getElem?_eq_getElem ho,hz],hw⟩
theorem field_bool {H:Type} {enc:TypeId×Value→H} {P:Program} {w:World} {n:Nat} {t:TypeId} {cs:List Value} {o c:Nat} {r:Option (DataW H×List MemPlace)} (ht:P.underlying t=some .bool) (hc:P.cellsOf t=c) (hc1:c=1) (ho:o < cs.length) (hr:r.isSome=true)
  (h:DataW.trod enc P w 0 (fun _=>true) true n t ((cs.drop o).take (P.cellsOf t))=r):∃z:Bool,cs[o]? =some (.bool z):=by
 obtain⟨y,rfl⟩:=Option.isSome_iff_exists.1 hr
 rw[hc,hc1,List.drop_eq_getElem_cons ho,List.take_succ_cons,List.take_zero]at h
 obtain⟨z,hz,_⟩:=DataW.trod_bool ht h
 injection hz with hz
 exact⟨z,by rw[List.getElem?_eq_getElem ho,hz]⟩
end Go.Proofs.YtebnflpanfmicaaGreatDoor
namespace Go.Proofs.YtebnflpanfmicaaGreatDoor
open Go.RowKit Go.Shelf
attribute [local go_sem] Oper.semAt_some
abbrev encU (k:Nat):Value:= .int .u16 (k:Int)
theorem info_u16:(Tryz.prog.info? 23).map (fun i=>(i.zero,i.size,i.bytes))=some (some (.int .u16 0),1,2):=by kernel_rfl
theorem made_cols (rows:List Nat) (n:Nat):madeCells #[.int .u16 0] n=((colsOf rows n 0).map encU).toArray:=by
 apply Array.ext
 ·simp[madeCells,colsOf]
 ·intro i h1 h2
  simp[madeCells,colsOf,colOf,Nat.mod_one]
set_option maxRecDepth 100000 in
set_option maxHeartbeats 4000000 in
theorem turn_nil (A:Option Addr) (c:Nat) (n:Int) (w:World) (h1:1≤n) (h2:n≤16):
  Calls Tryz.prog 177 #[.slice A 0 c, .int .i64 n] w fun e w'=>∃u,e= .returned u∧QS w' 23 1 u (colsOf [] n.toNat 0).length ((colsOf [] n.toNat 0).map encU)∧Keeps (fun _=>False) w w'∧
   ∀k,u.ownBlock=some k→w.heap.size≤k:=by
 have hms:=fun w=>run_make_row' (P:=Tryz.prog) 221 23 (.int .u16 0) 2 Tryz.underlying221 info_u16 rfl .i64 .i64 n.toNat (by omega) (by omega) w
 rw[show((n.toNat:Nat):Int)=n by omega]at hms
 have hO0:((w.alloc (.cells (madeCells #[.int .u16 0] n.toNat) 23)).alloc (.cells #[.slice (some ⟨w.heap.size,0,none⟩) n.toNat n.toNat] 221)).heap[w.heap.size+1]? =some (.cells #[.slice (some ⟨w.heap.size,0,none⟩) n.toNat n.toNat] 221 (0,0)):=by
  have:=blk_new (w.alloc (.cells (madeCells #[.int .u16 0] n.toNat) 23)) (.cells #[.slice (some ⟨w.heap.size,0,none⟩) n.toNat n.toNat] 221)
  rwa[World.size_alloc]at this
 have hM0:((w.alloc (.cells (madeCells #[.int .u16 0] n.toNat) 23)).alloc (.cells #[.slice (some ⟨w.heap.size,0,none⟩) n.toNat n.toNat] 221)).heap[w.heap.size]? =some (.cells ((colsOf [] n.toNat 0).map encU).toArray 23 (0,0)):=by
  rw[←made_cols]
  exact blk_alloc (blk_new _ _) _
 have hk0:Keeps (fun _=>False) w ((w.alloc (.cells (madeCells #[.int .u16 0] n.toNat) 23)).alloc (.cells #[.slice (some ⟨w.heap.size,0,none⟩) n.toNat n.toNat] 221)):=(Keeps.alloc _ _ _).trans (Keeps.alloc _ _ _)
 go_enter Tryz.func177,Tryz.ntmps177
 go_wp2_with fail
 generalize (w.alloc (.cells (madeCells #[.int .u16 0] n.toNat) 23)).alloc (.cells #[.slice (some ⟨w.heap.size,0,none⟩) n.toNat n.toNat] 221)=W0 at hk0 hO0 hM0
 clear hms
 have hc:W0.cell? ⟨w.heap.size+1,0,none⟩=some (.slice (some ⟨w.heap.size,0,none⟩) n.toNat n.toNat):=by rw[blk_cell hO0];rfl
 refine wp_loop (fun a' W=>W=W0∧a'=_) (fun _ _=>0) ⟨rfl,rfl⟩ ?_
 rintro a' W ⟨rfl,rfl⟩
 go_wp2_with fail
 go_ret
 refine⟨_,rfl, ?_,hk0,fun k hk=>by cases hk;exact Nat.le_refl _⟩
 exact⟨by simp, .inr ⟨w.heap.size,0,n.toNat,_,by rw[colsOf_length];rfl,hM0,by rw[colsOf_length];exact Nat.le_refl _,by simp only[maxLen];omega,by simp[colsOf_length],fun i hi=>by simp⟩⟩
end Go.Proofs.YtebnflpanfmicaaGreatDoor
