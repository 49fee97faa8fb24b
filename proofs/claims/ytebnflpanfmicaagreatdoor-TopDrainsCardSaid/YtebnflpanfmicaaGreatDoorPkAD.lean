/-
  Part 4 of the proof: HostW3, HostW4, IslipNew, TopSer, TopCred, TopBuf.
-/
import Derived.Test.YtebnflpanfmicaaGreatDoorPkAC
import Derived.Test.YtebnflpanfmicaaGreatDoorPkAB
import Derived.BigQuiet
import Derived.Lib.SliceRun
import Derived.Deep.OwnRows
import Derived.Deep.RegionHeld
import Derived.Test.YtebnflpanfmicaaGreatDoorProg
import Derived.Test.YtebnflpanfmicaaGreatDoorPkAA
set_option linter.unusedVariables false
set_option linter.unusedSimpArgs false
set_option linter.unusedSectionVars false
namespace Go.Proofs.YtebnflpanfmicaaGreatDoor
open Go.RowKit
set_option maxHeartbeats 400000 in
theorem next_none (b:Nat) (l:Int) (w:World) (hw:∀W:World,Keeps (fun _=>False) w W→Calls Tryz.prog 67 #[.pointer (some ⟨b,0,none⟩), .int .i64 l] W fun e w'=>e= .returned (.int .i64 0)∧W=w'):
  Calls Tryz.prog 175 #[.pointer (some ⟨b,0,none⟩), .int .i64 l] w fun e w'=>e= .returned (.tuple #[.agg #[.int .i64 0, .int .i64 0, .int .i64 0, .int .u32 0], .bool false])∧Keeps (fun _=>False) w w':=by
 have hw':=Lib.hid hw
 clear hw
 go_enter Tryz.func175,Tryz.ntmps175
 go_wp2_with (go_at_call 67;refine(hw'.out _ (Keeps.alloc _ _ _)).mono ?_;rintro e w' ⟨rfl,rfl⟩)
 exact bodyPost_ret (v:= .tuple #[.agg #[.int .i64 0, .int .i64 0, .int .i64 0, .int .u32 0], .bool false]) (by simp[results,Tryz.results175,go_sem]) rfl ⟨rfl,Keeps.alloc _ _ _⟩
set_option maxHeartbeats 400000 in
theorem next_low (b l g off m cap:Nat) (x0 x1 x2 x3:Int) (w:World) (hb:b < w.heap.size) (hl3:l < 3)
  (hl:w.cell? ⟨b,l,none⟩=some (.slice (some ⟨g,off,none⟩) (m+1) (cap+1))) (hf:w.frozen? ⟨b,l,none⟩=false) (hg:g < w.heap.size)
  (c0:w.cell? ⟨g,off,none⟩=some (.int .i64 x0)) (c1:w.cell? ⟨g,off+1,none⟩=some (.int .i64 x1)) (c2:w.cell? ⟨g,off+2,none⟩=some (.int .i64 x2)) (c3:w.cell? ⟨g,off+3,none⟩=some (.int .u32 x3))
  (hw:∀W:World,Keeps (fun _=>False) w W→Calls Tryz.prog 67 #[.pointer (some ⟨b,0,none⟩), .int .i64 l] W fun e w'=>e= .returned (.int .i64 ((m:Int)+1))∧W=w'):
  Calls Tryz.prog 175 #[.pointer (some ⟨b,0,none⟩), .int .i64 l] w fun e w'=>e= .returned (.tuple #[.agg #[.int .i64 x0, .int .i64 x1, .int .i64 x2, .int .u32 x3], .bool true])∧
   Keeps (fun _=>False) (w.setCell ⟨b,l,none⟩ (.slice (some ⟨g,if cap=0 then off else off+4,none⟩) m cap)) w':=by
 have hw':=Lib.hid hw
 clear hw
 have hl3':(l:Int) < 3:=by omega
 have hm0:((m:Int)+1 == 0)=false:=beq_eq_false_iff_ne.2 (by omega)
 have hm1:(0:Int) < (m:Int)+1:=by omega
 go_enter Tryz.func175,Tryz.ntmps175
 go_wp2_with (go_at_call 67;refine(hw'.out _ (Keeps.alloc _ _ _)).mono ?_;rintro e w' ⟨rfl,rfl⟩)
 go_region
 all_goals go_wp2
 all_goals
  exact bodyPost_ret (v:= .tuple #[.agg #[.int .i64 x0, .int .i64 x1, .int .i64 x2, .int .u32 x3], .bool true]) (by simp[results,Tryz.results175,go_sem]) rfl
   ⟨rfl,((Keeps.alloc _ _ _).trans (Keeps.alloc _ _ _)).trans (Keeps.drew _ _)⟩
theorem HostV.blk {w:World} {S:Nat→Prop} {T E b:Nat} {lanes queue:Int} {q:Nat→List Pkt} (h:HostV w S T E b lanes queue q):b < w.heap.size:=by
 obtain⟨v,hb,_⟩:=h;exact blk_lt hb
theorem next_empty {S:Nat→Prop} {T E:Nat} {q:Nat→List Pkt} (b:Nat) (l lanes queue:Int) (w:World) (h:HostV w S T E b lanes queue q) (h3:lanes≤3) (hl:l < 0∨(0≤l∧lanes≤l)∨(0≤l∧l < lanes∧q l.toNat=[])):
  Calls Tryz.prog 175 #[.pointer (some ⟨b,0,none⟩), .int .i64 l] w fun e w'=>e= .returned (.tuple #[.agg #[.int .i64 0, .int .i64 0, .int .i64 0, .int .u32 0], .bool false])∧Keeps (fun _=>False) w w':=by
 refine next_none b l w fun W hk=> ?_
 have h':=h.keeps hk (fun _ _ h=>h)
 rcases hl with hl | hl | ⟨h0,h1,he⟩
 ·exact waits_no b l lanes W h'.lanes (.inl hl)
 ·exact waits_no b l lanes W h'.lanes (.inr hl)
 ·have:=waits_ok b l lanes queue W h' h0 h1 h3
  rwa[he]at this
theorem host_at (v:Nat→Value) (a c:Value) (l:Nat) (h:l < 4):(#[v 0,v 1,v 2,v 3,a,c]:Array Value)[l]? =some (v l):=by
 match l,h with
 | 0,_=>rfl
 | 1,_=>rfl
 | 2,_=>rfl
 | 3,_=>rfl
theorem next_ok {S:Nat→Prop} {T:Nat} {q:Nat→List Pkt} (b:Nat) (l lanes queue:Int) (w:World) (h:HostV w S T 31 b lanes queue q) (h3:lanes≤3) (h0:0≤l) (h1:l < lanes) (x:Pkt) (r:List Pkt) (hq:q l.toNat=x :: r):
  Calls Tryz.prog 175 #[.pointer (some ⟨b,0,none⟩), .int .i64 l] w fun e w'=>e= .returned (.tuple #[.agg #[.int .i64 x.src, .int .i64 x.dst, .int .i64 x.lane, .int .u32 x.body], .bool true])∧
   HostNow w w' S T 31 b lanes queue (setAt q l.toNat r):=by
 have hw:∀W:World,Keeps (fun _=>False) w W→Calls Tryz.prog 67 #[.pointer (some ⟨b,0,none⟩), .int .i64 l] W fun e w'=>e= .returned (.int .i64 ((r.length:Int)+1))∧W=w':=fun W hk=>by
  have:=waits_ok b l lanes queue W (h.keeps hk (fun _ _ h=>h)) h0 h1 h3
  rwa[hq,List.length_cons]at this
 obtain⟨l,rfl⟩:=Int.eq_ofNat_of_zero_le h0
 simp only[Int.toNat_natCast]at hq ⊢
 obtain⟨v,hb,hr⟩:=h
 have hl3:l < 3:=by omega
 have hQ:=hr.rows l (by omega)
 rw[hq]at hQ
 obtain⟨g,off,cap,hv,hnc,hcell,hfr⟩:=hQ.cell (by simp)
 rw[List.length_cons]at hv hnc
 have hcl:w.cell? ⟨b,l,none⟩=some (v l):=(blk_cell hb l).trans (host_at v _ _ l (by omega))
 obtain⟨cap,rfl⟩:∃c,cap=c+1:=⟨cap - 1,by omega⟩
 have hx:∀j u,x.cells[j]? =some u→w.cell? ⟨g,off+j,none⟩=some u:=fun j u hu=>hcell j u (by rw[pcells_cons,List.getElem?_append_left (List.getElem?_eq_some_iff.1 hu).1];exact hu)
 refine(next_low b l g off r.length cap x.src x.dst x.lane x.body w (blk_lt hb) hl3 (by rw[hcl,hv]) (blk_frozen hb l) (hQ.lt g (by rw[hv];rfl)) (hx 0 _ rfl) (hx 1 _ rfl) (hx 2 _ rfl) (hx 3 _ rfl) hw).mono ?_
 rintro e w' ⟨rfl,hk⟩
 have hQ2:QS w 31 4 (.slice (some ⟨g,if cap=0 then off else off+4,none⟩) r.length cap) r.length (pcells r):=by
  rw[hv,List.length_cons]at hQ
  by_cases hc:cap=0
  ·subst hc
   obtain rfl:r=[]:=List.eq_nil_of_length_eq_zero (by omega)
   exact hQ.dropAll
  ·rw[if_neg hc]
   exact hQ.drop 1 (by omega)
 obtain⟨r1,r2⟩:=HostV.put hb hr (i:=l) (by omega) (Keeps.refl _ w) (l':=r) hQ2 (.inl (by rw[hv];rfl))
 exact⟨rfl,_,r1.keeps hk (fun _ _ h=>h),r2.trans (hk.mono (fun _ _ h=>h.elim)),fun k hk=>hk.imp id And.left⟩
end Go.Proofs.YtebnflpanfmicaaGreatDoor
namespace Go.Proofs.YtebnflpanfmicaaGreatDoor
open Go.RowKit
set_option maxHeartbeats 400000 in
theorem clone_nil (w:World):Calls Tryz.prog 105 #[.slice none 0 0] w fun e w'=>e= .returned (.slice none 0 0)∧w=w':=by
 have hn:=Lib.run_eql_slice_nil (P:=Tryz.prog) w 40 31 none 0 0 0 0 Tryz.underlying40
 go_enter Tryz.func105,Tryz.ntmps105
 go_wp2
 go_ret
 exact⟨rfl,rfl⟩
set_option maxHeartbeats 400000 in
theorem clone_some (a:Addr) (n cap:Nat) (cs:List Value) (w:World) (hQ:QS w 31 4 (.slice (some a) n cap) n cs) (h1:∀u∈cs,u.oneCell'=true) (hn:n≤1000000000):
  Calls Tryz.prog 105 #[.slice (some a) n cap] w fun e w'=>∃A c,e= .returned (.slice A n c)∧QS w' 31 4 (.slice A n c) n cs∧Keeps (fun _=>False) w w'∧(∀k,(Value.slice A n c).ownBlock=some k→w.heap.size≤k):=by
 have hnn:=Lib.run_eql_slice_nil (P:=Tryz.prog) w 40 31 (some a) n cap 0 0 Tryz.underlying40
 have h0:QS (w.alloc (.cells #[] 31)) 31 4 (.slice (some ⟨w.heap.size,0,none⟩) 0 0) 0 []:=⟨rfl, .inr ⟨_,0,0, #[],rfl,blk_new w _,Nat.le_refl _,Nat.zero_le _,by simp,fun j hj=>absurd hj (Nat.not_lt_zero _)⟩⟩
 have hS:=(hQ.alloc (.cells #[] 31)).src Tryz.underlying40 h1
 have hbnd:(0+n)*32≤140737488355328:=by omega
 have h32:0 < 32:=by decide
 go_enter Tryz.func105,Tryz.ntmps105
 go_wp2_with (at_builtin;refine wpList_append_QS rfl (.tmp 5) (.tmp 6) 40 40 rfl 31 _ 4 32 Tryz.underlying40 info_pkt rfl _ 0 [] rfl h0 _ n cs rfl hS h32 hbnd ?_;intro A c w1 hq1 hg1 hb1)
 have hg2:(w.alloc (.cells #[] 31)).grownBy w1 (some w.heap.size):=hg1
 go_ret
 refine⟨A,c,rfl,by simpa using hq1,⟨hg2.os,hg2.tape,hg2.output,Nat.le_trans (by simp) hg2.size,fun i hi _=>(hg2.block i (by simp;omega) (fun e=>by injection e with e;omega)).trans (Below.heap_alloc _ _ _ hi)⟩,fun k hk=> ?_⟩
 rw[Nat.zero_add]at hb1
 rcases hb1 with h | ⟨b,h,h'⟩
 ·have h2:(Value.slice A n c).ownBlock=some w.heap.size:=h
  rw[hk]at h2;injection h2 with h2;omega
 ·rw[hk]at h;injection h with h;simp at h';omega
theorem clone_ok (n:Nat) (v:Value) (cs:List Value) (w:World) (hQ:QS w 31 4 v n cs) (h1:∀u∈cs,u.oneCell'=true) (hn:n≤1000000000):
  Calls Tryz.prog 105 #[v] w fun e w'=>∃A c,e= .returned (.slice A n c)∧QS w' 31 4 (.slice A n c) n cs∧Keeps (fun _=>False) w w'∧(∀k,(Value.slice A n c).ownBlock=some k→w.heap.size≤k):=by
 rcases hQ.2 with⟨rfl,rfl⟩ | ⟨g,off,cap,cur,rfl,_⟩
 ·refine(clone_nil w).mono ?_
  rintro e w' ⟨rfl,rfl⟩
  exact⟨none,0,rfl,hQ,Keeps.refl _ _,fun _ h=>by cases h⟩
 ·exact clone_some _ n cap cs w hQ h1 hn
set_option maxHeartbeats 400000 in
theorem got_low (b n:Nat) (v:Value) (hv:∃A c,v= .slice A n c) (cs:List Value) (w:World) (hc:w.cell? ⟨b,3,none⟩=some v) (hQ:QS w 31 4 v n cs) (h1:∀u∈cs,u.oneCell'=true) (hn:n≤1000000000):
  Calls Tryz.prog 58 #[.pointer (some ⟨b,0,none⟩)] w fun e w'=>∃A c,e= .returned (.slice A n c)∧QS w' 31 4 (.slice A n c) n cs∧Keeps (fun _=>False) w w'∧(∀k,(Value.slice A n c).ownBlock=some k→w.heap.size≤k):=by
 obtain⟨A0,c0,rfl⟩:=hv
 go_enter Tryz.func58,Tryz.ntmps58
 go_wp2_with (go_at_call 105;refine(clone_ok n _ cs _ hQ h1 hn).mono ?_;rintro e w' ⟨A,c,rfl,hq,hk,ho⟩)
 go_ret
 exact⟨A,c,rfl,hq,hk,ho⟩
theorem got_ok {S:Nat→Prop} {T:Nat} {q:Nat→List Pkt} (b:Nat) (lanes queue:Int) (w:World) (h:HostV w S T 31 b lanes queue q) (hn:(q 3).length≤1000000000):
  Calls Tryz.prog 58 #[.pointer (some ⟨b,0,none⟩)] w fun e w'=>∃A c,e= .returned (.slice A (q 3).length c)∧QS w' 31 4 (.slice A (q 3).length c) (q 3).length (pcells (q 3))∧Keeps (fun _=>False) w w'∧(∀k,(Value.slice A (q 3).length c).ownBlock=some k→w.heap.size≤k):=by
 obtain⟨v,hb,hr⟩:=h
 obtain⟨A,c,hv,_⟩:=(hr.rows 3 (by omega)).shape
 exact got_low b _ (v 3) ⟨A,c,hv⟩ _ w (by rw[blk_cell hb];rfl) (hr.rows 3 (by omega)) (pcells_one _) hn
theorem got_as {S:Nat→Prop} {T:Nat} {q:Nat→List Pkt} (b:Nat) (lanes queue:Int) (w:World) (h:HostV w S T 31 b lanes queue q) (l:List Pkt) (n:Nat) (hl:q 3=l) (hn':l.length=n) (hn:n≤1000000000):
  Calls Tryz.prog 58 #[.pointer (some ⟨b,0,none⟩)] w fun e w'=>∃A c,e= .returned (.slice A n c)∧QS w' 31 4 (.slice A n c) n (pcells l)∧Keeps (fun _=>False) w w'∧(∀k,(Value.slice A n c).ownBlock=some k→w.heap.size≤k):=by
 subst hl;subst hn'
 exact got_ok b lanes queue w h hn
theorem waits_as {S:Nat→Prop} {T E:Nat} {q:Nat→List Pkt} (b:Nat) (l lanes queue:Int) (w:World) (h:HostV w S T E b lanes queue q) (h0:0≤l) (h1:l < lanes) (h3:lanes≤3) (n:Int) (hn:((q l.toNat).length:Int)=n):
  Calls Tryz.prog 67 #[.pointer (some ⟨b,0,none⟩), .int .i64 l] w fun e w'=>e= .returned (.int .i64 n)∧w=w':=by
 subst hn
 exact waits_ok b l lanes queue w h h0 h1 h3
theorem HostV.same {w:World} {S:Nat→Prop} {T E b:Nat} {lanes queue:Int} {q q':Nat→List Pkt} (h:HostV w S T E b lanes queue q) (e:∀i,i < 4→q i=q' i):HostV w S T E b lanes queue q':=by
 obtain⟨v,hb,hr⟩:=h
 exact⟨v,hb,⟨fun i hi=>e i hi▸hr.rows i hi,hr.self,hr.off,hr.apart,hr.own,hr.lt⟩⟩
def qf (q0 q1 q2 q3:List Pkt):Nat→List Pkt
 | 0=>q0
 | 1=>q1
 | 2=>q2
 | _=>q3
theorem HostV.qf {w:World} {S:Nat→Prop} {T E b:Nat} {lanes queue:Int} {q:Nat→List Pkt} (h:HostV w S T E b lanes queue q) {q0 q1 q2 q3:List Pkt} (e0:q 0=q0) (e1:q 1=q1) (e2:q 2=q2) (e3:q 3=q3):HostV w S T E b lanes queue (qf q0 q1 q2 q3):=
 h.same fun i hi=>by
  match i,hi with
  | 0,_=>exact e0
  | 1,_=>exact e1
  | 2,_=>exact e2
  | 3,_=>exact e3
end Go.Proofs.YtebnflpanfmicaaGreatDoor
namespace Go.Proofs.YtebnflpanfmicaaGreatDoor
open Go.RowKit
theorem info_int:(Tryz.prog.info? 3).map (fun i=>(i.zero,i.size,i.bytes))=some (some (.int .i64 0),1,8):=by kernel_rfl
theorem Reads.src {P:Program} {w:World} {tx e' B sz n:Nat} {v:Value} {cs:List Value} (h:Reads w B sz v n cs) (hk:P.underlying tx=some (.slice e')) (h1:∀u∈cs,u.oneCell'=true):Src P sz tx v n cs w:=by
 rcases Nat.eq_zero_or_pos cs.length with h0 | h0
 ·obtain rfl:=List.eq_nil_of_length_eq_zero h0
  obtain⟨hl,A,c,rfl,hnc,_,h5⟩:=h
  rcases Nat.eq_zero_or_pos n with hn | hn
  ·subst hn
   cases A with
   | none=>exact Src.ofNil w hk c
   | some a=>exact Src.ofSlice w hk a 0 c [] (by simp) (fun j u hu=>by simp at hu) h1
  ·obtain⟨ad,rfl,_,_⟩:=h5 hn
   exact Src.ofSlice w hk ad n c [] hl (fun j u hu=>by simp at hu) h1
 ·obtain⟨g,off,c,rfl,_,_,hc⟩:=h.at_ h0
  exact Src.ofSlice w hk _ _ _ _ h.1 (fun j u hu=>by rw[Addr.add_lit];exact hc j u hu) h1
theorem one_nats (l:List Nat):∀u∈l.map encI,u.oneCell'=true:=by
 intro u hu
 obtain⟨z,_,rfl⟩:=List.mem_map.1 hu
 rfl
structure Arb (w:World) (b n:Nat) (G A:List Nat) (g a:Nat):Prop where
 box:w.heap[b]? =some (.cells #[.slice (some ⟨g,0,none⟩) n n, .slice (some ⟨a,0,none⟩) n n] 246 (0,0))
 gr:w.heap[g]? =some (.cells (G.map encI).toArray 3 (0,0))
 ac:w.heap[a]? =some (.cells (A.map encI).toArray 3 (0,0))
 ne:g≠a
 lenG:G.length=n
 lenA:A.length=n
theorem made_zeros (n:Nat):madeCells #[.int .i64 0] n=((List.replicate n 0).map encI).toArray:=by
 apply Array.ext
 ·simp[madeCells]
 ·intro i h1 h2
  simp[madeCells,Nat.mod_one]
theorem three_boxes (w:World) (a b c:Array Value) (S T U:Nat):(((w.alloc (.cells a S)).alloc (.cells b T)).alloc (.cells c U)).heap[w.heap.size]? =some (.cells a S (0,0))∧
  (((w.alloc (.cells a S)).alloc (.cells b T)).alloc (.cells c U)).heap[w.heap.size+1]? =some (.cells b T (0,0))∧(((w.alloc (.cells a S)).alloc (.cells b T)).alloc (.cells c U)).heap[w.heap.size+1+1]? =some (.cells c U (0,0))∧
  Keeps (fun _=>False) w (((w.alloc (.cells a S)).alloc (.cells b T)).alloc (.cells c U)):=by
 refine⟨blk_alloc (blk_alloc (blk_new _ _) _) _,blk_alloc ?_ _, ?_,((Keeps.alloc _ _ _).trans (Keeps.alloc _ _ _)).trans (Keeps.alloc _ _ _)⟩
 ·have:=blk_new (w.alloc (.cells a S)) (.cells b T)
  rwa[World.size_alloc]at this
 ·have:=blk_new ((w.alloc (.cells a S)).alloc (.cells b T)) (.cells c U)
  rwa[World.size_alloc,World.size_alloc]at this
set_option maxHeartbeats 2000000 in
theorem new_calls (n:Nat) (h1:1≤n) (h2:n≤16) (w:World):
  Calls Tryz.prog 84 #[.int .i64 n] w fun e w'=>∃b g a,e= .returned (.pointer (some ⟨b,0,none⟩))∧Arb w' b n (List.replicate n 0) (List.replicate n 0) g a∧Keeps (fun _=>False) w w'∧w.heap.size≤b∧w.heap.size≤g∧w.heap.size≤a:=by
 have hms:=fun w=>run_make_row' (P:=Tryz.prog) 35 3 (.int .i64 0) 8 Tryz.underlying35 info_int rfl .i64 .i64 n (by omega) (by omega) w
 have hn1:¬(n:Int) < 1:=by omega
 have hn2:¬(16:Int) < (n:Int):=by omega
 go_enter Tryz.func84,Tryz.ntmps84
 go_wp2_with fail
 go_region
 ·obtain⟨q1,q2,q3,hk⟩:=three_boxes w (madeCells #[.int .i64 0] n) (madeCells #[.int .i64 0] n) #[.slice (some ⟨w.heap.size,0,none⟩) n n, .slice (some ⟨w.heap.size+1,0,none⟩) n n] 3 3 246
  go_wp2_with fail
  go_ret
  refine⟨_,w.heap.size,w.heap.size+1,rfl,⟨q3,by rw[←made_zeros];exact q1,by rw[←made_zeros];exact q2,by omega,by simp,by simp⟩, ?_,by omega,by omega,by omega⟩
  first | exact hk | exact hk.trans (Keeps.drew _ _)
 ·obtain⟨q1,q2,q3,hk⟩:=three_boxes w (madeCells #[.int .i64 0] n) (madeCells #[.int .i64 0] n) #[.slice (some ⟨w.heap.size+1,0,none⟩) n n, .slice (some ⟨w.heap.size,0,none⟩) n n] 3 3 246
  go_wp2_with fail
  go_ret
  refine⟨_,w.heap.size+1,w.heap.size,rfl,⟨q3,by rw[←made_zeros];exact q2,by rw[←made_zeros];exact q1,by omega,by simp,by simp⟩, ?_,by omega,by omega,by omega⟩
  first | exact hk | exact hk.trans (Keeps.drew _ _)
theorem Arb.keeps {w w':World} {b n:Nat} {G A:List Nat} {g a:Nat} {F:Nat→Prop} (h:Arb w b n G A g a) (hk:Keeps F w w') (hF:∀k,k=b∨k=g∨k=a→¬F k):Arb w' b n G A g a:=
 ⟨blk_keeps hk h.box (hF b (.inl rfl)),blk_keeps hk h.gr (hF g (.inr (.inl rfl))),blk_keeps hk h.ac (hF a (.inr (.inr rfl))),h.ne,h.lenG,h.lenA⟩
theorem Arb.cells {w:World} {b n:Nat} {G A:List Nat} {g a:Nat} (h:Arb w b n G A g a):w.cell? ⟨b,0,none⟩=some (.slice (some ⟨g,0,none⟩) n n)∧w.cell? ⟨b,1,none⟩=some (.slice (some ⟨a,0,none⟩) n n):=
 ⟨by rw[blk_cell h.box];rfl,by rw[blk_cell h.box];rfl⟩
end Go.Proofs.YtebnflpanfmicaaGreatDoor
namespace Go.Proofs.YtebnflpanfmicaaGreatDoor
open Go.RowKit
abbrev W64 (x:Int):Int:=IntKind.u64.wrap x
abbrev W16 (x:Int):Int:=IntKind.u16.wrap x
def widen (near s:Int):Int:=W64 (W64 (near - 32768)+W64 (W16 (s - W16 (W64 (near - 32768)))))
set_option maxHeartbeats 400000 in
theorem short_runs (x:Int) (w:World):
  Calls Tryz.prog 206 #[.int .u64 x] w fun e w'=>e= .returned (.int .u16 (W16 x))∧w=w':=by
 go_enter Tryz.func206,Tryz.ntmps206
 go_wp2
 go_ret
 exact⟨rfl,rfl⟩
set_option maxHeartbeats 400000 in
theorem widen_runs (near s:Int) (w:World):
  Calls Tryz.prog 165 #[.int .u64 near, .int .u16 s] w fun e w'=>e= .returned (.int .u64 (widen near s))∧w=w':=by
 go_enter Tryz.func165,Tryz.ntmps165
 go_wp2_with (go_at_call 206;refine(short_runs _ _).mono ?_;rintro e w' ⟨rfl,rfl⟩)
 go_ret
 exact⟨rfl,rfl⟩
end Go.Proofs.YtebnflpanfmicaaGreatDoor
namespace Go.Proofs.YtebnflpanfmicaaGreatDoor
open Go.RowKit
def SendAt (w:World) (b:Nat) (sent limit:Int):Prop:=w.heap[b]? =some (.cells #[.int .u64 sent, .int .u64 limit] 242 (0,0))
theorem SendAt.keeps {w w':World} {F:Nat→Prop} {b:Nat} {sent limit:Int} (h:SendAt w b sent limit) (hk:Keeps F w w') (hF:¬F b):SendAt w' b sent limit:=blk_keeps hk h hF
theorem SendAt.sent {w:World} {b:Nat} {sent limit:Int} (h:SendAt w b sent limit):w.cell? ⟨b,0,none⟩=some (.int .u64 sent):=by rw[blk_cell h];rfl
theorem SendAt.limit {w:World} {b:Nat} {sent limit:Int} (h:SendAt w b sent limit):w.cell? ⟨b,1,none⟩=some (.int .u64 limit):=by rw[blk_cell h];rfl
def opn (sent limit:Int):Int:=wrap64 (W64 (limit - sent))
set_option maxHeartbeats 400000 in
theorem open_runs (sent limit:Int) (w:World):
  Calls Tryz.prog 164 #[.agg #[.int .u64 sent, .int .u64 limit]] w fun e w'=>e= .returned (.int .i64 (opn sent limit))∧Keeps (fun _=>False) w w':=by
 go_enter Tryz.func164,Tryz.ntmps164
 go_wp2
 go_ret
 exact⟨rfl,Keeps.alloc _ _ _⟩
set_option maxHeartbeats 400000 in
theorem usable_runs (b:Nat) (sent limit:Int) (w:World) (h:SendAt w b sent limit):
  Calls Tryz.prog 109 #[.pointer (some ⟨b,0,none⟩)] w fun e w'=>e= .returned (.int .i64 (opn sent limit))∧Keeps (fun _=>False) w w':=by
 have c0:=h.sent
 have c1:=h.limit
 go_enter Tryz.func109,Tryz.ntmps109
 go_wp2_with (go_at_call 164;refine(open_runs _ _ _).mono ?_;rintro e w' ⟨rfl,hk⟩)
 go_ret
 exact⟨rfl,hk⟩
set_option maxHeartbeats 400000 in
theorem slimit_runs (b:Nat) (sent limit:Int) (w:World) (h:SendAt w b sent limit):
  Calls Tryz.prog 111 #[.pointer (some ⟨b,0,none⟩)] w fun e w'=>e= .returned (.int .u64 limit)∧w=w':=by
 have c1:=h.limit
 go_enter Tryz.func111,Tryz.ntmps111
 go_wp2
 go_ret
 exact⟨rfl,rfl⟩
set_option maxHeartbeats 400000 in
theorem sent_runs (b:Nat) (sent limit:Int) (w:World) (h:SendAt w b sent limit):
  Calls Tryz.prog 115 #[.pointer (some ⟨b,0,none⟩)] w fun e w'=>e= .returned (.int .u64 sent)∧w=w':=by
 have c0:=h.sent
 go_enter Tryz.func115,Tryz.ntmps115
 go_wp2
 go_ret
 exact⟨rfl,rfl⟩
set_option maxHeartbeats 400000 in
theorem cnext_none (b:Nat) (sent limit:Int) (w:World) (h:SendAt w b sent limit) (h0:(opn sent limit == 0)=true):
  Calls Tryz.prog 185 #[.pointer (some ⟨b,0,none⟩)] w fun e w'=>e= .returned (.tuple #[.int .u64 0, .bool false])∧Keeps (fun _=>False) w w':=by
 have c0:=h.sent
 have c1:=h.limit
 clear h
 go_enter Tryz.func185,Tryz.ntmps185
 go_wp2_with (go_at_call 164;refine(open_runs _ _ _).mono ?_;rintro e w' ⟨rfl,hk⟩)
 go_ret2
 exact⟨rfl,hk⟩
set_option maxHeartbeats 400000 in
theorem cnext_some (b:Nat) (sent limit:Int) (w:World) (h:SendAt w b sent limit) (h0:(opn sent limit == 0)=false):
  Calls Tryz.prog 185 #[.pointer (some ⟨b,0,none⟩)] w fun e w'=>e= .returned (.tuple #[.int .u64 sent, .bool true])∧Keeps (fun k=>k=b) w w'∧SendAt w' b (W64 (sent+1)) limit:=by
 have c0:=h.sent
 have c1:=h.limit
 have h':=Lib.hid h
 clear h
 go_enter Tryz.func185,Tryz.ntmps185
 go_wp2_with (go_at_call 164;refine(open_runs _ _ _).mono ?_;rintro e w' ⟨rfl,hk⟩;have d0:=hk.cell c0 (fun h=>h);have fz:=hk.frozen c0 (fun h=>h);rw[blk_frozen h'.out]at fz)
 go_ret2
 refine⟨rfl,(hk.mono (fun _ _ h=>h.elim)).trans (Keeps.setCell _ _ _ _ rfl), ?_⟩
 unfold SendAt
 rw[blk_set (h'.out.keeps hk (fun h=>h))]
 rfl
set_option maxHeartbeats 400000 in
theorem chear_no (b:Nat) (sent limit s:Int) (w:World) (h:SendAt w b sent limit) (h0:decide (widen limit s≤limit)=true∨(decide (widen limit s≤limit)=false∧decide (W64 (sent+8) < widen limit s)=true)):
  Calls Tryz.prog 120 #[.pointer (some ⟨b,0,none⟩), .int .u16 s] w fun e w'=>e= .returned (.bool false)∧Keeps (fun _=>False) w w':=by
 have c0:=h.sent
 have c1:=h.limit
 clear h
 rcases h0 with h0 | ⟨h0,h1⟩
 all_goals
  go_enter Tryz.func120,Tryz.ntmps120
  go_wp2_with (go_at_call 165;refine(widen_runs _ _ _).mono ?_;rintro e w' ⟨rfl,hw⟩;subst w')
  go_ret
  exact⟨rfl,Keeps.refl _ _⟩
set_option maxHeartbeats 400000 in
theorem chear_yes (b:Nat) (sent limit s:Int) (w:World) (h:SendAt w b sent limit) (h0:decide (widen limit s≤limit)=false) (h1:decide (W64 (sent+8) < widen limit s)=false):
  Calls Tryz.prog 120 #[.pointer (some ⟨b,0,none⟩), .int .u16 s] w fun e w'=>e= .returned (.bool true)∧Keeps (fun k=>k=b) w w'∧SendAt w' b sent (widen limit s):=by
 have c0:=h.sent
 have c1:=h.limit
 have fz:=blk_frozen h 1
 have h':=Lib.hid h
 clear h
 go_enter Tryz.func120,Tryz.ntmps120
 go_wp2_with (go_at_call 165;refine(widen_runs _ _ _).mono ?_;rintro e w' ⟨rfl,hw⟩;subst w')
 go_ret
 refine⟨rfl,Keeps.setCell _ _ _ _ rfl, ?_⟩
 unfold SendAt
 rw[blk_set (b:=b) h'.out]
 rfl
def hearC (sent limit s:Int):Int:=if widen limit s≤limit∨W64 (sent+8) < widen limit s then limit else widen limit s
theorem chear_runs (b:Nat) (sent limit s:Int) (w:World) (h:SendAt w b sent limit):
  Calls Tryz.prog 120 #[.pointer (some ⟨b,0,none⟩), .int .u16 s] w fun e w'=>(∃r,e= .returned (.bool r))∧Keeps (fun k=>k=b) w w'∧SendAt w' b sent (hearC sent limit s):=by
 unfold hearC
 by_cases h0:widen limit s≤limit
 ·rw[if_pos (.inl h0)]
  refine(chear_no b sent limit s w h (.inl (decide_eq_true h0))).mono ?_
  rintro e w' ⟨rfl,hk⟩
  exact⟨⟨_,rfl⟩,hk.mono (fun _ _ h=>h.elim),h.keeps hk (fun h=>h)⟩
 ·by_cases h1:W64 (sent+8) < widen limit s
  ·rw[if_pos (.inr h1)]
   refine(chear_no b sent limit s w h (.inr ⟨decide_eq_false h0,decide_eq_true h1⟩)).mono ?_
   rintro e w' ⟨rfl,hk⟩
   exact⟨⟨_,rfl⟩,hk.mono (fun _ _ h=>h.elim),h.keeps hk (fun h=>h)⟩
  ·rw[if_neg (by rintro(h | h) <;>contradiction)]
   refine(chear_yes b sent limit s w h (decide_eq_false h0) (decide_eq_false h1)).mono ?_
   rintro e w' ⟨rfl,hk,hs⟩
   exact⟨⟨_,rfl⟩,hk,hs⟩
def nextN (sent limit:Int):Int:=if opn sent limit=0 then 0 else sent
def nextS (sent limit:Int):Int:=if opn sent limit=0 then sent else W64 (sent+1)
theorem cnext_runs (b:Nat) (sent limit:Int) (w:World) (h:SendAt w b sent limit):
  Calls Tryz.prog 185 #[.pointer (some ⟨b,0,none⟩)] w fun e w'=>(∃r,e= .returned (.tuple #[.int .u64 (nextN sent limit), .bool r]))∧Keeps (fun k=>k=b) w w'∧SendAt w' b (nextS sent limit) limit:=by
 unfold nextN nextS
 by_cases h0:opn sent limit=0
 ·rw[if_pos h0,if_pos h0]
  refine(cnext_none b sent limit w h (beq_iff_eq.2 h0)).mono ?_
  rintro e w' ⟨rfl,hk⟩
  exact⟨⟨_,rfl⟩,hk.mono (fun _ _ h=>h.elim),h.keeps hk (fun h=>h)⟩
 ·rw[if_neg h0,if_neg h0]
  refine(cnext_some b sent limit w h (beq_eq_false_iff_ne.2 h0)).mono ?_
  rintro e w' ⟨rfl,hk,hs⟩
  exact⟨⟨_,rfl⟩,hk,hs⟩
set_option maxHeartbeats 400000 in
theorem cnew_runs (sent room:Int) (w:World) (h0:sent < 4611686018427387904) (h1:1≤room) (h2:room≤8):
  Calls Tryz.prog 82 #[.int .u64 sent, .int .i64 room] w fun e w'=>e= .returned (.pointer (some ⟨w.heap.size,0,none⟩))∧w'=w.alloc (.cells #[.int .u64 sent, .int .u64 (W64 (sent+room))] 242):=by
 go_enter Tryz.func82,Tryz.ntmps82
 go_wp2
 go_ret
 exact⟨rfl,rfl⟩
end Go.Proofs.YtebnflpanfmicaaGreatDoor
namespace Go.Proofs.YtebnflpanfmicaaGreatDoor
open Go.RowKit
def RecvAt (w:World) (b:Nat) (next held room:Int):Prop:=w.heap[b]? =some (.cells #[.int .u64 next, .int .i64 held, .int .i64 room] 244 (0,0))
theorem RecvAt.keeps {w w':World} {F:Nat→Prop} {b:Nat} {next held room:Int} (h:RecvAt w b next held room) (hk:Keeps F w w') (hF:¬F b):RecvAt w' b next held room:=blk_keeps hk h hF
theorem RecvAt.next {w:World} {b:Nat} {next held room:Int} (h:RecvAt w b next held room):w.cell? ⟨b,0,none⟩=some (.int .u64 next):=by rw[blk_cell h];rfl
theorem RecvAt.held {w:World} {b:Nat} {next held room:Int} (h:RecvAt w b next held room):w.cell? ⟨b,1,none⟩=some (.int .i64 held):=by rw[blk_cell h];rfl
theorem RecvAt.room {w:World} {b:Nat} {next held room:Int} (h:RecvAt w b next held room):w.cell? ⟨b,2,none⟩=some (.int .i64 room):=by rw[blk_cell h];rfl
def rfree (held room:Int):Int:=W64 (wrap64 (room - held))
def rlim (next held room:Int):Int:=W64 (next+rfree held room)
def far (next s:Int):Int:=W64 (widen next s - next)
set_option maxHeartbeats 400000 in
theorem rlimit_runs (b:Nat) (next held room:Int) (w:World) (h:RecvAt w b next held room):
  Calls Tryz.prog 110 #[.pointer (some ⟨b,0,none⟩)] w fun e w'=>e= .returned (.int .u64 (rlim next held room))∧Keeps (fun _=>False) w w':=by
 have c0:=h.next
 have c1:=h.held
 have c2:=h.room
 go_enter Tryz.func110,Tryz.ntmps110
 go_wp2
 go_quiet (fail)
 go_wp2
 go_ret
 exact⟨rfl,Keeps.drewN _ _ _⟩
set_option maxHeartbeats 400000 in
theorem held_runs (b:Nat) (next held room:Int) (w:World) (h:RecvAt w b next held room):
  Calls Tryz.prog 112 #[.pointer (some ⟨b,0,none⟩)] w fun e w'=>e= .returned (.int .i64 held)∧w=w':=by
 have c1:=h.held
 go_enter Tryz.func112,Tryz.ntmps112
 go_wp2
 go_ret
 exact⟨rfl,rfl⟩
set_option maxHeartbeats 400000 in
theorem expects_runs (b:Nat) (next held room:Int) (w:World) (h:RecvAt w b next held room):
  Calls Tryz.prog 114 #[.pointer (some ⟨b,0,none⟩)] w fun e w'=>e= .returned (.int .u64 next)∧w=w':=by
 have c0:=h.next
 go_enter Tryz.func114,Tryz.ntmps114
 go_wp2
 go_ret
 exact⟨rfl,rfl⟩
set_option maxHeartbeats 400000 in
theorem ahead_runs (b:Nat) (next held room s:Int) (w:World) (h:RecvAt w b next held room):
  Calls Tryz.prog 169 #[.pointer (some ⟨b,0,none⟩), .int .u16 s] w fun e w'=>
   e= .returned (.tuple #[.int .u64 (widen next s), .int .u64 (far next s), .bool (decide (next≤widen next s))])∧Keeps (fun _=>False) w w':=by
 have c0:=h.next
 go_enter Tryz.func169,Tryz.ntmps169
 go_wp2_with (go_at_call 165;refine(widen_runs _ _ _).mono ?_;rintro e w' ⟨rfl,hw⟩;subst w')
 go_quiet (fail)
 go_wp2
 go_ret3
 exact⟨rfl,Keeps.drewN _ _ _⟩
def hearNo (next held room s:Int):Prop:=widen next s < next∨far next s=0∨rfree held room < far next s
instance (next held room s:Int):Decidable (hearNo next held room s):=by unfold hearNo;infer_instance
def hearR (next held room s:Int):Int:=if hearNo next held room s then next else widen next s
set_option maxHeartbeats 800000 in
theorem rhear_no (b:Nat) (next held room s:Int) (w:World) (h:RecvAt w b next held room) (h0:hearNo next held room s):
  Calls Tryz.prog 121 #[.pointer (some ⟨b,0,none⟩), .int .u16 s] w fun e w'=>e= .returned (.bool false)∧Keeps (fun _=>False) w w':=by
 have c1:=h.held
 have c2:=h.room
 have h':=Lib.hid h
 have hcase:decide (next≤widen next s)=false∨(decide (next≤widen next s)=true∧(far next s == 0)=true)∨(decide (next≤widen next s)=true∧(far next s == 0)=false∧decide (W64 (wrap64 (room - held)) < far next s)=true):=by
  by_cases a:next≤widen next s
  ·by_cases f:far next s=0
   ·exact .inr (.inl ⟨decide_eq_true a,beq_iff_eq.2 f⟩)
   ·refine .inr (.inr ⟨decide_eq_true a,beq_eq_false_iff_ne.2 f,decide_eq_true ?_⟩)
    rcases h0 with h0 | h0 | h0
    ·omega
    ·exact absurd h0 f
    ·exact h0
  ·exact .inl (decide_eq_false a)
 clear h h0
 rcases hcase with h0 | ⟨h0,h1⟩ | ⟨h0,h1,h2⟩
 all_goals
  go_enter Tryz.func121,Tryz.ntmps121
  go_wp2_with (go_at_call 169;refine(ahead_runs _ _ _ _ _ _ h'.out).mono ?_;rintro e w' ⟨rfl,hk⟩;have d1:=hk.cell c1 (fun h=>h);have d2:=hk.cell c2 (fun h=>h))
  go_quiet (fail)
  go_wp2
  go_ret
  exact⟨rfl,hk.trans (Keeps.drewN _ _ _)⟩
set_option maxHeartbeats 800000 in
theorem rhear_yes (b:Nat) (next held room s:Int) (w:World) (h:RecvAt w b next held room) (h0:¬hearNo next held room s):
  Calls Tryz.prog 121 #[.pointer (some ⟨b,0,none⟩), .int .u16 s] w fun e w'=>e= .returned (.bool true)∧Keeps (fun k=>k=b) w w'∧RecvAt w' b (widen next s) held room:=by
 have c0:=h.next
 have c1:=h.held
 have c2:=h.room
 have h':=Lib.hid h
 have q0:decide (next≤widen next s)=true:=decide_eq_true (by unfold hearNo at h0;omega)
 have q1:(far next s == 0)=false:=beq_eq_false_iff_ne.2 (fun e=>h0 (.inr (.inl e)))
 have q2:decide (W64 (wrap64 (room - held)) < far next s)=false:=decide_eq_false (fun e=>h0 (.inr (.inr e)))
 clear h h0
 go_enter Tryz.func121,Tryz.ntmps121
 go_wp2_with (go_at_call 169;refine(ahead_runs _ _ _ _ _ _ h'.out).mono ?_;rintro e w' ⟨rfl,hk⟩;have d0:=hk.cell c0 (fun h=>h);have d1:=hk.cell c1 (fun h=>h);have d2:=hk.cell c2 (fun h=>h);have fz:=blk_frozen (h'.out.keeps hk (fun h=>h)) 0)
 go_quiet (fail)
 go_wp2
 go_ret
 refine⟨rfl,((hk.mono (fun _ _ h=>h.elim)).trans (Keeps.drewN _ _ _)).trans (Keeps.setCell _ _ _ _ rfl), ?_⟩
 unfold RecvAt
 rw[blk_set (b:=b) (h'.out.keeps (hk.trans (Keeps.drewN _ _ _)) (fun h=>h))]
 rfl
theorem rhear_runs (b:Nat) (next held room s:Int) (w:World) (h:RecvAt w b next held room):
  Calls Tryz.prog 121 #[.pointer (some ⟨b,0,none⟩), .int .u16 s] w fun e w'=>(∃r,e= .returned (.bool r))∧Keeps (fun k=>k=b) w w'∧RecvAt w' b (hearR next held room s) held room:=by
 unfold hearR
 by_cases h0:hearNo next held room s
 ·rw[if_pos h0]
  refine(rhear_no b next held room s w h h0).mono ?_
  rintro e w' ⟨rfl,hk⟩
  exact⟨⟨_,rfl⟩,hk.mono (fun _ _ h=>h.elim),h.keeps hk (fun h=>h)⟩
 ·rw[if_neg h0]
  refine(rhear_yes b next held room s w h h0).mono ?_
  rintro e w' ⟨rfl,hk,hs⟩
  exact⟨⟨_,rfl⟩,hk,hs⟩
def comeE (next held room s:Int):Int:=if widen next s < next then 60 else if rfree held room≤far next s then 61 else 0
set_option maxHeartbeats 800000 in
theorem come_no (b:Nat) (next held room s:Int) (w:World) (h:RecvAt w b next held room) (h0:comeE next held room s≠0):
  Calls Tryz.prog 170 #[.pointer (some ⟨b,0,none⟩), .int .u16 s] w fun e w'=>e= .returned (.int .u16 (comeE next held room s))∧Keeps (fun _=>False) w w':=by
 have c1:=h.held
 have c2:=h.room
 have h':=Lib.hid h
 have hcase:(decide (next≤widen next s)=false∧comeE next held room s=60)∨(decide (next≤widen next s)=true∧decide (W64 (wrap64 (room - held))≤far next s)=true∧comeE next held room s=61):=by
  unfold comeE at h0 ⊢
  by_cases a:widen next s < next
  ·exact .inl ⟨decide_eq_false (by omega),by rw[if_pos a]⟩
  ·rw[if_neg a]at h0 ⊢
   by_cases f:rfree held room≤far next s
   ·exact .inr ⟨decide_eq_true (by omega),decide_eq_true f,by rw[if_pos f]⟩
   ·rw[if_neg f]at h0;exact absurd rfl h0
 clear h h0
 rcases hcase with⟨h0,he⟩ | ⟨h0,h1,he⟩
 all_goals
  rw[he]
  clear he
  go_enter Tryz.func170,Tryz.ntmps170
  go_wp2_with (go_at_call 169;refine(ahead_runs _ _ _ _ _ _ h'.out).mono ?_;rintro e w' ⟨rfl,hk⟩;have d1:=hk.cell c1 (fun h=>h);have d2:=hk.cell c2 (fun h=>h))
  try go_quiet (fail)
  try go_wp2
  go_ret
  first
  | exact⟨rfl,hk⟩
  | exact⟨rfl,hk.trans (Keeps.drewN _ _ _)⟩
set_option maxHeartbeats 800000 in
theorem come_yes (b:Nat) (next held room s:Int) (w:World) (h:RecvAt w b next held room) (h0:comeE next held room s=0):
  Calls Tryz.prog 170 #[.pointer (some ⟨b,0,none⟩), .int .u16 s] w fun e w'=>e= .returned (.int .u16 0)∧Keeps (fun k=>k=b) w w'∧RecvAt w' b (W64 (widen next s+1)) (wrap64 (held+1)) room:=by
 have c0:=h.next
 have c1:=h.held
 have c2:=h.room
 have h':=Lib.hid h
 have q0:decide (next≤widen next s)=true:=decide_eq_true (by
  unfold comeE at h0
  by_cases a:widen next s < next
  ·rw[if_pos a]at h0;omega
  ·omega)
 have q2:decide (W64 (wrap64 (room - held))≤far next s)=false:=decide_eq_false (fun e=>by
  unfold comeE at h0
  by_cases a:widen next s < next
  ·rw[if_pos a]at h0;omega
  ·rw[if_neg a,if_pos (show rfree held room≤far next s from e)]at h0;omega)
 clear h h0
 go_enter Tryz.func170,Tryz.ntmps170
 go_wp2_with (go_at_call 169;refine(ahead_runs _ _ _ _ _ _ h'.out).mono ?_;rintro e w' ⟨rfl,hk⟩;have d0:=hk.cell c0 (fun h=>h);have d1:=hk.cell c1 (fun h=>h);have d2:=hk.cell c2 (fun h=>h);have fz:=blk_frozen (h'.out.keeps hk (fun h=>h)) 0;have fz1:=blk_frozen (h'.out.keeps hk (fun h=>h)) 1)
 go_quiet (fail)
 go_wp2
 go_ret
 refine⟨rfl,(((hk.mono (fun _ _ h=>h.elim)).trans (Keeps.drewN (fun k=>k=b) _ _)).trans (Keeps.setCell (fun k=>k=b) _ _ _ rfl)).trans (Keeps.setCell (fun k=>k=b) _ _ _ rfl), ?_⟩
 unfold RecvAt
 rw[blk_set (b:=b) (blk_set (b:=b) (h'.out.keeps (hk.trans (Keeps.drewN _ _ _)) (fun h=>h)) _ _)]
 rfl
def freeR (held:Int):Int:=if held=0 then 0 else wrap64 (held - 1)
set_option maxHeartbeats 400000 in
theorem free_runs (b:Nat) (next held room:Int) (w:World) (h:RecvAt w b next held room):
  Calls Tryz.prog 183 #[.pointer (some ⟨b,0,none⟩)] w fun e w'=>(∃r,e= .returned (.bool r))∧Keeps (fun k=>k=b) w w'∧RecvAt w' b next (freeR held) room:=by
 unfold freeR
 have c1:=h.held
 have fz:=blk_frozen h 1
 have h':=Lib.hid h
 clear h
 by_cases h0:held=0
 ·rw[if_pos h0]
  subst h0
  go_enter Tryz.func183,Tryz.ntmps183
  go_wp2
  go_ret
  exact⟨⟨_,rfl⟩,Keeps.refl _ _,h'.out⟩
 ·rw[if_neg h0]
  have h1:(held == 0)=false:=beq_eq_false_iff_ne.2 h0
  go_enter Tryz.func183,Tryz.ntmps183
  go_wp2
  go_ret
  refine⟨⟨_,rfl⟩,Keeps.setCell _ _ _ _ rfl, ?_⟩
  unfold RecvAt
  rw[blk_set (b:=b) h'.out]
  rfl
set_option maxHeartbeats 400000 in
theorem bnew_runs (next room:Int) (w:World) (h0:next < 4611686018427387904) (h1:1≤room) (h2:room≤8):
  Calls Tryz.prog 83 #[.int .u64 next, .int .i64 room] w fun e w'=>e= .returned (.pointer (some ⟨w.heap.size,0,none⟩))∧w'=w.alloc (.cells #[.int .u64 next, .int .i64 0, .int .i64 room] 244):=by
 go_enter Tryz.func83,Tryz.ntmps83
 go_wp2
 go_ret
 exact⟨rfl,rfl⟩
end Go.Proofs.YtebnflpanfmicaaGreatDoor
