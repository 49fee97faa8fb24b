/-
  Part 11 of the proof: TopClone, TopRingR, IslipPure.
-/
import Derived.Test.YtebnflpanfmicaaGreatDoorPkAH
import Derived.Deep.QuietTactic
import Derived.BigQuiet
import Derived.Test.YtebnflpanfmicaaGreatDoorPkAA
set_option linter.unusedVariables false
set_option linter.unusedSimpArgs false
set_option linter.unusedSectionVars false
namespace Go.Proofs.YtebnflpanfmicaaGreatDoor
open Go.RowKit
theorem cloneI_nil (w:World):Calls Tryz.prog 77 #[.slice none 0 0] w fun e w'=>e= .returned (.slice none 0 0)∧w=w':=by
 have hn:=Lib.run_eql_slice_nil (P:=Tryz.prog) w 35 3 none 0 0 0 0 Tryz.underlying35
 go_enter Tryz.func77,Tryz.ntmps77
 go_wp2
 go_ret
 exact⟨rfl,rfl⟩
theorem info_cloneI:(Tryz.prog.info? 3).map (fun i=>(i.zero,i.size,i.bytes))=some (some (.int .i64 0),1,8):=by kernel_rfl
set_option maxHeartbeats 1000000 in
theorem cloneI_some (a:Addr) (n cap:Nat) (cs:List Value) (w:World) (hQ:QS w 3 1 (.slice (some a) n cap) n cs) (h1:∀u∈cs,u.oneCell'=true) (hn:n≤1000000000):
  Calls Tryz.prog 77 #[.slice (some a) n cap] w fun e w'=>∃A c,e= .returned (.slice A n c)∧QS w' 3 1 (.slice A n c) n cs∧Keeps (fun _=>False) w w'∧(∀k,(Value.slice A n c).ownBlock=some k→w.heap.size≤k):=by
 have hnn:=Lib.run_eql_slice_nil (P:=Tryz.prog) w 35 3 (some a) n cap 0 0 Tryz.underlying35
 have h0:QS (w.alloc (.cells #[] 3)) 3 1 (.slice (some ⟨w.heap.size,0,none⟩) 0 0) 0 []:=⟨rfl, .inr ⟨_,0,0, #[],rfl,blk_new w _,Nat.le_refl _,Nat.zero_le _,by simp,fun j hj=>absurd hj (Nat.not_lt_zero _)⟩⟩
 have hS:=(hQ.alloc (.cells #[] 3)).src Tryz.underlying35 h1
 have hbnd:(0+n)*8≤140737488355328:=by omega
 have h32:0 < 8:=by decide
 go_enter Tryz.func77,Tryz.ntmps77
 go_wp2_with (at_builtin;refine wpList_append_QS rfl (.tmp 5) (.tmp 6) 35 35 rfl 3 _ 1 8 Tryz.underlying35 info_cloneI rfl _ 0 [] rfl h0 _ n cs rfl hS h32 hbnd ?_;intro A c w1 hq1 hg1 hb1)
 have hg2:(w.alloc (.cells #[] 3)).grownBy w1 (some w.heap.size):=hg1
 go_ret
 refine⟨A,c,rfl,by simpa using hq1,⟨hg2.os,hg2.tape,hg2.output,Nat.le_trans (by simp) hg2.size,fun i hi _=>(hg2.block i (by simp;omega) (fun e=>by injection e with e;omega)).trans (Below.heap_alloc _ _ _ hi)⟩,fun k hk=> ?_⟩
 rw[Nat.zero_add]at hb1
 rcases hb1 with h | ⟨b,h,h'⟩
 ·have h2:(Value.slice A n c).ownBlock=some w.heap.size:=h
  rw[hk]at h2;injection h2 with h2;omega
 ·rw[hk]at h;injection h with h;simp at h';omega
theorem cloneI_runs (n:Nat) (v:Value) (cs:List Value) (w:World) (hQ:QS w 3 1 v n cs) (h1:∀u∈cs,u.oneCell'=true) (hn:n≤1000000000):
  Calls Tryz.prog 77 #[v] w fun e w'=>∃A c,e= .returned (.slice A n c)∧QS w' 3 1 (.slice A n c) n cs∧Keeps (fun _=>False) w w'∧(∀k,(Value.slice A n c).ownBlock=some k→w.heap.size≤k):=by
 rcases hQ.2 with⟨rfl,rfl⟩ | ⟨g,off,cap,cur,rfl,_⟩
 ·refine(cloneI_nil w).mono ?_
  rintro e w' ⟨rfl,rfl⟩
  exact⟨none,0,rfl,hQ,Keeps.refl _ _,fun _ h=>by cases h⟩
 ·exact cloneI_some _ n cap cs w hQ h1 hn
theorem cloneE_nil (w:World):Calls Tryz.prog 76 #[.slice none 0 0] w fun e w'=>e= .returned (.slice none 0 0)∧w=w':=by
 have hn:=Lib.run_eql_slice_nil (P:=Tryz.prog) w 34 149 none 0 0 0 0 Tryz.underlying34
 go_enter Tryz.func76,Tryz.ntmps76
 go_wp2
 go_ret
 exact⟨rfl,rfl⟩
theorem info_cloneE:(Tryz.prog.info? 149).map (fun i=>(i.zero,i.size,i.bytes))=some (some (.agg #[.int .i64 0, .int .i64 0]),2,16):=by kernel_rfl
set_option maxHeartbeats 1000000 in
theorem cloneE_some (a:Addr) (n cap:Nat) (cs:List Value) (w:World) (hQ:QS w 149 2 (.slice (some a) n cap) n cs) (h1:∀u∈cs,u.oneCell'=true) (hn:n≤1000000000):
  Calls Tryz.prog 76 #[.slice (some a) n cap] w fun e w'=>∃A c,e= .returned (.slice A n c)∧QS w' 149 2 (.slice A n c) n cs∧Keeps (fun _=>False) w w'∧(∀k,(Value.slice A n c).ownBlock=some k→w.heap.size≤k):=by
 have hnn:=Lib.run_eql_slice_nil (P:=Tryz.prog) w 34 149 (some a) n cap 0 0 Tryz.underlying34
 have h0:QS (w.alloc (.cells #[] 149)) 149 2 (.slice (some ⟨w.heap.size,0,none⟩) 0 0) 0 []:=⟨rfl, .inr ⟨_,0,0, #[],rfl,blk_new w _,Nat.le_refl _,Nat.zero_le _,by simp,fun j hj=>absurd hj (Nat.not_lt_zero _)⟩⟩
 have hS:=(hQ.alloc (.cells #[] 149)).src Tryz.underlying34 h1
 have hbnd:(0+n)*16≤140737488355328:=by omega
 have h32:0 < 16:=by decide
 go_enter Tryz.func76,Tryz.ntmps76
 go_wp2_with (at_builtin;refine wpList_append_QS rfl (.tmp 5) (.tmp 6) 34 34 rfl 149 _ 2 16 Tryz.underlying34 info_cloneE rfl _ 0 [] rfl h0 _ n cs rfl hS h32 hbnd ?_;intro A c w1 hq1 hg1 hb1)
 have hg2:(w.alloc (.cells #[] 149)).grownBy w1 (some w.heap.size):=hg1
 go_ret
 refine⟨A,c,rfl,by simpa using hq1,⟨hg2.os,hg2.tape,hg2.output,Nat.le_trans (by simp) hg2.size,fun i hi _=>(hg2.block i (by simp;omega) (fun e=>by injection e with e;omega)).trans (Below.heap_alloc _ _ _ hi)⟩,fun k hk=> ?_⟩
 rw[Nat.zero_add]at hb1
 rcases hb1 with h | ⟨b,h,h'⟩
 ·have h2:(Value.slice A n c).ownBlock=some w.heap.size:=h
  rw[hk]at h2;injection h2 with h2;omega
 ·rw[hk]at h;injection h with h;simp at h';omega
theorem cloneE_runs (n:Nat) (v:Value) (cs:List Value) (w:World) (hQ:QS w 149 2 v n cs) (h1:∀u∈cs,u.oneCell'=true) (hn:n≤1000000000):
  Calls Tryz.prog 76 #[v] w fun e w'=>∃A c,e= .returned (.slice A n c)∧QS w' 149 2 (.slice A n c) n cs∧Keeps (fun _=>False) w w'∧(∀k,(Value.slice A n c).ownBlock=some k→w.heap.size≤k):=by
 rcases hQ.2 with⟨rfl,rfl⟩ | ⟨g,off,cap,cur,rfl,_⟩
 ·refine(cloneE_nil w).mono ?_
  rintro e w' ⟨rfl,rfl⟩
  exact⟨none,0,rfl,hQ,Keeps.refl _ _,fun _ h=>by cases h⟩
 ·exact cloneE_some _ n cap cs w hQ h1 hn
theorem cloneR_nil (w:World):Calls Tryz.prog 78 #[.slice none 0 0] w fun e w'=>e= .returned (.slice none 0 0)∧w=w':=by
 have hn:=Lib.run_eql_slice_nil (P:=Tryz.prog) w 36 35 none 0 0 0 0 Tryz.underlying36
 go_enter Tryz.func78,Tryz.ntmps78
 go_wp2
 go_ret
 exact⟨rfl,rfl⟩
theorem info_cloneR:(Tryz.prog.info? 35).map (fun i=>(i.zero,i.size,i.bytes))=some (some (.slice none 0 0),1,24):=by kernel_rfl
set_option maxHeartbeats 1000000 in
theorem cloneR_some (a:Addr) (n cap:Nat) (cs:List Value) (w:World) (hQ:QS w 35 1 (.slice (some a) n cap) n cs) (h1:∀u∈cs,u.oneCell'=true) (hn:n≤1000000000):
  Calls Tryz.prog 78 #[.slice (some a) n cap] w fun e w'=>∃A c,e= .returned (.slice A n c)∧QS w' 35 1 (.slice A n c) n cs∧Keeps (fun _=>False) w w'∧(∀k,(Value.slice A n c).ownBlock=some k→w.heap.size≤k):=by
 have hnn:=Lib.run_eql_slice_nil (P:=Tryz.prog) w 36 35 (some a) n cap 0 0 Tryz.underlying36
 have h0:QS (w.alloc (.cells #[] 35)) 35 1 (.slice (some ⟨w.heap.size,0,none⟩) 0 0) 0 []:=⟨rfl, .inr ⟨_,0,0, #[],rfl,blk_new w _,Nat.le_refl _,Nat.zero_le _,by simp,fun j hj=>absurd hj (Nat.not_lt_zero _)⟩⟩
 have hS:=(hQ.alloc (.cells #[] 35)).src Tryz.underlying36 h1
 have hbnd:(0+n)*24≤140737488355328:=by omega
 have h32:0 < 24:=by decide
 go_enter Tryz.func78,Tryz.ntmps78
 go_wp2_with (at_builtin;refine wpList_append_QS rfl (.tmp 5) (.tmp 6) 36 36 rfl 35 _ 1 24 Tryz.underlying36 info_cloneR rfl _ 0 [] rfl h0 _ n cs rfl hS h32 hbnd ?_;intro A c w1 hq1 hg1 hb1)
 have hg2:(w.alloc (.cells #[] 35)).grownBy w1 (some w.heap.size):=hg1
 go_ret
 refine⟨A,c,rfl,by simpa using hq1,⟨hg2.os,hg2.tape,hg2.output,Nat.le_trans (by simp) hg2.size,fun i hi _=>(hg2.block i (by simp;omega) (fun e=>by injection e with e;omega)).trans (Below.heap_alloc _ _ _ hi)⟩,fun k hk=> ?_⟩
 rw[Nat.zero_add]at hb1
 rcases hb1 with h | ⟨b,h,h'⟩
 ·have h2:(Value.slice A n c).ownBlock=some w.heap.size:=h
  rw[hk]at h2;injection h2 with h2;omega
 ·rw[hk]at h;injection h with h;simp at h';omega
theorem cloneR_runs (n:Nat) (v:Value) (cs:List Value) (w:World) (hQ:QS w 35 1 v n cs) (h1:∀u∈cs,u.oneCell'=true) (hn:n≤1000000000):
  Calls Tryz.prog 78 #[v] w fun e w'=>∃A c,e= .returned (.slice A n c)∧QS w' 35 1 (.slice A n c) n cs∧Keeps (fun _=>False) w w'∧(∀k,(Value.slice A n c).ownBlock=some k→w.heap.size≤k):=by
 rcases hQ.2 with⟨rfl,rfl⟩ | ⟨g,off,cap,cur,rfl,_⟩
 ·refine(cloneR_nil w).mono ?_
  rintro e w' ⟨rfl,rfl⟩
  exact⟨none,0,rfl,hQ,Keeps.refl _ _,fun _ h=>by cases h⟩
 ·exact cloneR_some _ n cap cs w hQ h1 hn
theorem cloneH_nil (w:World):Calls Tryz.prog 60 #[.slice none 0 0] w fun e w'=>e= .returned (.slice none 0 0)∧w=w':=by
 have hn:=Lib.run_eql_slice_nil (P:=Tryz.prog) w 69 95 none 0 0 0 0 Tryz.underlying69
 go_enter Tryz.func60,Tryz.ntmps60
 go_wp2
 go_ret
 exact⟨rfl,rfl⟩
theorem info_cloneH:(Tryz.prog.info? 95).map (fun i=>(i.zero,i.size,i.bytes))=some (some (.agg #[.int .i64 0, .int .i64 0]),2,16):=by kernel_rfl
set_option maxHeartbeats 1000000 in
theorem cloneH_some (a:Addr) (n cap:Nat) (cs:List Value) (w:World) (hQ:QS w 95 2 (.slice (some a) n cap) n cs) (h1:∀u∈cs,u.oneCell'=true) (hn:n≤1000000000):
  Calls Tryz.prog 60 #[.slice (some a) n cap] w fun e w'=>∃A c,e= .returned (.slice A n c)∧QS w' 95 2 (.slice A n c) n cs∧Keeps (fun _=>False) w w'∧(∀k,(Value.slice A n c).ownBlock=some k→w.heap.size≤k):=by
 have hnn:=Lib.run_eql_slice_nil (P:=Tryz.prog) w 69 95 (some a) n cap 0 0 Tryz.underlying69
 have h0:QS (w.alloc (.cells #[] 95)) 95 2 (.slice (some ⟨w.heap.size,0,none⟩) 0 0) 0 []:=⟨rfl, .inr ⟨_,0,0, #[],rfl,blk_new w _,Nat.le_refl _,Nat.zero_le _,by simp,fun j hj=>absurd hj (Nat.not_lt_zero _)⟩⟩
 have hS:=(hQ.alloc (.cells #[] 95)).src Tryz.underlying69 h1
 have hbnd:(0+n)*16≤140737488355328:=by omega
 have h32:0 < 16:=by decide
 go_enter Tryz.func60,Tryz.ntmps60
 go_wp2_with (at_builtin;refine wpList_append_QS rfl (.tmp 5) (.tmp 6) 69 69 rfl 95 _ 2 16 Tryz.underlying69 info_cloneH rfl _ 0 [] rfl h0 _ n cs rfl hS h32 hbnd ?_;intro A c w1 hq1 hg1 hb1)
 have hg2:(w.alloc (.cells #[] 95)).grownBy w1 (some w.heap.size):=hg1
 go_ret
 refine⟨A,c,rfl,by simpa using hq1,⟨hg2.os,hg2.tape,hg2.output,Nat.le_trans (by simp) hg2.size,fun i hi _=>(hg2.block i (by simp;omega) (fun e=>by injection e with e;omega)).trans (Below.heap_alloc _ _ _ hi)⟩,fun k hk=> ?_⟩
 rw[Nat.zero_add]at hb1
 rcases hb1 with h | ⟨b,h,h'⟩
 ·have h2:(Value.slice A n c).ownBlock=some w.heap.size:=h
  rw[hk]at h2;injection h2 with h2;omega
 ·rw[hk]at h;injection h with h;simp at h';omega
theorem cloneH_runs (n:Nat) (v:Value) (cs:List Value) (w:World) (hQ:QS w 95 2 v n cs) (h1:∀u∈cs,u.oneCell'=true) (hn:n≤1000000000):
  Calls Tryz.prog 60 #[v] w fun e w'=>∃A c,e= .returned (.slice A n c)∧QS w' 95 2 (.slice A n c) n cs∧Keeps (fun _=>False) w w'∧(∀k,(Value.slice A n c).ownBlock=some k→w.heap.size≤k):=by
 rcases hQ.2 with⟨rfl,rfl⟩ | ⟨g,off,cap,cur,rfl,_⟩
 ·refine(cloneH_nil w).mono ?_
  rintro e w' ⟨rfl,rfl⟩
  exact⟨none,0,rfl,hQ,Keeps.refl _ _,fun _ h=>by cases h⟩
 ·exact cloneH_some _ n cap cs w hQ h1 hn
end Go.Proofs.YtebnflpanfmicaaGreatDoor
namespace Go.Proofs.YtebnflpanfmicaaGreatDoor
open Go.RowKit
abbrev ringsBox (pb mb:Nat) (ports lanes:Int):Obj:= .cells #[.pointer (some ⟨pb,0,none⟩), .map (some mb), .int .i64 ports, .int .i64 lanes] 229
abbrev IQ (w:World) (v:Value) (l:List Nat):Prop:=QS w 3 1 v l.length (l.map encN)
structure RingsR (w:World) (S:Nat→Prop) (b pb mb:Nat) (ports lanes:Int) (SP:Nat→Prop) (st:PoolS) (L:List (Ent Way)) (c:Nat) (sl:Way→List Nat):Prop where
 box:w.heap[b]? =some (ringsBox pb mb ports lanes)
 map:w.heap[mb]? =some (entsObj Way.val L c)
 pool:PoolV w SP pb st
 keys:(L.map (·.key)).Nodup
 borns:(L.map (·.born)).Nodup
 clock:∀e∈L,e.born < c
 rows:∀e∈L,IQ w e.val (sl e.key)
 gone:∀k,(∀e∈L,e.key≠k)→sl k=[]
 apart:∀e∈L,∀e'∈L,e.key≠e'.key→∀g,e.val.ownBlock=some g→e'.val.ownBlock≠some g
 own:∀e∈L,∀g,e.val.ownBlock=some g→S g∧g≠b∧g≠mb∧¬SP g
 sb:S b
 smb:S mb
 bm:b≠mb
 pb_:¬SP b
 pmb:¬SP mb
 sp:∀k,SP k→S k
 lt:∀k,S k→k < w.heap.size
def RingsV (w:World) (S:Nat→Prop) (b:Nat) (ports lanes:Int) (free:Nat) (Q:Way→List Pkt):Prop:=
 ∃pb mb SP st L c sl F,RingsR w S b pb mb ports lanes SP st L c sl∧RingP st Q sl F∧F.length=free∧st.slots.length≤200
section
variable {w w':World} {S SP F:Nat→Prop} {b pb mb:Nat} {ports lanes:Int} {st:PoolS} {L:List (Ent Way)} {c:Nat} {sl:Way→List Nat}
theorem RingsR.keeps (h:RingsR w S b pb mb ports lanes SP st L c sl) (hk:Keeps F w w') (hF:∀k,S k→¬F k):RingsR w' S b pb mb ports lanes SP st L c sl:=
 ⟨blk_keeps hk h.box (hF _ h.sb),blk_keeps hk h.map (hF _ h.smb),h.pool.keeps hk (fun k hk'=>hF k (h.sp k hk')),h.keys,h.borns,h.clock,fun e he=>(h.rows e he).keeps hk (fun g hg=>hF g (h.own e he g hg).1),h.gone,h.apart,h.own,h.sb,h.smb,h.bm,h.pb_,h.pmb,h.sp,fun k hk'=>Nat.lt_of_lt_of_le (h.lt k hk') hk.size⟩
theorem RingsV.keeps {free:Nat} {Q:Way→List Pkt} (h:RingsV w S b ports lanes free Q) (hk:Keeps F w w') (hF:∀k,S k→¬F k):RingsV w' S b ports lanes free Q:=by
 obtain⟨pb,mb,SP,st,L,c,sl,FF,h1,h2⟩:=h
 exact⟨pb,mb,SP,st,L,c,sl,FF,h1.keeps hk hF,h2⟩
theorem RingsV.lt {free:Nat} {Q:Way→List Pkt} (h:RingsV w S b ports lanes free Q):∀k,S k→k < w.heap.size:=by
 obtain⟨pb,mb,SP,st,L,c,sl,FF,h1,h2⟩:=h
 exact h1.lt
theorem RingsV.wider {S':Nat→Prop} {free:Nat} {Q:Way→List Pkt} (h:RingsV w S b ports lanes free Q) (hS:∀k,S k→S' k) (hlt:∀k,S' k→k < w.heap.size):RingsV w S' b ports lanes free Q:=by
 obtain⟨pb,mb,SP,st,L,c,sl,FF,h,h2⟩:=h
 exact⟨pb,mb,SP,st,L,c,sl,FF,⟨h.box,h.map,h.pool,h.keys,h.borns,h.clock,h.rows,h.gone,h.apart,fun e he g hg=>⟨hS _ (h.own e he g hg).1,(h.own e he g hg).2⟩,hS _ h.sb,hS _ h.smb,h.bm,h.pb_,h.pmb,fun k hk=>hS _ (h.sp k hk),hlt⟩,h2⟩
theorem RingsR.cells (h:RingsR w S b pb mb ports lanes SP st L c sl):w.cell? ⟨b,0,none⟩=some (.pointer (some ⟨pb,0,none⟩))∧w.cell? ⟨b,1,none⟩=some (.map (some mb))∧w.cell? ⟨b,2,none⟩=some (.int .i64 ports)∧w.cell? ⟨b,3,none⟩=some (.int .i64 lanes):=by
 refine⟨?_, ?_, ?_, ?_⟩ <;>(rw[blk_cell h.box];rfl)
def lookV (L:List (Ent Way)) (k:Way):Value:=((findE k L 0).map (·.2)).getD (.slice none 0 0)
theorem look_case (L:List (Ent Way)) (k:Way):((∀e∈L,e.key≠k)∧lookV L k= .slice none 0 0∧findE k L 0=none)∨∃i e,findE k L 0=some (i,e.val)∧L[i]? =some e∧e∈L∧e.key=k∧lookV L k=e.val:=by
 unfold lookV
 cases h:findE k L 0 with
 | none=>exact .inl ⟨findE_none h,rfl,rfl⟩
 | some p=>
   obtain⟨i,v⟩:=p
   obtain⟨_,e,h1,h2,h3⟩:=findE_some h
   subst h3
   rw[Nat.sub_zero]at h1
   exact .inr ⟨i,e,rfl,h1,List.mem_of_getElem? h1,h2,rfl⟩
theorem RingsR.look (h:RingsR w S b pb mb ports lanes SP st L c sl) (k:Way):IQ w (lookV L k) (sl k):=by
 rcases look_case L k with⟨h1,h2,_⟩ | ⟨i,e,_,_,h1,h2,h3⟩
 ·rw[h2,h.gone k h1];exact QS.nil _ _ _
 ·rw[h3,←h2];exact h.rows e h1
theorem RingsR.run_look (h:w.heap[mb]? =some (entsObj Way.val L c)) (k:Way):
  (Instr.lookup 227 (.map (some mb)) (.agg #[.int .i64 k.inp, .int .i64 k.out, .int .i64 k.lane]) false).run Tryz.prog w= .ok (lookV L k) w:=
 run_lookup_at way_ok Tryz.underlying227 zero_ints w mb L c k h
end
set_option maxRecDepth 100000 in
set_option maxHeartbeats 1000000 in
theorem rlen_runs (b:Nat) (S:Nat→Prop) (ports lanes:Int) (free:Nat) (Q:Way→List Pkt) (w:World) (h:RingsV w S b ports lanes free Q) (k:Way):
  Calls Tryz.prog 69 #[.pointer (some ⟨b,0,none⟩), .int .i64 k.inp, .int .i64 k.out, .int .i64 k.lane] w fun e w'=>e= .returned (.int .i64 (Q k).length)∧w=w':=by
 obtain⟨pb,mb,SP,st,L,c,sl,F,h,h2,_,h4⟩:=h
 obtain⟨c0,c1,c2,c3⟩:=h.cells
 have hl:=RingsR.run_look h.map k
 have hq:=h.look k
 obtain⟨A,cap,hv,hc1,hc2⟩:=hq.shape
 rw[hv]at hl
 rw[←h2.len k]
 have hm:(sl k).length≤9223372036854775807:=by unfold maxLen at hc2;omega
 generalize (sl k).length=n at*
 clear hv hq h h2
 go_enter Tryz.func69,Tryz.ntmps69
 go_wp2_with fail
 go_ret
 exact⟨rfl,rfl⟩
set_option maxHeartbeats 1000000 in
theorem right_runs (b:Nat) (ports lanes:Int) (w:World) (k:Way) (h2:w.cell? ⟨b,2,none⟩=some (.int .i64 ports)) (h3:w.cell? ⟨b,3,none⟩=some (.int .i64 lanes))
  (hi:0≤k.inp∧k.inp < ports) (ho:0≤k.out∧k.out < ports) (hl:0≤k.lane∧k.lane < lanes):
  Calls Tryz.prog 208 #[.pointer (some ⟨b,0,none⟩),k.val] w fun e w'=>e= .returned (.bool true)∧Keeps (fun _=>False) w w':=by
 obtain⟨i,o,l⟩:=k
 obtain⟨i1,i2⟩:=hi
 obtain⟨o1,o2⟩:=ho
 obtain⟨l1,l2⟩:=hl
 simp only at i1 i2 o1 o2 l1 l2
 have hb:=World.block_lt_of_cell? w _ h2
 simp only at hb
 have e1:w.heap.size≠b:=by omega
 obtain⟨m,hm,hm0⟩:∃m,(if l < (if o < i then o else i)then l else(if o < i then o else i))=m∧0≤m:=⟨_,rfl,by split <;>(try split) <;>omega⟩
 obtain⟨M,hM,hM0⟩:∃M,(if i < o then o else i)=M∧M < ports:=⟨_,rfl,by split <;>omega⟩
 have d1:decide (0≤m)=true:=decide_eq_true hm0
 have d2:decide (M < ports)=true:=decide_eq_true hM0
 have d3:decide (l < lanes)=true:=decide_eq_true l2
 go_enter Tryz.func208,Tryz.ntmps208
 go_wp2_with fail
 go_quiet (fail)
 go_wp2_with fail
 go_ret
 exact⟨rfl,(Keeps.alloc _ _ _).trans (Keeps.drewN _ _ _)⟩
theorem PktAt.free {w:World} {b:Nat} {x:Pkt} (h:PktAt w b x):w.frozen? ⟨b,0,none⟩=false∧w.frozen? ⟨b,1,none⟩=false∧w.frozen? ⟨b,2,none⟩=false∧w.frozen? ⟨b,3,none⟩=false:=
 ⟨blk_frozen h 0,blk_frozen h 1,blk_frozen h 2,blk_frozen h 3⟩
def set4 (w:World) (b:Nat) (x:Pkt):World:=(((w.setCell ⟨b,0,none⟩ (.int .i64 x.src)).setCell ⟨b,1,none⟩ (.int .i64 x.dst)).setCell ⟨b,2,none⟩ (.int .i64 x.lane)).setCell ⟨b,3,none⟩ (.int .u32 x.body)
theorem set4_box {w:World} {b:Nat} {y:Pkt} (h:PktAt w b y) (x:Pkt):PktAt (set4 w b x) b x:=by
 unfold PktAt set4
 rw[blk_set (blk_set (blk_set (blk_set h _ _) _ _) _ _) _ _]
 rfl
theorem set4_keeps (w:World) (b:Nat) (x:Pkt):Keeps (fun k=>k=b) w (set4 w b x):=
 (((Keeps.setCell (fun k=>k=b) _ _ _ rfl).trans (Keeps.setCell (fun k=>k=b) _ _ _ rfl)).trans (Keeps.setCell (fun k=>k=b) _ _ _ rfl)).trans (Keeps.setCell (fun k=>k=b) _ _ _ rfl)
set_option maxRecDepth 100000 in
set_option maxHeartbeats 1000000 in
theorem head_no (b pb mb:Nat) (ports lanes:Int) (k:Way) (A:Option Addr) (cap:Nat) (w:World) (c1:w.cell? ⟨b,1,none⟩=some (.map (some mb)))
  (hl:∀W,Keeps (fun _=>False) w W→(Instr.lookup 227 (.map (some mb)) (.agg #[.int .i64 k.inp, .int .i64 k.out, .int .i64 k.lane]) false).run Tryz.prog W= .ok (.slice A 0 cap) W):
  Calls Tryz.prog 216 #[.pointer (some ⟨b,0,none⟩), .int .i64 k.inp, .int .i64 k.out, .int .i64 k.lane] w fun e w'=>e= .returned (.tuple #[Pkt.zero.val, .bool false])∧Keeps (fun _=>False) w w':=by
 have hk:=Keeps.alloc (fun _=>False) w (.cells Pkt.zero.cells.toArray 31)
 have hl1:=hl _ hk
 have hb:=World.block_lt_of_cell? w _ c1
 simp only at hb
 have e1:w.heap.size≠b:=by omega
 clear hl
 go_enter Tryz.func216,Tryz.ntmps216
 go_wp2_with fail
 exact bodyPost_ret (v:= .tuple #[Pkt.zero.val, .bool false]) (by simp[results,Tryz.results216,go_sem]) rfl ⟨rfl,hk⟩
set_option maxRecDepth 100000 in
set_option maxHeartbeats 4000000 in
theorem head_yes (b pb mb:Nat) (ports lanes:Int) (k:Way) (g off n cap:Nat) (j:Nat) (x:Pkt) (w:World) (c0:w.cell? ⟨b,0,none⟩=some (.pointer (some ⟨pb,0,none⟩))) (c1:w.cell? ⟨b,1,none⟩=some (.map (some mb)))
  (hl:∀W,Keeps (fun _=>False) w W→(Instr.lookup 227 (.map (some mb)) (.agg #[.int .i64 k.inp, .int .i64 k.out, .int .i64 k.lane]) false).run Tryz.prog W= .ok (.slice (some ⟨g,off,none⟩) (n+1) cap) W)
  (hc:w.cell? ⟨g,off,none⟩=some (encN j)) (hn:n+1≤200)
  (hg:∀W,Keeps (fun _=>False) w W→Calls Tryz.prog 243 #[.pointer (some ⟨pb,0,none⟩), .int .i64 j] W fun e w'=>e= .returned (.tuple #[x.val, .bool true])∧Keeps (fun _=>False) W w'):
  Calls Tryz.prog 216 #[.pointer (some ⟨b,0,none⟩), .int .i64 k.inp, .int .i64 k.out, .int .i64 k.lane] w fun e w'=>e= .returned (.tuple #[x.val, .bool true])∧Keeps (fun _=>False) w w':=by
 have hk:=Keeps.alloc (fun _=>False) w (.cells Pkt.zero.cells.toArray 31)
 have hbx:=blk_new w (.cells Pkt.zero.cells.toArray 31)
 have hl1:=hl _ hk
 have hb:=World.block_lt_of_cell? w _ c1
 have hgb:=World.block_lt_of_cell? w _ hc
 simp only at hb hgb
 have e1:w.heap.size≠b:=by omega
 have e2:w.heap.size≠g:=by omega
 have hn0:((n:Int)+1 == 0)=false:=by rw[beq_eq_false_iff_ne];omega
 have hn1:(0:Int) < (n:Int)+1:=by omega
 have hn2:0 < n+1:=by omega
 obtain⟨x1,x2,x3,x4⟩:=x
 clear hl
 go_enter Tryz.func216,Tryz.ntmps216
 go_wp2_with fail
 have d0:=hk.cell c0 (fun h=>h)
 have d1:=hk.cell hc (fun h=>h)
 have HG:=Lib.hid (p:=∀V,Keeps (fun _=>False) (w.alloc (.cells Pkt.zero.cells.toArray 31)) V→Calls Tryz.prog 243 #[.pointer (some ⟨pb,0,none⟩), .int .i64 j] V fun e w'=>e= .returned (.tuple #[.agg #[.int .i64 x1, .int .i64 x2, .int .i64 x3, .int .u32 x4], .bool true])∧Keeps (fun _=>False) (w.alloc (.cells Pkt.zero.cells.toArray 31)) w') fun V hV=>(hg V (hk.trans hV)).mono fun e w' h=>⟨h.1,hV.trans h.2⟩
 have HB:=Lib.hid (p:=∀V,Keeps (fun _=>False) (w.alloc (.cells Pkt.zero.cells.toArray 31)) V→PktAt V w.heap.size Pkt.zero) fun V hV=>blk_keeps hV hbx (fun h=>h)
 clear hbx hl1 hg
 generalize w.alloc (.cells Pkt.zero.cells.toArray 31)=X at*
 have HS:=Lib.hid (p:=∀V,Keeps (fun _=>False) X V→V.cell? ⟨b,0,none⟩=some (.pointer (some ⟨pb,0,none⟩))∧V.cell? ⟨g,off,none⟩=some (encN j)) fun V hV=>⟨hV.cell d0 (fun h=>h),hV.cell d1 (fun h=>h)⟩
 have hd:Keeps (fun _=>False) X X.drew:=Keeps.drew _ _
 obtain⟨rb,hrb⟩:∃rb,w.heap.size=rb:=⟨_,rfl⟩
 have HR:=Lib.hid hrb
 rw[hrb]at e1 e2 HB ⊢
 clear hrb c0 c1 hc d0 d1
 go_region_held3 (fun V=>V.cell? ⟨b,0,none⟩=some (.pointer (some ⟨pb,0,none⟩))∧V.cell? ⟨g,off,none⟩=some (encN j))
  (first | exact HS.out _ (by assumption) | go_keep)
  (first | (go_at_call 243;refine(HG.out _ (by assumption)).mono ?_;rintro e V ⟨rfl,hV⟩;have hcs:=PktAt.cells (HB.out V hV);simp only at hcs;obtain⟨b0,b1,b2,b3⟩:=hcs;obtain⟨f0,f1,f2,f3⟩:=PktAt.free (HB.out V hV)))
 have hbx:=set4_box (HB.out V hV) ⟨x1,x2,x3,x4⟩
 have hkx:=set4_keeps V rb ⟨x1,x2,x3,x4⟩
 obtain⟨z0,z1,z2,z3⟩:=PktAt.cells hbx
 unfold set4 at z0 z1 z2 z3 hkx
 clear hbx
 go_wp2_with fail
 exact bodyPost_ret (v:= .tuple #[Pkt.val ⟨x1,x2,x3,x4⟩, .bool true]) (by simp[results,Tryz.results216,go_sem,z0,z1,z2,z3]) rfl ⟨rfl,(hk.trans hV).then hkx (fun i hi e=>by rw[HR.out]at hi;omega)⟩
end Go.Proofs.YtebnflpanfmicaaGreatDoor
namespace Go.Proofs.YtebnflpanfmicaaGreatDoor
def bt (p:Nat→Bool):Nat→Nat
 | 0=>0
 | k+1=>bt p k+if p k=true then 2^k else 0
theorem bt_lt (p:Nat→Bool):∀k,bt p k < 2^k
 | 0=>by simp[bt]
 | k+1=>by
   have:=bt_lt p k
   have e:2^(k+1)=2^k+2^k:=by rw[Nat.pow_succ];omega
   rw[bt,e];split <;>omega
theorem bt_lt16 (p:Nat→Bool) {n:Nat} (h:n≤16):bt p n < 65536:=
 Nat.lt_of_lt_of_le (bt_lt p n) (Nat.pow_le_pow_right (by decide) h)
theorem has_bt (p:Nat→Bool) (i:Nat):∀n,has (bt p n) i=(decide (i < n) && p i)
 | 0=>by simp[bt,has_zero]
 | n+1=>by
   rw[bt]
   by_cases h:p n=true
   ·rw[if_pos h,has_add_pow _ _ _ (bt_lt p n),has_bt p i n]
    by_cases e:i=n
    ·subst e;simp[h]
    ·have:(i < n+1) ↔ i < n:=by omega
     simp[e,this]
   ·rw[if_neg h,Nat.add_zero,has_bt p i n]
    by_cases e:i=n
    ·subst e;simp[h]
    ·have:(i < n+1) ↔ i < n:=by omega
     simp[this]
theorem bt_congr {p q:Nat→Bool}:∀n,(∀i,i < n→p i=q i)→bt p n=bt q n
 | 0,_=>rfl
 | n+1,h=>by rw[bt,bt,bt_congr n (fun i hi=>h i (by omega)),h n (by omega)]
theorem bt_of_has {x:Nat} {p:Nat→Bool} {n:Nat} (hx:x < 65536) (hn:n≤16) (h:∀i,has x i=(decide (i < n) && p i)):x=bt p n:=
 eq_of_has hx (bt_lt16 p hn) (fun i _=>by rw[h,has_bt])
theorem bt_and (p q:Nat→Bool) {n:Nat} (hn:n≤16):bt p n &&& bt q n=bt (fun i=>p i && q i) n:=
 bt_of_has (Nat.lt_of_le_of_lt Nat.and_le_left (bt_lt16 p hn)) hn (fun i=>by
  rw[has_testBit,Nat.testBit_and,←has_testBit,←has_testBit,has_bt,has_bt]
  cases decide (i < n) <;>simp)
theorem colOf_bt (rows:List Nat) (k:Nat):∀j,colOf rows k j=bt (fun i=>has (rows.getD i 0) k) j
 | 0=>rfl
 | j+1=>by rw[colOf,bt,colOf_bt rows k j]
theorem has_pow (i j:Nat):has (2^i) j=decide (j=i):=by
 have:=has_add_pow 0 i j (Nat.two_pow_pos i)
 rwa[Nat.zero_add,has_zero,Bool.false_or]at this
theorem pick_cases (m a n:Nat) (ha:a < n):(pickOf m a n= -1∧∀i,i < n→has m i=false)∨∃k:Nat,pickOf m a n=(k:Int)∧k < n∧has m k=true:=by
 unfold pickOf
 cases h1:first m a n with
 | some i=>exact .inr ⟨i,rfl,(first_lt h1).2.1,(first_lt h1).2.2⟩
 | none=>
   cases h2:first m 0 a with
   | some i=>exact .inr ⟨i,rfl,by have:=(first_lt h2).2.1;omega,(first_lt h2).2.2⟩
   | none=>
     refine .inl ⟨rfl,fun i hi=> ?_⟩
     unfold first at h1 h2
     rw[List.find?_eq_none]at h1 h2
     rcases Nat.lt_or_ge i a with h | h
     ·have:=h2 i (by rw[List.mem_range'_1];omega)
      simpa using this
     ·have:=h1 i (by rw[List.mem_range'_1];omega)
      simpa using this
theorem pickI_nat (m a n:Nat) (ha:a < n) (hn:n≤16):pickI m a n=pickOf m a n:=by
 unfold pickI
 rw[if_pos ⟨by omega,by omega,by omega,by omega⟩,Int.toNat_natCast,Int.toNat_natCast]
structure St where
 m:Nat→Int
 G:Nat→Nat
 A:Nat→Nat
def upd {α:Type} (f:Nat→α) (k:Nat) (v:α):Nat→α:=fun x=>if x=k then v else f x
def insB (m:Nat→Int) (n:Nat):Nat:=bt (fun i=>decide (m i < 0)) n
def freeB (m:Nat→Int) (n k:Nat):Bool:=(List.range n).all fun i=>m i != (k:Int)
def outsB (m:Nat→Int) (n:Nat):Nat:=bt (freeB m n) n
def askB (R:Nat→Nat→Bool) (m:Nat→Int) (n k:Nat):Nat:=bt (fun i=>decide (m i < 0) && R i k) n
def gp (R:Nat→Nat→Bool) (s:St) (n k:Nat):Int:=pickOf (askB R s.m n k) (s.G k) n
def grants (R:Nat→Nat→Bool) (s:St) (n i k:Nat):Bool:=freeB s.m n k && (gp R s n k == (i:Int))
def grB (R:Nat→Nat→Bool) (s:St) (n i j:Nat):Nat:=bt (grants R s n i) j
def acc (R:Nat→Nat→Bool) (s:St) (n i:Nat):Int:=pickOf (grB R s n i n) (s.A i) n
def took (R:Nat→Nat→Bool) (s:St) (n i:Nat):Bool:=decide (s.m i < 0) && decide (0≤acc R s n i)
def mAt (R:Nat→Nat→Bool) (s:St) (n j:Nat) (i:Nat):Int:=if i < j∧took R s n i=true then acc R s n i else s.m i
def gAt (R:Nat→Nat→Bool) (s:St) (n:Nat) (first:Bool):Nat→Nat→Nat
 | 0=>s.G
 | i+1=>if first=true∧took R s n i=true then upd (gAt R s n first i) (acc R s n i).toNat ((i+1) % n)else gAt R s n first i
def aAt (R:Nat→Nat→Bool) (s:St) (n:Nat) (first:Bool):Nat→Nat→Nat
 | 0=>s.A
 | i+1=>if first=true∧took R s n i=true then upd (aAt R s n first i) i (((acc R s n i).toNat+1) % n)else aAt R s n first i
def stAt (R:Nat→Nat→Bool) (s:St) (n:Nat) (first:Bool) (j:Nat):St:=⟨mAt R s n j,gAt R s n first j,aAt R s n first j⟩
def roundP (R:Nat→Nat→Bool) (n:Nat) (first:Bool) (s:St):St:=stAt R s n first n
def roundsP (R:Nat→Nat→Bool) (n:Nat) (s:St):Nat→St
 | 0=>s
 | c+1=>roundP R n (c == 0) (roundsP R n s c)
structure Fit (n:Nat) (s:St):Prop where
 lo:∀i, -1≤s.m i
 hi:∀i,s.m i < n
 g:∀k,k < n→s.G k < n
 a:∀i,i < n→s.A i < n
 one:∀i j,i < n→j < n→0≤s.m i→s.m i=s.m j→i=j
theorem free_iff {m:Nat→Int} {n k:Nat}:freeB m n k=true ↔ ∀i,i < n→m i≠(k:Int):=by
 simp[freeB]
theorem ask_has (R:Nat→Nat→Bool) (m:Nat→Int) (n k i:Nat):has (askB R m n k) i=(decide (i < n) && (decide (m i < 0) && R i k)):=has_bt _ _ _
theorem gr_has (R:Nat→Nat→Bool) (s:St) (n i k j:Nat):has (grB R s n i j) k=(decide (k < j) && (freeB s.m n k && (gp R s n k == (i:Int)))):=has_bt _ _ _
theorem gp_some {R:Nat→Nat→Bool} {s:St} {n k i:Nat} (hG:s.G k < n) (h:gp R s n k=(i:Int)):i < n∧s.m i < 0∧R i k=true:=by
 rcases pick_cases (askB R s.m n k) (s.G k) n hG with⟨e,_⟩ | ⟨j,e,hj,hb⟩
 ·unfold gp at h;rw[e]at h;omega
 ·unfold gp at h
  rw[e]at h
  obtain rfl:j=i:=by omega
  rw[ask_has,Bool.and_eq_true,Bool.and_eq_true,decide_eq_true_eq,decide_eq_true_eq]at hb
  exact hb
theorem acc_cases {R:Nat→Nat→Bool} {s:St} {n i:Nat} (h:Fit n s) (hi:i < n):
  (acc R s n i= -1∧∀k,k < n→freeB s.m n k=true→gp R s n k≠(i:Int))∨
   ∃k:Nat,acc R s n i=(k:Int)∧k < n∧freeB s.m n k=true∧gp R s n k=(i:Int)∧s.m i= -1∧R i k=true:=by
 rcases pick_cases (grB R s n i n) (s.A i) n (h.a i hi)with⟨e,hn⟩ | ⟨k,e,hk,hb⟩
 ·refine .inl ⟨e,fun k hk hf hg=> ?_⟩
  have:=hn k hk
  rw[gr_has,hf,hg]at this
  simp at this
  omega
 ·rw[gr_has,Bool.and_eq_true,Bool.and_eq_true,beq_iff_eq]at hb
  obtain⟨_,hf,hg⟩:=hb
  have:=gp_some (h.g k hk) hg
  have hl:=h.lo i
  exact .inr ⟨k,e,hk,hf,hg,by omega,this.2.2⟩
theorem acc_one {R:Nat→Nat→Bool} {s:St} {n i j:Nat} (h:Fit n s) (hi:i < n) (hj:j < n) (h0:0≤acc R s n i) (e:acc R s n i=acc R s n j):i=j:=by
 rcases acc_cases (R:=R) h hi with⟨e1,_⟩ | ⟨k,e1,_,_,hg,_⟩
 ·omega
 ·rcases acc_cases (R:=R) h hj with⟨e2,_⟩ | ⟨k',e2,_,_,hg',_⟩
  ·omega
  ·obtain rfl:k=k':=by omega
   omega
theorem took_iff {R:Nat→Nat→Bool} {s:St} {n i:Nat} (h:Fit n s) (hi:i < n):took R s n i=true ↔ 0≤acc R s n i:=by
 unfold took
 rw[Bool.and_eq_true,decide_eq_true_eq,decide_eq_true_eq]
 refine⟨fun x=>x.2,fun x=>⟨?_,x⟩⟩
 rcases acc_cases (R:=R) h hi with⟨e,_⟩ | ⟨k,e,_,_,_,hm,_⟩ <;>omega
theorem mAt_no {R:Nat→Nat→Bool} {s:St} {n j:Nat} (ht:took R s n j=false):mAt R s n (j+1)=mAt R s n j:=by
 funext i
 unfold mAt
 by_cases e:i=j
 ·subst e;simp[ht]
 ·have:(i < j+1) ↔ i < j:=by omega
  simp only[this]
theorem mAt_yes {R:Nat→Nat→Bool} {s:St} {n j:Nat} (ht:took R s n j=true):mAt R s n (j+1)=upd (mAt R s n j) j (acc R s n j):=by
 funext i
 unfold mAt upd
 by_cases e:i=j
 ·subst e;simp[ht]
 ·have:(i < j+1) ↔ i < j:=by omega
  simp only[this,e,if_false]
theorem mAt_self {R:Nat→Nat→Bool} {s:St} {n j:Nat}:mAt R s n j j=s.m j:=by unfold mAt;simp
theorem stAt_no {R:Nat→Nat→Bool} {s:St} {n j:Nat} {f:Bool} (ht:took R s n j=false):stAt R s n f (j+1)=stAt R s n f j:=by
 unfold stAt;rw[mAt_no ht,gAt,aAt,if_neg (by simp[ht]),if_neg (by simp[ht])]
theorem aAt_self {R:Nat→Nat→Bool} {s:St} {n:Nat} {f:Bool}:∀j i,j≤i→aAt R s n f j i=s.A i
 | 0,_,_=>rfl
 | j+1,i,h=>by
   rw[aAt]
   split
   ·unfold upd;rw[if_neg (by omega)];exact aAt_self j i (by omega)
   ·exact aAt_self j i (by omega)
theorem ins_yes {m:Nat→Int} {n j:Nat} {v:Int} (h0:0≤v) {x:Nat} (hn:n≤16) (hx:x < 65536) (h:∀i,has x i=(has (insB m n) i && !decide (i=j))):x=insB (upd m j v) n:=
 bt_of_has hx hn (fun i=>by
  rw[h];unfold insB upd;rw[has_bt]
  by_cases e:i=j
  ·subst e;simp;omega
  ·simp[e])
theorem outs_yes {m:Nat→Int} {n j k:Nat} (hm:m j < 0) (hj:j < n) {x:Nat} (hn:n≤16) (hx:x < 65536) (h:∀i,has x i=(has (outsB m n) i && !decide (i=k))):x=outsB (upd m j (k:Int)) n:=
 bt_of_has hx hn (fun i=>by
  rw[h];unfold outsB;rw[has_bt,Bool.and_assoc]
  congr 1
  rw[Bool.eq_iff_iff,Bool.and_eq_true,free_iff,free_iff]
  simp only[Bool.not_eq_true',decide_eq_false_iff_not,upd]
  refine⟨fun⟨h1,h2⟩ x hx=> ?_,fun h1=>⟨fun x hx=> ?_, ?_⟩⟩
  ·by_cases e:x=j
   ·rw[if_pos e];omega
   ·rw[if_neg e];exact h1 x hx
  ·have:=h1 x hx
   by_cases e:x=j
   ·subst e;omega
   ·rwa[if_neg e]at this
  ·have:=h1 j hj
   rw[if_pos rfl]at this
   omega)
theorem fit_upd {n:Nat} {s:St} (h:Fit n s) {j k x y:Nat} (hj:j < n) (hk:k < n) (hx:x < n) (hy:y < n) (hf:freeB s.m n k=true) (f:Bool):
  Fit n ⟨upd s.m j (k:Int),if f=true then upd s.G k x else s.G,if f=true then upd s.A j y else s.A⟩where
 lo i:=by show -1≤upd s.m j (k:Int) i;unfold upd;(split;omega;exact h.lo i)
 hi i:=by show upd s.m j (k:Int) i < n;unfold upd;(split;omega;exact h.hi i)
 g i hi:=by
   show(if f=true then upd s.G k x else s.G) i < n
   cases f
   ·exact h.g i hi
   ·simp only[if_true,upd];(split;omega;exact h.g i hi)
 a i hi:=by
   show(if f=true then upd s.A j y else s.A) i < n
   cases f
   ·exact h.a i hi
   ·simp only[if_true,upd];(split;omega;exact h.a i hi)
 one a b ha hb h0 e:=by
  rw[free_iff]at hf
  simp only[upd]at h0 e
  by_cases h1:a=j <;>by_cases h2:b=j
  ·omega
  ·rw[if_pos h1,if_neg h2]at e;exact absurd e.symm (hf b hb)
  ·rw[if_neg h1,if_pos h2]at e;exact absurd e (hf a ha)
  ·rw[if_neg h1]at h0;rw[if_neg h1,if_neg h2]at e;exact h.one a b ha hb h0 e
theorem free_at {R:Nat→Nat→Bool} {s:St} {n:Nat} (h:Fit n s) {j k:Nat} (hjn:j < n) (hf:freeB s.m n k=true) (e:acc R s n j=(k:Int)):freeB (mAt R s n j) n k=true:=by
 rw[free_iff]at hf ⊢
 intro i hi
 unfold mAt
 split
 ·rename_i hc
  intro e2
  have:=acc_one (R:=R) h hi hjn (by omega) (by omega)
  omega
 ·exact hf i hi
theorem fit_at {R:Nat→Nat→Bool} {s:St} {n:Nat} {f:Bool} (h:Fit n s):∀j,j≤n→Fit n (stAt R s n f j)
 | 0,_=>by
   have e:stAt R s n f 0=s:=by unfold stAt gAt aAt;congr 1
   rw[e];exact h
 | j+1,hj=>by
   have ih:=fit_at (R:=R) (f:=f) h j (by omega)
   rcases acc_cases (R:=R) h (show j < n by omega)with⟨e,_⟩ | ⟨k,e,hk,hf,hg,hm,hR⟩
   ·have ht:took R s n j=false:=by unfold took;rw[e];simp
    rw[stAt_no ht];exact ih
   ·have ht:took R s n j=true:=by rw[took_iff h (by omega)];omega
    have hu:=fit_upd ih (show j < n by omega) hk (Nat.mod_lt (j+1) (by omega)) (Nat.mod_lt (k+1) (by omega)) (free_at h (by omega) hf e) f
    have e2:stAt R s n f (j+1)=⟨upd (stAt R s n f j).m j (k:Int),if f=true then upd (stAt R s n f j).G k ((j+1) % n)else(stAt R s n f j).G,if f=true then upd (stAt R s n f j).A j ((k+1) % n)else(stAt R s n f j).A⟩:=by
     unfold stAt
     rw[mAt_yes ht,gAt,aAt,e,Int.toNat_natCast]
     simp only[ht,and_true]
    rw[e2];exact hu
theorem fit_round {R:Nat→Nat→Bool} {s:St} {n:Nat} {f:Bool} (h:Fit n s):Fit n (roundP R n f s):=fit_at h n (Nat.le_refl _)
theorem fit_rounds {R:Nat→Nat→Bool} {s:St} {n:Nat} (h:Fit n s):∀c,Fit n (roundsP R n s c)
 | 0=>h
 | c+1=>fit_round (fit_rounds h c)
theorem stAt_yes {R:Nat→Nat→Bool} {s:St} {n j k:Nat} {f:Bool} (h:Fit n s) (hj:j < n) (e:acc R s n j=(k:Int)):
  stAt R s n f (j+1)=⟨upd (mAt R s n j) j (k:Int),if f=true then upd (gAt R s n f j) k ((j+1) % n)else gAt R s n f j,if f=true then upd (aAt R s n f j) j ((k+1) % n)else aAt R s n f j⟩:=by
 have ht:took R s n j=true:=by rw[took_iff h hj];omega
 unfold stAt
 rw[mAt_yes ht,gAt,aAt,e,Int.toNat_natCast]
 simp only[ht,and_true]
theorem stAt_zero {R:Nat→Nat→Bool} {s:St} {n:Nat} {f:Bool}:stAt R s n f 0=s:=by unfold stAt gAt aAt;congr 1
theorem stAt_idle {R:Nat→Nat→Bool} {s:St} {n:Nat} {f:Bool} (h:∀i,i < n→took R s n i=false):∀j,j≤n→stAt R s n f j=s
 | 0,_=>stAt_zero
 | j+1,hj=>by rw[stAt_no (h j hj)];exact stAt_idle h j (by omega)
theorem idle_of_ins {R:Nat→Nat→Bool} {s:St} {n:Nat} (hn:n≤16) (h:insB (mAt R s n n) n=insB s.m n):∀i,i < n→took R s n i=false:=by
 intro i hi
 cases ht:took R s n i with
 | false=>rfl
 | true=>
   exfalso
   have h1:has (insB (mAt R s n n) n) i=has (insB s.m n) i:=by rw[h]
   unfold insB at h1
   rw[has_bt,has_bt]at h1
   unfold mAt at h1
   rw[if_pos ⟨hi,ht⟩]at h1
   unfold took at ht
   rw[Bool.and_eq_true,decide_eq_true_eq,decide_eq_true_eq]at ht
   simp[hi,ht.1]at h1
   omega
theorem rounds_idle {R:Nat→Nat→Bool} {s:St} {n c:Nat} (h:∀i,i < n→took R (roundsP R n s c) n i=false):∀d,roundsP R n s (c+d)=roundsP R n s c
 | 0=>rfl
 | d+1=>by
   rw[←Nat.add_assoc,roundsP,rounds_idle h d]
   exact stAt_idle h n (Nat.le_refl _)
def lst {α:Type} (n:Nat) (f:Nat→α):List α:=(List.range n).map f
theorem lst_length {α:Type} (n:Nat) (f:Nat→α):(lst n f).length=n:=by simp[lst]
theorem lst_at {α:Type} {n i:Nat} (f:Nat→α) (h:i < n):(lst n f)[i]? =some (f i):=by simp[lst,h]
theorem lst_set {α:Type} {n k:Nat} (f:Nat→α) (v:α):(lst n f).set k v=lst n (upd f k v):=by
 apply List.ext_getElem?
 intro i
 rw[List.getElem?_set]
 unfold lst upd
 simp only[List.length_map,List.length_range,List.getElem?_map,List.getElem?_range]
 by_cases e:k=i
 ·subst e
  simp only[if_true]
  split
  ·rename_i h;rw[List.getElem?_range h];simp
  ·rename_i h;rw[List.getElem?_eq_none (by simpa using h)];rfl
 ·rw[if_neg e]
  by_cases h:i < n
  ·rw[List.getElem?_range h];simp[Ne.symm e]
  ·rw[List.getElem?_eq_none (by simpa using h)];rfl
theorem lst_congr {α:Type} {n:Nat} {f g:Nat→α} (h:∀i,i < n→f i=g i):lst n f=lst n g:=by
 unfold lst;exact List.map_congr_left fun i hi=>h i (by simpa using hi)
theorem lst_const {α:Type} (n:Nat) (v:α):lst n (fun _=>v)=List.replicate n v:=by
 apply List.ext_getElem
 ·simp[lst]
 ·intro i h1 h2;simp[lst]
end Go.Proofs.YtebnflpanfmicaaGreatDoor
