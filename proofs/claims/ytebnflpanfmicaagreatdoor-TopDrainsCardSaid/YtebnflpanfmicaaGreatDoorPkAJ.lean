/-
  Part 10 of the proof: TreeCheckE, TreeCheckF, TreeCheckG, TreeRef, TopShelf.
-/
import Derived.Test.YtebnflpanfmicaaGreatDoorPkAI
import Derived.Sort.AtCall
import Derived.Deep.RegionHeld
import Derived.Shelf.Sort.Plain
import Derived.Shelf.Slices.CompactI
import Derived.Shelf.Slices.In.SortNone
import Derived.Test.YtebnflpanfmicaaGreatDoorProg
set_option linter.unusedVariables false
set_option linter.unusedSimpArgs false
set_option linter.unusedSectionVars false
namespace Go.Proofs.YtebnflpanfmicaaGreatDoor
open Go.RowKit
theorem within_calls (x lo hi:Int) (w:World) (h1:lo≤x) (h2:x≤hi):
  Calls Tryz.prog 79 #[.int .i64 x, .int .i64 lo, .int .i64 hi] w fun e w'=>e= .returned (.bool true)∧w'=w:=by
 go_enter Tryz.func79,Tryz.ntmps79
 go_wp2_with fail
 go_ret
 exact⟨rfl,rfl⟩
structure Within (p:Nums) (n:Int):Prop where
 n:2≤n∧n≤6
 lanes:1≤p.lanes∧p.lanes≤3
 room:1≤p.room∧p.room≤8
 queue:1≤p.queue∧p.queue≤8
 rounds:1≤p.rounds∧p.rounds≤4
 every:1≤p.every∧p.every≤8
 bag:1≤p.bag∧p.bag≤64
set_option maxHeartbeats 4000000 in
theorem numbers_calls (p:Nums) (n:Int) (e wt nx:Value) (w:World) (h:Within p n):
  Calls Tryz.prog 134 #[.agg (p.plan n e wt nx)] w fun e w'=>e= .returned (.bool true)∧Keeps (fun _=>False) w w':=by
 obtain⟨lanes,room,queue,rounds,every,bag,start⟩:=p
 obtain⟨⟨a1,b1⟩,⟨a2,b2⟩,⟨a3,b3⟩,⟨a4,b4⟩,⟨a5,b5⟩,⟨a6,b6⟩,⟨a7,b7⟩⟩:=h
 simp only at a2 b2 a3 b3 a4 b4 a5 b5 a6 b6 a7 b7
 unfold Nums.plan
 go_enter Tryz.func134,Tryz.ntmps134
 go_wp2_with fail
 have hk0:Keeps (fun _=>False) w (w.alloc (.cells #[.int .i64 n,e, .int .i64 lanes, .int .i64 room, .int .i64 queue, .int .i64 rounds, .int .i64 every, .int .i64 bag,wt, .int .u16 start,nx] 38)):=Keeps.alloc _ _ _
 have hP:=blk_new w (.cells #[.int .i64 n,e, .int .i64 lanes, .int .i64 room, .int .i64 queue, .int .i64 rounds, .int .i64 every, .int .i64 bag,wt, .int .u16 start,nx] 38)
 generalize w.alloc (.cells #[.int .i64 n,e, .int .i64 lanes, .int .i64 room, .int .i64 queue, .int .i64 rounds, .int .i64 every, .int .i64 bag,wt, .int .u16 start,nx] 38)=X at hk0 hP ⊢
 obtain⟨x0,x1,x2,x3,x4,x5,x6,x7,x8,x9,x10,_⟩:=PBox.all hP
 clear hP
 refine(within_calls n 2 6 X a1 b1).mono ?_
 rintro e w' ⟨rfl,hw⟩;subst w'
 go_wp2_with fail
 refine(within_calls lanes 1 3 X a2 b2).mono ?_
 rintro e w' ⟨rfl,hw⟩;subst w'
 go_wp2_with fail
 refine(within_calls room 1 8 X a3 b3).mono ?_
 rintro e w' ⟨rfl,hw⟩;subst w'
 go_wp2_with fail
 refine(within_calls queue 1 8 X a4 b4).mono ?_
 rintro e w' ⟨rfl,hw⟩;subst w'
 go_wp2_with fail
 refine(within_calls rounds 1 4 X a5 b5).mono ?_
 rintro e w' ⟨rfl,hw⟩;subst w'
 go_wp2_with fail
 refine(within_calls every 1 8 X a6 b6).mono ?_
 rintro e w' ⟨rfl,hw⟩;subst w'
 go_wp2_with fail
 refine(within_calls bag 1 64 X a7 b7).mono ?_
 rintro e w' ⟨rfl,hw⟩;subst w'
 go_wp2_with fail
 go_ret
 exact⟨rfl,hk0⟩
theorem run_eql_edge (w:World) (a b p q:Int):(binOp .eql 149 (.agg #[.int .i64 a, .int .i64 b]) (.agg #[.int .i64 p, .int .i64 q])).run Tryz.prog w= .ok (.bool (decide (a=p) && b == q)) w:=by
 have hf:Tryz.prog.underlying 149=some (.struct (Tryz.prog.fieldsOf 149)):=by simp only[Program.fieldsOf,Tryz.underlying149]
 have hs:Tryz.prog.stoodInHeld 149=false:=by kernel_rfl
 rw[run_eql_struct,run_equalIn_struct w 9999 149 _ _ hf hs]
 simp only[Program.fieldsOf,Tryz.underlying149]
 have h3:∀w:World,(sizeOf 3).run Tryz.prog w= .ok 1 w:=fun w=>by kernel_rfl
 have e3:∀(d:Nat) (x y:Int) (w:World),(Op.equalIn (d+1) 3 (.int .i64 x) (.int .i64 y)).run Tryz.prog w= .ok (x == y) w:=fun d x y w=>run_equalIn_int w d 3 .i64 .i64 x y Tryz.underlying3
 have e4:=e3 9998
 simp[Op.eqFields,Go.part,h3,e4]
 by_cases h1:a=p <;>by_cases h2:b=q <;>simp[h1,h2]
theorem ecells_two:∀(E:List (Nat×Nat)) (i:Nat) (h:i < E.length),(ecells E)[i*2]? =some (encI E[i].1)∧(ecells E)[i*2+1]? =some (encI E[i].2)
 | e :: E,0,_=>⟨rfl,rfl⟩
 | e :: E,i+1,h=>by
   obtain⟨h1,h2⟩:=ecells_two E i (by simpa using h)
   have e1:(ecells (e :: E))[(i+1)*2]? =(ecells E)[i*2]? :=by
    rw[show(i+1)*2=i*2+2 by omega];rfl
   have e2:(ecells (e :: E))[(i+1)*2+1]? =(ecells E)[i*2+1]? :=by
    rw[show(i+1)*2+1=i*2+1+2 by omega];rfl
   rw[e1,e2];exact⟨h1,h2⟩
set_option maxHeartbeats 4000000 in
theorem eindex_calls (E:List (Nat×Nat)) (Ea:Option Addr) (ec a b:Nat) (w:World) (h:Reads w w.heap.size 2 (.slice Ea E.length ec) E.length (ecells E)) (hno:∀e∈E,e≠(a,b)) (h5:E.length≤5):
  Calls Tryz.prog 229 #[.slice Ea E.length ec, .agg #[encI a,encI b]] w fun e w'=>e= .returned (.int .i64 (-1))∧Keeps (fun _=>False) w w':=by
 go_enter Tryz.func229,Tryz.ntmps229
 go_wp2_with fail
 have hk0:Keeps (fun _=>False) w (w.alloc (.cells #[encI a,encI b] 149)):=Keeps.alloc _ _ _
 have hP:=blk_new w (.cells #[encI a,encI b] 149)
 have hz:w.heap.size < (w.alloc (.cells #[encI a,encI b] 149)).heap.size:=by simp
 generalize hb2:w.heap.size=b2 at hP hz ⊢
 generalize w.alloc (.cells #[encI a,encI b] 149)=X at hk0 hP hz ⊢
 have x0:X.cell? ⟨b2,0,none⟩=some (encI a):=by rw[blk_cell hP];rfl
 have x1:X.cell? ⟨b2,1,none⟩=some (encI b):=by rw[blk_cell hP];rfl
 go_loopw [8] (fun s wr=>∃i nq:Nat,i≤E.length∧s= .int .i64 (i:Int)∧wr=X.drewN nq) (fun s _=>E.length - (intOf s).toNat)
 case atStart=>exact⟨0,0,Nat.zero_le _,rfl,rfl⟩
 case round=>
  obtain⟨i,nq,hi,rfl,rfl⟩:=hrel
  by_cases hil:i < E.length
  ·have hii:(i:Int) < (E.length:Int):=by omega
   have hi0:(0:Int)≤(i:Int):=by omega
   obtain⟨g,off,c,e',_,_,hcell⟩:=h.at_ (by rw[ecells_length];omega)
   injection e' with e1 _ e2
   subst e1 e2
   obtain⟨c1,c2⟩:=ecells_two E i hil
   have y1:=hk0.cell (hcell _ _ c1) (fun h=>h)
   have y2:=hk0.cell (hcell _ _ c2) (fun h=>h)
   have hne:=hno _ (List.getElem_mem hil)
   rw[←Nat.add_assoc]at y2
   clear hcell h c1 c2 hP hno
   generalize E[i]=e at y1 y2 hne
   obtain⟨p,q⟩:=e
   have hne2:¬((a:Int)=(p:Int)∧(b:Int)=(q:Int)):=fun⟨h1,h2⟩=>hne (by rw[show p=a by omega,show q=b by omega])
   simp only at y1 y2
   have hr:∀w,(binOp .eql 149 (.agg #[encI a,encI b]) (.agg #[encI p,encI q])).run Tryz.prog w= .ok (.bool false) w:=fun w=>by
    rw[run_eql_edge]
    by_cases h1:(a:Int)=(p:Int)
    ·by_cases h2:(b:Int)=(q:Int)
     ·exact absurd ⟨h1,h2⟩ hne2
     ·have:((b:Int) == (q:Int))=false:=by rw[beq_eq_false_iff_ne];exact h2
      rw[this,Bool.and_false]
    ·rw[decide_eq_false h1,Bool.false_and]
   clear hne2 hne
   go_wp2_with fail
   go_quiet (fail)
   go_wp2_with fail
   go_roundw
   case rel=>exact⟨i+1,_,by omega,by simp,rfl⟩
   case measure=>simp[intOf];omega
  ·obtain rfl:i=E.length:=by omega
   have hii:¬(E.length:Int) < (E.length:Int):=by omega
   go_wp2_with fail
   go_ret
   exact⟨rfl,hk0.trans (Keeps.drewN _ _ _)⟩
end Go.Proofs.YtebnflpanfmicaaGreatDoor
namespace Go.Proofs.YtebnflpanfmicaaGreatDoor
open Go.RowKit
theorem econtains_calls (E:List (Nat×Nat)) (Ea:Option Addr) (ec a b:Nat) (w:World) (h:Reads w w.heap.size 2 (.slice Ea E.length ec) E.length (ecells E)) (hno:∀e∈E,e≠(a,b)) (h5:E.length≤5):
  Calls Tryz.prog 188 #[.slice Ea E.length ec, .agg #[encI a,encI b]] w fun e w'=>e= .returned (.bool false)∧Keeps (fun _=>False) w w':=by
 go_enter Tryz.func188,Tryz.ntmps188
 go_wp2_with fail
 have hk0:Keeps (fun _=>False) w (w.alloc (.cells #[encI a,encI b] 149)):=Keeps.alloc _ _ _
 generalize w.alloc (.cells #[encI a,encI b] 149)=X at hk0 ⊢
 refine(eindex_calls E Ea ec a b X (h.keepsF hk0 hk0.size) hno h5).mono ?_
 rintro e Y ⟨rfl,hk⟩
 go_wp2_with fail
 go_ret
 exact⟨rfl,hk0.trans hk⟩
theorem ecells_take:∀(E:List (Nat×Nat)) (i:Nat),ecells (E.take i)=(ecells E).take (i*2)
 | [],i=>by simp[ecells]
 | e :: E,0=>by simp[ecells]
 | e :: E,i+1=>by
   have ih:=ecells_take E i
   rw[List.take_succ_cons,show(i+1)*2=i*2+1+1 by omega]
   show encI e.1 :: encI e.2 :: ecells (E.take i)=(encI e.1 :: encI e.2 :: ecells E).take (i*2+1+1)
   rw[List.take_succ_cons,List.take_succ_cons,ih]
set_option maxRecDepth 100000 in
set_option maxHeartbeats 8000000 in
theorem edges_calls (p:Nums) (n:Int) (E:List (Nat×Nat)) (Ea Wa Na:Option Addr) (ec wn wc nn nc:Nat) (w:World) (hE:QS w 149 2 (.slice Ea E.length ec) E.length (ecells E)) (h5:E.length≤5)
  (hgood:∀(i:Nat) (h:i < E.length),E[i].1 < E[i].2∧(E[i].2:Int) < n∧∀e∈E.take i,e≠E[i]):
  Calls Tryz.prog 135 #[.agg (p.plan n (.slice Ea E.length ec) (.slice Wa wn wc) (.slice Na nn nc))] w fun e w'=>e= .returned (.bool true)∧Keeps (fun _=>False) w w':=by
 obtain⟨lanes,room,queue,rounds,every,bag,start⟩:=p
 unfold Nums.plan
 go_enter Tryz.func135,Tryz.ntmps135
 go_wp2_with fail
 have hk0:Keeps (fun _=>False) w (w.alloc (.cells #[.int .i64 n, .slice Ea E.length ec, .int .i64 lanes, .int .i64 room, .int .i64 queue, .int .i64 rounds, .int .i64 every, .int .i64 bag, .slice Wa wn wc, .int .u16 start, .slice Na nn nc] 38)):=Keeps.alloc _ _ _
 have hP:=blk_new w (.cells #[.int .i64 n, .slice Ea E.length ec, .int .i64 lanes, .int .i64 room, .int .i64 queue, .int .i64 rounds, .int .i64 every, .int .i64 bag, .slice Wa wn wc, .int .u16 start, .slice Na nn nc] 38)
 generalize w.alloc (.cells #[.int .i64 n, .slice Ea E.length ec, .int .i64 lanes, .int .i64 room, .int .i64 queue, .int .i64 rounds, .int .i64 every, .int .i64 bag, .slice Wa wn wc, .int .u16 start, .slice Na nn nc] 38)=X at hk0 hP ⊢
 obtain⟨x0,x1,_⟩:=PBox.all hP
 have hEX:=hE.keeps hk0 (fun _ _ h=>h)
 clear hP hE
 generalize w.heap.size=b1 at x0 x1 ⊢
 go_loopw [8] (fun s wr=>∃i:Nat,i≤E.length∧s= .int .i64 (i:Int)∧Keeps (fun _=>False) X wr) (fun s _=>E.length - (intOf s).toNat)
 case atStart=>exact⟨0,Nat.zero_le _,rfl,Keeps.refl _ _⟩
 case round=>
  obtain⟨i,hi,rfl,hk⟩:=hrel
  by_cases hil:i < E.length
  ·have hii:(i:Int) < (E.length:Int):=by omega
   have hi0:(0:Int)≤(i:Int):=by omega
   have hic:(i:Int)≤(ec:Int):=by
    obtain⟨_,_,e,h1,_⟩:=hEX.shape
    cases e;omega
   obtain⟨g,off,c,e',_,hcell,_⟩:=hEX.cell (by omega)
   injection e' with e1 _ e2
   subst e1 e2
   obtain⟨c1,c2⟩:=ecells_two E i hil
   have y1:=hk.cell (hcell _ _ c1) (fun h=>h)
   have y2:=hk.cell (hcell _ _ c2) (fun h=>h)
   rw[←Nat.add_assoc]at y2
   obtain⟨g1,g2,g3⟩:=hgood i hil
   have hT:=hEX.take i (by omega)
   rw[←ecells_take]at hT
   have hTl:(E.take i).length=i:=by rw[List.length_take];omega
   clear hcell c1 c2
   generalize hEi:E[i]=e at y1 y2 g1 g2 g3
   clear hEi
   obtain⟨a,b⟩:=e
   simp only at y1 y2 g1 g2
   have HC:=Lib.hid (p:=∀V,Keeps (fun _=>False) X V→Calls Tryz.prog 188 #[.slice (some ⟨g,off,none⟩) i ec, .agg #[encI a,encI b]] V fun e w'=>e= .returned (.bool false)∧Keeps (fun _=>False) V w') fun V hV=>by
    have h3:=(hT.keeps hV (fun _ _ h=>h)).reads
    have h4:=econtains_calls (E.take i) (some ⟨g,off,none⟩) ec a b V (by rw[hTl];exact h3) g3 (by omega)
    rw[hTl]at h4
    exact h4
   clear hT hTl g3
   have z0:=hk.cell x0 (fun h=>h)
   have z1:=hk.cell x1 (fun h=>h)
   have hgn:¬(a:Int) < 0:=by omega
   have hgab:¬(b:Int)≤(a:Int):=by omega
   have hgbn:¬n≤(b:Int):=by omega
   have hgab2:¬b≤a:=by omega
   have hgd:decide (b≤a)=false:=decide_eq_false hgab2
   have hgd1:decide ((a:Int) < 0)=false:=decide_eq_false hgn
   have hgd2:decide (n≤(b:Int))=false:=decide_eq_false hgbn
   go_wp2_with fail
   have hkY:Keeps (fun _=>False) wr (wr.alloc (.cells #[.int .i64 (a:Int), .int .i64 (b:Int)] 149)):=Keeps.alloc _ _ _
   have hPY:=blk_new wr (.cells #[.int .i64 (a:Int), .int .i64 (b:Int)] 149)
   generalize wr.alloc (.cells #[.int .i64 (a:Int), .int .i64 (b:Int)] 149)=Y at hkY hPY ⊢
   generalize wr.heap.size=eb at hPY ⊢
   have v0:Y.cell? ⟨eb,0,none⟩=some (.int .i64 (a:Int)):=by rw[blk_cell hPY];rfl
   have v1:Y.cell? ⟨eb,1,none⟩=some (.int .i64 (b:Int)):=by rw[blk_cell hPY];rfl
   replace z0:=hkY.cell z0 (fun h=>h)
   replace z1:=hkY.cell z1 (fun h=>h)
   replace hk:=hk.trans hkY
   have HC2:=Lib.hid (p:=∀V,Keeps (fun _=>False) Y V→Calls Tryz.prog 188 #[.slice (some ⟨g,off,none⟩) i ec, .agg #[encI a,encI b]] V fun e w'=>e= .returned (.bool false)∧Keeps (fun _=>False) Y w') fun V hV=>
    (HC.out V (hk.trans hV)).mono fun _ _ ⟨q1,q2⟩=>⟨q1,hV.trans q2⟩
   have HS:=Lib.hid (p:=∀V,Keeps (fun _=>False) Y V→V.cell? ⟨eb,0,none⟩=some (.int .i64 (a:Int))∧V.cell? ⟨eb,1,none⟩=some (.int .i64 (b:Int))∧V.cell? ⟨b1,0,none⟩=some (.int .i64 n)∧V.cell? ⟨b1,1,none⟩=some (.slice (some ⟨g,off,none⟩) E.length ec))
    fun V hV=>⟨hV.cell v0 (fun h=>h),hV.cell v1 (fun h=>h),hV.cell z0 (fun h=>h),hV.cell z1 (fun h=>h)⟩
   have hd:Keeps (fun _=>False) Y Y.drew:=Keeps.drew _ _
   clear v0 v1 z0 z1 y1 y2 hkY hPY HC
   first
    | go_region_held (fun w'=>w'.cell? ⟨eb,0,none⟩=some (.int .i64 (a:Int))∧w'.cell? ⟨eb,1,none⟩=some (.int .i64 (b:Int))∧w'.cell? ⟨b1,0,none⟩=some (.int .i64 n)∧w'.cell? ⟨b1,1,none⟩=some (.slice (some ⟨g,off,none⟩) E.length ec)) (exact HS.out _ (by assumption)) (first
      | (go_at_call 188;refine(HC2.out _ (by assumption)).mono ?_;rintro e V ⟨rfl,hV⟩))
    | fail
   go_wp2_with fail
   go_roundw
   case rel=>exact⟨i+1,by omega,by simp,hk.trans hV⟩
   case measure=>simp[intOf];omega
  ·obtain rfl:i=E.length:=by omega
   have hii:¬(E.length:Int) < (E.length:Int):=by omega
   have z1:=hk.cell x1 (fun h=>h)
   have h15:(E.length:Int)≤15:=by omega
   go_wp2_with fail
   go_ret
   exact⟨rfl,hk0.trans hk⟩
end Go.Proofs.YtebnflpanfmicaaGreatDoor
namespace Go.Proofs.YtebnflpanfmicaaGreatDoor
open Go.RowKit
theorem odd_calls (x:Int) (w:World) (h1:1≤x) (h2:x≤5):
  Calls Tryz.prog 139 #[.int .i64 x] w fun e w'=>e= .returned (.bool false)∧w'=w:=by
 have h3:¬x < 1:=by omega
 have h4:¬(5:Int) < x:=by omega
 go_enter Tryz.func139,Tryz.ntmps139
 go_wp2_with fail
 go_ret
 exact⟨rfl,rfl⟩
set_option maxHeartbeats 2000000 in
theorem indexf_calls (v:Value) (ws:List Int) (w:World) (h:Reads w w.heap.size 1 v ws.length (ws.map encZ)) (hw:∀x∈ws,1≤x∧x≤5) (h3:ws.length≤3):
  Calls Tryz.prog 191 #[v, .func (.func 139) #[] #[]] w fun e w'=>e= .returned (.int .i64 (-1))∧w'=w:=by
 obtain⟨A,c,rfl⟩:∃A c,v= .slice A ws.length c:=by obtain⟨_,A,c,e,_⟩:=h;exact⟨A,c,e⟩
 go_enter Tryz.func191,Tryz.ntmps191
 go_wp2_with fail
 go_loop [8] (fun s=>∃i:Nat,i≤ws.length∧s= .int .i64 (i:Int)) (fun s=>ws.length - (intOf s).toNat)
 case atStart=>exact⟨0,Nat.zero_le _,rfl⟩
 case round=>
  obtain⟨i,hi,rfl⟩:=hrel
  by_cases hil:i < ws.length
  ·have hii:(i:Int) < (ws.length:Int):=by omega
   have hi0:(0:Int)≤(i:Int):=by omega
   obtain⟨g,off,c',e',_,_,hcell⟩:=h.at_ (by simp;omega)
   injection e' with e1 _ e2
   subst e1 e2
   have y1:=hcell i _ (by rw[List.getElem?_map,List.getElem?_eq_getElem hil];rfl)
   obtain⟨q1,q2⟩:=hw _ (List.getElem_mem hil)
   clear hcell h hw
   generalize ws[i]=x at y1 q1 q2
   go_wp2_with fail
   refine(odd_calls x w q1 q2).mono ?_
   rintro e w' ⟨rfl,hw'⟩
   subst w'
   go_wp2_with fail
   go_round
   case rel=>exact⟨i+1,by omega,by simp⟩
   case measure=>simp[intOf];omega
  ·obtain rfl:i=ws.length:=by omega
   have hii:¬(ws.length:Int) < (ws.length:Int):=by omega
   go_wp2_with fail
   go_ret
   exact⟨rfl,rfl⟩
theorem containsf_calls (v:Value) (ws:List Int) (w:World) (h:Reads w w.heap.size 1 v ws.length (ws.map encZ)) (hw:∀x∈ws,1≤x∧x≤5) (h3:ws.length≤3):
  Calls Tryz.prog 140 #[v, .func (.func 139) #[] #[]] w fun e w'=>e= .returned (.bool false)∧w'=w:=by
 go_enter Tryz.func140,Tryz.ntmps140
 go_wp2_with fail
 refine(indexf_calls v ws w h hw h3).mono ?_
 rintro e w' ⟨rfl,hw'⟩
 subst w'
 go_wp2_with fail
 go_ret
 exact⟨rfl,rfl⟩
set_option maxHeartbeats 2000000 in
theorem wheel_calls (v:Value) (ws:List Int) (w:World) (h:Reads w w.heap.size 1 v ws.length (ws.map encZ)) (hw:∀x∈ws,1≤x∧x≤5) (h0:0 < ws.length) (h3:ws.length≤3):
  Calls Tryz.prog 81 #[v] w fun e w'=>(∃b,e= .returned (.pointer (some ⟨b,0,none⟩)))∧Keeps (fun _=>False) w w':=by
 obtain⟨A,c,rfl⟩:∃A c,v= .slice A ws.length c:=by obtain⟨_,A,c,e,_⟩:=h;exact⟨A,c,e⟩
 have h0':¬(ws.length:Int)=0:=by omega
 have h3':¬(3:Int) < (ws.length:Int):=by omega
 have hd0:((ws.length:Int) == 0)=false:=by rw[beq_eq_false_iff_ne];exact h0'
 have hd3:decide ((3:Int) < (ws.length:Int))=false:=decide_eq_false h3'
 go_enter Tryz.func81,Tryz.ntmps81
 go_wp2_with fail
 refine(containsf_calls _ ws w h hw h3).mono ?_
 rintro e w' ⟨rfl,hw'⟩
 subst w'
 go_wp2_with fail
 refine(tclone_calls _ ws w h (by omega)).mono ?_
 rintro e X ⟨u,rfl,hu,hk,_⟩
 go_wp2_with fail
 refine(tclone_calls _ ws X (h.keepsF hk hk.size) (by omega)).mono ?_
 rintro e Y ⟨v,rfl,hv,hk2,_⟩
 obtain⟨uA,uc,rfl,_,_⟩:=hu.shape
 obtain⟨vA,vc,rfl,_,_⟩:=hv.shape
 go_wp2_with fail
 go_ret
 exact⟨⟨_,rfl⟩,(hk.trans hk2).trans (Keeps.alloc _ _ _)⟩
theorem oddrow_calls (A:Option Addr) (n c b:Nat) (w:World) (hb:w.cell? ⟨b,0,none⟩=some (.int .i64 (n:Int))):
  Calls Tryz.prog 133 #[.slice A n c, .pointer (some ⟨b,0,none⟩)] w fun e w'=>e= .returned (.bool false)∧w'=w:=by
 go_enter Tryz.func133,Tryz.ntmps133
 go_wp2_with fail
 go_ret
 exact⟨rfl,rfl⟩
set_option maxHeartbeats 2000000 in
theorem indexr_calls (n b:Nat) (v:Value) (vs:List Value) (w:World) (h:QS w 35 1 v n vs) (hr:∀u∈vs,∃A c,u= .slice A n c) (hn:n≤6) (hb:w.cell? ⟨b,0,none⟩=some (.int .i64 (n:Int))):
  Calls Tryz.prog 189 #[v, .func (.func 133) #[] #[.pointer (some ⟨b,0,none⟩)]] w fun e w'=>e= .returned (.int .i64 (-1))∧w'=w:=by
 obtain⟨A,c,rfl,_,_⟩:=h.shape
 have hl:vs.length=n:=by have:=h.1;omega
 go_enter Tryz.func189,Tryz.ntmps189
 go_wp2_with fail
 go_loop [8] (fun s=>∃i:Nat,i≤n∧s= .int .i64 (i:Int)) (fun s=>n - (intOf s).toNat)
 case atStart=>exact⟨0,Nat.zero_le _,rfl⟩
 case round=>
  obtain⟨i,hi,rfl⟩:=hrel
  by_cases hil:i < n
  ·have hii:(i:Int) < (n:Int):=by omega
   have hi0:(0:Int)≤(i:Int):=by omega
   obtain⟨g,off,c',e',_,hcell,_⟩:=h.cell (by omega)
   injection e' with e1 _ e2
   subst e1 e2
   have y1:=hcell i _ (List.getElem?_eq_getElem (by omega))
   obtain⟨rA,rc,e⟩:=hr _ (List.getElem_mem (show i < vs.length by omega))
   rw[e]at y1
   clear hcell h hr e
   go_wp2_with fail
   refine(oddrow_calls rA n rc b w hb).mono ?_
   rintro e w' ⟨rfl,hw'⟩
   subst w'
   go_wp2_with fail
   go_round
   case rel=>exact⟨i+1,by omega,by simp⟩
   case measure=>simp[intOf];omega
  ·obtain rfl:n=i:=by omega
   have hii:¬(n:Int) < (n:Int):=by omega
   go_wp2_with fail
   go_ret
   exact⟨rfl,rfl⟩
theorem containsr_calls (n b:Nat) (v:Value) (vs:List Value) (w:World) (h:QS w 35 1 v n vs) (hr:∀u∈vs,∃A c,u= .slice A n c) (hn:n≤6) (hb:w.cell? ⟨b,0,none⟩=some (.int .i64 (n:Int))):
  Calls Tryz.prog 136 #[v, .func (.func 133) #[] #[.pointer (some ⟨b,0,none⟩)]] w fun e w'=>e= .returned (.bool false)∧w'=w:=by
 go_enter Tryz.func136,Tryz.ntmps136
 go_wp2_with fail
 refine(indexr_calls n b v vs w h hr hn hb).mono ?_
 rintro e w' ⟨rfl,hw'⟩
 subst w'
 go_wp2_with fail
 go_ret
 exact⟨rfl,rfl⟩
set_option maxRecDepth 100000 in
set_option maxHeartbeats 4000000 in
theorem check_calls (p:Nums) (n:Nat) (E:List (Nat×Nat)) (ws:List Int) (vs:List Value) (Ea Wa Na:Option Addr) (ec wc nc:Nat) (w:World) (hw:Within p (n:Int)) (hl:p.lanes=(ws.length:Int))
  (hE:QS w 149 2 (.slice Ea E.length ec) E.length (ecells E)) (h5:E.length≤5) (hgood:∀(i:Nat) (h:i < E.length),E[i].1 < E[i].2∧(E[i].2:Int) < (n:Int)∧∀e∈E.take i,e≠E[i])
  (hW:Reads w w.heap.size 1 (.slice Wa ws.length wc) ws.length (ws.map encZ)) (hws:∀x∈ws,1≤x∧x≤5)
  (hN:QS w 35 1 (.slice Na n nc) n vs) (hr:∀u∈vs,∃A c,u= .slice A n c):
  Calls Tryz.prog 72 #[.agg (p.plan (n:Int) (.slice Ea E.length ec) (.slice Wa ws.length wc) (.slice Na n nc))] w fun e w'=>e= .returned (.int .u16 0)∧Keeps (fun _=>False) w w':=by
 have hw1:=hw.n
 have hw2:=hw.lanes
 obtain⟨lanes,room,queue,rounds,every,bag,start⟩:=p
 simp only at hl hw2
 subst hl
 have cN:=fun X=>numbers_calls ⟨ws.length,room,queue,rounds,every,bag,start⟩ n (.slice Ea E.length ec) (.slice Wa ws.length wc) (.slice Na n nc) X hw
 have cE:=fun X (hk:Keeps (fun _=>False) w X)=>edges_calls ⟨ws.length,room,queue,rounds,every,bag,start⟩ n E Ea Wa Na ec ws.length wc n nc X (hE.keeps hk (fun _ _ h=>h)) h5 hgood
 unfold Nums.plan at cN cE ⊢
 have CN:=Lib.hid cN
 have CE:=Lib.hid cE
 clear cN cE
 go_enter Tryz.func72,Tryz.ntmps72
 go_wp2_with fail
 have hk0:Keeps (fun _=>False) w (w.alloc (.cells #[.int .i64 (n:Int), .slice Ea E.length ec, .int .i64 (ws.length:Int), .int .i64 room, .int .i64 queue, .int .i64 rounds, .int .i64 every, .int .i64 bag, .slice Wa ws.length wc, .int .u16 start, .slice Na n nc] 38)):=Keeps.alloc _ _ _
 have hP:=blk_new w (.cells #[.int .i64 (n:Int), .slice Ea E.length ec, .int .i64 (ws.length:Int), .int .i64 room, .int .i64 queue, .int .i64 rounds, .int .i64 every, .int .i64 bag, .slice Wa ws.length wc, .int .u16 start, .slice Na n nc] 38)
 generalize w.alloc (.cells #[.int .i64 (n:Int), .slice Ea E.length ec, .int .i64 (ws.length:Int), .int .i64 room, .int .i64 queue, .int .i64 rounds, .int .i64 every, .int .i64 bag, .slice Wa ws.length wc, .int .u16 start, .slice Na n nc] 38)=X at hk0 hP ⊢
 generalize w.heap.size=b at hP ⊢
 refine(CN.out X).mono ?_
 rintro e A ⟨rfl,hk1⟩
 replace hP:=blk_keeps hk1 hP (fun h=>h)
 replace hk0:=hk0.trans hk1
 clear hk1 X
 obtain⟨x0,x1,x2,x3,x4,x5,x6,x7,x8,x9,x10,xf⟩:=PBox.all hP
 go_wp2_with fail
 refine(CE.out A hk0).mono ?_
 rintro e B ⟨rfl,hk1⟩
 replace hP:=blk_keeps hk1 hP (fun h=>h)
 replace hk0:=hk0.trans hk1
 clear hk1 x0 x1 x2 x3 x4 x5 x6 x7 x8 x9 x10 xf A
 obtain⟨x0,x1,x2,x3,x4,x5,x6,x7,x8,x9,x10,xf⟩:=PBox.all hP
 go_wp2_with fail
 refine(wheel_calls _ ws B (hW.keepsF hk0 hk0.size) hws (by omega) (by omega)).mono ?_
 rintro e C ⟨⟨g,rfl⟩,hk1⟩
 replace hP:=blk_keeps hk1 hP (fun h=>h)
 replace hk0:=hk0.trans hk1
 clear hk1 x0 x1 x2 x3 x4 x5 x6 x7 x8 x9 x10 xf B
 obtain⟨x0,x1,x2,x3,x4,x5,x6,x7,x8,x9,x10,xf⟩:=PBox.all hP
 go_wp2_with fail
 refine(containsr_calls n b _ vs C (hN.keeps hk0 (fun _ _ h=>h)) hr (by omega) x0).mono ?_
 rintro e D ⟨rfl,hD⟩
 subst D
 go_wp2_with fail
 go_ret
 exact⟨rfl,hk0⟩
end Go.Proofs.YtebnflpanfmicaaGreatDoor
namespace Go.Proofs.YtebnflpanfmicaaGreatDoor
open Go.RowKit
def trimI (a b:List Nat):Nat→Nat→Nat×Nat
 | 0,j=>(0,j)
 | i+1,j=>if 1 < i+1∧1 < j∧a.getD (i+1 - 2) 0=b.getD (j - 2) 0 then trimI a b i (j - 1)else(i+1,j)
theorem trimI_step {a b:List Nat} {i j:Nat} (h1:1 < i) (h2:1 < j) (h:a.getD (i - 2) 0=b.getD (j - 2) 0):trimI a b i j=trimI a b (i - 1) (j - 1):=by
 obtain⟨k,rfl⟩:∃k,i=k+1:=⟨i - 1,by omega⟩
 rw[trimI,if_pos ⟨h1,h2,h⟩];rfl
theorem trimI_end {a b:List Nat} {i j:Nat} (h:¬(1 < i∧1 < j∧a.getD (i - 2) 0=b.getD (j - 2) 0)):trimI a b i j=(i,j):=by
 cases i with
 | zero=>rfl
 | succ k=>rw[trimI,if_neg h]
def pathR (t:List Nat) (v x:Nat):List Nat:=
 (upl t v).take (trimI (upl t v) (upl t x) (upl t v).length (upl t x).length).1 ++ ((upl t x).take ((trimI (upl t v) (upl t x) (upl t v).length (upl t x).length).2 - 1)).reverse
def trees:Nat→List (List Nat)
 | 0=>[[]]
 | n+1=>(trees n).flatMap fun t=>(List.range (n+1)).map fun p=>t ++ [p]
theorem mem_trees:∀(n:Nat) (t:List Nat),t.length=n→Tree t→t∈trees n
 | 0,t,h,_=>by rw[List.eq_nil_of_length_eq_zero h];exact List.mem_singleton.2 rfl
 | n+1,t,h,ht=>by
   have hne:t≠[]:=fun e=>by rw[e]at h;cases h
   have e:=List.dropLast_concat_getLast hne
   have hd:t.dropLast.length=n:=by rw[List.length_dropLast];omega
   have htd:Tree t.dropLast:=fun i hi=>by
    rw[List.getElem_dropLast]
    exact ht i (by rw[List.length_dropLast]at hi;omega)
   refine List.mem_flatMap.2 ⟨t.dropLast,mem_trees n _ hd htd,List.mem_map.2 ⟨t.getLast hne, ?_,e⟩⟩
   have:=ht (t.length - 1) (by omega)
   rw[←List.getLast_eq_getElem hne]at this
   exact List.mem_range.2 (by omega)
def allT (f:List Nat→Nat→Nat→Bool):Bool:=(List.range 6).all fun n=>(trees n).all fun t=>(List.range (n+1)).all fun v=>(List.range (n+1)).all fun x=>f t v x
theorem allT_at {f:List Nat→Nat→Nat→Bool} (h:allT f=true) {t:List Nat} (ht:Tree t) (h5:t.length≤5) {v x:Nat} (hv:v≤t.length) (hx:x≤t.length):f t v x=true:=by
 unfold allT at h
 have h1:=List.all_eq_true.1 h t.length (List.mem_range.2 (by omega))
 have h2:=List.all_eq_true.1 h1 t (mem_trees _ t rfl ht)
 have h3:=List.all_eq_true.1 h2 v (List.mem_range.2 (by omega))
 exact List.all_eq_true.1 h3 x (List.mem_range.2 (by omega))
theorem pathR_all:allT (fun t v x=>pathR t v x == pathN t v x)=true:=by decide+kernel
theorem pathR_eq {t:List Nat} (ht:Tree t) (h5:t.length≤5) {v x:Nat} (hv:v≤t.length) (hx:x≤t.length):pathR t v x=pathN t v x:=by
 have:=allT_at pathR_all ht h5 hv hx
 simpa using this
set_option maxHeartbeats 2000000 in
theorem rright_calls (fv:Value) (ps:List Int) (w:World) (h:Reads w w.heap.size 1 fv ps.length (ps.map encZ)):
  Calls Tryz.prog 55 #[fv] w fun e w'=>e= .returned (.bool (rightI ps))∧w'=w:=by
 obtain⟨A,c,hsh,hm1,hm2⟩:∃A c,fv= .slice A ps.length c∧ps.length≤c∧c≤maxLen:=by obtain⟨_,A,c,h,h1,h2,_⟩:=h;exact⟨A,c,h,h1,h2⟩
 subst hsh
 have hmx:(ps.length:Int)≤9223372036854775807:=by simp only[maxLen]at hm2;omega
 clear hm1 hm2
 obtain⟨b,hb⟩:∃b,rightI ps=b:=⟨_,rfl⟩
 rw[hb]
 have hb':=Lib.hid hb
 clear hb
 go_enter Tryz.func55,Tryz.ntmps55
 go_wp2_with fail
 go_loopw [3] (fun s wr=>∃i:Nat,i≤ps.length∧(∀j (h:j < i) (h2:j < ps.length),0≤ps[j]∧ps[j]≤(j:Int))∧s= .int .i64 (i:Int)∧wr=w) (fun s _=>ps.length - (intOf s).toNat)
 case atStart=>exact⟨0,Nat.zero_le _,(fun j h=>absurd h (Nat.not_lt_zero _)),rfl,rfl⟩
 case round=>
  obtain⟨i,hi,hok,rfl,hwr⟩:=hrel
  subst hwr
  by_cases hil:i < ps.length
  ·have hii:(i:Int) < (ps.length:Int):=by omega
   obtain⟨g,off,c',e',_,_,hcell⟩:=h.at_ (by simp;omega)
   injection e' with e1 _ e2
   subst e1;subst e2
   have hci:=hcell i (encZ ps[i]) (by rw[List.getElem?_map,List.getElem?_eq_getElem hil];rfl)
   have hno:=tright_no hil
   have hok':(0≤ps[i]∧ps[i]≤(i:Int))→∀j (h:j < i+1) (h2:j < ps.length),0≤ps[j]∧ps[j]≤(j:Int):=fun hg j h1 h2=>by
    by_cases e:j=i
    ·subst e;exact hg
    ·exact hok j (by omega) h2
   clear hcell hok
   generalize ps[i]=z at*
   by_cases hz:z < 0
   ·obtain rfl:b=false:=by rw[←hb'.out];exact hno (by omega)
    clear hno hok'
    go_wp2_with fail
    go_ret
    exact⟨rfl,rfl⟩
   ·by_cases hz2:(i:Int) < z
    ·obtain rfl:b=false:=by rw[←hb'.out];exact hno (by omega)
     clear hno hok'
     go_wp2_with fail
     go_ret
     exact⟨rfl,rfl⟩
    ·have ok:=Lib.hid (hok' (by omega))
     clear hno hok'
     have hbig:(i:Int)+1≤9223372036854775807:=by omega
     go_wp2_with fail
     go_roundw
     case rel=>exact⟨i+1,by omega,ok.out,by simp,trivial⟩
     case measure=>simp[intOf];omega
  ·have er:=tright_yes (ps:=ps) (fun j h=>hok j (by omega) h)
   clear hok
   by_cases h6:ps.length < 6
   ·have h6':(ps.length:Int)≤5:=by omega
    obtain rfl:b=true:=by rw[←hb'.out,er];exact decide_eq_true h6
    clear er
    go_wp2_with fail
    go_ret
    exact⟨rfl,rfl⟩
   ·have h6':¬(ps.length:Int)≤5:=by omega
    obtain rfl:b=false:=by rw[←hb'.out,er];exact decide_eq_false h6
    clear er
    go_wp2_with fail
    go_ret
    exact⟨rfl,rfl⟩
set_option maxHeartbeats 4000000 in
theorem rup_calls (A:Option Addr) (m c:Nat) (t:List Nat) (v:Nat) (ht:Tree t) (hv:v≤m) (hm:m≤5) (w:World) (hG:Fam w A m t):
  Calls Tryz.prog 56 #[.slice A m c, .int .i64 v] w fun e w'=>
   ∃u,e= .returned u∧QS w' 3 1 u (upl t v).length ((upl t v).map encI)∧Keeps (fun _=>False) w w'∧∀k,u.ownBlock=some k→w.heap.size≤k:=by
 have hul:=upl_length ht v
 go_enter Tryz.func56,Tryz.ntmps56
 go_wp2_with fail
 have hq0:QS (w.alloc (.cells #[encI v] 3)) 3 1 (.slice (some ⟨w.heap.size,0,none⟩) 1 1) 1 ([v].map encI):=
  ⟨rfl, .inr ⟨w.heap.size,0,1,_,rfl,blk_new _ _,Nat.le_refl _,by decide,by simp,by intro j hj;match j,hj with | 0,_=>rfl⟩⟩
 go_loopw [1,5] (fun s l wr=>∃(pre:List Nat) (x:Nat),upl t v=pre ++ upl t x∧x≤m∧s= .int .i64 (x:Int)∧QS wr 3 1 l (pre ++ [x]).length ((pre ++ [x]).map encI)∧Keeps (fun _=>False) w wr∧∀k,l.ownBlock=some k→w.heap.size≤k) (fun s _ _=>(intOf s).toNat)
 case atStart=>exact⟨[],v,rfl,hv,rfl,hq0,Keeps.alloc _ _ _,fun k h=>by cases h;exact Nat.le_refl _⟩
 case round=>
  obtain⟨pre,x,hx,hxm,rfl,hq,hk,hb⟩:=hrel
  revert hq hb;generalize u5=l;intro hq hb
  by_cases hx0:0 < x
  ·have hstep:=upl_step ht hx0
   have hpar:=par_lt ht hx0
   obtain⟨j,hj1,hj2⟩:∃j:Nat,(x:Int) - 1=(j:Int)∧j=x - 1:=⟨x - 1,by omega,rfl⟩
   obtain⟨g,off,rfl,hg,hcj⟩:=(hG.keeps hk (fun _ _ h=>h)).2 j (by omega)
   have hjm:(j:Int) < (m:Int):=by omega
   have hj0:(0:Int)≤(j:Int):=by omega
   rw[←hj2]at hpar hstep
   generalize t.getD j 0=q at*
   have hlen:(pre ++ [x]).length≤6:=by
    have:=congrArg List.length hx
    rw[hstep,List.length_append,List.length_cons]at this
    rw[List.length_append,List.length_singleton];omega
   have hx':upl t v=(pre ++ [x]) ++ upl t q:=by rw[hx,hstep];simp
   have hx2:=Lib.hid hx'
   clear hj2 hx hx' hstep
   generalize pre ++ [x]=L at*
   have hq1:QS (wr.alloc (.cells #[encI q] 3)) 3 1 l L.length (L.map encI):=hq.alloc _
   have hsrc:Src Tryz.prog 1 35 (.slice (some ⟨wr.heap.size,0,none⟩) 1 1) 1 [encI q] (wr.alloc (.cells #[encI q] 3)):=
    src_blk Tryz.underlying35 (blk_new _ _) rfl (by intro jj hjj';match jj,hjj' with | 0,_=>rfl) (by intro u hu;simp at hu;subst hu;rfl)
   go_wp2_with (at_builtin;refine wpList_append_QS rfl _ _ 35 35 rfl 3 _ 1 8 Tryz.underlying35 info_int rfl l L.length (L.map encI) rfl hq1 _ 1 [encI q] rfl hsrc (by decide) (by omega) ?_;intro A1 c1 w1 hq2 hg1 ho1)
   go_roundw
   case rel=>
    have hk1:Keeps (fun i=>l.ownBlock=some i) wr w1:=(Keeps.alloc _ _ _).trans (Keeps.grown hg1 (fun i h=>h))
    refine⟨L,q,hx2.out,by omega,by simp,by rw[List.length_append,List.map_append];exact hq2,hk.then hk1 (fun i hi h=>by have:=hb i h;omega),fun b hb'=> ?_⟩
    rcases ho1 with h | ⟨i',h,hle⟩
    ·exact hb b (h▸hb')
    ·rw[hb']at h;cases h;have:=hk.size;rw[World.size_alloc]at hle;omega
   case measure=>simp[intOf];omega
  ·obtain rfl:x=0:=by omega
   go_wp2_with fail
   go_ret
   exact⟨_,rfl,by rw[hx];exact hq,hk,hb⟩
end Go.Proofs.YtebnflpanfmicaaGreatDoor
namespace Go.Proofs
open Go.Shelf
def Tryz.lays189_ren:Go.Shelf.Ren:=⟨fun | 189=>130 | 125=>187 | 257=>186 | 128=>227 | 129=>228 | 294=>218 | 295=>219 | 296=>220 | 297=>221 | 298=>222 | 299=>223 | 216=>224 | 300=>225 | 301=>226 | 328=>245 | 329=>246 | 330=>247 | 331=>248 | 332=>249 | 215=>250 | 343=>252 | n=>n,fun | 28=>35 | 3=>3 | 46=>291 | 0=>0 | 51=>29 | 53=>168 | 4=>4 | 183=>322 | 182=>321 | 131=>310 | 5=>5 | 9=>9 | 218=>343 | 222=>346 | 228=>349 | 229=>350 | n=>n,fun | n=>n⟩
theorem Tryz.lays189:Go.Proofs.Lays.n189 Tryz.prog Tryz.lays189_ren:={
 mixed:=by kernel_rfl
 f125:=Tryz.func187.trans (congrArg some (by kernel_rfl))
 f128:=Tryz.func227.trans (congrArg some (by kernel_rfl))
 f129:=Tryz.func228.trans (congrArg some (by kernel_rfl))
 f189:=Tryz.func130.trans (congrArg some (by kernel_rfl))
 f215:=Tryz.func250.trans (congrArg some (by kernel_rfl))
 f216:=Tryz.func224.trans (congrArg some (by kernel_rfl))
 f257:=Tryz.func186.trans (congrArg some (by kernel_rfl))
 f294:=Tryz.func218.trans (congrArg some (by kernel_rfl))
 f295:=Tryz.func219.trans (congrArg some (by kernel_rfl))
 f296:=Tryz.func220.trans (congrArg some (by kernel_rfl))
 f297:=Tryz.func221.trans (congrArg some (by kernel_rfl))
 f298:=Tryz.func222.trans (congrArg some (by kernel_rfl))
 f299:=Tryz.func223.trans (congrArg some (by kernel_rfl))
 f300:=Tryz.func225.trans (congrArg some (by kernel_rfl))
 f301:=Tryz.func226.trans (congrArg some (by kernel_rfl))
 f328:=Tryz.func245.trans (congrArg some (by kernel_rfl))
 f329:=Tryz.func246.trans (congrArg some (by kernel_rfl))
 f330:=Tryz.func247.trans (congrArg some (by kernel_rfl))
 f331:=Tryz.func248.trans (congrArg some (by kernel_rfl))
 f332:=Tryz.func249.trans (congrArg some (by kernel_rfl))
 f343:=Tryz.func252.trans (congrArg some (by kernel_rfl))
 t0:=Tryz.underlying0
 a0:=Tryz.isAgg0
 z0:=Tryz.sizeOf0
 v0:=Tryz.zeroValue0
 t3:=Tryz.underlying3
 a3:=Tryz.isAgg3
 z3:=Tryz.sizeOf3
 v3:=Tryz.zeroValue3
 t4:=Tryz.underlying4
 a4:=Tryz.isAgg4
 z4:=Tryz.sizeOf4
 v4:=Tryz.zeroValue4
 t5:=Tryz.underlying5
 a5:=Tryz.isAgg5
 z5:=Tryz.sizeOf5
 v5:=Tryz.zeroValue5
 t9:=Tryz.underlying9
 a9:=Tryz.isAgg9
 z9:=Tryz.sizeOf9
 v9:=Tryz.zeroValue9
 t28:=Tryz.underlying35
 a28:=Tryz.isAgg35
 z28:=Tryz.sizeOf35
 v28:=Tryz.zeroValue35
 t46:=Tryz.underlying291
 a46:=Tryz.isAgg291
 z46:=Tryz.sizeOf291
 v46:=Tryz.zeroValue291
 t51:=Tryz.underlying29
 a51:=Tryz.isAgg29
 z51:=Tryz.sizeOf29
 v51:=Tryz.zeroValue29
 t53:=Tryz.underlying168
 a53:=Tryz.isAgg168
 z53:=Tryz.sizeOf168
 v53:=Tryz.zeroValue168
 t131:=Tryz.underlying310
 a131:=Tryz.isAgg310
 z131:=Tryz.sizeOf310
 v131:=Tryz.zeroValue310
 t182:=Tryz.underlying321
 a182:=Tryz.isAgg321
 z182:=Tryz.sizeOf321
 v182:=Tryz.zeroValue321
 t183:=Tryz.underlying322
 a183:=Tryz.isAgg322
 z183:=Tryz.sizeOf322
 v183:=Tryz.zeroValue322
 t218:=Tryz.underlying343
 a218:=Tryz.isAgg343
 z218:=Tryz.sizeOf343
 v218:=Tryz.zeroValue343
 t222:=Tryz.underlying346
 a222:=Tryz.isAgg346
 z222:=Tryz.sizeOf346
 v222:=Tryz.zeroValue346
 t228:=Tryz.underlying349
 a228:=Tryz.isAgg349
 z228:=Tryz.sizeOf349
 v228:=Tryz.zeroValue349
 t229:=Tryz.underlying350
 a229:=Tryz.isAgg350
 z229:=Tryz.sizeOf350
 v229:=Tryz.zeroValue350}
open Go.Sort Go.RowKit in
theorem Tryz.slices_Sort_int (blk off cap:Nat) (zs:List Int) (w:World) (hH:Holds (Value.int .i64) w blk off zs.toArray) (hblk:blk < w.heap.size) (hsz:zs.length < 4611686018427387904):
  Calls Tryz.prog 130 #[.slice (some ⟨blk,off,none⟩) zs.length cap] w fun e w'=>
   e= .returned (.tuple #[])∧∃n os,w'=grow (putRow (Value.int .i64) (Sort.ahead w n) blk off (zs.mergeSort fun x y=>decide (x≤y)).toArray) os:=Any.slices_Sort_int Tryz.lays189 blk off cap zs w hH hblk hsz
def Tryz.laysNm220_ren:Go.Shelf.Ren:=⟨fun | 20=>131 | n=>n,fun | 22=>35 | 3=>3 | 4=>4 | 0=>0 | n=>n,fun | n=>n⟩
theorem Tryz.laysNm220:Go.Proofs.Lays2.n20 Tryz.prog Tryz.laysNm220_ren:={
 mixed:=by kernel_rfl
 f20:=Tryz.func131.trans (congrArg some (by kernel_rfl))
 t0:=Tryz.underlying0
 a0:=Tryz.isAgg0
 z0:=Tryz.sizeOf0
 v0:=Tryz.zeroValue0
 t3:=Tryz.underlying3
 a3:=Tryz.isAgg3
 z3:=Tryz.sizeOf3
 v3:=Tryz.zeroValue3
 t4:=Tryz.underlying4
 a4:=Tryz.isAgg4
 z4:=Tryz.sizeOf4
 v4:=Tryz.zeroValue4
 t22:=Tryz.underlying35
 a22:=Tryz.isAgg35
 z22:=Tryz.sizeOf35
 v22:=Tryz.zeroValue35
 i3:=by kernel_rfl}
open Go.RowKit Go.Lib Go.Sort in
theorem Tryz.slices_Compact_int (blk off cap:Nat) (zs:List Int) (w:World) (hH:Holds (Value.int .i64) w blk off zs.toArray) (hsz:zs.length≤9223372036854775807) (hcap:zs.length≤cap):
  Calls Tryz.prog 131 #[.slice (some ⟨blk,off,none⟩) zs.length cap] w fun e w'=>e= .returned (.slice (some ⟨blk,off,none⟩) (Lib.compact zs).length cap)∧∃q,w'=putRow (Value.int .i64) (Sort.ahead w q) blk off (Lib.compact zs ++ List.replicate (zs.length - (Lib.compact zs).length) 0).toArray:=Any.slices_Compact_int Tryz.laysNm220 blk off cap zs w hH hsz hcap
open Go.RowKit Go.Lib Go.Sort in
theorem Tryz.slices_Compact_int_empty (a:Option Addr) (cap:Nat) (w:World):
  Calls Tryz.prog 131 #[.slice a 0 cap] w fun e w'=>e= .returned (.slice a 0 cap)∧w'=w:=Any.slices_Compact_int_empty Tryz.laysNm220 a cap w
theorem Tryz.slices_Sort_int_none (p:Option Addr) (cap:Nat) (w:World):
  Calls Tryz.prog 130 #[.slice p 0 cap] w fun e w'=>e= .returned (.tuple #[])∧w'=w:=Any.slices_Sort_int_none Tryz.lays189 p cap w
end Go.Proofs
