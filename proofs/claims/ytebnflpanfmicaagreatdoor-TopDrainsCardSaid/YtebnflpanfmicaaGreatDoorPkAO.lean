/-
  Part 15 of the proof: TopPlan, TopHops.
-/
import Derived.Test.YtebnflpanfmicaaGreatDoorPkAJ
import Derived.Test.YtebnflpanfmicaaGreatDoorPkAM
import Derived.Test.YtebnflpanfmicaaGreatDoorPkAN
set_option linter.unusedVariables false
set_option linter.unusedSimpArgs false
set_option linter.unusedSectionVars false
namespace Go.Proofs.YtebnflpanfmicaaGreatDoor
open Go.RowKit
abbrev NQ (w:World) (v:Value) (l:List Nat):Prop:=QS w 3 1 v l.length (l.map encI)
structure PlanS (w:World) (S:Nat→Prop) (p:Nums) (t ws:List Nat) (e wt nx:Value):Prop where
 eq:QS w 149 2 e t.length (ecells (edgesOf t t.length))
 wq:NQ w wt ws
 nq:∃vs,QS w 35 1 nx (t.length+1) vs∧vs.length=t.length+1∧(∀(v:Nat) u,vs[v]? =some u→NQ w u (trowOf t v))∧∀u∈vs,∀g,u.ownBlock=some g→S g
 eown:∀g,e.ownBlock=some g→S g
 wown:∀g,wt.ownBlock=some g→S g
 nown:∀g,nx.ownBlock=some g→S g
 tree:Tree t
 t1:1≤t.length
 t5:t.length≤5
 nums:Within p ((t.length+1:Nat):Int)
 lanes:p.lanes=(ws.length:Int)
 weights:∀x∈ws,1≤x∧x≤5
 lt:∀k,S k→k < w.heap.size
theorem PlanS.keeps {w w':World} {S F:Nat→Prop} {p:Nums} {t ws:List Nat} {e wt nx:Value} (h:PlanS w S p t ws e wt nx) (hk:Keeps F w w') (hF:∀k,S k→¬F k):PlanS w' S p t ws e wt nx:=by
 obtain⟨vs,h1,h2,h3,h4⟩:=h.nq
 exact⟨h.eq.keeps hk (fun g hg=>hF g (h.eown g hg)),h.wq.keeps hk (fun g hg=>hF g (h.wown g hg)),⟨vs,h1.keeps hk (fun g hg=>hF g (h.nown g hg)),h2,fun v u hu=>(h3 v u hu).keeps hk (fun g hg=>hF g (h4 u (List.mem_of_getElem? hu) g hg)),h4⟩,
  h.eown,h.wown,h.nown,h.tree,h.t1,h.t5,h.nums,h.lanes,h.weights,fun k hk'=>Nat.lt_of_lt_of_le (h.lt k hk') hk.size⟩
abbrev planV (p:Nums) (t:List Nat) (e wt nx:Value):Value:= .agg (p.plan ((t.length:Int)+1) e wt nx)
def stepE (v:Nat) (R:List Nat) (e:Nat×Nat):List Nat:=if e.1=e.2 then R else if e.1=v then R ++ [e.2]else if e.2=v then R ++ [e.1]else R
def nbE (E:List (Nat×Nat)) (v i:Nat):List Nat:=(E.take i).foldl (stepE v) []
theorem nbE_succ {E:List (Nat×Nat)} {v i:Nat} (h:i < E.length):nbE E v (i+1)=stepE v (nbE E v i) E[i]:=by
 unfold nbE
 rw[List.take_succ_eq_append_getElem h,List.foldl_append];rfl
theorem nbE_length (E:List (Nat×Nat)) (v:Nat):∀i,i≤E.length→(nbE E v i).length≤i
 | 0,_=>by simp[nbE]
 | i+1,h=>by
   rw[nbE_succ (by omega)]
   have:=nbE_length E v i (by omega)
   unfold stepE
   split
   ·omega
   ·split
    ·simp;omega
    ·split
     ·simp;omega
     ·omega
def nb (t:List Nat) (v:Nat):List Nat:=nbE (edgesOf t t.length) v (edgesOf t t.length).length
def risesB:List Nat→Bool
 | a :: b :: l=>decide (a < b) && risesB (b :: l)
 | _=>true
theorem risesB_pair:∀{l:List Nat},risesB l=true→l.Pairwise (· < ·)
 | [],_=>List.Pairwise.nil
 | [a],_=>List.pairwise_singleton _ _
 | a :: b :: l,h=>by
   simp only[risesB,Bool.and_eq_true,decide_eq_true_eq]at h
   have ih:=risesB_pair h.2
   refine List.pairwise_cons.2 ⟨fun x hx=> ?_,ih⟩
   rcases List.mem_cons.1 hx with rfl | hx
   ·exact h.1
   ·have:=(List.pairwise_cons.1 ih).1 x hx
    omega
theorem nb_rises_all:allT (fun t v _=>risesB (nb t v) && (nb t v).all (fun x=>decide (x≤t.length)) && decide ((nb t v).length≤5) && decide (v ∉ nb t v) && decide (1≤(nb t v).length∨t.length=0))=true:=by decide+kernel
theorem nb_rises {t:List Nat} (ht:Tree t) (h5:t.length≤5) {v:Nat} (hv:v≤t.length):(nb t v).Pairwise (· < ·)∧(∀x∈nb t v,x≤t.length)∧(nb t v).length≤5∧v ∉ nb t v∧(1≤(nb t v).length∨t.length=0):=by
 have:=allT_at nb_rises_all ht h5 hv hv
 simp only[Bool.and_eq_true,decide_eq_true_eq,List.all_eq_true]at this
 exact⟨risesB_pair this.1.1.1.1,this.1.1.1.2,this.1.1.2,this.1.2,this.2⟩
theorem sort_rises {l:List Nat} (h:l.Pairwise (· < ·)):((l.map Int.ofNat).mergeSort fun x y=>decide (x≤y))=l.map Int.ofNat:=by
 apply List.mergeSort_of_pairwise
 rw[List.pairwise_map]
 exact h.imp (fun hab=>by simp;omega)
theorem compact_rises {l:List Nat} (h:l.Pairwise (· < ·)):Lib.compact (l.map Int.ofNat)=l.map Int.ofNat:=by
 apply Lib.compact_all
 intro j hj
 unfold Lib.keeps
 rw[List.length_map]at hj
 by_cases h0:j=0
 ·simp[h0]
 ·have h1:=List.pairwise_iff_getElem.1 h (j - 1) j (by omega) hj (by omega)
  have e1:(l.map Int.ofNat).toArray[j]! =Int.ofNat l[j]:=by simp[hj]
  have e2:(l.map Int.ofNat).toArray[j - 1]! =Int.ofNat l[j - 1]:=by
   have:j - 1 < l.length:=by omega
   simp[this]
  rw[e1,e2]
  simp only[decide_eq_true_eq]
  right
  intro e
  have:=Int.ofNat.inj e
  omega
theorem holds_QS {w:World} {l:List Nat} {g off n cap:Nat} (h:QS w 3 1 (.slice (some ⟨g,off,none⟩) n cap) n (l.map encI)):Go.Sort.Holds (Value.int .i64) w g off (l.map Int.ofNat).toArray:=by
 intro j hj
 simp only[List.size_toArray,List.length_map]at hj
 rcases h.2 with⟨h,_⟩ | ⟨g',off',cap',cur,h,h2,_,_,_,h6⟩
 ·cases h
 ·cases h
  refine⟨?_,blk_frozen h2 _⟩
  rw[blk_cell h2,h6 j (by simpa using hj),List.getElem?_map,List.getElem?_eq_getElem hj]
  simp[hj]
theorem putRow_block {w:World} {l:List Nat} {g off n cap:Nat} (h:QS w 3 1 (.slice (some ⟨g,off,none⟩) n cap) n (l.map encI)) (q:Nat) (os:Array Obj):
  QS (Go.Sort.grow (Go.Sort.putRow (Value.int .i64) (Go.Sort.ahead w q) g off (l.map Int.ofNat).toArray) os) 3 1 (.slice (some ⟨g,off,none⟩) n cap) n (l.map encI)∧Keeps (fun _=>False) w (Go.Sort.grow (Go.Sort.putRow (Value.int .i64) (Go.Sort.ahead w q) g off (l.map Int.ofNat).toArray) os):=by
 have hh:Go.Sort.putRow (Value.int .i64) (Go.Sort.ahead w q) g off (l.map Int.ofNat).toArray=Go.Sort.ahead w q:=Go.Sort.putRow_self _ _ _ _ _ (Go.Sort.holds_ahead _ _ _ _ _ _ (holds_QS h))
 rw[hh]
 have hk:Keeps (fun _=>False) w (Go.Sort.grow (Go.Sort.ahead w q) os):=⟨rfl,rfl,rfl,by simp,fun i hi _=>Go.Sort.heap_grow_old (Go.Sort.ahead w q) os hi⟩
 exact⟨h.keeps hk (fun _ _ h=>h),hk⟩
theorem sort_runs (v:Value) (l:List Nat) (w:World) (h:NQ w v l) (hl:l.Pairwise (· < ·)) (h5:l.length≤100):
  Calls Tryz.prog 130 #[v] w fun e w'=>e= .returned (.tuple #[])∧Keeps (fun _=>False) w w':=by
 unfold NQ at h
 by_cases h0:l.length=0
 ·obtain⟨A,cap,rfl,_,_⟩:=h.shape
  rw[h0]
  refine(Tryz.slices_Sort_int_none A cap w).mono ?_
  rintro e w' ⟨rfl,rfl⟩
  exact⟨rfl,Keeps.refl _ _⟩
 ·obtain⟨g,off,cap,rfl,_,_,_⟩:=h.cell (by omega)
  have:=Tryz.slices_Sort_int g off cap (l.map Int.ofNat) w (holds_QS h) (h.lt g rfl) (by simp;omega)
  rw[List.length_map]at this
  refine this.mono ?_
  rintro e w' ⟨rfl,n,os,rfl⟩
  rw[sort_rises hl]
  exact⟨rfl,(putRow_block h n os).2⟩
theorem compact_runs (v:Value) (l:List Nat) (w:World) (h:NQ w v l) (hl:l.Pairwise (· < ·)) (h5:l.length≤100):
  Calls Tryz.prog 131 #[v] w fun e w'=>e= .returned v∧Keeps (fun _=>False) w w':=by
 unfold NQ at h
 by_cases h0:l.length=0
 ·obtain⟨A,cap,rfl,_,_⟩:=h.shape
  rw[h0]
  refine(Tryz.slices_Compact_int_empty A cap w).mono ?_
  rintro e w' ⟨rfl,rfl⟩
  exact⟨rfl,Keeps.refl _ _⟩
 ·obtain⟨g,off,cap,rfl,hc,_,_⟩:=h.cell (by omega)
  have:=Tryz.slices_Compact_int g off cap (l.map Int.ofNat) w (holds_QS h) (by simp;omega) (by simpa using hc)
  rw[List.length_map,compact_rises hl]at this
  refine this.mono ?_
  rintro e w' ⟨rfl,q,rfl⟩
  rw[List.length_map,Nat.sub_self,List.replicate_zero,List.append_nil]
  refine⟨rfl, ?_⟩
  have:=(putRow_block h q #[]).2
  rwa[Go.Sort.grow_empty]at this
def idxI (l:List Nat) (x:Nat):Int:=if x∈l then(l.idxOf x:Int)else -1
set_option maxHeartbeats 2000000 in
theorem index_runs (v:Value) (l:List Nat) (x:Nat) (w:World) (h:NQ w v l) (h5:l.length≤100):
  Calls Tryz.prog 163 #[v, .int .i64 x] w fun e w'=>e= .returned (.int .i64 (idxI l x))∧w=w':=by
 obtain⟨A,c,rfl,_,_⟩:=h.shape
 obtain⟨z,hz⟩:∃z,idxI l x=z:=⟨_,rfl⟩
 rw[hz]
 have HZ:=Lib.hid hz
 clear hz
 go_enter Tryz.func163,Tryz.ntmps163
 go_wp2_with fail
 go_loop [8] (fun s=>∃i:Nat,i≤l.length∧s= .int .i64 (i:Int)∧x ∉ l.take i) (fun s=>l.length - (intOf s).toNat)
 case atStart=>exact⟨0,Nat.zero_le _,rfl,by simp⟩
 case round=>
  obtain⟨i,hi,rfl,hno⟩:=hrel
  by_cases hil:i < l.length
  ·have hii:(i:Int) < (l.length:Int):=by omega
   have hi0:(0:Int)≤(i:Int):=by omega
   obtain⟨g,off,c',e',_,hcell,_⟩:=h.cell (by omega)
   injection e' with e1 _ e2
   subst e1 e2
   have y1:=hcell i _ (by rw[List.getElem?_map,List.getElem?_eq_getElem hil];rfl)
   have hst:l.take (i+1)=l.take i ++ [l[i]]:=List.take_succ_eq_append_getElem hil
   have hidx:l[i]=x→idxI l x=(i:Int):=fun e=>by
    unfold idxI
    rw[if_pos (by rw[←e];exact List.getElem_mem _)]
    have h2:l=l.take i ++ x :: l.drop (i+1):=by rw[←e,←List.drop_eq_getElem_cons hil,List.take_append_drop]
    have h3:l.idxOf x=i:=by
     rw[h2,List.idxOf_append,if_neg hno,List.idxOf_cons_self,List.length_take];omega
    rw[h3]
   have HST:=Lib.hid hst
   have HID:=Lib.hid hidx
   have HNO:=Lib.hid hno
   clear hcell h hst hidx hno
   generalize l[i]=y at*
   by_cases hxy:y=x
   ·have hb:((x:Int) == (y:Int))=true:=by rw[beq_iff_eq];omega
    have HE:=Lib.hid (HZ.out.symm.trans (HID.out hxy))
    clear hxy
    go_wp2_with fail
    go_ret
    exact⟨by rw[HE.out];rfl,rfl⟩
   ·have hb:((x:Int) == (y:Int))=false:=by rw[beq_eq_false_iff_ne];omega
    go_wp2_with fail
    go_round
    case rel=>exact⟨i+1,by omega,by simp,by rw[HST.out];simp;exact⟨HNO.out,fun e=>hxy e.symm⟩⟩
    case measure=>simp[intOf];omega
  ·obtain rfl:i=l.length:=by omega
   have hii:¬(l.length:Int) < (l.length:Int):=by omega
   have e:idxI l x= -1:=if_neg (by rwa[List.take_length]at hno)
   have HE:=Lib.hid (HZ.out.symm.trans e)
   clear hno e
   go_wp2_with fail
   go_ret
   exact⟨by rw[HE.out];rfl,rfl⟩
theorem contains_runs (v:Value) (l:List Nat) (x:Nat) (w:World) (h:NQ w v l) (h5:l.length≤100):
  Calls Tryz.prog 137 #[v, .int .i64 x] w fun e w'=>e= .returned (.bool (decide (x∈l)))∧w=w':=by
 have hc:decide (0≤idxI l x)=decide (x∈l):=by
  unfold idxI
  by_cases hx:x∈l
  ·rw[if_pos hx,decide_eq_true hx,decide_eq_true (by omega)]
  ·rw[if_neg hx,decide_eq_false hx];rfl
 have HX:=Lib.hid (index_runs v l x w h h5)
 generalize decide (x∈l)=b at*
 generalize idxI l x=z at*
 clear h
 go_enter Tryz.func137,Tryz.ntmps137
 go_wp2_with fail
 refine HX.out.mono ?_
 rintro e w' ⟨rfl,hw⟩
 subst hw
 go_wp2_with fail
 go_ret
 exact⟨rfl,rfl⟩
set_option maxRecDepth 100000 in
set_option maxHeartbeats 8000000 in
theorem besideE_runs (p:Nums) (n:Int) (e wt nx:Value) (E:List (Nat×Nat)) (v:Nat) (w:World) (hE:QS w 149 2 e E.length (ecells E)) (hE5:E.length≤5) (hr:(nbE E v E.length).Pairwise (· < ·)) (hwt:∃A n c,wt= .slice A n c) (hnx:∃A n c,nx= .slice A n c):
  Calls Tryz.prog 66 #[.agg (p.plan n e wt nx), .int .i64 v] w fun e w'=>
   ∃A c,e= .returned (.slice A (nbE E v E.length).length c)∧NQ w' (.slice A (nbE E v E.length).length c) (nbE E v E.length)∧Keeps (fun _=>False) w w'∧∀g,(Value.slice A (nbE E v E.length).length c).ownBlock=some g→w.heap.size≤g:=by
 obtain⟨lanes,room,queue,rounds,every,bag,start⟩:=p
 obtain⟨Ea,ec,rfl,_,_⟩:=hE.shape
 obtain⟨Wa,wn,wc,rfl⟩:=hwt
 obtain⟨Na,nn,nc,rfl⟩:=hnx
 unfold Nums.plan
 go_enter Tryz.func66,Tryz.ntmps66
 go_wp2_with fail
 have hk0:Keeps (fun _=>False) w (w.alloc (.cells #[.int .i64 n, .slice Ea E.length ec, .int .i64 lanes, .int .i64 room, .int .i64 queue, .int .i64 rounds, .int .i64 every, .int .i64 bag, .slice Wa wn wc, .int .u16 start, .slice Na nn nc] 38)):=Keeps.alloc _ _ _
 have hs0:=hk0.size
 generalize w.alloc (.cells #[.int .i64 n, .slice Ea E.length ec, .int .i64 lanes, .int .i64 room, .int .i64 queue, .int .i64 rounds, .int .i64 every, .int .i64 bag, .slice Wa wn wc, .int .u16 start, .slice Na nn nc] 38)=X at*
 have hEX:=hE.keeps hk0 (fun _ _ h=>h)
 obtain⟨B0,hB0⟩:∃B,w.heap.size=B:=⟨_,rfl⟩
 have HB0:=Lib.hid hB0
 rw[hB0]at hs0 ⊢
 clear hE hB0
 have HR:=Lib.hid hr
 clear hr
 have hmx:E.length≤9223372036854775807:=by omega
 go_loopw [5,11] (fun l s wr=>∃(i:Nat) (A:Option Addr) (c:Nat),i≤E.length∧s= .int .i64 (i:Int)∧l= .slice A (nbE E v i).length c∧NQ wr (.slice A (nbE E v i).length c) (nbE E v i)∧Keeps (fun _=>False) X wr∧∀g,(Value.slice A (nbE E v i).length c).ownBlock=some g→B0≤g∧X.heap.size≤g) (fun _ s _=>E.length - (intOf s).toNat)
 case atStart=>exact⟨0,none,0,Nat.zero_le _,rfl,rfl,QS.nil _ _ _,Keeps.refl _ _,fun g hg=>(by cases hg)⟩
 case round=>
  obtain⟨i,A,c,hi,rfl,rfl,hq,hk,ho⟩:=hrel
  by_cases hil:i < E.length
  ·have hii:(i:Int) < (E.length:Int):=by omega
   have hi0:(0:Int)≤(i:Int):=by omega
   obtain⟨g,off,c',e',_,hcell,_⟩:=hEX.cell (by omega)
   cases e'
   obtain⟨q1,q2⟩:=ecells_two E i hil
   have x1:=hk.cell (hcell _ _ q1) (fun h=>h)
   have x2:=hk.cell (hcell _ _ q2) (fun h=>h)
   rw[←Nat.add_assoc]at x2
   have hstep:=nbE_succ (v:=v) hil
   have hbl:=nbE_length E v i hi
   clear hcell q1 q2
   generalize E[i]=ee at*
   obtain⟨a,b⟩:=ee
   generalize nbE E v i=R at*
   unfold stepE at hstep
   simp only[]at hstep x1 x2
   unfold NQ at hq
   have hkn:∀o,Keeps (fun _=>False) X (wr.alloc o):=fun o=>hk.trans (Keeps.alloc _ _ _)
   have HKN:=Lib.hid hkn
   have HST:=Lib.hid hstep
   have HQ:=Lib.hid hq
   have HO:=Lib.hid ho
   have HK:=Lib.hid hk
   have hbx:=blk_new wr (.cells #[.int .i64 (a:Int), .int .i64 (b:Int)] 149)
   have h8:0 < 8:=by decide
   have hb8:(R.length+1)*8≤140737488355328:=by omega
   have hQ2:∀o o',QS ((wr.alloc o).alloc o') 3 1 (.slice A R.length c) R.length (R.map encI):=fun o o'=>(HQ.out.alloc o).alloc o'
   have hS2:∀o x,Src Tryz.prog 1 35 (.slice (some ⟨wr.heap.size+1,0,none⟩) 1 1) 1 [.int .i64 x] ((wr.alloc o).alloc (.cells #[.int .i64 x] 3)):=fun o x=>
    src_blk Tryz.underlying35 (blk_new' _ _ (by simp)) rfl (by intro jj hjj';match jj,hjj' with | 0,_=>rfl) (by intro u hu;simp at hu;rcases hu with rfl;rfl)
   have HQ2:=Lib.hid hQ2
   have HS2:=Lib.hid hS2
   clear hq ho hk hkn hstep hbx hQ2 hS2
   have fin:∀(x:Nat) (o:Obj) A1 c1 w1,QS w1 3 1 (.slice A1 (R.length+1) c1) (R.length+1) (R.map encI ++ [encI x])→((wr.alloc o).alloc (.cells #[.int .i64 (x:Int)] 3)).grownBy w1 (Value.slice A R.length c).ownBlock→((Value.slice A1 (R.length+1) c1).ownBlock=(Value.slice A R.length c).ownBlock∨∃b',(Value.slice A1 (R.length+1) c1).ownBlock=some b'∧((wr.alloc o).alloc (.cells #[.int .i64 (x:Int)] 3)).heap.size≤b')→
     NQ w1 (.slice A1 (R.length+1) c1) (R ++ [x])∧Keeps (fun _=>False) X w1∧∀g,(Value.slice A1 (R.length+1) c1).ownBlock=some g→B0≤g∧X.heap.size≤g:=fun x o A1 c1 w1 h1 h2 h3=>by
    refine⟨by unfold NQ;rw[List.length_append,List.map_append];exact h1,((HK.out.trans (Keeps.alloc _ _ _)).trans (Keeps.alloc _ _ _)).then (Keeps.grown (F:=fun g=>(Value.slice A R.length c).ownBlock=some g) h2 (fun i h=>h)) (fun i hi h=>by have:=(HO.out i h).2;omega),fun g hg=> ?_⟩
    have hsz:=HK.out.size
    rcases h3 with h | ⟨b',h,hb'⟩
    ·exact HO.out g (h▸hg)
    ·rw[hg]at h;cases h;simp at hb';omega
   have FIN:=Lib.hid fin
   clear fin
   by_cases hab:a=b
   ·have c1:((a:Int) == (b:Int))=true:=by rw[beq_iff_eq];omega
    go_wp2_with fail
    go_roundw
    case rel=>exact⟨i+1,A,c,by omega,by go_num,by rw[HST.out,if_pos hab],by rw[HST.out,if_pos hab];exact HQ.out.alloc _,HKN.out _,by rw[HST.out,if_pos hab];exact HO.out⟩
    case measure=>simp[intOf];omega
   ·have c1:((a:Int) == (b:Int))=false:=by rw[beq_eq_false_iff_ne];omega
    by_cases hav:a=v
    ·have c2:((a:Int) == (v:Int))=true:=by rw[beq_iff_eq];omega
     have hRR:nbE E v (i+1)=R ++ [b]:=HST.out.trans (by rw[if_neg hab,if_pos hav])
     have HRR:=Lib.hid hRR
     clear hRR hab hav
     go_wp2_with (at_builtin;refine wpList_append_QS rfl (.tmp 26) (.tmp 29) 35 35 rfl 3 _ 1 8 Tryz.underlying35 info_i rfl _ R.length _ rfl (HQ2.out _ _) _ 1 _ rfl (HS2.out _ _) h8 hb8 ?_;intro A1 c1 w1 hq1 hg1 ho1)
     go_roundw
     case rel=>
      obtain⟨f1,f2,f3⟩:=FIN.out b _ A1 c1 w1 hq1 hg1 ho1
      have hRR:=HRR.out
      exact⟨i+1,A1,c1,by omega,by go_num,by rw[hRR,List.length_append];rfl,by rw[hRR,List.length_append];exact f1,f2,by rw[hRR,List.length_append];exact f3⟩
     case measure=>simp[intOf];omega
    ·have c2:((a:Int) == (v:Int))=false:=by rw[beq_eq_false_iff_ne];omega
     by_cases hbv:b=v
     ·have c3:((b:Int) == (v:Int))=true:=by rw[beq_iff_eq];omega
      have hRR:nbE E v (i+1)=R ++ [a]:=HST.out.trans (by rw[if_neg hab,if_neg hav,if_pos hbv])
      have HRR:=Lib.hid hRR
      clear hRR hab hav hbv
      go_wp2_with (at_builtin;refine wpList_append_QS rfl (.tmp 36) (.tmp 39) 35 35 rfl 3 _ 1 8 Tryz.underlying35 info_i rfl _ R.length _ rfl (HQ2.out _ _) _ 1 _ rfl (HS2.out _ _) h8 hb8 ?_;intro A1 c1 w1 hq1 hg1 ho1)
      go_roundw
      case rel=>
       obtain⟨f1,f2,f3⟩:=FIN.out a _ A1 c1 w1 hq1 hg1 ho1
       have hRR:=HRR.out
       exact⟨i+1,A1,c1,by omega,by go_num,by rw[hRR,List.length_append];rfl,by rw[hRR,List.length_append];exact f1,f2,by rw[hRR,List.length_append];exact f3⟩
      case measure=>simp[intOf];omega
     ·have c3:((b:Int) == (v:Int))=false:=by rw[beq_eq_false_iff_ne];omega
      have HAB:=Lib.hid (And.intro hab (And.intro hav hbv))
      clear hab hav hbv
      go_wp2_with fail
      go_roundw
      case rel=>
       obtain⟨hab,hav,hbv⟩:=HAB.out
       have hRR:nbE E v (i+1)=R:=HST.out.trans (by rw[if_neg hab,if_neg hav,if_neg hbv])
       exact⟨i+1,A,c,by omega,by go_num,by rw[hRR],by rw[hRR];exact HQ.out.alloc _,HKN.out _,by rw[hRR];exact HO.out⟩
      case measure=>simp[intOf];omega
  ·obtain rfl:i=E.length:=by omega
   have hii:¬(E.length:Int) < (E.length:Int):=by omega
   have hbl:=nbE_length E v E.length (Nat.le_refl _)
   have hr:=HR.out
   obtain⟨R,hRE⟩:∃R,nbE E v E.length=R:=⟨_,rfl⟩
   rw[hRE]at hr hq ho hbl ⊢
   have HRE:=Lib.hid hRE
   clear hRE HR
   have CS:=Lib.hid (sort_runs _ R wr hq hr (by omega))
   have CC:=Lib.hid (p:=∀U,Keeps (fun _=>False) wr U→_) fun U hU=>compact_runs (.slice A R.length c) R U (hq.keeps hU (fun _ _ h=>h)) hr (by omega)
   have HQ:=Lib.hid hq
   have HO:=Lib.hid ho
   have HK:=Lib.hid (hk0.trans hk)
   clear hr hq ho hk
   go_wp2_with fail
   refine CS.out.mono ?_
   rintro e U ⟨rfl,hU⟩
   go_wp2_with fail
   refine(CC.out U hU).mono ?_
   rintro e U2 ⟨rfl,hU2⟩
   go_wp2_with fail
   go_ret
   have hB:=HB0.out
   obtain rfl:=HRE.out
   exact⟨A,c,rfl,(HQ.out.keeps hU (fun _ _ h=>h)).keeps hU2 (fun _ _ h=>h),(HK.out.trans hU).trans hU2,fun g hg=>by rw[hB];exact(HO.out g hg).1⟩
end Go.Proofs.YtebnflpanfmicaaGreatDoor
namespace Go.Proofs.YtebnflpanfmicaaGreatDoor
open Go.RowKit
theorem PlanS.shapes {w:World} {S:Nat→Prop} {p:Nums} {t ws:List Nat} {e wt nx:Value} (h:PlanS w S p t ws e wt nx):
  (∃A c,e= .slice A t.length c)∧(∃A c,wt= .slice A ws.length c)∧∃A c,nx= .slice A (t.length+1) c:=by
 obtain⟨vs,h1,_⟩:=h.nq
 obtain⟨A,c,rfl,_⟩:=h.eq.shape
 obtain⟨A',c',rfl,_⟩:=h.wq.shape
 obtain⟨A2,c2,rfl,_⟩:=h1.shape
 exact⟨⟨_,_,rfl⟩,⟨_,_,rfl⟩,⟨_,_,rfl⟩⟩
theorem beside_runs {w:World} {S:Nat→Prop} {p:Nums} {t ws:List Nat} {e wt nx:Value} (h:PlanS w S p t ws e wt nx) (v:Nat) (hv:v≤t.length):
  Calls Tryz.prog 66 #[planV p t e wt nx, .int .i64 v] w fun e w'=>
   ∃A c,e= .returned (.slice A (nb t v).length c)∧NQ w' (.slice A (nb t v).length c) (nb t v)∧Keeps (fun _=>False) w w'∧∀g,(Value.slice A (nb t v).length c).ownBlock=some g→w.heap.size≤g:=by
 obtain⟨_,⟨A1,c1,e1⟩,⟨A2,c2,e2⟩⟩:=h.shapes
 have hE:(edgesOf t t.length).length=t.length:=edgesOf_length _ _
 have:=besideE_runs p ((t.length:Int)+1) e wt nx (edgesOf t t.length) v w (by rw[hE];exact h.eq) (by rw[hE];exact h.t5) (nb_rises h.tree h.t5 hv).1 ⟨A1,_,c1,e1⟩ ⟨A2,_,c2,e2⟩
 exact this
def hopsTo (t:List Nat):Nat→List (Nat×Nat)
 | 0=>[]
 | v+1=>hopsTo t v ++ (nb t v).map (v,·)
def hopsOf (t:List Nat):List (Nat×Nat):=hopsTo t (t.length+1)
theorem hopsTo_length {t:List Nat} (ht:Tree t) (h5:t.length≤5):∀v,v≤t.length+1→(hopsTo t v).length≤5*v
 | 0,_=>by simp[hopsTo]
 | v+1,h=>by
   have:=hopsTo_length ht h5 v (by omega)
   have h2:=(nb_rises ht h5 (v:=v) (by omega)).2.2.1
   simp only[hopsTo,List.length_append,List.length_map];omega
theorem PBox.kept {X wr:World} {b:Nat} {cs:Array Value} (h:PBox X b cs) (hk:Keeps (fun _=>False) X wr):PBox wr b cs:=blk_keeps hk h (fun h=>h)
theorem info_hop:(Tryz.prog.info? 95).map (fun i=>(i.zero,i.size,i.bytes))=some (some (.agg #[.int .i64 0, .int .i64 0]),2,16):=by kernel_rfl
set_option maxRecDepth 100000 in
set_option maxHeartbeats 8000000 in
theorem hops_runs {w:World} {S:Nat→Prop} {p:Nums} {t ws:List Nat} {e wt nx:Value} (h:PlanS w S p t ws e wt nx):
  Calls Tryz.prog 42 #[planV p t e wt nx] w fun e w'=>
   ∃A c,e= .returned (.slice A (hopsOf t).length c)∧QS w' 95 2 (.slice A (hopsOf t).length c) (hopsOf t).length (ecells (hopsOf t))∧Keeps (fun _=>False) w w'∧∀g,(Value.slice A (hopsOf t).length c).ownBlock=some g→w.heap.size≤g:=by
 obtain⟨⟨Ea,ec,rfl⟩,⟨Wa,wc,rfl⟩,⟨Na,nc,rfl⟩⟩:=h.shapes
 obtain⟨lanes,room,queue,rounds,every,bag,start⟩:=p
 obtain⟨HO,hHO⟩:∃H,hopsOf t=H:=⟨_,rfl⟩
 rw[hHO]
 have HHO:=Lib.hid hHO
 clear hHO
 have BES:Hid (∀U,Keeps (fun _=>False) w U→∀v,v≤t.length→_):=Lib.hid fun U hU v hv=>beside_runs (h.keeps hU (fun _ _ h=>h)) v hv
 have ht:=h.tree
 have h5:=h.t5
 have HT:=Lib.hid ht
 clear h ht
 unfold planV Nums.plan at BES ⊢
 go_enter Tryz.func42,Tryz.ntmps42
 go_wp2_with fail
 have hmm:min (max ((t.length:Int)+1) 0) 6=((t.length+1:Nat):Int):=by omega
 rw[hmm]
 clear hmm
 have hk0:Keeps (fun _=>False) w (w.alloc (.cells #[.int .i64 ((t.length:Int)+1), .slice Ea t.length ec, .int .i64 lanes, .int .i64 room, .int .i64 queue, .int .i64 rounds, .int .i64 every, .int .i64 bag, .slice Wa ws.length wc, .int .u16 start, .slice Na (t.length+1) nc] 38)):=Keeps.alloc _ _ _
 have hbx:PBox (w.alloc (.cells #[.int .i64 ((t.length:Int)+1), .slice Ea t.length ec, .int .i64 lanes, .int .i64 room, .int .i64 queue, .int .i64 rounds, .int .i64 every, .int .i64 bag, .slice Wa ws.length wc, .int .u16 start, .slice Na (t.length+1) nc] 38)) w.heap.size #[.int .i64 ((t.length:Int)+1), .slice Ea t.length ec, .int .i64 lanes, .int .i64 room, .int .i64 queue, .int .i64 rounds, .int .i64 every, .int .i64 bag, .slice Wa ws.length wc, .int .u16 start, .slice Na (t.length+1) nc]:=blk_new _ _
 have hs0:=hk0.size
 generalize w.alloc (.cells #[.int .i64 ((t.length:Int)+1), .slice Ea t.length ec, .int .i64 lanes, .int .i64 room, .int .i64 queue, .int .i64 rounds, .int .i64 every, .int .i64 bag, .slice Wa ws.length wc, .int .u16 start, .slice Na (t.length+1) nc] 38)=X at*
 obtain⟨B0,hB0⟩:∃B,w.heap.size=B:=⟨_,rfl⟩
 have HB0:=Lib.hid hB0
 rw[hB0]at hs0 hbx ⊢
 clear hB0
 have HBX:=Lib.hid hbx
 clear hbx
 go_loopw [3,11] (fun l s wr=>∃(i:Nat) (A:Option Addr) (c:Nat),i≤t.length+1∧s= .int .i64 (i:Int)∧l= .slice A (hopsTo t i).length c∧QS wr 95 2 (.slice A (hopsTo t i).length c) (hopsTo t i).length (ecells (hopsTo t i))∧Keeps (fun _=>False) X wr∧∀g,(Value.slice A (hopsTo t i).length c).ownBlock=some g→B0≤g∧X.heap.size≤g) (fun _ s _=>t.length+1 - (intOf s).toNat)
 case atStart=>exact⟨0,none,0,Nat.zero_le _,rfl,rfl,QS.nil _ _ _,Keeps.refl _ _,fun g hg=>(by cases hg)⟩
 case round=>
  obtain⟨i,A,c,hi,rfl,rfl,hq,hk,ho⟩:=hrel
  by_cases hil:i < t.length+1
  ·have hii:(i:Int) < ((t.length+1:Nat):Int):=by omega
   have hi0:(0:Int)≤(i:Int):=by omega
   obtain⟨y0,y1,y2,y3,y4,y5,y6,y7,y8,y9,y10,yf⟩:=(HBX.out.kept hk).all
   have hbs:=BES.out wr (hk0.trans hk) i (by omega)
   have HBS:=Lib.hid hbs
   obtain⟨hr1,hr2,hr3,hr4⟩:=nb_rises HT.out h5 (v:=i) (by omega)
   have hHl:=hopsTo_length HT.out h5 i (by omega)
   have hst:hopsTo t (i+1)=hopsTo t i ++ (nb t i).map (i,·):=rfl
   have HST:=Lib.hid hst
   clear hst hbs
   generalize nb t i=R at*
   generalize hopsTo t i=L at*
   have HQ:=Lib.hid hq
   have HO:=Lib.hid ho
   have HK:=Lib.hid hk
   have HR1:=Lib.hid hr1
   have HR2:=Lib.hid hr2
   clear hq ho hk hr1 hr2 hr4
   go_wp2_with fail
   refine HBS.out.mono ?_
   rintro e' U ⟨A1,c1,rfl,hR,hkU,hoR⟩
   have hR3:(R.length:Int)≤5:=by omega
   have HKU:=Lib.hid hkU
   have HOR:=Lib.hid hoR
   have HRQ:=Lib.hid hR
   clear hkU hoR hR y0 y1 y2 y3 y4 y5 y6 y7 y8 y9 y10 yf
   go_wp2_with fail
   go_loopw [3,18] (fun l s wr2=>∃(j:Nat) (A2:Option Addr) (c2:Nat),j≤R.length∧s= .int .i64 (j:Int)∧l= .slice A2 (L.length+j) c2∧QS wr2 95 2 (.slice A2 (L.length+j) c2) (L.length+j) (ecells (L ++ (R.take j).map (i,·)))∧NQ wr2 (.slice A1 R.length c1) R∧(∀g,(Value.slice A2 (L.length+j) c2).ownBlock=some g→B0≤g∧X.heap.size≤g∧(Value.slice A1 R.length c1).ownBlock≠some g)∧Keeps (fun _=>False) X wr2) (fun _ s _=>R.length - (intOf s).toNat)
   case atStart=>
    refine⟨0,A,c,Nat.zero_le _,rfl,rfl, ?_,HRQ.out,fun g hg=>⟨(HO.out g hg).1,(HO.out g hg).2,fun h=> ?_⟩,HK.out.trans HKU.out⟩
    ·rw[List.take_zero,List.map_nil,List.append_nil];exact HQ.out.keeps HKU.out (fun _ _ h=>h)
    ·have:=HOR.out g h
     have:=HQ.out.lt g hg
     omega
   case round=>
    obtain⟨j,A2,c2,hj,rfl,rfl,hq,hRw,ho,hk⟩:=hrel
    by_cases hjl:j < R.length
    ·have hjj:(j:Int) < (R.length:Int):=by omega
     have hj0:(0:Int)≤(j:Int):=by omega
     obtain⟨g,off,c',e',_,hcell,_⟩:=hRw.cell (by omega)
     cases e'
     have x1:=hcell j _ (by rw[List.getElem?_map,List.getElem?_eq_getElem hjl];rfl)
     have hle:=HR2.out R[j] (List.getElem_mem hjl)
     have hst:R.take (j+1)=R.take j ++ [R[j]]:=List.take_succ_eq_append_getElem hjl
     have HTK:=Lib.hid hst
     clear hcell hst
     generalize R[j]=y at*
     have wi:=Lib.hid (within_calls (y:Int) 0 5 wr (by omega) (by omega))
     have h8:0 < 16:=by decide
     have hb8:(L.length+j+1)*16≤140737488355328:=by omega
     have hQ2:∀o,QS (wr.alloc o) 95 2 (.slice A2 (L.length+j) c2) (L.length+j) (ecells (L ++ (R.take j).map (i,·))):=fun o=>hq.alloc o
     have hS2:Src Tryz.prog 2 69 (.slice (some ⟨wr.heap.size,0,none⟩) 1 1) 1 [.int .i64 i, .int .i64 y] (wr.alloc (.cells #[.int .i64 i, .int .i64 y] 95)):=
      src_blk Tryz.underlying69 (blk_new' _ _ (by simp)) rfl (by intro jj hjj';match jj,hjj' with | 0,_=>rfl | 1,_=>rfl) (by intro u hu;simp at hu;rcases hu with rfl | rfl <;>rfl)
     have HQ2:=Lib.hid hQ2
     have HS2:=Lib.hid hS2
     have HO2:=Lib.hid ho
     have HK2:=Lib.hid hk
     have HRW:=Lib.hid hRw
     clear hq ho hk hRw hQ2 hS2 hle
     go_wp2_with fail
     refine wi.out.mono ?_
     rintro e' w' ⟨rfl,hw⟩;subst w'
     clear wi
     go_wp2_with (at_builtin;refine wpList_append_QS rfl (.tmp 24) (.tmp 28) 69 69 rfl 95 _ 2 16 Tryz.underlying69 info_hop rfl _ (L.length+j) _ rfl (HQ2.out _) _ 1 _ rfl HS2.out h8 hb8 ?_;intro A3 c3 w1 hq1 hg1 ho1)
     go_roundw
     case rel=>
      have hL2:ecells (L ++ (R.take (j+1)).map (i,·))=ecells (L ++ (R.take j).map (i,·)) ++ [.int .i64 i, .int .i64 y]:=by
       rw[HTK.out,List.map_append,←List.append_assoc,ecells_append];rfl
      have hkk:Keeps (fun g=>(Value.slice A2 (L.length+j) c2).ownBlock=some g) wr w1:=(Keeps.alloc _ _ _).trans (Keeps.grown hg1 (fun i h=>h))
      refine⟨j+1,A3,c3,by omega,by go_num,rfl,by rw[hL2];exact hq1,HRW.out.keeps hkk (fun g hg h=>(HO2.out g h).2.2 hg),fun g hg=> ?_,HK2.out.then hkk (fun i hi h=>by have:=(HO2.out i h).2.1;omega)⟩
      have hsz:=HK2.out.size
      have hsz0:=hs0
      rcases ho1 with h | ⟨b',h,hb'⟩
      ·exact HO2.out g (h▸hg)
      ·have h':(Value.slice A3 (L.length+(j+1)) c3).ownBlock=some b':=h
       rw[hg]at h';cases h'
       rw[World.size_alloc]at hb'
       exact⟨by omega,by omega,fun h=>by have:=HRW.out.lt g h;omega⟩
     case measure=>simp[intOf];omega
    ·obtain rfl:j=R.length:=by omega
     have hjj:¬(R.length:Int) < (R.length:Int):=by omega
     have HQ2:=Lib.hid hq
     have HO2:=Lib.hid ho
     have HK2:=Lib.hid hk
     clear hq ho hk hRw
     go_wp2_with fail
     have hH2:hopsTo t (i+1)=L ++ R.map (i,·):=HST.out
     have hlen:(L ++ R.map (i,·)).length=L.length+R.length:=by simp
     have hq2:=HQ2.out
     rw[List.take_length]at hq2
     refine⟨⟨_,_,_,_,⟨i+1,by omega,rfl,A2,c2, ?_, ?_,HK2.out, ?_⟩,rfl,rfl,rfl,by simp⟩,by simp[intOf];omega⟩
     ·rw[hH2,hlen]
     ·rw[hH2,hlen];exact hq2
     ·rw[hH2,hlen];exact fun g hg=>⟨(HO2.out g hg).1,(HO2.out g hg).2.1⟩
  ·obtain rfl:i=t.length+1:=by omega
   have hii:¬((t.length+1:Nat):Int) < ((t.length+1:Nat):Int):=by omega
   have hH:hopsTo t (t.length+1)=HO:=HHO.out
   rw[hH]at hq ho ⊢
   have HQ2:=Lib.hid hq
   have HO2:=Lib.hid ho
   have HK2:=Lib.hid (hk0.trans hk)
   clear hq ho hk hH
   go_wp2_with fail
   go_ret
   have hB:=HB0.out
   exact⟨A,c,rfl,HQ2.out,HK2.out,fun g hg=>by rw[hB];exact(HO2.out g hg).1⟩
def portI (t:List Nat) (v x:Nat):Int:=if idxI (nb t v) x < 0 then idxI (nb t v) x else idxI (nb t v) x+1
theorem idxI_le (l:List Nat) (x:Nat):idxI l x < l.length∧ -1≤idxI l x:=by
 unfold idxI
 by_cases h:x∈l
 ·rw[if_pos h]
  have:=List.idxOf_lt_length_of_mem h
  omega
 ·rw[if_neg h];omega
set_option maxRecDepth 100000 in
theorem port_runs {w:World} {S:Nat→Prop} {p:Nums} {t ws:List Nat} {e wt nx:Value} (h:PlanS w S p t ws e wt nx) (v x:Nat) (hv:v≤t.length):
  Calls Tryz.prog 107 #[planV p t e wt nx, .int .i64 v, .int .i64 x] w fun e w'=>e= .returned (.int .i64 (portI t v x))∧Keeps (fun _=>False) w w':=by
 obtain⟨⟨Ea,ec,rfl⟩,⟨Wa,wc,rfl⟩,⟨Na,nc,rfl⟩⟩:=h.shapes
 obtain⟨lanes,room,queue,rounds,every,bag,start⟩:=p
 have BES:Hid (∀U,Keeps (fun _=>False) w U→_):=Lib.hid fun U hU=>beside_runs (h.keeps hU (fun _ _ h=>h)) v hv
 have h5:=(nb_rises h.tree h.t5 hv).2.2.1
 have hix:=idxI_le (nb t v) x
 obtain⟨z,hz⟩:∃z,portI t v x=z:=⟨_,rfl⟩
 rw[hz]
 have HZ:=Lib.hid hz
 clear hz h
 unfold planV Nums.plan at BES ⊢
 go_enter Tryz.func107,Tryz.ntmps107
 go_wp2_with fail
 have hk0:Keeps (fun _=>False) w (w.alloc (.cells #[.int .i64 ((t.length:Int)+1), .slice Ea t.length ec, .int .i64 lanes, .int .i64 room, .int .i64 queue, .int .i64 rounds, .int .i64 every, .int .i64 bag, .slice Wa ws.length wc, .int .u16 start, .slice Na (t.length+1) nc] 38)):=Keeps.alloc _ _ _
 have HK0:=Lib.hid hk0
 refine(BES.out _ hk0).mono ?_
 clear hk0
 rintro e' U ⟨A,c,rfl,hR,hkU,_⟩
 have HU:=Lib.hid (HK0.out.trans hkU)
 have HX:=Lib.hid (index_runs _ (nb t v) x U hR (by omega))
 clear HK0 hkU hR BES
 generalize hi:idxI (nb t v) x=ix at*
 go_wp2_with fail
 refine HX.out.mono ?_
 rintro e' w' ⟨rfl,hw⟩
 subst hw
 have hzz:portI t v x=if ix < 0 then ix else ix+1:=by unfold portI;rw[hi]
 have HZZ:=Lib.hid hzz
 clear hi hzz HX
 by_cases hx0:ix < 0
 ·have e1:z=ix:=by rw[←HZ.out,HZZ.out,if_pos hx0]
  subst e1
  go_wp2_with fail
  go_ret
  exact⟨rfl,HU.out⟩
 ·have e1:z=ix+1:=by rw[←HZ.out,HZZ.out,if_neg hx0]
  subst e1
  have hw:IntKind.i64.wrap (ix+1)=ix+1:=by simp[IntKind.wrap,IntKind.bits,IntKind.signed];omega
  go_wp2_with fail
  go_ret
  exact⟨rfl,HU.out⟩
end Go.Proofs.YtebnflpanfmicaaGreatDoor
