/-
  Part 5 of the proof: TopCrc, TopSound, TopWire.
-/
import Derived.Test.YtebnflpanfmicaaGreatDoorPkAD
import Derived.Sort.AtCall
set_option linter.unusedVariables false
set_option linter.unusedSimpArgs false
set_option linter.unusedSectionVars false
namespace Go.Proofs.YtebnflpanfmicaaGreatDoor
open Go.RowKit
def Byt (w:World) (v:Value) (l:List Int):Prop:=
 ∃A c,v= .slice A l.length c∧l.length≤c∧c≤maxLen∧(0 < l.length→∃g off,A=some ⟨g,off,none⟩∧∀(j:Nat) (x:Int),l[j]? =some x→w.cell? ⟨g,off+j,none⟩=some (.int .u8 x))
theorem Byt.keeps {w w':World} {F:Nat→Prop} {v:Value} {l:List Int} (h:Byt w v l) (hk:Keeps F w w') (hF:∀k,v.ownBlock=some k→¬F k):Byt w' v l:=by
 obtain⟨A,c,rfl,h1,h2,h3⟩:=h
 refine⟨A,c,rfl,h1,h2,fun h0=> ?_⟩
 obtain⟨g,off,rfl,h4⟩:=h3 h0
 exact⟨g,off,rfl,fun j x hx=>hk.cell (h4 j x hx) (hF g rfl)⟩
abbrev encB (x:Int):Value:= .int .u8 x
theorem QS.byt {w:World} {e:Nat} {v:Value} {l:List Int} {n:Nat} (h:QS w e 1 v n (l.map encB)):Byt w v l:=by
 obtain⟨h1,h2⟩:=h
 rw[List.length_map,Nat.mul_one]at h1
 subst h1
 rcases h2 with⟨rfl,h0⟩ | ⟨g,off,cap,cur,rfl,hg,h3,h4,h5,h6⟩
 ·exact⟨none,0,by rw[h0],by omega,Nat.zero_le _,fun h=>by omega⟩
 ·refine⟨_,cap,rfl,h3,h4,fun h0=>⟨g,off,rfl,fun j x hx=> ?_⟩⟩
  have hj:=(List.getElem?_eq_some_iff.1 hx).1
  rw[blk_cell hg,h6 j (by simpa using hj),List.getElem?_map,hx]
  rfl
theorem QS.made (W:World) (e:Nat) (cs:List Value) (n:Nat) (hn:cs.length=n) (hm:n≤maxLen):QS (W.alloc (.cells cs.toArray e)) e 1 (.slice (some ⟨W.heap.size,0,none⟩) n n) n cs:=
 ⟨by omega, .inr ⟨W.heap.size,0,n,cs.toArray,rfl,blk_new _ _,Nat.le_refl _,hm,by simp;omega,fun j hj=>by simp⟩⟩
def RegAt (w:World) (b:Nat) (r:Int):Prop:=w.heap[b]? =some (.cells #[.int .u16 r] 307 (0,0))
theorem RegAt.keeps {w w':World} {F:Nat→Prop} {b:Nat} {r:Int} (h:RegAt w b r) (hk:Keeps F w w') (hF:¬F b):RegAt w' b r:=blk_keeps hk h hF
theorem RegAt.cell {w:World} {b:Nat} {r:Int} (h:RegAt w b r):w.cell? ⟨b,0,none⟩=some (.int .u16 r):=by rw[blk_cell h];rfl
def shl1 (r:Int):Int:=W16 (r*2)
def shiftC (r:Int):Int:=if bits .and .u16 r 32768=0 then shl1 r else bits .xor .u16 (shl1 r) 4129
def shiftN (r:Int):Nat→Int
 | 0=>r
 | n+1=>shiftC (shiftN r n)
theorem shiftN_succ (r:Int) (n:Nat):shiftN r (n+1)=shiftC (shiftN r n):=rfl
theorem shiftN_zero (r:Int):shiftN r 0=r:=rfl
attribute [local irreducible] shiftN shiftC
set_option maxHeartbeats 400000 in
theorem shift_runs (b:Nat) (r:Int) (w:World) (h:RegAt w b r):
  Calls Tryz.prog 238 #[.pointer (some ⟨b,0,none⟩)] w fun e w'=>e= .returned (.tuple #[])∧Keeps (fun k=>k=b) w w'∧RegAt w' b (shiftC r):=by
 unfold shiftC
 have c0:=h.cell
 have fz:=blk_frozen h 0
 have h':=Lib.hid h
 clear h
 by_cases h0:bits .and .u16 r 32768=0
 ·rw[if_pos h0]
  have h1:(bits .and .u16 r 32768 == 0)=true:=beq_iff_eq.2 h0
  go_enter Tryz.func238,Tryz.ntmps238
  go_wp2
  go_end0
  refine⟨rfl,Keeps.setCell _ _ _ _ rfl, ?_⟩
  unfold RegAt
  rw[blk_set (b:=b) h'.out]
  rfl
 ·rw[if_neg h0]
  have h1:(bits .and .u16 r 32768 == 0)=false:=beq_eq_false_iff_ne.2 h0
  go_enter Tryz.func238,Tryz.ntmps238
  go_wp2
  go_end0
  refine⟨rfl,(Keeps.setCell (fun k=>k=b) _ _ _ rfl).trans (Keeps.setCell (fun k=>k=b) _ _ _ rfl), ?_⟩
  unfold RegAt
  rw[blk_set (b:=b) (blk_set (b:=b) h'.out _ _)]
  rfl
def takeC (r c:Int):Int:=shiftN (bits .xor .u16 r (W16 (W16 c*256))) 8
set_option maxHeartbeats 400000 in
theorem ctake_runs (b:Nat) (r c:Int) (w:World) (h:RegAt w b r):
  Calls Tryz.prog 207 #[.pointer (some ⟨b,0,none⟩), .int .u8 c] w fun e w'=>e= .returned (.tuple #[])∧Keeps (fun k=>k=b) w w'∧RegAt w' b (takeC r c):=by
 unfold takeC
 have c0:=h.cell
 have fz:=blk_frozen h 0
 have h':=Lib.hid h
 clear h
 go_enter Tryz.func207,Tryz.ntmps207
 go_wp2
 have h0:RegAt (w.setCell ⟨b,0,none⟩ (.int .u16 (bits .xor .u16 r (W16 (W16 c*256))))) b (bits .xor .u16 r (W16 (W16 c*256))):=by
  unfold RegAt
  rw[blk_set (b:=b) h'.out]
  rfl
 have k0:Keeps (fun k=>k=b) w (w.setCell ⟨b,0,none⟩ (.int .u16 (bits .xor .u16 r (W16 (W16 c*256))))):=Keeps.setCell _ _ _ _ rfl
 clear c0 fz h'
 generalize w.setCell ⟨b,0,none⟩ (.int .u16 (bits .xor .u16 r (W16 (W16 c*256))))=w0 at*
 go_loopw [12] (fun s wr=>∃i:Nat,i≤8∧s= .int .i64 (i:Int)∧Keeps (fun k=>k=b) w wr∧RegAt wr b (shiftN (bits .xor .u16 r (W16 (W16 c*256))) i)) (fun s _=>8 - (intOf s).toNat)
 case atStart=>exact⟨0,by decide,rfl,k0,by rw[shiftN_zero];exact h0⟩
 case round=>
  obtain⟨i,hi,rfl,hk,hr⟩:=hrel
  by_cases h8:i < 8
  ·have h8':(i:Int) < 8:=by omega
   go_wp2_with (go_at_call 238;refine(shift_runs _ _ _ hr).mono ?_;rintro e w1 ⟨rfl,hk1,hr1⟩)
   go_roundw
   case rel=>exact⟨i+1,by omega,by simp,hk.trans hk1,by rw[shiftN_succ];exact hr1⟩
   case measure=>simp[intOf];omega
  ·obtain rfl:i=8:=by omega
   go_wp2_with fail
   go_end0
   exact⟨rfl,hk,hr⟩
def crcC (l:List Int) (r:Int):Int:=l.foldl takeC r
theorem crcC_take (l:List Int) (r:Int) (i:Nat) (x:Int) (h:l[i]? =some x):crcC (l.take (i+1)) r=takeC (crcC (l.take i) r) x:=by
 unfold crcC
 rw[List.take_add_one,h,List.foldl_append]
 rfl
def sumC (l:List Int):Int:=crcC l 65535
set_option maxHeartbeats 800000 in
theorem sum_runs (v:Value) (l:List Int) (w:World) (h:Byt w v l):
  Calls Tryz.prog 166 #[v] w fun e w'=>e= .returned (.int .u16 (sumC l))∧Keeps (fun _=>False) w w':=by
 obtain⟨A,cap,rfl,h1,h2,h3⟩:=h
 have hmx:cap≤9223372036854775807:=by unfold maxLen at h2;omega
 obtain⟨n,hn⟩:∃n,n=l.length:=⟨_,rfl⟩
 rw[←hn]at h1 h3 ⊢
 have hn':=Lib.hid hn
 have h3':=Lib.hid h3
 clear hn h3
 go_enter Tryz.func166,Tryz.ntmps166
 go_wp2
 have h0:RegAt (w.alloc (.cells #[.int .u16 65535] 307)) w.heap.size 65535:=blk_new _ _
 have k0:Keeps (fun _=>False) w (w.alloc (.cells #[.int .u16 65535] 307)):=Keeps.alloc _ _ _
 go_loopw [8] (fun s wr=>∃i:Nat,i≤n∧s= .int .i64 (i:Int)∧Keeps (fun _=>False) w wr∧RegAt wr w.heap.size (crcC (l.take i) 65535)) (fun s _=>n - (intOf s).toNat)
 case atStart=>exact⟨0,Nat.zero_le _,rfl,k0,h0⟩
 case round=>
  obtain⟨i,hi,rfl,hk,hr⟩:=hrel
  by_cases hin:i < n
  ·have hin':(i:Int) < (n:Int):=by omega
   obtain⟨g,off,hA,hc⟩:=h3'.out (by omega)
   obtain⟨x,hx⟩:∃x,l[i]? =some x:=⟨_,List.getElem?_eq_getElem (hn'.out▸hin)⟩
   have ci:=hk.cell (hc i x hx) (fun h=>h)
   have hlt:g < w.heap.size:=World.block_lt_of_cell? w _ (hc i x hx)
   have hst:=Lib.hid (crcC_take l 65535 i x hx)
   subst hA
   clear hc hx
   generalize crcC (List.take i l) 65535=r at*
   go_wp2_with (go_at_call 207;refine(ctake_runs _ _ _ _ hr).mono ?_;rintro e w1 ⟨rfl,hk1,hr1⟩)
   go_roundw
   case rel=>exact⟨i+1,by omega,by simp,hk.then hk1 (fun j hj e=>by omega),by rw[hst.out];exact hr1⟩
   case measure=>simp[intOf];omega
  ·obtain rfl:i=n:=by omega
   have c0:=hr.cell
   have he:=hn'.out
   rw[he,List.take_length]at c0
   go_wp2_with fail
   go_ret
   exact⟨rfl,hk⟩
end Go.Proofs.YtebnflpanfmicaaGreatDoor
namespace Go.Proofs.YtebnflpanfmicaaGreatDoor
open Go.RowKit
structure Frm where
 kind:Int
 lane:Int
 seq:Int
 src:Int
 dst:Int
 body:Int
 deriving DecidableEq
abbrev Frm.val (f:Frm):Value:= .agg #[.int .u8 f.kind, .int .u8 f.lane, .int .u16 f.seq, .int .u8 f.src, .int .u8 f.dst, .int .u32 f.body]
abbrev Frm.zero:Frm:=⟨0,0,0,0,0,0⟩
def soundF (f:Frm):Prop:=
 (f.kind=1∧f.lane < 3∧max f.src f.dst < 6∧f.src≠f.dst)∨((f.kind=2∨f.kind=3)∧f.lane < 3∧f.src=0∧f.dst=0∧f.body=0)
instance (f:Frm):Decidable (soundF f):=by unfold soundF;infer_instance
set_option maxHeartbeats 1000000 in
theorem sound_runs (f:Frm) (w:World):
  Calls Tryz.prog 168 #[f.val] w fun e w'=>e= .returned (.bool (decide (soundF f)))∧Keeps (fun _=>False) w w':=by
 obtain⟨k,l,s,x,y,b⟩:=f
 obtain⟨r,hr⟩:∃r,r=decide (soundF ⟨k,l,s,x,y,b⟩):=⟨_,rfl⟩
 rw[←hr]
 unfold soundF at hr
 have hr':=Lib.hid hr
 clear hr
 by_cases k1:k=1
 ·subst k1
  go_enter Tryz.func168,Tryz.ntmps168
  go_wp2
  all_goals
   go_ret
   refine⟨?_,Keeps.alloc _ _ _⟩
   simp only[Array.getD,List.getElem_toArray]
   first
   | (rw[hr'.out];simp;rw[decide_eq_true (show l < 3 from by omega),decide_eq_true (show max x y < 6 from by omega)];by_cases hxy:x=y <;>simp[hxy];done)
   | (rw[hr'.out];simp;try omega)
 ·have q1:(k == 1)=false:=beq_eq_false_iff_ne.2 k1
  by_cases k2:k=2
  ·subst k2
   go_enter Tryz.func168,Tryz.ntmps168
   go_wp2
   all_goals
    go_ret
    refine⟨?_,Keeps.alloc _ _ _⟩
    rw[hr'.out]
    simp
    try omega
  ·have q2:(k == 2)=false:=beq_eq_false_iff_ne.2 k2
   by_cases k3:k=3
   ·subst k3
    go_enter Tryz.func168,Tryz.ntmps168
    go_wp2
    all_goals
     go_ret
     refine⟨?_,Keeps.alloc _ _ _⟩
     rw[hr'.out]
     simp
     try omega
   ·have q3:(k == 3)=false:=beq_eq_false_iff_ne.2 k3
    go_enter Tryz.func168,Tryz.ntmps168
    go_wp2
    all_goals
     go_ret
     refine⟨?_,Keeps.alloc _ _ _⟩
     rw[hr'.out]
     simp[k1,k2,k3]
end Go.Proofs.YtebnflpanfmicaaGreatDoor
namespace Go.Proofs.YtebnflpanfmicaaGreatDoor
open Go.RowKit
abbrev W32 (x:Int):Int:=IntKind.u32.wrap x
abbrev W8 (x:Int):Int:=IntKind.u8.wrap x
def readS (n c:Int):Int:=bits .or .u32 (W32 (n*256)) (W32 c)
def readC (l:List Int):Int:=l.foldl readS 0
theorem readC_take (l:List Int) (i:Nat) (x:Int) (h:l[i]? =some x):readC (l.take (i+1))=readS (readC (l.take i)) x:=by
 unfold readC
 rw[List.take_add_one,h,List.foldl_append]
 rfl
set_option maxHeartbeats 800000 in
theorem read_runs (v:Value) (l:List Int) (w:World) (h:Byt w v l):
  Calls Tryz.prog 167 #[v] w fun e w'=>e= .returned (.int .u32 (readC l))∧w=w':=by
 obtain⟨A,cap,rfl,h1,h2,h3⟩:=h
 have hmx:cap≤9223372036854775807:=by unfold maxLen at h2;omega
 obtain⟨n,hn⟩:∃n,n=l.length:=⟨_,rfl⟩
 rw[←hn]at h1 h3 ⊢
 have hn':=Lib.hid hn
 have h3':=Lib.hid h3
 clear hn h3
 go_enter Tryz.func167,Tryz.ntmps167
 go_wp2
 go_loopw [3,8] (fun r s wr=>∃i:Nat,i≤n∧s= .int .i64 (i:Int)∧r= .int .u32 (readC (l.take i))∧wr=w) (fun _ s _=>n - (intOf s).toNat)
 case atStart=>exact⟨0,Nat.zero_le _,rfl,rfl,rfl⟩
 case round=>
  obtain⟨i,hi,rfl,rfl,rfl⟩:=hrel
  by_cases hin:i < n
  ·have hin':(i:Int) < (n:Int):=by omega
   obtain⟨g,off,hA,hc⟩:=h3'.out (by omega)
   obtain⟨x,hx⟩:∃x,l[i]? =some x:=⟨_,List.getElem?_eq_getElem (hn'.out▸hin)⟩
   have ci:=hc i x hx
   have hst:=Lib.hid (readC_take l i x hx)
   subst hA
   clear hc hx
   generalize readC (List.take i l)=r at*
   go_wp2_with fail
   go_roundw
   case rel=>exact⟨i+1,by omega,by simp,by rw[hst.out];rfl,trivial⟩
   case measure=>simp[intOf];omega
  ·obtain rfl:i=n:=by omega
   have he:=hn'.out
   go_wp2_with fail
   go_ret
   exact⟨by rw[he,List.take_length];rfl,rfl⟩
theorem info_u8:(Tryz.prog.info? 5).map (fun i=>(i.zero,i.size,i.bytes))=some (some (.int .u8 0),1,1):=by kernel_rfl
def hiB (n:Int):Int:=W8 (n / 256)
def loB (n:Int):Int:=W8 n
set_option maxHeartbeats 800000 in
theorem two_runs (v:Value) (n:Nat) (l:List Int) (x:Int) (w:World) (h:QS w 5 1 v n (l.map encB)) (hn:n≤100):
  Calls Tryz.prog 173 #[v, .int .u16 x] w fun e w'=>∃A c,e= .returned (.slice A (n+2) c)∧QS w' 5 1 (.slice A (n+2) c) (n+2) ((l ++ [hiB x,loB x]).map encB)∧
   Keeps (fun k=>v.ownBlock=some k) w w'∧((Value.slice A (n+2) c).ownBlock=v.ownBlock∨∃b,(Value.slice A (n+2) c).ownBlock=some b∧w.heap.size≤b):=by
 have hq0:QS (w.alloc (.cells #[encB (hiB x),encB (loB x)] 5)) 5 1 v n (l.map encB):=h.alloc _
 have hsrc:Src Tryz.prog 1 22 (.slice (some ⟨w.heap.size,0,none⟩) 2 2) 2 [encB (hiB x),encB (loB x)] (w.alloc (.cells #[encB (hiB x),encB (loB x)] 5)):=
  src_blk Tryz.underlying22 (blk_new _ _) rfl (by intro jj hjj';match jj,hjj' with | 0,_=>rfl | 1,_=>rfl) (by intro u hu;simp at hu;rcases hu with rfl | rfl <;>rfl)
 obtain⟨A0,c0,hv,_,_⟩:=h.shape
 go_enter Tryz.func173,Tryz.ntmps173
 go_wp2_with (at_builtin;refine wpList_append_QS rfl _ _ 22 22 rfl 5 _ 1 1 Tryz.underlying22 info_u8 rfl v n (l.map encB) rfl hq0 _ 2 [encB (hiB x),encB (loB x)] rfl hsrc (by decide) (by omega) ?_;intro A1 c1 w1 hq1 hg1 ho1)
 go_ret
 refine⟨A1,c1,rfl, ?_,(Keeps.alloc _ _ _).trans (Keeps.grown hg1 (fun i h=>h)), ?_⟩
 ·rw[List.map_append];exact hq1
 ·rcases ho1 with h | ⟨b,h,hb⟩
  ·exact .inl h
  ·exact .inr ⟨b,h,by rw[World.size_alloc]at hb;omega⟩
def fourB (x:Int):List Int:=[hiB (W16 (x / 65536)),loB (W16 (x / 65536)),hiB (W16 x),loB (W16 x)]
set_option maxHeartbeats 800000 in
theorem four_runs (v:Value) (n:Nat) (l:List Int) (x:Int) (w:World) (h:QS w 5 1 v n (l.map encB)) (hn:n≤50):
  Calls Tryz.prog 174 #[v, .int .u32 x] w fun e w'=>∃A c,e= .returned (.slice A (n+4) c)∧QS w' 5 1 (.slice A (n+4) c) (n+4) ((l ++ fourB x).map encB)∧
   Keeps (fun k=>v.ownBlock=some k) w w'∧((Value.slice A (n+4) c).ownBlock=v.ownBlock∨∃b,(Value.slice A (n+4) c).ownBlock=some b∧w.heap.size≤b):=by
 go_enter Tryz.func174,Tryz.ntmps174
 have H1:=Lib.hid (two_runs v n l (W16 (x / 65536)) w h (by omega))
 have H2:=Lib.hid (p:=∀A1 c1 w1,QS w1 5 1 (.slice A1 (n+2) c1) (n+2) ((l ++ [hiB (W16 (x / 65536)),loB (W16 (x / 65536))]).map encB)→_) (fun A1 c1 w1 hq=>two_runs (.slice A1 (n+2) c1) (n+2) _ (W16 x) w1 hq (by omega))
 go_wp2_with (first | (go_at_call_has 173 (Value.int .u16 (IntKind.u16.wrap (x / 65536)));refine H1.out.mono ?_;rintro e w1 ⟨A1,c1,rfl,hq1,hk1,ho1⟩) | (go_at_call 173;refine(H2.out _ _ _ hq1).mono ?_;rintro e w2 ⟨A2,c2,rfl,hq2,hk2,ho2⟩))
 go_ret
 refine⟨A2,c2,rfl, ?_, ?_, ?_⟩
 ·rw[List.append_assoc]at hq2;exact hq2
 ·refine hk1.then hk2 (fun i hi e=> ?_)
  rcases ho1 with h | ⟨b,h,hb⟩
  ·exact h▸e
  ·rw[e]at h;cases h;omega
 ·rcases ho2 with h | ⟨b,h,hb⟩
  ·rcases ho1 with h' | ⟨b',h',hb'⟩
   ·exact .inl (h.trans h')
   ·exact .inr ⟨b',h.trans h',hb'⟩
  ·exact .inr ⟨b,h,by have:=hk1.size;omega⟩
end Go.Proofs.YtebnflpanfmicaaGreatDoor
