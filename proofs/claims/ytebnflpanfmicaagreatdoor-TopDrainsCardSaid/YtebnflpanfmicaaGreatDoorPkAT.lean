/-
  Part 20 of the proof: TopLift, TopData, TopMay.
-/
import Derived.Test.YtebnflpanfmicaaGreatDoorPkAS
import Derived.Test.YtebnflpanfmicaaGreatDoorPkAN
import Derived.Test.YtebnflpanfmicaaGreatDoorPkAE
set_option linter.unusedVariables false
set_option linter.unusedSimpArgs false
set_option linter.unusedSectionVars false
namespace Go.Proofs.YtebnflpanfmicaaGreatDoor
open Go.RowKit
section
variable {σ:Sig} {w w':World} {o:Nat→Option Cmp} {f v:Nat} {g:Geo} {a:NodeA} {s:NodeS}
theorem SysF.nodeR (h:SysF σ w o) (hg:σ.geo f=some g) (hn:σ.node f v=some (a,s)):NodeR w (fun k=>o k=some (.node f v)) g v a s.ticks:=by
 have:=h.part (.node f v)
 simp only[Sig.part,hg,hn]at this
 exact this
theorem SysF.planS (h:SysF σ w o) (hg:σ.geo f=some g):PlanS w (fun k=>o k=some (.plan f)) g.p g.t g.ws g.e g.wt g.nx:=by
 have:=h.part (.plan f)
 simp only[Sig.part,hg]at this
 exact this
theorem SysF.hostV (h:SysF σ w o) (hg:σ.geo f=some g) (hn:σ.node f v=some (a,s)):HostV w (fun k=>o k=some (.host f v)) 200 31 a.hb g.p.lanes g.p.queue s.q:=by
 have:=h.part (.host f v)
 simp only[Sig.part,hg,hn]at this
 exact this
theorem SysF.ringsV (h:SysF σ w o) (hg:σ.geo f=some g) (hn:σ.node f v=some (a,s)):RingsV w (fun k=>o k=some (.rings f v)) a.rb (g.ports v:Int) g.p.lanes s.free s.Q:=by
 have:=h.part (.rings f v)
 simp only[Sig.part,hg,hn]at this
 exact this
theorem SysF.wheelV (h:SysF σ w o) (hg:σ.geo f=some g) (hn:σ.node f v=some (a,s)) {i:Nat} (hi:i < g.ports v):WheelV w (fun k=>o k=some (.wheel f v i)) (a.wb i) g.ws (s.left i) (s.from_ i):=by
 have:=h.part (.wheel f v i)
 simp only[Sig.part,hg,hn,hi,if_true]at this
 exact this
theorem SysF.sendAt (h:SysF σ w o) (hg:σ.geo f=some g) (hn:σ.node f v=some (a,s)) {i k:Nat} (h1:1≤i) (hi:i < g.ports v) (hk:k < g.ws.length):SendAt w (a.sb i k) (s.sent i k) (s.limit i k)∧o (a.sb i k)=some (.snd f v i k):=by
 have:=h.part (.snd f v i k)
 simp only[Sig.part,hg,hn,h1,hi,hk,and_self,if_true]at this
 exact⟨this.1,this.2.1⟩
theorem SysF.recvAt (h:SysF σ w o) (hg:σ.geo f=some g) (hn:σ.node f v=some (a,s)) {i k:Nat} (h1:1≤i) (hi:i < g.ports v) (hk:k < g.ws.length):RecvAt w (a.cb i k) (s.next i k) (s.held i k) g.p.room∧o (a.cb i k)=some (.rcv f v i k):=by
 have:=h.part (.rcv f v i k)
 simp only[Sig.part,hg,hn,h1,hi,hk,and_self,if_true]at this
 exact⟨this.1,this.2.1⟩
theorem SysF.arb (h:SysF σ w o) (hg:σ.geo f=some g) (hn:σ.node f v=some (a,s)):Arb w a.ab (g.ports v) (lst (g.ports v) s.G) (lst (g.ports v) s.A) a.ga a.aa∧o a.ab=some (.arb f v)∧o a.ga=some (.arb f v)∧o a.aa=some (.arb f v):=by
 have:=h.part (.arb f v)
 simp only[Sig.part,hg,hn]at this
 exact⟨this.1,this.2.1,this.2.2.1,this.2.2.2.1⟩
theorem set_host (hn:σ.node f v=some (a,s)) (q:Nat→List Pkt):∀x,x≠Cmp.host f v→(σ.set f v a {s with q:=q}).part x=σ.part x:=by
 intro x hx
 cases x with
 | plan f'=>rfl
 | fab f'=>rfl
 | link f' h'=>rfl
 | node f' v'=>
   by_cases h:f'=f∧v'=v
   ·obtain⟨rfl,rfl⟩:=h
    cases hgf:σ.geo f' <;>simp[Sig.part,Sig.set,hn,hgf]
   ·cases hgf:σ.geo f' <;>simp[Sig.part,Sig.set,h,hgf]
 | host f' v'=>
   by_cases h:f'=f∧v'=v
   ·obtain⟨rfl,rfl⟩:=h
    exact absurd rfl hx
   ·cases hgf:σ.geo f' <;>simp[Sig.part,Sig.set,h,hgf]
 | rings f' v'=>
   by_cases h:f'=f∧v'=v
   ·obtain⟨rfl,rfl⟩:=h
    cases hgf:σ.geo f' <;>simp[Sig.part,Sig.set,hn,hgf]
   ·cases hgf:σ.geo f' <;>simp[Sig.part,Sig.set,h,hgf]
 | arb f' v'=>
   by_cases h:f'=f∧v'=v
   ·obtain⟨rfl,rfl⟩:=h
    cases hgf:σ.geo f' <;>simp[Sig.part,Sig.set,hn,hgf]
   ·cases hgf:σ.geo f' <;>simp[Sig.part,Sig.set,h,hgf]
 | wheel f' v' i'=>
   by_cases h:f'=f∧v'=v
   ·obtain⟨rfl,rfl⟩:=h
    cases hgf:σ.geo f' <;>simp[Sig.part,Sig.set,hn,hgf]
   ·cases hgf:σ.geo f' <;>simp[Sig.part,Sig.set,h,hgf]
 | snd f' v' i' k'=>
   by_cases h:f'=f∧v'=v
   ·obtain⟨rfl,rfl⟩:=h
    cases hgf:σ.geo f' <;>simp[Sig.part,Sig.set,hn,hgf]
   ·cases hgf:σ.geo f' <;>simp[Sig.part,Sig.set,h,hgf]
 | rcv f' v' i' k'=>
   by_cases h:f'=f∧v'=v
   ·obtain⟨rfl,rfl⟩:=h
    cases hgf:σ.geo f' <;>simp[Sig.part,Sig.set,hn,hgf]
   ·cases hgf:σ.geo f' <;>simp[Sig.part,Sig.set,h,hgf]
theorem set_rings (hn:σ.node f v=some (a,s)) (n:Nat) (Q:Way→List Pkt):∀x,x≠Cmp.rings f v→(σ.set f v a {s with free:=n,Q:=Q}).part x=σ.part x:=by
 intro x hx
 cases x with
 | plan f'=>rfl
 | fab f'=>rfl
 | link f' h'=>rfl
 | node f' v'=>
   by_cases h:f'=f∧v'=v
   ·obtain⟨rfl,rfl⟩:=h
    cases hgf:σ.geo f' <;>simp[Sig.part,Sig.set,hn,hgf]
   ·cases hgf:σ.geo f' <;>simp[Sig.part,Sig.set,h,hgf]
 | host f' v'=>
   by_cases h:f'=f∧v'=v
   ·obtain⟨rfl,rfl⟩:=h
    cases hgf:σ.geo f' <;>simp[Sig.part,Sig.set,hn,hgf]
   ·cases hgf:σ.geo f' <;>simp[Sig.part,Sig.set,h,hgf]
 | rings f' v'=>
   by_cases h:f'=f∧v'=v
   ·obtain⟨rfl,rfl⟩:=h
    exact absurd rfl hx
   ·cases hgf:σ.geo f' <;>simp[Sig.part,Sig.set,h,hgf]
 | arb f' v'=>
   by_cases h:f'=f∧v'=v
   ·obtain⟨rfl,rfl⟩:=h
    cases hgf:σ.geo f' <;>simp[Sig.part,Sig.set,hn,hgf]
   ·cases hgf:σ.geo f' <;>simp[Sig.part,Sig.set,h,hgf]
 | wheel f' v' i'=>
   by_cases h:f'=f∧v'=v
   ·obtain⟨rfl,rfl⟩:=h
    cases hgf:σ.geo f' <;>simp[Sig.part,Sig.set,hn,hgf]
   ·cases hgf:σ.geo f' <;>simp[Sig.part,Sig.set,h,hgf]
 | snd f' v' i' k'=>
   by_cases h:f'=f∧v'=v
   ·obtain⟨rfl,rfl⟩:=h
    cases hgf:σ.geo f' <;>simp[Sig.part,Sig.set,hn,hgf]
   ·cases hgf:σ.geo f' <;>simp[Sig.part,Sig.set,h,hgf]
 | rcv f' v' i' k'=>
   by_cases h:f'=f∧v'=v
   ·obtain⟨rfl,rfl⟩:=h
    cases hgf:σ.geo f' <;>simp[Sig.part,Sig.set,hn,hgf]
   ·cases hgf:σ.geo f' <;>simp[Sig.part,Sig.set,h,hgf]
theorem set_arb (hn:σ.node f v=some (a,s)) (G A:Nat→Nat):∀x,x≠Cmp.arb f v→(σ.set f v a {s with G:=G,A:=A}).part x=σ.part x:=by
 intro x hx
 cases x with
 | plan f'=>rfl
 | fab f'=>rfl
 | link f' h'=>rfl
 | node f' v'=>
   by_cases h:f'=f∧v'=v
   ·obtain⟨rfl,rfl⟩:=h
    cases hgf:σ.geo f' <;>simp[Sig.part,Sig.set,hn,hgf]
   ·cases hgf:σ.geo f' <;>simp[Sig.part,Sig.set,h,hgf]
 | host f' v'=>
   by_cases h:f'=f∧v'=v
   ·obtain⟨rfl,rfl⟩:=h
    cases hgf:σ.geo f' <;>simp[Sig.part,Sig.set,hn,hgf]
   ·cases hgf:σ.geo f' <;>simp[Sig.part,Sig.set,h,hgf]
 | rings f' v'=>
   by_cases h:f'=f∧v'=v
   ·obtain⟨rfl,rfl⟩:=h
    cases hgf:σ.geo f' <;>simp[Sig.part,Sig.set,hn,hgf]
   ·cases hgf:σ.geo f' <;>simp[Sig.part,Sig.set,h,hgf]
 | arb f' v'=>
   by_cases h:f'=f∧v'=v
   ·obtain⟨rfl,rfl⟩:=h
    exact absurd rfl hx
   ·cases hgf:σ.geo f' <;>simp[Sig.part,Sig.set,h,hgf]
 | wheel f' v' i'=>
   by_cases h:f'=f∧v'=v
   ·obtain⟨rfl,rfl⟩:=h
    cases hgf:σ.geo f' <;>simp[Sig.part,Sig.set,hn,hgf]
   ·cases hgf:σ.geo f' <;>simp[Sig.part,Sig.set,h,hgf]
 | snd f' v' i' k'=>
   by_cases h:f'=f∧v'=v
   ·obtain⟨rfl,rfl⟩:=h
    cases hgf:σ.geo f' <;>simp[Sig.part,Sig.set,hn,hgf]
   ·cases hgf:σ.geo f' <;>simp[Sig.part,Sig.set,h,hgf]
 | rcv f' v' i' k'=>
   by_cases h:f'=f∧v'=v
   ·obtain⟨rfl,rfl⟩:=h
    cases hgf:σ.geo f' <;>simp[Sig.part,Sig.set,hn,hgf]
   ·cases hgf:σ.geo f' <;>simp[Sig.part,Sig.set,h,hgf]
theorem set_node (hn:σ.node f v=some (a,s)) (n:Int):∀x,x≠Cmp.node f v→(σ.set f v a {s with ticks:=n}).part x=σ.part x:=by
 intro x hx
 cases x with
 | plan f'=>rfl
 | fab f'=>rfl
 | link f' h'=>rfl
 | node f' v'=>
   by_cases h:f'=f∧v'=v
   ·obtain⟨rfl,rfl⟩:=h
    exact absurd rfl hx
   ·cases hgf:σ.geo f' <;>simp[Sig.part,Sig.set,h,hgf]
 | host f' v'=>
   by_cases h:f'=f∧v'=v
   ·obtain⟨rfl,rfl⟩:=h
    cases hgf:σ.geo f' <;>simp[Sig.part,Sig.set,hn,hgf]
   ·cases hgf:σ.geo f' <;>simp[Sig.part,Sig.set,h,hgf]
 | rings f' v'=>
   by_cases h:f'=f∧v'=v
   ·obtain⟨rfl,rfl⟩:=h
    cases hgf:σ.geo f' <;>simp[Sig.part,Sig.set,hn,hgf]
   ·cases hgf:σ.geo f' <;>simp[Sig.part,Sig.set,h,hgf]
 | arb f' v'=>
   by_cases h:f'=f∧v'=v
   ·obtain⟨rfl,rfl⟩:=h
    cases hgf:σ.geo f' <;>simp[Sig.part,Sig.set,hn,hgf]
   ·cases hgf:σ.geo f' <;>simp[Sig.part,Sig.set,h,hgf]
 | wheel f' v' i'=>
   by_cases h:f'=f∧v'=v
   ·obtain⟨rfl,rfl⟩:=h
    cases hgf:σ.geo f' <;>simp[Sig.part,Sig.set,hn,hgf]
   ·cases hgf:σ.geo f' <;>simp[Sig.part,Sig.set,h,hgf]
 | snd f' v' i' k'=>
   by_cases h:f'=f∧v'=v
   ·obtain⟨rfl,rfl⟩:=h
    cases hgf:σ.geo f' <;>simp[Sig.part,Sig.set,hn,hgf]
   ·cases hgf:σ.geo f' <;>simp[Sig.part,Sig.set,h,hgf]
 | rcv f' v' i' k'=>
   by_cases h:f'=f∧v'=v
   ·obtain⟨rfl,rfl⟩:=h
    cases hgf:σ.geo f' <;>simp[Sig.part,Sig.set,hn,hgf]
   ·cases hgf:σ.geo f' <;>simp[Sig.part,Sig.set,h,hgf]
theorem set_wheel (hn:σ.node f v=some (a,s)) (i:Nat) (L:List Nat) (r:Nat):∀x,x≠Cmp.wheel f v i→(σ.set f v a {s with left:=fun i'=>if i'=i then L else s.left i',from_:=fun i'=>if i'=i then r else s.from_ i'}).part x=σ.part x:=by
 intro x hx
 cases x with
 | plan f'=>rfl
 | fab f'=>rfl
 | link f' h'=>rfl
 | node f' v'=>
   by_cases h:f'=f∧v'=v
   ·obtain⟨rfl,rfl⟩:=h
    cases hgf:σ.geo f' <;>simp[Sig.part,Sig.set,hn,hgf]
   ·cases hgf:σ.geo f' <;>simp[Sig.part,Sig.set,h,hgf]
 | host f' v'=>
   by_cases h:f'=f∧v'=v
   ·obtain⟨rfl,rfl⟩:=h
    cases hgf:σ.geo f' <;>simp[Sig.part,Sig.set,hn,hgf]
   ·cases hgf:σ.geo f' <;>simp[Sig.part,Sig.set,h,hgf]
 | rings f' v'=>
   by_cases h:f'=f∧v'=v
   ·obtain⟨rfl,rfl⟩:=h
    cases hgf:σ.geo f' <;>simp[Sig.part,Sig.set,hn,hgf]
   ·cases hgf:σ.geo f' <;>simp[Sig.part,Sig.set,h,hgf]
 | arb f' v'=>
   by_cases h:f'=f∧v'=v
   ·obtain⟨rfl,rfl⟩:=h
    cases hgf:σ.geo f' <;>simp[Sig.part,Sig.set,hn,hgf]
   ·cases hgf:σ.geo f' <;>simp[Sig.part,Sig.set,h,hgf]
 | wheel f' v' i'=>
   by_cases h:f'=f∧v'=v
   ·obtain⟨rfl,rfl⟩:=h
    have hne:¬i'=i:=fun h=>hx (by rw[h])
    cases hgf:σ.geo f' <;>simp[Sig.part,Sig.set,hn,hne,hgf]
   ·cases hgf:σ.geo f' <;>simp[Sig.part,Sig.set,h,hgf]
 | snd f' v' i' k'=>
   by_cases h:f'=f∧v'=v
   ·obtain⟨rfl,rfl⟩:=h
    cases hgf:σ.geo f' <;>simp[Sig.part,Sig.set,hn,hgf]
   ·cases hgf:σ.geo f' <;>simp[Sig.part,Sig.set,h,hgf]
 | rcv f' v' i' k'=>
   by_cases h:f'=f∧v'=v
   ·obtain⟨rfl,rfl⟩:=h
    cases hgf:σ.geo f' <;>simp[Sig.part,Sig.set,hn,hgf]
   ·cases hgf:σ.geo f' <;>simp[Sig.part,Sig.set,h,hgf]
theorem set_snd (hn:σ.node f v=some (a,s)) (i k:Nat) (y1 y2:Int):∀x,x≠Cmp.snd f v i k→(σ.set f v a {s with sent:=fun i' k'=>if i'=i∧k'=k then y1 else s.sent i' k',limit:=fun i' k'=>if i'=i∧k'=k then y2 else s.limit i' k'}).part x=σ.part x:=by
 intro x hx
 cases x with
 | plan f'=>rfl
 | fab f'=>rfl
 | link f' h'=>rfl
 | node f' v'=>
   by_cases h:f'=f∧v'=v
   ·obtain⟨rfl,rfl⟩:=h
    cases hgf:σ.geo f' <;>simp[Sig.part,Sig.set,hn,hgf]
   ·cases hgf:σ.geo f' <;>simp[Sig.part,Sig.set,h,hgf]
 | host f' v'=>
   by_cases h:f'=f∧v'=v
   ·obtain⟨rfl,rfl⟩:=h
    cases hgf:σ.geo f' <;>simp[Sig.part,Sig.set,hn,hgf]
   ·cases hgf:σ.geo f' <;>simp[Sig.part,Sig.set,h,hgf]
 | rings f' v'=>
   by_cases h:f'=f∧v'=v
   ·obtain⟨rfl,rfl⟩:=h
    cases hgf:σ.geo f' <;>simp[Sig.part,Sig.set,hn,hgf]
   ·cases hgf:σ.geo f' <;>simp[Sig.part,Sig.set,h,hgf]
 | arb f' v'=>
   by_cases h:f'=f∧v'=v
   ·obtain⟨rfl,rfl⟩:=h
    cases hgf:σ.geo f' <;>simp[Sig.part,Sig.set,hn,hgf]
   ·cases hgf:σ.geo f' <;>simp[Sig.part,Sig.set,h,hgf]
 | wheel f' v' i'=>
   by_cases h:f'=f∧v'=v
   ·obtain⟨rfl,rfl⟩:=h
    cases hgf:σ.geo f' <;>simp[Sig.part,Sig.set,hn,hgf]
   ·cases hgf:σ.geo f' <;>simp[Sig.part,Sig.set,h,hgf]
 | snd f' v' i' k'=>
   by_cases h:f'=f∧v'=v
   ·obtain⟨rfl,rfl⟩:=h
    have hne:¬(i'=i∧k'=k):=fun h=>hx (by rw[h.1,h.2])
    cases hgf:σ.geo f' <;>simp[Sig.part,Sig.set,hn,hne,hgf]
   ·cases hgf:σ.geo f' <;>simp[Sig.part,Sig.set,h,hgf]
 | rcv f' v' i' k'=>
   by_cases h:f'=f∧v'=v
   ·obtain⟨rfl,rfl⟩:=h
    cases hgf:σ.geo f' <;>simp[Sig.part,Sig.set,hn,hgf]
   ·cases hgf:σ.geo f' <;>simp[Sig.part,Sig.set,h,hgf]
theorem set_rcv (hn:σ.node f v=some (a,s)) (i k:Nat) (y1 y2:Int):∀x,x≠Cmp.rcv f v i k→(σ.set f v a {s with next:=fun i' k'=>if i'=i∧k'=k then y1 else s.next i' k',held:=fun i' k'=>if i'=i∧k'=k then y2 else s.held i' k'}).part x=σ.part x:=by
 intro x hx
 cases x with
 | plan f'=>rfl
 | fab f'=>rfl
 | link f' h'=>rfl
 | node f' v'=>
   by_cases h:f'=f∧v'=v
   ·obtain⟨rfl,rfl⟩:=h
    cases hgf:σ.geo f' <;>simp[Sig.part,Sig.set,hn,hgf]
   ·cases hgf:σ.geo f' <;>simp[Sig.part,Sig.set,h,hgf]
 | host f' v'=>
   by_cases h:f'=f∧v'=v
   ·obtain⟨rfl,rfl⟩:=h
    cases hgf:σ.geo f' <;>simp[Sig.part,Sig.set,hn,hgf]
   ·cases hgf:σ.geo f' <;>simp[Sig.part,Sig.set,h,hgf]
 | rings f' v'=>
   by_cases h:f'=f∧v'=v
   ·obtain⟨rfl,rfl⟩:=h
    cases hgf:σ.geo f' <;>simp[Sig.part,Sig.set,hn,hgf]
   ·cases hgf:σ.geo f' <;>simp[Sig.part,Sig.set,h,hgf]
 | arb f' v'=>
   by_cases h:f'=f∧v'=v
   ·obtain⟨rfl,rfl⟩:=h
    cases hgf:σ.geo f' <;>simp[Sig.part,Sig.set,hn,hgf]
   ·cases hgf:σ.geo f' <;>simp[Sig.part,Sig.set,h,hgf]
 | wheel f' v' i'=>
   by_cases h:f'=f∧v'=v
   ·obtain⟨rfl,rfl⟩:=h
    cases hgf:σ.geo f' <;>simp[Sig.part,Sig.set,hn,hgf]
   ·cases hgf:σ.geo f' <;>simp[Sig.part,Sig.set,h,hgf]
 | snd f' v' i' k'=>
   by_cases h:f'=f∧v'=v
   ·obtain⟨rfl,rfl⟩:=h
    cases hgf:σ.geo f' <;>simp[Sig.part,Sig.set,hn,hgf]
   ·cases hgf:σ.geo f' <;>simp[Sig.part,Sig.set,h,hgf]
 | rcv f' v' i' k'=>
   by_cases h:f'=f∧v'=v
   ·obtain⟨rfl,rfl⟩:=h
    have hne:¬(i'=i∧k'=k):=fun h=>hx (by rw[h.1,h.2])
    cases hgf:σ.geo f' <;>simp[Sig.part,Sig.set,hn,hne,hgf]
   ·cases hgf:σ.geo f' <;>simp[Sig.part,Sig.set,h,hgf]
theorem SysF.stepHost (h:SysF σ w o) (hg:σ.geo f=some g) (hn:σ.node f v=some (a,s)) {q:Nat→List Pkt} (hw:HostNow w w' (fun k=>o k=some (.host f v)) 200 31 a.hb g.p.lanes g.p.queue q):
  ∃o',SysF (σ.set f v a {s with q:=q}) w' o'∧Ext o w o' w':=by
 obtain⟨S',h1,h2,h3⟩:=hw
 refine Sys.step h (.host f v) (set_host hn q) h2 ?_
 simp only[Sig.part,Sig.set,hg,and_self,if_true]
 exact h1.wider (fun k hk=>(h3 k hk).elim .inl (fun h=> .inr ⟨h,h1.lt' k hk⟩)) (fun k hk=>hk.elim (fun e=>Nat.lt_of_lt_of_le (Sys.lt h k _ e) h2.size) (fun e=>e.2))
theorem SysF.stepRings (h:SysF σ w o) (hg:σ.geo f=some g) (hn:σ.node f v=some (a,s)) {n:Nat} {Q:Way→List Pkt} (hk:Keeps (fun k=>o k=some (.rings f v)) w w') (hw:RingsV w' (more (fun k=>o k=some (.rings f v)) w w') a.rb (g.ports v:Int) g.p.lanes n Q):
  ∃o',SysF (σ.set f v a {s with free:=n,Q:=Q}) w' o'∧Ext o w o' w':=by
 refine Sys.step h (.rings f v) (set_rings hn n Q) hk ?_
 simp only[Sig.part,Sig.set,hg,and_self,if_true]
 exact hw
theorem SysF.stepWheel (h:SysF σ w o) (hg:σ.geo f=some g) (hn:σ.node f v=some (a,s)) {i:Nat} (hi:i < g.ports v) {L:List Nat} {r:Nat} (hk:Keeps (fun k=>o k=some (.wheel f v i)) w w') (hw:WheelV w' (more (fun k=>o k=some (.wheel f v i)) w w') (a.wb i) g.ws L r):
  ∃o',SysF (σ.set f v a {s with left:=fun i'=>if i'=i then L else s.left i',from_:=fun i'=>if i'=i then r else s.from_ i'}) w' o'∧Ext o w o' w':=by
 refine Sys.step h (.wheel f v i) (set_wheel hn i L r) hk ?_
 simp only[Sig.part,Sig.set,hg,and_self,if_true,hi]
 exact hw
theorem SysF.stepSnd (h:SysF σ w o) (hg:σ.geo f=some g) (hn:σ.node f v=some (a,s)) {i k:Nat} (h1:1≤i) (hi:i < g.ports v) (hk':k < g.ws.length) {y1 y2:Int} (hk:Keeps (fun b=>b=a.sb i k) w w') (hw:SendAt w' (a.sb i k) y1 y2):
  ∃o',SysF (σ.set f v a {s with sent:=fun i' k'=>if i'=i∧k'=k then y1 else s.sent i' k',limit:=fun i' k'=>if i'=i∧k'=k then y2 else s.limit i' k'}) w' o'∧Ext o w o' w':=by
 have hb:=(h.sendAt hg hn h1 hi hk').2
 have hK:Keeps (fun b=>o b=some (.snd f v i k)) w w':=hk.mono (fun b _ e=>by rw[e];exact hb)
 refine Sys.step h (.snd f v i k) (set_snd hn i k y1 y2) hK ?_
 simp only[Sig.part,Sig.set,hg,and_self,if_true,h1,hi,hk']
 exact⟨hw, .inl hb,fun b e=>e.elim (fun e=>Nat.lt_of_lt_of_le (Sys.lt h b _ e) hK.size) (fun e=>e.2)⟩
theorem SysF.stepRcv (h:SysF σ w o) (hg:σ.geo f=some g) (hn:σ.node f v=some (a,s)) {i k:Nat} (h1:1≤i) (hi:i < g.ports v) (hk':k < g.ws.length) {y1 y2:Int} (hk:Keeps (fun b=>b=a.cb i k) w w') (hw:RecvAt w' (a.cb i k) y1 y2 g.p.room):
  ∃o',SysF (σ.set f v a {s with next:=fun i' k'=>if i'=i∧k'=k then y1 else s.next i' k',held:=fun i' k'=>if i'=i∧k'=k then y2 else s.held i' k'}) w' o'∧Ext o w o' w':=by
 have hb:=(h.recvAt hg hn h1 hi hk').2
 have hK:Keeps (fun b=>o b=some (.rcv f v i k)) w w':=hk.mono (fun b _ e=>by rw[e];exact hb)
 refine Sys.step h (.rcv f v i k) (set_rcv hn i k y1 y2) hK ?_
 simp only[Sig.part,Sig.set,hg,and_self,if_true,h1,hi,hk']
 exact⟨hw, .inl hb,fun b e=>e.elim (fun e=>Nat.lt_of_lt_of_le (Sys.lt h b _ e) hK.size) (fun e=>e.2)⟩
theorem set_get (f v:Nat) (a:NodeA) (s:NodeS):(σ.set f v a s).node f v=some (a,s):=by simp[Sig.set]
theorem set_set (f v:Nat) (a:NodeA) (s s':NodeS):(σ.set f v a s).set f v a s'=σ.set f v a s':=by
 unfold Sig.set
 congr 1
 funext f' v'
 by_cases h:f'=f∧v'=v <;>simp[h]
theorem Ext.tab {o':Nat→Option Cmp} (h:Ext o w o' w') (ht:Tab w) (h0:o 0=none):Tab w'∧o' 0=none:=
 ⟨ht.keeps h.1 (by show ¬(o 0).isSome=true;rw[h0];decide),(h.2 0 ht.pos).trans h0⟩
end
end Go.Proofs.YtebnflpanfmicaaGreatDoor
namespace Go.Proofs.YtebnflpanfmicaaGreatDoor
open Go.RowKit
section
variable {σ:Sig} {w:World} {o:Nat→Option Cmp} {f v:Nat} {g:Geo} {a:NodeA} {s:NodeS}
theorem set_self (hn:σ.node f v=some (a,s)):σ.set f v a s=σ:=by
 unfold Sig.set
 congr 1
 funext f' v'
 by_cases h:f'=f∧v'=v
 ·obtain⟨rfl,rfl⟩:=h;simp[hn]
 ·simp[h]
theorem SysF.calm' {σ:Sig} {w w':World} {o:Nat→Option Cmp} (h:SysF σ w o) (hk:Keeps (fun _=>False) w w'):SysF σ w' o:=Sys.calm h hk
abbrev lanePtrs (a:NodeA) (i k:Nat):Value:= .agg #[.pointer (some ⟨a.sb i k,0,none⟩), .pointer (some ⟨a.cb i k,0,none⟩)]
set_option maxRecDepth 100000 in
set_option maxHeartbeats 8000000 in
theorem data_far (h:NodeR w (fun k=>o k=some (.node f v)) g v a s.ticks) (i k:Nat) (fr:Frm) (hs0:0≤fr.src∧fr.src≤255) (hd0:0≤fr.dst∧fr.dst≤255) (hbad:(g.t.length:Int)+1≤max fr.src fr.dst):
  Calls Tryz.prog 122 #[.pointer (some ⟨a.nb,0,none⟩), .int .i64 i,lanePtrs a i k,fr.val] w fun e w'=>e= .returned (.int .u16 30)∧Keeps (fun _=>False) w w':=by
 obtain⟨f0,f1,f2,f3,f4,f5⟩:=fr
 simp only at hs0 hd0 hbad
 have cn:w.cell? ⟨a.nb,1,none⟩=some (.int .i64 ((g.t.length:Int)+1)):=by rw[blk_cell h.box];rfl
 clear h
 unfold lanePtrs Frm.val
 simp only
 generalize a.sb i k=sb at*
 generalize a.cb i k=cb at*
 have hk0:Keeps (fun _=>False) w ((w.alloc (.cells #[.pointer (some ⟨sb,0,none⟩), .pointer (some ⟨cb,0,none⟩)] 172)).alloc (.cells #[.int .u8 f0, .int .u8 f1, .int .u16 f2, .int .u8 f3, .int .u8 f4, .int .u32 f5] 210)):=(Keeps.alloc _ _ _).trans (Keeps.alloc _ _ _)
 have hb:=blk_new (w.alloc (.cells #[.pointer (some ⟨sb,0,none⟩), .pointer (some ⟨cb,0,none⟩)] 172)) (.cells #[.int .u8 f0, .int .u8 f1, .int .u16 f2, .int .u8 f3, .int .u8 f4, .int .u32 f5] 210)
 rw[World.size_alloc]at hb
 have d0:=hk0.cell cn (fun h=>h)
 have z3:=blk_cell hb 3
 have z4:=blk_cell hb 4
 simp only[List.getElem?_toArray,List.getElem?_cons_zero,List.getElem?_cons_succ]at z3 z4
 have HK0:=Lib.hid hk0
 obtain⟨m,hm⟩:∃m,max f3 f4=m:=⟨_,rfl⟩
 rw[hm]at hbad
 have hm1:IntKind.i64.wrap m=m:=by simp[IntKind.wrap,IntKind.bits,IntKind.signed];omega
 clear hb hk0 cn
 go_enter Tryz.func122,Tryz.ntmps122
 go_wp2_with fail
 generalize (w.alloc (.cells #[.pointer (some ⟨sb,0,none⟩), .pointer (some ⟨cb,0,none⟩)] 172)).alloc (.cells #[.int .u8 f0, .int .u8 f1, .int .u16 f2, .int .u8 f3, .int .u8 f4, .int .u32 f5] 210)=X at*
 go_quiet (fail)
 go_wp2_with fail
 go_ret
 exact⟨rfl,HK0.out.trans (Keeps.drewN _ _ _)⟩
set_option maxRecDepth 100000 in
set_option maxHeartbeats 8000000 in
theorem data_no (h:NodeR w (fun k=>o k=some (.node f v)) g v a s.ticks) (i k:Nat) (nx hd rm:Int) (hr:RecvAt w (a.cb i k) nx hd rm) (fr:Frm) (hs0:0≤fr.src∧fr.src≤255) (hd0:0≤fr.dst∧fr.dst≤255) (hok:max fr.src fr.dst≤(g.t.length:Int)) (c:Int) (hc:comeE nx hd rm fr.seq=c) (hc0:c≠0):
  Calls Tryz.prog 122 #[.pointer (some ⟨a.nb,0,none⟩), .int .i64 i,lanePtrs a i k,fr.val] w fun e w'=>e= .returned (.int .u16 c)∧Keeps (fun _=>False) w w':=by
 obtain⟨f0,f1,f2,f3,f4,f5⟩:=fr
 simp only at hs0 hd0 hok hc
 have cn:w.cell? ⟨a.nb,1,none⟩=some (.int .i64 ((g.t.length:Int)+1)):=by rw[blk_cell h.box];rfl
 clear h
 unfold lanePtrs Frm.val
 simp only
 generalize a.sb i k=sb at*
 generalize a.cb i k=cb at*
 have hk0:Keeps (fun _=>False) w ((w.alloc (.cells #[.pointer (some ⟨sb,0,none⟩), .pointer (some ⟨cb,0,none⟩)] 172)).alloc (.cells #[.int .u8 f0, .int .u8 f1, .int .u16 f2, .int .u8 f3, .int .u8 f4, .int .u32 f5] 210)):=(Keeps.alloc _ _ _).trans (Keeps.alloc _ _ _)
 have hb:=blk_new (w.alloc (.cells #[.pointer (some ⟨sb,0,none⟩), .pointer (some ⟨cb,0,none⟩)] 172)) (.cells #[.int .u8 f0, .int .u8 f1, .int .u16 f2, .int .u8 f3, .int .u8 f4, .int .u32 f5] 210)
 have hb6:=blk_alloc (blk_new w (.cells #[.pointer (some ⟨sb,0,none⟩), .pointer (some ⟨cb,0,none⟩)] 172)) (.cells #[.int .u8 f0, .int .u8 f1, .int .u16 f2, .int .u8 f3, .int .u8 f4, .int .u32 f5] 210)
 rw[World.size_alloc]at hb
 have d0:=hk0.cell cn (fun h=>h)
 have z3:=blk_cell hb 3
 have z4:=blk_cell hb 4
 have z2:=blk_cell hb 2
 have z6:=blk_cell hb6 1
 simp only[List.getElem?_toArray,List.getElem?_cons_zero,List.getElem?_cons_succ]at z3 z4 z2 z6
 have HC:=Lib.hid (p:=∀U,Keeps (fun _=>False) w U→_) fun U hU=>come_no cb nx hd rm f2 U (hr.keeps hU (fun h=>h)) (by rw[hc];exact hc0)
 rw[hc]at HC
 have HK0:=Lib.hid hk0
 obtain⟨m,hm⟩:∃m,max f3 f4=m:=⟨_,rfl⟩
 rw[hm]at hok
 have hm1:IntKind.i64.wrap m=m:=by simp[IntKind.wrap,IntKind.bits,IntKind.signed];omega
 have hm2:¬(g.t.length:Int)+1≤m:=by omega
 have hcb:(c == 0)=false:=by rw[beq_eq_false_iff_ne];exact hc0
 clear hb hb6 hk0 cn hr hc hc0
 go_enter Tryz.func122,Tryz.ntmps122
 go_wp2_with fail
 generalize (w.alloc (.cells #[.pointer (some ⟨sb,0,none⟩), .pointer (some ⟨cb,0,none⟩)] 172)).alloc (.cells #[.int .u8 f0, .int .u8 f1, .int .u16 f2, .int .u8 f3, .int .u8 f4, .int .u32 f5] 210)=X at*
 go_quiet (fail)
 rename_i nq
 have hkq:Keeps (fun _=>False) X (X.drewN nq):=Keeps.drewN _ _ _
 have y2:=hkq.cell z2 (fun h=>h)
 have y6:=hkq.cell z6 (fun h=>h)
 have hC:=Lib.hid (HC.out _ (HK0.out.trans hkq))
 have HKV:=Lib.hid (HK0.out.trans hkq)
 clear hkq z2 z3 z4 z6 d0 HC
 generalize X.drewN nq=V at*
 go_wp2_with fail
 refine hC.out.mono ?_
 rintro e U ⟨rfl,hU⟩
 have HU:=Lib.hid (HKV.out.trans hU)
 clear hU hC y2 y6
 go_wp2_with fail
 go_ret
 exact⟨rfl,HU.out⟩
theorem towardI_range (t:List Nat) (v d:Nat):0≤towardI t v d∧towardI t v d < ((nb t v).length+1:Nat):=by
 unfold towardI
 split
 ·omega
 ·have:=idxI_le (nb t v) (nxt t v d);omega
def dataS (g:Geo) (v i k:Nat) (fr:Frm) (s:NodeS):NodeS:=
 {s with next:=fun i' k'=>if i'=i∧k'=k then W64 (widen (s.next i k) fr.seq+1)else s.next i' k',held:=fun i' k'=>if i'=i∧k'=k then wrap64 (s.held i k+1)else s.held i' k',
         free:=s.free - 1,Q:=pushQ s.Q s.free ⟨i,towardI g.t v fr.dst.toNat,fr.lane⟩ ⟨fr.src,fr.dst,fr.lane,fr.body⟩}
set_option maxRecDepth 100000 in
set_option maxHeartbeats 8000000 in
theorem data_ok (h:SysF σ w o) (hg:σ.geo f=some g) (hn:σ.node f v=some (a,s)) (hv:v≤g.t.length) (hlv:∀i,∃A n c,a.lv i= .slice A n c) (i k:Nat) (h1:1≤i) (hi:i < g.ports v) (hk':k < g.ws.length) (fr:Frm) (d:Nat) (hd:fr.dst=(d:Int)) (hdl:d≤g.t.length) (hs0:0≤fr.src∧fr.src≤(g.t.length:Int)) (hlane:fr.lane=(k:Int)) (hc:comeE (s.next i k) (s.held i k) g.p.room fr.seq=0):
  Calls Tryz.prog 122 #[.pointer (some ⟨a.nb,0,none⟩), .int .i64 i,lanePtrs a i k,fr.val] w fun e w'=>e= .returned (.int .u16 0)∧∃o',SysF (σ.set f v a (dataS g v i k fr s)) w' o'∧Ext o w o' w':=by
 obtain⟨f0,f1,f2,f3,f4,f5⟩:=fr
 simp only at hd hs0 hlane hc
 subst hd hlane
 have hp:=h.planS hg
 have h5:=hp.t5
 have hN:=h.nodeR hg hn
 have cn:w.cell? ⟨a.nb,1,none⟩=some (.int .i64 ((g.t.length:Int)+1)):=by rw[blk_cell hN.box];rfl
 obtain⟨hr,hob⟩:=h.recvAt hg hn h1 hi hk'
 have hL3:g.ws.length≤3:=by have:=hp.nums.lanes.2;have:=hp.lanes;omega
 have hk0:Keeps (fun _=>False) w ((w.alloc (.cells #[.pointer (some ⟨a.sb i k,0,none⟩), .pointer (some ⟨a.cb i k,0,none⟩)] 172)).alloc (.cells #[.int .u8 f0, .int .u8 (k:Int), .int .u16 f2, .int .u8 f3, .int .u8 (d:Int), .int .u32 f5] 210)):=(Keeps.alloc _ _ _).trans (Keeps.alloc _ _ _)
 have hb:=blk_new (w.alloc (.cells #[.pointer (some ⟨a.sb i k,0,none⟩), .pointer (some ⟨a.cb i k,0,none⟩)] 172)) (.cells #[.int .u8 f0, .int .u8 (k:Int), .int .u16 f2, .int .u8 f3, .int .u8 (d:Int), .int .u32 f5] 210)
 have hb6:=blk_alloc (blk_new w (.cells #[.pointer (some ⟨a.sb i k,0,none⟩), .pointer (some ⟨a.cb i k,0,none⟩)] 172)) (.cells #[.int .u8 f0, .int .u8 (k:Int), .int .u16 f2, .int .u8 f3, .int .u8 (d:Int), .int .u32 f5] 210)
 rw[World.size_alloc]at hb
 have hbw:w.heap.size+1≠a.cb i k:=fun e=>by have:=Sys.lt h _ _ hob;omega
 have d0:=hk0.cell cn (fun h=>h)
 have z3:=blk_cell hb 3
 have z4:=blk_cell hb 4
 have z2:=blk_cell hb 2
 have z6:=blk_cell hb6 1
 simp only[List.getElem?_toArray,List.getElem?_cons_zero,List.getElem?_cons_succ]at z3 z4 z2 z6
 have HC:=Lib.hid (p:=∀U,Keeps (fun _=>False) w U→_) fun U hU=>come_yes (a.cb i k) _ _ _ f2 U (hr.keeps hU (fun h=>h)) hc
 have HK0:=Lib.hid hk0
 have H:=Lib.hid h
 obtain⟨m,hm⟩:∃m,max f3 (d:Int)=m:=⟨_,rfl⟩
 have hm1:IntKind.i64.wrap m=m:=by simp[IntKind.wrap,IntKind.bits,IntKind.signed];omega
 have hm2:¬(g.t.length:Int)+1≤m:=by omega
 have w3:IntKind.i64.wrap f3=f3:=by simp[IntKind.wrap,IntKind.bits,IntKind.signed];omega
 have w4:IntKind.i64.wrap (d:Int)=(d:Int):=by simp[IntKind.wrap,IntKind.bits,IntKind.signed];omega
 have w1:IntKind.i64.wrap (k:Int)=(k:Int):=by simp[IntKind.wrap,IntKind.bits,IntKind.signed];omega
 have HB:=Lib.hid hb
 have HBW:=Lib.hid hbw
 clear hb hb6 hk0 cn hr hc hN hp h hob hbw
 unfold lanePtrs Frm.val
 simp only
 go_enter Tryz.func122,Tryz.ntmps122
 go_wp2_with fail
 generalize (w.alloc (.cells #[.pointer (some ⟨a.sb i k,0,none⟩), .pointer (some ⟨a.cb i k,0,none⟩)] 172)).alloc (.cells #[.int .u8 f0, .int .u8 (k:Int), .int .u16 f2, .int .u8 f3, .int .u8 (d:Int), .int .u32 f5] 210)=X at*
 go_quiet (fail)
 rename_i nq
 have hkq:Keeps (fun _=>False) X (X.drewN nq):=Keeps.drewN _ _ _
 have y2:=hkq.cell z2 (fun h=>h)
 have y6:=hkq.cell z6 (fun h=>h)
 have hC:=Lib.hid (HC.out _ (HK0.out.trans hkq))
 have HKV:=Lib.hid (HK0.out.trans hkq)
 have HBV:=Lib.hid (blk_keeps hkq HB.out (fun h=>h))
 clear hkq z2 z3 z4 z6 d0 HC HB
 generalize X.drewN nq=V at*
 go_wp2_with fail
 refine hC.out.mono ?_
 rintro e U ⟨rfl,hU,hrU⟩
 obtain⟨o1,hS1,hE1⟩:=SysF.stepRcv (H.out.calm HKV.out) hg hn h1 hi hk' hU hrU
 have hbU:=blk_keeps hU HBV.out HBW.out
 have y1:=blk_cell hbU 1
 have y3:=blk_cell hbU 3
 have y4:=blk_cell hbU 4
 have y5:=blk_cell hbU 5
 simp only[List.getElem?_toArray,List.getElem?_cons_zero,List.getElem?_cons_succ]at y1 y3 y4 y5
 have HS1:=Lib.hid hS1
 have HE1:=Lib.hid ((Ext.keeps o HKV.out).trans hE1)
 clear hU hrU hS1 hE1 hbU hC y2 y6 HBV
 go_wp2_with fail
 have hkY:Keeps (fun _=>False) U (U.alloc (.cells #[.int .i64 f3, .int .i64 (d:Int), .int .i64 (k:Int), .int .u32 f5] 31)):=Keeps.alloc _ _ _
 have hpk:PktAt (U.alloc (.cells #[.int .i64 f3, .int .i64 (d:Int), .int .i64 (k:Int), .int .u32 f5] 31)) U.heap.size ⟨f3,d,k,f5⟩:=blk_new U _
 have hS2:=SysF.calm' HS1.out hkY
 have hfresh:o1 U.heap.size=none:=by
  cases e:o1 U.heap.size with
  | none=>rfl
  | some x=>have:=Sys.lt HS1.out _ _ e;omega
 generalize U.alloc (.cells #[.int .i64 f3, .int .i64 (d:Int), .int .i64 (k:Int), .int .u32 f5] 31)=Y at*
 generalize U.heap.size=yb at*
 have hn1:=set_get (σ:=σ) f v a {s with next:=fun i' k'=>if i'=i∧k'=k then W64 (widen (s.next i k) f2+1)else s.next i' k',held:=fun i' k'=>if i'=i∧k'=k then wrap64 (s.held i k+1)else s.held i' k'}
 have N1:=hS2.nodeR hg hn1
 have P1:=hS2.planS hg
 have R1:=hS2.ringsV hg hn1
 have c15:Y.cell? ⟨a.nb,15,none⟩=some (.pointer (some ⟨a.rb,0,none⟩)):=by rw[blk_cell N1.box];rfl
 obtain⟨q0,q1,q2,q3⟩:=hpk.cells
 simp only at q0 q1 q2 q3
 have hnbo:o1 a.nb=some (.node f v):=N1.sb
 have HT:=Lib.hid (p:=∀W,Keeps (fun _=>False) Y W→_) fun W hW=>toward_runs (N1.keeps hW (fun _ _ h=>h)) (P1.keeps hW (fun _ _ h=>h)) hlv hv d hdl
 have hrange:=towardI_range g.t v d
 have hlan:=P1.lanes
 have HPU:=Lib.hid (p:=∀W,Keeps (fun _=>False) Y W→_) fun W hW=>push_runs a.rb _ _ _ _ _ W (R1.keeps hW (fun _ _ h=>h)) ⟨(i:Int),towardI g.t v d,(k:Int)⟩ ⟨f3,d,k,f5⟩ ⟨by simp only;omega,by simp only;omega⟩ hrange ⟨by simp only;omega,by simp only;omega⟩
 have HSS:=Lib.hid (p:=∀(F:Nat→Prop) W,Keeps F Y W→¬F a.nb→¬F yb→W.cell? ⟨a.nb,15,none⟩=some (.pointer (some ⟨a.rb,0,none⟩))∧W.cell? ⟨yb,0,none⟩=some (.int .i64 f3)∧W.cell? ⟨yb,1,none⟩=some (.int .i64 (d:Int))∧W.cell? ⟨yb,2,none⟩=some (.int .i64 (k:Int))∧W.cell? ⟨yb,3,none⟩=some (.int .u32 f5)) fun F W hW h1 h2=>⟨hW.cell c15 h1,hW.cell q0 h2,hW.cell q1 h2,hW.cell q2 h2,hW.cell q3 h2⟩
 have hF1:¬(fun k=>o1 k=some (Cmp.rings f v)) a.nb:=by simp only;rw[hnbo];intro h;cases h
 have hF2:¬(fun k=>o1 k=some (Cmp.rings f v)) yb:=by simp only;rw[hfresh];intro h;cases h
 have hd:Keeps (fun _=>False) Y Y.drew:=Keeps.drew _ _
 have hsd:=HSS.out _ _ hd (fun h=>h) (fun h=>h)
 have HS2:=Lib.hid hS2
 have HE2:=Lib.hid (HE1.out.trans (Ext.keeps o1 hkY))
 clear hkY hpk hS2 N1 P1 R1 hn1 c15 q0 q1 q2 q3 hnbo hfresh HS1 HE1 y1 y3 y4 y5
 go_region_held3 (fun W=>W.cell? ⟨a.nb,15,none⟩=some (.pointer (some ⟨a.rb,0,none⟩))∧W.cell? ⟨yb,0,none⟩=some (.int .i64 f3)∧W.cell? ⟨yb,1,none⟩=some (.int .i64 (d:Int))∧W.cell? ⟨yb,2,none⟩=some (.int .i64 (k:Int))∧W.cell? ⟨yb,3,none⟩=some (.int .u32 f5))
  (with_reducible first | exact hsd | exact hsW | exact hsZ | go_keep)
  (first
   | (go_at_call 172;refine(HT.out _ hd).mono ?_;rintro e W ⟨rfl,hW⟩;have hYW:=hd.trans hW;have hsW:=HSS.out _ _ hYW (fun h=>h) (fun h=>h))
   | (go_at_call 171;refine(HPU.out _ hYW).mono ?_;rintro e Z ⟨rfl,hZ,hRZ⟩;have hsZ:=HSS.out _ _ ((hYW.mono (fun _ _ h=>h.elim)).trans hZ) hF1 hF2))
 have hn1:=set_get (σ:=σ) f v a {s with next:=fun i' k'=>if i'=i∧k'=k then W64 (widen (s.next i k) f2+1)else s.next i' k',held:=fun i' k'=>if i'=i∧k'=k then wrap64 (s.held i k+1)else s.held i' k'}
 obtain⟨o2,hS3,hE3⟩:=SysF.stepRings (SysF.calm' HS2.out hYW) hg hn1 hZ hRZ
 rw[set_set]at hS3
 have HS3:=Lib.hid hS3
 have HE3:=Lib.hid ((HE2.out.trans (Ext.keeps o1 hYW)).trans hE3)
 clear hS3 hE3 hZ hRZ hYW hsW hsZ hsd hd HT HPU HSS hn1
 go_wp2_with fail
 go_ret
 exact⟨rfl,o2,HS3.out,HE3.out⟩
end
end Go.Proofs.YtebnflpanfmicaaGreatDoor
namespace Go.Proofs.YtebnflpanfmicaaGreatDoor
open Go.RowKit
def mayOne (s:NodeS) (i t k:Nat):Bool:=decide ((s.Q ⟨i,t,k⟩).length≠0) && (decide (t=0) || decide (0 < opn (s.sent t k) (s.limit t k)))
def mayTo (s:NodeS) (i t:Nat):Nat→Nat
 | 0=>0
 | k+1=>if mayOne s i t k then mayTo s i t k+2^k else mayTo s i t k
theorem mayTo_lt (s:NodeS) (i t:Nat):∀k,mayTo s i t k < 2^k
 | 0=>by simp[mayTo]
 | k+1=>by
   have:=mayTo_lt s i t k
   unfold mayTo
   split <;>omega
theorem or_bit (m k:Nat) (hm:m < 2^k) (hk:k≤2):bits .or .u16 (m:Int) (IntKind.u16.wrap (2^k))=((m+2^k:Nat):Int):=by
 match k,hk with
 | 0,_=>match m,hm with | 0,_=>decide+kernel
 | 1,_=>match m,hm with | 0,_=>decide+kernel | 1,_=>decide+kernel
 | 2,_=>match m,hm with | 0,_=>decide+kernel | 1,_=>decide+kernel | 2,_=>decide+kernel | 3,_=>decide+kernel
section
variable {σ:Sig} {w:World} {o:Nat→Option Cmp} {f v:Nat} {g:Geo} {a:NodeA} {s:NodeS}
set_option maxRecDepth 100000 in
set_option maxHeartbeats 8000000 in
theorem may_runs (h:SysF σ w o) (hg:σ.geo f=some g) (hn:σ.node f v=some (a,s)) (i t:Nat) (hi:i < g.ports v) (ht:t < g.ports v):
  Calls Tryz.prog 180 #[.pointer (some ⟨a.nb,0,none⟩), .int .i64 i, .int .i64 t] w fun e w'=>e= .returned (.int .u16 (mayTo s i t g.ws.length:Nat))∧Keeps (fun _=>False) w w':=by
 have hp:=h.planS hg
 have hL3:g.ws.length≤3:=by have:=hp.nums.lanes.2;have:=hp.lanes;omega
 have hpl:=hp.lanes
 have N:=h.nodeR hg hn
 have cl:=N.lanesN hpl
 obtain⟨z,hz⟩:∃z,mayTo s i t g.ws.length=z:=⟨_,rfl⟩
 rw[hz]
 have HZ:=Lib.hid hz
 have H:=Lib.hid h
 clear hz h hp N hpl
 generalize hL:g.ws.length=L at*
 have HL:=Lib.hid hL
 clear hL
 go_enter Tryz.func180,Tryz.ntmps180
 go_wp2_with fail
 clear cl
 go_loopw [7,14] (fun m c wr=>∃k:Nat,k≤L∧c= .int .i64 (k:Int)∧m= .int .u16 (mayTo s i t k:Nat)∧Keeps (fun _=>False) w wr) (fun _ c _=>L - (intOf c).toNat)
 case atStart=>exact⟨0,Nat.zero_le _,rfl,rfl,Keeps.refl _ _⟩
 case round=>
  obtain⟨k,hk,rfl,rfl,hkw⟩:=hrel
  by_cases hkl:k < L
  ·have hkk:(k:Int) < (L:Int):=by omega
   have hk0:(0:Int)≤(k:Int):=by omega
   have hLg:=HL.out
   have Hw:=SysF.calm' H.out hkw
   have N:=Hw.nodeR hg hn
   have c15:wr.cell? ⟨a.nb,15,none⟩=some (.pointer (some ⟨a.rb,0,none⟩)):=by rw[blk_cell N.box];rfl
   have HC:=Lib.hid (rlen_runs a.rb _ _ _ _ _ wr (Hw.ringsV hg hn) ⟨(i:Int),(t:Int),(k:Int)⟩)
   have hstep:mayTo s i t (k+1)=if mayOne s i t k then mayTo s i t k+2^k else mayTo s i t k:=rfl
   have HST:=Lib.hid hstep
   have HB0:=Lib.hid (p:=(s.Q ⟨i,t,k⟩).length=0→mayOne s i t k=false) fun h=>by unfold mayOne;rw[h];rfl
   have HB1:=Lib.hid (p:=(s.Q ⟨i,t,k⟩).length≠0→t=0→mayOne s i t k=true) fun h h2=>by unfold mayOne;rw[decide_eq_true h,decide_eq_true h2];rfl
   have HB2:=Lib.hid (p:=(s.Q ⟨i,t,k⟩).length≠0→t≠0→mayOne s i t k=decide (0 < opn (s.sent t k) (s.limit t k))) fun h h2=>by unfold mayOne;rw[decide_eq_true h,decide_eq_false h2];rfl
   have HOR:=Lib.hid (or_bit (mayTo s i t k) k (mayTo_lt s i t k) (by omega))
   have HK:=Lib.hid hkw
   clear hkw hstep
   generalize (s.Q ⟨i,t,k⟩).length=len at*
   generalize mayTo s i t k=m at*
   go_wp2_with fail
   refine HC.out.mono ?_
   rintro e W ⟨rfl,rfl⟩
   by_cases hl0:len=0
   ·have hb:((len:Int) == 0)=true:=by rw[beq_iff_eq];omega
    have HF:=Lib.hid hl0
    clear hl0
    go_wp2_with fail
    go_roundw
    case rel=>exact⟨k+1,by omega,by go_num,by rw[HST.out,HB0.out HF.out];rfl,HK.out⟩
    case measure=>simp[intOf];omega
   ·have hb:((len:Int) == 0)=false:=by rw[beq_eq_false_iff_ne];omega
    have HF:=Lib.hid hl0
    clear hl0
    by_cases ht0:t=0
    ·have hb2:((t:Int) == 0)=true:=by rw[beq_iff_eq];omega
     have HT:=Lib.hid ht0
     clear ht0
     go_wp2_with fail
     go_roundw
     case rel=>exact⟨k+1,by omega,by go_num,by rw[HST.out,HB1.out HF.out HT.out,HOR.out];rfl,HK.out⟩
     case measure=>simp[intOf];omega
    ·have hb2:((t:Int) == 0)=false:=by rw[beq_eq_false_iff_ne];omega
     have HT:=Lib.hid ht0
     have Hw:=SysF.calm' H.out HK.out
     have N:=Hw.nodeR hg hn
     obtain⟨gp,op,cp,gl,ol,cl,e1,e2,q1,q2,q3⟩:=N.lane (i:=t) (k:=k) (by omega) ht (by omega)
     have c13:wr.cell? ⟨a.nb,13,none⟩=some a.pv:=by rw[blk_cell N.box];rfl
     have HU:=Lib.hid (usable_runs _ _ _ wr (Hw.sendAt hg hn (by omega) ht (by omega:k < g.ws.length)).1)
     rw[e1]at c13
     rw[e2,hLg]at q1
     have ht1:(t:Int) < ((g.ports v:Nat):Int):=by omega
     have htn:(0:Int)≤(t:Int):=by omega
     clear ht0 Hw N e1 e2 q3 HC
     generalize g.ports v=n at*
     generalize a.sb t k=sb at*
     generalize opn (s.sent t k) (s.limit t k)=u at*
     go_wp2_with fail
     refine HU.out.mono ?_
     rintro e U ⟨rfl,hU⟩
     have HKU:=Lib.hid (HK.out.trans hU)
     clear hU HU q1 q2 c13
     by_cases hu:0 < u
     ·have HUU:=Lib.hid hu
      go_wp2_with fail
      go_roundw
      case rel=>exact⟨k+1,by omega,by go_num,by rw[HST.out,HB2.out HF.out HT.out,decide_eq_true HUU.out,HOR.out];rfl,HKU.out⟩
      case measure=>simp[intOf];omega
     ·have HUU:=Lib.hid hu
      go_wp2_with fail
      go_roundw
      case rel=>exact⟨k+1,by omega,by go_num,by rw[HST.out,HB2.out HF.out HT.out,decide_eq_false (Int.not_lt.2 HUU.out)];rfl,HKU.out⟩
      case measure=>simp[intOf];omega
  ·obtain rfl:k=L:=by omega
   have hkk:¬((k:Int) < (k:Int)):=by omega
   have HK:=Lib.hid hkw
   clear hkw
   have hz:=HZ.out
   have HE:=Lib.hid hz
   clear hz
   go_wp2_with fail
   go_ret
   exact⟨by rw[←HE.out];rfl,HK.out⟩
end
end Go.Proofs.YtebnflpanfmicaaGreatDoor
