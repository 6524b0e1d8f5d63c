/-
  Nice28 to Nice36, as one text. Proved step by step; no conditions beside what is said.
-/
import Derived.Carry
import Derived.ChangeOld
import Derived.Deep.Slices
import Derived.OpenShut
import Derived.WideShapes
import Derived.Test.YtkjpldganajkkaaGreatDoorQ5
set_option linter.unusedSimpArgs false
set_option linter.unusedVariables false
set_option linter.unusedSectionVars false
set_option maxRecDepth 100000
namespace Go.Proofs.YtkjpldganajkkaaGreatDoor.NICE
open Go Go.RowKit
variable {P:Program}
def CallLe (F G:CallF):Prop:=∀f asX h r,F f asX h=some r→G f asX h=some r
theorem CallLe.refl (F:CallF):CallLe F F:=fun _ _ _ _ e=>e
theorem CallLe.trans {F G H:CallF} (a:CallLe F G) (b:CallLe G H):CallLe F H:=fun f asX h r e=>b _ _ _ _ (a _ _ _ _ e)
theorem doOp_mono {F G:CallF} (hl:CallLe F G) {ρ o h r} (e:doOp P F ρ o h=some r):doOp P G ρ o h=some r:=by
 unfold doOp at e⊢
 split
 ·rename_i c hc;rw[hc] at e;simp only at e
  split
  ·rename_i f asX hn;rw[hn] at e;exact hl _ _ _ _ e
  ·rename_i hn;rw[hn] at e;cases e
 ·rename_i hc;rw[hc] at e;exact e
theorem seqOps_mono {F G:CallF} (hl:CallLe F G) {ops:Array Oper}:∀{l:List Oper} {ts h r},seqOps P F ops l ts h=some r→seqOps P G ops l ts h=some r
 |[],ts,h,r,e=>e
 |o::l,ts,h,r,e=>by
  unfold seqOps at e⊢
  cases hw:nwanted ops o ts with
  |none=>rw[hw] at e;cases e
  |some b=>
   rw[hw] at e
   cases b with
   |false=>exact seqOps_mono hl e
   |true=>
    simp only at e⊢
    cases hd:doOp P F (ev ts) o h with
    |none=>rw[hd] at e;cases e
    |some p=>rw[hd] at e;rw[doOp_mono hl hd];exact seqOps_mono hl e
theorem stepE_mono {F G:CallF} (hl:CallLe F G) {ops M i o st r} (e:stepE P F ops M i o st=some r):stepE P G ops M i o st=some r:=by
 unfold stepE at e⊢
 have efft:(match doOp P F (ev st.ts) o (adoptAll st.h (st.pend.filter fun x=>(M.getD i 0).testBit x.1)) with
     |none=>none
     |some (v,h')=>if st.ei.all (fun j=>(M.getD i 0).testBit j)&&decide ((adoptAll st.h (st.pend.filter fun x=>(M.getD i 0).testBit x.1)).next≤h'.next) then
       some {st with ts:=nput st.ts o.dst v,h:=h',hs:=st.hs++[h'],ls:=st.ls++[st.pend.filter fun x=>(M.getD i 0).testBit x.1],ei:=st.ei++[i],pend:=st.pend.filter fun x=>!(M.getD i 0).testBit x.1,v:=v,c:=.eff (st.ei.length+1)} else none)=some r→
   (match doOp P G (ev st.ts) o (adoptAll st.h (st.pend.filter fun x=>(M.getD i 0).testBit x.1)) with
     |none=>none
     |some (v,h')=>if st.ei.all (fun j=>(M.getD i 0).testBit j)&&decide ((adoptAll st.h (st.pend.filter fun x=>(M.getD i 0).testBit x.1)).next≤h'.next) then
       some {st with ts:=nput st.ts o.dst v,h:=h',hs:=st.hs++[h'],ls:=st.ls++[st.pend.filter fun x=>(M.getD i 0).testBit x.1],ei:=st.ei++[i],pend:=st.pend.filter fun x=>!(M.getD i 0).testBit x.1,v:=v,c:=.eff (st.ei.length+1)} else none)=some r:=by
  intro e
  cases hd:doOp P F (ev st.ts) o (adoptAll st.h (st.pend.filter fun x=>(M.getD i 0).testBit x.1)) with
  |none=>rw[hd] at e;cases e
  |some p=>rw[hd] at e;rw[doOp_mono hl hd];exact e
 cases hw:nwanted ops o st.ts with
 |none=>rw[hw] at e;cases e
 |some b=>
  rw[hw] at e
  cases b with
  |false=>exact e
  |true=>
   simp only at e⊢
   cases hp:pureOp P (ev st.ts) o.op with
   |some v=>rw[hp] at e;exact e
   |none=>
    rw[hp] at e;simp only at e⊢
    cases hr:readOp P (ev st.ts) st.h o.op with
    |some v=>rw[hr] at e;exact e
    |none=>
     rw[hr] at e;simp only at e⊢
     cases hn:newOp P (ev st.ts) o.op with
     |none=>rw[hn] at e;exact efft e
     |some p=>
      obtain⟨ob,mk⟩:=p
      rw[hn] at e
      cases ob with
      |cells cs mine=>
       cases mine with
       |own q=>cases q with
        |none=>exact e
        |some q=>exact efft e
       |ro=>exact efft e
      |map es=>exact efft e
      |dead=>exact efft e
theorem runE_mono {F G:CallF} (hl:CallLe F G) {ops M}:∀{l:List Oper} {i st r},runE P F ops M i l st=some r→runE P G ops M i l st=some r
 |[],i,st,r,e=>e
 |o::l,i,st,r,e=>by
  unfold runE at e⊢
  cases hs:stepE P F ops M i o st with
  |none=>rw[hs] at e;cases e
  |some st'=>rw[hs] at e;rw[stepE_mono hl hs];exact runE_mono hl e
theorem drawnOps_mono {F G:CallF} (hl:CallLe F G) {ops ts h r} (e:drawnOps P F ops ts h=some r):drawnOps P G ops ts h=some r:=by
 unfold drawnOps at e⊢
 simp only at e⊢
 split at e
 ·cases e
 ·rename_i st hs
  rw[runE_mono hl hs];exact e
theorem evC_mono {F G:CallF} (hl:CallLe F G):∀{n m:Nat} {c:Code} {ts h r},n≤m→evC P (drawnOps P) F n c ts h=some r→evC P (drawnOps P) G m c ts h=some r
 |0,m,c,ts,h,r,hn,e=>by cases e
 |n+1,0,c,ts,h,r,hn,e=>by omega
 |n+1,m+1,c,ts,h,r,hn,e=>by
  have ih:∀{c ts h r},evC P (drawnOps P) F n c ts h=some r→evC P (drawnOps P) G m c ts h=some r:=evC_mono hl (by omega)
  unfold evC at e⊢
  cases c with
  |region id ops draw=>
   cases draw with
   |true=>
    simp only[if_true] at e⊢
    cases hx:drawnOps P F ops ts h with
    |none=>rw[hx] at e;cases e
    |some p=>rw[hx] at e;rw[drawnOps_mono hl hx];exact e
   |false=>
    simp only[Bool.false_eq_true,if_false] at e⊢
    cases hx:seqOps P F ops ops.toList ts h with
    |none=>rw[hx] at e;cases e
    |some p=>rw[hx] at e;rw[seqOps_mono hl hx];exact e
  |seq a b=>
   simp only at e⊢
   cases hx:evC P (drawnOps P) F n a ts h with
   |none=>rw[hx] at e;cases e
   |some p=>
    obtain⟨ex,ts1,h1⟩:=p
    rw[hx] at e;rw[ih hx]
    cases ex with
    |normal=>exact ih e
    |_=>exact e
  |cond x a b=>
   simp only at e⊢
   cases hx:ev ts x with
   |none=>rw[hx] at e;cases e
   |some u=>
    rw[hx] at e
    cases u with
    |bool t=>cases t<;>exact ih e
    |_=>cases e
  |block i a=>
   simp only at e⊢
   cases hx:evC P (drawnOps P) F n a ts h with
   |none=>rw[hx] at e;cases e
   |some p=>rw[hx] at e;rw[ih hx];exact e
  |loop a=>
   simp only at e⊢
   cases hx:evC P (drawnOps P) F n a ts h with
   |none=>rw[hx] at e;cases e
   |some p=>
    obtain⟨ex,ts1,h1⟩:=p
    rw[hx] at e;rw[ih hx]
    cases ex with
    |normal=>exact ih e
    |_=>exact e
  |_=>exact e
variable (E:Env P drStatic)
theorem evF_mono {m m':Nat} (hm:m≤m'):∀{n n':Nat},n≤n'→CallLe (evF P (drawnOps P) E m n) (evF P (drawnOps P) E m' n')
 |0,n',_=>fun f asX h r e=>by cases e
 |n+1,0,hn=>by omega
 |n+1,n'+1,hn=>fun f asX h r e=>by
  have ih:=evF_mono hm (n:=n) (n':=n') (by omega)
  unfold evF at e⊢
  cases hk:E.known f asX h with
  |some q=>rw[hk] at e;exact e
  |none=>
   rw[hk] at e;simp only at e⊢
   cases hg:E.get f with
   |none=>rw[hg] at e;cases e
   |some p=>
    obtain⟨c,nt,rs⟩:=p
    rw[hg] at e;simp only at e⊢
    cases hx:evC P (drawnOps P) (evF P (drawnOps P) E m n) m c (asX++List.replicate (nt-asX.length) nundef) h with
    |none=>rw[hx] at e;cases e
    |some q=>rw[hx] at e;rw[evC_mono ih hm hx];exact e
def Gn (i:Nat):CallF:=evF P (drawnOps P) E i i
theorem Gn_mono {i j:Nat} (h:i≤j):CallLe (Gn E i) (Gn E j):=evF_mono E h h
open Classical in
noncomputable def K:CallF:=fun f asX h=>if hx:∃r,∃i,Gn E i f asX h=some r then some hx.choose else none
theorem K_iff {f asX h r}:K E f asX h=some r↔∃i,Gn E i f asX h=some r:=by
 unfold K
 constructor
 ·intro e
  split at e
  ·rename_i hx;cases e;exact hx.choose_spec
  ·cases e
 ·rintro⟨i,hi⟩
  have hx:∃r,∃i,Gn E i f asX h=some r:=⟨r,i,hi⟩
  rw[dif_pos hx]
  obtain⟨j,hj⟩:=hx.choose_spec
  have a:=Gn_mono E (Nat.le_max_left i j) _ _ _ _ hi
  have b:=Gn_mono E (Nat.le_max_right i j) _ _ _ _ hj
  rw[a] at b;exact congrArg some (Option.some.inj b).symm
theorem Gn_le (i:Nat):CallLe (Gn E i) (K E):=fun f asX h r e=>(K_iff E).2 ⟨i,e⟩
theorem doOp_K {ρ o h r} (e:doOp P (K E) ρ o h=some r):∃i,doOp P (Gn E i) ρ o h=some r:=by
 unfold doOp at e⊢
 split at e
 ·rename_i c hc
  split at e
  ·rename_i f asX hn
   obtain⟨i,hi⟩:=(K_iff E).1 e
   exact⟨i,hi⟩
  ·cases e
 ·rename_i hc;exact⟨0,e⟩
theorem seqOps_K {ops:Array Oper}:∀{l:List Oper} {ts h r},seqOps P (K E) ops l ts h=some r→∃i,seqOps P (Gn E i) ops l ts h=some r
 |[],ts,h,r,e=>⟨0,e⟩
 |o::l,ts,h,r,e=>by
  unfold seqOps at e⊢
  cases hw:nwanted ops o ts with
  |none=>rw[hw] at e;cases e
  |some b=>
   rw[hw] at e
   cases b with
   |false=>exact seqOps_K e
   |true=>
    simp only at e⊢
    cases hd:doOp P (K E) (ev ts) o h with
    |none=>rw[hd] at e;cases e
    |some p=>
     rw[hd] at e
     obtain⟨i,hi⟩:=doOp_K E hd
     obtain⟨j,hj⟩:=seqOps_K e
     refine⟨max i j,?_⟩
     rw[doOp_mono (Gn_mono E (Nat.le_max_left i j)) hi]
     exact seqOps_mono (Gn_mono E (Nat.le_max_right i j)) hj
theorem stepE_K {ops M i o st r} (e:stepE P (K E) ops M i o st=some r):∃k,stepE P (Gn E k) ops M i o st=some r:=by
 unfold stepE at e⊢
 have efft:(match doOp P (K E) (ev st.ts) o (adoptAll st.h (st.pend.filter fun x=>(M.getD i 0).testBit x.1)) with
     |none=>none
     |some (v,h')=>if st.ei.all (fun j=>(M.getD i 0).testBit j)&&decide ((adoptAll st.h (st.pend.filter fun x=>(M.getD i 0).testBit x.1)).next≤h'.next) then
       some {st with ts:=nput st.ts o.dst v,h:=h',hs:=st.hs++[h'],ls:=st.ls++[st.pend.filter fun x=>(M.getD i 0).testBit x.1],ei:=st.ei++[i],pend:=st.pend.filter fun x=>!(M.getD i 0).testBit x.1,v:=v,c:=.eff (st.ei.length+1)} else none)=some r→
   ∃k,(match doOp P (Gn E k) (ev st.ts) o (adoptAll st.h (st.pend.filter fun x=>(M.getD i 0).testBit x.1)) with
     |none=>none
     |some (v,h')=>if st.ei.all (fun j=>(M.getD i 0).testBit j)&&decide ((adoptAll st.h (st.pend.filter fun x=>(M.getD i 0).testBit x.1)).next≤h'.next) then
       some {st with ts:=nput st.ts o.dst v,h:=h',hs:=st.hs++[h'],ls:=st.ls++[st.pend.filter fun x=>(M.getD i 0).testBit x.1],ei:=st.ei++[i],pend:=st.pend.filter fun x=>!(M.getD i 0).testBit x.1,v:=v,c:=.eff (st.ei.length+1)} else none)=some r:=by
  intro e
  cases hd:doOp P (K E) (ev st.ts) o (adoptAll st.h (st.pend.filter fun x=>(M.getD i 0).testBit x.1)) with
  |none=>rw[hd] at e;cases e
  |some p=>
   obtain⟨k,hk⟩:=doOp_K E hd
   exact⟨k,by rw[hk];rw[hd] at e;exact e⟩
 cases hw:nwanted ops o st.ts with
 |none=>rw[hw] at e;cases e
 |some b=>
  rw[hw] at e
  cases b with
  |false=>exact⟨0,e⟩
  |true=>
   simp only at e⊢
   cases hp:pureOp P (ev st.ts) o.op with
   |some v=>rw[hp] at e;exact⟨0,e⟩
   |none=>
    rw[hp] at e;simp only at e⊢
    cases hr:readOp P (ev st.ts) st.h o.op with
    |some v=>rw[hr] at e;exact⟨0,e⟩
    |none=>
     rw[hr] at e;simp only at e⊢
     cases hn:newOp P (ev st.ts) o.op with
     |none=>rw[hn] at e;exact efft e
     |some p=>
      obtain⟨ob,mk⟩:=p
      rw[hn] at e
      cases ob with
      |cells cs mine=>
       cases mine with
       |own q=>cases q with
        |none=>exact⟨0,e⟩
        |some q=>exact efft e
       |ro=>exact efft e
      |map es=>exact efft e
      |dead=>exact efft e
theorem runE_K {ops M}:∀{l:List Oper} {i st r},runE P (K E) ops M i l st=some r→∃k,runE P (Gn E k) ops M i l st=some r
 |[],i,st,r,e=>⟨0,e⟩
 |o::l,i,st,r,e=>by
  unfold runE at e⊢
  cases hs:stepE P (K E) ops M i o st with
  |none=>rw[hs] at e;cases e
  |some st'=>
   rw[hs] at e
   obtain⟨k,hk⟩:=stepE_K E hs
   obtain⟨j,hj⟩:=runE_K e
   refine⟨max k j,?_⟩
   rw[stepE_mono (Gn_mono E (Nat.le_max_left k j)) hk]
   exact runE_mono (Gn_mono E (Nat.le_max_right k j)) hj
theorem drawnOps_K {ops ts h r} (e:drawnOps P (K E) ops ts h=some r):∃k,drawnOps P (Gn E k) ops ts h=some r:=by
 unfold drawnOps at e⊢
 simp only at e⊢
 split at e
 ·cases e
 ·rename_i st hs
  obtain⟨k,hk⟩:=runE_K E hs
  exact⟨k,by rw[hk];exact e⟩
theorem evC_K:∀{n:Nat} {c:Code} {ts h r},evC P (drawnOps P) (K E) n c ts h=some r→∃i,evC P (drawnOps P) (Gn E i) i c ts h=some r
 |0,c,ts,h,r,e=>by cases e
 |n+1,c,ts,h,r,e=>by
  have up:∀{i j:Nat} {c ts h r},i≤j→evC P (drawnOps P) (Gn E i) i c ts h=some r→evC P (drawnOps P) (Gn E j) j c ts h=some r:=fun hij q=>evC_mono (Gn_mono E hij) hij q
  have ih:∀{c ts h r},evC P (drawnOps P) (K E) n c ts h=some r→∃i,∀j,i≤j→evC P (drawnOps P) (Gn E (j+1)) j c ts h=some r:=fun q=>by
   obtain⟨i,hi⟩:=evC_K q
   exact⟨i,fun j hj=>evC_mono (Gn_mono E (by omega)) hj hi⟩
  have one:∀{i:Nat} {c ts h r},evC P (drawnOps P) (Gn E (i+1)) (i+1) c ts h=some r→∃i,evC P (drawnOps P) (Gn E i) i c ts h=some r:=fun q=>⟨_,q⟩
  unfold evC at e
  cases c with
  |region id ops draw=>
   cases draw with
   |true=>
    simp only[if_true] at e
    cases hx:drawnOps P (K E) ops ts h with
    |none=>rw[hx] at e;cases e
    |some p=>
     rw[hx] at e
     obtain⟨k,hk⟩:=drawnOps_K E hx
     refine⟨k+1,?_⟩
     unfold evC;simp only[if_true]
     rw[drawnOps_mono (Gn_mono E (Nat.le_succ k)) hk];exact e
   |false=>
    simp only[Bool.false_eq_true,if_false] at e
    cases hx:seqOps P (K E) ops ops.toList ts h with
    |none=>rw[hx] at e;cases e
    |some p=>
     rw[hx] at e
     obtain⟨k,hk⟩:=seqOps_K E hx
     refine⟨k+1,?_⟩
     unfold evC;simp only[Bool.false_eq_true,if_false]
     rw[seqOps_mono (Gn_mono E (Nat.le_succ k)) hk];exact e
  |seq a b=>
   simp only at e
   cases hx:evC P (drawnOps P) (K E) n a ts h with
   |none=>rw[hx] at e;cases e
   |some p=>
    obtain⟨ex,ts1,h1⟩:=p
    rw[hx] at e
    obtain⟨i,hi⟩:=ih hx
    cases ex with
    |normal=>
     obtain⟨j,hj⟩:=ih e
     refine⟨max i j+1,?_⟩
     unfold evC;simp only
     rw[hi (max i j) (Nat.le_max_left _ _)];exact hj _ (Nat.le_max_right _ _)
    |exit k=>exact⟨i+1,by unfold evC;simp only;rw[hi i (Nat.le_refl _)];exact e⟩
    |ret=>exact⟨i+1,by unfold evC;simp only;rw[hi i (Nat.le_refl _)];exact e⟩
  |cond x a b=>
   simp only at e
   cases hx:ev ts x with
   |none=>rw[hx] at e;cases e
   |some u=>
    rw[hx] at e
    cases u with
    |bool t=>
     cases t with
     |true=>obtain⟨i,hi⟩:=ih e;exact⟨i+1,by unfold evC;simp only;rw[hx];exact hi i (Nat.le_refl _)⟩
     |false=>obtain⟨i,hi⟩:=ih e;exact⟨i+1,by unfold evC;simp only;rw[hx];exact hi i (Nat.le_refl _)⟩
    |_=>cases e
  |block k a=>
   simp only at e
   cases hx:evC P (drawnOps P) (K E) n a ts h with
   |none=>rw[hx] at e;cases e
   |some p=>
    rw[hx] at e
    obtain⟨i,hi⟩:=ih hx
    exact⟨i+1,by unfold evC;simp only;rw[hi i (Nat.le_refl _)];exact e⟩
  |loop a=>
   simp only at e
   cases hx:evC P (drawnOps P) (K E) n a ts h with
   |none=>rw[hx] at e;cases e
   |some p=>
    obtain⟨ex,ts1,h1⟩:=p
    rw[hx] at e
    obtain⟨i,hi⟩:=ih hx
    cases ex with
    |normal=>
     obtain⟨j,hj⟩:=ih e
     refine⟨max i j+1,?_⟩
     unfold evC;simp only
     rw[hi (max i j) (Nat.le_max_left _ _)];exact hj _ (Nat.le_max_right _ _)
    |exit k=>exact⟨i+1,by unfold evC;simp only;rw[hi i (Nat.le_refl _)];exact e⟩
    |ret=>exact⟨i+1,by unfold evC;simp only;rw[hi i (Nat.le_refl _)];exact e⟩
  |skip=>exact⟨1,e⟩
  |ret=>exact⟨1,e⟩
  |exit i=>exact⟨1,e⟩
  |rangeFunc _ _ _ _=>cases e
  |scope _=>cases e
  |label _=>cases e
  |goto _=>cases e
  |refuse _=>cases e
open Classical in
noncomputable def C (c:Code) (ts:List NVal) (h:NHeap):Out:=if hx:∃r,∃n,evC P (drawnOps P) (K E) n c ts h=some r then some hx.choose else none
variable {E}
theorem C_iff {c ts h r}:C E c ts h=some r↔∃n,evC P (drawnOps P) (K E) n c ts h=some r:=by
 unfold C
 constructor
 ·intro e
  split at e
  ·rename_i hx;cases e;exact hx.choose_spec
  ·cases e
 ·rintro⟨i,hi⟩
  have hx:∃r,∃i,evC P (drawnOps P) (K E) i c ts h=some r:=⟨r,i,hi⟩
  rw[dif_pos hx]
  obtain⟨j,hj⟩:=hx.choose_spec
  have a:=evC_mono (CallLe.refl _) (Nat.le_max_left i j) hi
  have b:=evC_mono (CallLe.refl _) (Nat.le_max_right i j) hj
  rw[a] at b;exact congrArg some (Option.some.inj b).symm
theorem opt_ext {α:Type} {x y:Option α} (h:∀r,x=some r↔y=some r):x=y:=by
 cases x with
 |none=>cases y with
  |none=>rfl
  |some b=>exact absurd ((h b).2 rfl) (by simp)
 |some a=>exact((h a).1 rfl).symm
theorem C_of_next {c ts h} {o:Out} (ho:∀n,evC P (drawnOps P) (K E) (n+1) c ts h=o):C E c ts h=o:=opt_ext fun r=>by
 rw[C_iff]
 constructor
 ·rintro⟨n,e⟩
  cases n with
  |zero=>cases e
  |succ n=>rw[ho] at e;exact e
 ·intro e;exact⟨1,by rw[ho];exact e⟩
theorem C_skip (ts h):C E .skip ts h=some (.normal,ts,h):=C_of_next fun n=>by unfold evC;rfl
theorem C_ret (ts h):C E .ret ts h=some (.ret,ts,h):=C_of_next fun n=>by unfold evC;rfl
theorem C_exit (i ts h):C E (.exit i) ts h=some (.exit i,ts,h):=C_of_next fun n=>by unfold evC;rfl
def normal:Option (List NVal×NHeap)→Out
 |some (ts,h)=>some (.normal,ts,h)
 |none=>none
def thenC (r:Out) (k:List NVal→NHeap→Out):Out:=match r with
 |some (.normal,ts,h)=>k ts h
 |r=>r
def ifC (b:Option NVal) (x y:Out):Out:=match b with
 |some (.bool true)=>x
 |some (.bool false)=>y
 |_=>none
def blockC (i:Nat) (r:Out):Out:=match r with
 |some (.exit j,ts,h)=>if j=i then some (.normal,ts,h) else some (.exit j,ts,h)
 |r=>r
theorem C_draw (id ops ts h):C E (.region id ops true) ts h=normal (drawnOps P (K E) ops ts h):=C_of_next fun n=>by
 unfold evC;simp only[if_true];cases drawnOps P (K E) ops ts h<;>rfl
theorem C_seqs (id ops ts h):C E (.region id ops false) ts h=normal (seqOps P (K E) ops ops.toList ts h):=C_of_next fun n=>by
 unfold evC;simp only[Bool.false_eq_true,if_false];cases seqOps P (K E) ops ops.toList ts h<;>rfl
theorem C_iff_next {c ts h} {F:(Code→List NVal→NHeap→Out)→Out} (hF:∀n,evC P (drawnOps P) (K E) (n+1) c ts h=F (evC P (drawnOps P) (K E) n))
  (mono:∀G G':Code→List NVal→NHeap→Out,(∀c ts h r,G c ts h=some r→G' c ts h=some r)→∀r,F G=some r→F G'=some r)
  (cont:∀r,F (C E)=some r→∃n,F (evC P (drawnOps P) (K E) n)=some r):C E c ts h=F (C E):=opt_ext fun r=>by
 rw[C_iff]
 constructor
 ·rintro⟨n,e⟩
  cases n with
  |zero=>cases e
  |succ n=>rw[hF] at e;exact mono _ _ (fun c ts h r q=>C_iff.2 ⟨n,q⟩) r e
 ·intro e
  obtain⟨n,hn⟩:=cont r e
  exact⟨n+1,by rw[hF];exact hn⟩
theorem C_seq (a b ts h):C E (.seq a b) ts h=thenC (C E a ts h) (C E b):=by
 refine C_iff_next (F:=fun G=>thenC (G a ts h) (G b)) (fun n=>by rw[evC];unfold thenC;rfl) ?_ ?_
 ·intro G G' hG r e
  simp only[thenC] at e⊢
  cases hx:G a ts h with
  |none=>rw[hx] at e;cases e
  |some p=>
   obtain⟨ex,t1,h1⟩:=p
   rw[hx] at e;rw[hG _ _ _ _ hx]
   cases ex with
   |normal=>exact hG _ _ _ _ e
   |_=>exact e
 ·intro r e
  simp only[thenC] at e⊢
  cases hx:C E a ts h with
  |none=>rw[hx] at e;cases e
  |some p=>
   obtain⟨ex,t1,h1⟩:=p
   rw[hx] at e
   obtain⟨n,hn⟩:=C_iff.1 hx
   cases ex with
   |normal=>
    obtain⟨m,hm⟩:=C_iff.1 e
    refine⟨max n m,?_⟩
    rw[evC_mono (CallLe.refl _) (Nat.le_max_left n m) hn];exact evC_mono (CallLe.refl _) (Nat.le_max_right n m) hm
   |_=>exact⟨n,by rw[hn];exact e⟩
theorem C_loop (a ts h):C E (.loop a) ts h=thenC (C E a ts h) (C E (.loop a)):=by
 refine C_iff_next (F:=fun G=>thenC (G a ts h) (G (.loop a))) (fun n=>by rw[evC];unfold thenC;rfl) ?_ ?_
 ·intro G G' hG r e
  simp only[thenC] at e⊢
  cases hx:G a ts h with
  |none=>rw[hx] at e;cases e
  |some p=>
   obtain⟨ex,t1,h1⟩:=p
   rw[hx] at e;rw[hG _ _ _ _ hx]
   cases ex with
   |normal=>exact hG _ _ _ _ e
   |_=>exact e
 ·intro r e
  simp only[thenC] at e⊢
  cases hx:C E a ts h with
  |none=>rw[hx] at e;cases e
  |some p=>
   obtain⟨ex,t1,h1⟩:=p
   rw[hx] at e
   obtain⟨n,hn⟩:=C_iff.1 hx
   cases ex with
   |normal=>
    obtain⟨m,hm⟩:=C_iff.1 e
    refine⟨max n m,?_⟩
    rw[evC_mono (CallLe.refl _) (Nat.le_max_left n m) hn];exact evC_mono (CallLe.refl _) (Nat.le_max_right n m) hm
   |_=>exact⟨n,by rw[hn];exact e⟩
theorem C_cond (x a b ts h):C E (.cond x a b) ts h=ifC (ev ts x) (C E a ts h) (C E b ts h):=by
 refine C_iff_next (F:=fun G=>ifC (ev ts x) (G a ts h) (G b ts h)) (fun n=>by rw[evC];unfold ifC;rfl) ?_ ?_
 ·intro G G' hG r e
  cases hx:ev ts x with
  |none=>rw[hx] at e;cases e
  |some u=>
   rw[hx] at e
   cases u with
   |bool t=>cases t<;>exact hG _ _ _ _ e
   |_=>cases e
 ·intro r e
  cases hx:ev ts x with
  |none=>rw[hx] at e;cases e
  |some u=>
   rw[hx] at e
   cases u with
   |bool t=>cases t<;>exact C_iff.1 e
   |_=>cases e
theorem C_block (i a ts h):C E (.block i a) ts h=blockC i (C E a ts h):=by
 refine C_iff_next (F:=fun G=>blockC i (G a ts h)) (fun n=>by rw[evC];unfold blockC;rfl) ?_ ?_
 ·intro G G' hG r e
  simp only[blockC] at e⊢
  cases hx:G a ts h with
  |none=>rw[hx] at e;cases e
  |some p=>rw[hx] at e;rw[hG _ _ _ _ hx];exact e
 ·intro r e
  simp only[blockC] at e⊢
  cases hx:C E a ts h with
  |none=>rw[hx] at e;cases e
  |some p=>
   rw[hx] at e
   obtain⟨n,hn⟩:=C_iff.1 hx
   exact⟨n,by rw[hn];exact e⟩
def outF (P:Program) (rs:List ResultVar) (r:Out):Option (NVal×NHeap):=match r with
 |some (.exit _,_,_)=>none
 |none=>none
 |some (_,ts',h')=>match nresults P ts' h' rs with
  |none=>none
  |some vs=>some (oneOr vs,h')
theorem K_known {f asX h r} (hk:E.known f asX h=some r):K E f asX h=some r:=(K_iff E).2 ⟨1,by unfold Gn evF;rw[hk]⟩
theorem K_body {f asX h c nt rs} (hk:E.known f asX h=none) (hg:E.get f=some (c,nt,rs)):K E f asX h=outF P rs (C E c (asX++List.replicate (nt-asX.length) nundef) h):=opt_ext fun r=>by
 rw[K_iff]
 constructor
 ·rintro⟨i,e⟩
  cases i with
  |zero=>cases e
  |succ i=>
   unfold Gn evF at e
   rw[hk,hg] at e
   simp only at e
   cases hx:evC P (drawnOps P) (evF P (drawnOps P) E (i+1) i) (i+1) c (asX++List.replicate (nt-asX.length) nundef) h with
   |none=>rw[hx] at e;cases e
   |some q=>
    rw[hx] at e
    have hle:CallLe (evF P (drawnOps P) E (i+1) i) (K E):=(evF_mono E (Nat.le_refl _) (Nat.le_succ i)).trans (Gn_le E (i+1))
    rw[C_iff.2 ⟨_,evC_mono hle (Nat.le_refl _) hx⟩]
    exact e
 ·intro e
  cases hx:C E c (asX++List.replicate (nt-asX.length) nundef) h with
  |none=>rw[hx] at e;cases e
  |some q=>
   rw[hx] at e
   obtain⟨n,hn⟩:=C_iff.1 hx
   obtain⟨i,hi⟩:=evC_K E hn
   refine⟨i+1,?_⟩
   unfold Gn evF
   rw[hk,hg];simp only
   have hle:CallLe (Gn E i) (evF P (drawnOps P) E (i+1) i):=evF_mono E (Nat.le_succ i) (Nat.le_refl _)
   rw[evC_mono hle (Nat.le_succ i) hi]
   exact e
theorem K_sim (hm:P.follows .mixedOrders=true) {f asX h v h'} (hk:E.known f asX h=none) (e:K E f asX h=some (v,h')):SimF P f asX h v h':=by
 obtain⟨i,hi⟩:=(K_iff E).1 e
 cases i with
 |zero=>cases hi
 |succ i=>exact(evF_step (drawOk hm) E (i+1) (evF_sound (drawOk hm) E (i+1) i) hi hk).2
end Go.Proofs.YtkjpldganajkkaaGreatDoor.NICE
namespace Go.Proofs.YtkjpldganajkkaaGreatDoor.NICE
open Go Go.RowKit
variable {P:Program} {E:Env P drStatic}
noncomputable def thenD (E:Env P drStatic) (r:Out) (b:Code):Out:=thenC r (C E b)
noncomputable def condD (E:Env P drStatic) (x:Option NVal) (a b:Code) (ts:List NVal) (h:NHeap):Out:=ifC x (C E a ts h) (C E b ts h)
theorem S_seq (a b ts h):C E (.seq a b) ts h=thenD E (C E a ts h) b:=C_seq a b ts h
theorem thenD_normal (ts h b):thenD E (some (.normal,ts,h)) b=C E b ts h:=rfl
theorem thenD_exit (i ts h b):thenD E (some (.exit i,ts,h)) b=some (.exit i,ts,h):=rfl
theorem thenD_ret (ts h b):thenD E (some (.ret,ts,h)) b=some (.ret,ts,h):=rfl
theorem S_cond (x a b ts h):C E (.cond x a b) ts h=condD E (ev ts x) a b ts h:=C_cond x a b ts h
theorem condD_true (a b ts h):condD E (some (.bool true)) a b ts h=C E a ts h:=rfl
theorem condD_false (a b ts h):condD E (some (.bool false)) a b ts h=C E b ts h:=rfl
theorem blockC_normal (i ts h):blockC i (some (.normal,ts,h))=some (.normal,ts,h):=rfl
theorem blockC_ret (i ts h):blockC i (some (.ret,ts,h))=some (.ret,ts,h):=rfl
theorem blockC_other (i j ts h):blockC i (some (.exit j,ts,h))=if j=i then some (.normal,ts,h) else some (.exit j,ts,h):=rfl
theorem S_loop (a ts h):C E (.loop a) ts h=thenD E (C E a ts h) (.loop a):=C_loop a ts h
def finR (P:Program) (rs:List ResultVar) (ts:List NVal) (h:NHeap):Option (NVal×NHeap):=match nresults P ts h rs with
 |none=>none
 |some vs=>some (oneOr vs,h)
theorem beqT (b:Bool):(b==true)=b:=by cases b<;>rfl
theorem beqF (b:Bool):(b==false)=!b:=by cases b<;>rfl
theorem outF_ret (rs ts h):outF P rs (some (.ret,ts,h))=finR P rs ts h:=rfl
theorem outF_normal (rs ts h):outF P rs (some (.normal,ts,h))=finR P rs ts h:=rfl
def bodyOf (f:Func):Code:=f.body.getD .skip
def seqL:Code→List Code
 | .seq a b=>seqL a++seqL b
 |c=>[c]
def atC (c:Code) (i:Nat):Code:=((seqL c)[i]?).getD .skip
def inC:Code→Code
 | .block _ a=>a
 | .loop a=>a
 | .cond _ a _=>a
 |c=>c
def elC:Code→Code
 | .cond _ _ b=>b
 |c=>c
noncomputable def restS (E:Env P drStatic) (ops:Array Oper) (rest:List Oper) (dst:Option Tmp) (ts:List NVal) (x:Option (NVal×NHeap)):Option (List NVal×NHeap):=match x with
 |none=>none
 |some (v,h)=>seqOps P (K E) ops rest (nput ts dst v) h
noncomputable def stepS (E:Env P drStatic) (ops:Array Oper) (o:Oper) (rest:List Oper) (ts:List NVal) (h:NHeap) (g:Option Bool):Option (List NVal×NHeap):=match g with
 |none=>none
 |some false=>seqOps P (K E) ops rest (nput ts o.dst nundef) h
 |some true=>restS E ops rest o.dst ts (doK P (K E) (ev ts) o.op h)
theorem S_nil (ops ts h):seqOps P (K E) ops [] ts h=some (ts,h):=rfl
theorem S_cons (ops o rest ts h):seqOps P (K E) ops (o::rest) ts h=stepS E ops o rest ts h (nwanted ops o ts):=by
 unfold stepS restS
 rw[doK_eq]
 rw[seqOps]
 cases nwanted ops o ts with
 |none=>rfl
 |some b=>cases b<;>rfl
theorem wanted_none (ops dst op ty pos after ts):nwanted ops ⟨dst,op,ty,pos,after,none⟩ ts=some true:=rfl
theorem S_plain (ops dst op ty pos after rest ts h):seqOps P (K E) ops (⟨dst,op,ty,pos,after,none⟩::rest) ts h=restS E ops rest dst ts (doK P (K E) (ev ts) op h):=by
 rw[S_cons,wanted_none];rfl
theorem S_guard (ops dst op ty pos after j want rest ts h):seqOps P (K E) ops (⟨dst,op,ty,pos,after,some (j,want)⟩::rest) ts h=
  stepS E ops ⟨dst,op,ty,pos,after,some (j,want)⟩ rest ts h (match(ops[j]?).bind (·.dst) with
  |none=>some false
  |some d=>match ts[d]? with
   |some (.bool b)=>some (b==want)
   |some .junk=>none
   |_=>some false):=by rw[S_cons];rfl
theorem stepS_true (ops o rest ts h):stepS E ops o rest ts h (some true)=restS E ops rest o.dst ts (doK P (K E) (ev ts) o.op h):=rfl
theorem stepS_false (ops o rest ts h):stepS E ops o rest ts h (some false)=seqOps P (K E) ops rest (nput ts o.dst nundef) h:=rfl
theorem restS_some (ops rest dst ts v h):restS E ops rest dst ts (some (v,h))=seqOps P (K E) ops rest (nput ts dst v) h:=rfl
theorem normal_some (ts:List NVal) (h:NHeap):normal (some (ts,h))=some (.normal,ts,h):=rfl
theorem ev_tmp (ts:List NVal) (t:Tmp):ev ts (.tmp t)=some (ts.getD t nundef):=rfl
theorem ev_func (ts:List NVal) (f:FuncId):ev ts (.func f)=some (.func (.func f) [] []):=rfl
theorem ev_bool (ts:List NVal) (b:Bool):ev ts (.const (.bool b))=some (.bool b):=rfl
theorem ev_int (ts:List NVal) (k n):ev ts (.const (.int k n))=some (.int k n):=rfl
theorem ev_str (ts:List NVal) (s):ev ts (.const (.string s))=some (.str s.data.toList):=rfl
theorem ev_ptr (ts:List NVal):ev ts (.const (.pointer none))=some (.ptr none):=rfl
theorem ev_slice (ts:List NVal):ev ts (.const (.slice none 0 0))=some (.slice none 0 0 none):=rfl
theorem ev_map (ts:List NVal):ev ts (.const (.map none))=some (.map none):=rfl
theorem ev_nilFunc (ts:List NVal):ev ts (.const .nilFunc)=some .nilFunc:=rfl
theorem ev_nilIface (ts:List NVal):ev ts (.const .nilIface)=some .nilIface:=rfl
section
variable (F:CallF) (ρ:Rho) (h:NHeap)
theorem do_move (x):doK P F ρ (.move x) h=withH (ρ x) h:=rfl
theorem do_assign (x):doK P F ρ (.assign x) h=withH (ρ x) h:=rfl
theorem do_pick (c a b):doK P F ρ (.pick c a b) h=withH (kPick (ρ c) (ρ a) (ρ b)) h:=rfl
theorem do_build (t parts):doK P F ρ (.build t parts) h=withH (kBuild P t (evParts ρ parts.toList)) h:=rfl
theorem do_nilCheck (x):doK P F ρ (.nilCheck x) h=withH (kNil (ρ x)) h:=rfl
theorem do_binOp (op t x y p):doK P F ρ (.binOp op t x y p) h=withH (bind2 (ρ x) (ρ y) (nbin P op t)) h:=rfl
theorem do_unOp (op t x):doK P F ρ (.unOp op t x) h=withH (bind1 (ρ x) (nun op)) h:=rfl
theorem do_makeInterface (t x):doK P F ρ (.makeInterface t x) h=withH (kIface P t (ρ x)) h:=rfl
theorem do_makeFunc (fn a b):doK P F ρ (.makeFunc fn a b) h=withH (kFunc fn (evs ρ a.toList) (evs ρ b.toList)) h:=rfl
theorem do_slice (t x lo hi mx):doK P F ρ (.slice t x lo hi mx) h=withH (kSlice P t (evOpt ρ mx) (ρ x) (evOpt ρ lo) (evOpt ρ hi)) h:=rfl
theorem do_fieldAddr (t x f):doK P F ρ (.fieldAddr t x f) h=withH (bind1 (ρ x) fun u=>nfieldAddr P t u f) h:=rfl
theorem do_field (t x f):doK P F ρ (.field t x f) h=withH (bind1 (ρ x) fun u=>nfield P t u f) h:=rfl
theorem do_indexAddr (t x ix):doK P F ρ (.indexAddr t x ix) h=withH (bind2 (ρ x) (ρ ix) (nindexAddr P t)) h:=rfl
theorem do_index (t x ix):doK P F ρ (.index t x ix) h=withH (bind2 (ρ x) (ρ ix) (nindex P t)) h:=rfl
theorem do_extract (x i):doK P F ρ (.extract x i) h=withH (kExtract (ρ x) i) h:=rfl
theorem do_typeAssert (x t d ok):doK P F ρ (.typeAssert x t d ok) h=withH (bind1 (ρ x) fun u=>nassert P u d ok) h:=rfl
theorem do_load (t x):doK P F ρ (.load t x) h=withH (kLoad P h t (ρ x)) h:=rfl
theorem do_lookup (t m k ok):doK P F ρ (.lookup t m k ok) h=withH (bind2 (ρ m) (ρ k) fun u v=>nlookup P t u v ok h) h:=rfl
theorem do_alloc (t):doK P F ρ (.alloc t) h=allocH (kAllocT P t) h:=rfl
theorem do_box (t x):doK P F ρ (.box t x) h=allocH (kBox (ρ x)) h:=rfl
theorem do_buildSlice (t len parts):doK P F ρ (.buildSlice t len parts) h=allocH (newOp P ρ (.buildSlice t len parts)) h:=rfl
theorem do_makeSlice (t l c):doK P F ρ (.makeSlice t l c) h=allocH (newOp P ρ (.makeSlice t l c)) h:=rfl
theorem do_makeMap (t r):doK P F ρ (.makeMap t r) h=allocH (newOp P ρ (.makeMap t r)) h:=rfl
theorem do_store (t x y):doK P F ρ (.store t x y) h=kStore P h t (ρ x) (ρ y):=rfl
theorem do_len (args tys):doK P F ρ (.call ⟨.builtin .len,args,tys⟩) h=orElseH (kLen P ρ args tys) h fun _=>orElseH (kLenM P ρ h args tys) h fun _=>none:=rfl
theorem do_cap (args tys):doK P F ρ (.call ⟨.builtin .cap,args,tys⟩) h=orElseH (kCap P ρ args tys) h fun _=>none:=rfl
theorem do_min (args tys):doK P F ρ (.call ⟨.builtin .min,args,tys⟩) h=orElseH (kMin ρ args) h fun _=>none:=rfl
theorem do_max (args tys):doK P F ρ (.call ⟨.builtin .max,args,tys⟩) h=orElseH (kMax ρ args) h fun _=>none:=rfl
theorem do_append (a c st xt):doK P F ρ (.call ⟨.builtin .append,#[a,c],#[st,xt]⟩) h=(match ρ a,ρ c with|some s,some x=>nappend P st xt s x h|_,_=>none):=rfl
theorem do_call (f args tys):doK P F ρ (.call ⟨.value f,args,tys⟩) h=callK (ncall P ρ h ⟨.value f,args,tys⟩) F h:=rfl
theorem do_convert (s d x):doK P F ρ (.convert s d x) h=orElseH (bind1 (ρ x) (nconv P s d)) h fun _=>orElseH (kStr P h s d (ρ x)) h fun _=>effOp P ρ h (.convert s d x):=rfl
end
theorem withH_some (v:NVal) (h:NHeap):withH (some v) h=some (v,h):=rfl
theorem allocH_some (ob:NObj) (mk:Nat→NVal) (h:NHeap):allocH (some (ob,mk)) h=some (mk h.next,h.alloc ob):=rfl
theorem bind1_some (u:NVal) (k:NVal→Option NVal):bind1 (some u) k=k u:=rfl
theorem bind2_some (u v:NVal) (k:NVal→NVal→Option NVal):bind2 (some u) (some v) k=k u v:=rfl
theorem orElseH_some (v:NVal) (h:NHeap) (k):orElseH (some v) h k=some (v,h):=rfl
theorem orElseH_none (h:NHeap) (k):orElseH none h k=k ():=rfl
theorem kPick_bool (t:Bool) (u v:NVal):kPick (some (.bool t)) (some u) (some v)=some (if t then u else v):=rfl
theorem kNil_ptr (a):kNil (some (.ptr (some a)))=some (.ptr (some a)):=rfl
theorem kExtract_tuple (vs:List NVal) (i:Nat):kExtract (some (.tuple vs)) i=vs[i]? :=rfl
theorem kBox_some (v:NVal):kBox (some v)=some (.cells v.cells (.own none),fun b=>.ptr (some (b,0))):=rfl
theorem kLoad_ptr (h:NHeap) (t a):kLoad P h t (some (.ptr (some a)))=nload P t a h:=rfl
theorem callK_some (f asX F h):callK (some (f,asX)) F h=F f asX h:=rfl
section
variable (t:TypeId) (k:IntKind) (a b:Int)
theorem bin_add:nbin P .add t (.int k a) (.int k b)=some (.int k (k.wrap (a+b))):=by simp[nbin,nIntOp]
theorem bin_sub:nbin P .sub t (.int k a) (.int k b)=some (.int k (k.wrap (a-b))):=by simp[nbin,nIntOp]
theorem bin_mul:nbin P .mul t (.int k a) (.int k b)=some (.int k (k.wrap (a*b))):=by simp[nbin,nIntOp]
theorem bin_quo (h:b≠0):nbin P .quo t (.int k a) (.int k b)=some (.int k (k.wrap (a.tdiv b))):=by simp[nbin,nIntOp,h]
theorem bin_rem (h:b≠0):nbin P .rem t (.int k a) (.int k b)=some (.int k (a.tmod b)):=by simp[nbin,nIntOp,h]
theorem bin_eql:nbin P .eql t (.int k a) (.int k b)=some (.bool (decide (a=b))):=by simp[nbin,nIntOp];by_cases h:a=b<;>simp[h]
theorem bin_neq:nbin P .neq t (.int k a) (.int k b)=some (.bool (!decide (a=b))):=by simp[nbin,nIntOp];by_cases h:a=b<;>simp[h,bne]
theorem bin_lss:nbin P .lss t (.int k a) (.int k b)=some (.bool (decide (a<b))):=by simp[nbin,nIntOp]
theorem bin_leq:nbin P .leq t (.int k a) (.int k b)=some (.bool (decide (a≤b))):=by simp[nbin,nIntOp]
theorem bin_gtr:nbin P .gtr t (.int k a) (.int k b)=some (.bool (decide (b<a))):=by simp[nbin,nIntOp]
theorem bin_geq:nbin P .geq t (.int k a) (.int k b)=some (.bool (decide (b≤a))):=by simp[nbin,nIntOp]
end
section
variable (t:TypeId) (x y:List UInt8)
theorem str_eql:nbin P .eql t (.str x) (.str y)=some (.bool (x==y)):=rfl
theorem str_neq:nbin P .neq t (.str x) (.str y)=some (.bool !(x==y)):=rfl
theorem str_lss:nbin P .lss t (.str x) (.str y)=some (.bool (Op.bytesLess x y)):=rfl
theorem str_leq:nbin P .leq t (.str x) (.str y)=some (.bool (Op.bytesLess x y||x==y)):=rfl
theorem str_gtr:nbin P .gtr t (.str x) (.str y)=some (.bool !(Op.bytesLess x y||x==y)):=rfl
theorem str_geq:nbin P .geq t (.str x) (.str y)=some (.bool !(Op.bytesLess x y)):=rfl
end
theorem slice_eql {t e:TypeId} (hu:P.underlying t=some (.slice e)) (a n c x):nbin P .eql t (.slice a n c x) (.slice none 0 0 none)=some (.bool a.isNone):=by
 cases a<;>simp[nbin,neq,hu,nilS]
theorem ptr_eql {t e:TypeId} (hu:P.underlying t=some (.pointer e)) (a):nbin P .eql t (.ptr a) (.ptr none)=some (.bool a.isNone):=by
 cases a<;>simp[nbin,neq,hu,nilP]
theorem indexAddr_slice {t e:TypeId} {sz:Nat} (hu:P.underlying t=some (.slice e)) (hs:szOf P e=some sz) (b o n c:Nat) (x) (k) (i:Int) (h0:0≤i) (h1:i<(n:Int)):nindexAddr P t (.slice (some (b,o)) n c x) (.int k i)=some (.ptr (some (b,o+i.toNat*sz))):=by
 simp[nindexAddr,hu,hs,h0,h1]
theorem not_bool (b:Bool):nun .not (.bool b)=some (.bool !b):=rfl
theorem kBuild_struct {t:TypeId} {z:NVal} {fs:Array Field} {ps:List (Nat×Nat)} (hz:zeroOf P t=some z) (hu:P.underlying t=some (.struct fs)) (hp:fieldPlaces P fs.toList=some ps) (l:List (Nat×NVal)):
  kBuild P t (some l)=(match nfill (fun i=>ps[i]?) z.cells l with|none=>none|some cs=>some (.agg cs)):=by
 simp only[kBuild,nbuild,hz,hu,hp]
 cases nfill (fun i=>ps[i]?) z.cells l<;>rfl
def seqRO (P:Program) (ops:Array Oper):List Oper→List NVal→NHeap→Option (List NVal)
 |[],ts,h=>some ts
 |o::rest,ts,h=>match nwanted ops o ts with
  |none=>none
  |some false=>seqRO P ops rest (nput ts o.dst nundef) h
  |some true=>match pureOp P (ev ts) o.op with
   |some v=>seqRO P ops rest (nput ts o.dst v) h
   |none=>match readOp P (ev ts) h o.op with
    |some v=>seqRO P ops rest (nput ts o.dst v) h
    |none=>none
theorem runE_RO {F:CallF} {ops M}:∀{l:List Oper} {i:Nat} {st:St} {ts'},st.ei=[]→st.pend=[]→seqRO P ops l st.ts st.h=some ts'→∃st',runE P F ops M i l st=some st'∧st'.ts=ts'∧st'.h=st.h∧st'.ei=[]∧st'.pend=[]∧st'.nid=st.nid
 |[],i,st,ts',h1,h2,e=>by cases e;exact⟨st,rfl,rfl,rfl,h1,h2,rfl⟩
 |o::rest,i,st,ts',h1,h2,e=>by
  unfold seqRO at e
  cases hw:nwanted ops o st.ts with
  |none=>rw[hw] at e;cases e
  |some b=>
   rw[hw] at e
   cases b with
   |false=>
    simp only at e
    obtain⟨st',r1,r2,r3,r4,r5,r6⟩:=runE_RO (F:=F) (M:=M) (i:=i+1) (st:={st with ts:=nput st.ts o.dst nundef,v:=nundef,c:=.skip}) h1 h2 e
    exact⟨st',by unfold runE stepE;rw[hw];exact r1,r2,r3,r4,r5,r6⟩
   |true=>
    simp only at e
    cases hp:pureOp P (ev st.ts) o.op with
    |some v=>
     rw[hp] at e
     obtain⟨st',r1,r2,r3,r4,r5,r6⟩:=runE_RO (F:=F) (M:=M) (i:=i+1) (st:={st with ts:=nput st.ts o.dst v,v:=v,c:=.val}) h1 h2 e
     exact⟨st',by unfold runE stepE;rw[hw];simp only;rw[hp];exact r1,r2,r3,r4,r5,r6⟩
    |none=>
     rw[hp] at e
     simp only at e
     cases hr:readOp P (ev st.ts) st.h o.op with
     |some v=>
      rw[hr] at e
      obtain⟨st',r1,r2,r3,r4,r5,r6⟩:=runE_RO (F:=F) (M:=M) (i:=i+1) (st:={st with ts:=nput st.ts o.dst v,v:=v,c:=.val,reads:=st.reads++[(i,o,st.ts,v)]}) h1 h2 e
      exact⟨st',by unfold runE stepE;rw[hw];simp only;rw[hp];simp only;rw[hr];exact r1,r2,r3,r4,r5,r6⟩
     |none=>rw[hr] at e;cases e
theorem drawn_RO {F:CallF} {ops:Array Oper} {ts ts':List NVal} {h:NHeap} (hn:(ops.toList.filter fun o=>makesRow o.op).length=0) (e:seqRO P ops ops.toList ts h=some ts'):drawnOps P F ops ts h=some (ts',h):=by
 unfold drawnOps
 obtain⟨st',r1,r2,r3,r4,r5,r6⟩:=runE_RO (F:=F) (M:=masksOf ops.toList) (i:=0) (st:={ts:=ts,h:=h,hs:=[h],ls:=[],ei:=[],pend:=[],nid:=h.next,reads:=[],v:=nundef,c:=.skip}) rfl rfl e
 simp only[hn,reserve]
 rw[r1]
 simp only[r2,r3,r4,r5,r6]
 simp[adoptAll]
def rowsIn:List Oper→Nat
 |[]=>0
 |o::l=>(if makesRow o.op then 1 else 0)+rowsIn l
theorem rowsIn_eq:∀l:List Oper,rowsIn l=(l.filter fun o=>makesRow o.op).length
 |[]=>rfl
 |o::l=>by
  unfold rowsIn
  rw[List.filter_cons,rowsIn_eq l]
  by_cases h:makesRow o.op=true
  ·simp[h];omega
  ·simp[h]
noncomputable def drawD (E:Env P drStatic) (ops:Array Oper) (ts:List NVal) (h:NHeap) (r:Option (List NVal)) (n:Nat):Out:=match n,r with
 |0,some ts'=>some (.normal,ts',h)
 |_,_=>normal (drawnOps P (K E) ops ts h)
theorem S_draw (id ops ts h):C E (.region id ops true) ts h=drawD E ops ts h (seqRO P ops ops.toList ts h) (rowsIn ops.toList):=by
 rw[C_draw]
 unfold drawD
 split
 ·rename_i ts' h1 h2
  rw[drawn_RO (by rw[←rowsIn_eq];exact h1) h2];rfl
 ·rfl
theorem drawD_some (ops:Array Oper) (ts:List NVal) (h:NHeap) (ts':List NVal):drawD E ops ts h (some ts') 0=some (.normal,ts',h):=rfl
theorem rowsIn_nil:rowsIn []=0:=rfl
theorem rowsIn_cons (o l):rowsIn (o::l)=(if makesRow o.op then 1 else 0)+rowsIn l:=rfl
def roStep (P:Program) (ρ:Rho) (h:NHeap) (op:Op):Option NVal:=match pureOp P ρ op with
 |some v=>some v
 |none=>readOp P ρ h op
def roRest (P:Program) (ops:Array Oper) (rest:List Oper) (dst:Option Tmp) (ts:List NVal) (h:NHeap) (x:Option NVal):Option (List NVal):=match x with
 |none=>none
 |some v=>seqRO P ops rest (nput ts dst v) h
def roGuard (P:Program) (ops:Array Oper) (o:Oper) (rest:List Oper) (ts:List NVal) (h:NHeap) (g:Option Bool):Option (List NVal):=match g with
 |none=>none
 |some false=>seqRO P ops rest (nput ts o.dst nundef) h
 |some true=>roRest P ops rest o.dst ts h (roStep P (ev ts) h o.op)
theorem ro_nil (ops ts h):seqRO P ops [] ts h=some ts:=rfl
theorem ro_cons (ops o rest ts h):seqRO P ops (o::rest) ts h=roGuard P ops o rest ts h (nwanted ops o ts):=by
 unfold roGuard roRest roStep
 rw[seqRO]
 cases nwanted ops o ts with
 |none=>rfl
 |some b=>
  cases b with
  |false=>rfl
  |true=>
   simp only
   cases pureOp P (ev ts) o.op with
   |some v=>rfl
   |none=>cases readOp P (ev ts) h o.op<;>rfl
theorem ro_plain (ops dst op ty pos after rest ts h):seqRO P ops (⟨dst,op,ty,pos,after,none⟩::rest) ts h=roRest P ops rest dst ts h (roStep P (ev ts) h op):=by
 rw[ro_cons];rfl
theorem ro_guard (ops dst op ty pos after j want rest ts h):seqRO P ops (⟨dst,op,ty,pos,after,some (j,want)⟩::rest) ts h=
  roGuard P ops ⟨dst,op,ty,pos,after,some (j,want)⟩ rest ts h (match(ops[j]?).bind (·.dst) with
  |none=>some false
  |some d=>match ts[d]? with
   |some (.bool b)=>some (b==want)
   |some .junk=>none
   |_=>some false):=by rw[ro_cons];rfl
theorem roGuard_true (ops o rest ts h):roGuard P ops o rest ts h (some true)=roRest P ops rest o.dst ts h (roStep P (ev ts) h o.op):=rfl
theorem roGuard_false (ops o rest ts h):roGuard P ops o rest ts h (some false)=seqRO P ops rest (nput ts o.dst nundef) h:=rfl
theorem roRest_some (ops rest dst ts h v):roRest P ops rest dst ts h (some v)=seqRO P ops rest (nput ts dst v) h:=rfl
section
variable (ρ:Rho) (h:NHeap)
theorem ro_of_pure {op:Op} (hr:readOp P ρ h op=none):roStep P ρ h op=pureK op P ρ:=by
 unfold roStep;rw[pureK_eq,hr];cases pureOp P ρ op<;>rfl
theorem ro_move (x):roStep P ρ h (.move x)=ρ x:=ro_of_pure ρ h rfl
theorem ro_assign (x):roStep P ρ h (.assign x)=ρ x:=ro_of_pure ρ h rfl
theorem ro_pick (c a b):roStep P ρ h (.pick c a b)=kPick (ρ c) (ρ a) (ρ b):=ro_of_pure ρ h rfl
theorem ro_nilCheck (x):roStep P ρ h (.nilCheck x)=kNil (ρ x):=ro_of_pure ρ h rfl
theorem ro_binOp (op t x y p):roStep P ρ h (.binOp op t x y p)=bind2 (ρ x) (ρ y) (nbin P op t):=ro_of_pure ρ h rfl
theorem ro_fieldAddr (t x f):roStep P ρ h (.fieldAddr t x f)=bind1 (ρ x) fun u=>nfieldAddr P t u f:=ro_of_pure ρ h rfl
theorem ro_indexAddr (t x ix):roStep P ρ h (.indexAddr t x ix)=bind2 (ρ x) (ρ ix) (nindexAddr P t):=ro_of_pure ρ h rfl
theorem ro_load (t x):roStep P ρ h (.load t x)=kLoad P h t (ρ x):=rfl
theorem ro_len (args tys):roStep P ρ h (.call ⟨.builtin .len,args,tys⟩)=(match kLen P ρ args tys with|some v=>some v|none=>kLenM P ρ h args tys):=rfl
end
theorem ne1 (n:Nat):(n=n+1)=False:=by simp only[eq_iff_iff,iff_false];omega
theorem lt1 (n:Nat):(n<n+1)=True:=by simp only[eq_iff_iff,iff_true];omega
theorem ne2 (n:Nat):(n=n+1+1)=False:=by simp only[eq_iff_iff,iff_false];omega
theorem lt2 (n:Nat):(n<n+1+1)=True:=by simp only[eq_iff_iff,iff_true];omega
theorem lt3 (n:Nat):(n<n+1+1+1)=True:=by simp only[eq_iff_iff,iff_true];omega
theorem lt4 (n:Nat):(n<n+1+1+1+1)=True:=by simp only[eq_iff_iff,iff_true];omega
theorem lt5 (n:Nat):(n<n+1+1+1+1+1)=True:=by simp only[eq_iff_iff,iff_true];omega
theorem lt6 (n:Nat):(n<n+1+1+1+1+1+1)=True:=by simp only[eq_iff_iff,iff_true];omega
theorem lt7 (n:Nat):(n<n+1+1+1+1+1+1+1)=True:=by simp only[eq_iff_iff,iff_true];omega
theorem lt8 (n:Nat):(n<n+1+1+1+1+1+1+1+1)=True:=by simp only[eq_iff_iff,iff_true];omega
theorem lt9 (n:Nat):(n<n+1+1+1+1+1+1+1+1+1)=True:=by simp only[eq_iff_iff,iff_true];omega
theorem lt10 (n:Nat):(n<n+1+1+1+1+1+1+1+1+1+1)=True:=by simp only[eq_iff_iff,iff_true];omega
theorem lt11 (n:Nat):(n<n+1+1+1+1+1+1+1+1+1+1+1)=True:=by simp only[eq_iff_iff,iff_true];omega
theorem lt12 (n:Nat):(n<n+1+1+1+1+1+1+1+1+1+1+1+1)=True:=by simp only[eq_iff_iff,iff_true];omega
theorem lt_step (n m:Nat):(n+1<m+1)=(n<m):=by simp
structure Ext (h h':NHeap):Prop where
 next:h.next≤h'.next
 get:∀{b o},h.get b=some o→h'.get b=some o
theorem Ext.refl (h:NHeap):Ext h h:=⟨Nat.le_refl _,fun e=>e⟩
theorem Ext.trans {h h' h'':NHeap} (a:Ext h h') (b:Ext h' h''):Ext h h'':=⟨Nat.le_trans a.next b.next,fun e=>b.get (a.get e)⟩
theorem Ext.alloc {h h':NHeap} (a:Ext h h') (o:NObj):Ext h (h'.alloc o):=⟨Nat.le_succ_of_le a.next,fun e=>by
 rw[NHeap.get_alloc_lt (Nat.lt_of_lt_of_le (NHeap.get_lt e) a.next)];exact a.get e⟩
theorem Ext.set {h h':NHeap} (a:Ext h h') {b:Nat} (hb:h.next≤b) (o:NObj):Ext h (h'.set b o):=⟨a.next,fun e=>by
 have:=NHeap.get_lt e
 rw[NHeap.get_set_ne (by omega)];exact a.get e⟩
structure Row (h:NHeap) (v:NVal) (n:Nat) (cs:List NVal):Prop where
 is:∃bo cap x,v=.slice bo n cap x∧(n=0∧cs=[]∨∃b o all m,bo=some (b,o)∧h.get b=some (.cells all m)∧o+cs.length≤all.length∧(all.drop o).take cs.length=cs)
end Go.Proofs.YtkjpldganajkkaaGreatDoor.NICE
namespace Go.Proofs.YtkjpldganajkkaaGreatDoor.NICE
open Go Go.RowKit
variable {P:Program} {E:Env P drStatic}
def edgeB (j:Nat):List Edge→Bool
 |[]=>false
 |e::l=>(match e.ground with| .textOnly _=>false| .gcOnly _=>false|_=>e.on==j)||edgeB j l
theorem mask_keep (acc:List Nat) (j:Nat):∀(l:List Edge) (s:Nat),s.testBit j=true→(l.foldl (fun s e=>if Region.binds .any e then s|||2^e.on|||acc.getD e.on 0 else s) s).testBit j=true
 |[],s,h=>h
 |e::l,s,h=>by
  rw[List.foldl_cons]
  refine mask_keep acc j l _ ?_
  split
  ·simp[Nat.testBit_or,h]
  ·exact h
theorem mask_edge (acc:List Nat) (j:Nat):∀(l:List Edge) (s:Nat),edgeB j l=true→(l.foldl (fun s e=>if Region.binds .any e then s|||2^e.on|||acc.getD e.on 0 else s) s).testBit j=true
 |[],s,h=>by cases h
 |e::l,s,h=>by
  rw[List.foldl_cons]
  simp only[edgeB,Bool.or_eq_true] at h
  rcases h with h|h
  ·refine mask_keep acc j l _ ?_
   have hb:Region.binds .any e=true∧e.on=j:=by
    unfold Region.binds
    cases hg:e.ground<;>rw[hg] at h<;>first|(cases h;done)|(simp at h;exact⟨rfl,h⟩)
   rw[if_pos hb.1,hb.2]
   simp[Nat.testBit_or,Nat.testBit_two_pow_self]
  ·exact mask_edge acc j l _ h
theorem masks_grow:∀(l:List Oper) (acc:List Nat),∃r,l.foldl (fun acc o=>acc++[maskOf acc o]) acc=acc++r
 |[],acc=>⟨[],by simp⟩
 |o::l,acc=>by
  obtain⟨r,hr⟩:=masks_grow l (acc++[maskOf acc o])
  exact⟨[maskOf acc o]++r,by rw[List.foldl_cons,hr,List.append_assoc]⟩
theorem masks_len:∀(l:List Oper) (acc:List Nat),(l.foldl (fun acc o=>acc++[maskOf acc o]) acc).length=acc.length+l.length
 |[],acc=>by simp
 |o::l,acc=>by rw[List.foldl_cons,masks_len l];simp;omega
theorem masks_at {l:List Oper} {i:Nat} {o:Oper} (h:l[i]? =some o):∃acc,(masksOf l).getD i 0=maskOf acc o:=by
 have hi:i<l.length:=(List.getElem?_eq_some_iff.1 h).1
 have e:l=l.take i++o::l.drop (i+1):=by
  conv=>lhs;rw[←List.take_append_drop i l]
  congr 1
  rw[List.drop_eq_getElem_cons hi]
  congr 1
  exact(List.getElem?_eq_some_iff.1 h).2
 refine⟨masksOf (l.take i),?_⟩
 conv=>lhs;rw[e]
 unfold masksOf
 rw[List.foldl_append,List.foldl_cons]
 obtain⟨r,hr⟩:=masks_grow (l.drop (i+1)) ((l.take i).foldl (fun acc o=>acc++[maskOf acc o]) []++[maskOf ((l.take i).foldl (fun acc o=>acc++[maskOf acc o]) []) o])
 rw[hr]
 have hl:((l.take i).foldl (fun acc o=>acc++[maskOf acc o]) []).length=i:=by rw[masks_len];simp;omega
 rw[List.getD_eq_getElem?_getD,List.append_assoc,List.getElem?_append_right (by omega),hl]
 simp
theorem edge_bit {l:List Oper} {i j:Nat} {o:Oper} (h:l[i]? =some o) (he:edgeB j o.after.toList=true):((masksOf l).getD i 0).testBit j=true:=by
 obtain⟨acc,ha⟩:=masks_at h
 rw[ha]
 exact mask_edge acc j _ 0 he
def eStep (P:Program) (ρ:Rho) (h:NHeap) (op:Op):Option (Bool×NVal):=match pureOp P ρ op with
 |some v=>some (false,v)
 |none=>match readOp P ρ h op with
  |some v=>some (true,v)
  |none=>none
def allEdge (o:List Edge):List Nat→Bool
 |[]=>true
 |j::l=>edgeB j o&&allEdge o l
theorem allEdge_mem {o:List Edge}:∀{l:List Nat},allEdge o l=true→∀j∈l,edgeB j o=true
 |[],h,j,hj=>by cases hj
 |k::l,h,j,hj=>by
  simp only[allEdge,Bool.and_eq_true] at h
  cases hj with
  |head=>exact h.1
  |tail _ hj=>exact allEdge_mem h.2 j hj
def floats (r:NewR):Option (List NVal×(Nat→NVal)):=match r with
 |some (.cells cs (.own none),mk)=>some (cs,mk)
 |_=>none
structure ReadOk (P:Program) (M:List Nat) (st:St) (r:Nat×Oper×List NVal×NVal):Prop where
 ok:∃lo hi,lo≤hi∧hi≤st.ei.length∧(∀k,lo≤k→k≤hi→∃H,st.hs[k]? =some H∧readOp P (ev r.2.2.1) H r.2.1.op=some r.2.2.2)∧veq 50 r.2.2.2 r.2.2.2=true∧
  ∀q j,st.ei[q]? =some j→(q<lo→(M.getD r.1 0).testBit j=true)∧(hi≤q→(M.getD j 0).testBit r.1=true)
theorem inWin_at {M:List Nat} {i k:Nat}:∀{ei:List Nat} {p:Nat},inWin M i k p ei=true→∀q j,ei[q]? =some j→((M.getD i 0).testBit j=true→p+q+1≤k)∧((M.getD j 0).testBit i=true→k<p+q+1)
 |[],p,h,q,j,e=>by simp at e
 |a::l,p,h,q,j,e=>by
  simp only[inWin,Bool.and_eq_true,Bool.or_eq_true,Bool.not_eq_true',decide_eq_true_eq] at h
  cases q with
  |zero=>
   simp at e;subst e
   refine⟨fun t=>?_,fun t=>?_⟩
   ·rcases h.1.1 with h1|h1
    ·rw[t] at h1;cases h1
    ·omega
   ·rcases h.1.2 with h1|h1
    ·rw[t] at h1;cases h1
    ·omega
  |succ q=>
   have:=inWin_at h.2 q j (by simpa using e)
   exact⟨fun t=>by have:=this.1 t;omega,fun t=>by have:=this.2 t;omega⟩
theorem readAgain_of {M:List Nat} {st:St} {r:Nat×Oper×List NVal×NVal} (hr:ReadOk P M st r):∀(hs:List NHeap) (k:Nat),(∀q H,hs[q]? =some H→st.hs[k+q]? =some H)→k+hs.length≤st.ei.length+1→readAgain P M st.ei r k hs=true
 |[],k,_,_=>rfl
 |h::hs,k,hh,hl=>by
  unfold readAgain
  rw[Bool.and_eq_true]
  refine⟨?_,readAgain_of hr hs (k+1) (fun q H e=>by have:=hh (q+1) H (by simpa using e);rwa[show k+(q+1)=k+1+q by omega] at this) (by simp at hl;omega)⟩
  cases hw:inWin M r.1 k 0 st.ei with
  |false=>rfl
  |true=>
   obtain⟨lo,hi,h00,h0,h2,h3,h4⟩:=hr.ok
   have hle:lo≤k:=by
    rcases Nat.eq_zero_or_pos lo with z|z
    ·omega
    ·obtain⟨j,hj⟩:∃j,st.ei[lo-1]? =some j:=⟨st.ei[lo-1],by simp[show lo-1<st.ei.length by omega]⟩
     have:=(inWin_at hw (lo-1) j hj).1 ((h4 _ _ hj).1 (by omega))
     omega
   have hge:k≤hi:=by
    rcases Nat.lt_or_ge hi st.ei.length with z|z
    ·obtain⟨j,hj⟩:∃j,st.ei[hi]? =some j:=⟨st.ei[hi],by simp[z]⟩
     have:=(inWin_at hw hi j hj).2 ((h4 _ _ hj).2 (by omega))
     omega
    ·simp at hl;omega
   obtain⟨H,h1,h2⟩:=h2 k hle hge
   have e:=hh 0 h rfl
   rw[Nat.add_zero,h1] at e
   cases e
   simp only[Bool.not_true,Bool.false_or]
   rw[h2]
   exact h3
theorem floats_rows {ρ:Rho} {op:Op} {x} (h:floats (newOp P ρ op)=some x):makesRow op=true:=by
 cases op<;>first|rfl|(exfalso;simp only[newOp,floats] at h;cases h;done)|skip
 case makeMap t r=>cases r<;>(simp only[newOp,floats] at h;cases h)
theorem floats_some {r:NewR} {cs mk} (h:floats r=some (cs,mk)):r=some (.cells cs (.own none),mk):=by
 unfold floats at h
 split at h
 ·cases h;rfl
 ·cases h
theorem floats_none {r:NewR} (h:floats r=none):∀cs mk,r≠some (.cells cs (.own none),mk):=by
 rintro cs mk rfl
 cases h
theorem ReadOk.step {M:List Nat} {st st':St} {r} (hr:ReadOk P M st r) {i:Nat} (hl:st.hs.length=st.ei.length+1) (he:st'.ei=st.ei∨(st'.ei=st.ei++[i]∧(M.getD i 0).testBit r.1=true)) (hh:∃l,st'.hs=st.hs++l):ReadOk P M st' r:=by
 obtain⟨lo,hi,h00,h0,h2,h3,h4⟩:=hr.ok
 obtain⟨l,hh⟩:=hh
 have hk:∀k,lo≤k→k≤hi→∃H,st'.hs[k]? =some H∧readOp P (ev r.2.2.1) H r.2.1.op=some r.2.2.2:=fun k a b=>by
  obtain⟨H,e1,e2⟩:=h2 k a b
  exact⟨H,by rw[hh,List.getElem?_append_left (by omega)];exact e1,e2⟩
 rcases he with he|⟨he,hb⟩
 ·exact⟨⟨lo,hi,h00,by rw[he];exact h0,hk,h3,by rw[he];exact h4⟩⟩
 ·refine⟨⟨lo,hi,h00,by rw[he];simp;omega,hk,h3,fun q j hq=>?_⟩⟩
  rw[he] at hq
  rcases Nat.lt_or_ge q st.ei.length with z|z
  ·rw[List.getElem?_append_left z] at hq;exact h4 q j hq
  ·rw[List.getElem?_append_right z] at hq
   have:j=i:=by
    cases hq':q-st.ei.length with
    |zero=>rw[hq'] at hq;simpa using hq.symm
    |succ n=>rw[hq'] at hq;simp at hq
   subst this
   exact⟨fun _=>by omega,fun _=>hb⟩
noncomputable def drawL (E:Env P drStatic) (ops:Array Oper) (ts:List NVal) (h:NHeap) (r:Option (List NVal×NHeap)):Out:=match r with
 |some (ts',h')=>some (.normal,ts',h')
 |none=>normal (drawnOps P (K E) ops ts h)
theorem drawL_some (ops:Array Oper) (ts:List NVal) (h:NHeap) (ts':List NVal) (h':NHeap):drawL E ops ts h (some (ts',h'))=some (.normal,ts',h'):=rfl
def readsAll (P:Program) (ρ:Rho) (op:Op) (v:NVal):List NHeap→Prop
 |[]=>True
 |H::l=>readOp P ρ H op=some v∧readsAll P ρ op v l
theorem readsAll_iff {ρ:Rho} {op:Op} {v:NVal}:∀(l:List NHeap),readsAll P ρ op v l↔∀H∈l,readOp P ρ H op=some v
 |[]=>by simp[readsAll]
 |H::l=>by simp[readsAll,readsAll_iff l]
theorem readOp_load (ρ:Rho) (H:NHeap) (t x):readOp P ρ H (.load t x)=kLoad P H t (ρ x):=rfl
section
variable (E) (ops:Array Oper) (o:Oper) (rest:List Oper) (i:Nat) (ts:List NVal) (h:NHeap) (hs:List NHeap) (ei rd:List Nat) (pend:List Float3) (nid:Nat)
end
theorem adoptAll_nil (h:NHeap):adoptAll h []=h:=rfl
theorem adoptAll_cons (h:NHeap) (i id:Nat) (cs:List NVal) (l):adoptAll h ((i,id,cs)::l)=adoptAll (h.set id (.cells cs (.own none))) l:=rfl
theorem reserve_zero (h:NHeap):reserve 0 h=h:=rfl
theorem reserve_succ (n:Nat) (h:NHeap):reserve (n+1) h=reserve n (h.alloc .dead):=rfl
theorem floats_cells (cs mk):floats (some (.cells cs (.own none),mk))=some (cs,mk):=rfl
theorem floats_nothing:floats none=none:=rfl
def valE (x:Option NVal):Option (Bool×NVal):=match x with|some v=>some (false,v)|none=>none
def readE (x:Option NVal):Option (Bool×NVal):=match x with|some v=>some (true,v)|none=>none
theorem valE_some (v:NVal):valE (some v)=some (false,v):=rfl
theorem readE_some (v:NVal):readE (some v)=some (true,v):=rfl
section
variable (ρ:Rho) (h:NHeap)
theorem es_of_pure {op:Op} (hr:readOp P ρ h op=none):eStep P ρ h op=valE (pureK op P ρ):=by
 unfold eStep valE;rw[pureK_eq];cases hp:pureOp P ρ op with
 |some v=>rfl
 |none=>simp only[hr]
theorem es_move (x):eStep P ρ h (.move x)=valE (ρ x):=es_of_pure ρ h rfl
theorem es_assign (x):eStep P ρ h (.assign x)=valE (ρ x):=es_of_pure ρ h rfl
theorem es_pick (c a b):eStep P ρ h (.pick c a b)=valE (kPick (ρ c) (ρ a) (ρ b)):=es_of_pure ρ h rfl
theorem es_build (t parts):eStep P ρ h (.build t parts)=valE (kBuild P t (evParts ρ parts.toList)):=es_of_pure ρ h rfl
theorem es_nilCheck (x):eStep P ρ h (.nilCheck x)=valE (kNil (ρ x)):=es_of_pure ρ h rfl
theorem es_binOp (op t x y p):eStep P ρ h (.binOp op t x y p)=valE (bind2 (ρ x) (ρ y) (nbin P op t)):=es_of_pure ρ h rfl
theorem es_unOp (op t x):eStep P ρ h (.unOp op t x)=valE (bind1 (ρ x) (nun op)):=es_of_pure ρ h rfl
theorem es_slice (t x lo hi mx):eStep P ρ h (.slice t x lo hi mx)=valE (kSlice P t (evOpt ρ mx) (ρ x) (evOpt ρ lo) (evOpt ρ hi)):=es_of_pure ρ h rfl
theorem es_fieldAddr (t x f):eStep P ρ h (.fieldAddr t x f)=valE (bind1 (ρ x) fun u=>nfieldAddr P t u f):=es_of_pure ρ h rfl
theorem es_indexAddr (t x ix):eStep P ρ h (.indexAddr t x ix)=valE (bind2 (ρ x) (ρ ix) (nindexAddr P t)):=es_of_pure ρ h rfl
theorem es_index (t x ix):eStep P ρ h (.index t x ix)=valE (bind2 (ρ x) (ρ ix) (nindex P t)):=es_of_pure ρ h rfl
theorem es_extract (x i):eStep P ρ h (.extract x i)=valE (kExtract (ρ x) i):=es_of_pure ρ h rfl
theorem es_load (t x):eStep P ρ h (.load t x)=readE (kLoad P h t (ρ x)):=rfl
theorem es_len (args tys):eStep P ρ h (.call ⟨.builtin .len,args,tys⟩)=(match kLen P ρ args tys with|some v=>some (false,v)|none=>readE (kLenM P ρ h args tys)):=rfl
theorem es_store (t x y):eStep P ρ h (.store t x y)=none:=rfl
theorem es_call (f args tys):eStep P ρ h (.call ⟨.value f,args,tys⟩)=none:=rfl
theorem es_append (args tys):eStep P ρ h (.call ⟨.builtin .append,args,tys⟩)=none:=rfl
theorem es_copy (args tys):eStep P ρ h (.call ⟨.builtin .copy,args,tys⟩)=none:=rfl
theorem es_clear (args tys):eStep P ρ h (.call ⟨.builtin .clear,args,tys⟩)=none:=rfl
theorem es_alloc (t):eStep P ρ h (.alloc t)=none:=rfl
theorem es_box (t x):eStep P ρ h (.box t x)=none:=rfl
theorem es_buildSlice (t n ps):eStep P ρ h (.buildSlice t n ps)=none:=rfl
theorem es_makeSlice (t l c):eStep P ρ h (.makeSlice t l c)=none:=rfl
end
def quietO:Op→Bool
 | .store _ _ _=>false
 | .mapUpdate _ _ _ _=>false
 | .insert _ _ _ _=>false
 | .alloc _=>false
 | .box _ _=>false
 | .buildSlice _ _ _=>false
 | .makeSlice _ _ _=>false
 | .makeMap _ _=>false
 | .convert _ _ _=>false
 | .call c=>(match c.callee with| .builtin .len=>true| .builtin .cap=>true| .builtin .min=>true| .builtin .max=>true|_=>false)
 |_=>true
def quiet:List Oper→Bool
 |[]=>true
 |o::l=>quietO o.op&&quiet l
end Go.Proofs.YtkjpldganajkkaaGreatDoor.NICE
namespace Go.Proofs.YtkjpldganajkkaaGreatDoor.NICE
open Go Go.RowKit
variable {P:Program} {E:Env P drStatic}
abbrev ArgL:=List (Option (Nat×Nat×Nat)×NObj)
def argI (l:ArgL):Inj:=fun b=>(l[b]?).bind (·.1)
def argHeap:ArgL→NHeap→NHeap
 |[],h=>h
 |p::l,h=>argHeap l (h.alloc p.2)
theorem argHeap_next:∀(l:ArgL) (h:NHeap),(argHeap l h).next=h.next+l.length
 |[],h=>rfl
 |p::l,h=>by simp only[argHeap,argHeap_next l,NHeap.next_alloc,List.length_cons];omega
theorem argHeap_get:∀(l:ArgL) (h:NHeap) (b:Nat),(argHeap l h).get b=if b<h.next then h.get b else(l[b-h.next]?).map (·.2)
 |[],h,b=>by
  simp only[argHeap,List.getElem?_nil,Option.map_none]
  split
  ·rfl
  ·exact NHeap.get_ge (by omega)
 |p::l,h,b=>by
  simp only[argHeap,argHeap_get l,NHeap.next_alloc,NHeap.get_alloc]
  by_cases h1:b<h.next
  ·rw[if_pos (by omega),if_pos h1,if_neg (by omega)]
  ·by_cases h2:b=h.next
   ·subst h2;rw[if_pos (by omega),if_neg h1,if_pos rfl];simp
   ·rw[if_neg (by omega),if_neg h1,show b-h.next=(b-(h.next+1))+1 by omega];simp
def argH (l:ArgL):NHeap:=argHeap l NHeap.empty
theorem argH_get (l:ArgL) (b:Nat):(argH l).get b=(l[b]?).map (·.2):=by
 unfold argH
 rw[argHeap_get,if_neg (by simp[NHeap.empty])]
 rfl
theorem Inv.args (w:World) (l:ArgL) (hok:∀(b:Nat) (p:Option (Nat×Nat×Nat)×NObj),l[b]? =some p→p.2=.dead∨∃cs,p.2=.cells cs .ro∧∃rb s m,p.1=some (rb,s,m)∧∀(i:Nat) v,cs[i]? =some v→∃r,w.cell? ⟨rb,s+i,none⟩=some r∧VR (argI l) v r):
  Inv w (argI l) (argH l) w:=by
 have get:∀{b o},(argH l).get b=some o→o=.dead∨∃cs,o=.cells cs .ro∧∃rb s m,argI l b=some (rb,s,m)∧∀(i:Nat) v,cs[i]? =some v→∃r,w.cell? ⟨rb,s+i,none⟩=some r∧VR (argI l) v r:=by
  intro b o e
  rw[argH_get] at e
  obtain⟨p,hp,rfl⟩:=Option.map_eq_some_iff.1 e
  rcases hok b p hp with h|⟨cs,h1,rb,s,m,h2,h3⟩
  ·exact .inl h
  ·exact .inr ⟨cs,h1,rb,s,m,by simp[argI,hp,h2],h3⟩
 refine⟨Below.refl _ _,fun b x e=>?_,fun b cs t e=>?_,fun b cs T k e=>?_,fun b cs e=>?_,fun b es e=>?_,fun b b' o o' rb s s' m m' e1 h1 e2 h2=>?_⟩
 ·unfold argH;rw[argHeap_next]
  unfold argI at e
  cases hl:l[b]? with
  |none=>rw[hl] at e;cases e
  |some p=>have:=(List.getElem?_eq_some_iff.1 hl).1;simp[NHeap.empty];exact this
 ·rcases get e with h|⟨cs',h,_⟩<;>cases h
 ·rcases get e with h|⟨cs',h,_⟩<;>cases h
 ·rcases get e with h|⟨cs',h,rb,s,m,h1,h2⟩
  ·cases h
  ·cases h;exact⟨rb,s,m,h1,h2⟩
 ·rcases get e with h|⟨cs',h,_⟩<;>cases h
 ·rcases get e1 with h|⟨cs',h,_⟩
  ·subst h;cases h1
  ·subst h;cases h1
theorem walk_true (hm:P.follows .mixedOrders=true) {f:FuncId} {us:List NVal} {h h':NHeap} (hk:E.known f us h=none) (e:K E f us h=some (.bool true,h')) {w:World} {ι:Inj} (I:Inv w ι h w) {ra:Array Value} (hv:VRs ι us ra.toList):
  Calls P f ra w fun e w'=>e=.returned (.bool true)∧Below w.heap.size w w':=by
 refine K_sim hm hk e w ι w ra _ I hv fun ι' w' rv hr I' S'=>?_
 cases hr
 exact⟨rfl,I'.below⟩
theorem trodAll_stays {H:Type} {enc:TypeId×Value→H} (hl:laidOutB P=true) {W W':World} (hb:Below W.heap.size W W'):∀{ts:List TypeId} {vs:List Value} {ds:List (DataW H)} {ps:List MemPlace},
  (ts.all fun t=>P.readableRec t&&decide (t<P.types.size))=true→DataW.TrodAll enc P W 0 (fun _=>true) true ts vs ds ps→(∀x∈ps,x.block<W.heap.size)→DataW.TrodAll enc P W' 0 (fun b=>decide (b<W.heap.size)) true ts vs ds ps
 |[],[],[],ps,_,h,_=>h
 |t::ts,v::vs,d::ds,ps,ha,h,hlt=>by
  obtain⟨p,q,h1,h2,rfl⟩:=h
  simp only[List.all_cons,Bool.and_eq_true,decide_eq_true_eq] at ha
  exact⟨p,q,Below.trod hl ha.1.1 ha.1.2 h1 hb fun x hx=>hlt x (List.mem_append_left _ hx),trodAll_stays hl hb ha.2 h2 fun x hx=>hlt x (List.mem_append_right _ hx),rfl⟩
 |[],_::_,_,_,_,h,_=>h.elim
 |[],[],_::_,_,_,h,_=>h.elim
 |_::_,[],_,_,_,h,_=>h.elim
 |_::_,_::_,[],_,_,h,_=>h.elim
def trueKnown (f:FuncId) (c:Nat):CallF:=fun g l h=>if g=f then(match l with
 |[]=>some (.bool true,layAll h.next (List.replicate c .dead) h)
 |_=>none) else none
theorem trueKnown_ok (hm:P.follows .mixedOrders=true) (E:Env P drStatic) {m n:Nat} {f:FuncId} (hk:E.known f [] NHeap.empty=none) (e:saysTrue (tF P E m (n+1) f [] NHeap.empty)=true):∃c,CallOk P (trueKnown f c):=by
 cases hr:tF P E m (n+1) f [] NHeap.empty with
 |none=>rw[hr] at e;cases e
 |some p=>
  obtain⟨v,h1⟩:=p
  rw[hr] at e
  have hv:v=.bool true:=by
   cases v with
   |bool b=>cases b with
    |true=>rfl
    |false=>cases e
   |_=>cases e
  subst hv
  obtain⟨s1,s2⟩:=tF_step hm E m (tF_sound hm E m n) hr hk
  refine⟨h1.next,fun g l h v h' q=>?_⟩
  unfold trueKnown at q
  split at q
  ·rename_i hg
   subst hg
   split at q
   ·cases q
    have hl:Lists h1 (List.replicate h1.next .dead):=⟨by simp,fun b o ho=>.inl (List.eq_of_mem_replicate (List.mem_of_getElem? ho))⟩
    have hro:noRo (List.replicate h1.next .dead)=true:=List.all_eq_true.2 fun o ho=>by rw[List.eq_of_mem_replicate ho]
    exact .inl ⟨s1,s2.frame (by rfl) hl hro h⟩
   ·cases q
  ·cases q
theorem layAll_ext (d:Nat):∀(l:List NObj) (h:NHeap),Ext h (layAll d l h)
 |[],h=>Ext.refl h
 |o::l,h=>(Ext.alloc (Ext.refl h) _).trans (layAll_ext d l _)
end Go.Proofs.YtkjpldganajkkaaGreatDoor.NICE
namespace Go.Proofs.YtkjpldganajkkaaGreatDoor.NICE
open Go Go.RowKit
variable {P:Program} {E:Env P drStatic}
abbrev Fr:=Nat→NVal
def upd (F:Fr) (d:Nat) (v:NVal):Fr:=fun i=>cond (i==d) v (F i)
theorem upd_at (F:Fr) (d:Nat) (v:NVal) (i:Nat):upd F d v i=cond (i==d) v (F i):=rfl
def toL (n:Nat) (F:Fr):List NVal:=(List.range n).map F
def argF (l:List NVal):Fr:=fun i=>l.getD i nundef
theorem argF_zero (a:NVal) (l:List NVal):argF (a::l) 0=a:=rfl
theorem argF_succ (a:NVal) (l:List NVal) (i:Nat):argF (a::l) (i+1)=argF l i:=rfl
theorem argF_nil (i:Nat):argF [] i=nundef:=rfl
theorem toL_length (n:Nat) (F:Fr):(toL n F).length=n:=by simp[toL]
theorem toL_get? (n:Nat) (F:Fr) (i:Nat):(toL n F)[i]? =if i<n then some (F i) else none:=by
 unfold toL
 rw[List.getElem?_map]
 by_cases h:i<n
 ·rw[List.getElem?_range h];simp[h]
 ·rw[List.getElem?_eq_none (by simpa using h)];simp[h]
theorem toL_getD (n:Nat) (F:Fr) (i:Nat):(toL n F).getD i nundef=if i<n then F i else nundef:=by
 rw[List.getD_eq_getElem?_getD,toL_get?]
 split<;>rfl
theorem toL_set (n:Nat) (F:Fr) (d:Nat) (v:NVal):(toL n F).set d v=toL n (upd F d v):=by
 apply List.ext_getElem?
 intro i
 rw[List.getElem?_set,toL_get?,toL_get?,toL_length]
 by_cases hd:d=i
 ·subst hd
  by_cases h:d<n<;>simp[h,upd]
 ·by_cases h:i<n<;>simp[h,hd,upd,beq_false_of_ne (Ne.symm hd)]
theorem nput_toL (n:Nat) (F:Fr) (d:Tmp) (v:NVal):nput (toL n F) (some d) v=toL n (upd F d v):=toL_set n F d v
theorem nput_toL_none (n:Nat) (F:Fr) (v:NVal):nput (toL n F) none v=toL n F:=rfl
theorem ev_toL (n:Nat) (F:Fr) (t:Tmp) (h:t<n):ev (toL n F) (.tmp t)=some (F t):=by
 rw[ev_tmp,toL_getD,if_pos h]
theorem nresult_toL (n:Nat) (F:Fr) (h:NHeap) (t:Tmp) (ht:t<n):nresult P (toL n F) h (.tmp t)=some (F t):=by
 show some ((toL n F).getD t nundef)=_
 rw[toL_getD,if_pos ht]
theorem nresult_cell (n:Nat) (F:Fr) (h:NHeap) (a:Tmp) (t:TypeId) (ha:a<n):nresult P (toL n F) h (.cell a t)=(match F a with
  | .ptr (some p)=>nload P t p h
  |_=>none):=by
 show(match(toL n F).getD a nundef with
  | .ptr (some p)=>nload P t p h
  |_=>none)=_
 rw[toL_getD,if_pos ha]
theorem toL_arg (n:Nat) (l:List NVal) (h:l.length≤n):l++List.replicate (n-l.length) nundef=toL n (argF l):=by
 apply List.ext_getElem?
 intro i
 rw[toL_get?,List.getElem?_append,List.getElem?_replicate]
 unfold argF
 by_cases h1:i<l.length
 ·rw[if_pos h1,if_pos (by omega),List.getD_eq_getElem?_getD,List.getElem?_eq_getElem h1];rfl
 ·rw[if_neg h1]
  by_cases h2:i<n
  ·rw[if_pos (by omega),if_pos h2,List.getD_eq_getElem?_getD,List.getElem?_eq_none (by omega)];rfl
  ·rw[if_neg (by omega),if_neg h2]
theorem K_bodyF {f l h c nt rs} (hk:E.known f l h=none) (hg:E.get f=some (c,nt,rs)) (hl:l.length≤nt):K E f l h=outF P rs (C E c (toL nt (argF l)) h):=by
 rw[K_body hk hg,toL_arg nt l hl]
def updL (G:Fr):Nat→List NVal→Fr
 |_,[]=>G
 |o,v::vs=>updL (upd G o v) (o+1) vs
theorem updL_nil (G:Fr) (o:Nat):updL G o []=G:=rfl
theorem updL_cons (G:Fr) (o:Nat) (v:NVal) (vs:List NVal):updL G o (v::vs)=updL (upd G o v) (o+1) vs:=rfl
def seg (G:Fr):Nat→Nat→List NVal
 |_,0=>[]
 |o,k+1=>G o::seg G (o+1) k
theorem seg_zero (G:Fr) (o:Nat):seg G o 0=[]:=rfl
theorem seg_succ (G:Fr) (o k:Nat):seg G o (k+1)=G o::seg G (o+1) k:=rfl
theorem setRange_get? (cs vs:List NVal) (o i:Nat) (h:o+vs.length≤cs.length):(setRange cs o vs)[i]? =if i<o then cs[i]? else if i<o+vs.length then vs[i-o]? else cs[i]? :=by
 unfold setRange
 have hl:(cs.take o).length=o:=by simp;omega
 rw[List.append_assoc]
 by_cases h1:i<o
 ·rw[if_pos h1,List.getElem?_append_left (by omega),List.getElem?_take_of_lt h1]
 ·rw[if_neg h1,List.getElem?_append_right (by omega),hl]
  by_cases h2:i<o+vs.length
  ·rw[if_pos h2,List.getElem?_append_left (by omega)]
  ·rw[if_neg h2,List.getElem?_append_right (by omega),List.getElem?_drop]
   congr 1
   omega
theorem setRange_zero (cs vs:List NVal):setRange cs 0 vs=vs++cs.drop vs.length:=by simp[setRange]
theorem setRange_succ (c:NVal) (cs:List NVal) (o:Nat) (vs:List NVal):setRange (c::cs) (o+1) vs=c::setRange cs o vs:=by
 simp[setRange,show o+1+vs.length=(o+vs.length)+1 by omega]
theorem S_guardF (ops:Array Oper) (dst op ty pos after j want rest n F h):seqOps P (K E) ops (⟨dst,op,ty,pos,after,some (j,want)⟩::rest) (toL n F) h=
  stepS E ops ⟨dst,op,ty,pos,after,some (j,want)⟩ rest (toL n F) h (match(ops[j]?).bind (·.dst) with
  |none=>some false
  |some d=>match(if d<n then some (F d) else none) with
   |some (.bool b)=>some (b==want)
   |some .junk=>none
   |_=>some false):=by rw[S_guard];simp only[toL_get?]<;>rfl
theorem ro_guardF (ops dst op ty pos after j want rest n F h):seqRO P ops (⟨dst,op,ty,pos,after,some (j,want)⟩::rest) (toL n F) h=
  roGuard P ops ⟨dst,op,ty,pos,after,some (j,want)⟩ rest (toL n F) h (match(ops[j]?).bind (·.dst) with
  |none=>some false
  |some d=>match(if d<n then some (F d) else none) with
   |some (.bool b)=>some (b==want)
   |some .junk=>none
   |_=>some false):=by rw[ro_guard];simp only[toL_get?]<;>rfl
def esConv (a b:Option NVal):Option (Bool×NVal):=match a with|some v=>some (false,v)|none=>readE b
theorem esConv_some (v:NVal) (b):esConv (some v) b=some (false,v):=rfl
theorem esConv_none (b):esConv none b=readE b:=rfl
theorem es_convP (ρ:Rho) (h:NHeap) (s d x):eStep P ρ h (.convert s d x)=esConv (bind1 (ρ x) (nconv P s d)) (kStr P h s d (ρ x)):=by
 have e1:pureOp P ρ (.convert s d x)=bind1 (ρ x) (nconv P s d):=by rw[←pureK_eq];rfl
 have e2:readOp P ρ h (.convert s d x)=kStr P h s d (ρ x):=by rw[←readK_eq];rfl
 unfold eStep esConv readE
 rw[e1,e2]<;>rfl
def roConv (a b:Option NVal):Option NVal:=match a with|some v=>some v|none=>b
theorem roConv_some (v:NVal) (b):roConv (some v) b=some v:=rfl
theorem roConv_none (b):roConv none b=b:=rfl
end Go.Proofs.YtkjpldganajkkaaGreatDoor.NICE
namespace Go.Proofs.YtkjpldganajkkaaGreatDoor.NICE
open Go Go.RowKit
variable {P:Program} {E:Env P drStatic}
theorem wrap_i64_small {n:Int} (h0:-2^63≤n) (h1:n<2^63):IntKind.i64.wrap n=n:=by rw[IntKind.wrap_i64];omega
theorem ofInt_toNat (n:Int):(BitVec.ofInt 64 n).toNat=(n%2^64).toNat:=by
 rw[BitVec.toNat_ofInt];rfl
theorem and_mask_i64 (t:TypeId) (n:Int) (j:Nat) (hj:j≤62):nbin P .and t (.int .i64 n) (.int .i64 (2^j-1:Int))=some (.int .i64 (n%2^j)):=by
 have hb:((2:Int)^j)≤2^62:=by
  have:(2:Nat)^j≤2^62:=Nat.pow_le_pow_right (by decide) hj
  exact_mod_cast this
 have hp:(0:Int)<2^j:=by
  have:(0:Nat)<2^j:=Nat.two_pow_pos j
  exact_mod_cast this
 have e:(BitVec.ofInt 64 n&&&BitVec.ofInt 64 ((2:Int)^j-1)).toNat=(n%2^j).toNat:=by
  rw[BitVec.toNat_and,ofInt_toNat,ofInt_toNat]
  have h1:(((2:Int)^j-1)%2^64).toNat=2^j-1:=by
   rw[Int.emod_eq_of_lt (by omega) (by omega)]
   have:((2:Int)^j-1)=((2^j-1:Nat):Int):=by
    have:=Nat.two_pow_pos j
    push_cast [Int.ofNat_sub this]
    rfl
   rw[this];rfl
  rw[h1,Nat.and_two_pow_sub_one_eq_mod]
  have h2:(((n%2^64).toNat%2^j:Nat):Int)=n%2^j:=by
   have h3:(((n%2^64).toNat:Nat):Int)=n%2^64:=Int.toNat_of_nonneg (Int.emod_nonneg _ (by decide))
   rw[Int.natCast_emod,h3]
   push_cast
   have hd:((2:Int)^j)∣2^64:=by
    have:((2:Nat)^j)∣2^64:=Nat.pow_dvd_pow 2 (by omega)
    exact_mod_cast Int.natCast_dvd_natCast.2 this
   exact Int.emod_emod_of_dvd n hd
  omega
 show some (NVal.int .i64 (IntKind.i64.wrap ((BitVec.ofInt 64 n&&&BitVec.ofInt 64 ((2:Int)^j-1)).toNat:Int)))=_
 rw[e]
 have h0:=Int.emod_nonneg n (Int.ne_of_gt hp)
 have h1:=Int.emod_lt_of_pos n hp
 rw[Int.toNat_of_nonneg h0,wrap_i64_small (by omega) (by omega)]
theorem shr_i64 (t:TypeId) (k':IntKind) (n:Int) (j:Nat) (hj:j≤63):nbin P .shr t (.int .i64 n) (.int k' (j:Int))=some (.int .i64 (n/2^j)):=by
 show nShift .shr .i64 n (j:Int)=_
 unfold nShift
 rw[if_neg (by omega)]
 simp only[Int.toNat_natCast,show min j IntKind.i64.bits=j by show min j 64=j;omega]
 congr 2
 rw[Int.fdiv_eq_ediv_of_nonneg]
 have:(0:Nat)<2^j:=Nat.two_pow_pos j
 exact_mod_cast Nat.le_of_lt this
structure Upd (fp:List Nat) (h h':NHeap):Prop where
 next:h.next≤h'.next
 get:∀{b:Nat} {o:NObj},h.get b=some o→b∉fp→h'.get b=some o
theorem Upd.refl (fp:List Nat) (h:NHeap):Upd fp h h:=⟨Nat.le_refl _,fun e _=>e⟩
theorem Upd.trans {fp:List Nat} {h h' h'':NHeap} (u:Upd fp h h') (v:Upd fp h' h''):Upd fp h h'':=
 ⟨Nat.le_trans u.next v.next,fun e hn=>v.get (u.get e hn) hn⟩
theorem Upd.trans' {fp fq:List Nat} {h h' h'':NHeap} (u:Upd fp h h') (v:Upd fq h' h'') (hq:∀b∈fq,b∈fp∨h.next≤b):Upd fp h h'':=
 ⟨Nat.le_trans u.next v.next,fun{b o} e hn=>v.get (u.get e hn) fun hm=>by
  have:=NHeap.get_lt e
  rcases hq b hm with q|q
  ·exact hn q
  ·omega⟩
theorem Upd.mono {fp fq:List Nat} {h h':NHeap} (u:Upd fp h h') (hs:∀b∈fp,b∈fq∨h.next≤b):Upd fq h h':=
 ⟨u.next,fun{b o} e hn=>u.get e fun hm=>by
  have:=NHeap.get_lt e
  rcases hs b hm with q|q
  ·exact hn q
  ·omega⟩
theorem Upd.alloc {fp:List Nat} {h h':NHeap} (u:Upd fp h h') (o:NObj):Upd fp h (h'.alloc o):=
 ⟨Nat.le_trans u.next (Nat.le_succ _),fun e hn=>by
  have h1:=u.get e hn
  rw[NHeap.get_alloc,if_neg (by have:=NHeap.get_lt h1;omega),h1]⟩
theorem Upd.set {fp:List Nat} {h h':NHeap} (u:Upd fp h h') {b:Nat} (hb:b∈fp∨h.next≤b) (o:NObj):Upd fp h (h'.set b o):=
 ⟨u.next,fun e hn=>by
  have:=NHeap.get_lt e
  rw[NHeap.get_set_ne (by rintro rfl;rcases hb with q|q;exact hn q;omega),u.get e hn]⟩
theorem Upd.of_ext {h h':NHeap} (e:Ext h h'):Upd [] h h':=⟨e.next,fun q _=>e.get q⟩
theorem Upd.ext {h h':NHeap} (u:Upd [] h h'):Ext h h':=⟨u.next,fun q=>u.get q (by simp)⟩
end Go.Proofs.YtkjpldganajkkaaGreatDoor.NICE
namespace Go.Proofs.YtkjpldganajkkaaGreatDoor.NICE
open Go Go.RowKit
variable {P:Program}
inductive FK where
 |bool
 |int (k:IntKind)
 |str
 deriving DecidableEq
def FK.ok:FK→NVal→Prop
 | .bool,u=>∃b,u=.bool b
 | .int k,u=>∃n,u=.int k n∧(Lit.int k n).wf=true
 | .str,u=>∃s,u=.str s∧s.length≤maxLen
def flatFs (fl:TypeId→Option (List FK)):Nat→List Field→Option (List FK)
 |_,[]=>some []
 |at_,f::fs=>if f.offset=at_ then(match fl f.type with
  |none=>none
  |some a=>match flatFs fl (at_+a.length) fs with
   |none=>none
   |some b=>some (a++b)) else none
def flatRep (a:List FK):Nat→List FK
 |0=>[]
 |n+1=>a++flatRep a n
def flatU (fl:TypeId→Option (List FK)) (u:Option TypeDesc):Option (List FK):=match u with
 |some .bool=>some [FK.bool]
 |some (.int k)=>some [FK.int k]
 |some .string=>some [FK.str]
 |some (.struct fs)=>flatFs fl 0 fs.toList
 |some (.array n e)=>(match fl e with|some a=>some (flatRep a n)|none=>none)
 |_=>none
def flat (P:Program):Nat→TypeId→Option (List FK)
 |0,_=>none
 |d+1,t=>
  match flatU (flat P d) (P.underlying t) with
  |some l=>if l.length=P.cellsOf t then some l else none
  |none=>none
def Flat (ks:List FK) (cs:List Value):Prop:=∃us,All2 FK.ok ks us∧∀ι,VRs ι us cs
theorem Flat.append {k l:List FK} {a b:List Value} (h:Flat k a) (g:Flat l b):Flat (k++l) (a++b):=by
 obtain⟨u,h1,h2⟩:=h
 obtain⟨v,g1,g2⟩:=g
 exact⟨u++v,h1.append g1,fun ι=>(h2 ι).append (g2 ι)⟩
theorem Flat.nil:Flat [] []:=⟨[],.nil,fun _=>.nil⟩
section
variable {H:Type} {enc:TypeId×Value→H} {W:World}
theorem flat_len {d t l} (h:flat P d t=some l):l.length=P.cellsOf t:=by
 cases d with
 |zero=>simp[flat] at h
 |succ d=>
  unfold flat at h
  split at h
  ·split at h
   ·cases h;assumption
   ·cases h
  ·cases h
theorem trod_fs {fuel:Nat} {fl:TypeId→Option (List FK)} (hfl:∀t l,fl t=some l→l.length=P.cellsOf t)
  (ih:∀t l cs x,fl t=some l→DataW.trod enc P W 0 (fun _=>true) true fuel t cs=some x→Flat l cs) (cs:List Value):
  ∀(fs:List Field) (at_:Nat) (l:List FK),flatFs fl at_ fs=some l→cs.length=at_+l.length→
   (∀f∈fs,∃y,DataW.trod enc P W 0 (fun _=>true) true fuel f.type ((cs.drop f.offset).take (P.cellsOf f.type))=some y)→Flat l (cs.drop at_)
 |[],at_,l,h,hl,hx=>by
  cases h
  rw[List.drop_of_length_le (by simp at hl;omega)]
  exact .nil
 |f::fs,at_,l,h,hl,hx=>by
  unfold flatFs at h
  split at h
  case isFalse=>cases h
  case isTrue ho=>
   cases ha:fl f.type with
   |none=>rw[ha] at h;cases h
   |some a=>
    rw[ha] at h;simp only at h
    cases hb:flatFs fl (at_+a.length) fs with
    |none=>rw[hb] at h;cases h
    |some b=>
     rw[hb] at h;cases h
     obtain⟨y,hy⟩:=hx f (by simp)
     have h1:=ih _ _ _ _ ha hy
     rw[ho,←hfl _ _ ha] at h1
     have h2:=trod_fs hfl ih cs fs (at_+a.length) b hb (by rw[hl,List.length_append];omega) (fun f hf=>hx f (by simp[hf]))
     have:cs.drop at_=(cs.drop at_).take a.length++cs.drop (at_+a.length):=by
      rw[←List.drop_drop];exact(List.take_append_drop _ _).symm
     rw[this]
     exact h1.append h2
theorem trod_rep {fuel:Nat} {e:TypeId} {a:List FK} (hl:a.length=P.cellsOf e) (ih:∀cs x,DataW.trod enc P W 0 (fun _=>true) true fuel e cs=some x→Flat a cs) (cs:List Value):
  ∀(n i:Nat),cs.length=(i+n)*a.length→(∀j,i≤j→j<i+n→∃y,DataW.trod enc P W 0 (fun _=>true) true fuel e ((cs.drop (j*P.cellsOf e)).take (P.cellsOf e))=some y)→Flat (flatRep a n) (cs.drop (i*a.length))
 |0,i,hc,hx=>by
  rw[List.drop_of_length_le (by rw[hc];simp)]
  exact .nil
 |n+1,i,hc,hx=>by
  obtain⟨y,hy⟩:=hx i (Nat.le_refl _) (by omega)
  have h1:=ih _ _ hy
  rw[←hl] at h1
  have h2:=trod_rep hl ih cs n (i+1) (by rw[hc];congr 1;omega) (fun j h1 h2=>hx j (by omega) (by omega))
  have:cs.drop (i*a.length)=(cs.drop (i*a.length)).take a.length++cs.drop ((i+1)*a.length):=by
   rw[Nat.succ_mul,←List.drop_drop];exact(List.take_append_drop _ _).symm
  rw[this]
  exact h1.append h2
theorem trod_flat:∀(d:Nat) {fuel:Nat} {t:TypeId} {l:List FK} {cs:List Value} {x},flat P d t=some l→DataW.trod enc P W 0 (fun _=>true) true fuel t cs=some x→Flat l cs
 |0,fuel,t,l,cs,x,h,hx=>by simp[flat] at h
 |d+1,0,t,l,cs,x,h,hx=>by simp[DataW.trod] at hx
 |d+1,fuel+1,t,l,cs,x,h,hx=>by
  have hlen:=flat_len h
  unfold flat at h
  split at h
  case h_2=>cases h
  case h_1 l' hm=>
   split at h
   case isFalse=>cases h
   case isTrue hl=>
    cases h
    unfold flatU at hm
    split at hm
    ·rename_i hu
     cases hm
     obtain⟨b,h1,_⟩:=DataW.trod_bool hu hx
     exact⟨[.bool b],.cons ⟨b,rfl⟩ .nil,fun ι=>by rw[h1];exact .cons (.bool b) .nil⟩
    ·rename_i k hu
     cases hm
     obtain⟨n,h1,_,h3⟩:=DataW.trod_int hu hx
     exact⟨[.int k n],.cons ⟨n,rfl,h3⟩ .nil,fun ι=>by rw[h1];exact .cons (.int k n) .nil⟩
    ·rename_i hu
     cases hm
     obtain⟨s,h1,_,h3⟩:=DataW.trod_string hu hx
     exact⟨[.str s.data.toList],.cons ⟨_,rfl,by rw[Array.length_toList];exact h3⟩ .nil,fun ι=>by rw[h1];exact .cons (.str s) .nil⟩
    ·rename_i fs hu
     obtain⟨xs,n,_,e1,e2,e3,e4⟩:=DataW.trod_struct hu hx
     have:=trod_fs (fuel:=n) (fl:=flat P d) (fun t l h=>flat_len h) (fun t l cs x h hx=>trod_flat d h hx) cs fs.toList 0 l hm (by rw[e2,hlen,Nat.zero_add]) (fun f hf=>by
      obtain⟨i,hi⟩:=List.mem_iff_getElem?.1 hf
      have hi':fs[i]? =some f:=by simpa using hi
      have hlt:i<xs.length:=by
       have:=(Array.getElem?_eq_some_iff.1 hi').1
       omega
      exact⟨xs[i],by have:=e4 i f hi';rwa[List.getElem?_eq_getElem hlt] at this⟩)
     simpa using this
    ·rename_i n e hu
     cases ha:flat P d e with
     |none=>rw[ha] at hm;cases hm
     |some a=>
      rw[ha] at hm;cases hm
      obtain⟨xs,m,_,e1,e2,e3,e4⟩:=DataW.trod_array hu hx
      have hrep:∀n,(flatRep a n).length=n*a.length:=fun n=>by
       induction n with
       |zero=>simp[flatRep]
       |succ n ih=>simp only[flatRep,List.length_append,ih,Nat.succ_mul];omega
      have:=trod_rep (fuel:=m) (flat_len ha) (fun cs x hx=>trod_flat d ha hx) cs n 0 (by rw[e2,←hlen,hrep];simp) (fun j _ hj=>by
       have hlt:j<xs.length:=by omega
       exact⟨xs[j],by have:=e4 j (by omega);rwa[List.getElem?_eq_getElem hlt] at this⟩)
      simpa using this
    ·cases hm
end
end Go.Proofs.YtkjpldganajkkaaGreatDoor.NICE
