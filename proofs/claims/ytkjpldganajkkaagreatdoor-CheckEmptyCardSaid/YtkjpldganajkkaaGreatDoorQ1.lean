/-
  Nice7, Nice8, Nice9, Nice10, Nice11, as one text. Proved step by step; no conditions beside what is said.
-/
import Derived.IntWalk
import Derived.Laws.BytesString
import Derived.MapKept
import Derived.Test.YtkjpldganajkkaaGreatDoorQ0
set_option linter.unusedSimpArgs false
set_option linter.unusedVariables false
set_option linter.unusedSectionVars false
set_option maxRecDepth 100000
namespace Go.Proofs.YtkjpldganajkkaaGreatDoor.NICE
open Go Go.RowKit
variable {P:Program} {ι:Inj}
theorem evs_sound {ρ:Operand→Option NVal} {re:Operand→Value}:∀{l:List Operand} {m:List NVal},(∀x∈l,∀u,ρ x=some u→VR ι u (re x))→evs ρ l=some m→VRs ι m (l.map re)
 |[],m,hr,h=>by simp only[evs] at h;cases h;exact .nil
 |x::l,m,hr,h=>by
  unfold evs at h
  cases hx:ρ x with
  |none=>rw[hx] at h;cases h
  |some v=>cases hl:evs ρ l with
   |none=>rw[hx,hl] at h;cases h
   |some r=>rw[hx,hl] at h;cases h;exact .cons (hr x (by simp) v hx) (evs_sound (fun y hy=>hr y (by simp[hy])) hl)
theorem evParts_sound {ρ:Operand→Option NVal} {re:Operand→Value}:∀{l:List (Nat×Operand)} {m:List (Nat×NVal)},(∀x∈l,∀u,ρ x.2=some u→VR ι u (re x.2))→evParts ρ l=some m→
  All2 (fun a b=>a.1=b.1∧VR ι a.2 b.2) m (l.map fun p=>(p.1,re p.2))
 |[],m,hr,h=>by simp only[evParts] at h;cases h;exact .nil
 |(i,x)::l,m,hr,h=>by
  unfold evParts at h
  cases hx:ρ x with
  |none=>rw[hx] at h;cases h
  |some v=>cases hl:evParts ρ l with
   |none=>rw[hx,hl] at h;cases h
   |some r=>rw[hx,hl] at h;cases h;exact .cons ⟨rfl,hr (i,x) (by simp) v hx⟩ (evParts_sound (fun y hy=>hr y (by simp[hy])) hl)
theorem evOpt_sound {ρ:Operand→Option NVal} {re:Operand→Value} {o:Option Operand} {u:Option NVal} (hr:∀x,o=some x→∀u,ρ x=some u→VR ι u (re x)) (h:evOpt ρ o=some u):OptVR ι u (o.map re):=by
 cases o with
 |none=>simp only[evOpt] at h;cases h;exact .none
 |some x=>
  simp only[evOpt] at h
  cases hx:ρ x with
  |none=>rw[hx] at h;cases h
  |some v=>rw[hx] at h;cases h;exact .some (hr x rfl v hx)
theorem min_sound:∀{l:List NVal} {k:IntKind} {n:Int} {v:NVal} {rl:List Value},nmin (.int k n) l=some v→VRs ι l rl→∃k' n',v=.int k' n'∧∀w,(rl.foldlM Builtin.min2 (.int k n)).run P w=.ok (.int k' n') w
 |[],k,n,v,rl,h,hl=>by cases hl;simp only[nmin] at h;cases h;exact⟨_,_,rfl,fun w=>rfl⟩
 |u::l,k,n,v,rl,h,hl=>by
  cases hl with|cons hu hr=>
  cases u<;>simp only[nmin] at h<;>try(cases h;done)
  rename_i k1 n1
  have:=hu.int_inv;subst this
  obtain⟨k',n',h1,h2⟩:=min_sound h hr
  exact⟨k',n',h1,fun w=>by simp only[List.foldlM_cons,Sem.run_bind,Builtin.min2,Sem.run_pure,Result.andThen_ok];exact h2 w⟩
theorem max_sound:∀{l:List NVal} {k:IntKind} {n:Int} {v:NVal} {rl:List Value},nmax (.int k n) l=some v→VRs ι l rl→∃k' n',v=.int k' n'∧∀w,(rl.foldlM Builtin.max2 (.int k n)).run P w=.ok (.int k' n') w
 |[],k,n,v,rl,h,hl=>by cases hl;simp only[nmax] at h;cases h;exact⟨_,_,rfl,fun w=>rfl⟩
 |u::l,k,n,v,rl,h,hl=>by
  cases hl with|cons hu hr=>
  cases u<;>simp only[nmax] at h<;>try(cases h;done)
  rename_i k1 n1
  have:=hu.int_inv;subst this
  obtain⟨k',n',h1,h2⟩:=max_sound h hr
  exact⟨k',n',h1,fun w=>by simp only[List.foldlM_cons,Sem.run_bind,Builtin.max2,Sem.run_pure,Result.andThen_ok];exact h2 w⟩
theorem assert_sound {x v:NVal} {d:TypeId} {ok:Bool} (h:nassert P x d ok=some v) {rx:Value} (hx:VR ι x rx) (st:TypeId):
  ∃rv,VR ι v rv∧∀w,(Instr.typeAssert rx st d ok).run P w=.ok rv w:=by
 unfold nassert at h
 cases hu:P.underlying d with
 |none=>rw[hu] at h;cases h
 |some ty=>
  have hni:(∀ms,ty≠.interface ms):=by intro ms e;subst e;rw[hu] at h;cases h
  have h':nassert' P x d ok=some v:=by
   rw[hu] at h;cases ty<;>first|exact h|exact absurd rfl (hni _)
  unfold nassert' at h'
  have zero:ok=true→(match zeroOf P d with|some z=>some (NVal.tuple [z,.bool false])|none=>none)=some v→
    ∃rz,VR ι v (.tuple #[rz,.bool false])∧∀w,(zeroValue d).run P w=.ok rz w:=by
   intro _ hz
   cases hzz:zeroOf P d with
   |none=>rw[hzz] at hz;cases hz
   |some z=>
    rw[hzz] at hz;cases hz
    obtain⟨i,rz,hi,hiz,hv⟩:=zeroOf_sound (ι:=ι) hzz
    exact⟨rz,.tuple' (.cons hv (.cons (.bool _) .nil)),run_zeroValue' hi hiz⟩
  split at h'
  ·rename_i t u
   cases hx with|iface hx=>
   rename_i ru
   by_cases ht:t=d
   ·rw[if_pos ht] at h';cases h'
    cases ok
    ·refine⟨ru,hx,fun w=>?_⟩
     cases ty<;>first|exact absurd rfl (hni _)|simp[Instr.typeAssert,run_underlying hu,ht]
    ·refine⟨.tuple #[ru,.bool true],.tuple' (.cons hx (.cons (.bool _) .nil)),fun w=>?_⟩
     cases ty<;>first|exact absurd rfl (hni _)|simp[Instr.typeAssert,run_underlying hu,ht]
   ·rw[if_neg ht] at h'
    cases ok
    ·cases h'
    ·obtain⟨rz,h1,h2⟩:=zero rfl h'
     refine⟨_,h1,fun w=>?_⟩
     cases ty<;>first|exact absurd rfl (hni _)|simp[Instr.typeAssert,run_underlying hu,ht,h2]
  ·cases hx
   cases ok
   ·cases h'
   ·obtain⟨rz,h1,h2⟩:=zero rfl h'
    refine⟨_,h1,fun w=>?_⟩
    cases ty<;>first|exact absurd rfl (hni _)|simp[Instr.typeAssert,run_underlying hu,h2]
  ·cases h'
theorem pure_sound {o:Oper} {ρ:Operand→Option NVal} {re:Operand→Value} (hr:∀x∈o.op.operands,∀u,ρ x=some u→VR ι u (re x)) {v:NVal} (h:pureOp P ρ o.op=some v):
  ∃rv,VR ι v rv∧∀w,(execOp re o).run P w=.ok (.value rv) w:=by
 obtain⟨dst,op,ty,pos,after,guard⟩:=o
 simp only at h hr
 have lift:∀{s:Sem Value},(∃rv,VR ι v rv∧∀w,s.run P w=.ok rv w)→∃rv,VR ι v rv∧∀w,(do pure (.value (←s)):Sem Next).run P w=.ok (.value rv) w:=by
  rintro s ⟨rv,h1,h2⟩
  exact⟨rv,h1,fun w=>by simp[h2 w]⟩
 cases op<;>simp only[pureOp] at h<;>try(cases h;done)
 case move x=>exact⟨re x,hr x (by simp[Op.operands]) v h,fun w=>rfl⟩
 case assign x=>exact⟨re x,hr x (by simp[Op.operands]) v h,fun w=>rfl⟩
 case pick c a b=>
  cases hc:ρ c with
  |none=>rw[hc] at h;cases h
  |some cv=>cases ha:ρ a with
   |none=>rw[hc,ha] at h;cases cv<;>cases h
   |some av=>cases hb:ρ b with
    |none=>rw[hc,ha,hb] at h;cases cv<;>cases h
    |some bv=>
     rw[hc,ha,hb] at h
     cases cv<;>simp only at h<;>try(cases h;done)
     rename_i t;cases h
     have h1:=(hr c (by simp[Op.operands]) _ hc).bool_inv
     have h2:=hr a (by simp[Op.operands]) _ ha
     have h3:=hr b (by simp[Op.operands]) _ hb
     refine⟨if t then re a else re b,by cases t<;>simpa,fun w=>by simp[execOp,h1,asBool]⟩
 case build t ps=>
  cases hp:evParts ρ ps.toList with
  |none=>rw[hp] at h;cases h
  |some l=>
   rw[hp] at h
   refine lift (build_sound h ?_)
   have:=evParts_sound (ι:=ι) (re:=re) (fun x hx u hu=>hr x.2 (by simp only[Op.operands];exact List.mem_toArray.2 (List.mem_map_of_mem hx)) u hu) hp
   simpa using this
 case nilCheck x=>
  cases hx:ρ x with
  |none=>rw[hx] at h;cases h
  |some u=>
   rw[hx] at h
   have hv:=hr x (by simp[Op.operands]) u hx
   split at h
   ·rename_i a heq;cases heq;cases h
    obtain⟨b,o⟩:=a
    obtain⟨rb,s,m,hι,e⟩:=hv.ptr_inv
    exact⟨re x,hv,fun w=>by simp[execOp,e]⟩
   ·rename_i f a b heq;cases heq;cases h
    obtain⟨rf,rc,e,_,_⟩:=hv.func_inv
    exact⟨re x,hv,fun w=>by simp[execOp,e]⟩
   ·cases h
 case binOp op t x y yt=>
  cases hx:ρ x with
  |none=>rw[hx] at h;cases h
  |some u=>cases hy:ρ y with
   |none=>rw[hx,hy] at h;cases h
   |some u'=>
    rw[hx,hy] at h
    exact lift (bin_sound h (hr x (by simp[Op.operands]) u hx) (hr y (by simp[Op.operands]) u' hy) x y)
 case unOp op t x=>
  cases hx:ρ x with
  |none=>rw[hx] at h;cases h
  |some u=>rw[hx] at h;exact lift (un_sound h (hr x (by simp[Op.operands]) u hx))
 case convert s d x=>
  cases hx:ρ x with
  |none=>rw[hx] at h;cases h
  |some u=>rw[hx] at h;exact lift (conv_sound h (hr x (by simp[Op.operands]) u hx))
 case makeInterface t x=>
  cases hx:ρ x with
  |none=>rw[hx] at h;cases h
  |some u=>cases hu:P.underlying t with
   |none=>rw[hx,hu] at h;cases h
   |some d=>
    rw[hx,hu] at h
    have hni:∀ms,d≠.interface ms:=by intro ms e;subst e;cases h
    have hv:v=.iface t u:=by cases d<;>first|(cases h;rfl)|exact absurd rfl (hni _)
    subst hv
    refine⟨.iface t (re x),.iface (hr x (by simp[Op.operands]) u hx),fun w=>?_⟩
    cases d<;>first|exact absurd rfl (hni _)|simp[execOp,Instr.makeInterface,run_underlying hu]
 case makeFunc fn first captured=>
  cases ha:evs ρ first.toList with
  |none=>rw[ha] at h;cases h
  |some a=>cases hb:evs ρ captured.toList with
   |none=>rw[ha,hb] at h;cases h
   |some b=>
    rw[ha,hb] at h;cases h
    have h1:=evs_sound (ι:=ι) (re:=re) (fun x hx u hu=>hr x (by simp[Op.operands];exact .inl (by simpa using hx)) u hu) ha
    have h2:=evs_sound (ι:=ι) (re:=re) (fun x hx u hu=>hr x (by simp[Op.operands];exact .inr (by simpa using hx)) u hu) hb
    exact⟨.func fn (first.map re) (captured.map re),.func' (by simpa using h1) (by simpa using h2),fun w=>rfl⟩
 case slice t x lo hi mx=>
  cases mx with
  |some mo=>
   cases hm:ρ mo with
   |none=>simp only[evOpt,hm] at h;cases h
   |some m=>cases hx:ρ x with
    |none=>simp only[evOpt,hm,hx] at h;cases h
    |some u=>cases hl:evOpt ρ lo with
     |none=>rw[hl] at h;simp only[evOpt,hm,hx] at h;cases h
     |some l=>cases hh:evOpt ρ hi with
      |none=>rw[hl,hh] at h;simp only[evOpt,hm,hx] at h;cases l<;>cases h
      |some hg=>
       have h1:=evOpt_sound (ι:=ι) (re:=re) (fun y e u hu=>hr y (by subst e;simp[Op.operands]) u hu) hl
       have h2:=evOpt_sound (ι:=ι) (re:=re) (fun y e u hu=>hr y (by subst e;simp[Op.operands]) u hu) hh
       rw[hl,hh] at h;simp only[evOpt,hm,hx] at h
       cases l with
       |none=>cases hg<;>cases h
       |some l=>cases hg with
        |none=>cases h
        |some hg=>
         simp only at h
         have h3:=hr mo (by simp[Op.operands]) m hm
         cases lo with
         |none=>cases h1
         |some lo=>cases hi with
          |none=>cases h2
          |some hi=>
           cases h1 with|some h1=>
           cases h2 with|some h2=>
           exact lift (slice3_sound h (hr x (by simp[Op.operands]) u hx) h1 h2 h3)
  |none=>cases hx:ρ x with
   |none=>rw[hx] at h;cases h
   |some u=>cases hl:evOpt ρ lo with
    |none=>rw[hx,hl] at h;cases h
    |some l=>cases hh:evOpt ρ hi with
     |none=>rw[hx,hl,hh] at h;cases h
     |some hg=>
      rw[hx,hl,hh] at h
      have h1:=evOpt_sound (ι:=ι) (re:=re) (fun y e u hu=>hr y (by subst e;simp[Op.operands]) u hu) hl
      have h2:=evOpt_sound (ι:=ι) (re:=re) (fun y e u hu=>hr y (by subst e;simp[Op.operands]) u hu) hh
      exact lift (slice_sound h (hr x (by simp[Op.operands]) u hx) h1 h2)
 case fieldAddr s x f=>
  cases hx:ρ x with
  |none=>rw[hx] at h;cases h
  |some u=>rw[hx] at h;exact lift (fieldAddr_sound h (hr x (by simp[Op.operands]) u hx))
 case field t x f=>
  cases hx:ρ x with
  |none=>rw[hx] at h;cases h
  |some u=>rw[hx] at h;exact lift (field_sound h (hr x (by simp[Op.operands]) u hx))
 case indexAddr t x ix=>
  cases hx:ρ x with
  |none=>rw[hx] at h;cases h
  |some u=>cases hy:ρ ix with
   |none=>rw[hx,hy] at h;cases h
   |some u'=>rw[hx,hy] at h;exact lift (indexAddr_sound h (hr x (by simp[Op.operands]) u hx) (hr ix (by simp[Op.operands]) u' hy))
 case index t x ix=>
  cases hx:ρ x with
  |none=>rw[hx] at h;cases h
  |some u=>cases hy:ρ ix with
   |none=>rw[hx,hy] at h;cases h
   |some u'=>rw[hx,hy] at h;exact lift (index_sound h (hr x (by simp[Op.operands]) u hx) (hr ix (by simp[Op.operands]) u' hy))
 case extract x i=>
  cases hx:ρ x with
  |none=>rw[hx] at h;cases h
  |some u=>
   rw[hx] at h
   cases u<;>simp only at h<;>try(cases h;done)
   rename_i vs
   obtain⟨ds,e,hd⟩:=(hr x (by simp[Op.operands]) _ hx).tuple_inv
   obtain⟨b,hb,hbv⟩:=hd.get h
   rw[Array.getElem?_toList] at hb
   exact⟨b,hbv,fun w=>by simp[execOp,e,Instr.extract,hb]⟩
 case typeAssert x st d ok=>
  cases hx:ρ x with
  |none=>rw[hx] at h;cases h
  |some u=>rw[hx] at h;exact lift (assert_sound h (hr x (by simp[Op.operands]) u hx) st)
 case call c=>
  obtain⟨callee,args,argTypes⟩:=c
  cases callee with
  |value f=>cases h
  |invoke r m=>cases h
  |builtin b=>
   have hargs:∀x∈args.toList,∀u,ρ x=some u→VR ι u (re x):=fun x hx u hu=>hr x (by simp[Op.operands,Call.operands];simpa using hx) u hu
   have exec:∀{s:Sem Value},(∀cs,builtin b argTypes ty cs (args.map re)=do pure (.value (←s)))→(∃rv,VR ι v rv∧∀w,s.run P w=.ok rv w)→
     ∃rv,VR ι v rv∧∀w,(execOp re {dst:=dst,op:=.call {callee:=.builtin b,args:=args,argTypes:=argTypes},type:=ty,pos:=pos,after:=after,guard:=guard}).run P w=.ok (.value rv) w:=by
    rintro s hb ⟨rv,h1,h2⟩
    refine⟨rv,h1,fun w=>?_⟩
    simp only[execOp,resolve,invoke,Sem.run_bind,Sem.run_pure,Result.andThen_ok]
    rw[hb];simp[h2 w]
   cases b<;>simp only at h<;>try(cases h;done)
   ·
    refine exec (fun _=>rfl) ?_
    cases hl:args.toList with
    |nil=>rw[hl] at h;cases h
    |cons x rest=>cases rest with
     |cons _ _=>rw[hl] at h;cases h
     |nil=>cases ht:argTypes.toList with
      |nil=>rw[hl,ht] at h;cases h
      |cons t ts=>
       rw[hl,ht] at h;simp only at h
       have ea:args=#[x]:=by rw[←Array.toArray_toList (xs:=args),hl]
       have et:argTypes[0]? =some t:=by rw[←Array.getElem?_toList,ht];rfl
       subst ea
       cases hx:ρ x with
       |none=>rw[hx] at h;cases h
       |some u=>cases hu:P.underlying t with
        |none=>rw[hx,hu] at h;split at h<;>first|(cases h;done)|(rename_i e _;cases e;done)|(rename_i e;cases e;done)
        |some d=>
         rw[hx,hu] at h
         have hv:=hargs x (by simp) u hx
         split at h
         ·rename_i a n c e heq1 heq2;cases heq1;cases heq2;cases h
          cases hh:re x<;>rw[hh] at hv<;>cases hv
          ·exact⟨_,.int _ _,fun w=>by simp[Builtin.cap_,et,run_underlying hu,hh,goInt]⟩
          ·subst_vars;exact⟨_,.int _ _,fun w=>by simp[Builtin.cap_,et,run_underlying hu,hh,goInt]⟩
         ·cases h
   ·
    refine exec (fun _=>rfl) ?_
    cases hl:args.toList with
    |nil=>rw[hl] at h;cases h
    |cons x rest=>cases rest with
     |cons _ _=>rw[hl] at h;cases h
     |nil=>cases ht:argTypes.toList with
      |nil=>rw[hl,ht] at h;cases h
      |cons t ts=>
       rw[hl,ht] at h;simp only at h
       have ea:args=#[x]:=by rw[←Array.toArray_toList (xs:=args),hl]
       have et:argTypes[0]? =some t:=by rw[←Array.getElem?_toList,ht];rfl
       subst ea
       cases hx:ρ x with
       |none=>rw[hx] at h;cases h
       |some u=>cases hu:P.underlying t with
        |none=>rw[hx,hu] at h;split at h<;>first|(cases h;done)|(rename_i e _;cases e;done)|(rename_i e;cases e;done)
        |some d=>
         rw[hx,hu] at h
         have hv:=hargs x (by simp) u hx
         split at h
         ·rename_i s heq1 heq2;cases heq1;cases heq2;cases h
          obtain⟨bs,e,rfl⟩:=hv.str_inv
          refine⟨_,.int _ _,fun w=>?_⟩
          simp[Builtin.len_,et,run_underlying hu,e,goInt]
         ·rename_i a n c xx e heq1 heq2;cases heq1;cases heq2;cases h
          cases hh:re x<;>rw[hh] at hv<;>cases hv<;>exact⟨_,.int _ _,fun w=>by simp[Builtin.len_,et,run_underlying hu,hh,goInt]⟩
         ·cases h
   ·
    refine exec (fun _=>rfl) ?_
    cases he:evs ρ args.toList with
    |none=>rw[he] at h;cases h
    |some l=>
     rw[he] at h
     have hl:=evs_sound hargs he
     cases l with
     |nil=>cases h
     |cons u l=>
      cases u<;>simp only at h<;>try(cases h;done)
      rename_i k n
      generalize hrl:args.toList.map re=rl at hl
      cases hl with|cons hu hr'=>
      have:=hu.int_inv;subst this
      obtain⟨k',n',h1,h2⟩:=max_sound (P:=P) h hr'
      subst h1
      refine⟨_,.int _ _,fun w=>?_⟩
      simp only[Builtin.max_,Array.toList_map,hrl]
      exact h2 w
   ·
    refine exec (fun _=>rfl) ?_
    cases he:evs ρ args.toList with
    |none=>rw[he] at h;cases h
    |some l=>
     rw[he] at h
     have hl:=evs_sound hargs he
     cases l with
     |nil=>cases h
     |cons u l=>
      cases u<;>simp only at h<;>try(cases h;done)
      rename_i k n
      generalize hrl:args.toList.map re=rl at hl
      cases hl with|cons hu hr'=>
      have:=hu.int_inv;subst this
      obtain⟨k',n',h1,h2⟩:=min_sound (P:=P) h hr'
      subst h1
      refine⟨_,.int _ _,fun w=>?_⟩
      simp only[Builtin.min_,Array.toList_map,hrl]
      exact h2 w
end Go.Proofs.YtkjpldganajkkaaGreatDoor.NICE
namespace Go.Proofs.YtkjpldganajkkaaGreatDoor.NICE
open Go Go.RowKit
def AllOneV (c:Array Value):Prop:=∀(i:Nat) r,c[i]? =some r→r.oneCell'=true
structure Inv (w0:World) (ι:Inj) (h:NHeap) (w:World):Prop where
 below:Below w0.heap.size w0 w
 fresh:∀b x,ι b=some x→b<h.next
 cells:∀b cs {t},h.get b=some (.cells cs (.own t))→∃rb s m c e fz,ι b=some (rb,s,m)∧w0.heap.size≤rb∧w.heap[rb]? =some (.cells c e fz)∧s+m≤c.size∧cs.length≤m∧
  (∀i,i<c.size→¬(fz.1≤i∧i<fz.2))∧(∀(i:Nat) v,cs[i]? =some v→∃r,c[s+i]? =some r∧VR ι v r)
 typed:∀b cs T k,h.get b=some (.cells cs (.own (some (T,k))))→∃rb c,ι b=some (rb,0,c.size)∧w.heap[rb]? =some (.cells c T (0,0))∧(k=0∨c.size=k)∧(k=0→AllOneV c)
 ro:∀b cs,h.get b=some (.cells cs .ro)→∃rb s m,ι b=some (rb,s,m)∧(∀(i:Nat) v,cs[i]? =some v→∃r,w0.cell? ⟨rb,s+i,none⟩=some r∧VR ι v r)
 maps:∀b es,h.get b=some (.map es)→∃rb s m ents clock,ι b=some (rb,s,m)∧w0.heap.size≤rb∧w.heap[rb]? =some (.map ents clock)∧All2 (fun p e=>VR ι p.1 e.key∧VR ι p.2 e.val) es ents.toList
 inj:∀b b' o o' rb s s' m m',h.get b=some o→o.owned=true→h.get b'=some o'→o'.owned=true→ι b=some (rb,s,m)→ι b'=some (rb,s',m')→b=b'
def Owned (ι:Inj) (h:NHeap) (rb:Nat):Prop:=∃b o s m,h.get b=some o∧o.owned=true∧ι b=some (rb,s,m)
structure Step (ι:Inj) (h:NHeap) (w:World) (ι':Inj) (h':NHeap) (w':World):Prop where
 ext:ι.le ι'
 new:∀b x,ι' b=some x→ι b=some x∨h.next≤b
 size:w.heap.size≤w'.heap.size
 frame:∀rb,rb<w.heap.size→¬Owned ι h rb→w'.heap[rb]? =w.heap[rb]?
 own:∀rb,Owned ι' h' rb→Owned ι h rb∨w.heap.size≤rb
 next:h.next≤h'.next
theorem Step.refl (ι:Inj) (h:NHeap) (w:World):Step ι h w ι h w:=
 ⟨ι.le_refl,fun _ _ e=>.inl e,Nat.le_refl _,fun _ _ _=>rfl,fun _ e=>.inl e,Nat.le_refl _⟩
theorem Step.trans {ι ι' ι'':Inj} {h h' h'':NHeap} {w w' w'':World} (a:Step ι h w ι' h' w') (b:Step ι' h' w' ι'' h'' w''):Step ι h w ι'' h'' w'' where
 ext:=a.ext.trans b.ext
 new:=fun k x e=>(b.new k x e).elim (fun e=>a.new k x e) fun e=>.inr (Nat.le_trans a.next e)
 size:=Nat.le_trans a.size b.size
 frame:=fun rb hl hn=>by
  rw[b.frame rb (Nat.lt_of_lt_of_le hl a.size) (fun e=>(a.own rb e).elim hn (fun e=>by omega)),a.frame rb hl hn]
 own:=fun rb e=>(b.own rb e).elim (fun e=>a.own rb e) fun e=>.inr (Nat.le_trans a.size e)
 next:=Nat.le_trans a.next b.next
variable {P:Program} {w0 w:World} {ι:Inj} {h:NHeap}
theorem cell_of_block {rb i:Nat} {c:Array Value} {e:TypeId} {fz:Nat×Nat} {r:Value} (hb:w.heap[rb]? =some (.cells c e fz)) (hc:c[i]? =some r):w.cell? ⟨rb,i,none⟩=some r:=by
 simp[World.cell?,hb,hc]
theorem Inv.cell (I:Inv w0 ι h w) {b:Nat} {cs:List NVal} {mine:Own} (hb:h.get b=some (.cells cs mine)) {rb s m:Nat} (hι:ι b=some (rb,s,m)) {i:Nat} {v:NVal} (hi:cs[i]? =some v):
  ∃r,w.cell? ⟨rb,s+i,none⟩=some r∧VR ι v r:=by
 cases mine with
 |own t=>
  obtain⟨rb',s',m',c,e,fz,h1,_,h3,_,_,_,h6⟩:=I.cells b cs hb
  rw[hι] at h1;cases h1
  obtain⟨r,hr,hv⟩:=h6 i v hi
  exact⟨r,cell_of_block h3 hr,hv⟩
 |ro=>
  obtain⟨rb',s',m',h1,h2⟩:=I.ro b cs hb
  rw[hι] at h1;cases h1
  obtain⟨r,hr,hv⟩:=h2 i v hi
  exact⟨r,by rw[I.below.cell (p:=⟨rb,s+i,none⟩) (World.block_lt_of_cell? _ _ hr)];exact hr,hv⟩
theorem Inv.range (I:Inv w0 ι h w) {b:Nat} {cs:List NVal} {mine:Own} (hb:h.get b=some (.cells cs mine)) {rb s m:Nat} (hι:ι b=some (rb,s,m)):
  ∀(n o:Nat),o+n≤cs.length→∃rs:List Value,rs.length=n∧VRs ι ((cs.drop o).take n) rs∧∀(j:Nat) v,rs[j]? =some v→w.cell? ((⟨rb,s+o,none⟩:Addr).add j)=some v
 |0,o,hl=>⟨[],rfl,by simpa using All2.nil,fun j v e=>by simp at e⟩
 |n+1,o,hl=>by
  obtain⟨rs,h1,h2,h3⟩:=Inv.range I hb hι n (o+1) (by omega)
  have hlt:o<cs.length:=by omega
  obtain⟨r,hr,hv⟩:=I.cell hb hι (i:=o) (v:=cs[o]) (by simp[hlt])
  refine⟨r::rs,by simp[h1],?_,?_⟩
  ·rw[List.drop_eq_getElem_cons hlt];simp only[List.take_succ_cons];exact .cons hv h2
  ·intro j v e
   cases j with
   |zero=>simp at e;subst e;rw[add_at];simpa using hr
   |succ j=>
    have:=h3 j v (by simpa using e)
    rw[add_at] at this⊢
    rw[show s+o+(j+1)=s+(o+1)+j by omega];exact this
theorem run_loadVar_agg {t:TypeId} {n:Nat} (ha:aggT P t=some true) (hs:szOf P t=some n) {a:Addr} {rs:List Value} (hl:rs.length=n) (hr:∀(j:Nat) v,rs[j]? =some v→w.cell? (a.add j)=some v):
  (loadVar t a).run P w=.ok (.agg rs.toArray) w:=by
 subst hl
 simp[loadVar,run_isAgg' ha,run_sizeOf' hs,run_loadCells_list w a rs hr]
theorem load_sound (I:Inv w0 ι h w) {t:TypeId} {b o:Nat} {v:NVal} (hl:nload P t (b,o) h=some v) {rx:Value} (hx:VR ι (.ptr (some (b,o))) rx):
  ∃rv,VR ι v rv∧(Instr.loadAt t rx).run P w=.ok rv w:=by
 obtain⟨rb,s,m,hι,rfl⟩:=hx.ptr_inv
 unfold nload at hl
 cases hg:h.get b with
 |none=>simp only[hg] at hl;cases hl
 |some ob=>
  simp only[hg] at hl
  cases ob with
  |map es=>cases hl
  |dead=>cases hl
  |cells cs mine=>
   simp only at hl
   cases ha:aggT P t with
   |none=>rw[ha] at hl;cases hl
   |some q=>
    rw[ha] at hl
    cases q with
    |true=>
     simp only at hl
     cases hs:szOf P t with
     |none=>rw[hs] at hl;cases hl
     |some n=>
      rw[hs] at hl;simp only at hl
      split at hl
      ·rename_i hle;cases hl
       obtain⟨rs,h1,h2,h3⟩:=I.range hg hι n o hle
       exact⟨.agg rs.toArray,.agg' (by simpa using h2),by simp only[Instr.loadAt,Instr.sureAddr,Sem.run_bind,Sem.run_pure,Result.andThen_ok];exact run_loadVar_agg ha hs h1 h3⟩
      ·cases hl
    |false=>
     simp only at hl
     obtain⟨r,hr,hv⟩:=I.cell hg hι hl
     refine⟨r,hv,?_⟩
     simp[Instr.loadAt,Instr.sureAddr,loadVar,run_isAgg' ha,hr]
theorem byteVal_sound {v:NVal} {b:UInt8} {r:Value} (hb:byteVal v=some b) (hr:VR ι v r):∃n,r=.int .u8 n∧b=UInt8.ofNat n.toNat:=by
 cases v with
 |int k n=>
  cases k with
  |u8=>simp only[byteVal] at hb;cases hb;exact⟨n,hr.int_inv,rfl⟩
  |_=>cases hb
 |_=>cases hb
theorem bytesVals_sound:∀{cs:List NVal} {l:List UInt8} {rs:List Value},bytesVals cs=some l→VRs ι cs rs→∃ns:List Int,rs=ns.map (Value.int .u8)∧l=ns.map fun n=>UInt8.ofNat n.toNat
 |[],l,rs,hb,hr=>by cases hr;simp only[bytesVals] at hb;cases hb;exact⟨[],rfl,rfl⟩
 |v::cs,l,rs,hb,hr=>by
  cases hr with|cons hv hrest=>
  unfold bytesVals at hb
  cases hv':byteVal v with
  |none=>rw[hv'] at hb;cases hb
  |some b=>cases hl:bytesVals cs with
   |none=>rw[hv',hl] at hb;cases hb
   |some r=>
    rw[hv',hl] at hb;cases hb
    obtain⟨ns,h1,h2⟩:=bytesVals_sound hl hrest
    obtain⟨n,rfl,rfl⟩:=byteVal_sound hv' hv
    exact⟨n::ns,by simp[h1],by simp[h2]⟩
theorem foldl_push (ns:List Int):∀s:ByteArray,(ns.foldl (fun r n=>r.push (UInt8.ofNat n.toNat)) s).data.toList=s.data.toList++ns.map fun n=>UInt8.ofNat n.toNat:=by
 induction ns with
 |nil=>intro s;simp
 |cons n ns ih=>intro s;rw[List.foldl_cons,ih];simp[ByteArray.push]
theorem same_key {kt:TypeId} {d:TypeDesc} (hd:P.underlying kt=some d) {k e:NVal} {rk re:Value} (hk:keyTypeOk P kt k=true) (hrk:VR ι k rk) (hre:VR ι e re):
  (∀a x b y,k=.int a x→e=.int b y→a=b→Instr.sameNow d rk re=some (x==y))∧(∀x y,k=.str x→e=.str y→Instr.sameNow d rk re=some (x==y)):=by
 refine⟨fun a x b y e1 e2 hab=>?_,fun x y e1 e2=>?_⟩
 ·subst e1;subst e2;subst hab
  have:=hrk.int_inv;subst this
  have:=hre.int_inv;subst this
  simp only[keyTypeOk,hd] at hk
  cases d<;>simp at hk
  simp[Instr.sameNow]
 ·subst e1;subst e2
  obtain⟨b1,rfl,rfl⟩:=hrk.str_inv
  obtain⟨b2,rfl,rfl⟩:=hre.str_inv
  simp only[keyTypeOk,hd] at hk
  cases d<;>simp at hk
  simp[Instr.sameNow,beq_toListBytes,toList_eq]
theorem keyIn_sound {kt:TypeId} {d:TypeDesc} (hd:P.underlying kt=some d) {k:NVal} {rk:Value} (hk:keyTypeOk P kt k=true) (hrk:VR ι k rk):
  ∀{es:List (NVal×NVal)} {rs:List MapEntry} (n:Nat),All2 (fun p (e:MapEntry)=>VR ι p.1 e.key∧VR ι p.2 e.val) es rs→
   (nkeyIn k es=some none→Instr.findNow d rk rs n=some none)∧
   (∀i v,nkeyIn k es=some (some (i,v))→∃e:MapEntry,Instr.findNow d rk rs n=some (some (n+i,e.val))∧rs[i]? =some e∧VR ι v e.val∧e.key=rk∧i<es.length)
 |[],rs,n,h=>by cases h;exact⟨fun _=>rfl,fun i v e=>by simp[nkeyIn] at e⟩
 |(ke,ve)::es,rs,n,h=>by
  cases h with|cons hp hr=>
  rename_i e rs
  obtain⟨h1,h2⟩:=hp
  obtain⟨s1,s2⟩:=same_key hd hk hrk h1
  obtain⟨ih1,ih2⟩:=keyIn_sound hd hk hrk (n+1) hr
  have step:∀(c:Bool),Instr.sameNow d rk e.key=some c→(c=true→e.key=rk)→
    nkeyIn k ((ke,ve)::es)=(if c=true then some (some (0,ve)) else bumpIx (nkeyIn k es))→
    (nkeyIn k ((ke,ve)::es)=some none→Instr.findNow d rk (e::rs) n=some none)∧
    (∀i v,nkeyIn k ((ke,ve)::es)=some (some (i,v))→∃e':MapEntry,Instr.findNow d rk (e::rs) n=some (some (n+i,e'.val))∧(e::rs)[i]? =some e'∧VR ι v e'.val∧e'.key=rk∧i<((ke,ve)::es).length):=by
   intro c hc heq hn
   rw[hn]
   cases c with
   |true=>
    rw[if_pos rfl]
    exact⟨fun q=>by simp at q,fun i v q=>by simp at q;obtain⟨rfl,rfl⟩:=q;exact⟨e,by simp[Instr.findNow,hc],rfl,h2,heq rfl,by simp⟩⟩
   |false=>
    rw[if_neg (by simp)]
    refine⟨fun q=>?_,fun i v q=>?_⟩
    ·have:nkeyIn k es=some none:=by
      cases hh:nkeyIn k es with
      |none=>rw[hh] at q;cases q
      |some r=>cases r with
       |none=>rfl
       |some p=>rw[hh] at q;cases q
     simp[Instr.findNow,hc,ih1 this]
    ·cases hh:nkeyIn k es with
     |none=>rw[hh] at q;cases q
     |some r=>cases r with
      |none=>rw[hh] at q;cases q
      |some p=>
       obtain⟨i',u⟩:=p
       rw[hh] at q;simp[bumpIx] at q;obtain⟨rfl,rfl⟩:=q
       obtain⟨e',f1,f2,f3,f4,f5⟩:=ih2 i' u hh
       exact⟨e',by simp[Instr.findNow,hc,f1];omega,by simpa using f2,f3,f4,by simp;omega⟩
  cases k<;>(try(simp[keyTypeOk] at hk;done))
  ·rename_i a x
   cases ke with
   |int b y=>
    by_cases hab:a=b
    ·refine step (x==y) (s1 a x b y rfl rfl hab) (fun q=>?_) ?_
     ·subst hab
      have e1:=hrk.int_inv;have e2:=h1.int_inv
      have:x=y:=by simpa using q
      rw[e1,e2,this]
     ·simp only[nkeyIn,if_pos hab]
      by_cases hxy:x=y
      ·simp[hxy]
      ·simp[hxy]
    ·exact⟨fun q=>by simp[nkeyIn,hab] at q,fun i v q=>by simp[nkeyIn,hab] at q⟩
   |_=>exact⟨fun q=>by simp[nkeyIn] at q,fun i v q=>by simp[nkeyIn] at q⟩
  ·rename_i x
   cases ke with
   |str y=>
    refine step (x==y) (s2 x y rfl rfl) (fun q=>?_) ?_
    ·have:x=y:=by simpa using q
     subst this
     obtain⟨b1,e1,f1⟩:=hrk.str_inv
     obtain⟨b2,e2,f2⟩:=h1.str_inv
     rw[e1,e2];congr 1;exact ByteArray.ext (Array.ext' (by rw[f1,f2]))
    ·simp only[nkeyIn]
     by_cases hxy:x=y
     ·simp[hxy]
     ·simp[hxy]
   |_=>exact⟨fun q=>by simp[nkeyIn] at q,fun i v q=>by simp[nkeyIn] at q⟩
theorem key_isKey {kt:TypeId} {d:TypeDesc} (hd:P.underlying kt=some d) {k:NVal} {rk:Value} (hk:keyTypeOk P kt k=true) (hrk:VR ι k rk) (em:Bool) (n:Nat) (w:World):
  (Instr.checkKey em (n+1) kt rk).run P w=.ok () w:=by
 unfold Instr.checkKey
 simp only[Sem.run_bind,run_underlying hd,Result.andThen_ok]
 cases k<;>simp[keyTypeOk] at hk
 ·have:=hrk.int_inv;subst this
  rw[hd] at hk
  cases d<;>simp at hk
  rfl
 ·obtain⟨b,rfl,_⟩:=hrk.str_inv
  rw[hd] at hk
  cases d<;>simp at hk
  rfl
theorem lookup_sound (I:Inv w0 ι h w) {t:TypeId} {m k v:NVal} {ok:Bool} (hl:nlookup P t m k ok h=some v) {rm rk:Value} (hm:VR ι m rm) (hrk:VR ι k rk):
  ∃rv,VR ι v rv∧(Instr.lookup t rm rk ok).run P w=.ok rv w:=by
 unfold nlookup at hl
 cases hu:P.underlying t with
 |none=>rw[hu] at hl;cases hl
 |some d=>
  rw[hu] at hl
  cases d<;>simp only at hl<;>try(cases hl;done)
  rename_i kt et
  by_cases hk:keyTypeOk P kt k=true
  ·rw[if_pos hk] at hl
   obtain⟨kd,hkd⟩:∃kd,P.underlying kt=some kd:=by
    cases hq:P.underlying kt with
    |none=>simp only[keyTypeOk,hq] at hk;cases k<;>simp at hk
    |some q=>exact⟨q,rfl⟩
   have fin:∀(z:NVal) (rz:Value) (b:Bool),VR ι z rz→VR ι (if ok then .tuple [z,.bool b] else z) (if ok then .tuple #[rz,.bool b] else rz):=by
    intro z rz b hz
    cases ok
    ·exact hz
    ·exact .tuple' (.cons hz (.cons (.bool _) .nil))
   cases m with
   |map r=>
    cases hm with
    |mapNil=>
     simp only at hl
     cases hz:zeroOf P et with
     |none=>rw[hz] at hl;cases hl
     |some z=>
      rw[hz] at hl
      obtain⟨i,rz,hi,hiz,hv⟩:=zeroOf_sound (ι:=ι) hz
      have hv':v=if ok then .tuple [z,.bool false] else z:=by simpa using hl.symm
      refine⟨if ok then .tuple #[rz,.bool false] else rz,by rw[hv'];exact fin z rz false hv,?_⟩
      simp[Instr.lookup,run_underlying hu,key_isKey hkd hk hrk,Instr.findKey,run_underlying hkd,Instr.findNow,run_zeroValue' hi hiz]
    |map hι=>
     rename_i b rb s m
     simp only at hl
     cases hg:h.get b with
     |none=>rw[hg] at hl;cases hl
     |some ob=>
      rw[hg] at hl
      cases ob<;>simp only at hl<;>try(cases hl;done)
      rename_i es
      obtain⟨rb',s',m',ents,clock,h1,h2,h3,h4⟩:=I.maps b es hg
      rw[hι] at h1;cases h1
      have hgo:(getObj rb).run P w=.ok (.map ents clock) w:=by simp[getObj,Sem.run,h3]
      obtain⟨q1,q2⟩:=keyIn_sound hkd hk hrk 0 h4
      cases hki:nkeyIn k es with
      |none=>rw[hki] at hl;cases hl
      |some r=>
       rw[hki] at hl
       cases r with
       |none=>
        simp only at hl
        cases hz:zeroOf P et with
        |none=>rw[hz] at hl;cases hl
        |some z=>
         rw[hz] at hl
         obtain⟨i,rz,hi,hiz,hv⟩:=zeroOf_sound (ι:=ι) hz
         have hv':v=if ok then .tuple [z,.bool false] else z:=by simpa using hl.symm
         refine⟨if ok then .tuple #[rz,.bool false] else rz,by rw[hv'];exact fin z rz false hv,?_⟩
         simp[Instr.lookup,run_underlying hu,hgo,key_isKey hkd hk hrk,Instr.findKey,run_underlying hkd,q1 hki,run_zeroValue' hi hiz]
       |some p=>
        obtain⟨i,u⟩:=p
        simp only at hl
        obtain⟨e,f1,f2,f3,f4,f5⟩:=q2 i u hki
        have hv':v=if ok then .tuple [u,.bool true] else u:=by simpa using hl.symm
        refine⟨if ok then .tuple #[e.val,.bool true] else e.val,by rw[hv'];exact fin u e.val true f3,?_⟩
        simp[Instr.lookup,run_underlying hu,hgo,key_isKey hkd hk hrk,Instr.findKey,run_underlying hkd,f1]
   |_=>cases hl
  ·rw[if_neg hk] at hl;cases hl
theorem read_sound (I:Inv w0 ι h w) {o:Oper} {ρ:Operand→Option NVal} {re:Operand→Value} (hr:∀x∈o.op.operands,∀u,ρ x=some u→VR ι u (re x)) {v:NVal} (hv:readOp P ρ h o.op=some v):
  ∃rv,VR ι v rv∧(execOp re o).run P w=.ok (.value rv) w:=by
 obtain⟨dst,op,ty,pos,after,guard⟩:=o
 simp only at hv hr
 have lift:∀{s:Sem Value},(∃rv,VR ι v rv∧s.run P w=.ok rv w)→∃rv,VR ι v rv∧(do pure (.value (←s)):Sem Next).run P w=.ok (.value rv) w:=by
  rintro s ⟨rv,h1,h2⟩
  exact⟨rv,h1,by simp[h2]⟩
 cases op<;>simp only[readOp] at hv<;>try(cases hv;done)
 case load t x=>
  cases hx:ρ x with
  |none=>rw[hx] at hv;cases hv
  |some u=>
   rw[hx] at hv
   cases u<;>(try simp only at hv)<;>try(cases hv;done)
   rename_i a
   cases a with
   |none=>cases hv
   |some a=>
    obtain⟨b,o⟩:=a
    exact lift (load_sound I hv (hr x (by simp[Op.operands]) _ hx))
 case lookup t m k ok=>
  cases hm:ρ m with
  |none=>rw[hm] at hv;cases hv
  |some u=>cases hk:ρ k with
   |none=>rw[hm,hk] at hv;cases hv
   |some u'=>
    rw[hm,hk] at hv
    exact lift (lookup_sound I hv (hr m (by simp[Op.operands]) _ hm) (hr k (by simp[Op.operands]) _ hk))
 case convert s d x=>
  cases hs:P.underlying s with
  |none=>rw[hs] at hv;cases hv
  |some sd=>cases hd:P.underlying d with
   |none=>rw[hs,hd] at hv;cases sd<;>cases hv
   |some dd=>cases hx:ρ x with
    |none=>rw[hs,hd,hx] at hv;cases sd<;>cases dd<;>cases hv
    |some u=>
     rw[hs,hd,hx] at hv
     cases sd<;>(try simp only at hv)<;>try(cases hv;done)
     rename_i e
     cases dd<;>(try simp only at hv)<;>try(cases hv;done)
     cases u<;>(try simp only at hv)<;>try(cases hv;done)
     rename_i a len cap xx
     cases he:P.underlying e with
     |none=>rw[he] at hv;cases hv
     |some ed=>
      rw[he] at hv
      have hed:ed=.int .u8:=by
       cases ed with
       |int k=>cases k<;>first|rfl|(cases hv;done)
       |_=>cases hv
      subst hed
      (try simp only at hv)
      have hvx:=hr x (by simp[Op.operands]) _ hx
      refine lift ?_
      have conv:∀a' l' c',(convert s d (.slice a' l' c')).run P w=(Conv.bytesToString (.slice a' l' c')).run P w:=fun a' l' c'=>run_convert_bytes_string w s d e a' l' c' hs he hd
      cases a with
      |none=>
       (try simp only at hv);cases hv
       cases hh:re x<;>rw[hh] at hvx<;>cases hvx
       exact⟨.string .empty,VR.str (ι:=ι) ByteArray.empty,by rw[conv];rfl⟩
      |some a=>
       obtain⟨b,o⟩:=a
       (try simp only at hv)
       cases hg:h.get b with
       |none=>rw[hg] at hv;cases hv
       |some ob=>
        rw[hg] at hv
        cases ob<;>(try simp only at hv)<;>try(cases hv;done)
        rename_i cs mine
        split at hv
        ·rename_i hle
         cases hb:bytesVals ((cs.drop o).take len) with
         |none=>rw[hb] at hv;cases hv
         |some l=>
          rw[hb] at hv;cases hv
          have main:∀{rb s m rcap},ι b=some (rb,s,m)→∃rv,VR ι (.str l) rv∧(Conv.bytesToString (.slice (some ⟨rb,s+o,none⟩) len rcap)).run P w=.ok rv w:=by
           intro rb s m rcap hι
           obtain⟨rs,h1,h2,h3⟩:=I.range hg hι len o hle
           obtain⟨ns,rfl,rfl⟩:=bytesVals_sound hb h2
           have hload:=run_loadCells_list (P:=P) w ⟨rb,s+o,none⟩ _ h3
           rw[h1] at hload
           refine⟨_,?_,run_bytesToString w _ len rcap ns hload⟩
           have:=VR.str (ι:=ι) (ns.foldl (fun r n=>r.push (UInt8.ofNat n.toNat)) ByteArray.empty)
           rw[foldl_push] at this
           simpa using this
          cases hh:re x<;>rw[hh] at hvx<;>cases hvx
          ·rw[conv];rename_i hι _ _;exact main hι
          ·rw[conv];rename_i hι _ _ _;exact main hι
          ·have hl0:l=[]:=by simp[bytesVals] at hb;exact hb
           subst hl0
           exact⟨.string .empty,VR.str (ι:=ι) ByteArray.empty,by rw[conv];simp[Conv.bytesToString,loadCells,loadCellsFrom]⟩
        ·cases hv
 case call c=>
  obtain⟨callee,args,argTypes⟩:=c
  cases callee with
  |value f=>cases hv
  |invoke r m=>cases hv
  |builtin b=>
   cases b<;>(try simp only at hv)<;>try(cases hv;done)
   cases hl:args.toList with
   |nil=>rw[hl] at hv;cases hv
   |cons x rest=>cases rest with
    |cons _ _=>rw[hl] at hv;cases hv
    |nil=>cases ht:argTypes.toList with
     |nil=>rw[hl,ht] at hv;cases hv
     |cons t ts=>
      rw[hl,ht] at hv;(try simp only at hv)
      have ea:args=#[x]:=by rw[←Array.toArray_toList (xs:=args),hl]
      have et:argTypes[0]? =some t:=by rw[←Array.getElem?_toList,ht];rfl
      subst ea
      cases hx:ρ x with
      |none=>rw[hx] at hv;cases hv
      |some u=>
       rw[hx] at hv
       cases u<;>(try simp only at hv)<;>try(cases hv;done)
       rename_i r
       cases r with
       |none=>cases hv
       |some b=>
        (try simp only at hv)
        cases hu:P.underlying t with
        |none=>rw[hu] at hv;cases hv
        |some d=>
         rw[hu] at hv
         cases d<;>(try simp only at hv)<;>try(cases hv;done)
         cases hg:h.get b with
         |none=>rw[hg] at hv;cases hv
         |some ob=>
          rw[hg] at hv
          cases ob<;>(try simp only at hv)<;>try(cases hv;done)
          rename_i es;cases hv
          have hvx:=hr x (by simp[Op.operands,Call.operands]) _ hx
          obtain⟨rb,s,m,ents,clock,h1,h2,h3,h4⟩:=I.maps b es hg
          have hrx:re x=.map (some rb):=by
           cases hh:re x<;>rw[hh] at hvx<;>cases hvx
           rename_i hι;rw[h1] at hι;cases hι;rfl
          have hgo:(getObj rb).run P w=.ok (.map ents clock) w:=by simp[getObj,Sem.run,h3]
          refine⟨_,.int _ _,?_⟩
          have hlen:=h4.length
          simp only[execOp,resolve,invoke,Sem.run_bind,Sem.run_pure,Result.andThen_ok,builtin]
          simp[Builtin.len_,et,run_underlying hu,hrx,hgo,goInt,hlen]
end Go.Proofs.YtkjpldganajkkaaGreatDoor.NICE
namespace Go.Proofs.YtkjpldganajkkaaGreatDoor.NICE
open Go Go.RowKit
variable {P:Program} {w0 w:World} {ι:Inj} {h:NHeap}
def Inj.upd (ι:Inj) (b:Nat) (x:Nat×Nat×Nat):Inj:=fun k=>if k=b then some x else ι k
@[simp] theorem Inj.upd_same (ι:Inj) (b x):ι.upd b x b=some x:=by simp[Inj.upd]
theorem Inj.upd_ne (ι:Inj) {b k:Nat} (x) (hk:k≠b):ι.upd b x k=ι k:=by simp[Inj.upd,hk]
theorem Inj.le_upd {ι:Inj} {b:Nat} (x) (hb:ι b=none):ι.le (ι.upd b x):=fun k y e=>by
 by_cases hk:k=b
 ·subst hk;rw[hb] at e;cases e
 ·rw[Inj.upd_ne _ _ hk];exact e
theorem Inv.next_none (I:Inv w0 ι h w):ι h.next=none:=by
 cases e:ι h.next with
 |none=>rfl
 |some x=>exact absurd (I.fresh _ _ e) (Nat.lt_irrefl _)
structure Pushed (w:World) (o:Obj) (w':World):Prop where
 heap:w'.heap=w.heap.push o
 os:w'.os=w.os
 tape:w'.tape=w.tape
 output:w'.output=w.output
theorem Pushed.alloc (w:World) (o:Obj):Pushed w o (w.alloc o):=⟨rfl,rfl,rfl,rfl⟩
theorem Pushed.drewAlloc (w:World) (o:Obj):Pushed w o (w.drew.alloc o):=⟨rfl,rfl,rfl,rfl⟩
theorem Pushed.size {o:Obj} {w':World} (p:Pushed w o w'):w'.heap.size=w.heap.size+1:=by rw[p.heap];simp
theorem Pushed.new {o:Obj} {w':World} (p:Pushed w o w'):w'.heap[w.heap.size]? =some o:=by rw[p.heap];simp
theorem Pushed.old {o:Obj} {w':World} (p:Pushed w o w') {k:Nat} (hk:k<w.heap.size):w'.heap[k]? =w.heap[k]? :=by
 rw[p.heap,Array.getElem?_push,if_neg (by omega)]
theorem Pushed.below {o:Obj} {w':World} (p:Pushed w o w') {B:Nat} (hB:B≤w.heap.size):Below B w w':=
 ⟨p.os,p.tape,p.output,by rw[p.size];omega,fun k hk=>p.old (by omega)⟩
theorem Inv.lt_of_owned (I:Inv w0 ι h w) {rb:Nat} (ho:Owned ι h rb):rb<w.heap.size∧w0.heap.size≤rb:=by
 obtain⟨b,o,s,m,hb,hw,hι⟩:=ho
 cases o with
 |cells cs mine=>
  cases mine with|ro=>cases hw|own t=>
  obtain⟨rb',s',m',c,e,fz,h1,h2,h3,_⟩:=I.cells b cs hb
  rw[hι] at h1;cases h1
  exact⟨(Array.getElem?_eq_some_iff.1 h3).1,h2⟩
 |map es=>
  obtain⟨rb',s',m',ents,clock,h1,h2,h3,_⟩:=I.maps b es hb
  rw[hι] at h1;cases h1
  exact⟨(Array.getElem?_eq_some_iff.1 h3).1,h2⟩
 |dead=>simp[NObj.owned] at hw
theorem Inv.push (I:Inv w0 ι h w) {o:NObj} {ob:Obj} {w':World} (p:Pushed w ob w') (m:Nat)
  (hc:∀cs t,o=.cells cs (.own t)→∃c e fz,ob=.cells c e fz∧m≤c.size∧cs.length≤m∧(∀i,i<c.size→¬(fz.1≤i∧i<fz.2))∧(∀(i:Nat) v,cs[i]? =some v→∃r,c[i]? =some r∧VR ι v r))
  (hr:∀cs,o≠.cells cs .ro) (hm:∀es,o=.map es→es=[]∧∃k,ob=.map #[] k) (ht:∀cs T k,o=.cells cs (.own (some (T,k)))→∃c,ob=.cells c T (0,0)∧m=c.size∧(k=0∨c.size=k)∧(k=0→AllOneV c)):
  Inv w0 (ι.upd h.next (w.heap.size,0,m)) (h.alloc o) w'∧Step ι h w (ι.upd h.next (w.heap.size,0,m)) (h.alloc o) w':=by
 have hle:ι.le (ι.upd h.next (w.heap.size,0,m)):=Inj.le_upd _ I.next_none
 have hB:w0.heap.size≤w.heap.size:=I.below.size
 have get:∀{b ob'},(h.alloc o).get b=some ob'→(b=h.next∧ob'=o)∨(b<h.next∧b≠h.next∧h.get b=some ob'):=by
  intro b ob' e
  rw[NHeap.get_alloc] at e
  split at e
  ·rename_i hb;cases e;exact .inl ⟨hb,rfl⟩
  ·rename_i hb;exact .inr ⟨NHeap.get_lt e,hb,e⟩
 refine⟨⟨I.below.trans (p.below hB),?_,?_,?_,?_,?_,?_⟩,⟨hle,?_,by rw[p.size];omega,fun rb hlt _=>p.old hlt,?_,by simp⟩⟩
 ·intro b x e
  by_cases hb:b=h.next
  ·subst hb;simp
  ·rw[Inj.upd_ne _ _ hb] at e;have:=I.fresh b x e;simp;omega
 ·intro b cs t e
  rcases get e with⟨rfl,rfl⟩|⟨hlt,hne,e⟩
  ·obtain⟨c,el,fz,rfl,h1,h2,h3,h4⟩:=hc cs t rfl
   exact⟨w.heap.size,0,m,c,el,fz,by simp,hB,p.new,by omega,h2,h3,fun i v hi=>by
    obtain⟨r,hr,hv⟩:=h4 i v hi
    exact⟨r,by simpa using hr,hv.mono hle⟩⟩
  ·obtain⟨rb,s,m',c,el,fz,h1,h2,h3,h4,h5,h6,h7⟩:=I.cells b cs e
   exact⟨rb,s,m',c,el,fz,by rw[Inj.upd_ne _ _ hne];exact h1,h2,by rw[p.old ((Array.getElem?_eq_some_iff.1 h3).1)];exact h3,h4,h5,h6,fun i v hi=>by
    obtain⟨r,hr,hv⟩:=h7 i v hi;exact⟨r,hr,hv.mono hle⟩⟩
 ·intro b cs T k e
  rcases get e with⟨rfl,rfl⟩|⟨hlt,hne,e⟩
  ·obtain⟨c,rfl,hm',hk⟩:=ht cs T k rfl
   exact⟨w.heap.size,c,by rw[Inj.upd_same,hm'],p.new,hk⟩
  ·obtain⟨rb,c,h1,h2,h3⟩:=I.typed b cs T k e
   exact⟨rb,c,by rw[Inj.upd_ne _ _ hne];exact h1,by rw[p.old ((Array.getElem?_eq_some_iff.1 h2).1)];exact h2,h3⟩
 ·intro b cs e
  rcases get e with⟨rfl,rfl⟩|⟨hlt,hne,e⟩
  ·exact absurd rfl (hr cs)
  ·obtain⟨rb,s,m',h1,h2⟩:=I.ro b cs e
   exact⟨rb,s,m',by rw[Inj.upd_ne _ _ hne];exact h1,fun i v hi=>by obtain⟨r,hr,hv⟩:=h2 i v hi;exact⟨r,hr,hv.mono hle⟩⟩
 ·intro b es e
  rcases get e with⟨rfl,rfl⟩|⟨hlt,hne,e⟩
  ·obtain⟨rfl,k,rfl⟩:=hm es rfl
   exact⟨w.heap.size,0,m,#[],k,by simp,hB,p.new,.nil⟩
  ·obtain⟨rb,s,m',ents,k,h1,h2,h3,h4⟩:=I.maps b es e
   exact⟨rb,s,m',ents,k,by rw[Inj.upd_ne _ _ hne];exact h1,h2,by rw[p.old ((Array.getElem?_eq_some_iff.1 h3).1)];exact h3,h4.imp fun _ _ ⟨a,b⟩=>⟨a.mono hle,b.mono hle⟩⟩
 ·intro b b' o1 o2 rb s s' m1 m2 e1 w1 e2 w2 i1 i2
  rcases get e1 with⟨rfl,rfl⟩|⟨hlt,hne,f1⟩<;>rcases get e2 with⟨rfl,rfl⟩|⟨hlt',hne',f2⟩
  ·rfl
  ·rw[Inj.upd_same] at i1;cases i1
   rw[Inj.upd_ne _ _ hne'] at i2
   have:=(I.lt_of_owned ⟨b',o2,s',m2,f2,w2,i2⟩).1;omega
  ·rw[Inj.upd_same] at i2;cases i2
   rw[Inj.upd_ne _ _ hne] at i1
   have:=(I.lt_of_owned ⟨b,o1,s,m1,f1,w1,i1⟩).1;omega
  ·rw[Inj.upd_ne _ _ hne] at i1;rw[Inj.upd_ne _ _ hne'] at i2
   exact I.inj b b' o1 o2 rb s s' m1 m2 f1 w1 f2 w2 i1 i2
 ·intro b x e
  by_cases hb:b=h.next
  ·exact .inr (by omega)
  ·rw[Inj.upd_ne _ _ hb] at e;exact .inl e
 ·rintro rb ⟨b,ob',s,m',e1,e2,e3⟩
  rcases get e1 with⟨rfl,rfl⟩|⟨hlt,hne,e1⟩
  ·rw[Inj.upd_same] at e3;cases e3;exact .inr (Nat.le_refl _)
  ·rw[Inj.upd_ne _ _ hne] at e3;exact .inl ⟨b,ob',s,m',e1,e2,e3⟩
theorem Inv.setRow (I:Inv w0 ι h w) {b:Nat} {cs cs':List NVal} {t:Option (TypeId×Nat)} (hb:h.get b=some (.cells cs (.own t))) {rb s m:Nat} (hι:ι b=some (rb,s,m)) {c c':Array Value} {e:TypeId} {fz:Nat×Nat}
  (hw:w.heap[rb]? =some (.cells c e fz)) (hs:c'.size=c.size) (ho:∀(i:Nat) r,c'[i]? =some r→c[i]? =some r∨r.oneCell'=true) (hl:cs'.length≤m) (hc:∀(i:Nat) v,cs'[i]? =some v→∃r,c'[s+i]? =some r∧VR ι v r):
  Inv w0 ι (h.set b (.cells cs' (.own t))) (w.setRow rb c')∧Step ι h w ι (h.set b (.cells cs' (.own t))) (w.setRow rb c'):=by
 have hlt:=NHeap.get_lt hb
 obtain⟨rb1,s1,m1,c1,e1,fz1,q1,q2,q3,q4,q5,q6,q7⟩:=I.cells b cs hb
 rw[hι] at q1;cases q1
 rw[hw] at q3;cases q3
 have hnew:=setRow_heap w rb c c' e fz hw
 have hother:=fun k hk=>setRow_other w rb k c' hk
 have get:∀{b' ob'},(h.set b (.cells cs' (.own t))).get b'=some ob'→(b'=b∧ob'=.cells cs' (.own t))∨(b'≠b∧h.get b'=some ob'):=by
  intro b' ob' e
  rw[NHeap.get_set] at e
  split at e
  ·rename_i hh;cases e;exact .inl ⟨hh.1,rfl⟩
  ·rename_i hh;exact .inr ⟨fun q=>hh ⟨q,hlt⟩,e⟩
 have ne_of:∀{b' ob' rb' s' m'},b'≠b→h.get b'=some ob'→ob'.owned=true→ι b'=some (rb',s',m')→rb'≠rb:=by
  intro b' ob' rb' s' m' hne hg how hi q
  subst q
  exact hne (I.inj b' b ob' _ rb' s' s m' m hg how hb rfl hi hι)
 refine⟨⟨I.below.trans ⟨rfl,rfl,rfl,by simp,fun k hk=>hother k (by omega)⟩,fun b' x q=>by simpa using I.fresh b' x q,?_,?_,?_,?_,?_⟩,⟨ι.le_refl,fun _ _ q=>.inl q,by simp,?_,?_,by simp⟩⟩
 ·intro b' ds t' q
  rcases get q with⟨rfl,q'⟩|⟨hne,q'⟩
  ·cases q';exact⟨rb,s,m,c',e,fz,hι,q2,hnew,by omega,hl,fun i hi=>q6 i (by omega),hc⟩
  ·obtain⟨rb',s',m',c2,e2,fz2,h1,h2,h3,h4⟩:=I.cells b' ds q'
   exact⟨rb',s',m',c2,e2,fz2,h1,h2,by rw[hother rb' (ne_of hne q' rfl h1)];exact h3,h4⟩
 ·intro b' ds T k q
  rcases get q with⟨rfl,q'⟩|⟨hne,q'⟩
  ·cases q'
   obtain⟨rb2,c2,h1,h2,h3⟩:=I.typed b' cs T k hb
   rw[hι] at h1;cases h1
   rw[hw] at h2;cases h2
   exact⟨_,c',by rw[hs];exact hι,hnew,by rw[hs];exact h3.1,fun hk i r hr=>(ho i r hr).elim (h3.2 hk i r) id⟩
  ·obtain⟨rb',c2,h1,h2,h3⟩:=I.typed b' ds T k q'
   exact⟨rb',c2,h1,by rw[hother rb' (ne_of hne q' rfl h1)];exact h2,h3⟩
 ·intro b' ds q
  rcases get q with⟨rfl,q'⟩|⟨hne,q'⟩
  ·cases q'
  ·exact I.ro b' ds q'
 ·intro b' es q
  rcases get q with⟨rfl,q'⟩|⟨hne,q'⟩
  ·cases q'
  ·obtain⟨rb',s',m',ents,k,h1,h2,h3,h4⟩:=I.maps b' es q'
   exact⟨rb',s',m',ents,k,h1,h2,by rw[hother rb' (ne_of hne q' rfl h1)];exact h3,h4⟩
 ·intro b1 b2 o1 o2 rb' s1 s2 m1 m2 g1 w1 g2 w2 i1 i2
  have:∀{b' ob'},(h.set b (.cells cs' (.own t))).get b'=some ob'→ob'.owned=true→∃ob'',h.get b'=some ob''∧ob''.owned=true:=by
   intro b' ob' q qo
   rcases get q with⟨rfl,q'⟩|⟨hne,q'⟩
   ·exact⟨_,hb,rfl⟩
   ·exact⟨_,q',qo⟩
  obtain⟨p1,g1,w1⟩:=this g1 w1
  obtain⟨p2,g2,w2⟩:=this g2 w2
  exact I.inj b1 b2 p1 p2 rb' s1 s2 m1 m2 g1 w1 g2 w2 i1 i2
 ·intro k hk hno
  exact hother k (fun q=>hno (by subst q;exact⟨b,_,s,m,hb,rfl,hι⟩))
 ·rintro k ⟨b',ob',s',m',g,ho,hi⟩
  rcases get g with⟨rfl,g⟩|⟨hne,g⟩
  ·exact .inl ⟨b',_,s',m',hb,rfl,hi⟩
  ·exact .inl ⟨b',ob',s',m',g,ho,hi⟩
end Go.Proofs.YtkjpldganajkkaaGreatDoor.NICE
namespace Go.Proofs.YtkjpldganajkkaaGreatDoor.NICE
open Go Go.RowKit
variable {P:Program} {w0 w:World} {ι:Inj} {h:NHeap}
theorem run_storeCells_fz (P:Program) (g o:Nat) (t:TypeId) (fz:Nat×Nat):∀(vs:List Value) (i:Nat) (cur:Array Value) (w:World),w.heap[g]? =some (.cells cur t fz)→(∀k,k<cur.size→¬(fz.1≤k∧k<fz.2))→
  o+i+vs.length≤cur.size→(∀v∈vs,v.oneCell'=true)→
  (storeCells ⟨g,o,none⟩ vs i).run P w=.ok () (w.setRow g (cur.toList.take (o+i)++vs++cur.toList.drop (o+i+vs.length)).toArray)
 |[],i,cur,w,hg,_,_,_=>by
  simp only[storeCells,List.append_nil,List.length_nil,Nat.add_zero,List.take_append_drop,Array.toArray_toList]
  rw[setRow_self w g cur t fz hg]
  rfl
 |v::rest,i,cur,w,hg,hf,hl,h1=>by
  have hi:o+i<cur.size:=by simp at hl;omega
  have hcell:w.cell? ⟨g,o+i,none⟩=some cur[o+i]:=by simp[World.cell?,hg,hi]
  have hfro:w.frozen? ⟨g,o+i,none⟩=false:=by
   have:=hf (o+i) hi
   simp only[World.frozen?,hg]
   by_cases q:fz.1≤o+i
   ·have:¬(o+i<fz.2):=fun r=>this ⟨q,r⟩
    simp[q,this]
   ·simp[q]
  have hst:(store ((⟨g,o,none⟩:Addr).add i) v).run P w=.ok () (w.setRow g (cur.setIfInBounds (o+i) v)):=by
   rw[add_at,run_store P w _ v _ (h1 v (by simp)),hcell]
   simp[hfro,setCell_eq_setRow w g (o+i) cur t fz v hg]
  have ih:=run_storeCells_fz P g o t fz rest (i+1) (cur.setIfInBounds (o+i) v) (w.setRow g (cur.setIfInBounds (o+i) v)) (setRow_heap w g cur _ t _ hg) (by simpa using hf) (by simp at hl⊢;omega) (fun x hx=>h1 x (by simp[hx]))
  simp only[storeCells,Sem.run_bind,hst,Result.andThen_ok,ih,setRow_setRow]
  congr 3
  have e:=list_seg_step cur.toList (o+i) v rest (by simp at hl⊢;omega)
  simpa[Array.toList_setIfInBounds,Nat.add_assoc] using e
theorem allOne_sound:∀{cs:List NVal} {rs:List Value},allOne cs=true→VRs ι cs rs→∀v∈rs,v.oneCell'=true
 |_,_,_,.nil=>by simp
 |u::cs,r::rs,ha,.cons hu hr=>by
  simp only[allOne,Bool.and_eq_true] at ha
  intro v hv
  rcases List.mem_cons.1 hv with rfl|hv
  ·exact hu.one ha.1
  ·exact allOne_sound ha.2 hr v hv
theorem seg_rel {cs vs:List NVal} {us:List Value} {c:Array Value} {s o:Nat} (hc:∀(i:Nat) v,cs[i]? =some v→∃r,c[s+i]? =some r∧VR ι v r) (hu:VRs ι vs us) (hl:o+vs.length≤cs.length)
  (hs:s+cs.length≤c.size):∀(i:Nat) v,(setRange cs o vs)[i]? =some v→∃r,(c.toList.take (s+o)++us++c.toList.drop (s+o+us.length)).toArray[s+i]? =some r∧VR ι v r:=by
 intro i v hi
 have hlen:=hu.length
 unfold setRange at hi
 have lt:(cs.take o).length=o:=by simp;omega
 have lt':(c.toList.take (s+o)).length=s+o:=by simp;omega
 rw[List.getElem?_toArray]
 by_cases h1:i<o
 ·rw[List.getElem?_append_left (by simp;omega),List.getElem?_append_left (by omega),List.getElem?_take,if_pos h1] at hi
  obtain⟨r,hr,hv⟩:=hc i v hi
  refine⟨r,?_,hv⟩
  rw[List.getElem?_append_left (by simp;omega),List.getElem?_append_left (by omega),List.getElem?_take,if_pos (by omega)]
  simpa using hr
 ·by_cases h2:i<o+vs.length
  ·rw[List.getElem?_append_left (by simp;omega),List.getElem?_append_right (by omega),lt] at hi
   obtain⟨r,hr,hv⟩:=hu.get hi
   refine⟨r,?_,hv⟩
   rw[List.getElem?_append_left (by simp;omega),List.getElem?_append_right (by omega),lt']
   rw[show s+i-(s+o)=i-o by omega];exact hr
  ·rw[List.getElem?_append_right (by simp;omega)] at hi
   simp only[List.length_append,lt,List.getElem?_drop] at hi
   rw[show o+vs.length+(i-(o+vs.length))=i by omega] at hi
   obtain⟨r,hr,hv⟩:=hc i v hi
   refine⟨r,?_,hv⟩
   rw[List.getElem?_append_right (by simp;omega)]
   simp only[List.length_append,lt',List.getElem?_drop]
   rw[show s+o+us.length+(s+i-(s+o+us.length))=s+i by omega]
   simpa using hr
theorem setRange_length {cs vs:List NVal} {o:Nat} (hl:o+vs.length≤cs.length):(setRange cs o vs).length=cs.length:=by
 unfold setRange;simp;omega
theorem seg_size {us:List Value} {c:Array Value} {k:Nat} (hl:k+us.length≤c.size):(c.toList.take k++us++c.toList.drop (k+us.length)).toArray.size=c.size:=by
 simp;omega
theorem seg_one {us:List Value} {c:Array Value} {k n:Nat} (h:∀v∈us,v.oneCell'=true) (i:Nat) (r:Value) (hr:(c.toList.take k++us++c.toList.drop n).toArray[i]? =some r) (hn:n=k+us.length:=by rfl) (hk:k≤c.size:=by omega):
  c[i]? =some r∨r.oneCell'=true:=by
 subst hn
 rw[List.getElem?_toArray] at hr
 by_cases h1:i<k
 ·rw[List.append_assoc,List.getElem?_append_left (by simp;omega),List.getElem?_take,if_pos h1] at hr
  exact .inl (by simpa using hr)
 ·by_cases h2:i<k+us.length
  ·rw[List.append_assoc,List.getElem?_append_right (by simp;omega),List.getElem?_append_left (by simp;omega)] at hr
   exact .inr (h _ (List.mem_of_getElem? hr))
  ·rw[List.getElem?_append_right (by simp;omega),List.getElem?_drop] at hr
   refine .inl ?_
   simp only[List.length_append,List.length_take,Array.length_toList] at hr
   rw[show k+us.length+(i-(min k c.size+us.length))=i by omega] at hr
   simpa using hr
theorem Inv.write (I:Inv w0 ι h w) {b:Nat} {cs vs:List NVal} {us:List Value} {t:Option (TypeId×Nat)} (hb:h.get b=some (.cells cs (.own t))) {rb s m o:Nat} (hι:ι b=some (rb,s,m)) (hu:VRs ι vs us) (h1:allOne vs=true) (hl:o+vs.length≤cs.length):
  ∃w',(storeCells ⟨rb,s+o,none⟩ us 0).run P w=.ok () w'∧Inv w0 ι (h.set b (.cells (setRange cs o vs) (.own t))) w'∧Step ι h w ι (h.set b (.cells (setRange cs o vs) (.own t))) w':=by
 obtain⟨rb1,s1,m1,c,e,fz,q1,q2,q3,q4,q5,q6,q7⟩:=I.cells b cs hb
 rw[hι] at q1;cases q1
 have hlen:=hu.length
 have hrun:=run_storeCells_fz P rb (s+o) e fz us 0 c w q3 q6 (by omega) (allOne_sound h1 hu)
 simp only[Nat.add_zero] at hrun
 obtain⟨I',S'⟩:=I.setRow (cs':=setRange cs o vs) (c':=(c.toList.take (s+o)++us++c.toList.drop (s+o+us.length)).toArray) hb hι q3 (seg_size (by omega)) (fun i r hr=>seg_one (allOne_sound h1 hu) i r hr) (by rw[setRange_length hl];exact q5)
  (seg_rel q7 hu hl (by omega))
 exact⟨_,hrun,I',S'⟩
theorem store_sound (I:Inv w0 ι h w) {t:TypeId} {b o:Nat} {v:NVal} {h':NHeap} (hs:nstore P t (b,o) v h=some h') {rx rv:Value} (hx:VR ι (.ptr (some (b,o))) rx) (hv:VR ι v rv):
  ∃w',(Instr.storeAt t rx rv).run P w=.ok () w'∧Inv w0 ι h' w'∧Step ι h w ι h' w':=by
 obtain⟨rb,s,m,hι,rfl⟩:=hx.ptr_inv
 unfold nstore at hs
 cases hn:szOf P t with
 |none=>simp only[hn] at hs;cases hs
 |some n=>cases hg:h.get b with
  |none=>simp only[hn,hg] at hs;cases hs
  |some ob=>
   simp only[hn,hg] at hs
   cases ob with
   |map es=>cases hs
   |dead=>cases hs
   |cells cs mine=>
    cases mine with
    |ro=>cases hs
    |own q=>
     simp only at hs
     split at hs
     ·rename_i hc;obtain⟨c1,c2,c3⟩:=hc;cases hs
      have hvc:=hv.cells
      obtain⟨w',r1,r2,r3⟩:=I.write (P:=P) hg hι hvc c3 (o:=o) (by omega)
      refine⟨w',?_,r2,r3⟩
      have hsz:rv.cells.size=n:=by have:=hvc.length;simp at this;omega
      simp only[Instr.storeAt,Instr.sureAddr,Sem.run_bind,Sem.run_pure,Result.andThen_ok,storeVar,run_sizeOf' hn]
      rw[if_neg (by omega)]
      simpa using r1
     ·cases hs
theorem repeat_length {z:List NVal}:∀n,(repeatCells z n).length=n*z.length
 |0=>by simp[repeatCells]
 |n+1=>by simp[repeatCells,repeat_length n];rw[Nat.add_mul];omega
theorem repeat_get {z:List NVal} (hz:0<z.length):∀(n i:Nat),i<n*z.length→(repeatCells z n)[i]? =z[i%z.length]?
 |0,i,h=>by simp at h
 |n+1,i,h=>by
  rw[Nat.add_mul] at h
  unfold repeatCells
  by_cases hi:i<z.length
  ·rw[List.getElem?_append_left hi,Nat.mod_eq_of_lt hi]
  ·rw[List.getElem?_append_right (by omega),repeat_get hz n _ (by omega)]
   congr 1
   rw[Nat.mod_eq_sub_mod (by omega:i≥z.length)]
theorem repeat_rel {z:NVal} {rz:Value} (hz:VR ι z rz) (h0:0<z.cells.length) (n:Nat) {k:Nat} (hk:k=n*z.cells.length):
  VRs ι (repeatCells z.cells n) ((Array.range k).map fun i=>rz.cells[i%rz.cells.size]!).toList:=by
 subst hk
 have hl:=hz.cells.length
 have hlc:z.cells.length=rz.cells.size:=by simpa using hl
 refine .of_get (by simp[repeat_length]) fun i a b ha hb=>?_
 have hi:i<n*z.cells.length:=by
  have:=(List.getElem?_eq_some_iff.1 ha).1;rwa[repeat_length] at this
 rw[repeat_get h0 n i hi] at ha
 obtain⟨r,hr,hv⟩:=hz.cells.get ha
 have hlt:i%z.cells.length<rz.cells.size:=by rw[←hlc];exact Nat.mod_lt _ h0
 have e:b=rz.cells[i%rz.cells.size]! :=by
  have hb':∃a,(List.range (n*z.cells.length))[i]? =some a∧rz.cells[a%rz.cells.size]! =b:=by simpa using hb
  obtain⟨a',ha',e'⟩:=hb'
  rw[List.getElem?_range hi] at ha'
  cases ha';exact e'.symm
 rw[e,←hlc,getElem!_pos rz.cells _ hlt]
 rw[Array.getElem?_toList,getElem?_pos rz.cells _ hlt] at hr
 cases hr;exact hv
theorem get_of_VRs {cs:List NVal} {c:Array Value} (hc:VRs ι cs c.toList):∀(i:Nat) v,cs[i]? =some v→∃r,c[i]? =some r∧VR ι v r:=fun i v hi=>by
 obtain⟨r,hr,hv⟩:=hc.get hi;exact⟨r,by simpa using hr,hv⟩
theorem new_cells (I:Inv w0 ι h w) {cs:List NVal} {c:Array Value} {e:TypeId} {w':World} (p:Pushed w (.cells c e) w') (hc:VRs ι cs c.toList) {t:Option (TypeId×Nat)} (ht:t=none∨t=some (e,c.size)):
  Inv w0 (ι.upd h.next (w.heap.size,0,c.size)) (h.alloc (.cells cs (.own t))) w'∧Step ι h w (ι.upd h.next (w.heap.size,0,c.size)) (h.alloc (.cells cs (.own t))) w':=
 I.push p c.size (fun cs' t' e'=>by cases e';exact⟨c,e,(0,0),rfl,Nat.le_refl _,by have:=hc.length;simp at this;omega,by simp,get_of_VRs hc⟩) (fun _ q=>by cases q) (fun _ q=>by cases q) (fun cs' T k q=>by cases q;rcases ht with ht|ht<;>cases ht;exact⟨c,rfl,rfl,.inr rfl,fun h0 i r hr=>by rw[Array.getElem?_eq_none (by omega)] at hr;cases hr⟩)
theorem new_sound (I:Inv w0 ι h w) {o:Oper} {ρ:Operand→Option NVal} {re:Operand→Value} (hr:∀x∈o.op.operands,∀u,ρ x=some u→VR ι u (re x)) {ob:NObj} {mk:Nat→NVal} (hv:newOp P ρ o.op=some (ob,mk)):
  ∃ι' w' rv,(execOp re o).run P w=.ok (.value rv) w'∧VR ι' (mk h.next) rv∧Inv w0 ι' (h.alloc ob) w'∧Step ι h w ι' (h.alloc ob) w'∧
   (∃m,ι'=ι.upd h.next (w.heap.size,0,m))∧ob.owned=true∧∃o',Pushed w o' w':=by
 obtain⟨dst,op,ty,pos,after,guard⟩:=o
 simp only at hv hr
 cases op<;>simp only[newOp] at hv<;>try(cases hv;done)
 case alloc t=>
  cases hz:zeroOf P t with
  |none=>rw[hz] at hv;cases hv
  |some z=>
   rw[hz] at hv;cases hv
   obtain⟨i,rz,hi,hiz,hzr⟩:=zeroOf_sound (ι:=ι) hz
   obtain⟨I',S'⟩:=new_cells I (Pushed.alloc w (.cells rz.cells t)) hzr.cells (.inl rfl)
   refine⟨_,_,.pointer (some ⟨w.heap.size,0,none⟩),?_,.ptr (by simp;rfl),I',S',⟨_,rfl⟩,rfl,_,Pushed.alloc _ _⟩
   simp[execOp,Instr.alloc,run_zeroValue' hi hiz,newVar,newRow]
 case box t x=>
  cases hx:ρ x with
  |none=>rw[hx] at hv;cases hv
  |some v=>
   rw[hx] at hv;cases hv
   have hvx:=hr x (by simp[Op.operands]) v hx
   obtain⟨I',S'⟩:=new_cells I (Pushed.alloc w (.cells (re x).cells t)) hvx.cells (.inl rfl)
   refine⟨_,_,.pointer (some ⟨w.heap.size,0,none⟩),?_,.ptr (by simp;rfl),I',S',⟨_,rfl⟩,rfl,_,Pushed.alloc _ _⟩
   simp[execOp,Instr.box,newVar,newRow]
 case buildSlice t len ps=>
  cases hu:P.underlying t with
  |none=>rw[hu] at hv;cases hv
  |some d=>
   rw[hu] at hv
   cases d with
   |slice e=>
    simp only at hv
    cases hn:szOf P e with
    |none=>rw[hn] at hv;cases hv
    |some n=>cases hp:evParts ρ ps.toList with
     |none=>rw[hn,hp] at hv;cases hv
     |some l=>
      rw[hn,hp] at hv;simp only at hv
      split at hv
      ·rename_i hc
       cases hz:zeroOf P e with
       |none=>rw[hz] at hv;cases hv
       |some z=>
        rw[hz] at hv;simp only at hv
        split at hv
        ·rename_i hzl
         cases hf:nfill (fun i=>some (i*n,n)) (repeatCells z.cells len) l with
         |none=>rw[hf] at hv;cases hv
         |some cs=>
          rw[hf] at hv;cases hv
          obtain⟨i,rz,hi,hiz,hzr⟩:=zeroOf_sound (ι:=ι) hz
          have hparts:=evParts_sound (ι:=ι) (re:=re) (fun x hx u hu=>hr x.2 (by simp only[Op.operands];exact List.mem_toArray.2 (List.mem_map_of_mem hx)) u hu) hp
          have hrl:=repeat_rel hzr (by omega) len (k:=len*n) (by rw[hzl])
          obtain⟨ds',f1,f2⟩:=fill_sound hf hrl hparts
          obtain⟨I',S'⟩:=new_cells I (Pushed.alloc w (.cells ds' e)) f2 (.inl rfl)
          refine⟨_,_,.slice (some ⟨w.heap.size,0,none⟩) len len,?_,.slice (by simp;rfl) (Nat.le_refl _) rfl,I',S',⟨_,rfl⟩,rfl,_,Pushed.alloc _ _⟩
          have hm:(ps.map fun(i,x)=>(i,re x)).toList=ps.toList.map fun p=>(p.1,re p.2):=by simp
          simp only[execOp,Instr.buildSlice,Sem.run_bind,run_underlying hu,Result.andThen_ok,run_sizeOf' hn]
          rw[if_neg (by omega)]
          by_cases hl0:len*n=0
          ·have hlen0:len=0:=by
            rcases Nat.mul_eq_zero.1 hl0 with q|q
            ·exact q
            ·omega
           subst hlen0
           have f1':Instr.fill (fun i=>some (i*n,n)) #[] (ps.map fun(i,x)=>(i,re x)).toList=some ds':=by
            have e0:(Array.range (0*n)).map (fun i=>rz.cells[i%rz.cells.size]!)=#[]:=by apply Array.ext';simp
            rw[hm,←e0];exact f1
           have e0:∀f:Nat→Value,(Array.range 0).map f=#[]:=fun f=>by apply Array.ext';simp
           simp only[Nat.zero_mul,if_true,Sem.run_pure,Result.andThen_ok,e0,f1']
           simp[newRow]
          ·have f1':Instr.fill (fun i=>some (i*n,n)) ((Array.range (len*n)).map fun i=>rz.cells[i%rz.cells.size]!) (ps.map fun(i,x)=>(i,re x)).toList=some ds':=by
            rw[hm];exact f1
           simp only[hl0,if_false,Sem.run_bind,Sem.run_pure,run_zeroValue' hi hiz,Result.andThen_ok,f1']
           simp[newRow]
        ·cases hv
      ·cases hv
   |_=>cases hv
 case makeSlice t l c=>
  cases hu:P.underlying t with
  |none=>rw[hu] at hv;cases hv
  |some d=>cases hl:ρ l with
   |none=>rw[hu,hl] at hv;cases d<;>cases hv
   |some lv=>cases hc:ρ c with
    |none=>rw[hu,hl,hc] at hv;cases d<;>cases lv<;>cases hv
    |some cv=>
     rw[hu,hl,hc] at hv
     cases d with
     |slice e=>
      cases lv with
      |int k1 l1=>
       cases cv with
       |int k2 c1=>
        simp only at hv
        cases hn:szOf P e with
        |none=>rw[hn] at hv;cases hv
        |some n=>cases hb:bytesOf P e with
         |none=>rw[hn,hb] at hv;cases hv
         |some by_=>cases hz:zeroOf P e with
          |none=>rw[hn,hb,hz] at hv;cases hv
          |some z=>
           rw[hn,hb,hz] at hv;simp only at hv
           split at hv
           ·rename_i hcond
            obtain⟨c0,c1',c2,c3,c4,c5⟩:=hcond
            cases hv
            obtain⟨i,rz,hi,hiz,hzr⟩:=zeroOf_sound (ι:=ι) hz
            have hn':i.size=n:=by simp only[szOf,hi] at hn;cases hn;rfl
            have hb':i.bytes=by_:=by simp only[bytesOf,hi] at hb;cases hb;rfl
            have el:=(hr l (by simp[Op.operands]) _ hl).int_inv
            have ec:=(hr c (by simp[Op.operands]) _ hc).int_inv
            have w1:IntKind.i64.wrap l1=l1:=IntWalk.i64_in _ (by omega)
            have w2:IntKind.i64.wrap c1=c1:=IntWalk.i64_in _ (by omega)
            have hrl:=repeat_rel hzr (by omega) c1.toNat (k:=c1.toNat*n) (by rw[c4])
            obtain⟨I',S'⟩:=new_cells I (Pushed.alloc w (.cells ((Array.range (c1.toNat*n)).map fun i=>rz.cells[i%rz.cells.size]!) e)) hrl (.inl rfl)
            refine⟨_,_,.slice (some ⟨w.heap.size,0,none⟩) l1.toNat c1.toNat,?_,.slice (by simp;rfl) (by omega) rfl,I',S',⟨_,rfl⟩,rfl,_,Pushed.alloc _ _⟩
            have ht:(decide (c1<0)||decide ((by_:Int)*c1>2^48))=false:=by
             have:(by_:Int)*c1≤1099511627776:=by rw[Int.mul_comm];exact c2
             simp;omega
            have hl0:decide (l1<0)=false:=by simp;omega
            have hlc:decide (l1>c1)=false:=by simp;omega
            simp only[execOp,Instr.makeSlice,Sem.run_bind,run_underlying hu,Result.andThen_ok,el,ec,asInt,asIntOf,Sem.run_pure,typeInfo,run_program,hi,w1,w2,hb',ht,hl0,hlc,Bool.or_self,Bool.false_eq_true,if_false,run_askRoom,sizeOf,hn']
            by_cases hc0:c1.toNat*n=0
            ·rw[if_pos hc0]
             have e0:∀f:Nat→Value,(Array.range (c1.toNat*n)).map f=#[]:=fun f=>by apply Array.ext';simp[hc0]
             simp only[Sem.run_pure,Result.andThen_ok,e0]
             simp[newRow]
            ·rw[if_neg hc0]
             simp only[Sem.run_bind,Sem.run_pure,run_zeroValue' hi hiz,Result.andThen_ok]
             simp[newRow]
           ·cases hv
       |_=>cases hv
      |_=>cases hv
     |_=>cases hv
 case makeMap t r=>
  cases r with
  |some x=>cases hv
  |none=>
   cases hv
   obtain⟨I',S'⟩:=I.push (o:=.map []) (Pushed.alloc w (.map #[] 0)) 0 (fun _ _ q=>by cases q) (fun _ q=>by cases q) (fun es q=>by cases q;exact⟨rfl,0,rfl⟩) (fun _ _ _ q=>by cases q)
   exact⟨_,_,.map (some w.heap.size),by simp[execOp,Instr.makeMap],VR.map (s:=0) (m:=0) (by simp),I',S',⟨_,rfl⟩,rfl,_,Pushed.alloc _ _⟩
end Go.Proofs.YtkjpldganajkkaaGreatDoor.NICE
namespace Go.Proofs.YtkjpldganajkkaaGreatDoor.NICE
open Go Go.RowKit
variable {P:Program} {w0 w:World} {ι:Inj} {h:NHeap}
theorem src_sound (I:Inv w0 ι h w) {sz n:Nat} {x:NVal} {cs:List NVal} (hs:srcCells sz n h x=some cs) {rx:Value} (hx:VR ι x rx):
  ∃rs,VRs ι cs rs∧∀w2:World,(∀a,w2.cell? a=w.cell? a)→(Builtin.firstCells sz n rx).run P w2=.ok rs.toArray w2:=by
 cases x with
 |slice a len cap xx=>
  cases a with
  |none=>
   simp only[srcCells] at hs
   split at hs
   ·cases hs
    cases hh:rx<;>rw[hh] at hx<;>cases hx
    exact⟨[],.nil,fun w2 _=>by simp[Builtin.firstCells]⟩
   ·cases hs
  |some a=>
   obtain⟨b,o⟩:=a
   simp only[srcCells] at hs
   split at hs
   ·rename_i h0;cases hs
    cases hh:rx<;>rw[hh] at hx<;>cases hx<;>exact⟨[],.nil,fun w2 _=>by simp[Builtin.firstCells,h0,loadCells,loadCellsFrom]⟩
   ·rename_i h0
    cases hg:h.get b with
    |none=>rw[hg] at hs;cases hs
    |some ob=>
     rw[hg] at hs
     cases ob with
     |map es=>cases hs
     |dead=>cases hs
     |cells old mine=>
      simp only at hs
      split at hs
      ·rename_i hle';obtain⟨hnl,hle⟩:=hle';cases hs
       have main:∀{rb s m rcap},ι b=some (rb,s,m)→∃rs,VRs ι ((old.drop o).take (n*sz)) rs∧∀w2:World,(∀a,w2.cell? a=w.cell? a)→(Builtin.firstCells sz n (.slice (some ⟨rb,s+o,none⟩) len rcap)).run P w2=.ok rs.toArray w2:=by
        intro rb s m rcap hι
        obtain⟨rs,h1,h2,h3⟩:=I.range hg hι (n*sz) o hle
        exact⟨rs,h2,fun w2 hw=>run_firstCells_some w2 sz n _ len rcap rs h1 (fun j v e=>by rw[hw];exact h3 j v e)⟩
       cases hh:rx<;>rw[hh] at hx<;>cases hx
       ·rename_i hι _ _;exact main hι
       ·rename_i hι _ _ _;exact main hι
       ·exact absurd (by rw[Nat.le_zero.1 hnl,Nat.zero_mul]) h0
      ·cases hs
 |str s=>
  simp only[srcCells] at hs;cases hs
  obtain⟨b,rfl,rfl⟩:=hx.str_inv
  refine⟨(b.data.toList.take n).map fun c=>.int .u8 c.toNat,All2.map' fun c _=>.int _ _,fun w2 _=>?_⟩
  simp only[Builtin.firstCells,Sem.run_pure]
  congr 1
  apply Array.ext'
  simp
 |_=>cases hs
theorem lenOf_sound {x:NVal} {n:Nat} (hn:nlenOf x=some n) {rx:Value} (hx:VR ι x rx) (w:World):(Builtin.lenOf rx).run P w=.ok n w:=by
 cases x<;>simp only[nlenOf] at hn<;>try(cases hn;done)
 ·cases hn;obtain⟨b,rfl,rfl⟩:=hx.str_inv;simp[Builtin.lenOf]
 ·cases hn;cases hh:rx<;>rw[hh] at hx<;>cases hx<;>rfl
def appendCore (e:TypeId) (sz:Nat) (zeros:Bool) (n:Nat) (base:Option Addr) (sLen sCap:Nat) (x:Value) (A:Sem (Array Value)):Sem Value:=
 if sLen+n≤sCap then do
  let new←A
  if let some a:=base then storeCells (a.add (sLen*sz)) new.toList
  pure (.slice base (sLen+n) sCap)
 else do
  if((sLen+n:Nat):Int)>IntKind.i64.max∧(zeros∨(←typeInfo e).bytes=0) then runtimePanic (.error "growslice: len out of range")
  if Builtin.nextslicecap (sLen+n) sCap*(←typeInfo e).bytes>2^48 then(if zeros then runtimePanic (.error "growslice: len out of range") else do
   if !(←Builtin.mayShare sz sLen n base x) then mark .noRoom
   unsupported (.resourceLimit "append: a slice or a string whose bytes no memory bears"))
  let newCap←choose (.appendCap (sLen+n) sCap e)
  askRoom (newCap*(←typeInfo e).bytes)
  let old←Builtin.firstCells sz sLen (.slice base sLen sCap)
  let new←A
  let rest:=Builtin.zeroCells (←zeroValue e).cells (newCap-(sLen+n))
  pure (.slice (some (←newRow e (old++new++rest))) (sLen+n) newCap)
theorem append_eq_src {st xt ty e:TypeId} {sz n:Nat} {d:TypeDesc} {base:Option Addr} {sLen sCap:Nat} {x:Value} (hst:P.underlying st=some (.slice e)) (hs:szOf P e=some sz)
  (hxt:P.underlying xt=some d) (hd:∀k,d≠.int k) (hn:∀w,(Builtin.lenOf x).run P w=.ok n w) (w:World):
  (Builtin.append_ #[st,xt] ty #[.slice base sLen sCap,x]).run P w=(appendCore e sz false n base sLen sCap x (Builtin.firstCells sz n x)).run P w:=by
 cases d<;>first
  |exact absurd rfl (hd _)
  |(unfold Builtin.append_ appendCore
    simp only[List.getElem?_toArray,List.getElem?_cons_zero,List.getElem?_cons_succ,Sem.run_bind,run_underlying hst,Result.andThen_ok,run_sizeOf' hs,run_underlying hxt,Sem.run_pure,Bool.false_eq_true,if_false,hn,Bool.not_false,if_true,Sem.run_ite]
    cases base<;>rfl)
theorem append_eq_zeros {st xt ty e:TypeId} {sz:Nat} {k k':IntKind} {l:Int} {i:TypeInfo} {base:Option Addr} {sLen sCap:Nat} (hst:P.underlying st=some (.slice e)) (hi:P.info? e=some i) (hs:i.size=sz)
  (hxt:P.underlying xt=some (.int k)) (h0:0≤l) (h1:l≤1099511627776) (hb:l.toNat*i.bytes≤1099511627776) (w:World):
  (Builtin.append_ #[st,xt] ty #[.slice base sLen sCap,.int k' l]).run P w=
   (appendCore e sz true l.toNat base sLen sCap (.int k' l) (if l.toNat*sz=0 then pure #[] else do pure (Builtin.zeroCells (←zeroValue e).cells l.toNat))).run P w:=by
 have hs':szOf P e=some sz:=by simp[szOf,hi,hs]
 have w1:IntKind.i64.wrap l=l:=IntWalk.i64_in _ (by omega)
 have hb':¬(l*(i.bytes:Int)>2^48):=by
  have:l*(i.bytes:Int)=((l.toNat*i.bytes:Nat):Int):=by rw[Int.natCast_mul,Int.toNat_of_nonneg h0]
  omega
 have hl0:¬(l<0):=by omega
 unfold Builtin.append_ appendCore
 simp only[List.getElem?_toArray,List.getElem?_cons_zero,List.getElem?_cons_succ,Sem.run_bind,run_underlying hst,Result.andThen_ok,run_sizeOf' hs',run_underlying hxt,Sem.run_pure,if_true,asInt,asIntOf,w1,hl0,if_false,typeInfo,run_program,hi,hb',Bool.not_true,Bool.false_eq_true,Sem.run_ite]
 cases base<;>rfl
theorem core_room {e:TypeId} {sz n sLen sCap:Nat} {zeros:Bool} {x:Value} {A:Sem (Array Value)} {a:Addr} {us:List Value} (hA:A.run P w=.ok us.toArray w) (hr:sLen+n≤sCap):
  (appendCore e sz zeros n (some a) sLen sCap x A).run P w=((storeCells (a.add (sLen*sz)) us 0).run P w).andThen fun _ w'=>.ok (.slice (some a) (sLen+n) sCap) w':=by
 unfold appendCore
 rw[if_pos hr]
 simp only[Sem.run_bind,hA,Result.andThen_ok,Sem.run_pure]
theorem core_nil {e:TypeId} {sz:Nat} {zeros:Bool} {x:Value} {A:Sem (Array Value)} {us:Array Value} (hA:A.run P w=.ok us w):
  (appendCore e sz zeros 0 none 0 0 x A).run P w=.ok (.slice none 0 0) w:=by
 unfold appendCore
 rw[if_pos (by omega)]
 simp only[Sem.run_bind,hA,Result.andThen_ok,Sem.run_pure]
theorem core_grow {e:TypeId} {sz n sLen sCap:Nat} {zeros:Bool} {x:Value} {A:Sem (Array Value)} {base:Option Addr} {us os:List Value} {i:TypeInfo} {z:Value} (hi:P.info? e=some i) (hz:i.zero=some z) (hb0:0<i.bytes∨True)
  (hA:∀w2:World,(∀a,w2.cell? a=w.cell? a)→A.run P w2=.ok us.toArray w2) (hO:∀w2:World,(∀a,w2.cell? a=w.cell? a)→(Builtin.firstCells sz sLen (.slice base sLen sCap)).run P w2=.ok os.toArray w2)
  (hr:sCap<sLen+n) (h40:sLen+n≤1099511627776) (hby:(sLen+n)*i.bytes≤1099511627776):
  (appendCore e sz zeros n base sLen sCap x A).run P w=
   .ok (.slice (some ⟨w.heap.size,0,none⟩) (sLen+n) (grownCap w (sLen+n) sCap e))
    (w.drew.alloc (.cells (os.toArray++us.toArray++Builtin.zeroCells z.cells (grownCap w (sLen+n) sCap e-(sLen+n))) e)):=by
 have h63:¬(((sLen+n:Nat):Int)>IntKind.i64.max∧(zeros=true∨i.bytes=0)):=by
  simp only[IntKind.max,IntKind.bits,IntKind.signed];omega
 have h48:¬(Builtin.nextslicecap (sLen+n) sCap*i.bytes>2^48):=by
  have:=growslice_fits (bytes:=i.bytes) hr (by omega)
  omega
 unfold appendCore
 rw[if_neg (by omega)]
 have hA':=hA w.drew (fun a=>rfl)
 have hO':=hO w.drew (fun a=>rfl)
 simp only[Sem.run_bind,typeInfo,run_program,Result.andThen_ok,hi,Sem.run_pure,Sem.run_ite]
 rw[if_neg h63,if_neg h48]
 simp only[Sem.run_pure,Result.andThen_ok,run_choose,Question.forced,Bool.false_eq_true,if_false,World.drew_eq,run_askRoom,hO',hA',run_zeroValue' hi hz]
 simp[newRow,grownCap]
 rfl
theorem zeroCells_rel {z:NVal} {rz:Value} (hz:VR ι z rz) {sz:Nat} (hl:z.cells.length=sz) (h0:0<sz) (n:Nat):VRs ι (repeatCells z.cells n) (Builtin.zeroCells rz.cells n).toList:=by
 have hlc:z.cells.length=rz.cells.size:=by simpa using hz.cells.length
 exact repeat_rel hz (by omega) n (k:=n*rz.cells.size) (by rw[hlc])
theorem Inv.regrow (I:Inv w0 ι h w) {b:Nat} {cs vs:List NVal} {us:List Value} {t:Option (TypeId×Nat)} (hb:h.get b=some (.cells cs (.own t))) {rb s m o k:Nat} {e0:TypeId} (hι:ι b=some (rb,s,m)) (hu:VRs ι vs us) (h1v:allOne vs=true)
  (hk:o+k≤cs.length) (hl:o+k+vs.length≤m):
  ∃w',(storeCells ⟨rb,s+(o+k),none⟩ us 0).run P w=.ok () w'∧
   Inv w0 (ι.upd h.next (rb,s+o,m-o)) ((h.set b .dead).alloc (.cells ((cs.drop o).take k++vs) (.own (regrown o e0 t)))) w'∧
   Step ι h w (ι.upd h.next (rb,s+o,m-o)) ((h.set b .dead).alloc (.cells ((cs.drop o).take k++vs) (.own (regrown o e0 t)))) w':=by
 obtain⟨rb1,s1,m1,c,e,fz,q1,q2,q3,q4,q5,q6,q7⟩:=I.cells b cs hb
 rw[hι] at q1;cases q1
 have hlen:=hu.length
 have hrun:=run_storeCells_fz P rb (s+(o+k)) e fz us 0 c w q3 q6 (by omega) (allOne_sound h1v hu)
 simp only[Nat.add_zero] at hrun
 have hblt:=NHeap.get_lt hb
 have hle:ι.le (ι.upd h.next (rb,s+o,m-o)):=Inj.le_upd _ I.next_none
 have hcs:((c.toList.take (s+(o+k))++us++c.toList.drop (s+(o+k)+us.length)).toArray).size=c.size:=seg_size (by omega)
 have hnew:=setRow_heap w rb c (c.toList.take (s+(o+k))++us++c.toList.drop (s+(o+k)+us.length)).toArray e fz q3
 have hother:=fun k' hk'=>setRow_other w rb k' (c.toList.take (s+(o+k))++us++c.toList.drop (s+(o+k)+us.length)).toArray hk'
 have get:∀{b' ob'},((h.set b .dead).alloc (.cells ((cs.drop o).take k++vs) (.own (regrown o e0 t)))).get b'=some ob'→(b'=h.next∧ob'=.cells ((cs.drop o).take k++vs) (.own (regrown o e0 t)))∨(b'=b∧ob'=.dead)∨(b'≠h.next∧b'≠b∧h.get b'=some ob'):=by
  intro b' ob' q
  rw[NHeap.get_alloc] at q
  split at q
  ·rename_i hh;cases q;exact .inl ⟨hh,rfl⟩
  ·rename_i hh
   rw[NHeap.get_set] at q
   split at q
   ·rename_i hh';cases q;exact .inr (.inl ⟨hh'.1,rfl⟩)
   ·rename_i hh';exact .inr (.inr ⟨hh,fun q'=>hh' ⟨q',hblt⟩,q⟩)
 have ne_of:∀{b' ob' rb' s' m'},b'≠b→h.get b'=some ob'→ob'.owned=true→ι b'=some (rb',s',m')→rb'≠rb:=by
  intro b' ob' rb' s' m' hne hg how hi q
  subst q
  exact hne (I.inj b' b ob' _ rb' s' s m' m hg how hb rfl hi hι)
 refine⟨_,hrun,⟨I.below.trans ⟨rfl,rfl,rfl,by simp,fun k' hk'=>hother k' (by omega)⟩,?_,?_,?_,?_,?_,?_⟩,⟨hle,?_,by simp,?_,?_,by simp⟩⟩
 ·intro b' x q
  by_cases hb':b'=h.next
  ·subst hb';simp
  ·rw[Inj.upd_ne _ _ hb'] at q;have:=I.fresh b' x q;simp;omega
 ·intro b' ds t' q
  rcases get q with⟨rfl,q'⟩|⟨rfl,q'⟩|⟨hn,hne,q'⟩
  ·cases q'
   refine⟨rb,s+o,m-o,_,e,fz,by simp,q2,hnew,by omega,by simp;omega,fun i hi=>q6 i (by omega),fun i v hi=>?_⟩
   rw[List.getElem?_toArray]
   have lt':(c.toList.take (s+(o+k))).length=s+(o+k):=by simp;omega
   have ltk:((cs.drop o).take k).length=k:=by simp;omega
   by_cases hik:i<k
   ·rw[List.getElem?_append_left (by omega),List.getElem?_take,if_pos hik,List.getElem?_drop] at hi
    obtain⟨r,hr,hv⟩:=q7 (o+i) v hi
    refine⟨r,?_,hv.mono hle⟩
    rw[List.getElem?_append_left (by simp;omega),List.getElem?_append_left (by omega),List.getElem?_take,if_pos (by omega)]
    rw[show s+o+i=s+(o+i) by omega];simpa using hr
   ·rw[List.getElem?_append_right (by omega),ltk] at hi
    obtain⟨r,hr,hv⟩:=hu.get hi
    have hlt:i-k<us.length:=(List.getElem?_eq_some_iff.1 hr).1
    refine⟨r,?_,hv.mono hle⟩
    rw[List.getElem?_append_left (by simp;omega),List.getElem?_append_right (by omega),lt']
    rw[show s+o+i-(s+(o+k))=i-k by omega];exact hr
  ·cases q'
  ·obtain⟨rb',s',m',c2,e2,fz2,h1,h2,h3,h4,h5,h6,h7⟩:=I.cells b' ds q'
   exact⟨rb',s',m',c2,e2,fz2,by rw[Inj.upd_ne _ _ hn];exact h1,h2,by rw[hother rb' (ne_of hne q' rfl h1)];exact h3,h4,h5,h6,fun i v hi=>by
    obtain⟨r,hr,hv⟩:=h7 i v hi;exact⟨r,hr,hv.mono hle⟩⟩
 ·intro b' ds T k1 q
  rcases get q with⟨rfl,q'⟩|⟨rfl,q'⟩|⟨hn,hne,q'⟩
  ·injection q' with q1' q2'
   injection q2' with q2'
   have q2'':=q2'.symm
   unfold regrown at q2''
   split at q2''
   ·rename_i hc
    obtain⟨rfl,rfl⟩:=hc
    cases q2''
    obtain⟨rb2,c2,h1,h2,h3⟩:=I.typed b cs e0 0 hb
    rw[hι] at h1;cases h1
    rw[q3] at h2;cases h2
    exact⟨rb,_,by rw[Inj.upd_same,hcs];rfl,hnew,.inl rfl,fun _ i r hr=>(seg_one (allOne_sound h1v hu) i r hr).elim (h3.2 rfl i r) id⟩
   ·cases q2''
  ·cases q'
  ·obtain⟨rb',c2,h1,h2,h3⟩:=I.typed b' ds T k1 q'
   exact⟨rb',c2,by rw[Inj.upd_ne _ _ hn];exact h1,by rw[hother rb' (ne_of hne q' rfl h1)];exact h2,h3⟩
 ·intro b' ds q
  rcases get q with⟨rfl,q'⟩|⟨rfl,q'⟩|⟨hn,hne,q'⟩
  ·cases q'
  ·cases q'
  ·obtain⟨rb',s',m',h1,h2⟩:=I.ro b' ds q'
   exact⟨rb',s',m',by rw[Inj.upd_ne _ _ hn];exact h1,fun i v hi=>by obtain⟨r,hr,hv⟩:=h2 i v hi;exact⟨r,hr,hv.mono hle⟩⟩
 ·intro b' es q
  rcases get q with⟨rfl,q'⟩|⟨rfl,q'⟩|⟨hn,hne,q'⟩
  ·cases q'
  ·cases q'
  ·obtain⟨rb',s',m',ents,k',h1,h2,h3,h4⟩:=I.maps b' es q'
   exact⟨rb',s',m',ents,k',by rw[Inj.upd_ne _ _ hn];exact h1,h2,by rw[hother rb' (ne_of hne q' rfl h1)];exact h3,h4.imp fun _ _ ⟨a,b⟩=>⟨a.mono hle,b.mono hle⟩⟩
 ·intro b1 b2 o1 o2 rb' s1 s2 m1 m2 g1 w1 g2 w2 i1 i2
  rcases get g1 with⟨rfl,p1⟩|⟨rfl,p1⟩|⟨hn1,hne1,p1⟩
  ·rcases get g2 with⟨rfl,p2⟩|⟨rfl,p2⟩|⟨hn2,hne2,p2⟩
   ·rfl
   ·subst p2;simp[NObj.owned] at w2
   ·rw[Inj.upd_same] at i1;cases i1;rw[Inj.upd_ne _ _ hn2] at i2
    exact absurd rfl (ne_of hne2 p2 w2 i2)
  ·subst p1;simp[NObj.owned] at w1
  ·rcases get g2 with⟨rfl,p2⟩|⟨rfl,p2⟩|⟨hn2,hne2,p2⟩
   ·rw[Inj.upd_same] at i2;cases i2;rw[Inj.upd_ne _ _ hn1] at i1
    exact absurd rfl (ne_of hne1 p1 w1 i1)
   ·subst p2;simp[NObj.owned] at w2
   ·rw[Inj.upd_ne _ _ hn1] at i1;rw[Inj.upd_ne _ _ hn2] at i2
    exact I.inj b1 b2 o1 o2 rb' s1 s2 m1 m2 p1 w1 p2 w2 i1 i2
 ·intro b' x q
  by_cases hb':b'=h.next
  ·exact .inr (by omega)
  ·rw[Inj.upd_ne _ _ hb'] at q;exact .inl q
 ·intro k' hk' hno
  exact hother k' (fun q=>hno (by subst q;exact⟨b,_,s,m,hb,rfl,hι⟩))
 ·rintro k' ⟨b',ob',s',m',g,ho,hi⟩
  rcases get g with⟨rfl,p⟩|⟨rfl,p⟩|⟨hn,hne,p⟩
  ·rw[Inj.upd_same] at hi;cases hi;exact .inl ⟨b,_,s,m,hb,rfl,hι⟩
  ·subst p;simp[NObj.owned] at ho
  ·rw[Inj.upd_ne _ _ hn] at hi;exact .inl ⟨b',ob',s',m',p,ho,hi⟩
end Go.Proofs.YtkjpldganajkkaaGreatDoor.NICE
