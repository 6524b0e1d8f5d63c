/-
  TreeA to TreeQ, as one text. Proved step by step; no conditions beside what is said.
-/
import Derived.Test.YtkjpldganajkkaaGreatDoorQ14
set_option linter.unusedSimpArgs false
set_option linter.unusedVariables false
set_option linter.unusedSectionVars false
set_option maxRecDepth 100000
namespace Go.Proofs.YtkjpldganajkkaaGreatDoor.S
open Go Go.RowKit Go.Proofs.YtkjpldganajkkaaGreatDoor.NICE
namespace tree
open word pack mir node mem get made
theorem rows_cell {α:Type} {f:α→List NVal} {k:Nat} (hf:∀a,(f a).length=k) {L:List α} {n:Nat} {x:α} (h:L[n]? =some x) {j:Nat} (hj:j<k):(rows f L)[n*k+j]? =(f x)[j]? :=by
 rw[arena.rows_split f L n x h]
 have hl:(rows f (L.take n)).length=n*k:=by
  rw[rows_len hf,List.length_take,Nat.min_eq_left]
  exact Nat.le_of_lt (List.getElem?_eq_some_iff.1 h).1
 rw[List.getElem?_append_right (by omega),hl,Nat.add_sub_cancel_left,List.getElem?_append_left (by rw[hf];exact hj)]
theorem rows_setR {α:Type} {f:α→List NVal} {k:Nat} (hf:∀a,(f a).length=k) {L:List α} {n:Nat} {x x':α} (h:L[n]? =some x) {j:Nat} {vs:List NVal} (hx:setRange (f x) j vs=f x') (hj:j+vs.length≤k):setRange (rows f L) (n*k+j) vs=rows f (L.set n x'):=by
 have hn:=(List.getElem?_eq_some_iff.1 h).1
 have hs:rows f (L.set n x')=rows f (L.take n)++(f x'++rows f (L.drop (n+1))):=by
  rw[arena.rows_split f (L.set n x') n x' (by rw[List.getElem?_set_self hn]),List.take_set_of_le (Nat.le_refl _),List.drop_set_of_lt (Nat.lt_succ_self _)]
 rw[hs,arena.rows_split f L n x h,←hx]
 have hl:(rows f (L.take n)).length=n*k:=by rw[rows_len hf,List.length_take,Nat.min_eq_left (Nat.le_of_lt hn)]
 have hlx:=hf x
 unfold setRange
 rw[List.take_append,hl,List.take_of_length_le (by omega),Nat.add_sub_cancel_left,List.take_append_of_le_length (by omega),List.drop_append,hl,List.drop_of_length_le (by omega)]
 have e1:n*k+j+vs.length-n*k=j+vs.length:=by omega
 rw[e1,List.drop_append_of_le_length (by omega)]
 simp only[List.nil_append,List.append_assoc]
theorem VecK.heap {h h':NHeap} {col:Nat→Nat} {k c:Nat} {v n cs} (r:VecK ⟨h,col⟩ k c v n cs) {fp:List Nat} (u:Upd fp h h') (hd:∀d∈blk v,d∉fp):VecK ⟨h',col⟩ k c v n cs:=by
 rcases r with r|⟨b,cap,x,q,all,h1,h2,h3,h4⟩
 ·exact .inl r
 ·exact .inr ⟨b,cap,x,q,all,h1,h2,u.get h3 (hd b (by simp[h1,blk])),h4⟩
theorem VecK.recol {h:NHeap} {col col':Nat→Nat} {k c:Nat} {v n cs} (r:VecK ⟨h,col⟩ k c v n cs) (hc:∀d∈blk v,col' d=col d):VecK ⟨h,col'⟩ k c v n cs:=by
 rcases r with r|⟨b,cap,x,q,all,h1,h2,h3,h4,h5⟩
 ·exact .inl r
 ·exact .inr ⟨b,cap,x,q,all,h1,h2,h3,(hc b (by simp[h1,blk])).trans h4,h5⟩
abbrev evC (e:EvS×NVal):List NVal:=[.int .i64 e.1.kind,.int .i64 e.1.client,.int .i64 e.1.op.kind,.str e.1.op.term,.str e.1.op.to,.int .i64 e.1.op.value,.int .i64 e.1.ans.err,.bool e.1.ans.found,.int .i64 e.1.ans.value,e.2]
abbrev dnC (d:DnS×NVal):List NVal:=[.int .i64 d.1.client,.int .i64 d.1.begin_,.int .i64 d.1.op.kind,.str d.1.op.term,.str d.1.op.to,.int .i64 d.1.op.value,.int .i64 d.1.ans.err,.bool d.1.ans.found,.int .i64 d.1.ans.value,d.2]
structure CX where
 s:ClS
 ov:NVal
 b:Nat
 bz:Bool
def prV (p:Option ProgS) (b:Nat):List NVal:=match p with
 |none=>noProg
 |some p=>progV p b
theorem prV_len (p b):(prV p b).length=4:=by cases p<;>rfl
def clC (x:CX):List NVal:=[x.ov,.int .i64 (x.s.begun:Nat),.bool x.bz]++prV x.s.prog x.b++[.int .i64 (x.s.from_:Nat),.int .i64 x.s.done]
theorem clC_len (x:CX):(clC x).length=9:=by simp[clC,prV_len]
structure Cfg where
 a:Int
 b:Int
 d:Int
 e:Int
 f:Int
abbrev treeC (s:Cfg) (mv cv ev dv:NVal) (t:TreeS):List NVal:=[.int .i64 s.a,.int .i64 s.b,.int .i64 s.d,.int .i64 s.e,.int .i64 s.f,.int .i64 t.m.clients,.int .i64 t.limbo,.int .i64 t.tries,mv,cv,ev,dv,.int .i64 t.faults]
structure ClOk (G:Gh) (c n:Nat) (t:TreeS) (i:Nat) (x:CX):Prop where
 ov:Fz G 4 x.ov x.s.ops.length (rows opV x.s.ops)
 ops:∀o∈x.s.ops,okOp o t.tries t.m.clients=true∧o.term.length<2^26
 len:x.s.ops.length<2^30
 beg:x.s.begun≤x.s.ops.length
 from_:x.s.prog≠none→x.s.from_<t.events.length
 done:x.s.prog≠none→-1≤x.s.done∧x.s.done<t.dones.length
 bz:x.bz=x.s.prog.isSome
 prog:∀p,x.s.prog=some p→ProgAt G (c+21+i) x.b n p
def Lst (G:Gh) (av:NVal) (a:Ans):Prop:=Fz G 2 av a.list.length (rows scan.enC a.list)∧a.list.length<2^28
theorem Lst.step {lo hi:Nat} {G G':Gh} (S:Stp lo hi G G') (h0:0<lo) {av:NVal} {a:Ans} (l:Lst G av a):Lst G' av a:=⟨l.1.step S h0,l.2⟩
structure TC (G:Gh) (c tb:Nat) (q:Option (TypeId×Nat)) (s:Cfg) (mv ev dv:NVal) (cb:Nat) (cq:Option (TypeId×Nat)) (cx:List CX) (es:List (EvS×NVal)) (ds:List (DnS×NVal)) (t:TreeS):Prop where
 gt:G.h.get tb=some (.cells (treeC s mv (.slice (some (cb,0)) cx.length cx.length none) ev dv t) (.own q))
 ct:G.col tb=c+17
 gc:G.h.get cb=some (.cells (rows clC cx) (.own cq))
 cc:G.col cb=c+18
 ev:VecK G 10 (c+19) ev es.length (rows evC es)
 dv:VecK G 10 (c+20) dv ds.length (rows dnC ds)
 c8:cx.length≤8
 mp:∃mb,mv=.ptr (some (mb,0))
 el:es.length<2^28
 dl:ds.length<2^28
 ea:∀e∈es,e.2.one=true
 da:∀d∈ds,d.2.one=true
structure TreeAt (G:Gh) (c tb:Nat) (q:Option (TypeId×Nat)) (s:Cfg) (mv ev dv:NVal) (cb:Nat) (cq:Option (TypeId×Nat)) (cx:List CX) (es:List (EvS×NVal)) (ds:List (DnS×NVal)) (n:Nat) (t:TreeS):Prop where
 tc:TC G c tb q s mv ev dv cb cq cx es ds t
 m:MemRep G c mv t.m
 cls:cx.map (·.s)=t.cls
 evs:es.map (·.1)=t.events
 dns:ds.map (·.1)=t.dones
 el:∀e∈es,Lst G e.2 e.1.ans
 dl:∀d∈ds,Lst G d.2 d.1.ans
 cl:∀i x,cx[i]? =some x→ClOk G c n t i x
 cn:t.m.clients=cx.length
 eb:t.events.length≤3*n
 db:t.dones.length≤3*n
 fb:0≤t.faults∧t.faults≤n
 tr:1≤t.tries
 lm:0≤t.limbo∧t.limbo≤64
end tree
end Go.Proofs.YtkjpldganajkkaaGreatDoor.S
namespace Go.Proofs.YtkjpldganajkkaaGreatDoor.NICE
open Go Go.RowKit
variable {P:Program} {E:Env P drStatic}
def afterOf (l:List Oper) (i:Nat):List Edge:=match l[i]? with|some o=>o.after.toList|none=>[]
def chainB (l:List Oper):Nat→Nat→Nat→List Edge→Bool
 |0,_,_,_=>false
 |_+1,_,_,[]=>false
 |n+1,i,j,e::es=>(gEdge e&&(e.on==j||(decide (e.on<i)&&chainB l n e.on j (afterOf l e.on))))||chainB l n i j es
theorem chain_bit' {l:List Oper}:∀(n i j:Nat) (es:List Edge) (o:Oper),l[i]? =some o→(∀e∈es,e∈o.after.toList)→chainB l n i j es=true→((masksOf l).getD i 0).testBit j=true
 |0,i,j,es,o,ho,hs,h=>by simp[chainB] at h
 |n+1,i,j,[],o,ho,hs,h=>by simp[chainB] at h
 |n+1,i,j,e::es,o,ho,hs,h=>by
  unfold chainB at h
  rw[Bool.or_eq_true] at h
  rcases h with h|h
  ·rw[Bool.and_eq_true,Bool.or_eq_true] at h
   obtain⟨hg,h⟩:=h
   rw[masks_at' ho]
   unfold maskOf
   refine mask_over _ j _ 0 e (hs e (by simp)) (by rw[←gEdge_binds];exact hg) ?_
   rcases h with h|h
   ·exact .inl (by simpa using h)
   ·rw[Bool.and_eq_true] at h
    have hlt:e.on<i:=by simpa using h.1
    refine .inr ?_
    rw[masks_take _ hlt]
    have hil:=(List.getElem?_eq_some_iff.1 ho).1
    have he:l[e.on]? =some l[e.on]:=List.getElem?_eq_getElem (by omega)
    exact chain_bit' n e.on j _ l[e.on] he (fun x hx=>by unfold afterOf at hx;rw[he] at hx;exact hx) h.2
  ·exact chain_bit' n i j es o ho (fun x hx=>hs x (by simp[hx])) h
theorem chain_bit {l:List Oper} {n i j:Nat} {o:Oper} (ho:l[i]? =some o) (h:chainB l n i j o.after.toList=true):((masksOf l).getD i 0).testBit j=true:=chain_bit' n i j _ o ho (fun _ h=>h) h
open Classical in
noncomputable def seqY (E:Env P drStatic) (ops:Array Oper):List Oper→Nat→List NVal→NHeap→List NHeap→List Nat→List Nat→RdL→List Float3→Nat→Option (List NVal×NHeap)
 |[],i,ts,h,hs,ei,tl,rd,pend,nid=>some (ts,adoptAll h pend)
 |o::rest,i,ts,h,hs,ei,tl,rd,pend,nid=>match nwanted ops o ts with
  |none=>none
  |some false=>seqY E ops rest (i+1) (nput ts o.dst nundef) h hs ei (tl++[tieOf tl 4 o.after.toList]) rd pend nid
  |some true=>match eStep P (ev ts) h o.op with
   |some (false,v)=>seqY E ops rest (i+1) (nput ts o.dst v) h hs ei (tl++[tieOf tl 4 o.after.toList]) rd pend nid
   |some (true,v)=>if veq 50 v v=true∧∀H∈hs.drop (tieOf tl 4 o.after.toList),readOp P (ev ts) H o.op=some v then seqY E ops rest (i+1) (nput ts o.dst v) h hs ei (tl++[tieOf tl 4 o.after.toList]) (rd++[(i,o,ts,v)]) pend nid else none
   |none=>match floats (newOp P (ev ts) o.op) with
    |some (cs,mk)=>seqY E ops rest (i+1) (nput ts o.dst (mk nid)) h hs ei (tl++[tieOf tl 4 o.after.toList]) rd (pend++[(i,nid,cs)]) (nid+1)
    |none=>if ei.length≤tieOf tl 4 o.after.toList∧allEdge o.after.toList (pend.map (·.1))=true then
      match doOp P (K E) (ev ts) o (adoptAll h pend) with
      |none=>none
      |some (v,h')=>if(adoptAll h pend).next≤h'.next∧∀r∈loose o.after.toList rd,chainB ops.toList 9 i r.1 o.after.toList=true∨readOp P (ev r.2.2.1) h' r.2.1.op=some r.2.2.2 then
        seqY E ops rest (i+1) (nput ts o.dst v) h' (hs++[h]) (ei++[i]) (tl++[ei.length+1]) (loose o.after.toList rd) [] nid else none
     else none
theorem seqY_run {ops:Array Oper}:∀{l:List Oper} {i:Nat} {st:St} {hs:List NHeap} {tl:List Nat} {rd:RdL} {r:List NVal×NHeap},
  (∀k o,l[k]? =some o→ops.toList[i+k]? =some o)→st.hs.length=st.ei.length+1→st.hs[st.ei.length]? =some st.h→(∀x∈st.reads,ReadOk P (masksOf ops.toList) st x)→
  (∀x∈st.reads,x∈rd∨∃(q k:Nat),st.ei[q]? =some k∧((masksOf ops.toList).getD k 0).testBit x.1=true)→
  st.hs=hs++[st.h]→TieOk (masksOf ops.toList) st.ei tl i→
  seqY E ops l i st.ts st.h hs st.ei tl rd st.pend st.nid=some r→
  ∃st',runE P (K E) ops (masksOf ops.toList) i l st=some st'∧r=(st'.ts,adoptAll st'.h st'.pend)∧(∀x∈st'.reads,ReadOk P (masksOf ops.toList) st' x)∧st'.hs.length=st'.ei.length+1∧st'.nid≤st.nid+rowsIn l
 |[],i,st,hs,tl,rd,r,hops,h1,h2,h3,h4,h5,h6,e=>by
  simp only[seqY,Option.some.injEq] at e
  exact⟨st,rfl,e.symm,h3,h1,Nat.le_add_right _ _⟩
 |o::rest,i,st,hs,tl,rd,r,hops,h1,h2,h3,h4,h5,h6,e=>by
  have ho:ops.toList[i]? =some o:=by simpa using hops 0 o rfl
  have hops':∀k o',rest[k]? =some o'→ops.toList[i+1+k]? =some o':=fun k o' hk=>by
   have:=hops (k+1) o' (by simpa using hk);rwa[show i+(k+1)=i+1+k by omega] at this
  unfold seqY at e
  have same:∀(ts:List NVal) (v:NVal) (c:Cls) x,x∈st.reads→ReadOk P (masksOf ops.toList) {st with ts:=ts,v:=v,c:=c} x:=fun ts v c x hx=>(h3 x hx).step (i:=i) h1 (.inl rfl) ⟨[],by simp⟩
  have h6':=h6.push ho 4
  cases hw:nwanted ops o st.ts with
  |none=>rw[hw] at e;cases e
  |some b=>
   rw[hw] at e
   cases b with
   |false=>
    simp only at e
    obtain⟨st',r1,r2,r3,r4,r5⟩:=seqY_run (i:=i+1) (st:={st with ts:=nput st.ts o.dst nundef,v:=nundef,c:=.skip}) hops' h1 h2 (same _ _ _) h4 h5 h6' e
    exact⟨st',by unfold runE stepE;rw[hw];exact r1,r2,r3,r4,by rw[rowsIn_cons];exact Nat.le_trans r5 (by simp<;>omega)⟩
   |true=>
    simp only at e
    cases hp:pureOp P (ev st.ts) o.op with
    |some v=>
     have he:eStep P (ev st.ts) st.h o.op=some (false,v):=by unfold eStep;rw[hp]
     rw[he] at e
     simp only at e
     obtain⟨st',r1,r2,r3,r4,r5⟩:=seqY_run (i:=i+1) (st:={st with ts:=nput st.ts o.dst v,v:=v,c:=.val}) hops' h1 h2 (same _ _ _) h4 h5 h6' e
     exact⟨st',by unfold runE stepE;rw[hw];simp only;rw[hp];exact r1,r2,r3,r4,by rw[rowsIn_cons];exact Nat.le_trans r5 (by simp<;>omega)⟩
    |none=>
     cases hr:readOp P (ev st.ts) st.h o.op with
     |some v=>
      have he:eStep P (ev st.ts) st.h o.op=some (true,v):=by unfold eStep;rw[hp];simp only;rw[hr]
      rw[he] at e
      simp only at e
      split at e
      case isFalse=>cases e
      case isTrue hc=>
       have hl:hs.length=st.ei.length:=by have:=h1;rw[h5] at this;simpa using this
       have hti:=tie_le h6 4 o.after.toList
       obtain⟨st',r1,r2,r3,r4,r5⟩:=seqY_run (i:=i+1) (st:={st with ts:=nput st.ts o.dst v,v:=v,c:=.val,reads:=st.reads++[(i,o,st.ts,v)]}) (rd:=rd++[(i,o,st.ts,v)]) hops' h1 h2 (fun x hx=>by
        rw[List.mem_append] at hx
        rcases hx with hx|hx
        ·exact(h3 x hx).step (i:=i) h1 (.inl rfl) ⟨[],by simp⟩
        ·rw[List.mem_singleton] at hx
         subst hx
         refine⟨⟨tieOf tl 4 o.after.toList,st.ei.length,hti,Nat.le_refl _,fun k a b=>?_,hc.1,fun q j hq=>⟨fun hlt=>(tie_bit ho h6 hlt hq).1,fun hge=>?_⟩⟩⟩
         ·show∃H,st.hs[k]? =some H∧_
          rcases Nat.lt_or_ge k hs.length with z|z
          ·exact⟨hs[k],by rw[h5,List.getElem?_append_left z];simp[z],hc.2 _ (by
            rw[List.mem_iff_getElem?]
            exact⟨k-tieOf tl 4 o.after.toList,by rw[List.getElem?_drop,show tieOf tl 4 o.after.toList+(k-tieOf tl 4 o.after.toList)=k by omega];exact List.getElem?_eq_getElem z⟩)⟩
          ·refine⟨st.h,?_,hr⟩
           rw[show k=st.ei.length by omega];exact h2
         ·have:=(List.getElem?_eq_some_iff.1 hq).1
          simp only at this;omega) (fun x hx=>by
        rw[List.mem_append] at hx
        rcases hx with hx|hx
        ·rcases h4 x hx with h|h
         ·exact .inl (List.mem_append_left _ h)
         ·exact .inr h
        ·exact .inl (List.mem_append_right _ hx)) h5 h6' e
       exact⟨st',by unfold runE stepE;rw[hw];simp only;rw[hp];simp only;rw[hr];exact r1,r2,r3,r4,by rw[rowsIn_cons];exact Nat.le_trans r5 (by simp<;>omega)⟩
     |none=>
      have he:eStep P (ev st.ts) st.h o.op=none:=by unfold eStep;rw[hp];simp only;rw[hr]
      rw[he] at e
      simp only at e
      cases hf:floats (newOp P (ev st.ts) o.op) with
      |some p=>
       obtain⟨cs,mk⟩:=p
       rw[hf] at e
       simp only at e
       obtain⟨st',r1,r2,r3,r4,r5⟩:=seqY_run (i:=i+1) (st:={st with ts:=nput st.ts o.dst (mk st.nid),v:=mk st.nid,c:=.flt st.nid cs,pend:=st.pend++[(i,st.nid,cs)],nid:=st.nid+1}) hops' h1 h2 (fun x hx=>(h3 x hx).step (i:=i) h1 (.inl rfl) ⟨[],by simp⟩) h4 h5 h6' e
       refine⟨st',by unfold runE stepE;rw[hw];simp only;rw[hp];simp only;rw[hr];simp only;rw[floats_some hf];exact r1,r2,r3,r4,?_⟩
       rw[rowsIn_cons,floats_rows hf]
       exact Nat.le_trans r5 (by simp<;>omega)
      |none=>
       rw[hf] at e
       simp only at e
       split at e
       case isFalse=>cases e
       case isTrue hc=>
        cases hd:doOp P (K E) (ev st.ts) o (adoptAll st.h st.pend) with
        |none=>rw[hd] at e;cases e
        |some q=>
         obtain⟨v,h'⟩:=q
         rw[hd] at e
         simp only at e
         split at e
         case isFalse=>cases e
         case isTrue hnx=>
          have hbit:∀(q k:Nat),st.ei[q]? =some k→((masksOf ops.toList).getD i 0).testBit k=true∧∀b,((masksOf ops.toList).getD k 0).testBit b=true→((masksOf ops.toList).getD i 0).testBit b=true:=fun q k hk=>
           tie_bit ho h6 (n:=4) (by have:=(List.getElem?_eq_some_iff.1 hk).1;omega) hk
          have hall:st.pend.filter (fun x=>((masksOf ops.toList).getD i 0).testBit x.1)=st.pend:=List.filter_eq_self.2 fun x hx=>edge_bit ho (allEdge_mem hc.2 x.1 (List.mem_map_of_mem hx))
          have hnone:st.pend.filter (fun x=>!((masksOf ops.toList).getD i 0).testBit x.1)=[]:=List.filter_eq_nil_iff.2 fun x hx=>by rw[edge_bit ho (allEdge_mem hc.2 x.1 (List.mem_map_of_mem hx))];simp
          have hei:st.ei.all (fun j=>((masksOf ops.toList).getD i 0).testBit j)=true:=List.all_eq_true.2 fun j hj=>by
           obtain⟨q,hq⟩:=List.mem_iff_getElem?.1 hj
           exact(hbit q j hq).1
          have tied:∀x∈st.reads,((masksOf ops.toList).getD i 0).testBit x.1=true∨x∈loose o.after.toList rd:=fun x hx=>by
           rcases h4 x hx with h|⟨q,k,h,h'⟩
           ·by_cases hb:edgeB x.1 o.after.toList=true
            ·exact .inl (edge_bit ho hb)
            ·exact .inr (List.mem_filter.2 ⟨h,by simpa using hb⟩)
           ·exact .inl ((hbit q k h).2 _ h')
          obtain⟨st',r1,r2,r3,r4,r5⟩:=seqY_run (i:=i+1) (st:={st with ts:=nput st.ts o.dst v,h:=h',hs:=st.hs++[h'],ls:=st.ls++[st.pend],ei:=st.ei++[i],pend:=[],v:=v,c:=.eff (st.ei.length+1)}) (rd:=loose o.after.toList rd) hops' (by simp[h1]) (by simp only[List.length_append,List.length_singleton];rw[List.getElem?_append_right (by omega)];simp[h1])
           (fun x hx=>(h3 x hx).next h1 (st':={st with ts:=nput st.ts o.dst v,h:=h',hs:=st.hs++[h'],ls:=st.ls++[st.pend],ei:=st.ei++[i],pend:=[],v:=v,c:=.eff (st.ei.length+1)}) (i:=i) rfl rfl (fun q k hk b hb=>(hbit q k hk).2 b hb) ((tied x hx).elim .inl (fun h=>(hnx.2 x h).imp (fun c=>chain_bit ho c) id)))
           (fun x hx=>by
            rcases tied x hx with h|h
            ·exact .inr ⟨st.ei.length,i,by simp,h⟩
            ·exact .inl h)
           (by rw[h5]) (h6.eff ho 4 hc.1) e
          refine⟨st',?_,r2,r3,r4,by rw[rowsIn_cons];exact Nat.le_trans r5 (by simp<;>omega)⟩
          have hse:stepE P (K E) ops (masksOf ops.toList) i o st=some {st with ts:=nput st.ts o.dst v,h:=h',hs:=st.hs++[h'],ls:=st.ls++[st.pend],ei:=st.ei++[i],pend:=[],v:=v,c:=.eff (st.ei.length+1)}:=by
           unfold stepE
           rw[hw];simp only;rw[hp];simp only;rw[hr];simp only
           have hfn:=floats_none hf
           split
           ·rename_i cs mk heq;exact absurd heq (hfn cs mk)
           ·simp only[hall,hnone,hd,hei]
            rw[if_pos (by simpa using hnx.1)]
          unfold runE
          rw[hse]
          exact r1
theorem drawn_Y {ops:Array Oper} {ts:List NVal} {h:NHeap} {r:List NVal×NHeap} (e:seqY E ops ops.toList 0 ts (reserve (rowsIn ops.toList) h) [] [] [] [] [] h.next=some r):drawnOps P (K E) ops ts h=some r:=by
 obtain⟨st',r1,r2,r3,r4,r5⟩:=seqY_run (E:=E) (l:=ops.toList) (i:=0) (st:={ts:=ts,h:=reserve (rowsIn ops.toList) h,hs:=[reserve (rowsIn ops.toList) h],ls:=[],ei:=[],pend:=[],nid:=h.next,reads:=[],v:=nundef,c:=.skip}) (rd:=[]) (fun k o hk=>by simpa using hk) rfl rfl (fun x hx=>by cases hx) (fun x hx=>by cases hx) (hs:=[]) (tl:=[]) rfl ⟨rfl,fun j t hj=>by simp at hj⟩ e
 unfold drawnOps
 simp only[←rowsIn_eq]
 rw[r1]
 simp only
 have hreads:(st'.reads.all fun r=>readAgain P (masksOf ops.toList) st'.ei r 0 st'.hs)=true:=List.all_eq_true.2 fun x hx=>readAgain_of (r3 x hx) st'.hs 0 (fun q H hq=>by simpa using hq) (by omega)
 simp only at r5
 rw[if_pos (by simp[hreads,r5]),r2]
theorem S_drawY (id ops ts h):C E (.region id ops true) ts h=drawL E ops ts h (seqY E ops ops.toList 0 ts (reserve (rowsIn ops.toList) h) [] [] [] [] [] h.next):=by
 rw[C_draw]
 unfold drawL
 split
 ·rename_i ts' h' e
  rw[drawn_Y e];rfl
 ·rfl
section
variable (E) (ops:Array Oper) (o:Oper) (rest:List Oper) (i:Nat) (ts:List NVal) (h:NHeap) (hs:List NHeap) (ei tl:List Nat) (rd:RdL) (pend:List Float3) (nid:Nat)
def looseY (P:Program) (l:List Oper) (i:Nat) (es:List Edge) (h':NHeap):RdL→Prop
 |[]=>True
 |r::rd=>(chainB l 9 i r.1 es=true∨readOp P (ev r.2.2.1) h' r.2.1.op=some r.2.2.2)∧looseY P l i es h' rd
theorem looseY_iff {P:Program} {l:List Oper} {i:Nat} {es:List Edge} {h':NHeap}:∀(rd:RdL),looseY P l i es h' rd↔∀r∈rd,chainB l 9 i r.1 es=true∨readOp P (ev r.2.2.1) h' r.2.1.op=some r.2.2.2
 |[]=>by simp[looseY]
 |r::rd=>by simp[looseY,looseY_iff rd]
theorem looseY_nil {P:Program} {l:List Oper} {i:Nat} {es:List Edge} {h':NHeap}:looseY P l i es h' []=True:=rfl
theorem looseY_cons {P:Program} {l:List Oper} {i:Nat} {es:List Edge} {h':NHeap} (j:Nat) (dst op ty pos after guard) (us:List NVal) (v:NVal) (rd:RdL):looseY P l i es h' ((j,⟨dst,op,ty,pos,after,guard⟩,us,v)::rd)=((chainB l 9 i j es=true∨readOp P (ev us) h' op=some v)∧looseY P l i es h' rd):=rfl
open Classical in
noncomputable def yAgain (v:NVal) (b:Bool) (p:Prop):Option (List NVal×NHeap):=if b=true∧p then seqY E ops rest (i+1) (nput ts o.dst v) h hs ei (tl++[tieOf tl 4 o.after.toList]) (rd++[(i,o,ts,v)]) pend nid else none
open Classical in
noncomputable def yEnd (v:NVal) (h':NHeap) (p q:Prop):Option (List NVal×NHeap):=if p∧q then seqY E ops rest (i+1) (nput ts o.dst v) h' (hs++[h]) (ei++[i]) (tl++[ei.length+1]) (loose o.after.toList rd) [] nid else none
noncomputable def yDo (n:Nat) (x:Option (NVal×NHeap)):Option (List NVal×NHeap):=match x with
 |none=>none
 |some (v,h')=>yEnd E ops o rest i ts h hs ei tl rd nid v h' (n≤h'.next) (looseY P ops.toList i o.after.toList h' (loose o.after.toList rd))
noncomputable def yChk (b c:Bool):Option (List NVal×NHeap):=if b=true∧c=true then yDo E ops o rest i ts h hs ei tl rd nid (adoptAll h pend).next (doK P (K E) (ev ts) o.op (adoptAll h pend)) else none
noncomputable def yNew (x:Option (List NVal×(Nat→NVal))):Option (List NVal×NHeap):=match x with
 |some (cs,mk)=>seqY E ops rest (i+1) (nput ts o.dst (mk nid)) h hs ei (tl++[tieOf tl 4 o.after.toList]) rd (pend++[(i,nid,cs)]) (nid+1)
 |none=>yChk E ops o rest i ts h hs ei tl rd pend nid (decide (ei.length≤tieOf tl 4 o.after.toList)) (allEdge o.after.toList (pend.map (·.1)))
noncomputable def yGo (x:Option (Bool×NVal)):Option (List NVal×NHeap):=match x with
 |some (false,v)=>seqY E ops rest (i+1) (nput ts o.dst v) h hs ei (tl++[tieOf tl 4 o.after.toList]) rd pend nid
 |some (true,v)=>yAgain E ops o rest i ts h hs ei tl rd pend nid v (veq 50 v v) (readsAll P (ev ts) o.op v (hs.drop (tieOf tl 4 o.after.toList)))
 |none=>yNew E ops o rest i ts h hs ei tl rd pend nid (floats (newOp P (ev ts) o.op))
noncomputable def yGuard (g:Option Bool):Option (List NVal×NHeap):=match g with
 |none=>none
 |some false=>seqY E ops rest (i+1) (nput ts o.dst nundef) h hs ei (tl++[tieOf tl 4 o.after.toList]) rd pend nid
 |some true=>yGo E ops o rest i ts h hs ei tl rd pend nid (eStep P (ev ts) h o.op)
theorem y_nil:seqY E ops [] i ts h hs ei tl rd pend nid=some (ts,adoptAll h pend):=rfl
theorem y_cons:seqY E ops (o::rest) i ts h hs ei tl rd pend nid=yGuard E ops o rest i ts h hs ei tl rd pend nid (nwanted ops o ts):=by
 rw[seqY]
 unfold yGuard yGo yNew yChk yDo yAgain yEnd
 cases nwanted ops o ts with
 |none=>rfl
 |some b=>
  cases b with
  |false=>rfl
  |true=>
   simp only
   cases eStep P (ev ts) h o.op with
   |some p=>
    obtain⟨b,v⟩:=p
    cases b with
    |false=>rfl
    |true=>
     simp only
     have:=readsAll_iff (P:=P) (ρ:=ev ts) (op:=o.op) (v:=v) (hs.drop (tieOf tl 4 o.after.toList))
     exact ifc (and_congr Iff.rfl this.symm) _ _
   |none=>
    simp only
    cases floats (newOp P (ev ts) o.op) with
    |some p=>rfl
    |none=>
     simp only[decide_eq_true_eq]
     rw[doK_eq]
     split
     ·cases doOp P (K E) (ev ts) o (adoptAll h pend) with
      |none=>rfl
      |some q=>exact ifc (and_congr Iff.rfl (looseY_iff _).symm) _ _
     ·rfl
theorem yGuard_true:yGuard E ops o rest i ts h hs ei tl rd pend nid (some true)=yGo E ops o rest i ts h hs ei tl rd pend nid (eStep P (ev ts) h o.op):=rfl
theorem yGuard_false:yGuard E ops o rest i ts h hs ei tl rd pend nid (some false)=seqY E ops rest (i+1) (nput ts o.dst nundef) h hs ei (tl++[tieOf tl 4 o.after.toList]) rd pend nid:=rfl
theorem yGo_val (v:NVal):yGo E ops o rest i ts h hs ei tl rd pend nid (some (false,v))=seqY E ops rest (i+1) (nput ts o.dst v) h hs ei (tl++[tieOf tl 4 o.after.toList]) rd pend nid:=rfl
theorem yGo_read (v:NVal):yGo E ops o rest i ts h hs ei tl rd pend nid (some (true,v))=yAgain E ops o rest i ts h hs ei tl rd pend nid v (veq 50 v v) (readsAll P (ev ts) o.op v (hs.drop (tieOf tl 4 o.after.toList))):=rfl
theorem yGo_none:yGo E ops o rest i ts h hs ei tl rd pend nid none=yNew E ops o rest i ts h hs ei tl rd pend nid (floats (newOp P (ev ts) o.op)):=rfl
theorem yAgain_true (v:NVal):yAgain E ops o rest i ts h hs ei tl rd pend nid v true True=seqY E ops rest (i+1) (nput ts o.dst v) h hs ei (tl++[tieOf tl 4 o.after.toList]) (rd++[(i,o,ts,v)]) pend nid:=by
 unfold yAgain;rw[if_pos ⟨rfl,trivial⟩]
theorem yNew_some (cs mk):yNew E ops o rest i ts h hs ei tl rd pend nid (some (cs,mk))=seqY E ops rest (i+1) (nput ts o.dst (mk nid)) h hs ei (tl++[tieOf tl 4 o.after.toList]) rd (pend++[(i,nid,cs)]) (nid+1):=rfl
theorem yNew_none:yNew E ops o rest i ts h hs ei tl rd pend nid none=yChk E ops o rest i ts h hs ei tl rd pend nid (decide (ei.length≤tieOf tl 4 o.after.toList)) (allEdge o.after.toList (pend.map (·.1))):=rfl
theorem yChk_true:yChk E ops o rest i ts h hs ei tl rd pend nid true true=yDo E ops o rest i ts h hs ei tl rd nid (adoptAll h pend).next (doK P (K E) (ev ts) o.op (adoptAll h pend)):=rfl
theorem yDo_some (n v h'):yDo E ops o rest i ts h hs ei tl rd nid n (some (v,h'))=yEnd E ops o rest i ts h hs ei tl rd nid v h' (n≤h'.next) (looseY P ops.toList i o.after.toList h' (loose o.after.toList rd)):=rfl
theorem yEnd_true (v h'):yEnd E ops o rest i ts h hs ei tl rd nid v h' True True=seqY E ops rest (i+1) (nput ts o.dst v) h' (hs++[h]) (ei++[i]) (tl++[ei.length+1]) (loose o.after.toList rd) [] nid:=by
 unfold yEnd;rw[if_pos ⟨trivial,trivial⟩]
end
theorem y_plain (ops dst op ty pos after rest i ts h hs ei tl rd pend nid):seqY E ops (⟨dst,op,ty,pos,after,none⟩::rest) i ts h hs ei tl rd pend nid=yGo E ops ⟨dst,op,ty,pos,after,none⟩ rest i ts h hs ei tl rd pend nid (eStep P (ev ts) h op):=by
 rw[y_cons];rfl
theorem y_guard (ops dst op ty pos after j want rest i n F h hs ei tl rd pend nid):seqY E ops (⟨dst,op,ty,pos,after,some (j,want)⟩::rest) i (toL n F) h hs ei tl rd pend nid=
  yGuard E ops ⟨dst,op,ty,pos,after,some (j,want)⟩ rest i (toL n F) h hs ei tl rd pend nid (match(ops[j]?).bind (·.dst) with
  |none=>some false
  |some d=>match(if d<n then some (F d) else none) with
   |some (.bool b)=>some (b==want)
   |some .junk=>none
   |_=>some false):=by
 rw[y_cons]
 unfold nwanted
 simp only[toL_get?]
 rfl
theorem S_drawnY (id ops ts h):C E (.region id ops true) ts h=if quiet ops.toList=true then drawD E ops ts h (seqRO P ops ops.toList ts h) (rowsIn ops.toList) else drawL E ops ts h (seqY E ops ops.toList 0 ts (reserve (rowsIn ops.toList) h) [] [] [] [] [] h.next):=by
 split
 ·exact S_draw _ _ _ _
 ·exact S_drawY _ _ _ _
end Go.Proofs.YtkjpldganajkkaaGreatDoor.NICE
namespace Go.Proofs.YtkjpldganajkkaaGreatDoor.S
open Go Go.RowKit Go.Proofs.YtkjpldganajkkaaGreatDoor.NICE
namespace tree
open word pack mir node mem get made
def setD (ds:List (DnS×NVal)) (k:Int) (a:Ans) (av:NVal):List (DnS×NVal):=if k<0 then ds else match ds[k.toNat]? with
 |some d=>ds.set k.toNat ({d.1 with ans:=a},av)
 |none=>ds
end tree
end Go.Proofs.YtkjpldganajkkaaGreatDoor.S
namespace Go.Proofs.YtkjpldganajkkaaGreatDoor.S
open Go Go.RowKit Go.Proofs.YtkjpldganajkkaaGreatDoor.NICE
namespace mem
open word pool mir pack arena node
theorem Root_K {G c m μ} (r:MemRep G c m μ):K env 22 [m] G.h=some (.int .i64 μ.root,G.h):=by
 obtain⟨mb,q,av,ev,rfl,g,_⟩:=r
 rw[k22 _ _ (by simp)]
 simp only[bodyOf,Option.getD_some,go_sem,seval,Tryz.f22,g]
 try rfl
end mem
namespace tree
open word pack mir node mem get made
end tree
end Go.Proofs.YtkjpldganajkkaaGreatDoor.S
namespace Go.Proofs.YtkjpldganajkkaaGreatDoor.S
open Go Go.RowKit Go.Proofs.YtkjpldganajkkaaGreatDoor.NICE
namespace tree
open word pack mir node mem get made
theorem sl_fz {h:NHeap} {col:Nat→Nat} {k n:Nat} {v:NVal} {cs} (s:Sl h k v n cs) (h0:∀b∈blk v,col b=0):Fz ⟨h,col⟩ k v n cs:=by
 obtain⟨h1,bo,c,x,rfl,h2,h3,h4⟩:=s
 refine⟨h1,bo,c,x,rfl,h2,h3,h4.imp id ?_⟩
 rintro⟨b,o,all,m,rfl,a1,a2⟩
 exact⟨b,o,all,m,rfl,a1,h0 b (by simp[blk]),a2⟩
theorem TC.step {lo hi:Nat} {G G':Gh} (S:Stp lo hi G G') {c tb:Nat} {q s mv ev dv cb cq cx es ds t} (T:TC G c tb q s mv ev dv cb cq cx es ds t) (hc:hi≤c+17∨c+21≤lo):TC G' c tb q s mv ev dv cb cq cx es ds t:=by
 obtain⟨fp,u,hfp⟩:=Stp.upd S
 have off:∀d,c+17≤G.col d→G.col d<c+21→d∉fp:=fun d h1 h2 hm=>by have:=hfp d hm;omega
 refine⟨u.get T.gt (off _ (by rw[T.ct];omega) (by rw[T.ct];omega)),by rw[S.col _ (NHeap.get_lt T.gt)];exact T.ct,u.get T.gc (off _ (by rw[T.cc];omega) (by rw[T.cc];omega)),by rw[S.col _ (NHeap.get_lt T.gc)];exact T.cc,?_,?_,T.c8,T.mp,T.el,T.dl,T.ea,T.da⟩
 ·exact VecK.recol (VecK.heap (h:=G.h) (col:=G.col) T.ev u (fun d hd=>by have:=T.ev.blk d hd;exact off d (by omega) (by omega))) fun d hd=>S.col d (T.ev.blk d hd).1
 ·exact VecK.recol (VecK.heap (h:=G.h) (col:=G.col) T.dv u (fun d hd=>by have:=T.dv.blk d hd;exact off d (by omega) (by omega))) fun d hd=>S.col d (T.dv.blk d hd).1
end tree
end Go.Proofs.YtkjpldganajkkaaGreatDoor.S
namespace Go.Proofs.YtkjpldganajkkaaGreatDoor.S
open Go Go.RowKit Go.Proofs.YtkjpldganajkkaaGreatDoor.NICE
namespace tree
open word pack mir node mem get made
def tkX (x:CX) (g:ProgS) (n:Nat):CX:=if g.took then{x with s:={x.s with prog:=some g,done:=(n:Int)}} else{x with s:={x.s with prog:=some g}}
def tkD (ds:List (DnS×NVal)) (i:Nat) (x:CX) (g:ProgS) (o:OpS):List (DnS×NVal):=if g.took then ds++[({client:=i,begin_:=x.s.from_,op:=o},nilS0)] else ds
end tree
end Go.Proofs.YtkjpldganajkkaaGreatDoor.S
namespace Go.Proofs.YtkjpldganajkkaaGreatDoor.S
open Go Go.RowKit Go.Proofs.YtkjpldganajkkaaGreatDoor.NICE
namespace mem
open word pool mir pack arena node
theorem memBox {G:Gh} {c:Nat} (hc0:0<c) {m μ} (r:MemRep G c m μ) {fp:List Nat} {h':NHeap} (u:Upd fp G.h h') (hfp:∀b∈fp,G.col b=c∧m≠.ptr (some (b,0))):
  Stp c (c+1) G ⟨h',newCol G.h G.col fun _=>0⟩∧MemRep ⟨h',newCol G.h G.col fun _=>0⟩ c m μ:=by
 have s1:Stp c (c+1) G ⟨h',newCol G.h G.col fun _=>0⟩:=Stp.of_upd u (fun d hd _=>by have:=(hfp d hd).1;omega) _
 obtain⟨mb,q,av,ev,rfl,gm,cm,ra,re⟩:=r
 refine⟨s1,mb,q,av,ev,rfl,u.get gm (fun hm=>(hfp mb hm).2 rfl),?_,ra.step s1 hc0 (by omega),re.step s1 (by omega)⟩
 show newCol G.h G.col (fun _=>0) mb=c
 rw[newCol_old (NHeap.get_lt gm)];exact cm
theorem memExt {G:Gh} {c:Nat} (hc0:0<c) {m μ} (r:MemRep G c m μ) {h':NHeap} (x:Ext G.h h') (f:Nat→Nat):MemRep ⟨h',newCol G.h G.col f⟩ c m μ:=r.step (Stp.of_ext (c+17) (c+18) x f) (by omega) (by omega)
theorem MemRep.arena {G c m μ} (hc0:0<c) (r:MemRep G c m μ) {mb av ev q} (hm:m=.ptr (some (mb,0))) (gm:G.h.get mb=some (.cells [av,ev,.int .i64 μ.clients,.int .i64 μ.root,.int .i64 μ.holder] (.own q))) {G':Gh} (s:Stp (c+1) (c+7) G G') {σ} (ra:ArenaRep G' (c+1) av σ):MemRep G' c m {μ with arena:=σ}:=by
 obtain⟨mb',q',av',ev',h1,h2,h3,h4,h5⟩:=r
 rw[hm] at h1
 simp at h1
 subst h1
 rw[gm] at h2
 simp at h2
 obtain⟨⟨rfl,rfl⟩,rfl⟩:=h2
 exact⟨mb,q,av,ev,hm,s.get gm (by rw[h3];omega),by rw[s.col _ (NHeap.get_lt gm)];exact h3,ra,h5.step s (by omega)⟩
theorem MemRep.epochs {G c m μ} (hc0:0<c) (r:MemRep G c m μ) {mb av ev q} (hm:m=.ptr (some (mb,0))) (gm:G.h.get mb=some (.cells [av,ev,.int .i64 μ.clients,.int .i64 μ.root,.int .i64 μ.holder] (.own q))) {G':Gh} (s:Stp (c+7) (c+16) G G') {ε} (re:epoch.EpochsRep G' (c+7) ev ε):MemRep G' c m {μ with eps:=ε}:=by
 obtain⟨mb',q',av',ev',h1,h2,h3,h4,h5⟩:=r
 rw[hm] at h1
 simp at h1
 subst h1
 rw[gm] at h2
 simp at h2
 obtain⟨⟨rfl,rfl⟩,rfl⟩:=h2
 exact⟨mb,q,av,ev,hm,s.get gm (by rw[h3];omega),by rw[s.col _ (NHeap.get_lt gm)];exact h3,h4.step s (by omega) (by omega),re⟩
theorem freeF_err {σ:ArenaS} {ref:Int} (h:(freeF σ ref).1≠0):(freeF σ ref).2=σ:=by
 unfold freeF at h⊢
 cases hq:ofF' σ ref with
 |mk n e=>
  rw[hq] at h
  simp only at h⊢
  split
  ·rfl
  ·rename_i q
   rw[if_neg q] at h
   cases hs:σ.slots[n]? with
   |none=>rfl
   |some s=>rw[hs] at h;exact absurd rfl h
theorem collectF_false {ε:EpochsS} {c:Int} (h:(collectF ε c).1.2=false):(collectF ε c).2=ε:=by
 unfold collectF at h⊢
 cases h1:epOf ε c with
 |none=>rfl
 |some x=>
  rw[h1] at h
  simp only at h⊢
  cases h2:x.2 with
  |nil=>rfl
  |cons y l=>
   rw[h2] at h
   simp only at h⊢
   split
   ·rfl
   ·rename_i q
    rw[if_neg q] at h
    cases h
set_option maxHeartbeats 2000000 in
theorem collect_K {G c m μ} (hc0:0<c) (r:MemRep G c m μ) (cl:Int):∃G',K env 102 [m,.int .i64 cl] G.h=some (.agg (resV (collectM μ cl).1 (.slice none 0 0 none)),G'.h)∧Stp c (c+16) G G'∧MemRep G' c m (collectM μ cl).2∧(collectM μ cl).1.words=[]:=by
 obtain⟨H0,hH0⟩:∃H0,G.h.alloc (.cells [.int .i64 0,.int .i64 0,.bool false,.slice none 0 0 none] (.own (some (117,4))))=H0:=⟨_,rfl⟩
 have x0:Ext G.h H0:=by rw[←hH0];exact(Ext.refl _).alloc _
 have n0:H0.next=G.h.next+1:=by rw[←hH0];rfl
 have g0:H0.get G.h.next=some (.cells [.int .i64 0,.int .i64 0,.bool false,.slice none 0 0 none] (.own (some (117,4)))):=by rw[←hH0];simp[NHeap.get_alloc]
 have S0:Stp c (c+16) G ⟨H0,newCol G.h G.col fun _=>c⟩:=Stp.of_ext _ _ x0 _
 have r0:=memExt hc0 r x0 (fun _=>c)
 have cb0:newCol G.h G.col (fun _=>c) G.h.next=c:=newCol_new (Nat.le_refl _)
 obtain⟨mb,q,av,ev,rfl,gm,cm,ra,re⟩:=id r0
 have gm':H0.get mb=some (.cells [av,ev,.int .i64 μ.clients,.int .i64 μ.root,.int .i64 μ.holder] (.own q)):=gm
 have lmb:mb<G.h.next:=by
  obtain⟨mb',q',av',ev',h1,h2,_⟩:=r
  simp at h1;subst h1
  exact NHeap.get_lt h2
 obtain⟨G1,e1,s1,re1⟩:=epoch.Collect_K re cl
 have r1:=r0.epochs hc0 rfl gm s1 re1
 have g1:=s1.get (G:=⟨H0,newCol G.h G.col fun _=>c⟩) g0 (by show¬(c+7≤newCol G.h G.col (fun _=>c) G.h.next∧_);rw[cb0];omega)
 have cb1:G1.col G.h.next=c:=by rw[s1.col _ (NHeap.get_lt g0)];exact cb0
 have gm1:=s1.get gm (by rw[cm];omega)
 have S1:=S0.trans (s1.mono (by omega) (by omega))
 have nm:(.ptr (some (mb,0)):NVal)≠.ptr (some (G.h.next,0)):=by simp;omega
 have lb1:=NHeap.get_lt g1
 obtain⟨p,hp⟩:∃p,collectF μ.eps cl=p:=⟨_,rfl⟩
 rw[hp] at e1 r1
 have hfalse:=@collectF_false μ.eps cl
 rw[hp] at hfalse
 obtain⟨⟨rf,ok⟩,ε⟩:=p
 have e1':K env 145 [ev,.int .i64 cl] H0=some (.tuple [.int .i64 rf,.bool ok],G1.h):=e1
 have lb0:G.h.next<H0.next:=by omega
 cases ok with
 |false=>
  have hε:ε=μ.eps:=hfalse rfl
  subst hε
  have hcm:collectM μ cl=({},μ):=by unfold collectM;rw[hp]
  rw[hcm]
  obtain⟨h',hh'⟩:∃h',G1.h.set G.h.next (.cells [.int .i64 0,.int .i64 0,.bool false,.slice none 0 0 none] (.own (some (117,4))))=h':=⟨_,rfl⟩
  have u:Upd [G.h.next] G1.h h':=by rw[←hh'];exact(Upd.refl _ _).set (.inl (by simp)) _
  obtain⟨s2,r2⟩:=memBox hc0 r1 u (by intro b hb;simp at hb;subst hb;exact⟨cb1,nm⟩)
  refine⟨_,?_,S1.trans (s2.mono (Nat.le_refl _) (by omega)),r2,rfl⟩
  rw[k102 _ _ (by simp)]
  simp only[bodyOf,Option.getD_some,go_sem,seval,Tryz.f102,hH0,gm',e1',g1,lb1,hh']
  rw[←hh']
  simp only[go_sem,seval,lb1,resV]
  try rfl
 |true=>
  have r1':MemRep G1 c (.ptr (some (mb,0))) {μ with eps:=ε}:=r1
  have ra1:=ra.step s1 (by omega) (by omega)
  obtain⟨G2,e2,s2,ra2⟩:=Free_K (by omega) ra1 rf
  have r2:=r1'.arena hc0 rfl gm1 s2 ra2
  have g2:=s2.get g1 (by rw[cb1];omega)
  have cb2:G2.col G.h.next=c:=by rw[s2.col _ (NHeap.get_lt g1)];exact cb1
  have gm2:=s2.get gm1 (by rw[s1.col _ (NHeap.get_lt gm),cm];omega)
  have lb2:=NHeap.get_lt g2
  have S2:=S1.trans (s2.mono (by omega) (by omega))
  have gm1':G1.h.get mb=some (.cells [av,ev,.int .i64 μ.clients,.int .i64 μ.root,.int .i64 μ.holder] (.own q)):=gm1
  obtain⟨fr,hfr⟩:∃fr,freeF μ.arena rf=fr:=⟨_,rfl⟩
  rw[hfr] at e2 r2
  obtain⟨er,σ⟩:=fr
  by_cases her:er=0
  ·subst her
   have hcm:collectM μ cl=({n:=rf,ok:=true},{μ with eps:=ε,arena:=σ}):=by unfold collectM;rw[hp];simp[hfr]
   rw[hcm]
   obtain⟨h',hh'⟩:∃h',G2.h.set G.h.next (.cells [.int .i64 0,.int .i64 rf,.bool true,.slice none 0 0 none] (.own (some (117,4))))=h':=⟨_,rfl⟩
   have u:Upd [G.h.next] G2.h h':=by rw[←hh'];exact(Upd.refl _ _).set (.inl (by simp)) _
   obtain⟨s3,r3⟩:=memBox hc0 r2 u (by intro b hb;simp at hb;subst hb;exact⟨cb2,nm⟩)
   refine⟨_,?_,S2.trans (s3.mono (Nat.le_refl _) (by omega)),r3,rfl⟩
   rw[k102 _ _ (by simp)]
   simp only[bodyOf,Option.getD_some,go_sem,seval,Tryz.f102,hH0,gm',e1',gm1',e2,g2,lb2,hh']
   rw[←hh']
   simp only[go_sem,seval,lb2,resV]
   try rfl
  ·have hcm:collectM μ cl=({err:=er},{μ with eps:=ε,arena:=σ}):=by
    have:σ=μ.arena:=by
     have:=freeF_err (σ:=μ.arena) (ref:=rf) (by rw[hfr];exact her)
     rw[hfr] at this;exact this
    subst this
    unfold collectM;rw[hp];simp[hfr,her]
   rw[hcm]
   obtain⟨h',hh'⟩:∃h',G2.h.set G.h.next (.cells [.int .i64 er,.int .i64 0,.bool false,.slice none 0 0 none] (.own (some (117,4))))=h':=⟨_,rfl⟩
   have u:Upd [G.h.next] G2.h h':=by rw[←hh'];exact(Upd.refl _ _).set (.inl (by simp)) _
   obtain⟨s3,r3⟩:=memBox hc0 r2 u (by intro b hb;simp at hb;subst hb;exact⟨cb2,nm⟩)
   refine⟨_,?_,S2.trans (s3.mono (Nat.le_refl _) (by omega)),r3,rfl⟩
   rw[k102 _ _ (by simp)]
   simp only[bodyOf,Option.getD_some,go_sem,seval,Tryz.f102,hH0,gm',e1',gm1',e2,her,g2,lb2,hh']
   rw[←hh']
   simp only[go_sem,seval,lb2,resV]
   try rfl
end mem
end Go.Proofs.YtkjpldganajkkaaGreatDoor.S
namespace Go.Proofs.YtkjpldganajkkaaGreatDoor.S
open Go Go.RowKit Go.Proofs.YtkjpldganajkkaaGreatDoor.NICE
namespace mem
open word pool mir pack arena node
abbrev rZ:Own:=.own (some (117,4))
set_option maxHeartbeats 4000000 in
theorem slots_K {G c m μ} (hc0:0<c) (r:MemRep G c m μ) (a:Acc) (wv:NVal) (fv:Fz G 1 wv a.words.length (rows U a.words)) (hlt:∀w∈a.words,w<2^64) (hk:a.kind=1∨a.kind=2∨a.kind=3∨a.kind=4∨a.kind=5):
  ∃G' rv,K env 95 [m,.agg (accV a wv)] G.h=some (.agg (resV (slotsF μ a).1 rv),G'.h)∧Stp c (c+16) G G'∧MemRep G' c m (slotsF μ a).2∧Fz G' 1 rv (slotsF μ a).1.words.length (rows U (slotsF μ a).1.words):=by
 obtain⟨H0,hH0⟩:∃H0,((G.h.alloc (.cells (accV a wv) (.own none))).alloc (.cells [.int .i64 0,.int .i64 0,.bool false,.slice none 0 0 none] rZ)).alloc (.cells [.int .i64 0,.int .i64 0,.bool false,.slice none 0 0 none] rZ)=H0:=⟨_,rfl⟩
 have x0:Ext G.h H0:=by rw[←hH0];exact(((Ext.refl _).alloc _).alloc _).alloc _
 have n0:H0.next=G.h.next+3:=by rw[←hH0];rfl
 obtain⟨B,hB⟩:∃B,G.h.next=B:=⟨_,rfl⟩
 rw[hB] at n0
 have ga:H0.get B=some (.cells (accV a wv) (.own none)):=by rw[←hH0,←hB];simp only[go_sem,seval]
 have g4:H0.get (B+1)=some (.cells [.int .i64 0,.int .i64 0,.bool false,.slice none 0 0 none] rZ):=by rw[←hH0,←hB];simp only[go_sem,seval]
 have g5:H0.get (B+2)=some (.cells [.int .i64 0,.int .i64 0,.bool false,.slice none 0 0 none] rZ):=by rw[←hH0,←hB];simp only[go_sem,seval]
 have S0:Stp c (c+16) G ⟨H0,newCol G.h G.col fun _=>c⟩:=Stp.of_ext _ _ x0 _
 have r0:=memExt hc0 r x0 (fun _=>c)
 have fv0:=fv.step S0 hc0
 have cB:∀b,B≤b→newCol G.h G.col (fun _=>c) b=c:=fun b hb=>newCol_new (by omega)
 obtain⟨mb,q,av,ev,rfl,gm,cm,ra,re⟩:=id r0
 have gm':H0.get mb=some (.cells [av,ev,.int .i64 μ.clients,.int .i64 μ.root,.int .i64 μ.holder] (.own q)):=gm
 have lmb:mb<B:=by
  obtain⟨mb',q',av',ev',h1,h2,_⟩:=r
  simp at h1;subst h1
  have:=NHeap.get_lt h2;omega
 have nm1:(.ptr (some (mb,0)):NVal)≠.ptr (some (B+1,0)):=by simp;omega
 have nm2:(.ptr (some (mb,0)):NVal)≠.ptr (some (B+2,0)):=by simp;omega
 have hH0':((G.h.alloc (.cells [.int .i64 a.kind,.int .i64 a.ref,.int .i64 a.cls,.int .i64 a.n,.int .u64 (a.was:Nat),wv] (.own none))).alloc (.cells [.int .i64 0,.int .i64 0,.bool false,.slice none 0 0 none] rZ)).alloc (.cells [.int .i64 0,.int .i64 0,.bool false,.slice none 0 0 none] rZ)=H0:=hH0
 have ga':H0.get B=some (.cells [.int .i64 a.kind,.int .i64 a.ref,.int .i64 a.cls,.int .i64 a.n,.int .u64 (a.was:Nat),wv] (.own none)):=ga
 have wrap:∀(G1:Gh) (μ':MemS) (res:Res) (rv:NVal) (h':NHeap),Stp c (c+16) G G1→MemRep G1 c (.ptr (some (mb,0))) μ'→G1.col (B+1)=c→G1.col (B+2)=c→Upd [B+1,B+2] G1.h h'→Fz G1 1 rv res.words.length (rows U res.words)→
   Stp c (c+16) G ⟨h',newCol G1.h G1.col fun _=>0⟩∧MemRep ⟨h',newCol G1.h G1.col fun _=>0⟩ c (.ptr (some (mb,0))) μ'∧Fz ⟨h',newCol G1.h G1.col fun _=>0⟩ 1 rv res.words.length (rows U res.words):=by
  intro G1 μ' res rv h' S1 r1 c1 c2 u f
  obtain⟨s2,r2⟩:=memBox hc0 r1 u (by
   intro b hb
   simp at hb
   rcases hb with rfl|rfl
   ·exact⟨c1,nm1⟩
   ·exact⟨c2,nm2⟩)
  exact⟨S1.trans (s2.mono (Nat.le_refl _) (by omega)),r2,f.step s2 hc0⟩
 have keep:∀{lo hi:Nat} {G1:Gh},Stp lo hi ⟨H0,newCol G.h G.col fun _=>c⟩ G1→c<lo→G1.h.get B=some (.cells (accV a wv) (.own none))∧G1.h.get (B+1)=some (.cells [.int .i64 0,.int .i64 0,.bool false,.slice none 0 0 none] rZ)∧G1.h.get (B+2)=some (.cells [.int .i64 0,.int .i64 0,.bool false,.slice none 0 0 none] rZ)∧G1.col (B+1)=c∧G1.col (B+2)=c∧H0.next≤G1.h.next:=by
  intro lo hi G1 s hlo
  have c0:∀b,B≤b→(⟨H0,newCol G.h G.col fun _=>c⟩:Gh).col b=c:=cB
  refine⟨s.get ga (by rw[c0 _ (by omega)];omega),s.get g4 (by rw[c0 _ (by omega)];omega),s.get g5 (by rw[c0 _ (by omega)];omega),?_,?_,s.next⟩
  ·rw[s.col _ (NHeap.get_lt g4)];exact c0 _ (by omega)
  ·rw[s.col _ (NHeap.get_lt g5)];exact c0 _ (by omega)
 obtain⟨wb,wl,wx,hwv⟩:=(fz_sl fv).form
 have va:veq 50 av av=true:=by obtain⟨ab,_,_,_,_,h,_⟩:=ra;rw[h,veq_ptr];simp
 have vw:veq 50 wv wv=true:=(fz_sl fv).veq
 have nB0:¬B=B+1:=by omega
 have lk1:a.kind=1∨¬a.kind=1:=by omega
 by_cases k1:a.kind=1
 ·have k1d:decide (a.kind=1)=true:=decide_eq_true k1
  obtain⟨v,h1,e1,x1,f1⟩:=Load_K ra a.ref
  have e1':K env 140 [av,.int .i64 a.ref] H0=some (.tuple [v,.int .i64 (loadF μ.arena a.ref).2],h1):=e1
  have s1:Stp (c+17) (c+18) ⟨H0,newCol G.h G.col fun _=>c⟩ ⟨h1,newCol H0 (newCol G.h G.col fun _=>c) fun _=>0⟩:=Stp.of_ext _ _ x1 _
  have s1c:Stp c (c+16) ⟨H0,newCol G.h G.col fun _=>c⟩ ⟨h1,newCol H0 (newCol G.h G.col fun _=>c) fun _=>0⟩:=Stp.of_ext _ _ x1 _
  obtain⟨k0,k4,k5,kc1,kc2,kn⟩:=keep s1 (by omega)
  have r1:=r0.step s1 (by omega) (by omega)
  have hsf:slotsF μ a=({err:=(loadF μ.arena a.ref).2,words:=(loadF μ.arena a.ref).1},μ):=by rw[slotsF,if_pos k1]
  rw[hsf]
  obtain⟨vb,vc,vx,hv⟩:=(fz_sl f1).form
  have k4':h1.get (B+1)=some (.cells [.int .i64 0,.int .i64 0,.bool false,.slice none 0 0 none] rZ):=k4
  have k5':h1.get (B+2)=some (.cells [.int .i64 0,.int .i64 0,.bool false,.slice none 0 0 none] rZ):=k5
  have l4:=NHeap.get_lt k4'
  have l5:=NHeap.get_lt k5'
  obtain⟨h',hh'⟩:∃h',((h1.set (B+2) (.cells [.int .i64 0,.int .i64 0,.bool false,v] rZ)).set (B+2) (.cells [.int .i64 (loadF μ.arena a.ref).2,.int .i64 0,.bool false,v] rZ)).set (B+1) (.cells [.int .i64 (loadF μ.arena a.ref).2,.int .i64 0,.bool false,v] rZ)=h':=⟨_,rfl⟩
  have u:Upd [B+1,B+2] h1 h':=by rw[←hh'];exact(((Upd.refl _ _).set (.inl (by simp)) _).set (.inl (by simp)) _).set (.inl (by simp)) _
  obtain⟨s2,r2,f2⟩:=wrap _ μ {err:=(loadF μ.arena a.ref).2,words:=(loadF μ.arena a.ref).1} v h' (S0.trans s1c) r1 kc1 kc2 u f1
  refine⟨_,v,?_,s2,r2,f2⟩
  rw[accV,k95 _ _ (by simp)]
  subst hv
  have kn':B+3≤h1.next:=by have:H0.next≤h1.next:=kn;omega
  simp only[bodyOf,Option.getD_some,go_sem,seval,Tryz.f95,hH0',hB,ga',k1d,gm',e1',k5',l5,k4',l4,va,kn',n0]
  rw[←hh']
  simp only[go_sem,seval,l5,l4,resV]
  try rfl
 by_cases k2:a.kind=2
 ·have k2d:decide (a.kind=2)=true:=decide_eq_true k2
  obtain⟨G1,e1,s1,ra1⟩:=Swap_K (by omega) ra a.ref a.was wv a.words fv0 hlt
  have e1':K env 141 [av,.int .i64 a.ref,.int .u64 (a.was:Nat),wv] H0=some (.tuple [.bool (swapF μ.arena a.ref a.was a.words).1.1,.int .i64 (swapF μ.arena a.ref a.was a.words).1.2],G1.h):=e1
  obtain⟨k0,k4,k5,kc1,kc2,kn⟩:=keep s1 (by omega)
  have r1:=r0.arena hc0 rfl gm s1 ra1
  have hsf:slotsF μ a=({err:=(swapF μ.arena a.ref a.was a.words).1.2,ok:=(swapF μ.arena a.ref a.was a.words).1.1},{μ with arena:=(swapF μ.arena a.ref a.was a.words).2}):=by rw[slotsF,if_neg k1,if_pos k2]
  rw[hsf]
  have l4:=NHeap.get_lt k4
  have l5:=NHeap.get_lt k5
  obtain⟨ok,hok⟩:∃ok,(swapF μ.arena a.ref a.was a.words).1.1=ok:=⟨_,rfl⟩
  obtain⟨er,her⟩:∃er,(swapF μ.arena a.ref a.was a.words).1.2=er:=⟨_,rfl⟩
  rw[hok,her] at e1'⊢
  obtain⟨h',hh'⟩:∃h',((G1.h.set (B+2) (.cells [.int .i64 0,.int .i64 0,.bool ok,.slice none 0 0 none] rZ)).set (B+2) (.cells [.int .i64 er,.int .i64 0,.bool ok,.slice none 0 0 none] rZ)).set (B+1) (.cells [.int .i64 er,.int .i64 0,.bool ok,.slice none 0 0 none] rZ)=h':=⟨_,rfl⟩
  have u:Upd [B+1,B+2] G1.h h':=by rw[←hh'];exact(((Upd.refl _ _).set (.inl (by simp)) _).set (.inl (by simp)) _).set (.inl (by simp)) _
  obtain⟨s2,r2,f2⟩:=wrap _ _ {err:=er,ok:=ok} (.slice none 0 0 none) h' (S0.trans (s1.mono (by omega) (by omega))) r1 kc1 kc2 u (Fz.nil _ _)
  refine⟨_,.slice none 0 0 none,?_,s2,r2,f2⟩
  have kn':B+3≤G1.h.next:=by omega
  rw[accV,k95 _ _ (by simp)]
  rw[hwv] at hH0' ga' e1' vw⊢
  simp only[bodyOf,Option.getD_some,go_sem,seval,Tryz.f95,hH0',hB,ga',k1,k2d,gm',e1',k5,l5,k4,l4,va,vw,kn',n0]
  rw[←hh']
  simp only[go_sem,seval,l5,l4,resV]
  try rfl
 by_cases k3:a.kind=3
 ·have k3d:decide (a.kind=3)=true:=decide_eq_true k3
  obtain⟨G1,e1,s1,ra1⟩:=Store_K (by omega) ra a.ref wv a.words fv0 hlt
  have e1':K env 142 [av,.int .i64 a.ref,wv] H0=some (.int .i64 (storeF μ.arena a.ref a.words).1,G1.h):=e1
  obtain⟨k0,k4,k5,kc1,kc2,kn⟩:=keep s1 (by omega)
  have r1:=r0.arena hc0 rfl gm s1 ra1
  have hsf:slotsF μ a=({err:=(storeF μ.arena a.ref a.words).1},{μ with arena:=(storeF μ.arena a.ref a.words).2}):=by rw[slotsF,if_neg k1,if_neg k2,if_pos k3]
  rw[hsf]
  have l4:=NHeap.get_lt k4
  have l5:=NHeap.get_lt k5
  obtain⟨er,her⟩:∃er,(storeF μ.arena a.ref a.words).1=er:=⟨_,rfl⟩
  rw[her] at e1'⊢
  obtain⟨h',hh'⟩:∃h',(G1.h.set (B+2) (.cells [.int .i64 er,.int .i64 0,.bool false,.slice none 0 0 none] rZ)).set (B+1) (.cells [.int .i64 er,.int .i64 0,.bool false,.slice none 0 0 none] rZ)=h':=⟨_,rfl⟩
  have u:Upd [B+1,B+2] G1.h h':=by rw[←hh'];exact((Upd.refl _ _).set (.inl (by simp)) _).set (.inl (by simp)) _
  obtain⟨s2,r2,f2⟩:=wrap _ _ {err:=er} (.slice none 0 0 none) h' (S0.trans (s1.mono (by omega) (by omega))) r1 kc1 kc2 u (Fz.nil _ _)
  refine⟨_,.slice none 0 0 none,?_,s2,r2,f2⟩
  have kn':B+3≤G1.h.next:=by omega
  rw[accV,k95 _ _ (by simp)]
  rw[hwv] at hH0' ga' e1' vw⊢
  simp only[bodyOf,Option.getD_some,go_sem,seval,Tryz.f95,hH0',hB,ga',k1,k2,k3d,gm',e1',k5,l5,k4,l4,va,vw,kn',n0]
  rw[←hh']
  simp only[go_sem,seval,l5,l4,resV]
  try rfl
 by_cases k4':a.kind=4
 ·have k4d:decide (a.kind=4)=true:=decide_eq_true k4'
  obtain⟨G1,e1,s1,ra1⟩:=Alloc_K (by omega) ra a.cls wv a.words fv0 hlt
  have e1':K env 37 [av,.int .i64 a.cls,wv] H0=some (.tuple [.int .i64 (allocF μ.arena a.cls a.words).1.1,.int .i64 (allocF μ.arena a.cls a.words).1.2],G1.h):=e1
  obtain⟨k0,k4,k5,kc1,kc2,kn⟩:=keep s1 (by omega)
  have r1:=r0.arena hc0 rfl gm s1 ra1
  have hsf:slotsF μ a=({n:=(allocF μ.arena a.cls a.words).1.1,err:=(allocF μ.arena a.cls a.words).1.2},{μ with arena:=(allocF μ.arena a.cls a.words).2}):=by rw[slotsF,if_neg k1,if_neg k2,if_neg k3,if_pos k4']
  rw[hsf]
  have l4:=NHeap.get_lt k4
  have l5:=NHeap.get_lt k5
  obtain⟨nn,hok⟩:∃nn,(allocF μ.arena a.cls a.words).1.1=nn:=⟨_,rfl⟩
  obtain⟨er,her⟩:∃er,(allocF μ.arena a.cls a.words).1.2=er:=⟨_,rfl⟩
  rw[hok,her] at e1'⊢
  obtain⟨h',hh'⟩:∃h',((G1.h.set (B+2) (.cells [.int .i64 0,.int .i64 nn,.bool false,.slice none 0 0 none] rZ)).set (B+2) (.cells [.int .i64 er,.int .i64 nn,.bool false,.slice none 0 0 none] rZ)).set (B+1) (.cells [.int .i64 er,.int .i64 nn,.bool false,.slice none 0 0 none] rZ)=h':=⟨_,rfl⟩
  have u:Upd [B+1,B+2] G1.h h':=by rw[←hh'];exact(((Upd.refl _ _).set (.inl (by simp)) _).set (.inl (by simp)) _).set (.inl (by simp)) _
  obtain⟨s2,r2,f2⟩:=wrap _ _ {err:=er,n:=nn} (.slice none 0 0 none) h' (S0.trans (s1.mono (by omega) (by omega))) r1 kc1 kc2 u (Fz.nil _ _)
  refine⟨_,.slice none 0 0 none,?_,s2,r2,f2⟩
  have kn':B+3≤G1.h.next:=by omega
  rw[accV,k95 _ _ (by simp)]
  rw[hwv] at hH0' ga' e1' vw⊢
  simp only[bodyOf,Option.getD_some,go_sem,seval,Tryz.f95,hH0',hB,ga',k1,k2,k3,k4d,gm',e1',k5,l5,k4,l4,va,vw,kn',n0]
  rw[←hh']
  simp only[go_sem,seval,l5,l4,resV]
  try rfl
 have k5d:decide (a.kind=5)=true:=decide_eq_true (by omega)
 have l40:=NHeap.get_lt g4
 have l50:=NHeap.get_lt g5
 have nb4:¬mb=B+1:=by omega
 by_cases kr:a.ref=μ.root
 ·have krd:decide (a.ref=μ.root)=true:=decide_eq_true kr
  have hsf:slotsF μ a=({err:=1},μ):=by rw[slotsF,if_neg k1,if_neg k2,if_neg k3,if_neg k4',if_pos kr]
  rw[hsf]
  obtain⟨h',hh'⟩:∃h',(H0.set (B+2) (.cells [.int .i64 1,.int .i64 0,.bool false,.slice none 0 0 none] rZ)).set (B+1) (.cells [.int .i64 1,.int .i64 0,.bool false,.slice none 0 0 none] rZ)=h':=⟨_,rfl⟩
  have u:Upd [B+1,B+2] H0 h':=by rw[←hh'];exact((Upd.refl _ _).set (.inl (by simp)) _).set (.inl (by simp)) _
  obtain⟨s2,r2,f2⟩:=wrap ⟨H0,newCol G.h G.col fun _=>c⟩ μ {err:=1} (.slice none 0 0 none) h' S0 r0 (cB _ (by omega)) (cB _ (by omega)) u (Fz.nil _ _)
  refine⟨_,.slice none 0 0 none,?_,s2,r2,f2⟩
  rw[accV,k95 _ _ (by simp)]
  rw[hwv] at hH0' ga' vw⊢
  simp only[bodyOf,Option.getD_some,go_sem,seval,Tryz.f95,hH0',hB,ga',k1,k2,k3,k4',k5d,gm',krd,g5,g4,l40,l50,va,vw,n0]
  rw[←hh']
  simp only[go_sem,seval,l40,l50,resV]
  try rfl
 ·obtain⟨G1,e1,s1,ra1⟩:=Free_K (by omega) ra a.ref
  have e1':K env 143 [av,.int .i64 a.ref] H0=some (.int .i64 (freeF μ.arena a.ref).1,G1.h):=e1
  obtain⟨k0,k4,k5,kc1,kc2,kn⟩:=keep s1 (by omega)
  have r1:=r0.arena hc0 rfl gm s1 ra1
  have hsf:slotsF μ a=({err:=(freeF μ.arena a.ref).1},{μ with arena:=(freeF μ.arena a.ref).2}):=by rw[slotsF,if_neg k1,if_neg k2,if_neg k3,if_neg k4',if_neg kr]
  rw[hsf]
  have l4:=NHeap.get_lt k4
  have l5:=NHeap.get_lt k5
  obtain⟨er,her⟩:∃er,(freeF μ.arena a.ref).1=er:=⟨_,rfl⟩
  rw[her] at e1'⊢
  obtain⟨h',hh'⟩:∃h',(G1.h.set (B+2) (.cells [.int .i64 er,.int .i64 0,.bool false,.slice none 0 0 none] rZ)).set (B+1) (.cells [.int .i64 er,.int .i64 0,.bool false,.slice none 0 0 none] rZ)=h':=⟨_,rfl⟩
  have u:Upd [B+1,B+2] G1.h h':=by rw[←hh'];exact((Upd.refl _ _).set (.inl (by simp)) _).set (.inl (by simp)) _
  obtain⟨s2,r2,f2⟩:=wrap _ _ {err:=er} (.slice none 0 0 none) h' (S0.trans (s1.mono (by omega) (by omega))) r1 kc1 kc2 u (Fz.nil _ _)
  refine⟨_,.slice none 0 0 none,?_,s2,r2,f2⟩
  have kn':B+3≤G1.h.next:=by omega
  rw[accV,k95 _ _ (by simp)]
  rw[hwv] at hH0' ga' vw⊢
  simp only[bodyOf,Option.getD_some,go_sem,seval,Tryz.f95,hH0',hB,ga',k1,k2,k3,k4',k5d,kr,gm',e1',k5,l5,k4,l4,va,vw,kn',n0]
  rw[←hh']
  simp only[go_sem,seval,l5,l4,resV]
  try rfl
end mem
end Go.Proofs.YtkjpldganajkkaaGreatDoor.S
namespace Go.Proofs.YtkjpldganajkkaaGreatDoor.S
open Go Go.RowKit Go.Proofs.YtkjpldganajkkaaGreatDoor.NICE
namespace mem
open word pool mir pack arena node
set_option maxHeartbeats 8000000 in
theorem Do_K {G c m μ} (hc0:0<c) (r:MemRep G c m μ) (cl:Int) (a:Acc) (wv:NVal) (fv:Fz G 1 wv a.words.length (rows U a.words)) (hlt:∀w∈a.words,w<2^64):
  ∃G' rv,K env 42 [m,.int .i64 cl,.agg (accV a wv)] G.h=some (.agg (resV (doF μ cl a).1 rv),G'.h)∧Stp c (c+16) G G'∧MemRep G' c m (doF μ cl a).2∧Fz G' 1 rv (doF μ cl a).1.words.length (rows U (doF μ cl a).1.words):=by
 obtain⟨H0,hH0⟩:∃H0,(G.h.alloc (.cells [.int .i64 a.kind,.int .i64 a.ref,.int .i64 a.cls,.int .i64 a.n,.int .u64 (a.was:Nat),wv] (.own none))).alloc (.cells [.int .i64 0,.int .i64 0,.bool false,.slice none 0 0 none] rZ)=H0:=⟨_,rfl⟩
 have x0:Ext G.h H0:=by rw[←hH0];exact((Ext.refl _).alloc _).alloc _
 have n0:H0.next=G.h.next+2:=by rw[←hH0];rfl
 obtain⟨B,hB⟩:∃B,G.h.next=B:=⟨_,rfl⟩
 rw[hB] at n0
 have ga:H0.get B=some (.cells [.int .i64 a.kind,.int .i64 a.ref,.int .i64 a.cls,.int .i64 a.n,.int .u64 (a.was:Nat),wv] (.own none)):=by rw[←hH0,←hB];simp only[go_sem,seval]
 have g4:H0.get (B+1)=some (.cells [.int .i64 0,.int .i64 0,.bool false,.slice none 0 0 none] rZ):=by rw[←hH0,←hB];simp only[go_sem,seval]
 have S0:Stp c (c+16) G ⟨H0,newCol G.h G.col fun _=>c+16⟩:=Stp.of_ext _ _ x0 _
 have r0:=memExt hc0 r x0 (fun _=>c+16)
 have fv0:=fv.step S0 hc0
 have cB:∀b,B≤b→newCol G.h G.col (fun _=>c+16) b=c+16:=fun b hb=>newCol_new (by omega)
 obtain⟨mb,q,av,ev,rfl,gm,cm,ra,re⟩:=id r0
 have gm':H0.get mb=some (.cells [av,ev,.int .i64 μ.clients,.int .i64 μ.root,.int .i64 μ.holder] (.own q)):=gm
 have lmb:mb<B:=by
  obtain⟨mb',q',av',ev',h1,h2,_⟩:=r
  simp at h1;subst h1
  have:=NHeap.get_lt h2;omega
 have nm1:(.ptr (some (mb,0)):NVal)≠.ptr (some (B+1,0)):=by simp;omega
 have wrap:∀(G1:Gh) (μ':MemS) (res:Res) (rv:NVal) (h':NHeap),Stp c (c+16) G G1→MemRep G1 c (.ptr (some (mb,0))) μ'→G1.col (B+1)=c+16→Upd [B+1] G1.h h'→Fz G1 1 rv res.words.length (rows U res.words)→
   Stp c (c+16) G ⟨h',newCol G1.h G1.col fun _=>0⟩∧MemRep ⟨h',newCol G1.h G1.col fun _=>0⟩ c (.ptr (some (mb,0))) μ'∧Fz ⟨h',newCol G1.h G1.col fun _=>0⟩ 1 rv res.words.length (rows U res.words):=by
  intro G1 μ' res rv h' S1 r1 c1 u f
  have s2:Stp (c+16) (c+17) G1 ⟨h',newCol G1.h G1.col fun _=>0⟩:=Stp.of_upd u (by rintro b hb _;simp at hb;subst hb;omega) _
  refine⟨⟨Nat.le_trans S1.next u.next,fun b hb=>?_,fun{b o} hg hn=>u.get (S1.get hg hn) (by have:=NHeap.get_lt hg;simp;omega)⟩,r1.step s2 (by omega) (by omega),f.step s2 (by omega)⟩
  show newCol G1.h G1.col (fun _=>0) b=G.col b
  rw[newCol_old (Nat.lt_of_lt_of_le hb S1.next),S1.col b hb]
 have lB1:¬B+1<G.h.next:=by omega
 have keep:∀{lo hi:Nat} {G1:Gh},Stp lo hi ⟨H0,newCol G.h G.col fun _=>c+16⟩ G1→hi≤c+16→G1.h.get (B+1)=some (.cells [.int .i64 0,.int .i64 0,.bool false,.slice none 0 0 none] rZ)∧G1.col (B+1)=c+16∧H0.next≤G1.h.next:=by
  intro lo hi G1 s hlo
  have c0:∀b,B≤b→(⟨H0,newCol G.h G.col fun _=>c+16⟩:Gh).col b=c+16:=cB
  refine⟨s.get g4 (by rw[c0 _ (by omega)];omega),?_,s.next⟩
  rw[s.col _ (NHeap.get_lt g4)];exact c0 _ (by omega)
 obtain⟨wb,wl,wx,hwv⟩:=(fz_sl fv).form
 obtain⟨eb,heb⟩:∃eb,ev=.ptr (some (eb,0)):=by obtain⟨eb,_,_,_,h,_⟩:=re;exact⟨eb,h⟩
 have ve:veq 50 ev ev=true:=by rw[heb,veq_ptr];simp
 have l40:=NHeap.get_lt g4
 have lB:B<H0.next:=by omega
 rw[accV,k42 _ _ (by simp)]
 have plain:∀(res:Res) (h':NHeap),H0.set (B+1) (.cells (resV res (.slice none 0 0 none)) rZ)=h'→res.words=[]→Stp c (c+16) G ⟨h',newCol H0 (newCol G.h G.col fun _=>c+16) fun _=>0⟩∧MemRep ⟨h',newCol H0 (newCol G.h G.col fun _=>c+16) fun _=>0⟩ c (.ptr (some (mb,0))) μ∧Fz ⟨h',newCol H0 (newCol G.h G.col fun _=>c+16) fun _=>0⟩ 1 (.slice none 0 0 none) res.words.length (rows U res.words):=by
  intro res h' hh' hw
  have u:Upd [B+1] H0 h':=by rw[←hh'];exact(Upd.refl _ _).set (.inl (by simp)) _
  have:=wrap ⟨H0,newCol G.h G.col fun _=>c+16⟩ μ {err:=1} (.slice none 0 0 none) h' S0 r0 (cB _ (by omega)) u (Fz.nil _ _)
  rw[hw]
  exact this
 have ga':=ga
 have hH0':=hH0
 rw[hwv] at ga' hH0'
 by_cases hbad:cl<0∨μ.clients≤cl
 ·have hd:doF μ cl a=({err:=1},μ):=by unfold doF;rw[if_pos hbad]
  rw[hd]
  obtain⟨s2,r2,f2⟩:=plain {err:=1} _ rfl rfl
  refine⟨_,.slice none 0 0 none,?_,s2,r2,f2⟩
  rw[hwv]
  by_cases c1:cl<0
  ·simp only[bodyOf,Option.getD_some,go_sem,seval,Tryz.f42,hH0',hB,c1,g4,l40,resV]
   try rfl
  ·have c2:μ.clients≤cl:=by omega
   simp only[bodyOf,Option.getD_some,go_sem,seval,Tryz.f42,hH0',hB,c1,gm',c2,g4,l40,resV]
   try rfl
 have c1:¬cl<0:=by omega
 have c2:¬μ.clients≤cl:=by omega
 by_cases k5:a.kind=1∨a.kind=2∨a.kind=3∨a.kind=4∨a.kind=5
 ·have hd:doF μ cl a=slotsF μ a:=by unfold doF;rw[if_neg hbad,if_pos k5]
  rw[hd]
  obtain⟨G1,rv,e1,s1,r1,f1⟩:=slots_K hc0 r0 a wv fv0 hlt k5
  have e1':K env 95 [.ptr (some (mb,0)),.agg [.int .i64 a.kind,.int .i64 a.ref,.int .i64 a.cls,.int .i64 a.n,.int .u64 (a.was:Nat),wv]] H0=some (.agg (resV (slotsF μ a).1 rv),G1.h):=e1
  obtain⟨k4,kc,kn⟩:=keep s1 (Nat.le_refl _)
  have l4:=NHeap.get_lt k4
  obtain⟨rb,rl,rx,hrv⟩:=(fz_sl f1).form
  obtain⟨res,hres⟩:∃res,(slotsF μ a).1=res:=⟨_,rfl⟩
  rw[hres] at e1' f1 hrv⊢
  obtain⟨h',hh'⟩:∃h',G1.h.set (B+1) (.cells (resV res rv) rZ)=h':=⟨_,rfl⟩
  have u:Upd [B+1] G1.h h':=by rw[←hh'];exact(Upd.refl _ _).set (.inl (by simp)) _
  obtain⟨s2,r2,f2⟩:=wrap G1 (slotsF μ a).2 res rv h' (S0.trans s1) r1 kc u f1
  refine⟨_,rv,?_,s2,r2,f2⟩
  have kd:∀j:Int,decide (a.kind=j)=decide (a.kind=j):=fun _=>rfl
  have hh2:G1.h.set (B+1) (.cells [.int .i64 res.err,.int .i64 res.n,.bool res.ok,rv] rZ)=h':=hh'
  rw[resV] at e1'
  rw[hwv] at e1'⊢
  subst hrv
  rcases k5 with q|q|q|q|q
  ·skip
   have q1:decide (a.kind=1)=true:=decide_eq_true q
   simp only[bodyOf,Option.getD_some,go_sem,seval,Tryz.f42,hH0',hB,c1,gm',c2,ga',q1,e1',k4,l4]
   rw[←hh2]
   simp only[go_sem,seval,l4,resV]
   try rfl
  ·skip
   have q1:¬a.kind=1:=by omega
   have q2:decide (a.kind=2)=true:=decide_eq_true q
   simp only[bodyOf,Option.getD_some,go_sem,seval,Tryz.f42,hH0',hB,c1,gm',c2,ga',q1,q2,e1',k4,l4]
   rw[←hh2]
   simp only[go_sem,seval,l4,resV]
   try rfl
  ·skip
   have q1:¬a.kind=1:=by omega
   have q2:¬a.kind=2:=by omega
   have q3:decide (a.kind=3)=true:=decide_eq_true q
   simp only[bodyOf,Option.getD_some,go_sem,seval,Tryz.f42,hH0',hB,c1,gm',c2,ga',q1,q2,q3,e1',k4,l4]
   rw[←hh2]
   simp only[go_sem,seval,l4,resV]
   try rfl
  ·skip
   have q1:¬a.kind=1:=by omega
   have q2:¬a.kind=2:=by omega
   have q3:¬a.kind=3:=by omega
   have q4:decide (a.kind=4)=true:=decide_eq_true q
   simp only[bodyOf,Option.getD_some,go_sem,seval,Tryz.f42,hH0',hB,c1,gm',c2,ga',q1,q2,q3,q4,e1',k4,l4]
   rw[←hh2]
   simp only[go_sem,seval,l4,resV]
   try rfl
  ·skip
   have q1:¬a.kind=1:=by omega
   have q2:¬a.kind=2:=by omega
   have q3:¬a.kind=3:=by omega
   have q4:¬a.kind=4:=by omega
   have q5:decide (a.kind=5)=true:=decide_eq_true q
   simp only[bodyOf,Option.getD_some,go_sem,seval,Tryz.f42,hH0',hB,c1,gm',c2,ga',q1,q2,q3,q4,q5,e1',k4,l4]
   rw[←hh2]
   simp only[go_sem,seval,l4,resV]
   try rfl
 have n1:¬a.kind=1:=fun q=>k5 (by omega)
 have n2:¬a.kind=2:=fun q=>k5 (by omega)
 have n3:¬a.kind=3:=fun q=>k5 (by omega)
 have n4:¬a.kind=4:=fun q=>k5 (by omega)
 have n5:¬a.kind=5:=fun q=>k5 (by omega)
 by_cases k6:a.kind=6
 ·have q6:decide (a.kind=6)=true:=decide_eq_true k6
  by_cases kr:a.ref=μ.root
  ·have krd:decide (a.ref=μ.root)=true:=decide_eq_true kr
   have hd:doF μ cl a=({err:=1},μ):=by unfold doF;rw[if_neg hbad,if_neg k5,if_pos k6,if_pos kr]
   rw[hd]
   obtain⟨s2,r2,f2⟩:=plain {err:=1} _ rfl rfl
   refine⟨_,.slice none 0 0 none,?_,s2,r2,f2⟩
   rw[hwv]
   simp only[bodyOf,Option.getD_some,go_sem,seval,Tryz.f42,hH0',hB,c1,gm',c2,ga',n1,n2,n3,n4,n5,q6,krd,g4,l40,resV]
   try rfl
  ·have hd:doF μ cl a=({err:=(retireF μ.eps cl a.ref).1},{μ with eps:=(retireF μ.eps cl a.ref).2}):=by unfold doF;rw[if_neg hbad,if_neg k5,if_pos k6,if_neg kr]
   rw[hd]
   obtain⟨G1,e1,s1,re1⟩:=epoch.Retire_K re cl a.ref
   have e1':K env 96 [ev,.int .i64 cl,.int .i64 a.ref] H0=some (.int .i64 (retireF μ.eps cl a.ref).1,G1.h):=e1
   obtain⟨k4,kc,kn⟩:=keep s1 (Nat.le_refl _)
   have r1:=r0.epochs hc0 rfl gm s1 re1
   have l4:=NHeap.get_lt k4
   obtain⟨h',hh'⟩:∃h',G1.h.set (B+1) (.cells [.int .i64 (retireF μ.eps cl a.ref).1,.int .i64 0,.bool false,.slice none 0 0 none] rZ)=h':=⟨_,rfl⟩
   have u:Upd [B+1] G1.h h':=by rw[←hh'];exact(Upd.refl _ _).set (.inl (by simp)) _
   obtain⟨s2,r2,f2⟩:=wrap G1 _ {err:=(retireF μ.eps cl a.ref).1} (.slice none 0 0 none) h' (S0.trans (s1.mono (by omega) (by omega))) r1 kc u (Fz.nil _ _)
   refine⟨_,.slice none 0 0 none,?_,s2,r2,f2⟩
   rw[hwv]
   have kn':B+2≤G1.h.next:=by omega
   rw[heb] at gm' e1' ve
   simp only[bodyOf,Option.getD_some,go_sem,seval,Tryz.f42,hH0',hB,c1,gm',c2,ga',n1,n2,n3,n4,n5,q6,kr,e1',ve,k4,l4,kn',n0]
   rw[←hh']
   simp only[go_sem,seval,l4,resV]
   try rfl
 have n6:¬a.kind=6:=k6
 by_cases k7:a.kind=7
 ·have q7:decide (a.kind=7)=true:=decide_eq_true k7
  have hd:doF μ cl a=({n:=μ.eps.now},μ):=by unfold doF;rw[if_neg hbad,if_neg k5,if_neg n6,if_pos k7]
  rw[hd]
  have e1:=epoch.Now_K re
  have e1':K env 97 [ev] H0=some (.int .i64 μ.eps.now,H0):=e1
  obtain⟨s2,r2,f2⟩:=plain {n:=μ.eps.now} _ rfl rfl
  refine⟨_,.slice none 0 0 none,?_,s2,r2,f2⟩
  rw[hwv]
  simp only[bodyOf,Option.getD_some,go_sem,seval,Tryz.f42,hH0',hB,c1,gm',c2,ga',n1,n2,n3,n4,n5,n6,q7,e1',g4,l40,resV]
  try rfl
 have n7:¬a.kind=7:=k7
 by_cases k8:a.kind=8
 ·have q8:decide (a.kind=8)=true:=decide_eq_true k8
  have hd:doF μ cl a=({ok:=(pinF μ.eps cl a.n).1},{μ with eps:=(pinF μ.eps cl a.n).2}):=by unfold doF;rw[if_neg hbad,if_neg k5,if_neg n6,if_neg n7,if_pos k8]
  rw[hd]
  obtain⟨G1,e1,s1,re1⟩:=epoch.Pin_K re cl a.n
  have e1':K env 98 [ev,.int .i64 cl,.int .i64 a.n] H0=some (.bool (pinF μ.eps cl a.n).1,G1.h):=e1
  obtain⟨k4,kc,kn⟩:=keep s1 (Nat.le_refl _)
  have r1:=r0.epochs hc0 rfl gm s1 re1
  have l4:=NHeap.get_lt k4
  obtain⟨h',hh'⟩:∃h',G1.h.set (B+1) (.cells [.int .i64 0,.int .i64 0,.bool (pinF μ.eps cl a.n).1,.slice none 0 0 none] rZ)=h':=⟨_,rfl⟩
  have u:Upd [B+1] G1.h h':=by rw[←hh'];exact(Upd.refl _ _).set (.inl (by simp)) _
  obtain⟨s2,r2,f2⟩:=wrap G1 _ {ok:=(pinF μ.eps cl a.n).1} (.slice none 0 0 none) h' (S0.trans (s1.mono (by omega) (by omega))) r1 kc u (Fz.nil _ _)
  refine⟨_,.slice none 0 0 none,?_,s2,r2,f2⟩
  rw[hwv]
  have kn':B+2≤G1.h.next:=by omega
  rw[heb] at gm' e1' ve
  simp only[bodyOf,Option.getD_some,go_sem,seval,Tryz.f42,hH0',hB,c1,gm',c2,ga',n1,n2,n3,n4,n5,n6,n7,q8,e1',ve,k4,l4,kn',n0]
  rw[←hh']
  simp only[go_sem,seval,l4,resV]
  try rfl
 have n8:¬a.kind=8:=k8
 by_cases k9:a.kind=9
 ·have q9:decide (a.kind=9)=true:=decide_eq_true k9
  have hd:doF μ cl a=({ok:=(unpinF μ.eps cl).1},{μ with eps:=(unpinF μ.eps cl).2}):=by unfold doF;rw[if_neg hbad,if_neg k5,if_neg n6,if_neg n7,if_neg n8,if_pos k9]
  rw[hd]
  obtain⟨G1,e1,s1,re1⟩:=epoch.Unpin_K re cl
  have e1':K env 99 [ev,.int .i64 cl] H0=some (.bool (unpinF μ.eps cl).1,G1.h):=e1
  obtain⟨k4,kc,kn⟩:=keep s1 (Nat.le_refl _)
  have r1:=r0.epochs hc0 rfl gm s1 re1
  have l4:=NHeap.get_lt k4
  obtain⟨h',hh'⟩:∃h',G1.h.set (B+1) (.cells [.int .i64 0,.int .i64 0,.bool (unpinF μ.eps cl).1,.slice none 0 0 none] rZ)=h':=⟨_,rfl⟩
  have u:Upd [B+1] G1.h h':=by rw[←hh'];exact(Upd.refl _ _).set (.inl (by simp)) _
  obtain⟨s2,r2,f2⟩:=wrap G1 _ {ok:=(unpinF μ.eps cl).1} (.slice none 0 0 none) h' (S0.trans (s1.mono (by omega) (by omega))) r1 kc u (Fz.nil _ _)
  refine⟨_,.slice none 0 0 none,?_,s2,r2,f2⟩
  rw[hwv]
  have kn':B+2≤G1.h.next:=by omega
  rw[heb] at gm' e1' ve
  simp only[bodyOf,Option.getD_some,go_sem,seval,Tryz.f42,hH0',hB,c1,gm',c2,ga',n1,n2,n3,n4,n5,n6,n7,n8,q9,e1',ve,k4,l4,kn',n0]
  rw[←hh']
  simp only[go_sem,seval,l4,resV]
  try rfl
 have n9:¬a.kind=9:=k9
 by_cases k10:a.kind=10
 ·have q10:decide (a.kind=10)=true:=decide_eq_true k10
  have hd:doF μ cl a=({n:=pinOfF μ.eps a.n},μ):=by unfold doF;rw[if_neg hbad,if_neg k5,if_neg n6,if_neg n7,if_neg n8,if_neg n9,if_pos k10]
  rw[hd]
  have e1:=epoch.PinOf_K re a.n
  have e1':K env 100 [ev,.int .i64 a.n] H0=some (.int .i64 (pinOfF μ.eps a.n),H0):=e1
  obtain⟨s2,r2,f2⟩:=plain {n:=pinOfF μ.eps a.n} _ rfl rfl
  refine⟨_,.slice none 0 0 none,?_,s2,r2,f2⟩
  rw[hwv]
  rw[heb] at gm' e1' ve
  simp only[bodyOf,Option.getD_some,go_sem,seval,Tryz.f42,hH0',hB,c1,gm',c2,ga',n1,n2,n3,n4,n5,n6,n7,n8,n9,q10,e1',ve,g4,l40,resV]
  try rfl
 have n10:¬a.kind=10:=k10
 by_cases k11:a.kind=11
 ·have q11:decide (a.kind=11)=true:=decide_eq_true k11
  have hd:doF μ cl a=({ok:=(advanceF μ.eps a.n).1},{μ with eps:=(advanceF μ.eps a.n).2}):=by unfold doF;rw[if_neg hbad,if_neg k5,if_neg n6,if_neg n7,if_neg n8,if_neg n9,if_neg n10,if_pos k11]
  rw[hd]
  obtain⟨G1,e1,s1,re1⟩:=epoch.Advance_K re a.n
  have e1':K env 101 [ev,.int .i64 a.n] H0=some (.bool (advanceF μ.eps a.n).1,G1.h):=e1
  obtain⟨k4,kc,kn⟩:=keep s1 (Nat.le_refl _)
  have r1:=r0.epochs hc0 rfl gm s1 re1
  have l4:=NHeap.get_lt k4
  obtain⟨h',hh'⟩:∃h',G1.h.set (B+1) (.cells [.int .i64 0,.int .i64 0,.bool (advanceF μ.eps a.n).1,.slice none 0 0 none] rZ)=h':=⟨_,rfl⟩
  have u:Upd [B+1] G1.h h':=by rw[←hh'];exact(Upd.refl _ _).set (.inl (by simp)) _
  obtain⟨s2,r2,f2⟩:=wrap G1 _ {ok:=(advanceF μ.eps a.n).1} (.slice none 0 0 none) h' (S0.trans (s1.mono (by omega) (by omega))) r1 kc u (Fz.nil _ _)
  refine⟨_,.slice none 0 0 none,?_,s2,r2,f2⟩
  rw[hwv]
  have kn':B+2≤G1.h.next:=by omega
  rw[heb] at gm' e1' ve
  simp only[bodyOf,Option.getD_some,go_sem,seval,Tryz.f42,hH0',hB,c1,gm',c2,ga',n1,n2,n3,n4,n5,n6,n7,n8,n9,n10,q11,e1',ve,k4,l4,kn',n0]
  rw[←hh']
  simp only[go_sem,seval,l4,resV]
  try rfl
 have n11:¬a.kind=11:=k11
 by_cases k12:a.kind=12
 ·have q12:decide (a.kind=12)=true:=decide_eq_true k12
  have hd:doF μ cl a=collectM μ cl:=by unfold doF;rw[if_neg hbad,if_neg k5,if_neg n6,if_neg n7,if_neg n8,if_neg n9,if_neg n10,if_neg n11,if_pos k12]
  rw[hd]
  obtain⟨G1,e1,s1,r1,hw⟩:=collect_K hc0 r0 cl
  have e1':K env 102 [.ptr (some (mb,0)),.int .i64 cl] H0=some (.agg (resV (collectM μ cl).1 (.slice none 0 0 none)),G1.h):=e1
  obtain⟨k4,kc,kn⟩:=keep s1 (Nat.le_refl _)
  have l4:=NHeap.get_lt k4
  obtain⟨res,hres⟩:∃res,(collectM μ cl).1=res:=⟨_,rfl⟩
  rw[hres] at e1' hw⊢
  rw[resV] at e1'
  obtain⟨h',hh'⟩:∃h',G1.h.set (B+1) (.cells [.int .i64 res.err,.int .i64 res.n,.bool res.ok,.slice none 0 0 none] rZ)=h':=⟨_,rfl⟩
  have u:Upd [B+1] G1.h h':=by rw[←hh'];exact(Upd.refl _ _).set (.inl (by simp)) _
  obtain⟨s2,r2,f2⟩:=wrap G1 _ res (.slice none 0 0 none) h' (S0.trans s1) r1 kc u (by rw[hw];exact Fz.nil _ _)
  refine⟨_,.slice none 0 0 none,?_,s2,r2,f2⟩
  rw[hwv]
  simp only[bodyOf,Option.getD_some,go_sem,seval,Tryz.f42,hH0',hB,c1,gm',c2,ga',n1,n2,n3,n4,n5,n6,n7,n8,n9,n10,n11,q12,e1',k4,l4]
  rw[←hh']
  simp only[go_sem,seval,l4,resV]
  try rfl
 have n12:¬a.kind=12:=k12
 by_cases k13:a.kind=13∨a.kind=14∨a.kind=15
 ·have hd:doF μ cl a=turnF μ cl a.kind:=by unfold doF;rw[if_neg hbad,if_neg k5,if_neg n6,if_neg n7,if_neg n8,if_neg n9,if_neg n10,if_neg n11,if_neg n12,if_pos k13]
  rw[hd]
  obtain⟨h1,e1',u1,gm1⟩:=turn_H gm' cl a.kind
  obtain⟨s1,r1⟩:=memPut hc0 cm (by show mb<H0.next;omega) ra re (turnF μ cl a.kind).2.holder u1 gm1
  rw[←(turnF_eq μ cl a.kind).1] at r1
  have hw:=(turnF_eq μ cl a.kind).2
  obtain⟨k4,kc,kn⟩:=keep s1 (Nat.le_refl _)
  have k4':h1.get (B+1)=some (.cells [.int .i64 0,.int .i64 0,.bool false,.slice none 0 0 none] rZ):=k4
  have l4:=NHeap.get_lt k4'
  obtain⟨res,hres⟩:∃res,(turnF μ cl a.kind).1=res:=⟨_,rfl⟩
  rw[hres] at e1' hw⊢
  rw[resV] at e1'
  obtain⟨h',hh'⟩:∃h',h1.set (B+1) (.cells [.int .i64 res.err,.int .i64 res.n,.bool res.ok,.slice none 0 0 none] rZ)=h':=⟨_,rfl⟩
  have u:Upd [B+1] h1 h':=by rw[←hh'];exact(Upd.refl _ _).set (.inl (by simp)) _
  obtain⟨s2,r2,f2⟩:=wrap _ _ res (.slice none 0 0 none) h' (S0.trans s1) r1 kc u (by rw[hw];exact Fz.nil _ _)
  refine⟨_,.slice none 0 0 none,?_,s2,r2,f2⟩
  rw[hwv]
  have fin:∀(b13 b14 b15:Bool),True:=fun _ _ _=>trivial
  rcases k13 with q|q|q
  ·have q13:decide (a.kind=13)=true:=decide_eq_true q
   simp only[bodyOf,Option.getD_some,go_sem,seval,Tryz.f42,hH0',hB,c1,gm',c2,ga',n1,n2,n3,n4,n5,n6,n7,n8,n9,n10,n11,n12,q13,e1',k4',l4]
   rw[←hh']
   simp only[go_sem,seval,l4,resV]
   try rfl
  ·have n13:¬a.kind=13:=by omega
   have q14:decide (a.kind=14)=true:=decide_eq_true q
   simp only[bodyOf,Option.getD_some,go_sem,seval,Tryz.f42,hH0',hB,c1,gm',c2,ga',n1,n2,n3,n4,n5,n6,n7,n8,n9,n10,n11,n12,n13,q14,e1',k4',l4]
   rw[←hh']
   simp only[go_sem,seval,l4,resV]
   try rfl
  ·have n13:¬a.kind=13:=by omega
   have n14:¬a.kind=14:=by omega
   have q15:decide (a.kind=15)=true:=decide_eq_true q
   simp only[bodyOf,Option.getD_some,go_sem,seval,Tryz.f42,hH0',hB,c1,gm',c2,ga',n1,n2,n3,n4,n5,n6,n7,n8,n9,n10,n11,n12,n13,n14,q15,e1',k4',l4]
   rw[←hh']
   simp only[go_sem,seval,l4,resV]
   try rfl
 have n13:¬a.kind=13:=fun q=>k13 (by omega)
 have n14:¬a.kind=14:=fun q=>k13 (by omega)
 have n15:¬a.kind=15:=fun q=>k13 (by omega)
 have hd:doF μ cl a=({err:=1},μ):=by unfold doF;rw[if_neg hbad,if_neg k5,if_neg n6,if_neg n7,if_neg n8,if_neg n9,if_neg n10,if_neg n11,if_neg n12,if_neg k13]
 rw[hd]
 obtain⟨s2,r2,f2⟩:=plain {err:=1} _ rfl rfl
 refine⟨_,.slice none 0 0 none,?_,s2,r2,f2⟩
 rw[hwv]
 simp only[bodyOf,Option.getD_some,go_sem,seval,Tryz.f42,hH0',hB,c1,gm',c2,ga',n1,n2,n3,n4,n5,n6,n7,n8,n9,n10,n11,n12,n13,n14,n15,g4,l40,resV]
 try rfl
end mem
end Go.Proofs.YtkjpldganajkkaaGreatDoor.S
namespace Go.Proofs.YtkjpldganajkkaaGreatDoor.S
open Go Go.RowKit Go.Proofs.YtkjpldganajkkaaGreatDoor.NICE
namespace tree
open word pack mir node mem get made
def Fin (cx cx':List CX) (es es':List (EvS×NVal)) (ds ds':List (DnS×NVal)) (i:Nat) (x:CX) (g':ProgS) (o:OpS) (G':Gh) (c n:Nat):Prop:=
 (g'.answer.2=false∧cx'=cx.set i (tkX x g' ds.length)∧es'=es∧ds'=tkD ds i x g' o∧ProgAt G' (c+21+i) x.b (n+1) g')∨
 (g'.answer.2=true∧∃av,Lst G' av g'.answer.1∧cx'=cx.set i {tkX x g' ds.length with s:={(tkX x g' ds.length).s with prog:=none},bz:=false}∧es'=es++[({kind:=2,client:=i,op:=o,ans:=g'.answer.1},av)]∧ds'=setD (tkD ds i x g' o) (tkX x g' ds.length).s.done g'.answer.1 av)
end tree
end Go.Proofs.YtkjpldganajkkaaGreatDoor.S
namespace Go.Proofs.YtkjpldganajkkaaGreatDoor.S
open Go Go.RowKit Go.Proofs.YtkjpldganajkkaaGreatDoor.NICE
namespace tree
open word pack mir node mem get made
def TreeRep (G:Gh) (c tb:Nat) (s:Cfg) (n:Nat) (t:TreeS):Prop:=∃q mv ev dv cb cq cx es ds,TreeAt G c tb q s mv ev dv cb cq cx es ds n t
end tree
end Go.Proofs.YtkjpldganajkkaaGreatDoor.S
namespace Go.Proofs.YtkjpldganajkkaaGreatDoor.S
open Go Go.RowKit Go.Proofs.YtkjpldganajkkaaGreatDoor.NICE
namespace tree
open word pack mir node mem get made
theorem cloneOp {α:Type} {f:α→List NVal} (hf:∀a,(f a).length=4) (h1:∀a,allOne (f a)=true) (h:NHeap) (v:NVal) (l:List α) (hs:Rw h 4 f v l) (hl:l.length<2^30):∃v' h',K env 18 [v] h=some (v',h')∧Ext h h'∧GrowE h' v' 4 (rows f l) l.length∧∀b∈blk v',h.next≤b∧b<h'.next:=by
 obtain⟨bo,c,x,hv⟩:=hs.form
 rw[k18 _ _ (by simp)]
 cases bo with
 |none=>
  have h0:l=[]:=by
   obtain⟨_,bo',c',x',q1,_,_,q2⟩:=hs
   rw[hv] at q1
   cases q1
   rcases q2 with q2|⟨b,o,all,m,q,_⟩
   ·exact List.eq_nil_of_length_eq_zero q2
   ·cases q
  subst h0
  refine⟨.slice none 0 0 none,h,(by simp only[bodyOf,Option.getD_some,go_sem,seval,Tryz.f18,hv,neq,nilS]),Ext.refl _,.inl ⟨rfl,rfl,rfl⟩,by simp[blk]⟩
 |some a=>
  have hnl:neq Tryz.prog 6 52 v (.slice none 0 0 none)=some false:=by cases hv;rfl
  by_cases h0:l=[]
  ·subst h0
   have ap:=nappend_none (P:=Tryz.prog) Tryz.underlying52 sz55 by55 ze55 rfl (by decide) (hs.ext ((Ext.refl h).alloc (.cells [] (.own none)))) (h.next,0) 0 0 none (by decide) (by decide)
   refine⟨.slice (some (h.next,0)) 0 0 none,h.alloc (.cells [] (.own none)),?_,(Ext.refl h).alloc _,.inr (.inl ⟨_,rfl,rfl,rfl⟩),by simp[blk]⟩
   rw[hv] at hnl ap⊢
   simp only[List.length_nil] at hnl ap⊢
   simp only[bodyOf,Option.getD_some,go_sem,seval,Tryz.f18,hnl,ap]
  ·have hpos:0<l.length:=List.length_pos_iff.2 h0
   have ap:=nappend_new (P:=Tryz.prog) Tryz.underlying52 sz55 by55 ze55 rfl (by decide) (hs.ext ((Ext.refl h).alloc (.cells [] (.own none)))) (rows_one h1 l) (by omega) (by omega) hpos (some (h.next,0)) (.inr ⟨_,_,rfl⟩)
   refine⟨.slice (some (h.next+1,0)) l.length l.length (some 4),_,?_,(((Ext.refl h).alloc (.cells [] (.own none))).alloc (.cells (rows f l) (.own (some (55,0))))),?_,?_⟩
   ·rw[hv] at hnl ap⊢
    simp only[bodyOf,Option.getD_some,go_sem,seval,Tryz.f18,hnl,ap]
   ·refine .inr (.inr ⟨h.next+1,some 4,some (55,0),rfl,.inr rfl,by simp[NHeap.get_alloc],by rw[rows_len hf],hpos⟩)
   ·simp[blk]
theorem Right_K (h:NHeap) (o:OpS) (clients:Int) (hk:okOp o 1 clients=true) (hl:o.term.length<2^26):∃h',K env 17 [.agg (opV o),.int .i64 clients] h=some (.bool true,h')∧Ext h h':=by
 obtain⟨H0,hH0⟩:∃H0,h.alloc (.cells (opV o) (.own none))=H0:=⟨_,rfl⟩
 have x0:Ext h H0:=by rw[←hH0];exact(Ext.refl _).alloc _
 have g0:H0.get h.next=some (.cells (opV o) (.own none)):=by rw[←hH0];simp[NHeap.get_alloc]
 obtain⟨p,b,h1,_,e1,x1,_,_⟩:=made_K ⟨H0,fun _=>0⟩ o 1 1 clients hk hl
 obtain⟨H2,hH2⟩:∃H2,h1.alloc (.cells noProg pZ)=H2:=⟨_,rfl⟩
 have x2:Ext h1 H2:=by rw[←hH2];exact(Ext.refl _).alloc _
 have l2:h1.next<H2.next:=by rw[←hH2];show h1.next<h1.next+1;omega
 have g2:H2.get h1.next=some (.cells noProg pZ):=by rw[←hH2];simp[NHeap.get_alloc]
 obtain⟨H3,hH3⟩:∃H3,H2.set h1.next (.cells (progV p b) pZ)=H3:=⟨_,rfl⟩
 have x3:Ext h1 H3:=by rw[←hH3];exact x2.set (Nat.le_refl _) _
 refine⟨H3,?_,(x0.trans x1).trans x3⟩
 simp only[opV,progV,P] at e1 hH0 g0 hH3⊢
 rw[k17 _ _ (by simp)]
 simp only[bodyOf,Option.getD_some,go_sem,seval,Tryz.f17,hH0,g0,e1,hH2,g2,l2,hH3]
 try rfl
theorem right1_K (h:NHeap) (o:OpS) (clients:Int) (hk:okOp o 1 clients=true) (hl:o.term.length<2^26) {fb:Nat} {cfg:List NVal} {m:Own} (gf:h.get fb=some (.cells cfg m)) (h5:cfg[5]? =some (.int .i64 clients)):
  ∃h',K env 16 [.agg (opV o),P fb] h=some (.bool false,h')∧Ext h h':=by
 obtain⟨H0,hH0⟩:∃H0,h.alloc (.cells (opV o) (.own none))=H0:=⟨_,rfl⟩
 have x0:Ext h H0:=by rw[←hH0];exact(Ext.refl _).alloc _
 have g0:H0.get h.next=some (.cells (opV o) (.own none)):=by rw[←hH0];simp[NHeap.get_alloc]
 have gf0:=x0.get gf
 obtain⟨h1,e1,x1⟩:=Right_K H0 o clients hk hl
 refine⟨h1,?_,x0.trans x1⟩
 simp only[opV,P] at e1 hH0 g0⊢
 rw[k16 _ _ (by simp)]
 simp only[bodyOf,Option.getD_some,go_sem,seval,Tryz.f16,hH0,g0,gf0,h5,e1]
 try rfl
noncomputable def lbIx:Code:=inC (inC (atC (bodyOf Tryz.f39) 2))
theorem loopIx (hA:NHeap) (v:NVal) (l:List OpS) (hs:Rw hA 4 opV v l) (clients:Int) (hok:∀o∈l,okOp o 1 clients=true∧o.term.length<2^26) (hlen:l.length<2^30) {fb:Nat} {cfg:List NVal} {m:Own} (gf:hA.get fb=some (.cells cfg m)) (h5:cfg[5]? =some (.int .i64 clients)) (Q:Out→Prop)
  (hQ:∀(h:NHeap) (F:Fr),Ext hA h→Q (some (.exit 0,toL 19 F,h))):
  ∀(f i:Nat) (h:NHeap) (F:Fr),i+f=l.length→Ext hA h→F 0=v→F 1=.func (.func 16) [] [P fb]→F 7=.int .i64 (l.length:Nat)→F 8=.int .i64 (i:Nat)→Q (C env (.loop lbIx) (toL 19 F) h):=by
 intro f
 induction f with
 |zero=>
  intro i h F hi x f0 f1 f7 f8
  have:i=l.length:=by omega
  subst this
  rw[S_loop]
  conv=>arg 1;arg 2;arg 2;simp only[lbIx,bodyOf,Option.getD_some,atC,seqL,inC,elC,List.nil_append,List.cons_append,List.getElem?_cons_succ,List.getElem?_cons_zero,Tryz.f39]
  simp only[go_sem,seval,f7,f8]
  exact hQ h _ x
 |succ f ih=>
  intro i h F hi x f0 f1 f7 f8
  have hil:i<l.length:=by omega
  have c0:(0:Int)≤(i:Int):=by omega
  have i1:(i:Int)<(l.length:Int):=by omega
  obtain⟨o,ho⟩:∃o,l[i]? =some o:=⟨l[i],List.getElem?_eq_getElem hil⟩
  have w1:IntKind.i64.wrap ((i:Int)+1)=((i+1:Nat):Int):=by rw[wrap_i64_small (by omega) (by omega)];omega
  obtain⟨ob,oo,oc,oy,oall,om,hov,gO,rowO,leO⟩:=Sl.elem (f:=opV) (k:=4) (fun _=>rfl) (hs.ext x) ho
  obtain⟨k1,k2⟩:=hok o (List.mem_of_getElem? ho)
  obtain⟨h1,e1,x1⟩:=right1_K h o clients k1 k2 (x.get gf) h5
  subst hov
  simp only[opV,P] at rowO e1 f1
  rw[S_loop]
  conv=>arg 1;arg 2;arg 2;simp only[lbIx,bodyOf,Option.getD_some,atC,seqL,inC,elC,List.nil_append,List.cons_append,List.getElem?_cons_succ,List.getElem?_cons_zero,Tryz.f39]
  simp only[go_sem,seval,f0,f1,f7,f8,i1,c0,gO,rowO,leO,e1,w1]
  refine ih (i+1) h1 _ (by omega) (x.trans x1) ?_ ?_ ?_ ?_
  ·simp only[go_sem,seval,f0]
  ·simp only[go_sem,seval,f1,P]
  ·simp only[go_sem,seval,f7]
  ·simp only[go_sem,seval]
theorem contains_K (h:NHeap) (v:NVal) (l:List OpS) (hs:Rw h 4 opV v l) (clients:Int) (hok:∀o∈l,okOp o 1 clients=true∧o.term.length<2^26) (hlen:l.length<2^30) {fb:Nat} {cfg:List NVal} {m:Own} (gf:h.get fb=some (.cells cfg m)) (h5:cfg[5]? =some (.int .i64 clients)):
  ∃h',K env 15 [v,.func (.func 16) [] [P fb]] h=some (.bool false,h')∧Ext h h':=by
 obtain⟨vb,vc,vx,hv⟩:=hs.form
 have ix:∃h',K env 39 [v,.func (.func 16) [] [P fb]] h=some (.int .i64 (-1),h')∧Ext h h':=by
  rw[k39 _ _ (by simp)]
  simp only[P]
  rw[hv]
  simp only[bodyOf,Option.getD_some,go_sem,seval,Tryz.f39]
  have key:=fun rest=>loopIx h v l hs clients hok hlen gf h5 (fun r=>∃h',outF Tryz.prog [.tmp 4] (thenD env (blockC 0 r) rest)=some (.int .i64 (-1),h')∧Ext h h')
  simp only[lbIx,bodyOf,Option.getD_some,atC,seqL,inC,elC,List.nil_append,List.cons_append,List.getElem?_cons_succ,List.getElem?_cons_zero,Tryz.f39] at key
  refine key _ ?_ l.length 0 h _ (by omega) (Ext.refl _) ?_ ?_ ?_ ?_
  ·intro h' F x
   refine⟨h',?_,x⟩
   simp only[go_sem,seval]
   try rfl
  ·simp only[go_sem,seval,hv]
  ·simp only[go_sem,seval,P]
  ·simp only[go_sem,seval]
  ·simp only[go_sem,seval]
 obtain⟨h',e,x⟩:=ix
 refine⟨h',?_,x⟩
 simp only[P] at e⊢
 rw[hv] at e⊢
 rw[k15 _ _ (by simp)]
 simp only[bodyOf,Option.getD_some,go_sem,seval,Tryz.f15,e]
 try rfl
end tree
end Go.Proofs.YtkjpldganajkkaaGreatDoor.S
namespace Go.Proofs.YtkjpldganajkkaaGreatDoor.S
open Go Go.RowKit Go.Proofs.YtkjpldganajkkaaGreatDoor.NICE
namespace tree
open word pack mir node mem get made
abbrev opR (p:NVal×List OpS):List NVal:=[p.1]
structure LL (G:Gh) (v:NVal) (ls:List (NVal×List OpS)):Prop where
 fz:Fz G 1 v ls.length (rows opR ls)
 el:∀p∈ls,Fz G 4 p.1 p.2.length (rows opV p.2)∧p.2.length<2^28
theorem LL.step {lo hi:Nat} {G G':Gh} (S:Stp lo hi G G') (h0:0<lo) {v ls} (r:LL G v ls):LL G' v ls:=⟨r.fz.step S h0,fun p hp=>⟨(r.el p hp).1.step S h0,(r.el p hp).2⟩⟩
theorem okOp_mono (o:OpS) (tries clients:Int) (ht:1≤tries) (h:okOp o 1 clients=true):okOp o tries clients=true:=by
 unfold okOp put.okPut drop.okDrop at*
 simp only[Bool.or_eq_true,Bool.and_eq_true,decide_eq_true_eq] at*
 rcases h with(((h|h)|h)|h)|h
 ·exact .inl (.inl (.inl (.inl h)))
 ·exact .inl (.inl (.inl (.inr h)))
 ·exact .inl (.inl (.inr ⟨h.1,ht⟩))
 ·exact .inl (.inr ⟨h.1,ht⟩)
 ·exact .inr h
abbrev zX:CX:=⟨{},.slice none 0 0 none,0,false⟩
structure Part (G:Gh) (ls:List (NVal×List OpS)) (n k:Nat) (cx:List CX):Prop where
 len:cx.length=n
 at_:∀(i:Nat) (x:CX),cx[i]? =some x→x.s={ops:=if i<k then(ls.map (·.2)).getD i [] else[]}∧x.bz=false∧Fz G 4 x.ov x.s.ops.length (rows opV x.s.ops)∧x.s.ops.length<2^28
theorem Part.step {lo hi:Nat} {G G':Gh} (S:Stp lo hi G G') (h0:0<lo) {ls n k cx} (p:Part G ls n k cx):Part G' ls n k cx:=⟨p.len,fun i x hx=>by obtain⟨a,b,c,d⟩:=p.at_ i x hx;exact⟨a,b,c.step S h0,d⟩⟩
theorem Part.set {G:Gh} {ls:List (NVal×List OpS)} {n k:Nat} {cx:List CX} (p:Part G ls n k cx) (hk:k<n) (e:NVal×List OpS) (he:ls[k]? =some e) (ov:NVal) (hf:Fz G 4 ov e.2.length (rows opV e.2)) (hl:e.2.length<2^28):Part G ls n (k+1) (cx.set k ⟨{ops:=e.2},ov,0,false⟩):=by
 have hd:(ls.map (·.2)).getD k []=e.2:=by rw[List.getD_eq_getElem?_getD,List.getElem?_map,he];rfl
 refine⟨by rw[List.length_set];exact p.len,fun i x hx=>?_⟩
 by_cases hik:i=k
 ·subst hik
  rw[List.getElem?_set_self (by rw[p.len];exact hk)] at hx
  rw[←Option.some.inj hx]
  exact⟨by rw[if_pos (by omega),hd],rfl,hf,hl⟩
 ·rw[List.getElem?_set_ne (Ne.symm hik)] at hx
  obtain⟨a,b,c,d⟩:=p.at_ i x hx
  refine⟨?_,b,c,d⟩
  rw[a]
  by_cases h:i<k
  ·rw[if_pos h,if_pos (by omega)]
  ·rw[if_neg h,if_neg (by omega)]
theorem Part.zero (G:Gh) (ls:List (NVal×List OpS)) (n:Nat):Part G ls n 0 (List.replicate n zX):=by
 refine⟨by simp,fun i x hx=>?_⟩
 have:=(List.mem_replicate.1 (List.mem_of_getElem? hx)).2
 subst this
 exact⟨by simp,rfl,Fz.nil _ _,by decide⟩
theorem TC.setCb {G:Gh} {c tb:Nat} {q s mv ev dv cb cq cx es ds t} (T:TC G c tb q s mv ev dv cb cq cx es ds t) (cx':List CX) (hl:cx'.length=cx.length):TC ⟨G.h.set cb (.cells (rows clC cx') (.own cq)),newCol G.h G.col fun _=>0⟩ c tb q s mv ev dv cb cq cx' es ds t∧Stp (c+18) (c+19) G ⟨G.h.set cb (.cells (rows clC cx') (.own cq)),newCol G.h G.col fun _=>0⟩:=by
 have u:Upd [cb] G.h (G.h.set cb (.cells (rows clC cx') (.own cq))):=(Upd.refl _ _).set (.inl (by simp)) _
 have net:tb∉[cb]:=fun h=>by simp at h;have:=T.ct;have:=T.cc;rw[h] at*;omega
 have ltb:=NHeap.get_lt T.gt
 have lcb:=NHeap.get_lt T.gc
 refine⟨⟨by rw[hl];exact u.get T.gt net,by show newCol G.h G.col (fun _=>0) tb=_;rw[newCol_old ltb];exact T.ct,NHeap.get_set_same lcb,by show newCol G.h G.col (fun _=>0) cb=_;rw[newCol_old lcb];exact T.cc,?_,?_,by rw[hl];exact T.c8,T.mp,T.el,T.dl,T.ea,T.da⟩,Stp.of_upd u (fun d hd _=>by simp at hd;subst hd;have:=T.cc;omega) _⟩
 ·exact T.ev.upd u (fun d hd hm=>by simp at hm;subst hm;have:=(T.ev.blk d hd).2;have:=T.cc;omega) _
 ·exact T.dv.upd u (fun d hd hm=>by simp at hm;subst hm;have:=(T.dv.blk d hd).2;have:=T.cc;omega) _
noncomputable def lbNw:Code:=inC (inC (atC (bodyOf Tryz.f6) 6))
theorem loopNw {c tb:Nat} {q:Option (TypeId×Nat)} {s:Cfg} {mv:NVal} {cb:Nat} {cq:Option (TypeId×Nat)} {t:TreeS} (hc0:0<c) (G0:Gh) (v:NVal) (ls:List (NVal×List OpS)) (L0:LL G0 v ls) (n:Nat) (hn:ls.length≤n) (hn8:n≤8) (hok:∀p∈ls,∀o∈p.2,okOp o 1 t.m.clients=true∧o.term.length<2^26) (fb:Nat) {cfg:List NVal} {m:Own} (gf:G0.h.get fb=some (.cells cfg m)) (cf:G0.col fb=0) (h5:cfg[5]? =some (.int .i64 t.m.clients)) (Q:Out→Prop)
  (hQ:∀(G:Gh) (F:Fr) (cx:List CX),Stp (c+18) (c+19) G0 G→TC G c tb q s mv nilS0 nilS0 cb cq cx [] [] t→Part G ls n ls.length cx→F 8=P tb→Q (some (.exit 0,toL 53 F,G.h))):
  ∀(f i:Nat) (G:Gh) (F:Fr) (cx:List CX),i+f=ls.length→Stp (c+18) (c+19) G0 G→TC G c tb q s mv nilS0 nilS0 cb cq cx [] [] t→Part G ls n i cx→F 2=P fb→F 8=P tb→F 32=v→F 33=.int .i64 (ls.length:Nat)→F 34=.int .i64 (i:Nat)→Q (C env (.loop lbNw) (toL 53 F) G.h):=by
 intro f
 induction f with
 |zero=>
  intro i G F cx hi S T p f2 f8 f32 f33 f34
  have:i=ls.length:=by omega
  subst this
  rw[S_loop]
  conv=>arg 1;arg 2;arg 2;simp only[lbNw,bodyOf,Option.getD_some,atC,seqL,inC,elC,List.nil_append,List.cons_append,List.getElem?_cons_succ,List.getElem?_cons_zero,Tryz.f6]
  simp only[go_sem,seval,f33,f34]
  refine hQ G _ cx S T p ?_
  simp only[go_sem,seval,f8]
 |succ f ih=>
  intro i G F cx hi S T p f2 f8 f32 f33 f34
  have hil:i<ls.length:=by omega
  have c0:(0:Int)≤(i:Int):=by omega
  have i1:(i:Int)<(ls.length:Int):=by omega
  obtain⟨e,he⟩:∃e,ls[i]? =some e:=⟨ls[i],List.getElem?_eq_getElem hil⟩
  have w1:IntKind.i64.wrap ((i:Int)+1)=((i+1:Nat):Int):=by rw[wrap_i64_small (by omega) (by omega)];omega
  have L:=L0.step S (by omega)
  obtain⟨ob,oo,oc,oy,oall,om,hov,gO,rowO,leO⟩:=Sl.elem (f:=opR) (k:=1) (fun _=>rfl) (arena.fz_sl L.fz) he
  have cell:oall[oo+i]? =some e.1:=by
   have:=congrArg (fun l=>l[0]?) rowO
   simp only[List.getElem?_take,List.getElem?_drop] at this
   rw[Nat.mul_one] at this
   simpa using this
  obtain⟨fe,fl⟩:=L.el e (List.mem_of_getElem? he)
  have gf':=S.get gf (by rw[cf];omega)
  obtain⟨h1,e1,x1⟩:=contains_K G.h e.1 e.2 (arena.fz_sl fe) t.m.clients (hok e (List.mem_of_getElem? he)) (by omega) gf' h5
  obtain⟨ov',h2,e2,x2,g2,n2⟩:=cloneOp (f:=opV) (fun _=>rfl) (fun _=>rfl) h1 e.1 e.2 ((arena.fz_sl fe).ext x1) (by omega)
  obtain⟨ebo,ec,ey,hev⟩:=(arena.fz_sl fe).form
  obtain⟨vbo,vc,vy,hov'⟩:=g2.sl.form
  have S2:∀lo hi,Stp lo hi G ⟨h2,newCol G.h G.col fun _=>0⟩:=fun lo hi=>Stp.of_ext _ _ (x1.trans x2) _
  have T2:=T.step (S2 0 0) (.inl (by omega))
  have p2:=p.step (S2 1 1) (by omega)
  have fo:Fz ⟨h2,newCol G.h G.col fun _=>0⟩ 4 ov' e.2.length (rows opV e.2):=sl_fz g2.sl fun b hb=>newCol_new (by have:=x1.next;have:=n2 b hb;omega)
  obtain⟨T3,S3⟩:=T2.setCb (cx.set i ⟨{ops:=e.2},ov',0,false⟩) List.length_set
  have p3:=(p2.set (by omega) e he ov' fo fl).step S3 (by omega)
  obtain⟨x,hx⟩:∃x,cx[i]? =some x:=⟨cx[i]'(by rw[p.len];omega),List.getElem?_eq_getElem _⟩
  obtain⟨z1,z2,z3,z4⟩:=p.at_ i x hx
  rw[if_neg (by omega)] at z1
  have hset:setRange (rows clC cx) (i*9) [ov']=rows clC (cx.set i ⟨{ops:=e.2},ov',0,false⟩):=by
   have:=rows_setR clC_len hx (x':=⟨{ops:=e.2},ov',0,false⟩) (j:=0) (vs:=[ov']) (by unfold clC;rw[z1,z2];simp[prV,setRange]) (by simp)
   rw[Nat.add_zero] at this
   exact this
  have hl9:i*9+1≤(rows clC cx).length:=by rw[rows_len clC_len,p.len];omega
  obtain⟨mb,hmv⟩:=T.mp
  have gt0:=(T.step (Stp.of_ext 0 0 x1 fun _=>0) (.inl (by omega))).gt
  have gc0:=(T.step (Stp.of_ext 0 0 x1 fun _=>0) (.inl (by omega))).gc
  have gt2:=T2.gt
  have gc2:=T2.gc
  have l2:=NHeap.get_lt gc2
  have cl0:(i:Int)<(cx.length:Int):=by rw[p.len];omega
  simp only at gt0 gc0 gt2 gc2 l2 hset
  obtain⟨H3,hH3⟩:∃H3,h2.set cb (.cells (rows clC (cx.set i ⟨{ops:=e.2},ov',0,false⟩)) (.own cq))=H3:=⟨_,rfl⟩
  simp only[hH3] at T3 S3 p3
  have le2:=x2.next
  have le3:h2.next≤H3.next:=by rw[←hH3,NHeap.next_set];exact Nat.le_refl _
  subst hov
  simp only[treeC,hmv,nilS0,P,hev,hov'] at gt0 gt2 e1 e2 f2 f8 cell hset hH3
  rw[S_loop]
  conv=>arg 1;arg 2;arg 2;simp only[lbNw,bodyOf,Option.getD_some,atC,seqL,inC,elC,List.nil_append,List.cons_append,List.getElem?_cons_succ,List.getElem?_cons_zero,Tryz.f6]
  simp only[go_sem,seval,↓S_drawnY,y_nil,y_plain,y_guard,yGuard_true,yGuard_false,yGo_val,yGo_read,yGo_none,yAgain_true,yNew_some,yNew_none,yChk_true,yDo_some,yEnd_true,looseY_nil,looseY_cons,chainB,afterOf,Bool.or_true,Bool.or_false,Bool.true_or,Bool.false_or,Bool.and_true,Bool.true_and,Bool.false_and,Bool.and_false,true_or,or_true,f2,f8,f32,f33,f34,i1,c0,gO,cell,e1,e2,gt0,gc0,gt2,gc2,l2,cl0,hl9,hset,hH3,le2,le3,w1]
  refine ih (i+1) ⟨H3,_⟩ _ _ (by omega) ((S.trans (S2 _ _)).trans S3) T3 p3 ?_ ?_ ?_ ?_ ?_
  ·simp only[go_sem,seval,f2,P]
  ·simp only[go_sem,seval,f8,P]
  ·simp only[go_sem,seval,f32]
  ·simp only[go_sem,seval,f33]
  ·simp only[go_sem,seval]
end tree
end Go.Proofs.YtkjpldganajkkaaGreatDoor.S
