/-
  Nice37, Nice38, Nice39, Nice40, Nice41, as one text. Proved step by step; no conditions beside what is said.
-/
import Derived.Attr
import Derived.Laws.Externs
import GoSem.Extern.SlicesOverlaps
import Derived.Test.YtkjpldganajkkaaGreatDoorQ6
set_option linter.unusedSimpArgs false
set_option linter.unusedVariables false
set_option linter.unusedSectionVars false
set_option maxRecDepth 100000
namespace Go.Proofs.YtkjpldganajkkaaGreatDoor.NICE
open Go Go.RowKit
variable {P:Program} {E:Env P drStatic}
def gEdge (e:Edge):Bool:=match e.ground with| .textOnly _=>false| .gcOnly _=>false|_=>true
theorem gEdge_binds (e:Edge):gEdge e=Region.binds .any e:=by
 unfold gEdge Region.binds
 cases e.ground<;>rfl
def tieOf (tl:List Nat):Nat→List Edge→Nat
 |0,_=>0
 |_+1,[]=>0
 |n+1,e::l=>max (if gEdge e then tl.getD e.on 0 else 0) (tieOf tl n l)
theorem masks_take {l:List Oper} {i:Nat} (j:Nat) (hj:j<i):(masksOf (l.take i)).getD j 0=(masksOf l).getD j 0:=by
 conv=>rhs;rw[←List.take_append_drop i l]
 unfold masksOf
 rw[List.foldl_append]
 obtain⟨r,hr⟩:=masks_grow (l.drop i) ((l.take i).foldl (fun acc o=>acc++[maskOf acc o]) [])
 rw[hr]
 by_cases hl:j<l.length
 ·have hlen:((l.take i).foldl (fun acc o=>acc++[maskOf acc o]) []).length=min i l.length:=by rw[masks_len];simp
  rw[List.getD_eq_getElem?_getD,List.getD_eq_getElem?_getD,List.getElem?_append_left (by omega)]
 ·have hlen:((l.take i).foldl (fun acc o=>acc++[maskOf acc o]) []).length=min i l.length:=by rw[masks_len];simp
  have hd:l.drop i=[]:=List.drop_of_length_le (by omega)
  rw[hd] at hr
  simp only[List.foldl_nil] at hr
  have:r=[]:=by simpa using hr
  rw[this,List.append_nil]
theorem masks_at' {l:List Oper} {i:Nat} {o:Oper} (h:l[i]? =some o):(masksOf l).getD i 0=maskOf (masksOf (l.take i)) o:=by
 have hi:i<l.length:=(List.getElem?_eq_some_iff.1 h).1
 have e:l=l.take i++o::l.drop (i+1):=by
  conv=>lhs;rw[←List.take_append_drop i l]
  congr 1
  rw[List.drop_eq_getElem_cons hi]
  congr 1
  exact(List.getElem?_eq_some_iff.1 h).2
 conv=>lhs;rw[e]
 show(List.getD (List.foldl _ _ (l.take i++o::l.drop (i+1))) i 0)=_
 rw[List.foldl_append,List.foldl_cons]
 obtain⟨r,hr⟩:=masks_grow (l.drop (i+1)) ((l.take i).foldl (fun acc o=>acc++[maskOf acc o]) []++[maskOf ((l.take i).foldl (fun acc o=>acc++[maskOf acc o]) []) o])
 rw[hr]
 have hl:((l.take i).foldl (fun acc o=>acc++[maskOf acc o]) []).length=i:=by rw[masks_len];simp;omega
 rw[List.getD_eq_getElem?_getD,List.append_assoc,List.getElem?_append_right (by omega),hl]
 simp[masksOf]
theorem mask_over (acc:List Nat) (b:Nat):∀(l:List Edge) (s:Nat) (e:Edge),e∈l→Region.binds .any e=true→(e.on=b∨(acc.getD e.on 0).testBit b=true)→(l.foldl (fun s e=>if Region.binds .any e then s|||2^e.on|||acc.getD e.on 0 else s) s).testBit b=true
 |[],s,e,h,_,_=>by cases h
 |x::l,s,e,h,hb,hc=>by
  rw[List.foldl_cons]
  cases h with
  |head=>
   refine mask_keep acc b l _ ?_
   rw[if_pos hb]
   rcases hc with rfl|hc
   ·simp[Nat.testBit_or,Nat.testBit_two_pow_self]
   ·simp only[Nat.testBit_or,hc,Bool.or_true]
  |tail _ h=>exact mask_over acc b l _ e h hb hc
theorem tie_mem (tl:List Nat):∀(n:Nat) (l:List Edge) (q:Nat),q<tieOf tl n l→∃e∈l,gEdge e=true∧q<tl.getD e.on 0
 |0,l,q,h=>by simp[tieOf] at h
 |n+1,[],q,h=>by simp[tieOf] at h
 |n+1,e::l,q,h=>by
  unfold tieOf at h
  by_cases hg:gEdge e=true
  ·rw[if_pos hg] at h
   by_cases h1:q<tl.getD e.on 0
   ·exact⟨e,by simp,hg,h1⟩
   ·obtain⟨e',h2,h3⟩:=tie_mem tl n l q (by omega)
    exact⟨e',by simp[h2],h3⟩
  ·rw[if_neg hg] at h
   obtain⟨e',h2,h3⟩:=tie_mem tl n l q (by omega)
   exact⟨e',by simp[h2],h3⟩
def TieOk (M:List Nat) (ei tl:List Nat) (i:Nat):Prop:=tl.length=i∧∀(j t:Nat),tl[j]? =some t→t≤ei.length∧∀(q k:Nat),q<t→ei[q]? =some k→k=j∨((M.getD j 0).testBit k=true∧∀b,(M.getD k 0).testBit b=true→(M.getD j 0).testBit b=true)
theorem tie_le {M ei tl:List Nat} {i:Nat} (ht:TieOk M ei tl i):∀(n:Nat) (l:List Edge),tieOf tl n l≤ei.length
 |0,l=>by simp[tieOf]
 |n+1,[]=>by simp[tieOf]
 |n+1,e::l=>by
  unfold tieOf
  have ih:=tie_le ht n l
  have:tl.getD e.on 0≤ei.length:=by
   by_cases h:e.on<tl.length
   ·have:=(ht.2 e.on tl[e.on] (List.getElem?_eq_getElem h)).1
    rwa[List.getD_eq_getElem?_getD,List.getElem?_eq_getElem h]
   ·rw[List.getD_eq_getElem?_getD,List.getElem?_eq_none (by omega)];simp
  split<;>omega
theorem tie_bit {l:List Oper} {i:Nat} {o:Oper} (ho:l[i]? =some o) {ei tl:List Nat} (ht:TieOk (masksOf l) ei tl i) {n q k:Nat} (hq:q<tieOf tl n o.after.toList) (hk:ei[q]? =some k):
  ((masksOf l).getD i 0).testBit k=true∧∀b,((masksOf l).getD k 0).testBit b=true→((masksOf l).getD i 0).testBit b=true:=by
 obtain⟨e,he,hg,h1⟩:=tie_mem tl n _ q hq
 have hlt:e.on<i:=by
  by_cases h:e.on<tl.length
  ·rw[←ht.1];exact h
  ·rw[List.getD_eq_getElem?_getD,List.getElem?_eq_none (by omega)] at h1;simp at h1
 obtain⟨t,htl⟩:∃t,tl[e.on]? =some t:=⟨tl[e.on]'(by rw[ht.1];exact hlt),List.getElem?_eq_getElem _⟩
 have h1':q<t:=by rw[List.getD_eq_getElem?_getD,htl] at h1;exact h1
 have over:∀b,e.on=b∨((masksOf l).getD e.on 0).testBit b=true→((masksOf l).getD i 0).testBit b=true:=fun b hb=>by
  rw[masks_at' ho]
  unfold maskOf
  refine mask_over _ b _ 0 e he (by rw[←gEdge_binds];exact hg) ?_
  rw[masks_take _ hlt]
  exact hb
 rcases(ht.2 _ _ htl).2 q k h1' hk with h2|⟨h2,h3⟩
 ·subst h2
  exact⟨over _ (.inl rfl),fun b hb=>over b (.inr hb)⟩
 ·exact⟨over _ (.inr h2),fun b hb=>over b (.inr (h3 b hb))⟩
abbrev RdL:=List (Nat×Oper×List NVal×NVal)
def loose (es:List Edge) (rd:RdL):RdL:=rd.filter fun r=>!edgeB r.1 es
open Classical in
noncomputable def seqX (E:Env P drStatic) (ops:Array Oper):List Oper→Nat→List NVal→NHeap→List NHeap→List Nat→List Nat→RdL→List Float3→Nat→Option (List NVal×NHeap)
 |[],i,ts,h,hs,ei,tl,rd,pend,nid=>some (ts,adoptAll h pend)
 |o::rest,i,ts,h,hs,ei,tl,rd,pend,nid=>match nwanted ops o ts with
  |none=>none
  |some false=>seqX E ops rest (i+1) (nput ts o.dst nundef) h hs ei (tl++[tieOf tl 4 o.after.toList]) rd pend nid
  |some true=>match eStep P (ev ts) h o.op with
   |some (false,v)=>seqX E ops rest (i+1) (nput ts o.dst v) h hs ei (tl++[tieOf tl 4 o.after.toList]) rd pend nid
   |some (true,v)=>if veq 50 v v=true∧∀H∈hs.drop (tieOf tl 4 o.after.toList),readOp P (ev ts) H o.op=some v then seqX E ops rest (i+1) (nput ts o.dst v) h hs ei (tl++[tieOf tl 4 o.after.toList]) (rd++[(i,o,ts,v)]) pend nid else none
   |none=>match floats (newOp P (ev ts) o.op) with
    |some (cs,mk)=>seqX E ops rest (i+1) (nput ts o.dst (mk nid)) h hs ei (tl++[tieOf tl 4 o.after.toList]) rd (pend++[(i,nid,cs)]) (nid+1)
    |none=>if ei.length≤tieOf tl 4 o.after.toList∧allEdge o.after.toList (pend.map (·.1))=true then
      match doOp P (K E) (ev ts) o (adoptAll h pend) with
      |none=>none
      |some (v,h')=>if(adoptAll h pend).next≤h'.next∧∀r∈loose o.after.toList rd,readOp P (ev r.2.2.1) h' r.2.1.op=some r.2.2.2 then
        seqX E ops rest (i+1) (nput ts o.dst v) h' (hs++[h]) (ei++[i]) (tl++[ei.length+1]) (loose o.after.toList rd) [] nid else none
     else none
theorem TieOk.push {l:List Oper} {i:Nat} {o:Oper} (ho:l[i]? =some o) {ei tl:List Nat} (ht:TieOk (masksOf l) ei tl i) (n:Nat):TieOk (masksOf l) ei (tl++[tieOf tl n o.after.toList]) (i+1):=by
 refine⟨by simp[ht.1],fun j t hj=>?_⟩
 rcases Nat.lt_or_ge j tl.length with z|z
 ·rw[List.getElem?_append_left z] at hj;exact ht.2 j t hj
 ·rw[List.getElem?_append_right z] at hj
  have hji:j=i:=by
   cases hz:j-tl.length with
   |zero=>have:=ht.1;omega
   |succ m=>rw[hz] at hj;simp at hj
  subst hji
  rw[show j-tl.length=0 by have:=ht.1;omega] at hj
  simp at hj
  subst hj
  exact⟨tie_le ht _ _,fun q k hq hk=>.inr (tie_bit ho ht hq hk)⟩
theorem TieOk.eff {l:List Oper} {i:Nat} {o:Oper} (ho:l[i]? =some o) {ei tl:List Nat} (ht:TieOk (masksOf l) ei tl i) (n:Nat) (hn:ei.length≤tieOf tl n o.after.toList):TieOk (masksOf l) (ei++[i]) (tl++[ei.length+1]) (i+1):=by
 refine⟨by simp[ht.1],fun j t hj=>?_⟩
 rcases Nat.lt_or_ge j tl.length with z|z
 ·rw[List.getElem?_append_left z] at hj
  obtain⟨h1,h2⟩:=ht.2 j t hj
  exact⟨by simp;omega,fun q k hq hk=>by
   rw[List.getElem?_append_left (by omega)] at hk;exact h2 q k hq hk⟩
 ·rw[List.getElem?_append_right z] at hj
  have hji:j=i:=by
   cases hz:j-tl.length with
   |zero=>have:=ht.1;omega
   |succ m=>rw[hz] at hj;simp at hj
  subst hji
  rw[show j-tl.length=0 by have:=ht.1;omega] at hj
  simp at hj
  subst hj
  refine⟨by simp,fun q k hq hk=>?_⟩
  rcases Nat.lt_or_ge q ei.length with y|y
  ·rw[List.getElem?_append_left y] at hk
   exact .inr (tie_bit (n:=n) ho ht (by omega) hk)
  ·rw[List.getElem?_append_right y,show q-ei.length=0 by omega] at hk
   simp at hk
   exact .inl hk.symm
theorem ReadOk.next {M:List Nat} {st st':St} {r} (hr:ReadOk P M st r) {i:Nat} (hl:st.hs.length=st.ei.length+1) (he:st'.ei=st.ei++[i]) {h':NHeap} (hh:st'.hs=st.hs++[h'])
  (hall:∀(q k:Nat),st.ei[q]? =some k→∀b,(M.getD k 0).testBit b=true→(M.getD i 0).testBit b=true)
  (hc:(M.getD i 0).testBit r.1=true∨readOp P (ev r.2.2.1) h' r.2.1.op=some r.2.2.2):ReadOk P M st' r:=by
 by_cases hb:(M.getD i 0).testBit r.1=true
 ·exact hr.step hl (.inr ⟨he,hb⟩) ⟨[h'],hh⟩
 ·have hc:readOp P (ev r.2.2.1) h' r.2.1.op=some r.2.2.2:=hc.resolve_left hb
  obtain⟨lo,hi,h00,h0,h2,h3,h4⟩:=hr.ok
  have hhi:hi=st.ei.length:=by
   rcases Nat.lt_or_ge hi st.ei.length with z|z
   ·obtain⟨k,hk⟩:∃k,st.ei[hi]? =some k:=⟨st.ei[hi],List.getElem?_eq_getElem z⟩
    exact absurd (hall hi k hk _ ((h4 hi k hk).2 (Nat.le_refl _))) hb
   ·omega
  refine⟨⟨lo,hi+1,by omega,by rw[he];simp;omega,fun k a b=>?_,h3,fun q j hq=>?_⟩⟩
  ·rcases Nat.lt_or_ge hi k with z|z
   ·refine⟨h',?_,hc⟩
    rw[hh,show k=st.hs.length by omega,List.getElem?_append_right (Nat.le_refl _)]
    simp
   ·obtain⟨H,e1,e2⟩:=h2 k a z
    exact⟨H,by rw[hh,List.getElem?_append_left (by omega)];exact e1,e2⟩
  ·rw[he] at hq
   rcases Nat.lt_or_ge q st.ei.length with z|z
   ·rw[List.getElem?_append_left z] at hq
    exact⟨fun h=>(h4 q j hq).1 h,fun h=>by omega⟩
   ·have:q<st.ei.length+1:=by
     have:=(List.getElem?_eq_some_iff.1 hq).1;simpa using this
    exact⟨fun h=>by omega,fun h=>by omega⟩
theorem seqX_run {ops:Array Oper}:∀{l:List Oper} {i:Nat} {st:St} {hs:List NHeap} {tl:List Nat} {rd:RdL} {r:List NVal×NHeap},
  (∀k o,l[k]? =some o→ops.toList[i+k]? =some o)→st.hs.length=st.ei.length+1→st.hs[st.ei.length]? =some st.h→(∀x∈st.reads,ReadOk P (masksOf ops.toList) st x)→
  (∀x∈st.reads,x∈rd∨∃(q k:Nat),st.ei[q]? =some k∧((masksOf ops.toList).getD k 0).testBit x.1=true)→
  st.hs=hs++[st.h]→TieOk (masksOf ops.toList) st.ei tl i→
  seqX E ops l i st.ts st.h hs st.ei tl rd st.pend st.nid=some r→
  ∃st',runE P (K E) ops (masksOf ops.toList) i l st=some st'∧r=(st'.ts,adoptAll st'.h st'.pend)∧(∀x∈st'.reads,ReadOk P (masksOf ops.toList) st' x)∧st'.hs.length=st'.ei.length+1∧st'.nid≤st.nid+rowsIn l
 |[],i,st,hs,tl,rd,r,hops,h1,h2,h3,h4,h5,h6,e=>by
  simp only[seqX,Option.some.injEq] at e
  exact⟨st,rfl,e.symm,h3,h1,Nat.le_add_right _ _⟩
 |o::rest,i,st,hs,tl,rd,r,hops,h1,h2,h3,h4,h5,h6,e=>by
  have ho:ops.toList[i]? =some o:=by simpa using hops 0 o rfl
  have hops':∀k o',rest[k]? =some o'→ops.toList[i+1+k]? =some o':=fun k o' hk=>by
   have:=hops (k+1) o' (by simpa using hk);rwa[show i+(k+1)=i+1+k by omega] at this
  unfold seqX at e
  have same:∀(ts:List NVal) (v:NVal) (c:Cls) x,x∈st.reads→ReadOk P (masksOf ops.toList) {st with ts:=ts,v:=v,c:=c} x:=fun ts v c x hx=>(h3 x hx).step (i:=i) h1 (.inl rfl) ⟨[],by simp⟩
  have h6':=h6.push ho 4
  cases hw:nwanted ops o st.ts with
  |none=>rw[hw] at e;cases e
  |some b=>
   rw[hw] at e
   cases b with
   |false=>
    simp only at e
    obtain⟨st',r1,r2,r3,r4,r5⟩:=seqX_run (i:=i+1) (st:={st with ts:=nput st.ts o.dst nundef,v:=nundef,c:=.skip}) hops' h1 h2 (same _ _ _) h4 h5 h6' e
    exact⟨st',by unfold runE stepE;rw[hw];exact r1,r2,r3,r4,by rw[rowsIn_cons];exact Nat.le_trans r5 (by simp<;>omega)⟩
   |true=>
    simp only at e
    cases hp:pureOp P (ev st.ts) o.op with
    |some v=>
     have he:eStep P (ev st.ts) st.h o.op=some (false,v):=by unfold eStep;rw[hp]
     rw[he] at e
     simp only at e
     obtain⟨st',r1,r2,r3,r4,r5⟩:=seqX_run (i:=i+1) (st:={st with ts:=nput st.ts o.dst v,v:=v,c:=.val}) hops' h1 h2 (same _ _ _) h4 h5 h6' e
     exact⟨st',by unfold runE stepE;rw[hw];simp only;rw[hp];exact r1,r2,r3,r4,by rw[rowsIn_cons];exact Nat.le_trans r5 (by simp<;>omega)⟩
    |none=>
     cases hr:readOp P (ev st.ts) st.h o.op with
     |some v=>
      have he:eStep P (ev st.ts) st.h o.op=some (true,v):=by unfold eStep;rw[hp];simp only;rw[hr]
      rw[he] at e
      simp only at e
      split at e
      case isFalse=>cases e
      case isTrue hc=>
       have hl:hs.length=st.ei.length:=by have:=h1;rw[h5] at this;simpa using this
       have hti:=tie_le h6 4 o.after.toList
       obtain⟨st',r1,r2,r3,r4,r5⟩:=seqX_run (i:=i+1) (st:={st with ts:=nput st.ts o.dst v,v:=v,c:=.val,reads:=st.reads++[(i,o,st.ts,v)]}) (rd:=rd++[(i,o,st.ts,v)]) hops' h1 h2 (fun x hx=>by
        rw[List.mem_append] at hx
        rcases hx with hx|hx
        ·exact(h3 x hx).step (i:=i) h1 (.inl rfl) ⟨[],by simp⟩
        ·rw[List.mem_singleton] at hx
         subst hx
         refine⟨⟨tieOf tl 4 o.after.toList,st.ei.length,hti,Nat.le_refl _,fun k a b=>?_,hc.1,fun q j hq=>⟨fun hlt=>(tie_bit ho h6 hlt hq).1,fun hge=>?_⟩⟩⟩
         ·show∃H,st.hs[k]? =some H∧_
          rcases Nat.lt_or_ge k hs.length with z|z
          ·exact⟨hs[k],by rw[h5,List.getElem?_append_left z];simp[z],hc.2 _ (by
            rw[List.mem_iff_getElem?]
            exact⟨k-tieOf tl 4 o.after.toList,by rw[List.getElem?_drop,show tieOf tl 4 o.after.toList+(k-tieOf tl 4 o.after.toList)=k by omega];exact List.getElem?_eq_getElem z⟩)⟩
          ·refine⟨st.h,?_,hr⟩
           rw[show k=st.ei.length by omega];exact h2
         ·have:=(List.getElem?_eq_some_iff.1 hq).1
          simp only at this;omega) (fun x hx=>by
        rw[List.mem_append] at hx
        rcases hx with hx|hx
        ·rcases h4 x hx with h|h
         ·exact .inl (List.mem_append_left _ h)
         ·exact .inr h
        ·exact .inl (List.mem_append_right _ hx)) h5 h6' e
       exact⟨st',by unfold runE stepE;rw[hw];simp only;rw[hp];simp only;rw[hr];exact r1,r2,r3,r4,by rw[rowsIn_cons];exact Nat.le_trans r5 (by simp<;>omega)⟩
     |none=>
      have he:eStep P (ev st.ts) st.h o.op=none:=by unfold eStep;rw[hp];simp only;rw[hr]
      rw[he] at e
      simp only at e
      cases hf:floats (newOp P (ev st.ts) o.op) with
      |some p=>
       obtain⟨cs,mk⟩:=p
       rw[hf] at e
       simp only at e
       obtain⟨st',r1,r2,r3,r4,r5⟩:=seqX_run (i:=i+1) (st:={st with ts:=nput st.ts o.dst (mk st.nid),v:=mk st.nid,c:=.flt st.nid cs,pend:=st.pend++[(i,st.nid,cs)],nid:=st.nid+1}) hops' h1 h2 (fun x hx=>(h3 x hx).step (i:=i) h1 (.inl rfl) ⟨[],by simp⟩) h4 h5 h6' e
       refine⟨st',by unfold runE stepE;rw[hw];simp only;rw[hp];simp only;rw[hr];simp only;rw[floats_some hf];exact r1,r2,r3,r4,?_⟩
       rw[rowsIn_cons,floats_rows hf]
       exact Nat.le_trans r5 (by simp<;>omega)
      |none=>
       rw[hf] at e
       simp only at e
       split at e
       case isFalse=>cases e
       case isTrue hc=>
        cases hd:doOp P (K E) (ev st.ts) o (adoptAll st.h st.pend) with
        |none=>rw[hd] at e;cases e
        |some q=>
         obtain⟨v,h'⟩:=q
         rw[hd] at e
         simp only at e
         split at e
         case isFalse=>cases e
         case isTrue hnx=>
          have hbit:∀(q k:Nat),st.ei[q]? =some k→((masksOf ops.toList).getD i 0).testBit k=true∧∀b,((masksOf ops.toList).getD k 0).testBit b=true→((masksOf ops.toList).getD i 0).testBit b=true:=fun q k hk=>
           tie_bit ho h6 (n:=4) (by have:=(List.getElem?_eq_some_iff.1 hk).1;omega) hk
          have hall:st.pend.filter (fun x=>((masksOf ops.toList).getD i 0).testBit x.1)=st.pend:=List.filter_eq_self.2 fun x hx=>edge_bit ho (allEdge_mem hc.2 x.1 (List.mem_map_of_mem hx))
          have hnone:st.pend.filter (fun x=>!((masksOf ops.toList).getD i 0).testBit x.1)=[]:=List.filter_eq_nil_iff.2 fun x hx=>by rw[edge_bit ho (allEdge_mem hc.2 x.1 (List.mem_map_of_mem hx))];simp
          have hei:st.ei.all (fun j=>((masksOf ops.toList).getD i 0).testBit j)=true:=List.all_eq_true.2 fun j hj=>by
           obtain⟨q,hq⟩:=List.mem_iff_getElem?.1 hj
           exact(hbit q j hq).1
          have tied:∀x∈st.reads,((masksOf ops.toList).getD i 0).testBit x.1=true∨x∈loose o.after.toList rd:=fun x hx=>by
           rcases h4 x hx with h|⟨q,k,h,h'⟩
           ·by_cases hb:edgeB x.1 o.after.toList=true
            ·exact .inl (edge_bit ho hb)
            ·exact .inr (List.mem_filter.2 ⟨h,by simpa using hb⟩)
           ·exact .inl ((hbit q k h).2 _ h')
          obtain⟨st',r1,r2,r3,r4,r5⟩:=seqX_run (i:=i+1) (st:={st with ts:=nput st.ts o.dst v,h:=h',hs:=st.hs++[h'],ls:=st.ls++[st.pend],ei:=st.ei++[i],pend:=[],v:=v,c:=.eff (st.ei.length+1)}) (rd:=loose o.after.toList rd) hops' (by simp[h1]) (by simp only[List.length_append,List.length_singleton];rw[List.getElem?_append_right (by omega)];simp[h1])
           (fun x hx=>(h3 x hx).next h1 (st':={st with ts:=nput st.ts o.dst v,h:=h',hs:=st.hs++[h'],ls:=st.ls++[st.pend],ei:=st.ei++[i],pend:=[],v:=v,c:=.eff (st.ei.length+1)}) (i:=i) rfl rfl (fun q k hk b hb=>(hbit q k hk).2 b hb) ((tied x hx).imp id (fun h=>hnx.2 x h)))
           (fun x hx=>by
            rcases tied x hx with h|h
            ·exact .inr ⟨st.ei.length,i,by simp,h⟩
            ·exact .inl h)
           (by rw[h5]) (h6.eff ho 4 hc.1) e
          refine⟨st',?_,r2,r3,r4,by rw[rowsIn_cons];exact Nat.le_trans r5 (by simp<;>omega)⟩
          have hse:stepE P (K E) ops (masksOf ops.toList) i o st=some {st with ts:=nput st.ts o.dst v,h:=h',hs:=st.hs++[h'],ls:=st.ls++[st.pend],ei:=st.ei++[i],pend:=[],v:=v,c:=.eff (st.ei.length+1)}:=by
           unfold stepE
           rw[hw];simp only;rw[hp];simp only;rw[hr];simp only
           have hfn:=floats_none hf
           split
           ·rename_i cs mk heq;exact absurd heq (hfn cs mk)
           ·simp only[hall,hnone,hd,hei]
            rw[if_pos (by simpa using hnx.1)]
          unfold runE
          rw[hse]
          exact r1
theorem drawn_X {ops:Array Oper} {ts:List NVal} {h:NHeap} {r:List NVal×NHeap} (e:seqX E ops ops.toList 0 ts (reserve (rowsIn ops.toList) h) [] [] [] [] [] h.next=some r):drawnOps P (K E) ops ts h=some r:=by
 obtain⟨st',r1,r2,r3,r4,r5⟩:=seqX_run (E:=E) (l:=ops.toList) (i:=0) (st:={ts:=ts,h:=reserve (rowsIn ops.toList) h,hs:=[reserve (rowsIn ops.toList) h],ls:=[],ei:=[],pend:=[],nid:=h.next,reads:=[],v:=nundef,c:=.skip}) (rd:=[]) (fun k o hk=>by simpa using hk) rfl rfl (fun x hx=>by cases hx) (fun x hx=>by cases hx) (hs:=[]) (tl:=[]) rfl ⟨rfl,fun j t hj=>by simp at hj⟩ e
 unfold drawnOps
 simp only[←rowsIn_eq]
 rw[r1]
 simp only
 have hreads:(st'.reads.all fun r=>readAgain P (masksOf ops.toList) st'.ei r 0 st'.hs)=true:=List.all_eq_true.2 fun x hx=>readAgain_of (r3 x hx) st'.hs 0 (fun q H hq=>by simpa using hq) (by omega)
 simp only at r5
 rw[if_pos (by simp[hreads,r5]),r2]
theorem S_drawX (id ops ts h):C E (.region id ops true) ts h=drawL E ops ts h (seqX E ops ops.toList 0 ts (reserve (rowsIn ops.toList) h) [] [] [] [] [] h.next):=by
 rw[C_draw]
 unfold drawL
 split
 ·rename_i ts' h' e
  rw[drawn_X e];rfl
 ·rfl
theorem ifc {α:Type} {p q:Prop} {_:Decidable p} {_:Decidable q} (h:p↔q) (a b:α):(if p then a else b)=if q then a else b:=by
 by_cases hp:p
 ·rw[if_pos hp,if_pos (h.1 hp)]
 ·rw[if_neg hp,if_neg fun hq=>hp (h.2 hq)]
section
variable (E) (ops:Array Oper) (o:Oper) (rest:List Oper) (i:Nat) (ts:List NVal) (h:NHeap) (hs:List NHeap) (ei tl:List Nat) (rd:RdL) (pend:List Float3) (nid:Nat)
def looseOk (P:Program) (h':NHeap):RdL→Prop
 |[]=>True
 |r::l=>readOp P (ev r.2.2.1) h' r.2.1.op=some r.2.2.2∧looseOk P h' l
theorem looseOk_iff {P:Program} {h':NHeap}:∀(l:RdL),looseOk P h' l↔∀r∈l,readOp P (ev r.2.2.1) h' r.2.1.op=some r.2.2.2
 |[]=>by simp[looseOk]
 |r::l=>by simp[looseOk,looseOk_iff l]
theorem looseOk_nil {P:Program} {h':NHeap}:looseOk P h' []=True:=rfl
theorem looseOk_cons {P:Program} {h':NHeap} (j:Nat) (dst op ty pos after guard) (us:List NVal) (v:NVal) (l:RdL):looseOk P h' ((j,⟨dst,op,ty,pos,after,guard⟩,us,v)::l)=(readOp P (ev us) h' op=some v∧looseOk P h' l):=rfl
theorem loose_nil (es:List Edge):loose es []=[]:=rfl
theorem loose_cons (es:List Edge) (j:Nat) (x) (l:RdL):loose es ((j,x)::l)=cond (edgeB j es) (loose es l) ((j,x)::loose es l):=by
 unfold loose
 rw[List.filter_cons]
 cases edgeB j es<;>rfl
open Classical in
noncomputable def xAgain (v:NVal) (b:Bool) (p:Prop):Option (List NVal×NHeap):=if b=true∧p then seqX E ops rest (i+1) (nput ts o.dst v) h hs ei (tl++[tieOf tl 4 o.after.toList]) (rd++[(i,o,ts,v)]) pend nid else none
open Classical in
noncomputable def xEnd (v:NVal) (h':NHeap) (p q:Prop):Option (List NVal×NHeap):=if p∧q then seqX E ops rest (i+1) (nput ts o.dst v) h' (hs++[h]) (ei++[i]) (tl++[ei.length+1]) (loose o.after.toList rd) [] nid else none
noncomputable def xDo (n:Nat) (x:Option (NVal×NHeap)):Option (List NVal×NHeap):=match x with
 |none=>none
 |some (v,h')=>xEnd E ops o rest i ts h hs ei tl rd nid v h' (n≤h'.next) (looseOk P h' (loose o.after.toList rd))
noncomputable def xChk (b c:Bool):Option (List NVal×NHeap):=if b=true∧c=true then xDo E ops o rest i ts h hs ei tl rd nid (adoptAll h pend).next (doK P (K E) (ev ts) o.op (adoptAll h pend)) else none
noncomputable def xNew (x:Option (List NVal×(Nat→NVal))):Option (List NVal×NHeap):=match x with
 |some (cs,mk)=>seqX E ops rest (i+1) (nput ts o.dst (mk nid)) h hs ei (tl++[tieOf tl 4 o.after.toList]) rd (pend++[(i,nid,cs)]) (nid+1)
 |none=>xChk E ops o rest i ts h hs ei tl rd pend nid (decide (ei.length≤tieOf tl 4 o.after.toList)) (allEdge o.after.toList (pend.map (·.1)))
noncomputable def xGo (x:Option (Bool×NVal)):Option (List NVal×NHeap):=match x with
 |some (false,v)=>seqX E ops rest (i+1) (nput ts o.dst v) h hs ei (tl++[tieOf tl 4 o.after.toList]) rd pend nid
 |some (true,v)=>xAgain E ops o rest i ts h hs ei tl rd pend nid v (veq 50 v v) (readsAll P (ev ts) o.op v (hs.drop (tieOf tl 4 o.after.toList)))
 |none=>xNew E ops o rest i ts h hs ei tl rd pend nid (floats (newOp P (ev ts) o.op))
noncomputable def xGuard (g:Option Bool):Option (List NVal×NHeap):=match g with
 |none=>none
 |some false=>seqX E ops rest (i+1) (nput ts o.dst nundef) h hs ei (tl++[tieOf tl 4 o.after.toList]) rd pend nid
 |some true=>xGo E ops o rest i ts h hs ei tl rd pend nid (eStep P (ev ts) h o.op)
theorem x_nil:seqX E ops [] i ts h hs ei tl rd pend nid=some (ts,adoptAll h pend):=rfl
theorem x_cons:seqX E ops (o::rest) i ts h hs ei tl rd pend nid=xGuard E ops o rest i ts h hs ei tl rd pend nid (nwanted ops o ts):=by
 rw[seqX]
 unfold xGuard xGo xNew xChk xDo xAgain xEnd
 cases nwanted ops o ts with
 |none=>rfl
 |some b=>
  cases b with
  |false=>rfl
  |true=>
   simp only
   cases eStep P (ev ts) h o.op with
   |some p=>
    obtain⟨b,v⟩:=p
    cases b with
    |false=>rfl
    |true=>
     simp only
     have:=readsAll_iff (P:=P) (ρ:=ev ts) (op:=o.op) (v:=v) (hs.drop (tieOf tl 4 o.after.toList))
     exact ifc (and_congr Iff.rfl this.symm) _ _
   |none=>
    simp only
    cases floats (newOp P (ev ts) o.op) with
    |some p=>rfl
    |none=>
     simp only[decide_eq_true_eq]
     rw[doK_eq]
     split
     ·cases doOp P (K E) (ev ts) o (adoptAll h pend) with
      |none=>rfl
      |some q=>exact ifc (and_congr Iff.rfl (looseOk_iff _).symm) _ _
     ·rfl
theorem xGuard_true:xGuard E ops o rest i ts h hs ei tl rd pend nid (some true)=xGo E ops o rest i ts h hs ei tl rd pend nid (eStep P (ev ts) h o.op):=rfl
theorem xGuard_false:xGuard E ops o rest i ts h hs ei tl rd pend nid (some false)=seqX E ops rest (i+1) (nput ts o.dst nundef) h hs ei (tl++[tieOf tl 4 o.after.toList]) rd pend nid:=rfl
theorem xGo_val (v:NVal):xGo E ops o rest i ts h hs ei tl rd pend nid (some (false,v))=seqX E ops rest (i+1) (nput ts o.dst v) h hs ei (tl++[tieOf tl 4 o.after.toList]) rd pend nid:=rfl
theorem xGo_read (v:NVal):xGo E ops o rest i ts h hs ei tl rd pend nid (some (true,v))=xAgain E ops o rest i ts h hs ei tl rd pend nid v (veq 50 v v) (readsAll P (ev ts) o.op v (hs.drop (tieOf tl 4 o.after.toList))):=rfl
theorem xGo_none:xGo E ops o rest i ts h hs ei tl rd pend nid none=xNew E ops o rest i ts h hs ei tl rd pend nid (floats (newOp P (ev ts) o.op)):=rfl
theorem xAgain_true (v:NVal):xAgain E ops o rest i ts h hs ei tl rd pend nid v true True=seqX E ops rest (i+1) (nput ts o.dst v) h hs ei (tl++[tieOf tl 4 o.after.toList]) (rd++[(i,o,ts,v)]) pend nid:=by
 unfold xAgain;rw[if_pos ⟨rfl,trivial⟩]
theorem xNew_some (cs mk):xNew E ops o rest i ts h hs ei tl rd pend nid (some (cs,mk))=seqX E ops rest (i+1) (nput ts o.dst (mk nid)) h hs ei (tl++[tieOf tl 4 o.after.toList]) rd (pend++[(i,nid,cs)]) (nid+1):=rfl
theorem xNew_none:xNew E ops o rest i ts h hs ei tl rd pend nid none=xChk E ops o rest i ts h hs ei tl rd pend nid (decide (ei.length≤tieOf tl 4 o.after.toList)) (allEdge o.after.toList (pend.map (·.1))):=rfl
theorem xChk_true:xChk E ops o rest i ts h hs ei tl rd pend nid true true=xDo E ops o rest i ts h hs ei tl rd nid (adoptAll h pend).next (doK P (K E) (ev ts) o.op (adoptAll h pend)):=rfl
theorem xDo_some (n v h'):xDo E ops o rest i ts h hs ei tl rd nid n (some (v,h'))=xEnd E ops o rest i ts h hs ei tl rd nid v h' (n≤h'.next) (looseOk P h' (loose o.after.toList rd)):=rfl
theorem xEnd_true (v h'):xEnd E ops o rest i ts h hs ei tl rd nid v h' True True=seqX E ops rest (i+1) (nput ts o.dst v) h' (hs++[h]) (ei++[i]) (tl++[ei.length+1]) (loose o.after.toList rd) [] nid:=by
 unfold xEnd;rw[if_pos ⟨trivial,trivial⟩]
end
theorem x_plain (ops dst op ty pos after rest i ts h hs ei tl rd pend nid):seqX E ops (⟨dst,op,ty,pos,after,none⟩::rest) i ts h hs ei tl rd pend nid=xGo E ops ⟨dst,op,ty,pos,after,none⟩ rest i ts h hs ei tl rd pend nid (eStep P (ev ts) h op):=by
 rw[x_cons];rfl
theorem x_guard (ops dst op ty pos after j want rest i n F h hs ei tl rd pend nid):seqX E ops (⟨dst,op,ty,pos,after,some (j,want)⟩::rest) i (toL n F) h hs ei tl rd pend nid=
  xGuard E ops ⟨dst,op,ty,pos,after,some (j,want)⟩ rest i (toL n F) h hs ei tl rd pend nid (match(ops[j]?).bind (·.dst) with
  |none=>some false
  |some d=>match(if d<n then some (F d) else none) with
   |some (.bool b)=>some (b==want)
   |some .junk=>none
   |_=>some false):=by
 rw[x_cons]
 unfold nwanted
 simp only[toL_get?]
 rfl
theorem tieOf_nil (tl:List Nat) (n:Nat):tieOf tl n []=0:=by cases n<;>rfl
theorem tieOf_zero (tl:List Nat) (l:List Edge):tieOf tl 0 l=0:=rfl
theorem tieOf_cons (tl:List Nat) (n:Nat) (e:Edge) (l:List Edge):tieOf tl (n+1) (e::l)=max (if gEdge e then tl.getD e.on 0 else 0) (tieOf tl n l):=rfl
theorem S_drawn' (id ops ts h):C E (.region id ops true) ts h=if quiet ops.toList=true then drawD E ops ts h (seqRO P ops ops.toList ts h) (rowsIn ops.toList) else drawL E ops ts h (seqX E ops ops.toList 0 ts (reserve (rowsIn ops.toList) h) [] [] [] [] [] h.next):=by
 split
 ·exact S_draw _ _ _ _
 ·exact S_drawX _ _ _ _
end Go.Proofs.YtkjpldganajkkaaGreatDoor.NICE
namespace Go.Proofs.YtkjpldganajkkaaGreatDoor.NICE
open Go Go.RowKit
theorem veq_bool (n:Nat) (a b:Bool):veq (n+1) (.bool a) (.bool b)=(a==b):=rfl
theorem veq_int (n:Nat) (j k:IntKind) (a b:Int):veq (n+1) (.int j a) (.int k b)=(decide (j=k)&&decide (a=b)):=rfl
theorem veq_str (n:Nat) (a b:List UInt8):veq (n+1) (.str a) (.str b)=decide (a=b):=rfl
theorem veq_ptr (n:Nat) (a b:Option (Nat×Nat)):veq (n+1) (.ptr a) (.ptr b)=decide (a=b):=rfl
theorem veq_slice (n:Nat) (a b:Option (Nat×Nat)) (l l' c c':Nat) (e e':Option Nat):veq (n+1) (.slice a l c e) (.slice b l' c' e')=(decide (a=b)&&decide (l=l')&&decide (c=c')&&decide (e=e')):=rfl
theorem veq_map (n:Nat) (a b:Option Nat):veq (n+1) (.map a) (.map b)=decide (a=b):=rfl
theorem veq_func (n:Nat) (f g:Fn) (a b c d:List NVal):veq (n+1) (.func f a b) (.func g c d)=(decide (f=g)&&veqs n a c&&veqs n b d):=rfl
theorem veq_nilFunc (n:Nat):veq (n+1) .nilFunc .nilFunc=true:=rfl
theorem veq_iface (n:Nat) (t u:TypeId) (a b:NVal):veq (n+1) (.iface t a) (.iface u b)=(decide (t=u)&&veq n a b):=rfl
theorem veq_nilIface (n:Nat):veq (n+1) .nilIface .nilIface=true:=rfl
theorem veq_agg (n:Nat) (a b:List NVal):veq (n+1) (.agg a) (.agg b)=veqs n a b:=rfl
theorem veq_tuple (n:Nat) (a b:List NVal):veq (n+1) (.tuple a) (.tuple b)=veqs n a b:=rfl
theorem veqs_nil (n:Nat):veqs n [] []=true:=by cases n<;>rfl
theorem veqs_cons (n:Nat) (a b:NVal) (l m:List NVal):veqs (n+1) (a::l) (b::m)=(veq n a b&&veqs n l m):=rfl
attribute [go_sem] veq_bool veq_int veq_str veq_ptr veq_slice veq_map veq_func veq_nilFunc veq_iface veq_nilIface veq_agg veq_tuple veqs_nil veqs_cons
attribute [go_sem] S_seq
attribute [go_sem] S_cond
attribute [go_sem] C_block
attribute [go_sem] C_seqs
attribute [go_sem] C_skip
attribute [go_sem] C_ret
attribute [go_sem] C_exit
attribute [go_sem] S_nil
attribute [go_sem] S_plain
attribute [go_sem] restS_some
attribute [go_sem] normal_some
attribute [go_sem] nput_toL
attribute [go_sem] nput_toL_none
attribute [go_sem] ev_toL
attribute [go_sem] ev_func
attribute [go_sem] ev_bool
attribute [go_sem] ev_int
attribute [go_sem] ev_str
attribute [go_sem] ev_ptr
attribute [go_sem] ev_slice
attribute [go_sem] ev_map
attribute [go_sem] ev_nilFunc
attribute [go_sem] ev_nilIface
attribute [go_sem] do_move
attribute [go_sem] do_assign
attribute [go_sem] do_pick
attribute [go_sem] do_build
attribute [go_sem] do_nilCheck
attribute [go_sem] do_binOp
attribute [go_sem] do_unOp
attribute [go_sem] do_makeInterface
attribute [go_sem] do_makeFunc
attribute [go_sem] do_slice
attribute [go_sem] do_fieldAddr
attribute [go_sem] do_field
attribute [go_sem] do_indexAddr
attribute [go_sem] do_index
attribute [go_sem] do_extract
attribute [go_sem] do_typeAssert
attribute [go_sem] do_load
attribute [go_sem] do_alloc
attribute [go_sem] do_box
attribute [go_sem] do_buildSlice
attribute [go_sem] do_makeSlice
attribute [go_sem] do_makeMap
attribute [go_sem] do_store
attribute [go_sem] do_len
attribute [go_sem] do_cap
attribute [go_sem] do_min
attribute [go_sem] do_max
attribute [go_sem] do_append
attribute [go_sem] do_call
attribute [go_sem] do_convert
attribute [go_sem] do_lookup
attribute [go_sem] withH_some
attribute [go_sem] allocH_some
attribute [go_sem] bind1_some
attribute [go_sem] bind2_some
attribute [go_sem] orElseH_some
attribute [go_sem] orElseH_none
attribute [go_sem] kPick_bool
attribute [go_sem] kNil_ptr
attribute [go_sem] kExtract_tuple
attribute [go_sem] kBox_some
attribute [go_sem] kLoad_ptr
attribute [go_sem] callK_some
attribute [go_sem] bin_add
attribute [go_sem] bin_sub
attribute [go_sem] bin_mul
attribute [go_sem] bin_eql
attribute [go_sem] bin_neq
attribute [go_sem] bin_lss
attribute [go_sem] bin_leq
attribute [go_sem] bin_gtr
attribute [go_sem] bin_geq
attribute [go_sem] str_eql
attribute [go_sem] str_neq
attribute [go_sem] str_lss
attribute [go_sem] str_leq
attribute [go_sem] str_gtr
attribute [go_sem] str_geq
attribute [go_sem] not_bool
attribute [go_sem] thenD_normal
attribute [go_sem] thenD_exit
attribute [go_sem] thenD_ret
attribute [go_sem] condD_true
attribute [go_sem] condD_false
attribute [go_sem] blockC_normal
attribute [go_sem] blockC_ret
attribute [go_sem] blockC_other
attribute [go_sem] evs
attribute [go_sem] evParts
attribute [go_sem] kLen
attribute [go_sem] NVal.cells
attribute [go_sem] stepS_true
attribute [go_sem] stepS_false
attribute [go_sem] S_guardF
attribute [go_sem] quiet
attribute [go_sem] quietO
attribute [go_sem] Bool.false_and
attribute [go_sem] Bool.true_and
attribute [go_sem] Bool.and_false
attribute [go_sem] drawL_some
attribute [go_sem] readsAll
attribute [go_sem] readOp_load
attribute [go_sem] adoptAll_nil
attribute [go_sem] adoptAll_cons
attribute [go_sem] reserve_zero
attribute [go_sem] reserve_succ
attribute [go_sem] floats_cells
attribute [go_sem] floats_nothing
attribute [go_sem] valE_some
attribute [go_sem] readE_some
attribute [go_sem] es_move
attribute [go_sem] es_assign
attribute [go_sem] es_pick
attribute [go_sem] es_build
attribute [go_sem] es_nilCheck
attribute [go_sem] es_binOp
attribute [go_sem] es_unOp
attribute [go_sem] es_slice
attribute [go_sem] es_fieldAddr
attribute [go_sem] es_indexAddr
attribute [go_sem] es_index
attribute [go_sem] es_extract
attribute [go_sem] es_load
attribute [go_sem] es_len
attribute [go_sem] es_store
attribute [go_sem] es_call
attribute [go_sem] es_append
attribute [go_sem] es_copy
attribute [go_sem] es_clear
attribute [go_sem] es_alloc
attribute [go_sem] es_box
attribute [go_sem] es_buildSlice
attribute [go_sem] es_makeSlice
attribute [go_sem] es_convP
attribute [go_sem] esConv_some
attribute [go_sem] esConv_none
attribute [go_sem] roConv_some
attribute [go_sem] roConv_none
attribute [go_sem] nconv
attribute [go_sem] allEdge
attribute [go_sem] edgeB
attribute [go_sem] List.map_cons
attribute [go_sem] List.map_nil
attribute [go_sem] drawD_some
attribute [go_sem] rowsIn_nil
attribute [go_sem] rowsIn_cons
attribute [go_sem] makesRow
attribute [go_sem] ro_nil
attribute [go_sem] ro_plain
attribute [go_sem] ro_guardF
attribute [go_sem] roGuard_true
attribute [go_sem] roGuard_false
attribute [go_sem] roRest_some
attribute [go_sem] ro_move
attribute [go_sem] ro_assign
attribute [go_sem] ro_pick
attribute [go_sem] ro_nilCheck
attribute [go_sem] ro_binOp
attribute [go_sem] ro_fieldAddr
attribute [go_sem] ro_indexAddr
attribute [go_sem] ro_load
attribute [go_sem] ro_len
attribute [go_sem] upd_at
attribute [go_sem] cond_true
attribute [go_sem] cond_false
attribute [go_sem] nresult_toL
attribute [go_sem] nresult_cell
attribute [go_sem] argF_zero
attribute [go_sem] argF_succ
attribute [go_sem] argF_nil
attribute [go_sem] toL_get?
attribute [go_sem] toL_length
attribute [go_sem] updL_nil
attribute [go_sem] updL_cons
attribute [go_sem] seg_zero
attribute [go_sem] seg_succ
attribute [go_sem] kMin
attribute [go_sem] nmin
attribute [go_sem] kMax
attribute [go_sem] nmax
attribute [go_sem] kFunc
attribute [go_sem] Bool.or_true
attribute [go_sem] Bool.true_or
attribute [go_sem] Bool.or_false
attribute [go_sem] Bool.false_or
attribute [go_sem] Bool.and_self
attribute [go_sem] Nat.le_refl
attribute [go_sem] Int.cast_ofNat_Int
attribute [go_sem] Int.lt_irrefl
attribute [go_sem] outF_ret
attribute [go_sem] outF_normal
attribute [go_sem] finR
attribute [go_sem] beqT
attribute [go_sem] beqF
attribute [go_sem] nresults
attribute [go_sem] oneOr
attribute [go_sem] List.getElem?_cons_zero
attribute [go_sem] List.getElem?_cons_succ
attribute [go_sem] List.getElem?_nil
attribute [go_sem] Option.bind_some
attribute [go_sem] Option.bind_none
attribute [go_sem] if_true
attribute [go_sem] if_false
attribute [go_sem] Bool.not_true
attribute [go_sem] Bool.not_false
attribute [go_sem] beq_self_eq_true
attribute [go_sem] List.nil_append
attribute [go_sem] List.cons_append
attribute [go_sem] List.append_nil
attribute [go_sem] List.getElem?_toArray
attribute [go_sem] decide_true
attribute [go_sem] decide_false
attribute [go_sem] Option.some.injEq
attribute [go_sem] Nat.add_zero
attribute [go_sem] Nat.zero_add
attribute [go_sem] Bool.false_eq_true
attribute [go_sem] Option.isNone_none
attribute [go_sem] Option.isNone_some
attribute [go_sem] ne_eq
attribute [go_sem] not_true_eq_false
attribute [go_sem] not_false_eq_true
attribute [go_sem] or_false
attribute [go_sem] or_self
attribute [go_sem] false_or
attribute [go_sem] or_true
attribute [go_sem] true_or
attribute [go_sem] and_self
attribute [go_sem] Nat.add_right_cancel_iff
attribute [go_sem] lt_step
attribute [go_sem] ne1
attribute [go_sem] lt1
attribute [go_sem] ne2
attribute [go_sem] lt2
attribute [go_sem] lt3
attribute [go_sem] lt4
attribute [go_sem] lt5
attribute [go_sem] lt6
attribute [go_sem] lt7
attribute [go_sem] lt8
attribute [go_sem] lt9
attribute [go_sem] lt10
attribute [go_sem] lt11
attribute [go_sem] lt12
attribute [go_sem] Int.toNat_natCast
attribute [go_sem] Int.le_refl
attribute [go_sem] ge_iff_le
attribute [go_sem] gt_iff_lt
attribute [go_sem] nload
attribute [go_sem] kStore
attribute [go_sem] nstore
attribute [go_sem] allOne
attribute [go_sem] NVal.one
attribute [go_sem] Bool.and_true
attribute [go_sem] and_true
attribute [go_sem] true_and
attribute [go_sem] NHeap.get_alloc
attribute [go_sem] NHeap.get_set
attribute [go_sem] NHeap.next_alloc
attribute [go_sem] NHeap.next_set
attribute [go_sem] List.take_succ_cons
attribute [go_sem] List.take_zero
attribute [go_sem] List.drop_zero
attribute [go_sem] List.drop_succ_cons
attribute [go_sem] List.take_nil
attribute [go_sem] List.drop_nil
attribute [go_sem] List.length_cons
attribute [go_sem] List.length_nil
attribute [go_sem] List.length_append
attribute [go_sem] newOp
attribute [go_sem] nfill
attribute [go_sem] repeatCells
attribute [go_sem] setRange_zero
attribute [go_sem] setRange_succ
attribute [go_sem] kAllocT
attribute [go_sem] Nat.one_mul
attribute [go_sem] Nat.mul_one
attribute [go_sem] Nat.zero_mul
attribute [go_sem] Nat.mul_zero
attribute [go_sem] Nat.lt_irrefl
attribute [go_sem] and_false
attribute [go_sem] false_and
attribute [go_sem] kSlice
attribute [go_sem] evOpt
attribute [go_sem] S_drawn'
attribute [go_sem] x_nil
attribute [go_sem] x_plain
attribute [go_sem] x_guard
attribute [go_sem] xGuard_true
attribute [go_sem] xGuard_false
attribute [go_sem] xGo_val
attribute [go_sem] xGo_read
attribute [go_sem] xGo_none
attribute [go_sem] xAgain_true
attribute [go_sem] xNew_some
attribute [go_sem] xNew_none
attribute [go_sem] xChk_true
attribute [go_sem] xDo_some
attribute [go_sem] xEnd_true
attribute [go_sem] looseOk_nil
attribute [go_sem] looseOk_cons
attribute [go_sem] loose_nil
attribute [go_sem] loose_cons
attribute [go_sem] tieOf_nil
attribute [go_sem] tieOf_zero
attribute [go_sem] tieOf_cons
attribute [go_sem] gEdge
attribute [go_sem] Nat.max_def
attribute [go_sem] List.getD_cons_zero
attribute [go_sem] List.getD_cons_succ
attribute [go_sem] List.getD_nil
attribute [go_sem] List.length_singleton
end Go.Proofs.YtkjpldganajkkaaGreatDoor.NICE
namespace Go.Proofs.YtkjpldganajkkaaGreatDoor.NICE
open Go Go.RowKit
variable {P:Program} {E:Env P drStatic}
def blk:NVal→List Nat
 | .slice (some (b,_)) _ _ _=>[b]
 |_=>[]
def Grow (h:NHeap) (v:NVal) (sz:Nat) (cs:List NVal) (n:Nat):Prop:=
 (v=.slice none 0 0 none∧cs=[]∧n=0)∨∃b x q,v=.slice (some (b,0)) n n x∧(x=none∨x=some sz)∧h.get b=some (.cells cs (.own q))∧cs.length=n*sz∧0<n
theorem Grow.nil (h:NHeap) (sz:Nat):Grow h (.slice none 0 0 none) sz [] 0:=.inl ⟨rfl,rfl,rfl⟩
theorem Grow.upd {fp:List Nat} {h h':NHeap} {v sz cs n} (g:Grow h v sz cs n) (u:Upd fp h h') (hd:∀b∈blk v,b∉fp):Grow h' v sz cs n:=by
 rcases g with g|⟨b,x,q,rfl,hx,hg,hl,hn⟩
 ·exact .inl g
 ·exact .inr ⟨b,x,q,rfl,hx,u.get hg (hd b (by simp[blk])),hl,hn⟩
theorem Grow.lt {h:NHeap} {v sz cs n} (g:Grow h v sz cs n):∀b∈blk v,b<h.next:=by
 rcases g with⟨rfl,_⟩|⟨b,x,q,rfl,hx,hg,hl,hn⟩
 ·simp[blk]
 ·intro c hc
  simp[blk] at hc
  subst hc
  exact NHeap.get_lt hg
theorem Grow.veq {h:NHeap} {v sz cs n} (g:Grow h v sz cs n):veq 50 v v=true:=by
 rcases g with⟨rfl,_⟩|⟨b,x,q,rfl,_⟩
 ·rfl
 ·rw[veq_slice];simp
theorem append_one {st e sz by_:Nat} {z:NVal} (hu:P.underlying st=some (.slice e)) (hs:szOf P e=some sz) (hb:bytesOf P e=some by_) (hz:zeroOf P e=some z) (hzl:z.cells.length=sz) (h0:0<sz)
  {h:NHeap} {v:NVal} {cs:List NVal} {n:Nat} (g:Grow h v sz cs n) {nb o c:Nat} {y:Option Nat} {all:List NVal} {m:Own} {new:List NVal} (hn:h.get nb=some (.cells all m)) (hnew:(all.drop o).take sz=new) (hnl:new.length=sz)
  (ho:allOne new=true) (hall:allOne cs=true) (h1:n+1≤1099511627776) (h2:(n+1)*by_≤1099511627776) (hzo:allOne z.cells=true:=by rfl):
  ∃h' q,nappend P st st v (.slice (some (nb,o)) 1 c y) h=some (.slice (some (h.next,0)) (n+1) (n+1) (some sz),h')∧h'.next=h.next+1∧h'.get h.next=some (.cells (cs++new) (.own q))∧Upd (blk v) h h':=by
 have hoc:o+sz≤all.length:=by
  have:=congrArg List.length hnew
  simp only[List.length_take,List.length_drop,hnl] at this
  omega
 have happ:appended P e sz st (.slice (some (nb,o)) 1 c y) h=some (1,new):=by
  unfold appended
  rw[hu]
  simp only[nlenOf,srcCells,Nat.one_mul,hn]
  rw[if_neg (by omega)]
  simp only[Nat.le_refl,true_and,hoc,if_true,hnew]
 have one:∀a b:List NVal,allOne a=true→allOne b=true→allOne (a++b)=true:=by
  intro a b ha hb
  induction a with
  |nil=>simpa using hb
  |cons x l ih=>
   simp only[allOne,Bool.and_eq_true,List.cons_append] at ha⊢
   exact⟨ha.1,ih ha.2⟩
 rcases g with⟨rfl,rfl,rfl⟩|⟨b,x,q,rfl,hx,hg,hl,hpos⟩
 ·refine⟨h.alloc (.cells new (.own (some (e,0)))),some (e,0),?_,rfl,by simp[NHeap.get_alloc],(Upd.refl _ _).alloc _⟩
  unfold nappend
  rw[hu]
  simp only[hs,hb,hz,happ,hzl,h0,hzo,hnl,Nat.one_mul,ho,true_and,if_true]
  rw[if_pos ⟨h1,h2⟩]
  rfl
 ·have hnb:b<h.next:=NHeap.get_lt hg
  have htake:(cs.drop 0).take (n*sz)=cs:=by rw[List.drop_zero,←hl,List.take_length]
  rcases hx with rfl|rfl
  ·refine⟨h.alloc (.cells (cs++new) (.own (some (e,0)))),some (e,0),?_,rfl,by simp[NHeap.get_alloc],(Upd.refl _ _).alloc _⟩
   unfold nappend
   rw[hu]
   simp only[hs,hb,hz,happ,hzl,h0,hzo,hnl,Nat.one_mul,ho,true_and,if_true]
   rw[if_pos ⟨h1,h2⟩,if_neg (by decide),if_neg (by omega)]
   have hsrc:srcCells sz n h (.slice (some (b,0)) n n none)=some cs:=by
    unfold srcCells
    simp only
    rw[if_neg (by rw[←hl];intro q;have:=Nat.mul_pos hpos h0;omega),hg]
    simp only[Nat.le_refl,Nat.zero_add,true_and]
    rw[if_pos (by omega),htake]
   rw[hsrc]
   simp only[hall,if_true]
  ·refine⟨(h.set b .dead).alloc (.cells (cs++new) (.own (regrown 0 e q))),regrown 0 e q,?_,rfl,by simp[NHeap.get_alloc],((Upd.refl _ _).set (.inl (by simp[blk])) _).alloc _⟩
   unfold nappend
   rw[hu]
   simp only[hs,hb,hz,happ,hzl,h0,hzo,hnl,Nat.one_mul,ho,true_and,if_true]
   rw[if_pos ⟨h1,h2⟩,if_neg (by decide),if_neg (by omega)]
   simp only[hg]
   rw[if_pos (by omega),if_pos (by omega),htake]
theorem setRange_single (cs:List NVal) (o:Nat) (v:NVal) (h:o<cs.length):setRange cs o [v]=cs.set o v:=by
 apply List.ext_getElem?
 intro i
 rw[setRange_get? _ _ _ _ (by simp;omega),List.getElem?_set]
 by_cases h1:i<o
 ·rw[if_pos h1,if_neg (by omega)]
 ·rw[if_neg h1]
  by_cases h2:o=i
  ·subst h2;simp[h]
  ·rw[if_neg (by simp;omega),if_neg h2]
def u8s (l:List UInt8):List NVal:=l.map fun b=>.int .u8 (b.toNat:Int)
theorem u8s_len (l:List UInt8):(u8s l).length=l.length:=by simp[u8s]
theorem u8s_append (l m:List UInt8):u8s (l++m)=u8s l++u8s m:=by simp[u8s]
theorem u8s_bytes (l:List UInt8):bytesVals (u8s l)=some l:=by
 induction l with
 |nil=>rfl
 |cons a l ih=>
  show(match byteVal (.int .u8 (a.toNat:Int)) with|none=>none|some b=>match bytesVals (u8s l) with|none=>none|some r=>some (b::r))=_
  rw[ih]
  simp[byteVal]
def i64s (l:List Int):List NVal:=l.map fun n=>.int .i64 n
theorem i64s_len (l:List Int):(i64s l).length=l.length:=by simp[i64s]
theorem i64s_append (l m:List Int):i64s (l++m)=i64s l++i64s m:=by simp[i64s]
theorem i64s_get (l:List Int) (i:Nat):(i64s l)[i]? =l[i]?.map fun n=>NVal.int .i64 n:=by simp[i64s]
theorem i64s_one (l:List Int):allOne (i64s l)=true:=by
 induction l with
 |nil=>rfl
 |cons a l ih=>simp only[i64s,List.map_cons] at ih⊢;simp only[allOne,NVal.one,ih,Bool.and_self]
end Go.Proofs.YtkjpldganajkkaaGreatDoor.NICE
namespace Go.Proofs.YtkjpldganajkkaaGreatDoor.NICE
open Go Go.RowKit
variable {P:Program} {E:Env P drStatic}
structure Gh where
 h:NHeap
 col:Nat→Nat
structure Stp (lo hi:Nat) (G G':Gh):Prop where
 next:G.h.next≤G'.h.next
 col:∀b,b<G.h.next→G'.col b=G.col b
 get:∀{b o},G.h.get b=some o→¬(lo≤G.col b∧G.col b<hi)→G'.h.get b=some o
theorem Stp.refl (lo hi:Nat) (G:Gh):Stp lo hi G G:=⟨Nat.le_refl _,fun _ _=>rfl,fun h _=>h⟩
theorem Stp.trans {lo hi:Nat} {G G' G'':Gh} (a:Stp lo hi G G') (b:Stp lo hi G' G''):Stp lo hi G G'':=
 ⟨Nat.le_trans a.next b.next,fun x hx=>by rw[b.col x (Nat.lt_of_lt_of_le hx a.next),a.col x hx],fun{x o} h hc=>b.get (a.get h hc) (by rw[a.col x (NHeap.get_lt h)];exact hc)⟩
theorem Stp.mono {lo hi lo' hi':Nat} {G G':Gh} (a:Stp lo hi G G') (h1:lo'≤lo) (h2:hi≤hi'):Stp lo' hi' G G':=
 ⟨a.next,a.col,fun{x o} h hc=>a.get h fun q=>hc ⟨Nat.le_trans h1 q.1,Nat.lt_of_lt_of_le q.2 h2⟩⟩
def newCol (h:NHeap) (col:Nat→Nat) (f:Nat→Nat):Nat→Nat:=fun b=>if b<h.next then col b else f b
theorem newCol_old {h:NHeap} {col f:Nat→Nat} {b:Nat} (hb:b<h.next):newCol h col f b=col b:=by simp[newCol,hb]
theorem newCol_new {h:NHeap} {col f:Nat→Nat} {b:Nat} (hb:h.next≤b):newCol h col f b=f b:=by simp[newCol,Nat.not_lt.2 hb]
theorem Stp.of_upd {lo hi:Nat} {G:Gh} {fp:List Nat} {h':NHeap} (u:Upd fp G.h h') (hc:∀b∈fp,b<G.h.next→lo≤G.col b∧G.col b<hi) (f:Nat→Nat):Stp lo hi G ⟨h',newCol G.h G.col f⟩:=
 ⟨u.next,fun b hb=>newCol_old hb,fun{b o} h hn=>u.get h fun hm=>hn (hc b hm (NHeap.get_lt h))⟩
theorem Stp.of_ext (lo hi:Nat) {G:Gh} {h':NHeap} (e:Ext G.h h') (f:Nat→Nat):Stp lo hi G ⟨h',newCol G.h G.col f⟩:=
 ⟨e.next,fun b hb=>newCol_old hb,fun h _=>e.get h⟩
def Fz (G:Gh) (sz:Nat) (v:NVal) (n:Nat) (cs:List NVal):Prop:=
 cs.length=n*sz∧∃bo c x,v=.slice bo n c x∧n≤c∧(x=none∨x=some sz)∧(n=0∨∃b o all m,bo=some (b,o)∧G.h.get b=some (.cells all m)∧G.col b=0∧(all.drop o).take (n*sz)=cs)
theorem Fz.step {lo hi:Nat} {G G':Gh} (s:Stp lo hi G G') (hc:0<lo) {sz v n cs} (f:Fz G sz v n cs):Fz G' sz v n cs:=by
 obtain⟨h0,bo,c',x,h1,h2,h3,h4⟩:=f
 refine⟨h0,bo,c',x,h1,h2,h3,?_⟩
 rcases h4 with h4|⟨b,o,all,m,a1,a2,a3,a4⟩
 ·exact .inl h4
 ·exact .inr ⟨b,o,all,m,a1,s.get a2 (by rw[a3];omega),by rw[s.col b (NHeap.get_lt a2)];exact a3,a4⟩
theorem Fz.nil (G:Gh) (sz:Nat):Fz G sz (.slice none 0 0 none) 0 []:=⟨by simp,none,0,none,rfl,Nat.le_refl _,.inl rfl,.inl rfl⟩
def Vec (G:Gh) (c:Nat) (v:NVal) (cs:List NVal):Prop:=
 (v=.slice none 0 0 none∧cs=[])∨∃b cap x q all,v=.slice (some (b,0)) cs.length cap x∧(x=none∨x=some 1)∧G.h.get b=some (.cells all (.own q))∧G.col b=c∧cs.length≤cap∧cap≤all.length∧all.take cs.length=cs∧0<cap
theorem Vec.step {c lo hi:Nat} {G G':Gh} (s:Stp lo hi G G') (hc:¬(lo≤c∧c<hi)) {v cs} (f:Vec G c v cs):Vec G' c v cs:=by
 rcases f with f|⟨b,cap,x,q,all,h1,h2,h3,h4,h5⟩
 ·exact .inl f
 ·exact .inr ⟨b,cap,x,q,all,h1,h2,s.get h3 (by rw[h4];exact hc),by rw[s.col b (NHeap.get_lt h3)];exact h4,h5⟩
theorem Vec.upd {c:Nat} {G:Gh} {fp:List Nat} {h':NHeap} (u:Upd fp G.h h') {v cs} (f:Vec G c v cs) (hd:∀b∈NICE.blk v,b∉fp) (g:Nat→Nat):Vec ⟨h',newCol G.h G.col g⟩ c v cs:=by
 rcases f with f|⟨b,cap,x,q,all,rfl,h2,h3,h4,h5⟩
 ·exact .inl f
 ·exact .inr ⟨b,cap,x,q,all,rfl,h2,u.get h3 (hd b (by simp[NICE.blk])),by show newCol G.h G.col g b=c;rw[newCol_old (NHeap.get_lt h3)];exact h4,h5⟩
theorem Vec.veq {c:Nat} {G:Gh} {v cs} (f:Vec G c v cs):veq 50 v v=true:=by
 rcases f with⟨rfl,_⟩|⟨b,cap,x,q,all,rfl,_⟩
 ·rfl
 ·rw[veq_slice];simp
theorem Vec.ne_map {c:Nat} {G:Gh} {v cs} (f:Vec G c v cs) {mb:Nat} {es} (hm:G.h.get mb=some (.map es)):mb∉NICE.blk v:=by
 rcases f with⟨rfl,_⟩|⟨b,cap,x,q,all,rfl,h2,h3,h4,h5⟩
 ·simp[NICE.blk]
 ·intro hb
  simp[NICE.blk] at hb
  subst hb
  rw[hm] at h3;cases h3
theorem Vec.blk {G:Gh} {c v cs} (f:Vec G c v cs):∀b∈blk v,b<G.h.next∧G.col b=c:=by
 rcases f with⟨rfl,_⟩|⟨b,cap,x,q,all,rfl,h2,h3,h4,h5⟩
 ·simp[NICE.blk]
 ·intro d hd
  simp[NICE.blk] at hd
  subst hd
  exact⟨NHeap.get_lt h3,h4⟩
theorem set_take_len {α:Type} (l:List α) (n:Nat) (v:α) (h:n<l.length):(l.set n v).take (n+1)=l.take n++[v]:=by
 apply List.ext_getElem?
 intro i
 rcases Nat.lt_trichotomy i n with hi|hi|hi
 ·rw[List.getElem?_take_of_lt (by omega),List.getElem?_set_ne (by omega),List.getElem?_append_left (by simp;omega),List.getElem?_take_of_lt hi]
 ·subst hi
  rw[List.getElem?_take_of_lt (by omega),List.getElem?_set_self h,List.getElem?_append_right (by simp;omega),List.length_take]
  simp[show min i l.length=i by omega]
 ·rw[List.getElem?_eq_none (by simp;omega),List.getElem?_eq_none (by simp;omega)]
theorem Vec.push {st e by_:Nat} {z:NVal} (hu:P.underlying st=some (.slice e)) (hs:szOf P e=some 1) (hb:bytesOf P e=some by_) (hz:zeroOf P e=some z) (hzl:z.cells.length=1)
  {G:Gh} {c:Nat} {v:NVal} {cs:List NVal} (g:Vec G c v cs) {h:NHeap} {H:NHeap} (U:Upd [] G.h H) {nb o cc:Nat} {y:Option Nat} {all:List NVal} {m:Own} {a:NVal} (hn:H.get nb=some (.cells all m)) (hnew:(all.drop o).take 1=[a]) (ha:a.one=true) (hone:allOne cs=true)
  (h1:cs.length+1≤1099511627776) (h2:(cs.length+1)*by_≤1099511627776) (hzo:allOne z.cells=true:=by rfl):
  ∃v' h',nappend P st st v (.slice (some (nb,o)) 1 cc y) H=some (v',h')∧H.next≤h'.next∧Upd (NICE.blk v) H h'∧(∀b∈NICE.blk v',b∈NICE.blk v∨H.next≤b)∧∀f:Nat→Nat,(∀b,H.next≤b→f b=c)→Vec ⟨h',newCol G.h G.col f⟩ c v' (cs++[a]):=by
 have hoc:o+1≤all.length:=by
  have:=congrArg List.length hnew
  simp only[List.length_take,List.length_drop,List.length_singleton] at this
  omega
 have happ:appended P e 1 st (.slice (some (nb,o)) 1 cc y) H=some (1,[a]):=by
  unfold appended
  rw[hu]
  simp only[nlenOf,srcCells,Nat.one_mul,hn]
  rw[if_neg (by omega)]
  simp only[Nat.le_refl,true_and,hoc,if_true,hnew]
 have hao:allOne [a]=true:=by simp[allOne,ha]
 rcases g with⟨rfl,rfl⟩|⟨b,cap,x,q,ol,rfl,hx,hg,hcol,hlc,hca,htk,hcp⟩
 ·refine⟨.slice (some (H.next,0)) 1 1 (some 1),H.alloc (.cells [a] (.own (some (e,0)))),?_,by simp,(Upd.refl _ _).alloc _,by simp[NICE.blk],fun f hf=>.inr ⟨H.next,1,some 1,some (e,0),[a],rfl,.inr rfl,by simp[NHeap.get_alloc],?_,by simp,by simp,by simp,by decide⟩⟩
  ·unfold nappend
   rw[hu]
   simp only[hs,hb,hz,happ,hzl,hzo,List.length_singleton,Nat.one_mul,hao,true_and,if_true,Nat.lt_irrefl]
   rw[if_pos (by decide),if_pos ⟨h1,h2⟩]
   rfl
  ·show newCol G.h G.col f H.next=c
   rw[newCol_new U.next];exact hf _ (Nat.le_refl _)
 ·have hgH:=U.get hg (by simp)
  have hlen:cs.length≤ol.length:=by omega
  by_cases hfit:cs.length+1≤cap
  ·refine⟨.slice (some (b,0)) (cs.length+1) cap x,H.set b (.cells (setRange ol cs.length [a]) (.own q)),?_,Nat.le_refl _,(Upd.refl _ _).set (.inl (by simp[NICE.blk])) _,by simp[NICE.blk],fun f hf=>.inr ⟨b,cap,x,q,ol.set cs.length a,by simp,hx,?_,?_,by simpa using hfit,by simpa using hca,?_,hcp⟩⟩
   ·unfold nappend
    rw[hu]
    simp only[hs,hb,hz,happ,hzl,hzo,List.length_singleton,Nat.one_mul,hao,true_and,if_true]
    rw[if_pos (by decide),if_pos ⟨h1,h2⟩,if_neg (by decide),if_pos hfit]
    simp only[hgH,Nat.mul_one,Nat.zero_add]
    rw[if_pos (by omega)]
   ·rw[NHeap.get_set_same (NHeap.get_lt hgH)]
    congr 2
    apply List.ext_getElem?
    intro i
    rw[setRange_get? _ _ _ _ (by simp;omega),List.getElem?_set]
    by_cases hi:i<cs.length
    ·rw[if_pos hi,if_neg (by omega)]
    ·rw[if_neg hi]
     by_cases hi2:cs.length=i
     ·subst hi2;simp;omega
     ·rw[if_neg (by simp;omega),if_neg hi2]
   ·show newCol G.h G.col f b=c
    rw[newCol_old (NHeap.get_lt hg)];exact hcol
   ·rw[List.length_append,List.length_singleton,set_take_len _ _ _ (by omega),htk]
  ·have hsame:cap=cs.length:=by omega
   subst hsame
   rcases hx with rfl|rfl
   ·refine⟨.slice (some (H.next,0)) (cs.length+1) (cs.length+1) (some 1),H.alloc (.cells (cs++[a]) (.own (some (e,0)))),?_,by simp,(Upd.refl _ _).alloc _,by simp[NICE.blk],fun f hf=>.inr ⟨H.next,cs.length+1,some 1,some (e,0),cs++[a],by simp,.inr rfl,by simp[NHeap.get_alloc],?_,by simp,by simp,by rw[List.take_length],by omega⟩⟩
    ·unfold nappend
     rw[hu]
     simp only[hs,hb,hz,happ,hzl,hzo,List.length_singleton,Nat.one_mul,hao,true_and,if_true]
     rw[if_pos (by decide),if_pos ⟨h1,h2⟩,if_neg (by decide),if_neg (by omega)]
     have hsrc:srcCells 1 cs.length H (.slice (some (b,0)) cs.length cs.length none)=some cs:=by
      unfold srcCells
      simp only[Nat.mul_one]
      rw[if_neg (by omega),hgH]
      simp only[Nat.le_refl,Nat.zero_add,true_and,List.drop_zero]
      rw[if_pos (by omega),htk]
     rw[hsrc]
     simp only[hone,if_true]
    ·show newCol G.h G.col f H.next=c
     rw[newCol_new U.next];exact hf _ (Nat.le_refl _)
   ·refine⟨.slice (some (H.next,0)) (cs.length+1) (cs.length+1) (some 1),(H.set b .dead).alloc (.cells (cs++[a]) (.own (regrown 0 e q))),?_,by simp,((Upd.refl _ _).set (.inl (by simp[NICE.blk])) _).alloc _,by simp[NICE.blk],fun f hf=>.inr ⟨H.next,cs.length+1,some 1,regrown 0 e q,cs++[a],by simp,.inr rfl,by simp[NHeap.get_alloc],?_,by simp,by simp,by rw[List.take_length],by omega⟩⟩
    ·unfold nappend
     rw[hu]
     simp only[hs,hb,hz,happ,hzl,hzo,List.length_singleton,Nat.one_mul,hao,true_and,if_true]
     rw[if_pos (by decide),if_pos ⟨h1,h2⟩,if_neg (by decide),if_neg (by omega)]
     simp only[hgH,Nat.mul_one,Nat.zero_add,List.drop_zero]
     rw[if_pos (by omega),if_pos (by omega),htk]
    ·show newCol G.h G.col f H.next=c
     rw[newCol_new U.next];exact hf _ (Nat.le_refl _)
theorem do_invoke (F:CallF) (ρ:Rho) (h:NHeap) (r m args tys):doK P F ρ (.call ⟨.invoke r m,args,tys⟩) h=callK (ncall P ρ h ⟨.invoke r m,args,tys⟩) F h:=rfl
theorem es_invoke (ρ:Rho) (h:NHeap) (r m args tys):eStep P ρ h (.call ⟨.invoke r m,args,tys⟩)=none:=rfl
def invK (P:Program) (h:NHeap) (name:String) (r:Option NVal) (asX:Option (List NVal)):Option (FuncId×List NVal):=match r with
  |some (.iface t v)=>(match asX,P.info? t with
   |some asX,some i=>(match i.methods.find? (·.name==name) with
    |some m=>if m.path.isEmpty then(match m.func,P.underlying t with
     |some (f,true),some (.pointer _)=>some (f,v::asX)
     |some (f,false),some (.pointer e)=>(match v with
      | .ptr (some a)=>(match nload P e a h with|some u=>some (f,u::asX)|none=>none)
      |_=>none)
     |_,_=>none) else none
    |none=>none)
   |_,_=>none)
  |_=>none
theorem ncall_inv (ρ:Rho) (h:NHeap) (r:Operand) (m:String) (args:Array Operand) (tys:Array TypeId):ncall P ρ h ⟨.invoke r m,args,tys⟩=invK P h m (ρ r) (evs ρ args.toList):=rfl
def valK (f:Option NVal) (asX:Option (List NVal)):Option (FuncId×List NVal):=match f with
  |some (.func (.func g) first cap)=>(match asX with|some asX=>some (g,first++asX++cap)|none=>none)
  |_=>none
theorem ncall_value (ρ:Rho) (h:NHeap) (f:Operand) (args:Array Operand) (tys:Array TypeId):ncall P ρ h ⟨.value f,args,tys⟩=valK (ρ f) (evs ρ args.toList):=rfl
theorem valK_some (g:FuncId) (first cap asX:List NVal):valK (some (.func (.func g) first cap)) (some asX)=some (g,first++asX++cap):=rfl
theorem invK_ptr {h:NHeap} {m:String} {t:TypeId} {f:FuncId} (hm:∀(v:NVal) (asX:List NVal),(match P.info? t with
   |some i=>(match i.methods.find? (·.name==m) with
    |some mm=>if mm.path.isEmpty then(match mm.func,P.underlying t with
     |some (f,true),some (.pointer _)=>some (f,v::asX)
     |_,_=>none) else none
    |none=>none)
   |none=>none)=some (f,v::asX)) (v:NVal) (asX:List NVal):invK P h m (some (.iface t v)) (some asX)=some (f,v::asX):=by
 have:=hm v asX
 unfold invK
 simp only
 cases hi:P.info? t with
 |none=>rw[hi] at this;cases this
 |some i=>
  rw[hi] at this
  simp only at this⊢
  cases hmm:i.methods.find? (·.name==m) with
  |none=>rw[hmm] at this;cases this
  |some mm=>
   rw[hmm] at this
   simp only at this⊢
   by_cases hp:mm.path.isEmpty=true
   ·rw[if_pos hp] at this⊢
    split at this
    ·rename_i e1 e2
     rw[e1,e2]
     exact this
    ·cases this
   ·rw[if_neg hp] at this;cases this
theorem invK_val {m:String} {t e:TypeId} {f:FuncId} (hm:∀(u:NVal) (asX:List NVal),(match P.info? t with
   |some i=>(match i.methods.find? (·.name==m) with
    |some mm=>if mm.path.isEmpty then(match mm.func,P.underlying t with
     |some (f,false),some (.pointer e')=>if e'=e then some (f,u::asX) else none
     |_,_=>none) else none
    |none=>none)
   |none=>none)=some (f,u::asX)) {h:NHeap} (a:Nat×Nat) (asX:List NVal) {u:NVal} (hu:nload P e a h=some u):invK P h m (some (.iface t (.ptr (some a)))) (some asX)=some (f,u::asX):=by
 have:=hm u asX
 unfold invK
 simp only
 cases hi:P.info? t with
 |none=>rw[hi] at this;cases this
 |some i=>
  rw[hi] at this
  simp only at this⊢
  cases hmm:i.methods.find? (·.name==m) with
  |none=>rw[hmm] at this;cases this
  |some mm=>
   rw[hmm] at this
   simp only at this⊢
   by_cases hp:mm.path.isEmpty=true
   ·rw[if_pos hp] at this⊢
    split at this
    ·rename_i e' e1 e2
     rw[e1,e2]
     simp only
     split at this
     ·rename_i he
      subst he
      rw[hu]
      exact this
     ·cases this
    ·cases this
   ·rw[if_neg hp] at this;cases this
theorem do_mapUpdate (F:CallF) (ρ:Rho) (h:NHeap) (t m k v):doK P F ρ (.mapUpdate t m k v) h=(match ρ m,ρ k,ρ v with
  |some m,some k,some v=>(match nmapUpdate P t m k v h with|some h'=>some (nundef,h')|none=>none)
  |_,_,_=>none):=rfl
theorem do_delete (F:CallF) (ρ:Rho) (h:NHeap) (m k:Operand) (t t':TypeId):doK P F ρ (.call ⟨.builtin .delete,#[m,k],#[t,t']⟩) h=(match ρ m,ρ k with|some m,some k=>ndelete P t m k h|_,_=>none):=rfl
theorem do_copy (F:CallF) (ρ:Rho) (h:NHeap) (d s:Operand) (t t':TypeId):doK P F ρ (.call ⟨.builtin .copy,#[d,s],#[t,t']⟩) h=(match ρ d,ρ s with|some d,some s=>ncopy P t d s h|_,_=>none):=rfl
theorem es_typeAssert (ρ:Rho) (h:NHeap) (x t d ok):eStep P ρ h (.typeAssert x t d ok)=valE (bind1 (ρ x) fun u=>nassert P u d ok):=es_of_pure ρ h rfl
theorem es_mapUpdate (ρ:Rho) (h:NHeap) (t m k v):eStep P ρ h (.mapUpdate t m k v)=none:=rfl
theorem es_delete (ρ:Rho) (h:NHeap) (args tys):eStep P ρ h (.call ⟨.builtin .delete,args,tys⟩)=none:=rfl
theorem es_makeMap (ρ:Rho) (h:NHeap) (t r):eStep P ρ h (.makeMap t r)=none:=rfl
theorem newOp_map (ρ:Rho) (t):newOp P ρ (.makeMap t none)=some (.map [],fun b=>.map (some b)):=rfl
theorem floats_map (es:List (NVal×NVal)) (mk:Nat→NVal):floats (some (.map es,mk))=none:=rfl
def mp (ks:List Int):List (NVal×NVal):=ks.map fun k=>(.int .i64 k,.agg [])
theorem nkeyIn_mp (x:Int):∀ks:List Int,(x∉ks∧nkeyIn (.int .i64 x) (mp ks)=some none)∨(∃i,ks[i]? =some x∧nkeyIn (.int .i64 x) (mp ks)=some (some (i,.agg [])))
 |[]=>.inl ⟨by simp,rfl⟩
 |k::ks=>by
  have e:nkeyIn (.int .i64 x) (mp (k::ks))=if x=k then some (some (0,.agg [])) else bumpIx (nkeyIn (.int .i64 x) (mp ks)):=by
   show(if IntKind.i64=IntKind.i64 then(if x=k then some (some (0,NVal.agg [])) else bumpIx (nkeyIn (.int .i64 x) (mp ks))) else none)=_
   rw[if_pos rfl]
  rw[e]
  by_cases h:x=k
  ·rw[if_pos h]
   exact .inr ⟨0,by simp[h],rfl⟩
  ·rw[if_neg h]
   rcases nkeyIn_mp x ks with⟨h1,h2⟩|⟨i,h1,h2⟩
   ·rw[h2]
    exact .inl ⟨by simp[h,h1],rfl⟩
   ·rw[h2]
    exact .inr ⟨i+1,by simpa using h1,rfl⟩
theorem mp_append (a b:List Int):mp (a++b)=mp a++mp b:=by simp[mp]
theorem mp_erase (ks:List Int) (i:Nat):(mp ks).eraseIdx i=mp (ks.eraseIdx i):=by
 induction ks generalizing i with
 |nil=>rfl
 |cons k ks ih=>
  cases i with
  |zero=>rfl
  |succ i=>simp only[mp,List.map_cons,List.eraseIdx_cons_succ] at ih⊢;rw[ih]
attribute [go_sem] kIface do_mapUpdate do_delete do_copy es_typeAssert es_mapUpdate es_delete es_makeMap newOp_map floats_map nassert nassert'
attribute [go_sem] do_invoke es_invoke ncall_inv ncall_value valK_some
end Go.Proofs.YtkjpldganajkkaaGreatDoor.NICE
namespace Go.Proofs.YtkjpldganajkkaaGreatDoor.NICE
open Go Go.RowKit
variable {P:Program} {w0 w:World} {ι:Inj} {h:NHeap}
attribute [go_sem] kCap
theorem run_overlaps_row (w:World) (tS tR e:TypeId) (ht:P.underlying tS=some (.slice e)) (size:Nat) (hz:(Go.sizeOf e).run P w=.ok size w)
  (a b:Addr) (la ca lb cb:Nat) (hne:a.block≠b.block) (tA:TypeId) (kA:Nat) (hsa:w.shape? a.block=some (tA,kA)) (hkA:kA≠0)
  (c:Array Value) (T:TypeId) (hb:w.heap[b.block]? =some (.cells c T (0,0))):
  (Extern.SlicesOverlaps.overlaps #[tS,tS] #[tR] #[.slice (some a) la ca,.slice (some b) lb cb]).run P w=.ok (.bool false) w:=by
 have hnb:(a.block !=b.block)=true:=by simpa using hne
 have hnb':(a.block==b.block)=false:=by simpa using hne
 have hsb:w.shape? b.block=some (T,c.size):=by simp[World.shape?,hb]
 have hf:∀k,w.frozen? {block:=b.block,off:=k}=false:=fun k=>by simp[World.frozen?,hb]
 have hf':w.frozen? b=false:=by simp[World.frozen?,hb]
 change Sem.run P (α:=Value) (do
  let some t:=(#[tS,tS]:Array TypeId)[0]? |stuck "slices.overlaps: no parameter types"
  let .slice elem←underlying t|stuck "slices.overlaps: slice type expected"
  let size←sizeOf elem
  match(some a:Option Addr),(some b:Option Addr) with
  |some a,some b=>
   if la=0∨lb=0∨size=0 then pure (Value.bool false)
   else if a.block !=b.block&&(←frozen a)&&(←frozen b) then unsupported .addressObserved
   else do
    if a.block !=b.block then do
     noView a;noView b
     if←mayBeOne a b then return Value.bool ((←choose (.extern "sameAddr.stringBytes" 2))==1)
    pure (Value.bool (a.block==b.block&&a.off<b.off+lb*size&&b.off<a.off+la*size))
  |_,_=>pure (Value.bool false)) w=_
 by_cases h0:la=0∨lb=0∨size=0
 ·simp[run_underlying ht,hz,h0]
 ·cases kA with
  |zero=>exact absurd rfl hkA
  |succ kA=>
   cases hfa:w.frozen? a<;>cases hfe:w.frozen? {block:=a.block,off:=kA+1}<;>
   simp[run_underlying ht,hz,h0,hnb,hnb',frozen,noView,viewAt,mayBeOne,stringish,shape,Sem.run,hsa,hsb,hfa,hfe,hf,hf']
def ovKnown (k:FuncId):CallF:=fun f asX h=>if f=k then(match asX with
 |[.slice (some (va,_)) _ _ _,.slice (some (b,_)) (_+1) _ _]=>(match h.get va,h.get b with
  |some (.cells (_::_) (.own _)),some (.cells _ (.own (some (_,_))))=>if va=b then none else some (.bool false,h)
  |_,_=>none)
 |_=>none) else none
theorem ovKnown_ok {k:FuncId} {fn:Func} (hf:P.funcs[k]? =some fn) (hname:(fn.name== "runtime.NumGoroutine")=false)
  (hb:fn.body.isNone=true) (hn:Extern.findNext fn=none) {tS tR e:TypeId} (ht:P.underlying tS=some (.slice e)) {size:Nat} (hz:szOf P e=some size)
  (he:Extern.find fn=some (Extern.SlicesOverlaps.overlaps #[tS,tS] #[tR])):CallOk P (ovKnown k):=by
 intro f asX h v h' q
 unfold ovKnown at q
 split at q
 ·rename_i hk
  subst hk
  split at q
  ·rename_i va ov lv cv xv b o n c x
   split at q
   ·rename_i c0 cs0 tg cs T kk ga gb
    split at q
    ·cases q
    ·rename_i hne
     cases q
     refine .inr ⟨rfl,fun w0 ι w ra I hra=>?_⟩
     generalize hl:ra.toList=l at hra
     cases hra with
     |@cons _ r1 _ _ h1 h2=>cases h2 with
      |@cons _ r2 _ _ h3 h4=>cases h4 with
       |nil=>
        have hra:ra=#[r1,r2]:=by apply Array.ext';simpa using hl
        obtain⟨rba,sa,ma,ca,ea,fa,a1,a2,a3,a4,a5,a6,a7⟩:=I.cells va _ ga
        obtain⟨rbb,cb,b1,b2,b3⟩:=I.typed b _ T kk gb
        have hneb:rba≠rbb:=fun e=>hne (I.inj va b _ _ rba sa 0 ma cb.size ga rfl gb rfl a1 (by rw[e];exact b1))
        have hsa:w.shape? rba=some (ea,ca.size):=by simp[World.shape?,a3]
        have hka:ca.size≠0:=by simp only[List.length_cons] at a5;omega
        refine⟨_,.bool _,?_⟩
        rw[run_callFunc_extern hf hname hb hn he,hra]
        have go:∀(x y:Addr) (l1 c1 l2 c2:Nat),x.block=rba→y.block=rbb→((Extern.SlicesOverlaps.overlaps #[tS,tS] #[tR] #[.slice (some x) l1 c1,.slice (some y) l2 c2]).run P w)=.ok (.bool false) w:=fun x y l1 c1 l2 c2 hx hy=>
         run_overlaps_row w tS tR e ht size (run_sizeOf' hz w) x y l1 c1 l2 c2 (by rw[hx,hy];exact hneb) ea ca.size (by rw[hx];exact hsa) hka cb T (by rw[hy];exact b2)
        have gb':∀y:Value,VR ι (.slice (some (b,o)) (n+1) c x) y→∃(ay:Addr) (l2 c2:Nat),y=.slice (some ay) l2 c2∧ay.block=rbb:=by
         intro y hy
         cases hy with
         |slice hι hl hc=>rw[b1] at hι;cases hι;exact⟨_,_,_,rfl,rfl⟩
         |sliceMore hι hl hc hm=>rw[b1] at hι;cases hι;exact⟨_,_,_,rfl,rfl⟩
        obtain⟨ay,l2,c2,rfl,hy⟩:=gb' r2 h3
        cases h1 with
        |slice hι hl hc=>rw[a1] at hι;cases hι;rw[go _ _ _ _ _ _ rfl hy];rfl
        |sliceMore hι hl hc hm=>rw[a1] at hι;cases hι;rw[go _ _ _ _ _ _ rfl hy];rfl
        |sliceEmpty=>
         have:∀(x y:Addr) (c1 l2 c2:Nat),((Extern.SlicesOverlaps.overlaps #[tS,tS] #[tR] #[.slice (some x) 0 c1,.slice (some y) l2 c2]).run P w)=.ok (.bool false) w:=fun x y c1 l2 c2=>by
          change Sem.run P (α:=Value) (do
           let some t:=(#[tS,tS]:Array TypeId)[0]? |stuck "slices.overlaps: no parameter types"
           let .slice elem←underlying t|stuck "slices.overlaps: slice type expected"
           let size←sizeOf elem
           match(some x:Option Addr),(some y:Option Addr) with
           |some a,some b=>
            if 0=0∨l2=0∨size=0 then pure (Value.bool false)
            else if a.block !=b.block&&(←frozen a)&&(←frozen b) then unsupported .addressObserved
            else do
             if a.block !=b.block then do
              noView a;noView b
              if←mayBeOne a b then return Value.bool ((←choose (.extern "sameAddr.stringBytes" 2))==1)
             pure (Value.bool (a.block==b.block&&a.off<b.off+l2*size&&b.off<a.off+0*size))
           |_,_=>pure (Value.bool false)) w=_
          simp[run_underlying ht,run_sizeOf' hz]
         rw[this];rfl
   ·cases q
  ·cases q
 ·cases q
theorem Inv.same {h2:NHeap} (I:Inv w0 ι h w) (hn:h2.next=h.next) (hg:∀b,h2.get b=h.get b):Inv w0 ι h2 w:=
 ⟨I.below,fun b x e=>by rw[hn];exact I.fresh b x e,fun b cs t e=>I.cells b cs (by rw[←hg];exact e),fun b cs T k e=>I.typed b cs T k (by rw[←hg];exact e),fun b cs e=>I.ro b cs (by rw[←hg];exact e),
  fun b es e=>I.maps b es (by rw[←hg];exact e),fun b b' o o' rb s s' m m' e1 w1 e2 w2=>I.inj b b' o o' rb s s' m m' (by rw[←hg];exact e1) w1 (by rw[←hg];exact e2) w2⟩
theorem Step.same {ι':Inj} {h' h2:NHeap} {w':World} (S:Step ι h w ι' h' w') (hn:h2.next=h'.next) (hg:∀b,h2.get b=h'.get b):Step ι h w ι' h2 w':=
 ⟨S.ext,S.new,S.size,S.frame,fun rb ⟨b,o,s,m,e1,e2,e3⟩=>S.own rb ⟨b,o,s,m,by rw[←hg];exact e1,e2,e3⟩,by rw[hn];exact S.next⟩
theorem Inv.widen (I:Inv w0 ι h w) {b:Nat} {cs:List NVal} {e:TypeId} (hb:h.get b=some (.cells cs (.own (some (e,0))))) {rb:Nat} {m:Nat} (hι:ι b=some (rb,0,m)) (j:Nat) (hj:cs.length+j≤m):
  Inv w0 ι (h.set b (.cells (cs++List.replicate j .junk) (.own (some (e,0))))) w∧∀rb',Owned ι (h.set b (.cells (cs++List.replicate j .junk) (.own (some (e,0))))) rb'→Owned ι h rb':=by
 have hlt:=NHeap.get_lt hb
 have get:∀{b' ob'},(h.set b (.cells (cs++List.replicate j .junk) (.own (some (e,0))))).get b'=some ob'→(b'=b∧ob'=.cells (cs++List.replicate j .junk) (.own (some (e,0))))∨(b'≠b∧h.get b'=some ob'):=by
  intro b' ob' q
  rw[NHeap.get_set] at q
  split at q
  ·rename_i hh;cases q;exact .inl ⟨hh.1,rfl⟩
  ·rename_i hh;exact .inr ⟨fun q=>hh ⟨q,hlt⟩,q⟩
 obtain⟨rb1,c,t1,t2,t3,t4⟩:=I.typed b cs e 0 hb
 rw[hι] at t1;cases t1
 refine⟨⟨I.below,fun b' x q=>by simpa using I.fresh b' x q,?_,?_,?_,?_,?_⟩,?_⟩
 ·intro b' ds t q
  rcases get q with⟨rfl,q'⟩|⟨hne,q'⟩
  ·cases q'
   obtain⟨rb2,s2,m2,c2,e2,fz,a1,a2,a3,a4,a5,a6,a7⟩:=I.cells b' cs hb
   rw[hι] at a1;cases a1
   rw[t2] at a3;cases a3
   refine⟨_,0,_,c,_,_,hι,a2,t2,a4,by simp;omega,a6,fun i v hi=>?_⟩
   by_cases hic:i<cs.length
   ·rw[List.getElem?_append_left hic] at hi
    exact a7 i v hi
   ·rw[List.getElem?_append_right (by omega)] at hi
    have hv:v=.junk:=by
     have:=List.mem_of_getElem? hi
     exact List.eq_of_mem_replicate this
    have hi2:i-cs.length<j:=by simpa using(List.getElem?_eq_some_iff.1 hi).1
    subst hv
    have hic2:i<c.size:=by omega
    refine⟨c[i],by simp[hic2],.junk (t4 rfl i c[i] (by simp[hic2]))⟩
  ·exact I.cells b' ds q'
 ·intro b' ds T k q
  rcases get q with⟨rfl,q'⟩|⟨hne,q'⟩
  ·cases q';exact⟨_,c,hι,t2,t3,t4⟩
  ·exact I.typed b' ds T k q'
 ·intro b' ds q
  rcases get q with⟨rfl,q'⟩|⟨hne,q'⟩
  ·cases q'
  ·exact I.ro b' ds q'
 ·intro b' es q
  rcases get q with⟨rfl,q'⟩|⟨hne,q'⟩
  ·cases q'
  ·exact I.maps b' es q'
 ·intro b1 b2 o1 o2 rb' s1 s2 m1 m2 g1 w1 g2 w2 i1 i2
  have:∀{b' ob'},(h.set b (.cells (cs++List.replicate j .junk) (.own (some (e,0))))).get b'=some ob'→ob'.owned=true→∃ob'',h.get b'=some ob''∧ob''.owned=true:=by
   intro b' ob' q qo
   rcases get q with⟨rfl,q'⟩|⟨hne,q'⟩
   ·exact⟨_,hb,rfl⟩
   ·exact⟨_,q',qo⟩
  obtain⟨p1,g1,w1⟩:=this g1 w1
  obtain⟨p2,g2,w2⟩:=this g2 w2
  exact I.inj b1 b2 p1 p2 rb' s1 s2 m1 m2 g1 w1 g2 w2 i1 i2
 ·rintro rb' ⟨b',ob',s',m',g,ho,hi⟩
  rcases get g with⟨rfl,g⟩|⟨hne,g⟩
  ·exact⟨b',_,s',m',hb,rfl,hi⟩
  ·exact⟨b',ob',s',m',g,ho,hi⟩
theorem Inv.rename (I:Inv w0 ι h w) {b:Nat} {o:NObj} (hb:h.get b=some o) (ho:o.owned=true) {x:Nat×Nat×Nat} (hι:ι b=some x) {h3:NHeap} (hn:h3.next=h.next+1) (hg:∀b',h3.get b'=if b'=h.next then some o else if b'=b then some .dead else h.get b'):
  Inv w0 (ι.upd h.next x) h3 w∧Step ι h w (ι.upd h.next x) h3 w:=by
 have hle:ι.le (ι.upd h.next x):=Inj.le_upd _ I.next_none
 have hlt:=NHeap.get_lt hb
 have get:∀{b' ob'},h3.get b'=some ob'→(b'=h.next∧ob'=o)∨ob'=.dead∨(b'≠h.next∧b'≠b∧h.get b'=some ob'):=by
  intro b' ob' q
  rw[hg] at q
  split at q
  ·rename_i hh;cases q;exact .inl ⟨hh,rfl⟩
  ·rename_i hh
   split at q
   ·cases q;exact .inr (.inl rfl)
   ·rename_i hh';exact .inr (.inr ⟨hh,hh',q⟩)
 refine⟨⟨I.below,?_,?_,?_,?_,?_,?_⟩,⟨hle,?_,Nat.le_refl _,fun _ _ _=>rfl,?_,by omega⟩⟩
 ·intro b' y q
  by_cases hb':b'=h.next
  ·omega
  ·rw[Inj.upd_ne _ _ hb'] at q;have:=I.fresh b' y q;omega
 ·intro b' cs t q
  rcases get q with⟨rfl,q'⟩|q'|⟨h1,h2,q'⟩
  ·subst q'
   obtain⟨rb,s,m,c,e,fz,a1,a2,a3,a4,a5,a6,a7⟩:=I.cells b cs hb
   rw[hι] at a1;cases a1
   exact⟨rb,s,m,c,e,fz,by simp,a2,a3,a4,a5,a6,fun i v hi=>by obtain⟨r,hr,hv⟩:=a7 i v hi;exact⟨r,hr,hv.mono hle⟩⟩
  ·cases q'
  ·obtain⟨rb,s,m,c,e,fz,a1,a2,a3,a4,a5,a6,a7⟩:=I.cells b' cs q'
   exact⟨rb,s,m,c,e,fz,by rw[Inj.upd_ne _ _ h1];exact a1,a2,a3,a4,a5,a6,fun i v hi=>by obtain⟨r,hr,hv⟩:=a7 i v hi;exact⟨r,hr,hv.mono hle⟩⟩
 ·intro b' cs T k q
  rcases get q with⟨rfl,q'⟩|q'|⟨h1,h2,q'⟩
  ·subst q'
   obtain⟨rb,c,a1,a2,a3⟩:=I.typed b cs T k hb
   rw[hι] at a1;cases a1
   exact⟨rb,c,by simp,a2,a3⟩
  ·cases q'
  ·obtain⟨rb,c,a1,a2,a3⟩:=I.typed b' cs T k q'
   exact⟨rb,c,by rw[Inj.upd_ne _ _ h1];exact a1,a2,a3⟩
 ·intro b' cs q
  rcases get q with⟨rfl,q'⟩|q'|⟨h1,h2,q'⟩
  ·subst q';cases ho
  ·cases q'
  ·obtain⟨rb,s,m,a1,a2⟩:=I.ro b' cs q'
   exact⟨rb,s,m,by rw[Inj.upd_ne _ _ h1];exact a1,fun i v hi=>by obtain⟨r,hr,hv⟩:=a2 i v hi;exact⟨r,hr,hv.mono hle⟩⟩
 ·intro b' es q
  rcases get q with⟨rfl,q'⟩|q'|⟨h1,h2,q'⟩
  ·subst q'
   obtain⟨rb,s,m,ents,k,a1,a2,a3,a4⟩:=I.maps b es hb
   rw[hι] at a1;cases a1
   exact⟨rb,s,m,ents,k,by simp,a2,a3,a4.imp fun _ _ ⟨a,b⟩=>⟨a.mono hle,b.mono hle⟩⟩
  ·cases q'
  ·obtain⟨rb,s,m,ents,k,a1,a2,a3,a4⟩:=I.maps b' es q'
   exact⟨rb,s,m,ents,k,by rw[Inj.upd_ne _ _ h1];exact a1,a2,a3,a4.imp fun _ _ ⟨a,b⟩=>⟨a.mono hle,b.mono hle⟩⟩
 ·intro b1 b2 o1 o2 rb' s1 s2 m1 m2 g1 w1 g2 w2 i1 i2
  have go:∀{b' ob' rb' s' m'},h3.get b'=some ob'→ob'.owned=true→(ι.upd h.next x) b'=some (rb',s',m')→∃b'' ob'',h.get b''=some ob''∧ob''.owned=true∧ι b''=some (rb',s',m')∧((b'=h.next∧b''=b)∨(b'≠h.next∧b''=b'∧b'≠b)):=by
   intro b' ob' rb' s' m' q qo qi
   rcases get q with⟨rfl,q'⟩|q'|⟨h1,h2,q'⟩
   ·rw[Inj.upd_same] at qi;cases qi;exact⟨b,o,hb,ho,hι,.inl ⟨rfl,rfl⟩⟩
   ·subst q';simp[NObj.owned] at qo
   ·rw[Inj.upd_ne _ _ h1] at qi;exact⟨b',ob',q',qo,qi,.inr ⟨h1,rfl,h2⟩⟩
  obtain⟨c1,p1,x1,y1,z1,k1⟩:=go g1 w1 i1
  obtain⟨c2,p2,x2,y2,z2,k2⟩:=go g2 w2 i2
  have:=I.inj c1 c2 p1 p2 rb' s1 s2 m1 m2 x1 y1 x2 y2 z1 z2
  rcases k1 with⟨k1,k1'⟩|⟨k1,k1',k1''⟩<;>rcases k2 with⟨k2,k2'⟩|⟨k2,k2',k2''⟩
  ·rw[k1,k2]
  ·exact absurd (k2'.symm.trans (this.symm.trans k1')) k2''
  ·exact absurd (k1'.symm.trans (this.trans k2')) k1''
  ·rw[←k1',←k2',this]
 ·intro b' y q
  by_cases hb':b'=h.next
  ·exact .inr (by omega)
  ·rw[Inj.upd_ne _ _ hb'] at q;exact .inl q
 ·rintro rb' ⟨b',ob',s',m',g,go,gi⟩
  rcases get g with⟨rfl,q'⟩|q'|⟨h1,h2,q'⟩
  ·rw[Inj.upd_same] at gi;cases gi;exact .inl ⟨b,o,s',m',hb,ho,hι⟩
  ·subst q';simp[NObj.owned] at go
  ·rw[Inj.upd_ne _ _ h1] at gi;exact .inl ⟨b',ob',s',m',q',go,gi⟩
theorem get_dead_alloc (h:NHeap) (b:Nat) (o:NObj) (b':Nat):((h.set b .dead).alloc o).get b'=if b'=h.next then some o else if b'=b∧b<h.next then some .dead else h.get b':=by
 rw[NHeap.get_alloc,NHeap.get_set];rfl
theorem get_alloc_dead (h:NHeap) (b:Nat) (o:NObj) (b':Nat):((h.alloc o).set b .dead).get b'=if b'=b∧b<h.next+1 then some .dead else if b'=h.next then some o else h.get b':=by
 rw[NHeap.get_set,NHeap.get_alloc];rfl
theorem nslice_from {t e sz:Nat} (hu:P.underlying t=some (.slice e)) (hs:szOf P e=some sz) (k:IntKind) (b o n cap i:Nat) (hi:i≤n) (hc:n≤cap) (hic:i<cap):
  nslice P t (.slice (some (b,o)) n cap none) (some (.int k (i:Int))) none=some (.slice (some (b,o+i*sz)) (n-i) (cap-i) none):=by
 simp only[nslice,nbound,hu,hs]
 rw[if_pos (by omega)]
 simp only[Int.toNat_natCast]
 rw[if_neg (by omega)]
theorem nslice_fromX {t e sz:Nat} (hu:P.underlying t=some (.slice e)) (hs:szOf P e=some sz) (k:IntKind) (b o n cap i:Nat) (hi:i<n):
  nslice P t (.slice (some (b,o)) n cap (some sz)) (some (.int k (i:Int))) none=some (.slice (some (b,o+i*sz)) (n-i) (cap-i) (some sz)):=by
 simp only[nslice,nbound,hu,hs]
 rw[if_pos (by omega)]
 simp only[Int.toNat_natCast,if_true]
 rw[if_pos (by omega)]
theorem nslice_to {t e sz:Nat} (hu:P.underlying t=some (.slice e)) (hs:szOf P e=some sz) (k:IntKind) (b o n cap i:Nat) (hi:i≤cap) (hc:0<cap):
  nslice P t (.slice (some (b,o)) n cap none) none (some (.int k (i:Int)))=some (.slice (some (b,o)) i cap none):=by
 simp only[nslice,nbound,hu,hs]
 rw[if_pos (by omega)]
 simp only[Int.toNat_natCast,Nat.zero_mul,Nat.add_zero,ite_self,Nat.sub_zero]
theorem srcCells_row {sz n:Nat} {h:NHeap} {b o len cap:Nat} {x:Option Nat} {all:List NVal} {m:Own} (hg:h.get b=some (.cells all m)) (hn:n≤len) (hl:o+n*sz≤all.length):
  srcCells sz n h (.slice (some (b,o)) len cap x)=some ((all.drop o).take (n*sz)):=by
 simp only[srcCells]
 split
 ·rename_i h0;rw[h0];rfl
 ·rw[hg]
  simp only
  rw[if_pos ⟨hn,hl⟩]
theorem allOne_take {l:List NVal} (h:allOne l=true) (n:Nat):allOne (l.take n)=true:=by
 have:=h
 rw[←List.take_append_drop n l,allOne_append] at this
 simp only[Bool.and_eq_true] at this
 exact this.1
theorem allOne_drop {l:List NVal} (h:allOne l=true) (n:Nat):allOne (l.drop n)=true:=by
 have:=h
 rw[←List.take_append_drop n l,allOne_append] at this
 simp only[Bool.and_eq_true] at this
 exact this.2
theorem setRange_mid (a m z vs:List NVal) (hl:vs.length=m.length):setRange (a++m++z) a.length vs=a++vs++z:=by
 unfold setRange
 have e1:(a++m++z).take a.length=a:=by rw[List.append_assoc,List.take_left]
 have e2:(a++m++z).drop (a.length+vs.length)=z:=by rw[hl,←List.length_append,List.drop_left]
 rw[e1,e2]
theorem ncopy_row {dt e sz:Nat} (hu:P.underlying dt=some (.slice e)) (hs:szOf P e=some sz) {h:NHeap} {b o dl dc:Nat} {dx:Option Nat} {sb so sl sc:Nat} {sx:Option Nat} {old all cs:List NVal} {q:Option (TypeId×Nat)} {m:Own}
  (hd:h.get b=some (.cells old (.own q))) (hg:h.get sb=some (.cells all m)) {k:Nat} (hk:min sl dl=k) (h0:0<k*sz) (hcs:(all.drop so).take (k*sz)=cs) (hla:so+k*sz≤all.length) (hone:allOne cs=true) (hlo:o+k*sz≤old.length):
  ncopy P dt (.slice (some (b,o)) dl dc dx) (.slice (some (sb,so)) sl sc sx) h=some (.int .i64 (k:Nat),h.set b (.cells (setRange old o cs) (.own q))):=by
 have hcl:cs.length=k*sz:=by rw[←hcs];simp;omega
 unfold ncopy
 rw[hu]
 simp only[hs,nlenOf,hk]
 rw[srcCells_row hg (by omega) hla,hcs]
 simp only[hone,if_true]
 rw[if_neg (by omega),hd]
 simp only
 rw[if_pos (by omega)]
theorem ins_sim {k:FuncId} {rest:List NVal} {b n n' c sz:Nat} {e:TypeId} {cs R:List NVal} {h:NHeap} (hb:h.get b=some (.cells cs (.own (some (e,0))))) (hl:cs.length=n*sz) (hn:0<n) (hnn:n≤n') (hR:R.length=n'*sz)
  (hgrow:∀rc,n≤rc→rc<n'→∃h1,SimF P k (.slice (some (b,0)) n rc none::rest) h (.slice (some (h.next,0)) n' n' (some sz)) h1∧h1.next=h.next+1∧
   ∀b',h1.get b'=if b'=h.next then some (.cells R (.own (some (e,0)))) else h.get b')
  (hroom:∀rc,n'≤rc→∃h2,SimF P k (.slice (some (b,0)) n rc none::rest) (h.set b (.cells (cs++List.replicate ((n'-n)*sz) .junk) (.own (some (e,0))))) (.slice (some (b,0)) n' rc none) h2∧h2.next=h.next∧
   ∀b',h2.get b'=if b'=b then some (.cells R (.own (some (e,0)))) else h.get b'):
  SimF P k (.slice (some (b,0)) n c (some sz)::rest) h (.slice (some (h.next,0)) n' n' (some sz)) ((h.set b .dead).alloc (.cells R (.own (some (e,0))))):=by
 intro w0 ι w ra Q I hra hQ
 have hblt:=NHeap.get_lt hb
 obtain⟨rb,cc,t1,t2,t3,t4⟩:=I.typed b cs e 0 hb
 generalize hl':ra.toList=l at hra
 cases hra with
 |@cons _ r1 _ rs h1 h2=>
  cases h1 with
  |sliceEmpty=>omega
  |sliceMore hι hlr hc hm=>
   rename_i rb' s m rcap
   rw[t1] at hι;cases hι
   have hm':rcap*sz≤cc.size:=by omega
   by_cases hr:rcap<n'
   ·obtain⟨h1',hs,hn1,hg1⟩:=hgrow rcap hlr hr
    refine hs w0 ι w ra Q I (by rw[hl'];exact .cons (.slice t1 hlr rfl) h2) fun ι' w' rv hv I1 S1=>?_
    have hg1':∀b',(h.alloc (.cells R (.own (some (e,0))))).get b'=h1'.get b':=fun b'=>by rw[hg1,NHeap.get_alloc]
    have I':=I1.same (h2:=h.alloc (.cells R (.own (some (e,0))))) hn1.symm hg1'
    have S':=S1.same (h2:=h.alloc (.cells R (.own (some (e,0))))) hn1.symm hg1'
    have hb2:(h.alloc (.cells R (.own (some (e,0))))).get b=some (.cells cs (.own (some (e,0)))):=by rw[NHeap.get_alloc,if_neg (by omega),hb]
    obtain⟨I2,S2⟩:=I'.kill (NHeap.get_lt hb2)
    have hg:∀b',((h.set b .dead).alloc (.cells R (.own (some (e,0))))).get b'=((h.alloc (.cells R (.own (some (e,0))))).set b .dead).get b':=by
     intro b'
     rw[get_dead_alloc,get_alloc_dead]
     by_cases x1:b'=h.next
     ·subst x1;rw[if_pos rfl,if_neg (by omega),if_pos rfl]
     ·rw[if_neg x1,if_neg x1]
      by_cases x2:b'=b
      ·rw[if_pos ⟨x2,hblt⟩,if_pos ⟨x2,by omega⟩]
      ·rw[if_neg (fun q=>x2 q.1),if_neg (fun q=>x2 q.1)]
    exact hQ ι' w' rv hv (I2.same rfl hg) ((S'.trans S2).same rfl hg)
   ·have hnr:n'≤rcap:=by omega
    obtain⟨h2',hs,hn2,hg2⟩:=hroom rcap hnr
    have hj:cs.length+(n'-n)*sz≤cc.size:=by
     rw[hl,←Nat.add_mul,show n+(n'-n)=n' by omega]
     exact Nat.le_trans (Nat.mul_le_mul_right _ hnr) hm'
    obtain⟨Iw,Ow⟩:=I.widen hb t1 _ hj
    refine hs w0 ι w ra Q Iw (by rw[hl'];exact .cons (.slice t1 hlr rfl) h2) fun ι' w' rv hv I' S'=>?_
    have t1':ι' b=some (rb,0,cc.size):=S'.ext _ _ t1
    have hgb:h2'.get b=some (.cells R (.own (some (e,0)))):=by rw[hg2,if_pos rfl]
    have hg:∀b',((h.set b .dead).alloc (.cells R (.own (some (e,0))))).get b'=if b'=h2'.next then some (.cells R (.own (some (e,0)))) else if b'=b then some .dead else h2'.get b':=by
     intro b'
     rw[get_dead_alloc,hn2]
     by_cases x1:b'=h.next
     ·rw[if_pos x1,if_pos x1]
     ·rw[if_neg x1,if_neg x1]
      by_cases x2:b'=b
      ·rw[if_pos ⟨x2,hblt⟩,if_pos x2]
      ·rw[if_neg (fun q=>x2 q.1),if_neg x2,hg2,if_neg x2]
    obtain⟨I2,S2⟩:=I'.rename hgb rfl t1' (h3:=(h.set b .dead).alloc (.cells R (.own (some (e,0))))) (by rw[hn2];rfl) hg
    rw[hn2] at I2 S2
    refine hQ _ w' rv ?_ I2 ?_
    ·generalize hv2:(NVal.slice (some (b,0)) n' rcap none)=vv at hv
     cases hv<;>cases hv2
     rename_i hι hcc _
     cases hcc
     rw[t1'] at hι;cases hι
     have:=VR.sliceMore (ι:=ι'.upd h.next (rb,0,cc.size)) (b:=h.next) (o:=0) (z:=sz) (len:=n') (cap:=n') (rcap:=_) (by simp;exact⟨rfl,rfl,rfl⟩) hnr hnr (by omega)
     simpa using this
    ·have S3:=S'.trans S2
     exact⟨S3.ext,fun b' x q=>(S3.new b' x q).elim .inl fun q=>.inr (by simpa using q),S3.size,fun rb' hlt hno=>S3.frame rb' hlt fun q=>hno (Ow rb' q),fun rb' q=>(S3.own rb' q).elim (fun q=>.inl (Ow rb' q)) .inr,by simp⟩
end Go.Proofs.YtkjpldganajkkaaGreatDoor.NICE
