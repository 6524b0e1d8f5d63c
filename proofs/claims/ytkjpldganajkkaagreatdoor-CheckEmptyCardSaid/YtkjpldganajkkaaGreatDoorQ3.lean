/-
  Nice17 to Nice23, as one text. Proved step by step; no conditions beside what is said.
-/
import Derived.Laws.StandIn
import Derived.Test.YtkjpldganajkkaaGreatDoorQ2
set_option linter.unusedSimpArgs false
set_option linter.unusedVariables false
set_option linter.unusedSectionVars false
set_option maxRecDepth 100000
namespace Go.Proofs.YtkjpldganajkkaaGreatDoor.NICE
open Go Go.RowKit
variable {P:Program}
theorem new_raw {ι:Inj} {o:Oper} {ρ:Operand→Option NVal} {re:Operand→Value} (hr:RelOn ι ρ re o.op.operands) {cs:List NVal} {mk:Nat→NVal} (hv:newOp P ρ o.op=some (.cells cs (.own none),mk)):
  ∃(c:Array Value) (e:TypeId) (rv:Nat→Value),(∀w:World,(execOp re o).run P w=.ok (.value (rv w.heap.size)) (w.alloc (.cells c e)))∧VRs ι cs c.toList∧
   ∀(ι':Inj) (b rb:Nat),ι' b=some (rb,0,c.size)→VR ι' (mk b) (rv rb):=by
 obtain⟨dst,op,ty,pos,after,guard⟩:=o
 simp only at hv hr
 cases op<;>simp only[newOp] at hv<;>try(cases hv;done)
 case alloc t=>
  cases hz:zeroOf P t with
  |none=>rw[hz] at hv;cases hv
  |some z=>
   rw[hz] at hv;cases hv
   obtain⟨i,rz,hi,hiz,hzr⟩:=zeroOf_sound (ι:=ι) hz
   refine⟨rz.cells,t,fun n=>.pointer (some ⟨n,0,none⟩),fun w=>?_,hzr.cells,fun ι' b rb e=>VR.ptr (s:=0) e⟩
   simp[execOp,Instr.alloc,run_zeroValue' hi hiz,newVar,newRow]
 case box t x=>
  cases hx:ρ x with
  |none=>rw[hx] at hv;cases hv
  |some v=>
   rw[hx] at hv;cases hv
   have hvx:=hr x (by simp[Op.operands]) v hx
   refine⟨(re x).cells,t,fun n=>.pointer (some ⟨n,0,none⟩),fun w=>?_,hvx.cells,fun ι' b rb e=>VR.ptr (s:=0) e⟩
   simp[execOp,Instr.box,newVar,newRow]
 case buildSlice t len ps=>
  cases hu:P.underlying t with
  |none=>rw[hu] at hv;cases hv
  |some d=>
   rw[hu] at hv
   cases d with
   |slice e=>
    simp only at hv
    cases hn:szOf P e with
    |none=>rw[hn] at hv;cases hv
    |some n=>cases hp:evParts ρ ps.toList with
     |none=>rw[hn,hp] at hv;cases hv
     |some l=>
      rw[hn,hp] at hv;simp only at hv
      split at hv
      ·rename_i hc
       cases hz:zeroOf P e with
       |none=>rw[hz] at hv;cases hv
       |some z=>
        rw[hz] at hv;simp only at hv
        split at hv
        ·rename_i hzl
         cases hf:nfill (fun i=>some (i*n,n)) (repeatCells z.cells len) l with
         |none=>rw[hf] at hv;cases hv
         |some cs'=>
          rw[hf] at hv;cases hv
          obtain⟨i,rz,hi,hiz,hzr⟩:=zeroOf_sound (ι:=ι) hz
          have hparts:=evParts_sound (ι:=ι) (re:=re) (fun x hx u hu=>hr x.2 (by simp only[Op.operands];exact List.mem_toArray.2 (List.mem_map_of_mem hx)) u hu) hp
          have hrl:=repeat_rel hzr (by omega) len (k:=len*n) (by rw[hzl])
          obtain⟨ds',f1,f2⟩:=fill_sound hf hrl hparts
          refine⟨ds',e,fun n=>.slice (some ⟨n,0,none⟩) len len,fun w=>?_,f2,fun ι' b rb q=>VR.slice (s:=0) (o:=0) q (Nat.le_refl _) rfl⟩
          have hm:(ps.map fun(i,x)=>(i,re x)).toList=ps.toList.map fun p=>(p.1,re p.2):=by simp
          simp only[execOp,Instr.buildSlice,Sem.run_bind,run_underlying hu,Result.andThen_ok,run_sizeOf' hn]
          rw[if_neg (by omega)]
          by_cases hl0:len*n=0
          ·have hlen0:len=0:=by
            rcases Nat.mul_eq_zero.1 hl0 with q|q
            ·exact q
            ·omega
           subst hlen0
           have f1':Instr.fill (fun i=>some (i*n,n)) #[] (ps.map fun(i,x)=>(i,re x)).toList=some ds':=by
            have e0:(Array.range (0*n)).map (fun i=>rz.cells[i%rz.cells.size]!)=#[]:=by apply Array.ext';simp
            rw[hm,←e0];exact f1
           have e0:∀f:Nat→Value,(Array.range 0).map f=#[]:=fun f=>by apply Array.ext';simp
           simp only[Nat.zero_mul,if_true,Sem.run_pure,Result.andThen_ok,e0,f1']
           simp[newRow]
          ·have f1':Instr.fill (fun i=>some (i*n,n)) ((Array.range (len*n)).map fun i=>rz.cells[i%rz.cells.size]!) (ps.map fun(i,x)=>(i,re x)).toList=some ds':=by
            rw[hm];exact f1
           simp only[hl0,if_false,Sem.run_bind,Sem.run_pure,run_zeroValue' hi hiz,Result.andThen_ok,f1']
           simp[newRow]
        ·cases hv
      ·cases hv
   |_=>cases hv
 case makeSlice t l c=>
  cases hu:P.underlying t with
  |none=>rw[hu] at hv;cases hv
  |some d=>cases hl:ρ l with
   |none=>rw[hu,hl] at hv;cases d<;>cases hv
   |some lv=>cases hc:ρ c with
    |none=>rw[hu,hl,hc] at hv;cases d<;>cases lv<;>cases hv
    |some cv=>
     rw[hu,hl,hc] at hv
     cases d with
     |slice e=>
      cases lv with
      |int k1 l1=>
       cases cv with
       |int k2 c1=>
        simp only at hv
        cases hn:szOf P e with
        |none=>rw[hn] at hv;cases hv
        |some n=>cases hb:bytesOf P e with
         |none=>rw[hn,hb] at hv;cases hv
         |some by_=>cases hz:zeroOf P e with
          |none=>rw[hn,hb,hz] at hv;cases hv
          |some z=>
           rw[hn,hb,hz] at hv;simp only at hv
           split at hv
           ·rename_i hcond
            obtain⟨c0,c1',c2,c3,c4,c5⟩:=hcond
            cases hv
            obtain⟨i,rz,hi,hiz,hzr⟩:=zeroOf_sound (ι:=ι) hz
            have hn':i.size=n:=by simp only[szOf,hi] at hn;cases hn;rfl
            have hb':i.bytes=by_:=by simp only[bytesOf,hi] at hb;cases hb;rfl
            have el:=(hr l (by simp[Op.operands]) _ hl).int_inv
            have ec:=(hr c (by simp[Op.operands]) _ hc).int_inv
            have w1:IntKind.i64.wrap l1=l1:=IntWalk.i64_in _ (by omega)
            have w2:IntKind.i64.wrap c1=c1:=IntWalk.i64_in _ (by omega)
            have hrl:=repeat_rel hzr (by omega) c1.toNat (k:=c1.toNat*n) (by rw[c4])
            refine⟨_,e,fun n=>.slice (some ⟨n,0,none⟩) l1.toNat c1.toNat,fun w=>?_,hrl,fun ι' b rb q=>VR.slice (s:=0) (o:=0) q (by omega) rfl⟩
            have ht:(decide (c1<0)||decide ((by_:Int)*c1>2^48))=false:=by
             have:(by_:Int)*c1≤1099511627776:=by rw[Int.mul_comm];exact c2
             simp;omega
            have hl0:decide (l1<0)=false:=by simp;omega
            have hlc:decide (l1>c1)=false:=by simp;omega
            simp only[execOp,Instr.makeSlice,Sem.run_bind,run_underlying hu,Result.andThen_ok,el,ec,asInt,asIntOf,Sem.run_pure,typeInfo,run_program,hi,w1,w2,hb',ht,hl0,hlc,Bool.or_self,Bool.false_eq_true,if_false,run_askRoom,sizeOf,hn']
            by_cases hc0:c1.toNat*n=0
            ·rw[if_pos hc0]
             have e0:∀f:Nat→Value,(Array.range (c1.toNat*n)).map f=#[]:=fun f=>by apply Array.ext';simp[hc0]
             simp only[Sem.run_pure,Result.andThen_ok,e0]
             simp[newRow]
            ·rw[if_neg hc0]
             simp only[Sem.run_bind,Sem.run_pure,run_zeroValue' hi hiz,Result.andThen_ok]
             simp[newRow]
           ·cases hv
       |_=>cases hv
      |_=>cases hv
     |_=>cases hv
 case makeMap t r=>cases r<;>cases hv
inductive Cls where
 |skip
 |val
 |eff (k:Nat)
 |flt (id:Nat) (cs:List NVal)
abbrev Float3:=Nat×Nat×List NVal
def adoptAll (h:NHeap) (l:List Float3):NHeap:=l.foldl (fun h x=>h.set x.2.1 (.cells x.2.2 (.own none))) h
def looks (ops:Array Oper) (o:Oper):List Tmp:=
 (o.op.operands.toList.filterMap fun| .tmp t=>some t|_=>none)++(match o.guard with|some (j,_)=>((ops[j]?).bind (·.dst)).toList|none=>[])
structure Dr where
 M:Nat→Nat
 tsAt:Nat→List NVal
 val:Nat→NVal
 cls:Nat→Cls
 H:Nat→NHeap
 m:Nat
 L:Nat→List Float3
structure DrOk (P:Program) (ops:Array Oper) (ts0:List NVal) (h0:NHeap) (d:Dr):Prop where
 edges:∀(j:Nat) o,ops[j]? =some o→∀e∈o.after,Region.binds .any e=true→e.on<j
 masks:∀(j i:Nat) o,ops[j]? =some o→(d.M j).testBit i=true→∃e∈o.after,Region.binds .any e=true∧(e.on=i∨(d.M e.on).testBit i=true)
 temps:∀(i j:Nat) oi oj,i<j→ops[i]? =some oi→ops[j]? =some oj→∀t,(oi.dst=some t∧(t∈looks ops oj∨oj.dst=some t))∨(oj.dst=some t∧t∈looks ops oi)→(d.M j).testBit i=true
 start:d.tsAt 0=ts0
 next:∀(i:Nat) o,ops[i]? =some o→d.tsAt (i+1)=nput (d.tsAt i) o.dst (d.val i)
 skip:∀(i:Nat) o,ops[i]? =some o→d.cls i=.skip→nwanted ops o (d.tsAt i)=some false∧d.val i=nundef
 run:∀(i:Nat) o,ops[i]? =some o→d.cls i≠.skip→nwanted ops o (d.tsAt i)=some true
 vals:∀(i:Nat) o,ops[i]? =some o→d.cls i=.val→∀k,k≤d.m→(∀j k',d.cls j=.eff k'→j<ops.size→(d.M i).testBit j=true→k'≤k)→(∀j k',d.cls j=.eff k'→j<ops.size→(d.M j).testBit i=true→k<k')→
  SimR P o (ev (d.tsAt i)) (d.H k) (d.val i)
 effs:∀(i:Nat) o k,ops[i]? =some o→d.cls i=.eff k→1≤k∧k≤d.m∧SimO P o (ev (d.tsAt i)) (adoptAll (d.H (k-1)) (d.L k)) (d.val i) (d.H k)∧(adoptAll (d.H (k-1)) (d.L k)).next≤(d.H k).next
 chain:∀(i j k k':Nat),i<ops.size→j<ops.size→d.cls i=.eff k→d.cls j=.eff k'→k<k'→(d.M j).testBit i=true
 uniq:∀(i j k:Nat),i<ops.size→j<ops.size→d.cls i=.eff k→d.cls j=.eff k→i=j
 all:∀k,1≤k→k≤d.m→∃i,i<ops.size∧d.cls i=.eff k
 flts:∀(i:Nat) o id cs,ops[i]? =some o→d.cls i=.flt id cs→h0.next≤id∧id<(d.H 0).next∧∃mk,newOp P (ev (d.tsAt i)) o.op=some (.cells cs (.own none),mk)∧d.val i=mk id
 fid:∀(i j:Nat) id cs cs',i<ops.size→j<ops.size→d.cls i=.flt id cs→d.cls j=.flt id cs'→i=j
 fL:∀(i:Nat) id cs,i<ops.size→d.cls i=.flt id cs→∃k,1≤k∧k≤d.m+1∧(i,id,cs)∈d.L k
 Lok:∀k (i:Nat) id cs,(i,id,cs)∈d.L k→d.cls i=.flt id cs∧i<ops.size∧(k≤d.m→∀j,j<ops.size→d.cls j=.eff k→(d.M j).testBit i=true)
 Lun:∀k k' x,x∈d.L k→x∈d.L k'→k=k'
 Lnd:∀k,(d.L k).Nodup
end Go.Proofs.YtkjpldganajkkaaGreatDoor.NICE
namespace Go.Proofs.YtkjpldganajkkaaGreatDoor.NICE
open Go Go.RowKit
variable {P:Program}
theorem Inv.drew {w0 w:World} {ι:Inj} {h:NHeap} (I:Inv w0 ι h w):Inv w0 ι h w.drew:=⟨I.below.drew,I.fresh,I.cells,I.typed,I.ro,I.maps,I.inj⟩
theorem Step.drew (w:World) (ι:Inj) (h:NHeap):Step ι h w ι h w.drew:=⟨ι.le_refl,fun _ _ e=>.inl e,Nat.le_refl _,fun _ _ _=>rfl,fun _ e=>.inl e,Nat.le_refl _⟩
structure Pend (ι:Inj) (ws w:World) (h:NHeap) (id:Nat) (cs:List NVal):Prop where
 ex:∃rb m c e,ι id=some (rb,0,m)∧ws.heap.size≤rb∧w.heap[rb]? =some (.cells c e (0,0))∧m≤c.size∧cs.length≤m∧(∀(i:Nat) v,cs[i]? =some v→∃r,c[i]? =some r∧VR ι v r)∧¬Owned ι h rb
theorem Inv.adopt {w0 w ws:World} {ι:Inj} {h:NHeap} (I:Inv w0 ι h w) (hws:w0.heap.size≤ws.heap.size) {id:Nat} {cs:List NVal} (p:Pend ι ws w h id cs):
  Inv w0 ι (h.set id (.cells cs (.own none))) w∧(∀rb,Owned ι (h.set id (.cells cs (.own none))) rb→Owned ι h rb∨∃m,ι id=some (rb,0,m)):=by
 obtain⟨rb,m,c,e,h1,h2,h3,h4,h5,h6,h7⟩:=p.ex
 have hid:id<h.next:=I.fresh _ _ h1
 have get:∀{b' ob'},(h.set id (.cells cs (.own none))).get b'=some ob'→(b'=id∧ob'=.cells cs (.own none))∨(b'≠id∧h.get b'=some ob'):=by
  intro b' ob' q
  rw[NHeap.get_set] at q
  split at q
  ·rename_i hh;cases q;exact .inl ⟨hh.1,rfl⟩
  ·rename_i hh;exact .inr ⟨fun q'=>hh ⟨q',hid⟩,q⟩
 refine⟨⟨I.below,fun b x q=>by simpa using I.fresh b x q,?_,?_,?_,?_,?_⟩,?_⟩
 ·intro b ds t q
  rcases get q with⟨rfl,q'⟩|⟨hne,q'⟩
  ·cases q';exact⟨rb,0,m,c,e,(0,0),h1,by omega,h3,by omega,h5,by simp,fun i v hi=>by simpa using h6 i v hi⟩
  ·exact I.cells b ds q'
 ·intro b ds T k q
  rcases get q with⟨rfl,q'⟩|⟨hne,q'⟩
  ·cases q'
  ·exact I.typed b ds T k q'
 ·intro b ds q
  rcases get q with⟨rfl,q'⟩|⟨hne,q'⟩
  ·cases q'
  ·exact I.ro b ds q'
 ·intro b es q
  rcases get q with⟨rfl,q'⟩|⟨hne,q'⟩
  ·cases q'
  ·exact I.maps b es q'
 ·intro b1 b2 o1 o2 r s1 s2 m1 m2 g1 w1 g2 w2 i1 i2
  rcases get g1 with⟨rfl,p1⟩|⟨n1,p1⟩<;>rcases get g2 with⟨rfl,p2⟩|⟨n2,p2⟩
  ·rfl
  ·rw[h1] at i1;cases i1;exact absurd ⟨b2,o2,s2,m2,p2,w2,i2⟩ h7
  ·rw[h1] at i2;cases i2;exact absurd ⟨b1,o1,s1,m1,p1,w1,i1⟩ h7
  ·exact I.inj b1 b2 o1 o2 r s1 s2 m1 m2 p1 w1 p2 w2 i1 i2
 ·rintro r ⟨b,ob,s,m',g,ho,hi⟩
  rcases get g with⟨rfl,p⟩|⟨n,p⟩
  ·rw[h1] at hi;cases hi;exact .inr ⟨m,h1⟩
  ·exact .inl ⟨b,ob,s,m',p,ho,hi⟩
theorem adoptAll_next (l:List Float3):∀h:NHeap,(adoptAll h l).next=h.next:=by
 induction l with
 |nil=>intro h;rfl
 |cons x l ih=>intro h;simp only[adoptAll,List.foldl_cons] at ih⊢;rw[ih];rfl
theorem Inv.adoptAll {w0 w ws:World} {ι:Inj} (hws:w0.heap.size≤ws.heap.size):∀{l:List Float3} {h:NHeap},Inv w0 ι h w→(∀x∈l,Pend ι ws w h x.2.1 x.2.2)→
  l.Pairwise (fun x y=>∀rb s m s' m',ι x.2.1=some (rb,s,m)→ι y.2.1≠some (rb,s',m'))→
  Inv w0 ι (NICE.adoptAll h l) w∧(∀rb,Owned ι (NICE.adoptAll h l) rb→Owned ι h rb∨∃x∈l,∃m,ι x.2.1=some (rb,0,m))
 |[],h,I,hp,hd=>⟨I,fun rb q=>.inl q⟩
 |x::l,h,I,hp,hd=>by
  obtain⟨I1,o1⟩:=I.adopt hws (hp x (by simp))
  rw[List.pairwise_cons] at hd
  have hp':∀y∈l,Pend ι ws w (h.set x.2.1 (.cells x.2.2 (.own none))) y.2.1 y.2.2:=by
   intro y hy
   obtain⟨rb,m,c,e,h1,h2,h3,h4,h5,h6,h7⟩:=(hp y (by simp[hy])).ex
   refine⟨rb,m,c,e,h1,h2,h3,h4,h5,h6,fun q=>?_⟩
   rcases o1 rb q with q|⟨m',q⟩
   ·exact h7 q
   ·exact hd.1 y hy rb 0 m' 0 m q h1
  obtain⟨I2,o2⟩:=Inv.adoptAll hws I1 hp' hd.2
  refine⟨I2,fun rb q=>?_⟩
  rcases o2 rb q with q|⟨y,hy,m,q⟩
  ·rcases o1 rb q with q|⟨m,q⟩
   ·exact .inl q
   ·exact .inr ⟨x,by simp,m,q⟩
  ·exact .inr ⟨y,by simp[hy],m,q⟩
section
variable {ops:Array Oper} {ts0:List NVal} {h0:NHeap} {d:Dr}
abbrev Done (listed:Array Bool) (i:Nat):Prop:=listed.getD i false=true
theorem tsAt_spec (K:DrOk P ops ts0 h0 d):∀i,i≤ops.size→(d.tsAt i).length=ts0.length∧∀(t:Nat),t<ts0.length→∃u,(d.tsAt i)[t]? =some u∧
  ((∃j o,j<i∧ops[j]? =some o∧o.dst=some t∧(∀j' o',j<j'→j'<i→ops[j']? =some o'→o'.dst≠some t)∧u=d.val j)∨
   ((∀j o,j<i→ops[j]? =some o→o.dst≠some t)∧ts0[t]? =some u))
 |0,_=>⟨by rw[K.start],fun t ht=>⟨ts0[t],by rw[K.start];simp[ht],.inr ⟨fun j o hj=>by omega,by simp[ht]⟩⟩⟩
 |i+1,hi=>by
  obtain⟨l1,s1⟩:=tsAt_spec K i (by omega)
  obtain⟨o,ho⟩:∃o,ops[i]? =some o:=⟨ops[i],by simp[show i<ops.size by omega]⟩
  rw[K.next i o ho]
  cases hd:o.dst with
  |none=>
   refine⟨l1,fun t ht=>?_⟩
   obtain⟨u,h1,h2⟩:=s1 t ht
   refine⟨u,h1,?_⟩
   rcases h2 with⟨j,oj,a1,a2,a3,a4,a5⟩|⟨b1,b2⟩
   ·refine .inl ⟨j,oj,by omega,a2,a3,fun j' o' q1 q2 q3=>?_,a5⟩
    rcases Nat.lt_or_ge j' i with q|q
    ·exact a4 j' o' q1 q q3
    ·have:j'=i:=by omega
     subst this;rw[ho] at q3;cases q3;rw[hd];simp
   ·refine .inr ⟨fun j oj q1 q2=>?_,b2⟩
    rcases Nat.lt_or_ge j i with q|q
    ·exact b1 j oj q q2
    ·have:j=i:=by omega
     subst this;rw[ho] at q2;cases q2;rw[hd];simp
  |some t'=>
   simp only[nput]
   refine⟨by simp[l1],fun t ht=>?_⟩
   by_cases htt:t'=t
   ·subst htt
    refine⟨d.val i,by rw[List.getElem?_set,if_pos rfl,if_pos (by omega)],.inl ⟨i,o,by omega,ho,hd,fun j' o' q1 q2=>by omega,rfl⟩⟩
   ·obtain⟨u,h1,h2⟩:=s1 t ht
    refine⟨u,by rw[List.getElem?_set,if_neg htt];exact h1,?_⟩
    rcases h2 with⟨j,oj,a1,a2,a3,a4,a5⟩|⟨b1,b2⟩
    ·refine .inl ⟨j,oj,by omega,a2,a3,fun j' o' q1 q2 q3=>?_,a5⟩
     rcases Nat.lt_or_ge j' i with q|q
     ·exact a4 j' o' q1 q q3
     ·have:j'=i:=by omega
      subst this;rw[ho] at q3;cases q3;rw[hd];intro e;cases e;exact htt rfl
    ·refine .inr ⟨fun j oj q1 q2=>?_,b2⟩
     rcases Nat.lt_or_ge j i with q|q
     ·exact b1 j oj q q2
     ·have:j=i:=by omega
      subst this;rw[ho] at q2;cases q2;rw[hd];intro e;cases e;exact htt rfl
theorem mask_done (K:DrOk P ops ts0 h0 d) {listed:Array Bool} (clo:∀(j:Nat) o,Done listed j→ops[j]? =some o→∀e∈o.after,Region.binds .any e=true→Done listed e.on):
  ∀(n:Nat) (i:Nat) o,i≤n→ops[i]? =some o→(∀e∈o.after,Region.binds .any e=true→Done listed e.on)→∀j,(d.M i).testBit j=true→Done listed j
 |n,i,o,hin,ho,hdir,j,hj=>by
  obtain⟨e,he,hb,q⟩:=K.masks i j o ho hj
  rcases q with q|q
  ·subst q;exact hdir e he hb
  ·have hlt:=K.edges i o ho e he hb
   have hi:i<ops.size:=(Array.getElem?_eq_some_iff.1 ho).1
   have hoe:ops[e.on]? =some ops[e.on]:=by simp[show e.on<ops.size by omega]
   cases n with
   |zero=>omega
   |succ n=>exact mask_done K clo n e.on _ (by omega) hoe (fun e' he' hb'=>clo e.on _ (hdir e he hb) hoe e' he' hb') j q
def TV (ops:Array Oper) (ts0:List NVal) (d:Dr) (listed:Array Bool) (t:Nat) (u:NVal):Prop:=
 (∃j o,Done listed j∧ops[j]? =some o∧o.dst=some t∧(∀j' o',j<j'→Done listed j'→ops[j']? =some o'→o'.dst≠some t)∧u=d.val j)∨
 ((∀j o,Done listed j→ops[j]? =some o→o.dst≠some t)∧ts0[t]? =some u)
structure RI (P:Program) (ops:Array Oper) (ts0:List NVal) (h0:NHeap) (d:Dr) (w0 ws:World) (ι0:Inj) (listed:Array Bool) (k:Nat) (a:Act) (ι:Inj) (w:World):Prop where
 sz:listed.size=ops.size
 clo:∀(j:Nat) o,Done listed j→ops[j]? =some o→∀e∈o.after,Region.binds .any e=true→Done listed e.on
 len:a.tmps.size=ts0.length
 tv:∀(t:Nat),t<ts0.length→∃u r,a.tmps[t]? =some r∧VR ι u r∧TV ops ts0 d listed t u
 df:a.defers=[]
 km:k≤d.m
 ek:∀(i k':Nat),i<ops.size→d.cls i=.eff k'→(Done listed i↔k'≤k)
 inv:Inv w0 ι (d.H k) w
 step:Step ι0 h0 ws ι (d.H k) w
 nx:(d.H 0).next≤(d.H k).next
 un:∀(i:Nat) id cs,i<ops.size→d.cls i=.flt id cs→¬Done listed i→ι id=none
 pd:∀(i:Nat) id cs,i<ops.size→d.cls i=.flt id cs→Done listed i→(∀k',k'≤k→(i,id,cs)∉d.L k')→Pend ι ws w (d.H k) id cs
 fl:∀(i:Nat) id cs,i<ops.size→d.cls i=.flt id cs→Done listed i→∀rb s m,ι id=some (rb,s,m)→rb<w.heap.size
 pdd:∀(i:Nat) id cs (j:Nat) id' cs',i<ops.size→j<ops.size→d.cls i=.flt id cs→d.cls j=.flt id' cs'→Done listed i→Done listed j→i≠j→
  ∀rb s m s' m',ι id=some (rb,s,m)→ι id'≠some (rb,s',m')
theorem done_set {listed:Array Bool} {i j:Nat} (hi:i<listed.size):Done (listed.setIfInBounds i true) j↔j=i∨Done listed j:=by
 unfold Done
 by_cases h:i=j
 ·subst h;simp[hi]
 ·rw[getD_set_ne false h];constructor
  ·exact .inr
  ·rintro(q|q)
   ·exact absurd q.symm h
   ·exact q
theorem read_at (K:DrOk P ops ts0 h0 d) {w0 ws w:World} {ι0 ι:Inj} {listed:Array Bool} {k:Nat} {a:Act} (R:RI P ops ts0 h0 d w0 ws ι0 listed k a ι w) {i:Nat} {o:Oper} (ho:ops[i]? =some o) (hun:¬Done listed i)
  (hdir:∀e∈o.after,Region.binds .any e=true→Done listed e.on) {t:Nat} (ht:t<ts0.length) (hl:t∈looks ops o):∃u r,(d.tsAt i)[t]? =some u∧a.tmps[t]? =some r∧VR ι u r:=by
 have hi:i<ops.size:=(Array.getElem?_eq_some_iff.1 ho).1
 obtain⟨_,sp⟩:=tsAt_spec K i (by omega)
 obtain⟨u,hu,hs⟩:=sp t ht
 obtain⟨u',r,hr,hv,htv⟩:=R.tv t ht
 refine⟨u,r,hu,hr,?_⟩
 have md:=mask_done K R.clo
 have later:∀j' o',i<j'→Done listed j'→ops[j']? =some o'→o'.dst≠some t:=by
  intro j' o' q1 q2 q3 q4
  have hb:=K.temps i j' o o' q1 ho q3 t (.inr ⟨q4,hl⟩)
  exact hun (md j' j' o' (Nat.le_refl _) q3 (R.clo j' o' q2 q3) i hb)
 have e:u=u':=by
  rcases hs with⟨j,oj,a1,a2,a3,a4,a5⟩|⟨b1,b2⟩
  ·have hjd:Done listed j:=md i i o (Nat.le_refl _) ho hdir j (K.temps j i oj o a1 a2 ho t (.inl ⟨a3,.inl hl⟩))
   rcases htv with⟨j1,o1,c1,c2,c3,c4,c5⟩|⟨c1,c2⟩
   ·have:j1=j:=by
     rcases Nat.lt_trichotomy j1 j with q|q|q
     ·exact absurd a3 (c4 j oj q hjd a2)
     ·exact q
     ·rcases Nat.lt_trichotomy j1 i with q'|q'|q'
      ·exact absurd c3 (a4 j1 o1 q q' c2)
      ·subst q';exact absurd c1 hun
      ·exact absurd c3 (later j1 o1 q' c1 c2)
    subst this;rw[a5,c5]
   ·exact absurd a3 (c1 j oj hjd a2)
  ·rcases htv with⟨j1,o1,c1,c2,c3,c4,c5⟩|⟨c1,c2⟩
   ·rcases Nat.lt_trichotomy j1 i with q|q|q
    ·exact absurd c3 (b1 j1 o1 q c2)
    ·subst q;exact absurd c1 hun
    ·exact absurd c3 (later j1 o1 q c1 c2)
   ·rw[b2] at c2;cases c2;rfl
 rw[e];exact hv
theorem tv_put (K:DrOk P ops ts0 h0 d) {w0 ws w:World} {ι0 ι:Inj} {listed:Array Bool} {k:Nat} {a:Act} (R:RI P ops ts0 h0 d w0 ws ι0 listed k a ι w) {i:Nat} {o:Oper} (ho:ops[i]? =some o) (hun:¬Done listed i)
  {ι':Inj} (hι:ι.le ι') {rv:Value} (hv:VR ι' (d.val i) rv):(a.put o.dst rv).tmps.size=ts0.length∧∀(t:Nat),t<ts0.length→∃u r,(a.put o.dst rv).tmps[t]? =some r∧VR ι' u r∧TV ops ts0 d (listed.setIfInBounds i true) t u:=by
 have hi:i<ops.size:=(Array.getElem?_eq_some_iff.1 ho).1
 have hil:i<listed.size:=by rw[R.sz];exact hi
 have md:=mask_done K R.clo
 have keep:∀t,o.dst≠some t→∀u,TV ops ts0 d listed t u→TV ops ts0 d (listed.setIfInBounds i true) t u:=by
  intro t hne u htv
  rcases htv with⟨j,oj,c1,c2,c3,c4,c5⟩|⟨c1,c2⟩
  ·refine .inl ⟨j,oj,(done_set hil).2 (.inr c1),c2,c3,fun j' o' q1 q2 q3=>?_,c5⟩
   rcases(done_set hil).1 q2 with q|q
   ·subst q;rw[ho] at q3;cases q3;exact hne
   ·exact c4 j' o' q1 q q3
  ·refine .inr ⟨fun j oj q1 q2=>?_,c2⟩
   rcases(done_set hil).1 q1 with q|q
   ·subst q;rw[ho] at q2;cases q2;exact hne
   ·exact c1 j oj q q2
 cases hd:o.dst with
 |none=>
  refine⟨R.len,fun t ht=>?_⟩
  obtain⟨u,r,h1,h2,h3⟩:=R.tv t ht
  exact⟨u,r,h1,h2.mono hι,keep t (by rw[hd];simp) u h3⟩
 |some t'=>
  simp only[Act.put]
  refine⟨by simpa using R.len,fun t ht=>?_⟩
  by_cases htt:t'=t
  ·subst htt
   refine⟨d.val i,rv,by rw[Array.getElem?_setIfInBounds];simp[R.len,ht],hv,.inl ⟨i,o,(done_set hil).2 (.inl rfl),ho,hd,fun j' o' q1 q2 q3 q4=>?_,rfl⟩⟩
   rcases(done_set hil).1 q2 with q|q
   ·omega
   ·have hb:=K.temps i j' o o' q1 ho q3 t' (.inl ⟨hd,.inr q4⟩)
    exact hun (md j' j' o' (Nat.le_refl _) q3 (R.clo j' o' q q3) i hb)
  ·obtain⟨u,r,h1,h2,h3⟩:=R.tv t ht
   exact⟨u,r,by rw[Array.getElem?_setIfInBounds,if_neg htt];exact h1,h2.mono hι,keep t (by rw[hd];intro e;cases e;exact htt rfl) u h3⟩
end
end Go.Proofs.YtkjpldganajkkaaGreatDoor.NICE
namespace Go.Proofs.YtkjpldganajkkaaGreatDoor.NICE
open Go Go.RowKit
variable {P:Program} {ops:Array Oper} {ts0:List NVal} {h0:NHeap} {d:Dr}
theorem rel_at (K:DrOk P ops ts0 h0 d) {w0 ws w:World} {ι0 ι:Inj} {listed:Array Bool} {k:Nat} {a:Act} (R:RI P ops ts0 h0 d w0 ws ι0 listed k a ι w) {i:Nat} {o:Oper} (ho:ops[i]? =some o) (hun:¬Done listed i)
  (hdir:∀e∈o.after,Region.binds .any e=true→Done listed e.on):RelOn ι (ev (d.tsAt i)) a.eval o.op.operands:=by
 have hi:i<ops.size:=(Array.getElem?_eq_some_iff.1 ho).1
 obtain⟨hl,_⟩:=tsAt_spec K i (by omega)
 intro x hx u hu
 cases x with
 |tmp t=>
  simp only[ev] at hu;cases hu
  simp only[Act.eval]
  rcases Nat.lt_or_ge t ts0.length with ht|ht
  ·obtain⟨u,r,h1,h2,h3⟩:=read_at K R ho hun hdir ht (by
    unfold looks
    exact List.mem_append_left _ (List.mem_filterMap.2 ⟨.tmp t,by simpa using hx,rfl⟩))
   simp[List.getD,Array.getD_eq_getD_getElem?,h1,h2];exact h3
  ·have e1:(d.tsAt i)[t]? =none:=by rw[List.getElem?_eq_none_iff];omega
   have e2:a.tmps[t]? =none:=by rw[Array.getElem?_eq_none_iff,R.len];omega
   simp[List.getD,Array.getD_eq_getD_getElem?,e1,e2];exact .undef
 |const v=>exact ofVal_sound 4 hu
 |global g=>cases hu
 |func f=>cases hu;exact .func' (by simpa using All2.nil) (by simpa using All2.nil)
theorem want_at (K:DrOk P ops ts0 h0 d) {w0 ws w:World} {ι0 ι:Inj} {listed:Array Bool} {k:Nat} {a:Act} (R:RI P ops ts0 h0 d w0 ws ι0 listed k a ι w) {i:Nat} {o:Oper} (ho:ops[i]? =some o) (hun:¬Done listed i)
  (hdir:∀e∈o.after,Region.binds .any e=true→Done listed e.on) {b:Bool} (hw:nwanted ops o (d.tsAt i)=some b):Region.wanted o (yielded ops a.tmps)=b:=by
 have hi:i<ops.size:=(Array.getElem?_eq_some_iff.1 ho).1
 obtain⟨hl,_⟩:=tsAt_spec K i (by omega)
 refine wanted_sound hw fun j want t hg ht _=>⟨ι,fun u hu=>?_,fun hn=>?_⟩
 ·have htl:t<ts0.length:=by rw[←hl];exact(List.getElem?_eq_some_iff.1 hu).1
  obtain⟨u',r,h1,h2,h3⟩:=read_at K R ho hun hdir htl (by
   unfold looks;refine List.mem_append_right _ ?_;rw[hg];simp[ht])
  rw[hu] at h1;cases h1;exact⟨r,h2,h3⟩
 ·rw[List.getElem?_eq_none_iff] at hn
  rw[Array.getElem?_eq_none_iff,R.len];omega
section steps
variable (K:DrOk P ops ts0 h0 d) {w0 ws w:World} {ι0 ι:Inj} {listed:Array Bool} {k:Nat} {a:Act} (R:RI P ops ts0 h0 d w0 ws ι0 listed k a ι w) {i:Nat} {o:Oper} (ho:ops[i]? =some o) (hun:¬Done listed i)
 (hdir:∀e∈o.after,Region.binds .any e=true→Done listed e.on)
include K R ho hun hdir
theorem clo_set:∀(j:Nat) o,Done (listed.setIfInBounds i true) j→ops[j]? =some o→∀e∈o.after,Region.binds .any e=true→Done (listed.setIfInBounds i true) e.on:=by
 have hi:i<ops.size:=(Array.getElem?_eq_some_iff.1 ho).1
 have hil:i<listed.size:=by rw[R.sz];exact hi
 intro j oj hj hoj e he hb
 rcases(done_set hil).1 hj with q|q
 ·subst q;rw[ho] at hoj;cases hoj;exact(done_set hil).2 (.inr (hdir e he hb))
 ·exact(done_set hil).2 (.inr (R.clo j oj q hoj e he hb))
theorem step_quiet (hnf:∀id cs,d.cls i≠.flt id cs) (hne:∀k',d.cls i≠.eff k') {rv:Value} (hv:VR ι (d.val i) rv):RI P ops ts0 h0 d w0 ws ι0 (listed.setIfInBounds i true) k (a.put o.dst rv) ι w:=by
 have hi:i<ops.size:=(Array.getElem?_eq_some_iff.1 ho).1
 have hil:i<listed.size:=by rw[R.sz];exact hi
 obtain⟨t1,t2⟩:=tv_put K R ho hun ι.le_refl hv
 have other:∀{j:Nat},Done (listed.setIfInBounds i true) j→j≠i→Done listed j:=fun q n=>((done_set hil).1 q).resolve_left n
 refine⟨by simp[R.sz],clo_set K R ho hun hdir,t1,t2,by rw[put_defers];exact R.df,R.km,?_,R.inv,R.step,R.nx,?_,?_,?_,?_⟩
 ·intro j k' hj hc
  rw[done_set hil,←R.ek j k' hj hc]
  constructor
  ·rintro(q|q)
   ·subst q;exact absurd hc (hne k')
   ·exact q
  ·exact .inr
 ·intro j id cs hj hc hn
  exact R.un j id cs hj hc fun q=>hn ((done_set hil).2 (.inr q))
 ·intro j id cs hj hc hd' hL
  exact R.pd j id cs hj hc (other hd' fun q=>by subst q;exact hnf id cs hc) hL
 ·intro j id cs hj hc hd' rb s m hι
  exact R.fl j id cs hj hc (other hd' fun q=>by subst q;exact hnf id cs hc) rb s m hι
 ·intro j id cs j' id' cs' hj hj' hc hc' hd1 hd2 hne'
  exact R.pdd j id cs j' id' cs' hj hj' hc hc' (other hd1 fun q=>by subst q;exact hnf id cs hc) (other hd2 fun q=>by subst q;exact hnf id' cs' hc') hne'
theorem step_float (hws:w0.heap.size≤ws.heap.size) {id:Nat} {cs:List NVal} (hc:d.cls i=.flt id cs) {c:Array Value} {e:TypeId} (hcs:VRs ι cs c.toList) {rv:Value} (hv:VR (ι.upd id (w.heap.size,0,c.size)) (d.val i) rv):
  RI P ops ts0 h0 d w0 ws ι0 (listed.setIfInBounds i true) k (a.put o.dst rv) (ι.upd id (w.heap.size,0,c.size)) (w.alloc (.cells c e)):=by
 have hi:i<ops.size:=(Array.getElem?_eq_some_iff.1 ho).1
 have hil:i<listed.size:=by rw[R.sz];exact hi
 have hnone:=R.un i id cs hi hc hun
 have hle:ι.le (ι.upd id (w.heap.size,0,c.size)):=Inj.le_upd _ hnone
 obtain⟨f1,f2,_⟩:=K.flts i o id cs ho hc
 obtain⟨t1,t2⟩:=tv_put K R ho hun hle hv
 have p:=Pushed.alloc w (.cells c e)
 have I:=R.inv
 have hB:w0.heap.size≤w.heap.size:=I.below.size
 have hclen:cs.length≤c.size:=by have:=hcs.length;simp at this;omega
 have dead:∀ob,(d.H k).get id=some ob→ob.owned=true→False:=by
  intro ob hg how
  cases ob with
  |cells l mine=>
   cases mine with|ro=>cases how|own t=>
   obtain⟨rb,s,m,_,_,_,q,_⟩:=I.cells id l hg
   rw[hnone] at q;cases q
  |map es=>
   obtain⟨rb,s,m,_,_,q,_⟩:=I.maps id es hg
   rw[hnone] at q;cases q
  |dead=>simp[NObj.owned] at how
 have own:∀rb,Owned (ι.upd id (w.heap.size,0,c.size)) (d.H k) rb→Owned ι (d.H k) rb:=by
  rintro rb ⟨b,ob,s,m,g,how,hι⟩
  by_cases hb:b=id
  ·subst hb;exact(dead ob g how).elim
  ·rw[Inj.upd_ne _ _ hb] at hι;exact⟨b,ob,s,m,g,how,hι⟩
 have hInv:Inv w0 (ι.upd id (w.heap.size,0,c.size)) (d.H k) (w.alloc (.cells c e)):=by
  refine⟨I.below.trans (p.below hB),?_,?_,?_,?_,?_,?_⟩
  ·intro b x q
   by_cases hb:b=id
   ·subst hb;have:=R.nx;omega
   ·rw[Inj.upd_ne _ _ hb] at q;exact I.fresh b x q
  ·intro b l t g
   obtain⟨rb,s,m,c1,e1,fz,h1,h2,h3,h4,h5,h6,h7⟩:=I.cells b l g
   exact⟨rb,s,m,c1,e1,fz,hle _ _ h1,h2,by rw[p.old ((Array.getElem?_eq_some_iff.1 h3).1)];exact h3,h4,h5,h6,fun j v hj=>by obtain⟨r,hr,hv'⟩:=h7 j v hj;exact⟨r,hr,hv'.mono hle⟩⟩
  ·intro b l T k1 g
   obtain⟨rb,c1,h1,h2,h3⟩:=I.typed b l T k1 g
   exact⟨rb,c1,hle _ _ h1,by rw[p.old ((Array.getElem?_eq_some_iff.1 h2).1)];exact h2,h3⟩
  ·intro b l g
   obtain⟨rb,s,m,h1,h2⟩:=I.ro b l g
   exact⟨rb,s,m,hle _ _ h1,fun j v hj=>by obtain⟨r,hr,hv'⟩:=h2 j v hj;exact⟨r,hr,hv'.mono hle⟩⟩
  ·intro b es g
   obtain⟨rb,s,m,ents,ck,h1,h2,h3,h4⟩:=I.maps b es g
   exact⟨rb,s,m,ents,ck,hle _ _ h1,h2,by rw[p.old ((Array.getElem?_eq_some_iff.1 h3).1)];exact h3,h4.imp fun _ _ ⟨q1,q2⟩=>⟨q1.mono hle,q2.mono hle⟩⟩
  ·intro b b' o1 o2 rb s s' m m' g1 w1 g2 w2 i1 i2
   by_cases hb:b=id
   ·subst hb;exact(dead o1 g1 w1).elim
   ·by_cases hb':b'=id
    ·subst hb';exact(dead o2 g2 w2).elim
    ·rw[Inj.upd_ne _ _ hb] at i1;rw[Inj.upd_ne _ _ hb'] at i2
     exact I.inj b b' o1 o2 rb s s' m m' g1 w1 g2 w2 i1 i2
 have other:∀{j:Nat},Done (listed.setIfInBounds i true) j→j≠i→Done listed j:=fun q n=>((done_set hil).1 q).resolve_left n
 have S:=R.step
 have idof:∀{j id' cs'},j<ops.size→d.cls j=.flt id' cs'→id'=id→j=i:=by
  intro j id' cs' hj hcj q
  subst q;exact K.fid j i id' cs' cs hj hi hcj hc
 refine⟨by simp[R.sz],clo_set K R ho hun hdir,t1,t2,by rw[put_defers];exact R.df,R.km,?_,hInv,?_,R.nx,?_,?_,?_,?_⟩
 ·intro j k' hj hcj
  rw[done_set hil,←R.ek j k' hj hcj]
  constructor
  ·rintro(q|q)
   ·subst q;rw[hc] at hcj;cases hcj
   ·exact q
  ·exact .inr
 ·refine⟨S.ext.trans hle,?_,by rw[p.size];have:=S.size;omega,?_,?_,S.next⟩
  ·intro b x q
   by_cases hb:b=id
   ·subst hb;exact .inr f1
   ·rw[Inj.upd_ne _ _ hb] at q;exact S.new b x q
  ·intro rb hlt hno
   rw[p.old (by have:=S.size;omega)]
   exact S.frame rb hlt hno
  ·intro rb q;exact S.own rb (own rb q)
 ·intro j id' cs' hj hcj hn
  have hne:id'≠id:=by
   intro q
   exact hn ((done_set hil).2 (.inl (idof hj hcj q)))
  rw[Inj.upd_ne _ _ hne]
  exact R.un j id' cs' hj hcj fun q=>hn ((done_set hil).2 (.inr q))
 ·intro j id' cs' hj hcj hdj hL
  by_cases hji:j=i
  ·subst hji
   rw[hc] at hcj;cases hcj
   refine⟨w.heap.size,c.size,c,e,by simp,S.size,p.new,Nat.le_refl _,hclen,fun q v hq=>?_,fun q=>?_⟩
   ·obtain⟨r,hr,hv'⟩:=hcs.get hq;exact⟨r,by simpa using hr,hv'.mono hle⟩
   ·have:=(I.lt_of_owned (own _ q)).1;omega
  ·obtain⟨rb,m,c1,e1,q1,q2,q3,q4,q5,q6,q7⟩:=(R.pd j id' cs' hj hcj (other hdj hji) hL).ex
   refine⟨rb,m,c1,e1,hle _ _ q1,q2,by rw[p.old ((Array.getElem?_eq_some_iff.1 q3).1)];exact q3,q4,q5,fun z v hz=>?_,fun q=>q7 (own _ q)⟩
   obtain⟨r,hr,hv'⟩:=q6 z v hz;exact⟨r,hr,hv'.mono hle⟩
 ·intro j id' cs' hj hcj hdj rb s m hι'
  rw[p.size]
  by_cases hji:j=i
  ·subst hji
   rw[hc] at hcj;cases hcj
   rw[Inj.upd_same] at hι';cases hι';omega
  ·have hne:id'≠id:=fun q=>hji (idof hj hcj q)
   rw[Inj.upd_ne _ _ hne] at hι'
   have:=R.fl j id' cs' hj hcj (other hdj hji) rb s m hι'
   omega
 ·intro j id1 cs1 j' id2 cs2 hj hj' hc1 hc2 hd1 hd2 hne rb s m s' m' e1 e2
  have low:∀{x:Nat} {idx:Nat} {csx:List NVal} {rb s m:Nat},x<ops.size→d.cls x=.flt idx csx→Done listed x→ι idx=some (rb,s,m)→rb<w.heap.size:=
   fun hx hcx hdx e=>R.fl _ _ _ hx hcx hdx _ _ _ e
  by_cases q1:j=i
  ·subst q1
   rw[hc] at hc1;cases hc1
   rw[Inj.upd_same] at e1;cases e1
   have hne2:id2≠id:=fun q=>hne (idof hj' hc2 q).symm
   rw[Inj.upd_ne _ _ hne2] at e2
   have:=low hj' hc2 (other hd2 fun q=>hne q.symm) e2
   omega
  ·have hne1:id1≠id:=fun q=>q1 (idof hj hc1 q)
   rw[Inj.upd_ne _ _ hne1] at e1
   by_cases q2:j'=i
   ·subst q2
    rw[hc] at hc2;cases hc2
    rw[Inj.upd_same] at e2;cases e2
    have:=low hj hc1 (other hd1 q1) e1
    omega
   ·have hne2:id2≠id:=fun q=>q2 (idof hj' hc2 q)
    rw[Inj.upd_ne _ _ hne2] at e2
    exact R.pdd j id1 cs1 j' id2 cs2 hj hj' hc1 hc2 (other hd1 q1) (other hd2 q2) hne rb s m s' m' e1 e2
end steps
end Go.Proofs.YtkjpldganajkkaaGreatDoor.NICE
namespace Go.Proofs.YtkjpldganajkkaaGreatDoor.NICE
open Go Go.RowKit
variable {P:Program} {ops:Array Oper} {ts0:List NVal} {h0:NHeap} {d:Dr}
theorem adopt_at (K:DrOk P ops ts0 h0 d) {w0 ws w:World} {ι0 ι:Inj} {listed:Array Bool} {k:Nat} {a:Act} (R:RI P ops ts0 h0 d w0 ws ι0 listed k a ι w) (hws:w0.heap.size≤ws.heap.size) {k':Nat} (hk:k<k')
  (hdone:∀(i:Nat) id cs,(i,id,cs)∈d.L k'→Done listed i):
  Inv w0 ι (adoptAll (d.H k) (d.L k')) w∧(∀rb,Owned ι (adoptAll (d.H k) (d.L k')) rb→Owned ι (d.H k) rb∨∃x∈d.L k',∃m,ι x.2.1=some (rb,0,m))∧Step ι0 h0 ws ι (adoptAll (d.H k) (d.L k')) w:=by
 have pend:∀x∈d.L k',Pend ι ws w (d.H k) x.2.1 x.2.2:=by
  rintro⟨i,id,cs⟩ hx
  obtain⟨hc,hi,_⟩:=K.Lok k' i id cs hx
  exact R.pd i id cs hi hc (hdone i id cs hx) fun k2 hk2 hx2=>by have:=K.Lun k' k2 _ hx hx2;omega
 have hpw:(d.L k').Pairwise (fun x y=>∀rb s m s' m',ι x.2.1=some (rb,s,m)→ι y.2.1≠some (rb,s',m')):=by
  have nd:=K.Lnd k'
  rw[List.nodup_iff_pairwise_ne] at nd
  refine nd.imp_of_mem ?_
  rintro⟨i,id,cs⟩ ⟨j,id',cs'⟩ hx hy hne
  obtain⟨hc,hi,_⟩:=K.Lok k' i id cs hx
  obtain⟨hc',hj,_⟩:=K.Lok k' j id' cs' hy
  exact R.pdd i id cs j id' cs' hi hj hc hc' (hdone i id cs hx) (hdone j id' cs' hy) fun q=>by
   subst q;rw[hc] at hc';cases hc';exact hne rfl
 obtain⟨I,o⟩:=Inv.adoptAll hws R.inv pend hpw
 refine⟨I,o,?_⟩
 have S:=R.step
 refine⟨S.ext,S.new,S.size,S.frame,fun rb q=>?_,by rw[adoptAll_next];exact S.next⟩
 rcases o rb q with q|⟨x,hx,m,q⟩
 ·exact S.own rb q
 ·obtain⟨rb',m',c,e,q1,q2,_⟩:=(pend x hx).ex
  rw[q] at q1;cases q1;exact .inr q2
section steps
variable (K:DrOk P ops ts0 h0 d) {w0 ws w:World} {ι0 ι:Inj} {listed:Array Bool} {k:Nat} {a:Act} (R:RI P ops ts0 h0 d w0 ws ι0 listed k a ι w) {i:Nat} {o:Oper} (ho:ops[i]? =some o) (hun:¬Done listed i)
 (hdir:∀e∈o.after,Region.binds .any e=true→Done listed e.on)
include K R ho hun hdir
theorem eff_next {k':Nat} (hc:d.cls i=.eff k'):k'=k+1:=by
 have hi:i<ops.size:=(Array.getElem?_eq_some_iff.1 ho).1
 have hk':¬k'≤k:=fun q=>hun ((R.ek i k' hi hc).2 q)
 obtain⟨h1,h2,_⟩:=K.effs i o k' ho hc
 rcases Nat.lt_or_ge (k+1) k' with q|q
 ·obtain⟨j,hj,hcj⟩:=K.all (k+1) (by omega) (by omega)
  have hb:=K.chain j i (k+1) k' hj hi hcj hc q
  have:=mask_done K R.clo i i o (Nat.le_refl _) ho hdir j hb
  have:=(R.ek j (k+1) hj hcj).1 this
  omega
 ·omega
theorem step_eff (hws:w0.heap.size≤ws.heap.size) (hc:d.cls i=.eff (k+1)) {ι':Inj} {w':World} {rv:Value} (hv:VR ι' (d.val i) rv) (I':Inv w0 ι' (d.H (k+1)) w') (S':Step ι (adoptAll (d.H k) (d.L (k+1))) w ι' (d.H (k+1)) w'):
  RI P ops ts0 h0 d w0 ws ι0 (listed.setIfInBounds i true) (k+1) (a.put o.dst rv) ι' w':=by
 have hi:i<ops.size:=(Array.getElem?_eq_some_iff.1 ho).1
 have hil:i<listed.size:=by rw[R.sz];exact hi
 obtain⟨h1,h2,_,hnx⟩:=K.effs i o (k+1) ho hc
 have hdone:∀(j:Nat) id cs,(j,id,cs)∈d.L (k+1)→Done listed j:=fun j id cs hx=>
  mask_done K R.clo i i o (Nat.le_refl _) ho hdir j ((K.Lok (k+1) j id cs hx).2.2 h2 i hi hc)
 obtain⟨I1,o1,S1⟩:=adopt_at K R hws (Nat.lt_succ_self k) hdone
 obtain⟨t1,t2⟩:=tv_put K R ho hun S'.ext hv
 have other:∀{j:Nat},Done (listed.setIfInBounds i true) j→j≠i→Done listed j:=fun q n=>((done_set hil).1 q).resolve_left n
 have notflt:∀{j id cs},d.cls j=.flt id cs→j≠i:=by
  intro j id cs q e;subst e;rw[hc] at q;cases q
 have nx:(d.H 0).next≤(adoptAll (d.H k) (d.L (k+1))).next:=by rw[adoptAll_next];exact R.nx
 have same:∀{j id cs x},j<ops.size→d.cls j=.flt id cs→ι' id=some x→ι id=some x:=by
  intro j id cs x hj hcj q
  rcases S'.new id x q with q'|q'
  ·exact q'
  ·have:=(K.flts j ops[j] id cs (by simp[hj]) hcj).2.1;omega
 refine⟨by simp[R.sz],clo_set K R ho hun hdir,t1,t2,by rw[put_defers];exact R.df,h2,?_,I',S1.trans S',by
  have:=hnx;simp only[Nat.add_sub_cancel] at this;omega,?_,?_,?_,?_⟩
 ·intro j k2 hj hcj
  rw[done_set hil]
  by_cases hji:j=i
  ·subst hji;rw[hc] at hcj;cases hcj;simp
  ·have e:=R.ek j k2 hj hcj
   constructor
   ·rintro(q|q)
    ·exact absurd q hji
    ·have:=e.1 q;omega
   ·intro q
    rcases Nat.lt_or_ge k k2 with q'|q'
    ·have:k2=k+1:=by omega
     subst this
     exact absurd (K.uniq j i (k+1) hj hi hcj hc) hji
    ·exact .inr (e.2 q')
 ·intro j id cs hj hcj hn
  have hnone:=R.un j id cs hj hcj fun q=>hn ((done_set hil).2 (.inr q))
  cases e:ι' id with
  |none=>rfl
  |some x=>have:=same hj hcj e;rw[hnone] at this;cases this
 ·intro j id cs hj hcj hdj hL
  have hdl:=other hdj (notflt hcj)
  obtain⟨rb,m,c,e,q1,q2,q3,q4,q5,q6,q7⟩:=(R.pd j id cs hj hcj hdl fun k2 hk2=>hL k2 (by omega)).ex
  have hlt:rb<w.heap.size:=(Array.getElem?_eq_some_iff.1 q3).1
  have notown:¬Owned ι (adoptAll (d.H k) (d.L (k+1))) rb:=by
   intro q
   rcases o1 rb q with q|⟨⟨j',id',cs'⟩,hx,m',q⟩
   ·exact q7 q
   ·obtain⟨hc',hj',_⟩:=K.Lok (k+1) j' id' cs' hx
    by_cases hjj:j'=j
    ·subst hjj;rw[hcj] at hc';cases hc';exact hL (k+1) (Nat.le_refl _) hx
    ·exact R.pdd j' id' cs' j id cs hj' hj hc' hcj (hdone j' id' cs' hx) hdl hjj rb 0 m' 0 m q q1
  refine⟨rb,m,c,e,S'.ext _ _ q1,q2,by rw[S'.frame rb hlt notown];exact q3,q4,q5,fun z v hz=>?_,fun q=>?_⟩
  ·obtain⟨r,hr,hv'⟩:=q6 z v hz;exact⟨r,hr,hv'.mono S'.ext⟩
  ·rcases S'.own rb q with q|q
   ·exact notown q
   ·omega
 ·intro j id cs hj hcj hdj rb s m e
  have:=R.fl j id cs hj hcj (other hdj (notflt hcj)) rb s m (same hj hcj e)
  exact Nat.lt_of_lt_of_le this S'.size
 ·intro j id cs j' id' cs' hj hj' hc1 hc2 hd1 hd2 hne rb s m s' m' e1 e2
  exact R.pdd j id cs j' id' cs' hj hj' hc1 hc2 (other hd1 (notflt hc1)) (other hd2 (notflt hc2)) hne rb s m s' m' (same hj hc1 e1) (same hj' hc2 e2)
end steps
theorem any_sound (K:DrOk P ops ts0 h0 d) {w0 ws:World} {ι0:Inj} (hws:w0.heap.size≤ws.heap.size) {Q:Exit→Act→World→Prop}
  (hQ:∀ι' w' a',VRs ι' (d.tsAt ops.size) a'.tmps.toList→a'.defers=[]→Inv w0 ι' (adoptAll (d.H d.m) (d.L (d.m+1))) w'→Step ι0 h0 ws ι' (adoptAll (d.H d.m) (d.L (d.m+1))) w'→Q .normal a' w'):
  ∀(fuel:Nat) (listed:Array Bool) (k:Nat) (a:Act) (ι:Inj) (w:World),listed.toList.count false≤fuel→RI P ops ts0 h0 d w0 ws ι0 listed k a ι w→wpAny P .any ops Q fuel listed a w:=by
 have allDone:∀{listed:Array Bool} {k a ι w},RI P ops ts0 h0 d w0 ws ι0 listed k a ι w→Region.ready .any ops listed=[]→∀n i,i≤n→i<ops.size→Done listed i:=by
  intro listed k a ι w R hr n
  induction n with
  |zero=>
   intro i hi hio
   apply Classical.byContradiction
   intro hnd
   have:i∈Region.ready .any ops listed:=by
    rw[mem_ready]
    refine⟨?_,ops[i],by simp[hio],fun e he hb=>?_⟩
    ·have hil:i<listed.size:=by rw[R.sz];exact hio
     unfold Done at hnd;simp[Array.getD_eq_getD_getElem?,hil] at hnd⊢;exact hnd
    ·have:=K.edges i _ (by simp[hio]) e he hb;omega
   rw[hr] at this;cases this
  |succ n ih=>
   intro i hi hio
   apply Classical.byContradiction
   intro hnd
   have:i∈Region.ready .any ops listed:=by
    rw[mem_ready]
    refine⟨?_,ops[i],by simp[hio],fun e he hb=>?_⟩
    ·have hil:i<listed.size:=by rw[R.sz];exact hio
     unfold Done at hnd;simp[Array.getD_eq_getD_getElem?,hil] at hnd⊢;exact hnd
    ·have:=K.edges i _ (by simp[hio]) e he hb
     exact ih e.on (by omega) (by omega)
   rw[hr] at this;cases this
 have fin:∀{listed:Array Bool} {k a ι w},RI P ops ts0 h0 d w0 ws ι0 listed k a ι w→Region.ready .any ops listed=[]→Q .normal a w:=by
  intro listed k a ι w R hr
  have hall:∀i,i<ops.size→Done listed i:=fun i hi=>allDone R hr i i (Nat.le_refl _) hi
  have hkm:k=d.m:=by
   rcases Nat.lt_or_ge k d.m with q|q
   ·obtain⟨i,hi,hc⟩:=K.all (k+1) (by omega) (by omega)
    have:=(R.ek i (k+1) hi hc).1 (hall i hi)
    omega
   ·have:=R.km;omega
  subst hkm
  obtain⟨I,_,S⟩:=adopt_at K R hws (Nat.lt_succ_self _) (fun i id cs hx=>hall i (K.Lok _ i id cs hx).2.1)
  refine hQ ι w a ?_ R.df I S
  obtain⟨hl,sp⟩:=tsAt_spec K ops.size (Nat.le_refl _)
  refine .of_get (by rw[hl];simpa using R.len.symm) fun t u r hu hr'=>?_
  have ht:t<ts0.length:=by rw[←hl];exact(List.getElem?_eq_some_iff.1 hu).1
  obtain⟨u1,h1,h2⟩:=sp t ht
  rw[hu] at h1;cases h1
  obtain⟨u',r',h3,h4,h5⟩:=R.tv t ht
  rw[Array.getElem?_toList,h3] at hr';cases hr'
  have e:u=u':=by
   rcases h2 with⟨j,oj,a1,a2,a3,a4,a5⟩|⟨b1,b2⟩
   ·rcases h5 with⟨j1,o1,c1,c2,c3,c4,c5⟩|⟨c1,c2⟩
    ·have hj1:j1<ops.size:=(Array.getElem?_eq_some_iff.1 c2).1
     have:j1=j:=by
      rcases Nat.lt_trichotomy j1 j with q|q|q
      ·exact absurd a3 (c4 j oj q (hall j a1) a2)
      ·exact q
      ·exact absurd c3 (a4 j1 o1 q hj1 c2)
     subst this;rw[a5,c5]
    ·exact absurd a3 (c1 j oj (hall j a1) a2)
   ·rcases h5 with⟨j1,o1,c1,c2,c3,c4,c5⟩|⟨c1,c2⟩
    ·exact absurd c3 (b1 j1 o1 (Array.getElem?_eq_some_iff.1 c2).1 c2)
    ·rw[b2] at c2;cases c2;rfl
  rw[e];exact h4
 intro fuel
 induction fuel with
 |zero=>
  intro listed k a ι w hcnt R
  have hr:Region.ready .any ops listed=[]:=by
   apply List.eq_nil_iff_forall_not_mem.2
   intro i hi
   obtain⟨h1,o,ho,_⟩:=mem_ready.1 hi
   have hil:i<listed.size:=by rw[R.sz];exact(Array.getElem?_eq_some_iff.1 ho).1
   have:false∈listed.toList:=by
    refine List.mem_iff_getElem?.2 ⟨i,?_⟩
    rw[Array.getElem?_toList]
    simp[Array.getD_eq_getD_getElem?,hil] at h1;simp[hil,h1]
   have:=List.count_pos_iff.2 this
   omega
  exact⟨hr,fin R hr⟩
 |succ fuel ih=>
  intro listed k a ι w hcnt R
  refine⟨fun hr=>fin R hr,fun i hi=>?_⟩
  obtain⟨h1,o,ho,hdir⟩:=mem_ready.1 hi
  have hio:i<ops.size:=(Array.getElem?_eq_some_iff.1 ho).1
  have hil:i<listed.size:=by rw[R.sz];exact hio
  have hlf:listed[i]=false:=by simpa[Array.getD_eq_getD_getElem?,hil] using h1
  have hun:¬Done listed i:=by unfold Done;simp[Array.getD_eq_getD_getElem?,hil,hlf]
  have hcnt':(listed.setIfInBounds i true).toList.count false≤fuel:=by
   rw[Array.toList_setIfInBounds]
   have hset:=List.count_set (a:=true) (b:=false) (l:=listed.toList) (i:=i) (by simpa using hil)
   have e1:(listed.toList[i]'(by simpa using hil)==false)=true:=by simp[hlf]
   rw[hset,if_pos e1,if_neg (by simp)]
   omega
  unfold wpOp
  simp only[ho]
  cases hc:d.cls i with
  |skip=>
   obtain⟨s1,s2⟩:=K.skip i o ho hc
   rw[if_neg (by rw[want_at K R ho hun hdir s1];simp)]
   refine ih _ k _ ι w hcnt' (step_quiet K R ho hun hdir (fun id cs q=>by rw[hc] at q;cases q) (fun k' q=>by rw[hc] at q;cases q) (by rw[s2];exact .undef))
  |val=>
   have hw:=want_at K R ho hun hdir (K.run i o ho (by rw[hc];simp))
   rw[if_pos hw]
   left
   have hsim:=K.vals i o ho hc k R.km (fun j k' hcj hj hb=>(R.ek j k' hj hcj).1 (mask_done K R.clo i i o (Nat.le_refl _) ho hdir j hb))
    (fun j k' hcj hj hb=>by
     apply Classical.byContradiction
     intro q
     have hdj:=(R.ek j k' hj hcj).2 (by omega)
     have hoj:ops[j]? =some ops[j]:=by simp[hj]
     exact hun (mask_done K R.clo j j _ (Nat.le_refl _) hoj (R.clo j _ hdj hoj) i hb))
   obtain⟨rv,r1,r2⟩:=hsim w0 ι w a.eval R.inv (rel_at K R ho hun hdir)
   unfold Oper.wp
   rw[r2]
   exact ih _ k _ ι w hcnt' (step_quiet K R ho hun hdir (fun id cs q=>by rw[hc] at q;cases q) (fun k' q=>by rw[hc] at q;cases q) r1)
  |eff k'=>
   have hw:=want_at K R ho hun hdir (K.run i o ho (by rw[hc];simp))
   rw[if_pos hw]
   left
   have hk':=eff_next K R ho hun hdir hc
   subst hk'
   obtain⟨e1,e2,e3,_⟩:=K.effs i o (k+1) ho hc
   have hdone:∀(j:Nat) id cs,(j,id,cs)∈d.L (k+1)→Done listed j:=fun j id cs hx=>
    mask_done K R.clo i i o (Nat.le_refl _) ho hdir j ((K.Lok (k+1) j id cs hx).2.2 e2 i hio hc)
   obtain⟨I1,_,_⟩:=adopt_at K R hws (Nat.lt_succ_self k) hdone
   simp only[Nat.add_sub_cancel] at e3
   exact e3 w0 ι w a _ Q I1 (rel_at K R ho hun hdir) fun ι' w' rv hv I' S'=>ih _ (k+1) _ ι' w' hcnt' (step_eff K R ho hun hdir hws hc hv I' S')
  |flt id cs=>
   have hw:=want_at K R ho hun hdir (K.run i o ho (by rw[hc];simp))
   rw[if_pos hw]
   left
   obtain⟨f1,f2,mk,f3,f4⟩:=K.flts i o id cs ho hc
   obtain⟨c,e,rv,r1,r2,r3⟩:=new_raw (rel_at K R ho hun hdir) f3
   unfold Oper.wp
   rw[r1 w]
   exact ih _ k _ _ _ hcnt' (step_float K R ho hun hdir hws hc r2 (by rw[f4];exact r3 _ _ _ (by simp)))
def reserve:Nat→NHeap→NHeap
 |0,h=>h
 |n+1,h=>reserve n (h.alloc .dead)
theorem Inv.reserve1 {w0 w:World} {ι:Inj} {h:NHeap} (I:Inv w0 ι h w):Inv w0 ι (h.alloc .dead) w∧Step ι h w ι (h.alloc .dead) w:=by
 have get:∀{b ob},(h.alloc .dead).get b=some ob→ob=.dead∨h.get b=some ob:=by
  intro b ob q
  rw[NHeap.get_alloc] at q
  split at q
  ·cases q;exact .inl rfl
  ·exact .inr q
 refine⟨⟨I.below,fun b x q=>by have:=I.fresh b x q;simp;omega,?_,?_,?_,?_,?_⟩,⟨ι.le_refl,fun _ _ q=>.inl q,Nat.le_refl _,fun _ _ _=>rfl,?_,by simp⟩⟩
 ·intro b l t q
  rcases get q with q'|q'
  ·cases q'
  ·exact I.cells b l q'
 ·intro b l T k q
  rcases get q with q'|q'
  ·cases q'
  ·exact I.typed b l T k q'
 ·intro b l q
  rcases get q with q'|q'
  ·cases q'
  ·exact I.ro b l q'
 ·intro b l q
  rcases get q with q'|q'
  ·cases q'
  ·exact I.maps b l q'
 ·intro b b' o1 o2 rb s s' m m' g1 w1 g2 w2 i1 i2
  rcases get g1 with q1|q1
  ·subst q1;simp[NObj.owned] at w1
  ·rcases get g2 with q2|q2
   ·subst q2;simp[NObj.owned] at w2
   ·exact I.inj b b' o1 o2 rb s s' m m' q1 w1 q2 w2 i1 i2
 ·rintro rb ⟨b,ob,s,m,g,ho,hi⟩
  rcases get g with q|q
  ·subst q;simp[NObj.owned] at ho
  ·exact .inl ⟨b,ob,s,m,q,ho,hi⟩
theorem Inv.reserve {w0 w:World} {ι:Inj}:∀(n:Nat) {h:NHeap},Inv w0 ι h w→Inv w0 ι (NICE.reserve n h) w∧Step ι h w ι (NICE.reserve n h) w
 |0,h,I=>⟨I,Step.refl _ _ _⟩
 |n+1,h,I=>by
  obtain⟨I1,S1⟩:=I.reserve1
  obtain⟨I2,S2⟩:=Inv.reserve n I1
  exact⟨I2,S1.trans S2⟩
theorem reserve_next:∀(n:Nat) (h:NHeap),(reserve n h).next=h.next+n
 |0,h=>rfl
 |n+1,h=>by simp[reserve,reserve_next n];omega
theorem drawn_sound (hm:P.follows .mixedOrders=true) (K:DrOk P ops ts0 h0 d) {nf:Nat} (hH:d.H 0=reserve nf h0) (id:Nat):
  SimC P (.region id ops true) ts0 h0 .normal (d.tsAt ops.size) (adoptAll (d.H d.m) (d.L (d.m+1))):=by
 intro w0 ι w a Q I ht hd hQ
 refine wp_region_any hm ?_
 rw[World.drew_eq]
 have Id:=I.drew
 obtain⟨I1,S1⟩:=Id.reserve nf
 have hdef:∀i,¬Done (Array.replicate ops.size false) i:=by
  intro i q
  unfold Done at q
  by_cases hi:i<ops.size
  ·simp[Array.getD_eq_getD_getElem?,hi] at q
  ·simp[Array.getD_eq_getD_getElem?,hi] at q
 refine any_sound K (ws:=w.drew) (ι0:=ι) I.below.size (fun ι' w' a' t' d' I' S'=>hQ ι' w' a' t' d' I' ((Step.drew w ι h0).trans S')) ops.size _ 0 a ι w.drew (by simp) ?_
 have hlen:a.tmps.size=ts0.length:=by have:=ht.length;simp at this;omega
 refine⟨by simp,fun j o q=>absurd q (hdef j),hlen,fun t htl=>?_,hd,Nat.zero_le _,fun i k' hi hc=>?_,by rw[hH];exact I1,by rw[hH];exact S1,Nat.le_refl _,fun i id cs hi hc _=>?_,fun i id cs _ _ q=>absurd q (hdef i),fun i id cs _ _ q=>absurd q (hdef i),fun i id cs j id' cs' _ _ _ _ q=>absurd q (hdef i)⟩
 ·obtain⟨r,hr,hv⟩:=ht.get (i:=t) (a:=ts0[t]) (by simp[htl])
  exact⟨ts0[t],r,by simpa using hr,hv,.inr ⟨fun j o q=>absurd q (hdef j),by simp[htl]⟩⟩
 ·constructor
  ·intro q;exact absurd q (hdef i)
  ·intro q
   have:=(K.effs i ops[i] k' (by simp[hi]) hc).1
   omega
 ·obtain⟨f1,_⟩:=K.flts i ops[i] id cs (by simp[hi]) hc
  cases e:ι id with
  |none=>rfl
  |some x=>have:=I.fresh _ _ e;omega
end Go.Proofs.YtkjpldganajkkaaGreatDoor.NICE
namespace Go.Proofs.YtkjpldganajkkaaGreatDoor.NICE
open Go Go.RowKit
mutual
def veq:Nat→NVal→NVal→Bool
 |0,_,_=>false
 |n+1,x,y=>match x,y with
  | .bool a,.bool b=>a==b
  | .int j a,.int k b=>decide (j=k)&&decide (a=b)
  | .str a,.str b=>decide (a=b)
  | .ptr a,.ptr b=>decide (a=b)
  | .slice a l c e,.slice a' l' c' e'=>decide (a=a')&&decide (l=l')&&decide (c=c')&&decide (e=e')
  | .map a,.map b=>decide (a=b)
  | .func f a b,.func g c d=>decide (f=g)&&veqs n a c&&veqs n b d
  | .nilFunc,.nilFunc=>true
  | .iface t a,.iface u b=>decide (t=u)&&veq n a b
  | .nilIface,.nilIface=>true
  | .agg a,.agg b=>veqs n a b
  | .tuple a,.tuple b=>veqs n a b
  | .junk,.junk=>true
  |_,_=>false
def veqs:Nat→List NVal→List NVal→Bool
 |_,[],[]=>true
 |0,_,_=>false
 |n+1,a::l,b::m=>veq n a b&&veqs n l m
 |_,_,_=>false
end
mutual
theorem veq_eq:∀(n:Nat) {x y:NVal},veq n x y=true→x=y
 |0,x,y,h=>by simp[veq] at h
 |n+1,x,y,h=>by
  unfold veq at h
  split at h<;>first
   |(simp only[beq_iff_eq] at h;subst h;rfl)
   |(simp only[Bool.and_eq_true,decide_eq_true_eq] at h;obtain⟨⟨⟨rfl,rfl⟩,rfl⟩,rfl⟩:=h;rfl)
   |(simp only[Bool.and_eq_true,decide_eq_true_eq] at h;obtain⟨⟨rfl,h1⟩,h2⟩:=h;rw[veqs_eq n h1,veqs_eq n h2])
   |(simp only[Bool.and_eq_true,decide_eq_true_eq] at h;obtain⟨rfl,rfl⟩:=h;rfl)
   |(simp only[Bool.and_eq_true,decide_eq_true_eq] at h;obtain⟨rfl,h1⟩:=h;rw[veq_eq n h1])
   |(simp only[decide_eq_true_eq] at h;subst h;rfl)
   |(rw[veqs_eq n h])
   |rfl
   |cases h
theorem veqs_eq:∀(n:Nat) {x y:List NVal},veqs n x y=true→x=y
 |n,[],[],h=>rfl
 |0,[],b::m,h=>by simp[veqs] at h
 |0,a::l,[],h=>by simp[veqs] at h
 |0,a::l,b::m,h=>by simp[veqs] at h
 |n+1,[],b::m,h=>by simp[veqs] at h
 |n+1,a::l,[],h=>by simp[veqs] at h
 |n+1,a::l,b::m,h=>by
  simp only[veqs,Bool.and_eq_true] at h
  rw[veq_eq n h.1,veqs_eq n h.2]
end
def maskOf (acc:List Nat) (o:Oper):Nat:=o.after.toList.foldl (fun s e=>if Region.binds .any e then s|||2^e.on|||acc.getD e.on 0 else s) 0
def masksOf (l:List Oper):List Nat:=l.foldl (fun acc o=>acc++[maskOf acc o]) []
def pairOk (ops:Array Oper) (mj:Nat) (i:Nat) (oi oj:Oper):Bool:=
 let clash:=(match oi.dst with|some t=>(looks ops oj).contains t||(match oj.dst with|some u=>u==t|none=>false)|none=>false)||
  (match oj.dst with|some t=>(looks ops oi).contains t|none=>false)
 !clash||mj.testBit i
def pairsOk (ops:Array Oper) (mj:Nat) (oj:Oper):Nat→List Oper→Bool
 |_,[]=>true
 |i,oi::l=>pairOk ops mj i oi oj&&pairsOk ops mj oj (i+1) l
def drStaticFrom (ops:Array Oper) (M:List Nat) (l:List Oper):Nat→List Oper→Bool
 |_,[]=>true
 |j,o::rest=>o.after.toList.all (fun e=>!Region.binds .any e||decide (e.on<j))&&(M.getD j 0==maskOf M o)&&pairsOk ops (M.getD j 0) o 0 (l.take j)&&drStaticFrom ops M l (j+1) rest
def drStatic (ops:Array Oper):Bool:=drStaticFrom ops (masksOf ops.toList) ops.toList 0 ops.toList
structure St where
 ts:List NVal
 h:NHeap
 hs:List NHeap
 ls:List (List Float3)
 ei:List Nat
 pend:List Float3
 nid:Nat
 reads:List (Nat×Oper×List NVal×NVal)
 v:NVal
 c:Cls
def stepE (P:Program) (F:CallF) (ops:Array Oper) (M:List Nat) (i:Nat) (o:Oper) (st:St):Option St:=
 match nwanted ops o st.ts with
 |none=>none
 |some false=>some {st with ts:=nput st.ts o.dst nundef,v:=nundef,c:=.skip}
 |some true=>
  match pureOp P (ev st.ts) o.op with
  |some v=>some {st with ts:=nput st.ts o.dst v,v:=v,c:=.val}
  |none=>match readOp P (ev st.ts) st.h o.op with
   |some v=>some {st with ts:=nput st.ts o.dst v,v:=v,c:=.val,reads:=st.reads++[(i,o,st.ts,v)]}
   |none=>match newOp P (ev st.ts) o.op with
    |some (.cells cs (.own none),mk)=>some {st with ts:=nput st.ts o.dst (mk st.nid),v:=mk st.nid,c:=.flt st.nid cs,pend:=st.pend++[(i,st.nid,cs)],nid:=st.nid+1}
    |_=>
     let tk:=st.pend.filter fun x=>(M.getD i 0).testBit x.1
     let pre:=adoptAll st.h tk
     match doOp P F (ev st.ts) o pre with
     |none=>none
     |some (v,h')=>if st.ei.all (fun j=>(M.getD i 0).testBit j)&&decide (pre.next≤h'.next) then
       some {st with ts:=nput st.ts o.dst v,h:=h',hs:=st.hs++[h'],ls:=st.ls++[tk],ei:=st.ei++[i],pend:=st.pend.filter fun x=>!(M.getD i 0).testBit x.1,v:=v,c:=.eff (st.ei.length+1)} else none
def runE (P:Program) (F:CallF) (ops:Array Oper) (M:List Nat):Nat→List Oper→St→Option St
 |_,[],st=>some st
 |i,o::rest,st=>match stepE P F ops M i o st with
  |none=>none
  |some st'=>runE P F ops M (i+1) rest st'
def makesRow:Op→Bool
 | .alloc _| .box _ _| .buildSlice _ _ _| .makeSlice _ _ _=>true
 |_=>false
def inWin (M:List Nat) (i k:Nat):Nat→List Nat→Bool
 |_,[]=>true
 |q,j::l=>(!(M.getD i 0).testBit j||decide (q+1≤k))&&(!(M.getD j 0).testBit i||decide (k<q+1))&&inWin M i k (q+1) l
def readAgain (P:Program) (M:List Nat) (ei:List Nat) (r:Nat×Oper×List NVal×NVal):Nat→List NHeap→Bool
 |_,[]=>true
 |k,h::hs=>(!inWin M r.1 k 0 ei||(match readOp P (ev r.2.2.1) h r.2.1.op with|some v=>veq 50 v r.2.2.2|none=>false))&&readAgain P M ei r (k+1) hs
def drawnOps (P:Program) (F:CallF) (ops:Array Oper) (ts:List NVal) (h:NHeap):Option (List NVal×NHeap):=
 let nf:=(ops.toList.filter fun o=>makesRow o.op).length
 let M:=masksOf ops.toList
 let g:=reserve nf h
 match runE P F ops M 0 ops.toList {ts:=ts,h:=g,hs:=[g],ls:=[],ei:=[],pend:=[],nid:=h.next,reads:=[],v:=nundef,c:=.skip} with
 |none=>none
 |some st=>if decide (st.nid≤h.next+nf)&&(st.ei.isEmpty||st.reads.all fun r=>readAgain P M st.ei r 0 st.hs) then some (st.ts,adoptAll st.h st.pend) else none
end Go.Proofs.YtkjpldganajkkaaGreatDoor.NICE
namespace Go.Proofs.YtkjpldganajkkaaGreatDoor.NICE
open Go Go.RowKit
variable {P:Program}
theorem maskOf_spec {M:List Nat} {o:Oper} {i:Nat} (h:(maskOf M o).testBit i=true):∃e∈o.after,Region.binds .any e=true∧(e.on=i∨(M.getD e.on 0).testBit i=true):=by
 unfold maskOf at h
 have key:∀(l:List Edge) (s:Nat),(l.foldl (fun s e=>if Region.binds .any e then s|||2^e.on|||M.getD e.on 0 else s) s).testBit i=true→s.testBit i=true∨∃e∈l,Region.binds .any e=true∧(e.on=i∨(M.getD e.on 0).testBit i=true):=by
  intro l
  induction l with
  |nil=>intro s q;exact .inl q
  |cons x l ih=>
   intro s q
   rw[List.foldl_cons] at q
   rcases ih _ q with r|⟨e,he,hb⟩
   ·by_cases hx:Region.binds .any x=true
    ·rw[if_pos hx] at r
     simp only[Nat.testBit_or,Bool.or_eq_true,Nat.testBit_two_pow] at r
     rcases r with(r|r)|r
     ·exact .inl r
     ·exact .inr ⟨x,by simp,hx,.inl (by simpa using r)⟩
     ·exact .inr ⟨x,by simp,hx,.inr r⟩
    ·rw[if_neg hx] at r;exact .inl r
   ·exact .inr ⟨e,by simp[he],hb⟩
 rcases key _ _ h with r|⟨e,he,hb⟩
 ·simp at r
 ·exact⟨e,by simpa using he,hb⟩
theorem pairsOk_spec {ops:Array Oper} {mj:Nat} {oj:Oper}:∀{l:List Oper} {s:Nat},pairsOk ops mj oj s l=true→∀(q:Nat) o,l[q]? =some o→pairOk ops mj (s+q) o oj=true
 |[],s,h,q,o,e=>by simp at e
 |x::l,s,h,q,o,e=>by
  simp only[pairsOk,Bool.and_eq_true] at h
  cases q with
  |zero=>simp at e;subst e;exact h.1
  |succ q=>have:=pairsOk_spec h.2 q o (by simpa using e);rw[show s+1+q=s+(q+1) by omega] at this;exact this
theorem drStaticFrom_spec {ops:Array Oper} {M:List Nat} {l:List Oper}:∀{r:List Oper} {s:Nat},drStaticFrom ops M l s r=true→∀(q:Nat) o,r[q]? =some o→
  (∀e∈o.after,Region.binds .any e=true→e.on<s+q)∧M.getD (s+q) 0=maskOf M o∧pairsOk ops (M.getD (s+q) 0) o 0 (l.take (s+q))=true
 |[],s,h,q,o,e=>by simp at e
 |x::r,s,h,q,o,e=>by
  simp only[drStaticFrom,Bool.and_eq_true] at h
  cases q with
  |zero=>
   simp at e;subst e
   refine⟨fun d hd hb=>?_,by simpa using h.1.1.2,h.1.2⟩
   have:=List.all_eq_true.1 h.1.1.1 d (by simpa using hd)
   simpa[hb] using this
  |succ q=>have:=drStaticFrom_spec h.2 q o (by simpa using e);rw[show s+1+q=s+(q+1) by omega] at this;exact this
theorem runE_states {F:CallF} {ops:Array Oper} {M:List Nat}:∀{l:List Oper} {i:Nat} {st fin:St},runE P F ops M i l st=some fin→
  ∃sts:Nat→St,sts i=st∧sts (i+l.length)=fin∧∀(q:Nat) o,l[q]? =some o→stepE P F ops M (i+q) o (sts (i+q))=some (sts (i+q+1))
 |[],i,st,fin,e=>by
  simp only[runE] at e;cases e
  exact⟨fun _=>st,rfl,rfl,fun q o h=>by simp at h⟩
 |o::l,i,st,fin,e=>by
  simp only[runE] at e
  cases hs:stepE P F ops M i o st with
  |none=>rw[hs] at e;cases e
  |some st1=>
   rw[hs] at e
   obtain⟨sts,s0,s1,s2⟩:=runE_states e
   refine⟨fun q=>if q=i then st else sts q,by simp,?_,fun q o' h=>?_⟩
   ·simp only[List.length_cons];rw[if_neg (by omega),show i+(l.length+1)=i+1+l.length by omega];exact s1
   ·cases q with
    |zero=>
     simp only[List.getElem?_cons_zero,Option.some.injEq] at h
     subst h
     simp only[Nat.add_zero,if_true]
     rw[if_neg (by omega),s0];exact hs
    |succ q=>
     have:=s2 q o' (by simpa using h)
     show stepE P F ops M (i+(q+1)) o' (if i+(q+1)=i then st else sts (i+(q+1)))=some (if i+(q+1)+1=i then st else sts (i+(q+1)+1))
     rw[if_neg (by omega),if_neg (by omega),show i+(q+1)=i+1+q by omega];exact this
inductive Way (P:Program) (F:CallF) (ops:Array Oper) (M:List Nat) (i:Nat) (o:Oper) (st st':St):Prop where
 |skip (w:nwanted ops o st.ts=some false) (e:st'={st with ts:=nput st.ts o.dst nundef,v:=nundef,c:=.skip})
 |pure (w:nwanted ops o st.ts=some true) (v:NVal) (p:pureOp P (ev st.ts) o.op=some v) (e:st'={st with ts:=nput st.ts o.dst v,v:=v,c:=.val})
 |read (w:nwanted ops o st.ts=some true) (v:NVal) (p:readOp P (ev st.ts) st.h o.op=some v) (e:st'={st with ts:=nput st.ts o.dst v,v:=v,c:=.val,reads:=st.reads++[(i,o,st.ts,v)]})
 |flt (w:nwanted ops o st.ts=some true) (cs:List NVal) (mk:Nat→NVal) (p:newOp P (ev st.ts) o.op=some (.cells cs (.own none),mk)) (e:st'={st with ts:=nput st.ts o.dst (mk st.nid),v:=mk st.nid,c:=.flt st.nid cs,pend:=st.pend++[(i,st.nid,cs)],nid:=st.nid+1})
 |eff (w:nwanted ops o st.ts=some true) (v:NVal) (h':NHeap) (p:doOp P F (ev st.ts) o (adoptAll st.h (st.pend.filter fun x=>(M.getD i 0).testBit x.1))=some (v,h'))
  (q:st.ei.all (fun j=>(M.getD i 0).testBit j)=true) (n:(adoptAll st.h (st.pend.filter fun x=>(M.getD i 0).testBit x.1)).next≤h'.next)
  (e:st'={st with ts:=nput st.ts o.dst v,h:=h',hs:=st.hs++[h'],ls:=st.ls++[st.pend.filter fun x=>(M.getD i 0).testBit x.1],ei:=st.ei++[i],pend:=st.pend.filter fun x=>!(M.getD i 0).testBit x.1,v:=v,c:=.eff (st.ei.length+1)})
theorem stepE_way {F:CallF} {ops:Array Oper} {M:List Nat} {i:Nat} {o:Oper} {st st':St} (h:stepE P F ops M i o st=some st'):Way P F ops M i o st st':=by
 unfold stepE at h
 have efft:nwanted ops o st.ts=some true→(match doOp P F (ev st.ts) o (adoptAll st.h (st.pend.filter fun x=>(M.getD i 0).testBit x.1)) with
     |none=>none
     |some (v,h')=>if st.ei.all (fun j=>(M.getD i 0).testBit j)&&decide ((adoptAll st.h (st.pend.filter fun x=>(M.getD i 0).testBit x.1)).next≤h'.next) then
       some {st with ts:=nput st.ts o.dst v,h:=h',hs:=st.hs++[h'],ls:=st.ls++[st.pend.filter fun x=>(M.getD i 0).testBit x.1],ei:=st.ei++[i],pend:=st.pend.filter fun x=>!(M.getD i 0).testBit x.1,v:=v,c:=.eff (st.ei.length+1)} else none)=some st'→Way P F ops M i o st st':=by
  intro w h
  cases hd:doOp P F (ev st.ts) o (adoptAll st.h (st.pend.filter fun x=>(M.getD i 0).testBit x.1)) with
  |none=>rw[hd] at h;cases h
  |some p=>
   obtain⟨v,h1⟩:=p
   rw[hd] at h;simp only at h
   split at h
   ·rename_i hc
    simp only[Bool.and_eq_true,decide_eq_true_eq] at hc
    cases h
    exact .eff w v h1 hd hc.1 hc.2 rfl
   ·cases h
 cases hw:nwanted ops o st.ts with
 |none=>rw[hw] at h;cases h
 |some b=>
  rw[hw] at h
  cases b with
  |false=>simp only at h;cases h;exact .skip hw rfl
  |true=>
   simp only at h
   cases hp:pureOp P (ev st.ts) o.op with
   |some v=>rw[hp] at h;cases h;exact .pure hw v hp rfl
   |none=>
    rw[hp] at h;simp only at h
    cases hr:readOp P (ev st.ts) st.h o.op with
    |some v=>rw[hr] at h;cases h;exact .read hw v hr rfl
    |none=>
     rw[hr] at h;simp only at h
     cases hn:newOp P (ev st.ts) o.op with
     |none=>rw[hn] at h;exact efft hw h
     |some p=>
      obtain⟨ob,mk⟩:=p
      rw[hn] at h
      cases ob with
      |cells cs mine=>
       cases mine with
       |own q=>cases q with
        |none=>simp only at h;cases h;exact .flt hw cs mk hn rfl
        |some q=>exact efft hw h
       |ro=>exact efft hw h
      |map es=>exact efft hw h
      |dead=>exact efft hw h
structure SG (P:Program) (F:CallF) (ops:Array Oper) (M:List Nat) (g:NHeap) (n0:Nat) (tsAt:Nat→List NVal) (val:Nat→NVal) (cls:Nat→Cls) (i:Nat) (st:St):Prop where
 hsl:st.hs.length=st.ei.length+1
 lsl:st.ls.length=st.ei.length
 first:st.hs[0]? =some g
 last:st.hs[st.ei.length]? =some st.h
 ei:∀(k j:Nat),st.ei[k]? =some j↔j<i∧cls j=.eff (k+1)
 pend:∀x∈st.pend,x.1<i∧cls x.1=.flt x.2.1 x.2.2
 ls:∀(k:Nat) l x,st.ls[k]? =some l→x∈l→x.1<i∧cls x.1=.flt x.2.1 x.2.2∧∀j,st.ei[k]? =some j→(M.getD j 0).testBit x.1=true
 all:∀j id cs,j<i→cls j=.flt id cs→(j,id,cs)∈st.pend∨∃(k:Nat) (l:List Float3),st.ls[k]? =some l∧(j,id,cs)∈l
 dis:∀(k k':Nat) (l l':List Float3) x,st.ls[k]? =some l→st.ls[k']? =some l'→x∈l→x∈l'→k=k'
 disp:∀(k:Nat) (l:List Float3) x,st.ls[k]? =some l→x∈l→x∉st.pend
 nd:∀(k:Nat) (l:List Float3),st.ls[k]? =some l→l.Nodup
 ndp:st.pend.Nodup
 nid:n0≤st.nid
 ids:∀j id cs,j<i→cls j=.flt id cs→n0≤id∧id<st.nid
 uni:∀j j' id cs cs',j<i→j'<i→cls j=.flt id cs→cls j'=.flt id cs'→j=j'
 chain:∀(k k' j j':Nat),st.ei[k]? =some j→st.ei[k']? =some j'→k<k'→(M.getD j' 0).testBit j=true
 vals:∀(j:Nat) o,j<i→ops[j]? =some o→cls j=.val→pureOp P (ev (tsAt j)) o.op=some (val j)∨((j,o,tsAt j,val j)∈st.reads∧(st.ei=[]→readOp P (ev (tsAt j)) st.h o.op=some (val j)))
 effs:∀(k j:Nat) o,st.ei[k]? =some j→ops[j]? =some o→∃hk hk1 l,st.hs[k]? =some hk∧st.hs[k+1]? =some hk1∧st.ls[k]? =some l∧doOp P F (ev (tsAt j)) o (adoptAll hk l)=some (val j,hk1)∧(adoptAll hk l).next≤hk1.next
 flt:∀(j:Nat) o id cs,j<i→ops[j]? =some o→cls j=.flt id cs→∃mk,newOp P (ev (tsAt j)) o.op=some (.cells cs (.own none),mk)∧val j=mk id
theorem get_snoc {α:Type _} {l:List α} {a:α} {k:Nat} {x:α} (h:(l++[a])[k]? =some x):l[k]? =some x∨(k=l.length∧x=a):=by
 rw[List.getElem?_append] at h
 split at h
 ·exact .inl h
 ·rename_i hk
  by_cases e:k=l.length
  ·subst e;simp at h;exact .inr ⟨rfl,h.symm⟩
  ·rw[List.getElem?_eq_none (by simp;omega)] at h;cases h
theorem get_snoc_old {α:Type _} {l:List α} {a:α} {k:Nat} {x:α} (h:l[k]? =some x):(l++[a])[k]? =some x:=by
 rw[List.getElem?_append_left (List.getElem?_eq_some_iff.1 h).1];exact h
variable {F:CallF} {ops:Array Oper} {M:List Nat} {g:NHeap} {n0:Nat} {tsAt:Nat→List NVal} {val:Nat→NVal} {cls:Nat→Cls} {i:Nat}
theorem lt_succ_or {j i:Nat} (h:j<i+1):j<i∨j=i:=by omega
theorem SG.quiet {st st':St} {o:Oper} (G:SG P F ops M g n0 tsAt val cls i st) (ho:ops[i]? =some o)
  (e1:st'.h=st.h) (e2:st'.hs=st.hs) (e3:st'.ls=st.ls) (e4:st'.ei=st.ei) (e5:st'.pend=st.pend) (e6:st'.nid=st.nid) (e7:∀x∈st.reads,x∈st'.reads)
  (hc:cls i=.skip∨(cls i=.val∧(pureOp P (ev (tsAt i)) o.op=some (val i)∨((i,o,tsAt i,val i)∈st'.reads∧(st.ei=[]→readOp P (ev (tsAt i)) st.h o.op=some (val i)))))):
  SG P F ops M g n0 tsAt val cls (i+1) st':=by
 have nf:∀id cs,cls i≠.flt id cs:=fun id cs q=>by rcases hc with r|⟨r,_⟩<;>rw[r] at q<;>cases q
 have ne:∀k,cls i≠.eff k:=fun k q=>by rcases hc with r|⟨r,_⟩<;>rw[r] at q<;>cases q
 have old:∀{j id cs},j<i+1→cls j=.flt id cs→j<i:=fun{j id cs} hj hcj=>by
  rcases lt_succ_or hj with r|r
  ·exact r
  ·subst r;exact absurd hcj (nf _ _)
 refine⟨by rw[e2,e4];exact G.hsl,by rw[e3,e4];exact G.lsl,by rw[e2];exact G.first,by rw[e1,e2,e4];exact G.last,fun k j=>?_,fun x hx=>?_,fun k l x hl hx=>?_,fun j id cs hj hcj=>?_,?_,?_,?_,by rw[e5];exact G.ndp,by rw[e6];exact G.nid,fun j id cs hj hcj=>?_,fun j j' id cs cs' hj hj' hcj hcj'=>G.uni j j' id cs cs' (old hj hcj) (old hj' hcj') hcj hcj',?_,fun j o' hj ho' hcj=>?_,?_,fun j o' id cs hj ho' hcj=>G.flt j o' id cs (old hj hcj) ho' hcj⟩
 ·rw[e4,G.ei]
  constructor
  ·exact fun q=>⟨by omega,q.2⟩
  ·intro q
   rcases lt_succ_or q.1 with r|r
   ·exact⟨r,q.2⟩
   ·subst r;exact absurd q.2 (ne _)
 ·rw[e5] at hx;have:=G.pend x hx;exact⟨by omega,this.2⟩
 ·rw[e3] at hl;rw[e4];have:=G.ls k l x hl hx;exact⟨by omega,this.2⟩
 ·rw[e5,e3];exact G.all j id cs (old hj hcj) hcj
 ·rw[e3];exact G.dis
 ·rw[e3,e5];exact G.disp
 ·rw[e3];exact G.nd
 ·rw[e6];exact G.ids j id cs (old hj hcj) hcj
 ·rw[e4];exact G.chain
 ·rw[e4,e1]
  rcases lt_succ_or hj with r|r
  ·rcases G.vals j o' r ho' hcj with s|⟨s,t⟩
   ·exact .inl s
   ·exact .inr ⟨e7 _ s,t⟩
  ·subst r
   rw[ho] at ho';cases ho'
   rcases hc with r|⟨_,r⟩
   ·rw[r] at hcj;cases hcj
   ·exact r
 ·rw[e4,e2,e3];exact G.effs
theorem SG.step {st st':St} {o:Oper} (G:SG P F ops M g n0 tsAt val cls i st) (ho:ops[i]? =some o) (ht:tsAt i=st.ts) (hv:val i=st'.v) (hcl:cls i=st'.c) (w:Way P F ops M i o st st'):
  SG P F ops M g n0 tsAt val cls (i+1) st':=by
 cases w with
 |skip w e=>subst e;exact G.quiet ho rfl rfl rfl rfl rfl rfl (fun x hx=>hx) (.inl hcl)
 |pure w v p e=>subst e;exact G.quiet ho rfl rfl rfl rfl rfl rfl (fun x hx=>hx) (.inr ⟨hcl,.inl (by rw[ht,hv];exact p)⟩)
 |read w v p e=>subst e;exact G.quiet ho rfl rfl rfl rfl rfl rfl (fun x hx=>by simp[hx]) (.inr ⟨hcl,.inr ⟨by rw[ht,hv];simp,fun _=>by rw[ht,hv];exact p⟩⟩)
 |flt w cs mk p e=>
  subst e
  simp only at hv hcl
  have ne:∀k,cls i≠.eff k:=fun k q=>by rw[hcl] at q;cases q
  have hnew:∀id cs',(i,id,cs')∉st.pend:=fun id cs' q=>by have:=(G.pend _ q).1;simp at this
  refine⟨G.hsl,G.lsl,G.first,G.last,fun k j=>?_,fun x hx=>?_,fun k l x hl hx=>?_,fun j id cs' hj hcj=>?_,G.dis,fun k l x hl hx=>?_,G.nd,?_,Nat.le_succ_of_le G.nid,fun j id cs' hj hcj=>?_,fun j j' id cs1 cs2 hj hj' hcj hcj'=>?_,G.chain,fun j o' hj ho' hcj=>?_,G.effs,fun j o' id cs' hj ho' hcj=>?_⟩
  ·simp only
   rw[G.ei]
   constructor
   ·exact fun q=>⟨by omega,q.2⟩
   ·intro q
    rcases lt_succ_or q.1 with r|r
    ·exact⟨r,q.2⟩
    ·subst r;exact absurd q.2 (ne _)
  ·simp only[List.mem_append,List.mem_singleton] at hx
   rcases hx with hx|rfl
   ·have:=G.pend x hx;exact⟨by omega,this.2⟩
   ·exact⟨by simp,hcl⟩
  ·have:=G.ls k l x hl hx;exact⟨by omega,this.2⟩
  ·rcases lt_succ_or hj with r|r
   ·rcases G.all j id cs' r hcj with s|s
    ·exact .inl (by simp[s])
    ·exact .inr s
   ·subst r
    rw[hcl] at hcj;cases hcj
    exact .inl (by simp)
  ·simp only[List.mem_append,List.mem_singleton]
   intro q
   rcases q with q|rfl
   ·exact G.disp k l x hl hx q
   ·have:=(G.ls k l _ hl hx).1;simp at this
  ·simp only
   rw[List.nodup_append]
   refine⟨G.ndp,by simp,fun a ha b hb=>?_⟩
   simp only[List.mem_singleton] at hb
   rintro rfl
   subst hb
   exact hnew _ _ ha
  ·simp only
   rcases lt_succ_or hj with r|r
   ·have:=G.ids j id cs' r hcj;exact⟨this.1,by omega⟩
   ·subst r;rw[hcl] at hcj;cases hcj;exact⟨G.nid,by omega⟩
  ·rcases lt_succ_or hj with r|r
   ·rcases lt_succ_or hj' with r'|r'
    ·exact G.uni j j' id cs1 cs2 r r' hcj hcj'
    ·subst r';rw[hcl] at hcj';cases hcj'
     have:=(G.ids j _ cs1 r hcj).2;omega
   ·subst r;rw[hcl] at hcj;cases hcj
    rcases lt_succ_or hj' with r'|r'
    ·have:=(G.ids j' _ cs2 r' hcj').2;omega
    ·exact r'.symm
  ·rcases lt_succ_or hj with r|r
   ·exact G.vals j o' r ho' hcj
   ·subst r;rw[hcl] at hcj;cases hcj
  ·rcases lt_succ_or hj with r|r
   ·exact G.flt j o' id cs' r ho' hcj
   ·subst r
    rw[hcl] at hcj;cases hcj
    rw[ho] at ho';cases ho'
    exact⟨mk,by rw[ht];exact p,hv⟩
 |eff w v h' p q n e=>
  subst e
  simp only at hv hcl
  have nf:∀id cs,cls i≠.flt id cs:=fun id cs q=>by rw[hcl] at q;cases q
  have old:∀{j id cs},j<i+1→cls j=.flt id cs→j<i:=fun{j id cs} hj hcj=>by
   rcases lt_succ_or hj with r|r
   ·exact r
   ·subst r;exact absurd hcj (nf _ _)
  refine⟨by simp[G.hsl],by simp[G.lsl],?_,?_,fun k j=>?_,fun x hx=>?_,fun k l x hl hx=>?_,fun j id cs' hj hcj=>?_,fun k k' l l' x hl hl' hx hx'=>?_,fun k l x hl hx=>?_,fun k l hl=>?_,G.ndp.filter _,G.nid,fun j id cs' hj hcj=>G.ids j id cs' (old hj hcj) hcj,fun j j' id cs1 cs2 hj hj' hcj hcj'=>G.uni j j' id cs1 cs2 (old hj hcj) (old hj' hcj') hcj hcj',fun k k' j j' hk hk' hlt=>?_,fun j o' hj ho' hcj=>?_,fun k j o' hk ho'=>?_,fun j o' id cs' hj ho' hcj=>G.flt j o' id cs' (old hj hcj) ho' hcj⟩
  ·exact get_snoc_old G.first
  ·simp only[List.length_append,List.length_singleton]
   rw[←G.hsl];simp
  ·simp only
   constructor
   ·intro r
    rcases get_snoc r with s|⟨s,t⟩
    ·have:=(G.ei k j).1 s;exact⟨by omega,this.2⟩
    ·subst s t;exact⟨by omega,hcl⟩
   ·rintro⟨r,s⟩
    rcases lt_succ_or r with t|t
    ·exact get_snoc_old ((G.ei k j).2 ⟨t,s⟩)
    ·subst t
     rw[hcl] at s
     have:st.ei.length=k:=by injection s with s;omega
     subst this;simp
  ·simp only[List.mem_filter] at hx
   have:=G.pend x hx.1;exact⟨by omega,this.2⟩
  ·simp only at hl⊢
   rcases get_snoc hl with s|⟨s,t⟩
   ·have hk:=(List.getElem?_eq_some_iff.1 s).1
    have:=G.ls k l x s hx
    refine⟨by omega,this.2.1,fun j hj=>?_⟩
    rcases get_snoc hj with r|⟨r,_⟩
    ·exact this.2.2 j r
    ·rw[G.lsl] at hk;omega
   ·subst t
    simp only[List.mem_filter] at hx
    have:=G.pend x hx.1
    refine⟨by omega,this.2,fun j hj=>?_⟩
    rcases get_snoc hj with r|⟨_,r⟩
    ·have:=(List.getElem?_eq_some_iff.1 r).1;rw[G.lsl] at s;omega
    ·subst r;exact hx.2
  ·have hj':=old hj hcj
   simp only
   rcases G.all j id cs' hj' hcj with s|⟨k,l,s,t⟩
   ·by_cases hb:(M.getD i 0).testBit j=true
    ·exact .inr ⟨st.ls.length,_,by simp;rfl,by simp[s];simpa using hb⟩
    ·exact .inl (by simp[s];simpa using hb)
   ·exact .inr ⟨k,l,get_snoc_old s,t⟩
  ·simp only at hl hl'
   rcases get_snoc hl with s|⟨s,t⟩<;>rcases get_snoc hl' with s'|⟨s',t'⟩
   ·exact G.dis k k' l l' x s s' hx hx'
   ·subst t';simp only[List.mem_filter] at hx';exact absurd hx'.1 (G.disp k l x s hx)
   ·subst t;simp only[List.mem_filter] at hx;exact absurd hx.1 (G.disp k' l' x s' hx')
   ·omega
  ·simp only at hl⊢
   rcases get_snoc hl with s|⟨s,t⟩
   ·intro r;simp only[List.mem_filter] at r;exact G.disp k l x s hx r.1
   ·subst t
    simp only[List.mem_filter] at hx⊢
    intro r
    rw[hx.2] at r;simp at r
  ·simp only at hl
   rcases get_snoc hl with s|⟨s,t⟩
   ·exact G.nd k l s
   ·subst t;exact G.ndp.filter _
  ·simp only at hk hk'
   rcases get_snoc hk with s|⟨s,t⟩<;>rcases get_snoc hk' with s'|⟨s',t'⟩
   ·exact G.chain k k' j j' s s' hlt
   ·subst t'
    exact List.all_eq_true.1 q j (List.mem_of_getElem? s)
   ·have:=(List.getElem?_eq_some_iff.1 s').1;omega
   ·omega
  ·rcases lt_succ_or hj with r|r
   ·rcases G.vals j o' r ho' hcj with s|⟨s,t⟩
    ·exact .inl s
    ·exact .inr ⟨s,fun hn=>by simp at hn⟩
   ·subst r;rw[hcl] at hcj;cases hcj
  ·simp only at hk⊢
   rcases get_snoc hk with s|⟨s,t⟩
   ·obtain⟨hk0,hk1,l,a1,a2,a3,a4⟩:=G.effs k j o' s ho'
    exact⟨hk0,hk1,l,get_snoc_old a1,get_snoc_old a2,get_snoc_old a3,a4⟩
   ·subst s t
    rw[ho] at ho';cases ho'
    refine⟨st.h,h',_,get_snoc_old G.last,?_,?_,?_,n⟩
    ·rw[←G.hsl];simp
    ·rw[←G.lsl];simp
    ·rw[ht,hv];exact p
theorem inWin_true {M:List Nat} {i k:Nat}:∀{l:List Nat} {q:Nat},(∀(s:Nat) j,l[s]? =some j→((M.getD i 0).testBit j=true→q+s+1≤k)∧((M.getD j 0).testBit i=true→k<q+s+1))→inWin M i k q l=true
 |[],q,h=>rfl
 |j::l,q,h=>by
  have h0:=h 0 j (by simp)
  have ih:=inWin_true (M:=M) (i:=i) (k:=k) (l:=l) (q:=q+1) fun s j' e=>by have:=h (s+1) j' (by simpa using e);rw[show q+(s+1)=q+1+s by omega] at this;exact this
  simp only[inWin,ih,Bool.and_true,Bool.and_eq_true,Bool.or_eq_true,Bool.not_eq_true',decide_eq_true_eq]
  constructor
  ·cases e:(M.getD i 0).testBit j with
   |false=>exact .inl rfl
   |true=>exact .inr (by have:=h0.1 e;omega)
  ·cases e:(M.getD j 0).testBit i with
   |false=>exact .inl rfl
   |true=>exact .inr (by have:=h0.2 e;omega)
theorem readAgain_spec {M:List Nat} {ei:List Nat} {r:Nat×Oper×List NVal×NVal}:∀{hs:List NHeap} {s:Nat},readAgain P M ei r s hs=true→∀(k:Nat) h,hs[k]? =some h→inWin M r.1 (s+k) 0 ei=true→readOp P (ev r.2.2.1) h r.2.1.op=some r.2.2.2
 |[],s,e,k,h,hk,_=>by simp at hk
 |x::hs,s,e,k,h,hk,w=>by
  simp only[readAgain,Bool.and_eq_true] at e
  cases k with
  |zero=>
   simp at hk;subst hk
   have e1:=e.1
   simp only[Nat.add_zero] at w
   rw[w] at e1
   simp only[Bool.not_true,Bool.false_or] at e1
   split at e1
   ·rename_i v hv;rw[hv,veq_eq 50 e1]
   ·cases e1
  |succ k=>exact readAgain_spec e.2 k h (by simpa using hk) (by rw[show s+1+k=s+(k+1) by omega];exact w)
theorem drawnOps_sound (hm:P.follows .mixedOrders=true) {F:CallF} (hF:CallOk P F) {ops:Array Oper} (hst:drStatic ops=true) {ts ts':List NVal} {h h':NHeap} (id:Nat)
  (e:drawnOps P F ops ts h=some (ts',h')):SimC P (.region id ops true) ts h .normal ts' h':=by
 unfold drawnOps at e
 generalize hMdef:masksOf ops.toList=M at e
 generalize hnf:(ops.toList.filter fun o=>makesRow o.op).length=nf at e
 have hst':drStaticFrom ops M ops.toList 0 ops.toList=true:=by rw[←hMdef];exact hst
 have stat:∀(j:Nat) o,ops[j]? =some o→_:=fun j o ho=>drStaticFrom_spec hst' j o (by simpa using ho)
 simp only[Nat.zero_add] at stat
 simp only at e
 cases hrun:runE P F ops M 0 ops.toList {ts:=ts,h:=reserve nf h,hs:=[reserve nf h],ls:=[],ei:=[],pend:=[],nid:=h.next,reads:=[],v:=nundef,c:=.skip} with
 |none=>rw[hrun] at e;cases e
 |some fin=>
  rw[hrun] at e
  simp only at e
  split at e
  rotate_left
  ·cases e
  rename_i hc
  simp only[Bool.and_eq_true,Bool.or_eq_true,decide_eq_true_eq] at hc
  cases e
  obtain⟨sts,s0,s1,s2⟩:=runE_states hrun
  simp only[Nat.zero_add,Array.length_toList] at s1 s2
  let tsAt:Nat→List NVal:=fun i=>(sts i).ts
  let val:Nat→NVal:=fun i=>(sts (i+1)).v
  let cls:Nat→Cls:=fun i=>(sts (i+1)).c
  have way:∀(i:Nat) o,ops[i]? =some o→Way P F ops M i o (sts i) (sts (i+1)):=fun i o ho=>stepE_way (s2 i o (by simpa using ho))
  have G:∀i,i≤ops.size→SG P F ops M (reserve nf h) h.next tsAt val cls i (sts i):=by
   intro i
   induction i with
   |zero=>
    intro _
    rw[s0]
    refine⟨rfl,rfl,rfl,rfl,?_,?_,?_,?_,?_,?_,?_,List.nodup_nil,Nat.le_refl _,?_,?_,?_,?_,?_,?_⟩<;>simp
   |succ i ih=>
    intro hi
    have hlt:i<ops.size:=by omega
    have ho:ops[i]? =some ops[i]:=by simp[hlt]
    exact(ih (by omega)).step ho rfl rfl rfl (way i _ ho)
  have Gf:=G ops.size (Nat.le_refl _)
  rw[s1] at Gf
  have lt:∀{j:Nat} {o:Oper},ops[j]? =some o→j<ops.size:=fun{j o} ho=>(Array.getElem?_eq_some_iff.1 ho).1
  let L:Nat→List Float3:=fun k=>if k=0 then[] else if k=fin.ei.length+1 then fin.pend else fin.ls.getD (k-1) []
  have hL:∀k x,x∈L k→(k=fin.ei.length+1∧x∈fin.pend)∨∃q l,k=q+1∧q<fin.ei.length∧fin.ls[q]? =some l∧x∈l:=by
   intro k x hx
   simp only[L] at hx
   split at hx
   ·simp at hx
   ·split at hx
    ·exact .inl ⟨by assumption,hx⟩
    ·rw[List.getD_eq_getElem?_getD] at hx
     cases hl:fin.ls[k-1]? with
     |none=>rw[hl] at hx;simp at hx
     |some l=>rw[hl] at hx;exact .inr ⟨k-1,l,by omega,by have:=(List.getElem?_eq_some_iff.1 hl).1;rw[Gf.lsl] at this;exact this,hl,by simpa using hx⟩
  have hLe:∀q l,fin.ls[q]? =some l→L (q+1)=l:=by
   intro q l hl
   have:=(List.getElem?_eq_some_iff.1 hl).1
   rw[Gf.lsl] at this
   simp only[L]
   rw[if_neg (by omega),if_neg (by omega)]
   simp[List.getD_eq_getElem?_getD,hl]
  let d:Dr:=⟨fun j=>M.getD j 0,tsAt,val,cls,fun k=>fin.hs.getD k h,fin.ei.length,L⟩
  have hH:∀(k:Nat) x,fin.hs[k]? =some x→d.H k=x:=fun k x hx=>by simp only[d,List.getD_eq_getElem?_getD,hx];rfl
  have H0:d.H 0=reserve nf h:=hH 0 _ Gf.first
  have K:DrOk P ops ts h d:=by
   refine⟨fun j o ho=>(stat j o ho).1,fun j i o ho hb=>?_,fun i j oi oj hij hoi hoj t ht=>?_,by show(sts 0).ts=ts;rw[s0],fun i o ho=>?_,fun i o ho hc0=>?_,fun i o ho hc0=>?_,fun i o ho hc0 k hk hw1 hw2=>?_,fun i o k ho hck=>?_,fun i j k k' hi hj hck hck' hlt=>?_,fun i j k hi hj hck hck'=>?_,fun k hk1 hk2=>?_,fun i o idn cs ho hci=>?_,fun i j idn cs cs' hi hj hci hcj=>Gf.uni i j idn cs cs' hi hj hci hcj,fun i idn cs hi hci=>?_,fun k i idn cs hm'=>?_,fun k k' x hx hx'=>?_,fun k=>?_⟩
   ·exact maskOf_spec (by rw[←(stat j o ho).2.1];exact hb)
   ·have hp:=pairsOk_spec (stat j oj hoj).2.2 i oi (by
     rw[List.getElem?_take,if_pos hij];simpa using hoi)
    rw[Nat.zero_add] at hp
    simp only[pairOk,Bool.or_eq_true,Bool.not_eq_true'] at hp
    rcases hp with hp|hp
    ·exfalso
     simp only[Bool.or_eq_false_iff] at hp
     rcases ht with⟨hd,ht⟩|⟨hd,ht⟩
     ·rw[hd] at hp
      have:=hp.1
      simp only[Bool.or_eq_false_iff] at this
      rcases ht with ht|ht
      ·have:=this.1;simp[ht] at this
      ·have:=this.2;rw[ht] at this;simp at this
     ·rw[hd] at hp
      have:=hp.2;simp[ht] at this
    ·exact hp
   ·show(sts (i+1)).ts=nput (sts i).ts o.dst (sts (i+1)).v
    cases way i o ho with
    |skip w e=>rw[e]
    |pure w v p e=>rw[e]
    |read w v p e=>rw[e]
    |flt w cs mk p e=>rw[e]
    |eff w v h' p q n e=>rw[e]
   ·have hc1:(sts (i+1)).c=.skip:=hc0
    show nwanted ops o (sts i).ts=some false∧(sts (i+1)).v=nundef
    cases way i o ho with
    |skip w e=>exact⟨w,by rw[e]⟩
    |pure w v p e=>rw[e] at hc1;cases hc1
    |read w v p e=>rw[e] at hc1;cases hc1
    |flt w cs mk p e=>rw[e] at hc1;cases hc1
    |eff w v h' p q n e=>rw[e] at hc1;cases hc1
   ·have hc1:(sts (i+1)).c≠.skip:=hc0
    show nwanted ops o (sts i).ts=some true
    cases way i o ho with
    |skip w e=>rw[e] at hc1;exact absurd rfl hc1
    |pure w v p e=>exact w
    |read w v p e=>exact w
    |flt w cs mk p e=>exact w
    |eff w v h' p q n e=>exact w
   ·rcases Gf.vals i o (lt ho) ho hc0 with hp|⟨hr,hz⟩
    ·exact SimR.of_pure hp
    ·refine SimR.of_read ?_
     have hk':k≤fin.ei.length:=hk
     have hkl:k<fin.hs.length:=by rw[Gf.hsl];omega
     have hkx:fin.hs[k]? =some fin.hs[k]:=by simp[hkl]
     rw[hH k _ hkx]
     rcases hc.2 with hn|hr2
     ·have he:fin.ei=[]:=by simpa using hn
      have hk0:k=0:=by rw[he] at hk';simpa using hk'
      subst hk0
      have hl:=Gf.last
      rw[he] at hl
      simp only[List.length_nil] at hl
      rw[hl] at hkx
      rw[←Option.some.inj hkx]
      exact hz he
     ·have ra:=List.all_eq_true.1 hr2 _ hr
      refine readAgain_spec ra k _ hkx ?_
      rw[Nat.zero_add]
      refine inWin_true fun s j hj=>?_
      have hej:=(Gf.ei s j).1 hj
      rw[Nat.zero_add]
      exact⟨fun hb=>hw1 j (s+1) hej.2 hej.1 hb,fun hb=>hw2 j (s+1) hej.2 hej.1 hb⟩
   ·have hi:=lt ho
    have hk1:∃q,k=q+1:=by
     have hck':(sts (i+1)).c=.eff k:=hck
     cases way i o ho with
     |skip w e=>rw[e] at hck';cases hck'
     |pure w v p e=>rw[e] at hck';cases hck'
     |read w v p e=>rw[e] at hck';cases hck'
     |flt w cs mk p e=>rw[e] at hck';cases hck'
     |eff w v h' p q n e=>rw[e] at hck';injection hck' with hck';exact⟨_,hck'.symm⟩
    obtain⟨q,rfl⟩:=hk1
    have hei:=(Gf.ei q i).2 ⟨hi,hck⟩
    obtain⟨hk0,hk1,l,a1,a2,a3,a4,a5⟩:=Gf.effs q i o hei ho
    have hq:=(List.getElem?_eq_some_iff.1 hei).1
    refine⟨by omega,by show q+1≤fin.ei.length;omega,?_,?_⟩
    ·rw[show q+1-1=q by omega,hH q _ a1,hH (q+1) _ a2]
     show SimO P o (ev (tsAt i)) (adoptAll hk0 (L (q+1))) (val i) hk1
     rw[hLe q l a3]
     exact doOp_sound hF a4
    ·rw[show q+1-1=q by omega,hH q _ a1,hH (q+1) _ a2]
     show(adoptAll hk0 (L (q+1))).next≤hk1.next
     rw[hLe q l a3]
     exact a5
   ·have one:∀{i k:Nat},i<ops.size→cls i=.eff k→1≤k:=by
     intro i k hi hck
     have ho:ops[i]? =some ops[i]:=by simp[hi]
     have hck':(sts (i+1)).c=.eff k:=hck
     cases way i _ ho with
     |skip w e=>rw[e] at hck';cases hck'
     |pure w v p e=>rw[e] at hck';cases hck'
     |read w v p e=>rw[e] at hck';cases hck'
     |flt w cs mk p e=>rw[e] at hck';cases hck'
     |eff w v h' p q n e=>rw[e] at hck';injection hck' with hck';omega
    have o1:=one hi hck
    have o2:=one hj hck'
    exact Gf.chain (k-1) (k'-1) i j ((Gf.ei _ _).2 ⟨hi,by rw[show k-1+1=k by omega];exact hck⟩) ((Gf.ei _ _).2 ⟨hj,by rw[show k'-1+1=k' by omega];exact hck'⟩) (by omega)
   ·have one:1≤k:=by
     have ho:ops[i]? =some ops[i]:=by simp[hi]
     have hck1:(sts (i+1)).c=.eff k:=hck
     cases way i _ ho with
     |skip w e=>rw[e] at hck1;cases hck1
     |pure w v p e=>rw[e] at hck1;cases hck1
     |read w v p e=>rw[e] at hck1;cases hck1
     |flt w cs mk p e=>rw[e] at hck1;cases hck1
     |eff w v h' p q n e=>rw[e] at hck1;injection hck1 with hck1;omega
    have r1:=(Gf.ei (k-1) i).2 ⟨hi,by rw[show k-1+1=k by omega];exact hck⟩
    have r2:=(Gf.ei (k-1) j).2 ⟨hj,by rw[show k-1+1=k by omega];exact hck'⟩
    rw[r1] at r2;cases r2;rfl
   ·have hk2':k≤fin.ei.length:=hk2
    have hlt:k-1<fin.ei.length:=by omega
    have:=(Gf.ei (k-1) fin.ei[k-1]).1 (by simp[hlt])
    rw[show k-1+1=k by omega] at this
    exact⟨_,this.1,this.2⟩
   ·have hi:=lt ho
    have r:=Gf.ids i idn cs hi hci
    have f:=Gf.flt i o idn cs hi ho hci
    refine⟨r.1,?_,f⟩
    rw[H0,reserve_next]
    have:=hc.1;omega
   ·rcases Gf.all i idn cs hi hci with s|⟨k,l,s,t⟩
    ·refine⟨fin.ei.length+1,by omega,Nat.le_refl _,?_⟩
     show(i,idn,cs)∈L (fin.ei.length+1)
     simp only[L]
     rw[if_neg (by omega)];simp only[if_true];exact s
    ·have hk:=(List.getElem?_eq_some_iff.1 s).1
     rw[Gf.lsl] at hk
     refine⟨k+1,by omega,by show k+1≤fin.ei.length+1;omega,?_⟩
     show(i,idn,cs)∈L (k+1)
     rw[hLe k l s];exact t
   ·rcases hL k _ hm' with⟨r,s⟩|⟨q,l,r,r2,s,t⟩
    ·have:=Gf.pend _ s
     refine⟨this.2,this.1,fun hk=>?_⟩
     have hk':k≤fin.ei.length:=hk
     omega
    ·have:=Gf.ls q l _ s t
     refine⟨this.2.1,this.1,fun hk j hj hcj=>?_⟩
     subst r
     exact this.2.2 j ((Gf.ei q j).2 ⟨hj,hcj⟩)
   ·rcases hL k _ hx with⟨r,s⟩|⟨q,l,r,r2,s,t⟩<;>rcases hL k' _ hx' with⟨r',s'⟩|⟨q',l',r',r2',s',t'⟩
    ·omega
    ·exact absurd s (Gf.disp q' l' x s' t')
    ·exact absurd s' (Gf.disp q l x s t)
    ·have:=Gf.dis q q' l l' x s s' t t';omega
   ·show(L k).Nodup
    simp only[L]
    split
    ·exact List.nodup_nil
    ·split
     ·exact Gf.ndp
     ·rw[List.getD_eq_getElem?_getD]
      cases hl:fin.ls[k-1]? with
      |none=>simp
      |some l=>simpa using Gf.nd _ l hl
  have R:=drawn_sound hm K H0 id
  have t1:d.tsAt ops.size=fin.ts:=by show(sts ops.size).ts=_;rw[s1]
  have t2:d.H d.m=fin.h:=hH _ _ Gf.last
  have t3:d.L (d.m+1)=fin.pend:=by show L (fin.ei.length+1)=_;simp only[L];rw[if_neg (by omega)];simp
  rw[t1,t2,t3] at R
  exact R
end Go.Proofs.YtkjpldganajkkaaGreatDoor.NICE
namespace Go.Proofs.YtkjpldganajkkaaGreatDoor.NICE
open Go Go.RowKit
variable {P:Program}
inductive Tb where
 |leaf
 |node (v:Option Func) (l r:Tb)
def Tb.get:Tb→Nat→Option Func
 | .leaf,_=>none
 | .node v l r,n=>if n=0 then v else if n%2=0 then l.get (n/2) else r.get (n/2)
def Tb.All (Q:Nat→Func→Prop):Tb→Prop
 | .leaf=>True
 | .node v l r=>(match v with|some f=>Q 0 f|none=>True)∧l.All (fun n f=>Q (2*n) f)∧r.All (fun n f=>Q (2*n+1) f)
theorem Tb.all_get:∀{t:Tb} {Q:Nat→Func→Prop},t.All Q→∀{n f},t.get n=some f→Q n f
 | .leaf,Q,h,n,f,e=>by cases e
 | .node v l r,Q,h,n,f,e=>by
  unfold Tb.get at e
  obtain⟨h1,h2,h3⟩:=h
  split at e
  ·subst e;rename_i hn;subst hn;exact h1
  ·split at e
   ·have:=Tb.all_get h2 e;rw[show 2*(n/2)=n by omega] at this;exact this
   ·have:=Tb.all_get h3 e;rw[show 2*(n/2)+1=n by omega] at this;exact this
def fnGood (f:Func):Bool:=match f.body with|some c=>codeStat drStatic c&&f.name != "runtime.NumGoroutine" |none=>true
theorem enters_of {f:FuncId} {fn:Func} (h:P.funcs[f]? =some fn) {c:Code} (hb:fn.body=some c) (hn:fn.name≠ "runtime.NumGoroutine"):Enters P f:=by
 intro args w
 have:(fn.name== "runtime.NumGoroutine")=false:=by simpa using hn
 simp[callFunc,Sem.run_bind,run_program,h,hn,hb]
def Tb.look (t:Tb) (f:FuncId):Option (Code×Nat×List ResultVar):=match t.get f with
 |none=>none
 |some fn=>match fn.body with
  |none=>none
  |some c=>some (c,fn.ntmps,fn.results.toList)
def Tb.env (t:Tb) (h:t.All fun n f=>P.funcs[n]? =some f∧fnGood f=true) (known:CallF) (hk:CallOk P known):Env P drStatic where
 get:=t.look
 ok:=by
  intro f c nt rs e
  unfold Tb.look at e
  cases hg:t.get f with
  |none=>rw[hg] at e;cases e
  |some fn=>
   rw[hg] at e;simp only at e
   obtain⟨h1,h2⟩:=Tb.all_get h hg
   cases hb:fn.body with
   |none=>rw[hb] at e;cases e
   |some c'=>
    rw[hb] at e;cases e
    unfold fnGood at h2
    rw[hb] at h2
    simp only[Bool.and_eq_true,bne_iff_ne,ne_eq] at h2
    exact⟨⟨⟨fn,h1,hb,rfl,rfl⟩,enters_of h1 hb h2.2⟩,h2.1⟩
 known:=known
 knownOk:=hk
theorem drawOk (hm:P.follows .mixedOrders=true):DrawOk P drStatic (drawnOps P):=fun F hF id ops hs ts h ts' h' e=>drawnOps_sound hm hF hs id e
theorem Inv.start (w:World):Inv w (fun _=>none) NHeap.empty w:=
 ⟨Below.refl _ _,fun b x e=>(by cases e),fun b cs _ e=>absurd (NHeap.get_lt e) (by simp[NHeap.empty]),fun b cs _ _ e=>absurd (NHeap.get_lt e) (by simp[NHeap.empty]),fun b cs e=>absurd (NHeap.get_lt e) (by simp[NHeap.empty]),fun b es e=>absurd (NHeap.get_lt e) (by simp[NHeap.empty]),fun b b' o o' rb s s' m m' e=>absurd (NHeap.get_lt e) (by simp[NHeap.empty])⟩
def nfirst (c:UInt8):List UInt8→Nat→Int
 |[],_=>-1
 |x::l,n=>if x==c then(n:Int) else nfirst c l (n+1)
def idxKnown (k:FuncId):CallF:=fun f asX h=>if f=k then(match asX with
 |[.str s,.int .u8 c]=>some (.int .i64 (nfirst c.toNat.toUInt8 s 0),h)
 |_=>none) else none
theorem nfirst_eq (c:UInt8):∀(l:List UInt8) (n:Nat),nfirst c l n=match(List.range l.length).find? (fun i=>l[i]! ==c) with|some i=>((n+i:Nat):Int)|none=>-1
 |[],n=>rfl
 |x::l,n=>by
  have ih:=nfirst_eq c l (n+1)
  unfold nfirst
  rw[List.length_cons,List.range_succ_eq_map,List.find?_cons]
  simp only[List.getElem!_cons_zero]
  by_cases hx:(x==c)=true
  ·simp[hx]
  ·rw[if_neg hx,ih]
   have hx':(x==c)=false:=by simpa using hx
   simp only[hx',List.find?_map]
   have:((fun i=>(x::l)[i]! ==c)∘Nat.succ)=fun i=>l[i]! ==c:=by funext i;simp
   rw[this]
   cases(List.range l.length).find? (fun i=>l[i]! ==c) with
   |none=>rfl
   |some i=>show(((n+1+i:Nat):Int))=((n+(i+1):Nat):Int);congr 1;omega
theorem idxKnown_ok {k:FuncId} {fn:Func} (hf:P.funcs[k]? =some fn) (hname:(fn.name== "runtime.NumGoroutine")=false)
  (hb:fn.body.isNone=true) (hn:Extern.findNext fn=none) (he:Extern.find fn=some Extern.BytealgIndexByte.indexByte):CallOk P (idxKnown k):=by
 intro f asX h v h' e
 unfold idxKnown at e
 split at e
 ·rename_i hk
  subst hk
  split at e
  ·rename_i s c
   cases e
   refine .inr ⟨rfl,fun _ ι w ra _ hra=>?_⟩
   have hra':=hra
   generalize hl:ra.toList=l at hra
   cases hra with
   |@cons _ r1 _ _ h1 h2=>cases h2 with
    |cons h3 h4=>cases h4 with
     |nil=>
      obtain⟨b,e1,e2⟩:∃b:ByteArray,s=b.data.toList∧r1=Value.string b:=by cases h1;exact⟨_,rfl,rfl⟩
      subst e1 e2
      cases h3
      refine⟨_,.int _ _,?_⟩
      have hra:ra=#[.string b,.int .u8 c]:=by apply Array.ext';simpa using hl
      rw[run_callFunc_indexByte hf hname hb hn he,hra,run_indexByte_string]
      simp only[Result.andThen_ok]
      congr 3
      unfold firstIdx
      rw[nfirst_eq]
      have hs:b.size=b.data.toList.length:=by show b.data.size=_;rw[Array.length_toList]
      have hg:∀i,b[i]! =b.data.toList[i]! :=fun i=>by
       by_cases hi:i<b.size
       ·rw[getElem!_pos b i hi,getElem!_pos b.data.toList i (by rw[←hs];exact hi)];rfl
       ·rw[getElem!_neg b i hi,getElem!_neg b.data.toList i (by rw[←hs];exact hi)]
      rw[hs]
      simp only[hg]
      split<;>rename_i q<;>rw[q]<;>simp
  ·cases e
 ·cases e
def sameKnown (k:FuncId):CallF:=fun f asX h=>if f=k then(match asX with
 |[.ptr p]=>some (.ptr p,h)
 |_=>none) else none
theorem sameKnown_ok {k:FuncId} {fn:Func} (hf:P.funcs[k]? =some fn) (hname:(fn.name== "runtime.NumGoroutine")=false)
  (hb:fn.body.isNone=true) (hn:Extern.findNext fn=none) (he:Extern.find fn=some Extern.AbiNoEscape.same):CallOk P (sameKnown k):=by
 intro f asX h v h' e
 unfold sameKnown at e
 split at e
 ·rename_i hk
  subst hk
  split at e
  ·rename_i p
   cases e
   refine .inr ⟨rfl,fun _ ι w ra _ hra=>?_⟩
   generalize hl:ra.toList=l at hra
   cases hra with
   |@cons _ r1 _ _ h1 h2=>cases h2 with
    |nil=>
     have hra:ra=#[r1]:=by apply Array.ext';simpa using hl
     exact⟨r1,h1,by rw[run_callFunc_extern hf hname hb hn he,hra,Lib.run_noEscape];rfl⟩
  ·cases e
 ·cases e
def orKnown (F G:CallF):CallF:=fun f asX h=>match F f asX h with
 |some r=>some r
 |none=>G f asX h
theorem orKnown_ok {F G:CallF} (hF:CallOk P F) (hG:CallOk P G):CallOk P (orKnown F G):=by
 intro f asX h v h' e
 unfold orKnown at e
 cases hq:F f asX h with
 |some r=>rw[hq] at e;cases e;exact hF _ _ _ _ _ hq
 |none=>rw[hq] at e;exact hG _ _ _ _ _ e
def saysTrue:Option (NVal×NHeap)→Bool
 |some (.bool true,_)=>true
 |_=>false
end Go.Proofs.YtkjpldganajkkaaGreatDoor.NICE
