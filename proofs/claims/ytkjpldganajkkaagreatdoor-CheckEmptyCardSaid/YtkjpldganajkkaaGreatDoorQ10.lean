/-
  Nice43 to Mir, as one text. Proved step by step; no conditions beside what is said.
-/
import Derived.Test.YtkjpldganajkkaaGreatDoorQ9
set_option linter.unusedSimpArgs false
set_option linter.unusedVariables false
set_option linter.unusedSectionVars false
set_option maxRecDepth 100000
namespace Go.Proofs.YtkjpldganajkkaaGreatDoor.NICE
open Go Go.RowKit
variable {P:Program}
def GrowE (h:NHeap) (v:NVal) (sz:Nat) (cs:List NVal) (n:Nat):Prop:=
 (v=.slice none 0 0 none∧cs=[]∧n=0)∨(∃a,v=.slice (some a) 0 0 none∧cs=[]∧n=0)∨
 ∃b x q,v=.slice (some (b,0)) n n x∧(x=none∨x=some sz)∧h.get b=some (.cells cs (.own q))∧cs.length=n*sz∧0<n
theorem Grow.e {h:NHeap} {v:NVal} {sz:Nat} {cs:List NVal} {n:Nat} (g:Grow h v sz cs n):GrowE h v sz cs n:=g.imp id .inr
theorem GrowE.upd {fp:List Nat} {h h':NHeap} {v sz cs n} (g:GrowE h v sz cs n) (u:Upd fp h h') (hd:n=0∨∀b∈blk v,b∉fp):GrowE h' v sz cs n:=by
 rcases g with g|g|⟨b,x,q,rfl,hx,hg,hl,hn⟩
 ·exact .inl g
 ·exact .inr (.inl g)
 ·refine .inr (.inr ⟨b,x,q,rfl,hx,u.get hg ?_,hl,hn⟩)
  rcases hd with hd|hd
  ·omega
  ·exact hd b (by simp[blk])
theorem GrowE.sl {h:NHeap} {v:NVal} {sz:Nat} {cs:List NVal} {n:Nat} (g:GrowE h v sz cs n):Sl h sz v n cs:=by
 rcases g with⟨rfl,rfl,rfl⟩|⟨a,rfl,rfl,rfl⟩|⟨b,x,q,rfl,hx,hg,hl,hpos⟩
 ·exact Sl.nil _ _
 ·exact⟨by simp,_,_,_,rfl,Nat.le_refl _,.inl rfl,.inl rfl⟩
 ·exact Sl.whole hg hl (Nat.le_refl _) hx
theorem GrowE.g {h:NHeap} {v:NVal} {sz:Nat} {cs:List NVal} {n:Nat} (g:GrowE h v sz cs n) (hn:0<n):Grow h v sz cs n:=by
 rcases g with g|⟨a,_,_,q⟩|g
 ·exact .inl g
 ·omega
 ·exact .inr g
theorem grow_app {α:Type} {f:α→List NVal} {k:Nat} (hf:∀a,(f a).length=k) (h1:∀a,allOne (f a)=true) {st e by_:Nat} {z:NVal} (hu:P.underlying st=some (.slice e)) (hs:szOf P e=some k) (hb:bytesOf P e=some by_) (hz:zeroOf P e=some z) (hzl:z.cells.length=k) (h0:0<k)
  {h:NHeap} {v:NVal} {l:List α} (g:GrowE h v k (rows f l) l.length) {y:NVal} {m:List α} (s:Rw h k f y m) (h2:l.length+m.length≤1099511627776) (h3:(l.length+m.length)*by_≤1099511627776) (hzo:allOne z.cells=true:=by rfl):
  ∃v' h',nappend P st st v y h=some (v',h')∧GrowE h' v' k (rows f (l++m)) (l++m).length∧Upd (blk v) h h'∧((m=[]∧v'=v∧h'=h)∨(m≠[]∧h'.next=h.next+1∧v'=.slice (some (h.next,0)) (l.length+m.length) (l.length+m.length) (some k))):=by
 have ho:=rows_one h1 m
 have hlen:=rows_len hf m
 cases m with
 |nil=>
  have hv:nappend P st st v y h=some (v,h):=by
   rcases g with⟨rfl,_⟩|⟨a,rfl,_⟩|⟨b,x,q,rfl,hx,hg,hl,hpos⟩
   ·exact nappend_none_nil hu hs hb hz hzl h0 s hzo
   ·exact nappend_none hu hs hb hz hzl h0 s a 0 0 none (by omega) (by omega) hzo
   ·exact nappend_none hu hs hb hz hzl h0 s (b,0) _ _ x (by simpa using h2) (by simpa using h3) hzo
  exact⟨v,h,hv,by simpa using g,Upd.refl _ _,.inl ⟨rfl,rfl,rfl⟩⟩
 |cons a0 m0=>
  obtain⟨m,hm⟩:∃m,m=a0::m0:=⟨_,rfl⟩
  rw[←hm] at s h2 h3 ho hlen⊢
  have hmne:m≠[]:=by rw[hm];simp
  have hpm:0<m.length:=by rw[hm];simp
  have key:∃h' q,nappend P st st v y h=some (.slice (some (h.next,0)) (l.length+m.length) (l.length+m.length) (some k),h')∧h'.next=h.next+1∧h'.get h.next=some (.cells (rows f l++rows f m) (.own q))∧Upd (blk v) h h':=by
   rcases g with⟨rfl,hc,hn⟩|⟨a,rfl,hc,hn⟩|⟨b,x,q,rfl,hx,hg,hl,hpos⟩
   ·rw[hn,hc,Nat.zero_add]
    exact⟨_,some (e,0),nappend_new hu hs hb hz hzl h0 s ho (by omega) (by rw[hn,Nat.zero_add] at h3;exact h3) hpm none (.inl rfl) hzo,rfl,by simp[NHeap.get_alloc],(Upd.refl _ _).alloc _⟩
   ·rw[hn,hc,Nat.zero_add]
    exact⟨_,some (e,0),nappend_new hu hs hb hz hzl h0 s ho (by omega) (by rw[hn,Nat.zero_add] at h3;exact h3) hpm (some a) (.inr ⟨_,_,rfl⟩) hzo,rfl,by simp[NHeap.get_alloc],(Upd.refl _ _).alloc _⟩
   ·obtain⟨s1,s2⟩:=s.src h0
    have happ:appended P e k st y h=some (m.length,rows f m):=by
     unfold appended
     rw[hu]
     simp only[s1,s2]
    have hall:=rows_one h1 l
    have hnb:b<h.next:=NHeap.get_lt hg
    have htake:((rows f l).drop 0).take (l.length*k)=rows f l:=by rw[List.drop_zero,←hl,List.take_length]
    rcases hx with rfl|rfl
    ·refine⟨h.alloc (.cells (rows f l++rows f m) (.own (some (e,0)))),some (e,0),?_,rfl,by simp[NHeap.get_alloc],(Upd.refl _ _).alloc _⟩
     unfold nappend
     rw[hu]
     simp only[hs,hb,hz,happ,hzl,h0,hzo,hlen,ho,true_and,if_true]
     rw[if_pos ⟨h2,h3⟩,if_neg (by omega),if_neg (by omega)]
     have hsrc:srcCells k l.length h (.slice (some (b,0)) l.length l.length none)=some (rows f l):=by
      rw[srcCells_row hg (Nat.le_refl _) (by rw[Nat.zero_add,hl];exact Nat.le_refl _),htake]
     rw[hsrc]
     simp only[hall,if_true]
    ·refine⟨(h.set b .dead).alloc (.cells (rows f l++rows f m) (.own (regrown 0 e q))),regrown 0 e q,?_,rfl,by simp[NHeap.get_alloc],((Upd.refl _ _).set (.inl (by simp[blk])) _).alloc _⟩
     unfold nappend
     rw[hu]
     simp only[hs,hb,hz,happ,hzl,h0,hzo,hlen,ho,true_and,if_true]
     rw[if_pos ⟨h2,h3⟩,if_neg (by omega),if_neg (by omega)]
     simp only[hg]
     rw[if_pos (by omega),if_pos (by omega),htake]
  obtain⟨h',q,e1,e2,e3,e4⟩:=key
  refine⟨_,h',e1,.inr (.inr ⟨h.next,some k,q,by rw[List.length_append],.inr rfl,?_,?_,?_⟩),e4,.inr ⟨hmne,e2,rfl⟩⟩
  ·rw[e3,rows_append]
  ·rw[rows_len hf]
  ·rw[List.length_append];omega
end Go.Proofs.YtkjpldganajkkaaGreatDoor.NICE
namespace Go.Proofs.YtkjpldganajkkaaGreatDoor.NICE
open Go Go.RowKit
variable {P:Program}
theorem slice_flatX {H:Type} {enc:TypeId×Value→H} {W:World} {t e:TypeId} {v:Value} {d:DataW H} {p:List MemPlace} (ht:P.underlying t=some (.slice e)) {dd:Nat} {ks:List FK} (hk:flat P dd e=some ks) (h0:0<ks.length)
  (h:DataW.Trod enc P W 0 (fun _=>true) true t v d p) (hv:∃a n c,v=.slice a n c) (b:Nat):
  ∃bo n c x y cs ob,((x=none∨x=some ks.length)∧n≤c)∧(∃us:List (List NVal),us.length=n∧cs=rows id us∧∀u∈us,All2 FK.ok ks u)∧((n=0∧ob=NObj.dead)∨(ob=.cells cs .ro∧bo=some (b,0)))∧(∀l:ArgL,l[b]? =some (y,ob)→VR (argI l) (.slice bo n c x) v)∧
   ∀l:ArgL,ob=.dead∨∃cs,ob=.cells cs .ro∧∃rb s m,y=some (rb,s,m)∧∀(i:Nat) u,cs[i]? =some u→∃r,W.cell? ⟨rb,s+i,none⟩=some r∧VR (argI l) u r:=by
 have hlen:=flat_len hk
 obtain⟨fuel,hf⟩:=h
 obtain⟨a,n,c,rfl⟩:=hv
 have hcs:(Value.slice a n c).cells.toList=[.slice a n c]:=rfl
 rw[hcs] at hf
 rcases Deep.open_slice ht hf with⟨e1,_⟩|⟨a',len,cap,m,k,D,Pl,e1,_,hl,hml,hm,_,hx⟩
 ·simp only[List.cons.injEq,and_true] at e1
  cases e1
  exact⟨none,0,0,none,none,[],.dead,⟨.inl rfl,Nat.le_refl _⟩,⟨[],rfl,rfl,by simp⟩,.inl ⟨rfl,rfl⟩,fun l _=>.sliceNil,fun l=>.inl rfl⟩
 ·simp only[List.cons.injEq,and_true] at e1
  cases e1
  rcases Nat.eq_zero_or_pos c with hz|hz
  ·subst hz
   have:n=0:=by omega
   subst this
   exact⟨some (b,0),0,0,some ks.length,none,[],.dead,⟨.inr rfl,Nat.le_refl _⟩,⟨[],rfl,rfl,by simp⟩,.inl ⟨rfl,rfl⟩,fun l _=>.sliceEmpty,fun l=>.inl rfl⟩
  ·obtain⟨blk,off,spot⟩:=a'
   have hm':m=c:=by rw[hm];simp
   have elem:∀i,i<c→∃us,All2 FK.ok ks us∧∀j u,us[j]? =some u→∃r,W.cell? (((⟨blk,off,spot⟩:Addr).add (i*ks.length)).add j)=some r∧∀ι,VR ι u r:=fun i hi=>by
    obtain⟨cs',h1,h2⟩:=hx i (by omega)
    rw[←hlen] at h1
    obtain⟨us,g1,g2⟩:=trod_flat dd hk h2
    obtain⟨_,hl2,hcell⟩:=World.cells?_some h1
    refine⟨us,g1,fun j u hj=>?_⟩
    have hju:j<us.length:=(List.getElem?_eq_some_iff.1 hj).1
    have hul:us.length=cs'.length:=(g2 (fun _=>none)).length
    obtain⟨r,hr⟩:∃r,cs'[j]? =some r:=⟨cs'[j]'(by omega),List.getElem?_eq_getElem (by omega)⟩
    refine⟨r,by rw[hcell j (by omega),hr],fun ι=>?_⟩
    obtain⟨r',hr',hv⟩:=(g2 ι).get hj
    rw[hr] at hr'
    cases hr'
    exact hv
   have hspot:spot=none:=by
    obtain⟨us,g1,g2⟩:=elem 0 hz
    have hul:=g1.length
    obtain⟨u,hu⟩:∃u,us[0]? =some u:=⟨us[0]'(by omega),List.getElem?_eq_getElem (by omega)⟩
    obtain⟨r,h1,_⟩:=g2 0 u hu
    simpa[Addr.add] using World.cell?_spot h1
   subst hspot
   have addr:∀i j,((⟨blk,off,none⟩:Addr).add (i*ks.length)).add j=⟨blk,off+(i*ks.length+j),none⟩:=by
    intro i j
    unfold Addr.add
    by_cases q1:i*ks.length=0<;>by_cases q2:j=0<;>simp[q1,q2,Nat.add_assoc]
   have sk:∀i,∃us:List NVal,us.length=ks.length∧(i<c→All2 FK.ok ks us∧∀j u,us[j]? =some u→∃r,W.cell? ⟨blk,off+(i*ks.length+j),none⟩=some r∧∀ι,VR ι u r):=fun i=>by
    by_cases hi:i<c
    ·obtain⟨us,h1,h2⟩:=elem i hi
     exact⟨us,h1.length.symm,fun _=>⟨h1,fun j u hj=>by rw[←addr];exact h2 j u hj⟩⟩
    ·exact⟨List.replicate ks.length nundef,by simp,fun q=>absurd q hi⟩
   obtain⟨f,hf'⟩:=Classical.skolem.1 sk
   have hfl:∀i,(f i).length=ks.length:=fun i=>(hf' i).1
   have hrl:(rows f (List.range n)).length=n*ks.length:=by rw[rows_len hfl,List.length_range]
   refine⟨some (b,0),n,c,none,some (blk,off,0),rows f (List.range n),.cells (rows f (List.range n)) .ro,⟨.inl rfl,hl⟩,⟨(List.range n).map f,by simp,?_,?_⟩,.inr ⟨rfl,rfl⟩,fun l hl'=>?_,fun l=>.inr ⟨_,rfl,blk,off,0,rfl,fun i u hi=>?_⟩⟩
   ·simp[rows,List.flatMap]
   ·intro u hu
    obtain⟨i,hi,rfl⟩:=List.mem_map.1 hu
    exact((hf' i).2 (by have:=List.mem_range.1 hi;omega)).1
   ·have hi:argI l b=some (blk,off,0):=by simp[argI,hl']
    exact VR.slice (o:=0) (s:=off) hi hl rfl
   ·have hlt:i<n*ks.length:=by have:=(List.getElem?_eq_some_iff.1 hi).1;omega
    have hq:i/ks.length<n:=(Nat.div_lt_iff_lt_mul h0).2 hlt
    have hr:i%ks.length<ks.length:=Nat.mod_lt _ h0
    have hdm:i/ks.length*ks.length+i%ks.length=i:=by rw[Nat.mul_comm];exact Nat.div_add_mod _ _
    have seg:=rows_at hfl (List.range n) (i/ks.length) (i/ks.length) (by rw[List.getElem?_range hq])
    have hu:(f (i/ks.length))[i%ks.length]? =some u:=by rw[←seg,List.getElem?_take_of_lt hr,List.getElem?_drop,hdm,hi]
    obtain⟨r,h1,h2⟩:=((hf' (i/ks.length)).2 (by omega)).2 _ u hu
    exact⟨r,by rw[hdm] at h1;exact h1,h2 _⟩
end Go.Proofs.YtkjpldganajkkaaGreatDoor.NICE
namespace Go.Proofs.YtkjpldganajkkaaGreatDoor.NICE
open Go Go.RowKit
variable {P:Program}
theorem or_disj (t:TypeId) (a b j:Nat) (hb:b<2^j) (h:a*2^j+b<2^63):nbin P .or t (.int .i64 ((a*2^j:Nat):Int)) (.int .i64 (b:Int))=some (.int .i64 ((a*2^j+b:Nat):Int)):=by
 have e:nbin P .or t (.int .i64 ((a*2^j:Nat):Int)) (.int .i64 (b:Int))=some (.int .i64 (IntKind.i64.wrap (BitVec.ofInt 64 ((a*2^j:Nat):Int)|||BitVec.ofInt 64 (b:Int)).toNat)):=rfl
 rw[e]
 have h1:(BitVec.ofInt 64 ((a*2^j:Nat):Int)|||BitVec.ofInt 64 (b:Int)).toNat=a*2^j+b:=by
  rw[BitVec.toNat_or,BitVec.ofInt_natCast,BitVec.ofInt_natCast,BitVec.toNat_ofNat,BitVec.toNat_ofNat,Nat.mod_eq_of_lt (by omega),Nat.mod_eq_of_lt (by omega),Nat.mul_comm,Nat.two_pow_add_eq_or_of_lt hb]
 rw[h1,wrap_i64_small (by omega) (by omega)]
theorem or_comm_disj (t:TypeId) (a b j:Nat) (hb:b<2^j) (h:a*2^j+b<2^63):nbin P .or t (.int .i64 (b:Int)) (.int .i64 ((a*2^j:Nat):Int))=some (.int .i64 ((a*2^j+b:Nat):Int)):=by
 have e:nbin P .or t (.int .i64 (b:Int)) (.int .i64 ((a*2^j:Nat):Int))=some (.int .i64 (IntKind.i64.wrap (BitVec.ofInt 64 (b:Int)|||BitVec.ofInt 64 ((a*2^j:Nat):Int)).toNat)):=rfl
 rw[e]
 have h1:(BitVec.ofInt 64 (b:Int)|||BitVec.ofInt 64 ((a*2^j:Nat):Int)).toNat=a*2^j+b:=by
  rw[BitVec.toNat_or,BitVec.ofInt_natCast,BitVec.ofInt_natCast,BitVec.toNat_ofNat,BitVec.toNat_ofNat,Nat.mod_eq_of_lt (by omega),Nat.mod_eq_of_lt (by omega),Nat.or_comm,Nat.mul_comm,Nat.two_pow_add_eq_or_of_lt hb]
 rw[h1,wrap_i64_small (by omega) (by omega)]
theorem shl_nat (t:TypeId) (k':IntKind) (a j:Nat) (hj:j≤63) (h:a*2^j<2^63):nbin P .shl t (.int .i64 (a:Int)) (.int k' (j:Int))=some (.int .i64 ((a*2^j:Nat):Int)):=by
 have e:nbin P .shl t (.int .i64 (a:Int)) (.int k' (j:Int))=(if(j:Int)<0 then none else some (.int .i64 (IntKind.i64.wrap ((a:Int)*2^(min (j:Int).toNat 64))))):=rfl
 rw[e,if_neg (by omega),Int.toNat_natCast,Nat.min_eq_left (by omega)]
 have h2:((a:Int)*2^j)=((a*2^j:Nat):Int):=by push_cast;rfl
 rw[h2,wrap_i64_small (by omega) (by omega)]
theorem nat_and_bit (n j:Nat):n&&&2^j=n/2^j%2*2^j:=by
 have hb:n.testBit j=decide (n/2^j%2=1):=Nat.testBit_eq_decide_div_mod_eq
 have:n/2^j%2=0∨n/2^j%2=1:=by omega
 apply Nat.eq_of_testBit_eq
 intro i
 rw[Nat.testBit_and,Nat.testBit_two_pow]
 rcases this with q|q
 ·rw[q,Nat.zero_mul,Nat.zero_testBit]
  by_cases hi:j=i
  ·subst hi;rw[hb,q];rfl
  ·simp[hi]
 ·rw[q,Nat.one_mul,Nat.testBit_two_pow]
  by_cases hi:j=i
  ·subst hi;rw[hb,q];rfl
  ·simp[hi]
theorem and_bit48 (t:TypeId) (n:Int):nbin P .and t (.int .i64 n) (.int .i64 281474976710656)=some (.int .i64 (n/2^48%2*2^48)):=by
 have e:nbin P .and t (.int .i64 n) (.int .i64 281474976710656)=some (.int .i64 (IntKind.i64.wrap (BitVec.ofInt 64 n&&&BitVec.ofInt 64 281474976710656).toNat)):=rfl
 have hc:((281474976710656:Int)%2^64).toNat=2^48:=by decide
 have h1:(BitVec.ofInt 64 n&&&BitVec.ofInt 64 281474976710656).toNat=(n%2^64).toNat/2^48%2*2^48:=by
  rw[BitVec.toNat_and,ofInt_toNat,ofInt_toNat,hc,nat_and_bit]
 rw[e,h1,wrap_i64_small (by omega) (by omega)]
 congr 2
 omega
end Go.Proofs.YtkjpldganajkkaaGreatDoor.NICE
namespace Go.Proofs.YtkjpldganajkkaaGreatDoor.S
open Go Go.RowKit Go.Proofs.YtkjpldganajkkaaGreatDoor.NICE
namespace word
def refI (n g:Int) (b:Bool):Int:=if n<0∨1024≤n∨g<1∨1073741824<g then 0 else g*65536+n+(if b then 281474976710656 else 0)
def partsI (r:Int):Int×Int×Bool×Bool:=
 let n:=r%65536
 let g:=r/65536%4294967296
 let b:=!(r/281474976710656%2==0)
 if r=0∨refI n g b≠r then(0,0,false,false) else(n,g,b,true)
theorem Ref_K (n g:Int) (b:Bool) (h:NHeap):K env 66 [.int .i64 n,.int .i64 g,.bool b] h=some (.int .i64 (refI n g b),h):=by
 rw[k66 _ _ (by simp)]
 by_cases p1:n<0
 ·rw[refI,if_pos (.inl p1)]
  simp only[bodyOf,Option.getD_some,go_sem,seval,Tryz.f66,p1]
 by_cases p2:1024≤n
 ·rw[refI,if_pos (.inr (.inl p2))]
  simp only[bodyOf,Option.getD_some,go_sem,seval,Tryz.f66,p1,p2]
 by_cases p3:g<1
 ·rw[refI,if_pos (.inr (.inr (.inl p3)))]
  simp only[bodyOf,Option.getD_some,go_sem,seval,Tryz.f66,p1,p2,p3]
 by_cases p4:1073741824<g
 ·rw[refI,if_pos (.inr (.inr (.inr p4)))]
  simp only[bodyOf,Option.getD_some,go_sem,seval,Tryz.f66,p1,p2,p3,p4]
 rw[refI,if_neg (by omega)]
 obtain⟨n',rfl⟩:∃n':Nat,n=(n':Int):=⟨n.toNat,by omega⟩
 obtain⟨g',rfl⟩:∃g':Nat,g=(g':Int):=⟨g.toNat,by omega⟩
 have c16:((g'*2^16:Nat):Int)=(g':Int)*65536:=by omega
 have c16n:((g'*2^16+n':Nat):Int)=(g':Int)*65536+(n':Int):=by rw[Int.natCast_add,c16]
 have s1:∀t,nbin Tryz.prog .shl t (.int .i64 (g':Int)) (.int .u64 16)=some (.int .i64 ((g':Int)*65536)):=fun t=>by
  have:=shl_nat (P:=Tryz.prog) t .u64 g' 16 (by decide) (by omega)
  rw[c16] at this
  exact this
 have s2:∀t,nbin Tryz.prog .or t (.int .i64 ((g':Int)*65536)) (.int .i64 (n':Int))=some (.int .i64 ((g':Int)*65536+(n':Int))):=fun t=>by
  have:=or_disj (P:=Tryz.prog) t g' n' 16 (by omega) (by omega)
  rw[c16,c16n] at this
  exact this
 have s3:∀t,nbin Tryz.prog .or t (.int .i64 ((g':Int)*65536+(n':Int))) (.int .i64 281474976710656)=some (.int .i64 ((g':Int)*65536+(n':Int)+281474976710656)):=fun t=>by
  have hb:g'*2^16+n'<2^48:=by omega
  have hc:1*2^48+(g'*2^16+n')<2^63:=Nat.lt_of_lt_of_le (Nat.add_lt_add_left hb _) (by decide)
  have:=or_comm_disj (P:=Tryz.prog) t 1 (g'*2^16+n') 48 hb hc
  have c48:((1*2^48:Nat):Int)=281474976710656:=by kernel_rfl
  have hsum:((1*2^48+(g'*2^16+n'):Nat):Int)=(g':Int)*65536+(n':Int)+281474976710656:=by rw[Int.natCast_add,c48,c16n,Int.add_comm]
  rw[hsum,c16n,c48] at this
  exact this
 cases b with
 |false=>
  simp only[bodyOf,Option.getD_some,go_sem,seval,Tryz.f66,p1,p2,p3,p4,s1,s2]
  try simp
 |true=>
  simp only[bodyOf,Option.getD_some,go_sem,seval,Tryz.f66,p1,p2,p3,p4,s1,s2,s3]
  try simp
theorem Parts_K (r:Int) (h:NHeap):K env 43 [.int .i64 r] h=some (.tuple [.int .i64 (partsI r).1,.int .i64 (partsI r).2.1,.bool (partsI r).2.2.1,.bool (partsI r).2.2.2],h):=by
 have s1:∀t,nbin Tryz.prog .and t (.int .i64 r) (.int .i64 65535)=some (.int .i64 (r%65536)):=fun t=>by
  have:=and_mask_i64 (P:=Tryz.prog) t r 16 (by decide)
  simpa using this
 have s2:∀t,nbin Tryz.prog .shr t (.int .i64 r) (.int .u64 16)=some (.int .i64 (r/65536)):=fun t=>by
  have:=shr_i64 (P:=Tryz.prog) t .u64 r 16 (by decide)
  simpa using this
 have s3:∀t,nbin Tryz.prog .and t (.int .i64 (r/65536)) (.int .i64 4294967295)=some (.int .i64 (r/65536%4294967296)):=fun t=>by
  have:=and_mask_i64 (P:=Tryz.prog) t (r/65536) 32 (by decide)
  simpa using this
 obtain⟨b,hb,s4⟩:∃b:Bool,(!(r/281474976710656%2==0))=b∧∀t,nbin Tryz.prog .and t (.int .i64 r) (.int .i64 281474976710656)=some (.int .i64 (if b then 281474976710656 else 0)):=by
  refine⟨_,rfl,fun t=>?_⟩
  rw[and_bit48]
  have:r/281474976710656%2=0∨r/281474976710656%2=1:=by omega
  rcases this with q|q
  ·rw[show r/2^48%2=0 from q,q];rfl
  ·rw[show r/2^48%2=1 from q,q];rfl
 have e:=Ref_K (r%65536) (r/65536%4294967296) b h
 have hp:partsI r=(if r=0∨refI (r%65536) (r/65536%4294967296) b≠r then(0,0,false,false) else(r%65536,r/65536%4294967296,b,true)):=by
  simp only[partsI,hb]
 rw[hp,k43 _ _ (by simp)]
 by_cases r0:r=0
 ·rw[if_pos (.inl r0)]
  cases b with
  |false=>simp only[bodyOf,Option.getD_some,go_sem,seval,Tryz.f43,s1,s2,s3,s4,Bool.false_eq_true,if_false,decide_eq_true r0,e]
  |true=>simp only[bodyOf,Option.getD_some,go_sem,seval,Tryz.f43,s1,s2,s3,s4,if_true,decide_eq_true r0,e]
 ·by_cases rr:refI (r%65536) (r/65536%4294967296) b=r
  ·rw[if_neg (by simp[r0,rr])]
   cases b with
   |false=>simp only[bodyOf,Option.getD_some,go_sem,seval,Tryz.f43,s1,s2,s3,s4,Bool.false_eq_true,if_false,r0,e,decide_eq_true rr]
   |true=>simp only[bodyOf,Option.getD_some,go_sem,seval,Tryz.f43,s1,s2,s3,s4,if_true,r0,e,decide_eq_true rr]
  ·rw[if_pos (.inr rr)]
   cases b with
   |false=>simp only[bodyOf,Option.getD_some,go_sem,seval,Tryz.f43,s1,s2,s3,s4,Bool.false_eq_true,if_false,r0,e,rr]
   |true=>simp only[bodyOf,Option.getD_some,go_sem,seval,Tryz.f43,s1,s2,s3,s4,if_true,r0,e,rr]
def countI (n:Int):Int:=if n≤0 then 0 else(n-1)/8+1
theorem Count_K (n:Int) (h:NHeap) (hn:n<2^62):K env 126 [.int .i64 n] h=some (.int .i64 (countI n),h):=by
 rw[k126 _ _ (by simp)]
 by_cases p:n≤0
 ·rw[countI,if_pos p]
  simp only[bodyOf,Option.getD_some,go_sem,seval,Tryz.f126,p]
 ·rw[countI,if_neg p]
  obtain⟨m,hm⟩:∃m:Nat,n-1=(m:Int):=⟨(n-1).toNat,by omega⟩
  have w1:IntKind.i64.wrap (n-1)=(m:Int):=by rw[hm,wrap_i64_small (by omega) (by omega)]
  have q8:(m:Int).tdiv 8=((m/8:Nat):Int):=rfl
  have w2:IntKind.i64.wrap ((m/8:Nat):Int)=((m/8:Nat):Int):=wrap_i64_small (by omega) (by omega)
  have w3:IntKind.i64.wrap (((m/8:Nat):Int)+1)=((m/8:Nat):Int)+1:=wrap_i64_small (by omega) (by omega)
  have hr:(n-1)/8+1=((m/8:Nat):Int)+1:=by omega
  rw[hr]
  simp only[bodyOf,Option.getD_some,go_sem,seval,Tryz.f126,p,w1,bin_quo,q8,w2,w3]
def sizeI (c:Int):Int:=if c=0 then 8 else if c=1 then 12 else if c=2 then 24 else if c=3 then 88 else if c=4 then 264 else 0
theorem Size_K (c:Int) (h:NHeap):K env 63 [.int .i64 c] h=some (.int .i64 (sizeI c),h):=by
 rw[k63 _ _ (by simp)]
 unfold sizeI
 by_cases c0:c=0
 ·subst c0;simp only[bodyOf,Option.getD_some,go_sem,seval,Tryz.f63]
 by_cases c1:c=1
 ·subst c1;simp only[bodyOf,Option.getD_some,go_sem,seval,Tryz.f63]
 by_cases c2:c=2
 ·subst c2;simp only[bodyOf,Option.getD_some,go_sem,seval,Tryz.f63]
 by_cases c3:c=3
 ·subst c3;simp only[bodyOf,Option.getD_some,go_sem,seval,Tryz.f63]
 by_cases c4:c=4
 ·subst c4;simp only[bodyOf,Option.getD_some,go_sem,seval,Tryz.f63]
 rw[if_neg c0,if_neg c1,if_neg c2,if_neg c3,if_neg c4]
 simp only[bodyOf,Option.getD_some,go_sem,seval,Tryz.f63,c0,c1,c2,c3,c4]
end word
end Go.Proofs.YtkjpldganajkkaaGreatDoor.S
namespace Go.Proofs.YtkjpldganajkkaaGreatDoor.NICE
open Go Go.RowKit
variable {P:Program}
theorem wrap_u64_small {n:Int} (h0:0≤n) (h1:n<2^64):IntKind.u64.wrap n=n:=by
 have:IntKind.u64.wrap n=n%18446744073709551616:=by simp[IntKind.wrap,IntKind.bits,IntKind.signed]
 rw[this];omega
theorem u64_toNat (w:Nat) (h:w<2^64):(BitVec.ofInt 64 (w:Int)).toNat=w:=by
 rw[BitVec.ofInt_natCast,BitVec.toNat_ofNat,Nat.mod_eq_of_lt h]
theorem and_u64 (t:TypeId) (w m:Nat) (hw:w<2^64) (hm:m<2^64):nbin P .and t (.int .u64 (w:Int)) (.int .u64 (m:Int))=some (.int .u64 ((w&&&m:Nat):Int)):=by
 have e:nbin P .and t (.int .u64 (w:Int)) (.int .u64 (m:Int))=some (.int .u64 (IntKind.u64.wrap (BitVec.ofInt 64 (w:Int)&&&BitVec.ofInt 64 (m:Int)).toNat)):=rfl
 have h1:(BitVec.ofInt 64 (w:Int)&&&BitVec.ofInt 64 (m:Int)).toNat=w&&&m:=by rw[BitVec.toNat_and,u64_toNat w hw,u64_toNat m hm]
 have h2:w&&&m≤w:=Nat.and_le_left
 rw[e,h1,wrap_u64_small (by omega) (by omega)]
theorem or_u64 (t:TypeId) (w m:Nat) (hw:w<2^64) (hm:m<2^64):nbin P .or t (.int .u64 (w:Int)) (.int .u64 (m:Int))=some (.int .u64 ((w|||m:Nat):Int)):=by
 have e:nbin P .or t (.int .u64 (w:Int)) (.int .u64 (m:Int))=some (.int .u64 (IntKind.u64.wrap (BitVec.ofInt 64 (w:Int)|||BitVec.ofInt 64 (m:Int)).toNat)):=rfl
 have h1:(BitVec.ofInt 64 (w:Int)|||BitVec.ofInt 64 (m:Int)).toNat=w|||m:=by rw[BitVec.toNat_or,u64_toNat w hw,u64_toNat m hm]
 have h2:w|||m<2^64:=Nat.or_lt_two_pow hw hm
 rw[e,h1,wrap_u64_small (by omega) (by omega)]
end Go.Proofs.YtkjpldganajkkaaGreatDoor.NICE
namespace Go.Proofs.YtkjpldganajkkaaGreatDoor.S
open Go Go.RowKit Go.Proofs.YtkjpldganajkkaaGreatDoor.NICE
namespace word
def bareN (w:Nat):Nat:=(w/4*4+4)%2^64
def freeN (w:Nat):Bool:=decide (w%4=0)
def deadN (w:Nat):Bool:=decide (w/2%2=1)
theorem Free_K (w:Nat) (hw:w<2^64) (h:NHeap):K env 109 [.int .u64 w] h=some (.bool (freeN w),h):=by
 have s:∀t,nbin Tryz.prog .and t (.int .u64 (w:Int)) (.int .u64 3)=some (.int .u64 ((w%4:Nat):Int)):=fun t=>by
  have:=and_u64 (P:=Tryz.prog) t w 3 hw (by decide)
  rw[show w&&&3=w%4 from Nat.and_two_pow_sub_one_eq_mod w 2] at this
  exact this
 have hd:(((w%4:Nat):Int)=0)=(w%4=0):=by rw[eq_iff_iff];omega
 rw[k109 _ _ (by simp),freeN]
 simp only[bodyOf,Option.getD_some,go_sem,seval,Tryz.f109,s,hd]
theorem Dead_K (w:Nat) (hw:w<2^64) (h:NHeap):K env 124 [.int .u64 w] h=some (.bool (deadN w),h):=by
 have s:∀t,nbin Tryz.prog .and t (.int .u64 (w:Int)) (.int .u64 2)=some (.int .u64 ((w/2%2*2:Nat):Int)):=fun t=>by
  have:=and_u64 (P:=Tryz.prog) t w 2 hw (by decide)
  rw[show w&&&2=w/2%2*2 from nat_and_bit w 1] at this
  exact this
 rw[k124 _ _ (by simp),deadN]
 have:w/2%2=0∨w/2%2=1:=by omega
 rcases this with q|q
 ·rw[q] at s⊢
  simp only[bodyOf,Option.getD_some,go_sem,seval,Tryz.f124,s]
  try rfl
 ·rw[q] at s⊢
  simp only[bodyOf,Option.getD_some,go_sem,seval,Tryz.f124,s]
  try rfl
end word
namespace node
def highI (c:Int):Int:=if c=1 then 4 else if c=2 then 16 else if c=3 then 48 else if c=4 then 256 else 0
theorem High_K (c:Int) (h:NHeap):K env 123 [.int .i64 c] h=some (.int .i64 (highI c),h):=by
 rw[k123 _ _ (by simp)]
 unfold highI
 by_cases c1:c=1
 ·subst c1;simp only[bodyOf,Option.getD_some,go_sem,seval,Tryz.f123]
 by_cases c2:c=2
 ·subst c2;simp only[bodyOf,Option.getD_some,go_sem,seval,Tryz.f123]
 by_cases c3:c=3
 ·subst c3;simp only[bodyOf,Option.getD_some,go_sem,seval,Tryz.f123]
 by_cases c4:c=4
 ·subst c4;simp only[bodyOf,Option.getD_some,go_sem,seval,Tryz.f123]
 rw[if_neg c1,if_neg c2,if_neg c3,if_neg c4]
 simp only[bodyOf,Option.getD_some,go_sem,seval,Tryz.f123,c1,c2,c3,c4]
theorem isRef_K (r:Int) (h:NHeap):K env 125 [.int .i64 r] h=some (.bool (word.partsI r).2.2.2,h):=by
 rw[k125 _ _ (by simp)]
 simp only[bodyOf,Option.getD_some,go_sem,seval,Tryz.f125,word.Parts_K]
def placeI (c i:Int) (b:UInt8):Int:=if c=1 then 5+i else if c=2 then 6+i else if c=3 then 36+i else 4+b.toNat
theorem place_K (c i:Int) (b:UInt8) (h:NHeap) (h0:-2^40<i) (h1:i<2^40):K env 152 [.int .i64 c,.int .i64 i,.int .u8 b.toNat] h=some (.int .i64 (placeI c i b),h):=by
 have hb:b.toNat<256:=b.toNat_lt
 have w5:IntKind.i64.wrap (5+i)=5+i:=wrap_i64_small (by omega) (by omega)
 have w6:IntKind.i64.wrap (6+i)=6+i:=wrap_i64_small (by omega) (by omega)
 have w36:IntKind.i64.wrap (36+i)=36+i:=wrap_i64_small (by omega) (by omega)
 have w0:IntKind.i64.wrap (b.toNat:Int)=(b.toNat:Int):=wrap_i64_small (by omega) (by omega)
 have w4:IntKind.i64.wrap (4+(b.toNat:Int))=4+(b.toNat:Int):=wrap_i64_small (by omega) (by omega)
 rw[k152 _ _ (by simp)]
 unfold placeI
 by_cases c1:c=1
 ·subst c1;simp only[bodyOf,Option.getD_some,go_sem,seval,Tryz.f152,w5]
 by_cases c2:c=2
 ·subst c2;simp only[bodyOf,Option.getD_some,go_sem,seval,Tryz.f152,w6]
 by_cases c3:c=3
 ·subst c3;simp only[bodyOf,Option.getD_some,go_sem,seval,Tryz.f152,w36]
 rw[if_neg c1,if_neg c2,if_neg c3]
 simp only[bodyOf,Option.getD_some,go_sem,seval,Tryz.f152,c1,c2,c3,w0,w4]
end node
end Go.Proofs.YtkjpldganajkkaaGreatDoor.S
namespace Go.Proofs.YtkjpldganajkkaaGreatDoor.S
open Go Go.RowKit Go.Proofs.YtkjpldganajkkaaGreatDoor.NICE
namespace pack
abbrev U (n:Nat):List NVal:=[.int .u64 (n:Int)]
def wStep (s:List UInt8) (l:List Nat) (i:Nat):List Nat:=l.set (i/8) (l.getD (i/8) 0|||(s.getD i 0).toNat*2^(8*(i%8)))
def wordsTo (s:List UInt8):Nat→List Nat
 |0=>List.replicate ((s.length+7)/8) 0
 |i+1=>wStep s (wordsTo s i) i
def wordsF (s:List UInt8):List Nat:=wordsTo s s.length
theorem wordsTo_len (s:List UInt8):∀i,(wordsTo s i).length=(s.length+7)/8
 |0=>by simp[wordsTo]
 |i+1=>by simp[wordsTo,wStep,wordsTo_len s i]
theorem byte_shift (b:UInt8) (j:Nat) (hj:j<8):b.toNat*2^(8*j)<2^64:=by
 have h1:b.toNat<2^8:=b.toNat_lt
 have h2:b.toNat*2^(8*j)<2^8*2^(8*j):=Nat.mul_lt_mul_of_pos_right h1 (Nat.two_pow_pos _)
 rw[←Nat.pow_add] at h2
 exact Nat.lt_of_lt_of_le h2 (Nat.pow_le_pow_right (by decide) (by omega))
theorem wordsTo_lt (s:List UInt8):∀i,∀w∈wordsTo s i,w<2^64
 |0,w,h=>by
  rw[wordsTo] at h
  rw[(List.mem_replicate.1 h).2];decide
 |i+1,w,h=>by
  rw[wordsTo,wStep] at h
  rcases List.mem_or_eq_of_mem_set h with h|rfl
  ·exact wordsTo_lt s i w h
  ·refine Nat.or_lt_two_pow ?_ (byte_shift _ _ (Nat.mod_lt _ (by decide)))
   by_cases q:i/8<(wordsTo s i).length
   ·have:(wordsTo s i).getD (i/8) 0∈wordsTo s i:=by rw[List.getD,List.getElem?_eq_getElem q];exact List.getElem_mem q
    exact wordsTo_lt s i _ this
   ·rw[List.getD,List.getElem?_eq_none (by omega)];decide
theorem shl_u64 {P:Program} (t:TypeId) (a j:Nat) (hj:j≤63) (h:a*2^j<2^64):nbin P .shl t (.int .u64 (a:Int)) (.int .u64 (j:Int))=some (.int .u64 ((a*2^j:Nat):Int)):=by
 have e:nbin P .shl t (.int .u64 (a:Int)) (.int .u64 (j:Int))=(if(j:Int)<0 then none else some (.int .u64 (IntKind.u64.wrap ((a:Int)*2^(min (j:Int).toNat 64))))):=rfl
 rw[e,if_neg (by omega),Int.toNat_natCast,Nat.min_eq_left (by omega)]
 have h2:((a:Int)*2^j)=((a*2^j:Nat):Int):=by push_cast;rfl
 rw[h2,wrap_u64_small (by omega) (by omega)]
noncomputable def lbW:Code:=inC (inC (atC (bodyOf Tryz.f68) 3))
theorem loopW (hA:NHeap) (b:Nat) (hb:hA.next≤b) (s:List UInt8) (hs:s.length<2^40) (Q:Out→Prop)
  (hQ:∀(h:NHeap) (F:Fr),Ext hA h→h.get b=some (.cells (rows U (wordsF s)) (.own none))→F 3=.slice (some (b,0)) ((s.length+7)/8) ((s.length+7)/8) none→Q (some (.exit 0,toL 32 F,h))):
  ∀(f i:Nat) (h:NHeap) (F:Fr),i+f=s.length→Ext hA h→h.get b=some (.cells (rows U (wordsTo s i)) (.own none))→F 0=.str s→F 3=.slice (some (b,0)) ((s.length+7)/8) ((s.length+7)/8) none→F 10=.int .i64 s.length→F 11=.int .i64 i→Q (C env (.loop lbW) (toL 32 F) h):=by
 intro f
 induction f with
 |zero=>
  intro i h F hi hE g f0 f3 f10 f11
  have:i=s.length:=by omega
  subst this
  rw[S_loop]
  conv=>arg 1;arg 2;arg 2;simp only[lbW,bodyOf,Option.getD_some,atC,seqL,inC,elC,List.nil_append,List.cons_append,List.getElem?_cons_succ,List.getElem?_cons_zero,Tryz.f68]
  simp only[go_sem,seval,f10,f11]
  exact hQ h _ hE g (by simp only[go_sem,seval,f3])
 |succ f ih=>
  intro i h F hi hE g f0 f3 f10 f11
  have p1:i<s.length:=by omega
  obtain⟨c,hc⟩:∃c,s[i]? =some c:=⟨s[i]'p1,List.getElem?_eq_getElem p1⟩
  have hcd:s.getD i 0=c:=by rw[List.getD,hc];rfl
  have ix:=fun k=>index_str (P:=Tryz.prog) Tryz.underlying9 s k i c hc
  have wl:=wordsTo_len s i
  have hj:i/8<(wordsTo s i).length:=by omega
  obtain⟨w,hw⟩:∃w,(wordsTo s i)[i/8]? =some w:=⟨_,List.getElem?_eq_getElem hj⟩
  have hwd:(wordsTo s i).getD (i/8) 0=w:=by rw[List.getD,hw];rfl
  have hwl:w<2^64:=wordsTo_lt s i w (List.mem_of_getElem? hw)
  have cell:=rowcell (rows_at (f:=U) (k:=1) (fun _=>rfl) (wordsTo s i) (i/8) w hw) (show(U w)[0]? =some (.int .u64 (w:Int)) from rfl)
  simp only[Nat.mul_one,Nat.add_zero] at cell
  have i0:(0:Int)≤(i:Int):=by omega
  have i1:(i:Int)<(s.length:Int):=by omega
  have q8:(i:Int).tdiv 8=((i/8:Nat):Int):=rfl
  have r8:(i:Int).tmod 8=((i%8:Nat):Int):=rfl
  have w1:IntKind.i64.wrap ((i:Int)+1)=((i+1:Nat):Int):=by rw[wrap_i64_small (by omega) (by omega)];omega
  have w2:IntKind.i64.wrap ((i/8:Nat):Int)=((i/8:Nat):Int):=wrap_i64_small (by omega) (by omega)
  have w3:IntKind.i64.wrap (8*((i%8:Nat):Int))=((8*(i%8):Nat):Int):=by rw[wrap_i64_small (by omega) (by omega)];omega
  have w4:IntKind.u64.wrap ((8*(i%8):Nat):Int)=((8*(i%8):Nat):Int):=wrap_u64_small (by omega) (by omega)
  have w5:IntKind.u64.wrap ((c.toNat:Nat):Int)=((c.toNat:Nat):Int):=by have:=c.toNat_lt;exact wrap_u64_small (by omega) (by omega)
  have sh:=fun t=>shl_u64 (P:=Tryz.prog) t c.toNat (8*(i%8)) (by omega) (byte_shift c _ (Nat.mod_lt _ (by decide)))
  have so:=fun t=>or_u64 (P:=Tryz.prog) t w (c.toNat*2^(8*(i%8))) hwl (byte_shift c _ (Nat.mod_lt _ (by decide)))
  have j0:(0:Int)≤((i/8:Nat):Int):=by omega
  have j1:((i/8:Nat):Int)<(((s.length+7)/8:Nat):Int):=by omega
  have hst:setRange (rows U (wordsTo s i)) (i/8) (U (w|||c.toNat*2^(8*(i%8))))=rows U (wordsTo s (i+1)):=by
   have:=rows_set (f:=U) (k:=1) (fun _=>rfl) (wordsTo s i) (i/8) (w|||c.toNat*2^(8*(i%8))) hj
   rw[Nat.mul_one] at this
   rw[this,wordsTo,wStep,hwd,hcd]
  have rl:i/8+1≤(rows U (wordsTo s i)).length:=by rw[rows_len (k:=1) (fun _=>rfl)];omega
  rw[S_loop]
  conv=>arg 1;arg 2;arg 2;simp only[lbW,bodyOf,Option.getD_some,atC,seqL,inC,elC,List.nil_append,List.cons_append,List.getElem?_cons_succ,List.getElem?_cons_zero,Tryz.f68]
  simp only[go_sem,seval,f0,f3,f10,f11,i0,i1,bin_quo,bin_rem,q8,r8,w1,w2,w3,w4,w5,ix,j0,j1,g,cell,sh,so,Nat.zero_add,Nat.mul_one,hst,rl]
  exact ih (i+1) _ _ (by omega) (hE.set hb _) (NHeap.get_set_same (NHeap.get_lt g)) (by simp only[go_sem,seval,f0]) (by simp only[go_sem,seval,f3]) (by simp only[go_sem,seval,f10]) (by simp only[go_sem,seval])
theorem rep_rows:∀n,repeatCells [NVal.int .u64 0] n=rows U (List.replicate n 0)
 |0=>rfl
 |n+1=>by
  rw[List.replicate_succ,rows_cons,←rep_rows n]
  rfl
theorem Words_K (h:NHeap) (s:List UInt8) (hs:s.length<2^36):∃h',K env 68 [.str s] h=some (.slice (some (h.next,0)) ((s.length+7)/8) ((s.length+7)/8) none,h')∧Ext h h'∧h'.get h.next=some (.cells (rows U (wordsF s)) (.own none)):=by
 have hc:=word.Count_K (s.length:Int) h (by omega)
 have hn:word.countI (s.length:Int)=(((s.length+7)/8:Nat):Int):=by unfold word.countI;split<;>omega
 rw[hn] at hc
 have mk:(repeatCells [NVal.int .u64 0] ((s.length+7)/8))=rows U (wordsTo s 0):=rep_rows _
 rw[k68 _ _ (by simp)]
 have c0:(0:Int)≤(((s.length+7)/8:Nat):Int):=by omega
 have c1:(((s.length+7)/8:Nat):Int)*8≤1099511627776:=by omega
 have c2:(((s.length+7)/8:Nat):Int)≤1099511627776:=by omega
 simp only[bodyOf,Option.getD_some,go_sem,seval,Tryz.f68,hc,c0,c1,c2,mk]
 have key:=fun rest=>loopW h h.next (Nat.le_refl _) s (by omega) (fun r=>∃h',outF Tryz.prog [.tmp 2] (thenD env (blockC 0 r) rest)=some (.slice (some (h.next,0)) ((s.length+7)/8) ((s.length+7)/8) none,h')∧Ext h h'∧h'.get h.next=some (.cells (rows U (wordsF s)) (.own none)))
 refine key _ ?_ s.length 0 _ _ (by omega) ?_ ?_ ?_ ?_ ?_ ?_
 ·intro h' F hE g f3
  refine⟨h',?_,hE,g⟩
  simp only[go_sem,seval,f3]
 ·exact(Ext.refl h).alloc _
 ·simp only[NHeap.get_alloc,if_true]
 all_goals simp only[go_sem,seval]
end pack
end Go.Proofs.YtkjpldganajkkaaGreatDoor.S
namespace Go.Proofs.YtkjpldganajkkaaGreatDoor.S
open Go Go.RowKit Go.Proofs.YtkjpldganajkkaaGreatDoor.NICE
namespace pack
def wbyte (w j:Nat):UInt8:=UInt8.ofNat (w/2^(8*j))
def wbytes (w:Nat):Nat→List UInt8
 |0=>[]
 |j+1=>wbytes w j++[wbyte w j]
def allBytes:List Nat→List UInt8
 |[]=>[]
 |w::ws=>wbytes w 8++allBytes ws
theorem wbytes_len (w:Nat):∀j,(wbytes w j).length=j
 |0=>rfl
 |j+1=>by simp[wbytes,wbytes_len w j]
theorem allBytes_len:∀ws,(allBytes ws).length=ws.length*8
 |[]=>rfl
 |w::ws=>by rw[allBytes,List.length_append,wbytes_len,allBytes_len ws,List.length_cons];omega
def room (cap:Nat) (acc:List UInt8):NObj:=.cells (u8s acc++List.replicate (cap-acc.length) (.int .u8 0)) (.own none)
theorem app_room (h:NHeap) (b nb cap:Nat) (acc:List UInt8) (c:UInt8) (hb:h.get b=some (room cap acc)) (hn:h.get nb=some (.cells [.int .u8 (c.toNat:Int)] (.own none))) (hlt:acc.length<cap) (hcap:cap≤2^39):
  nappend Tryz.prog 39 39 (.slice (some (b,0)) acc.length cap none) (.slice (some (nb,0)) 1 1 none) h=some (.slice (some (b,0)) (acc.length+1) cap none,h.set b (room cap (acc++[c]))):=by
 have happ:appended Tryz.prog 5 1 39 (.slice (some (nb,0)) 1 1 none) h=some (1,[.int .u8 (c.toNat:Int)]):=by
  unfold appended
  rw[Tryz.underlying39]
  simp[nlenOf,srcCells,hn]
 have hset:setRange (u8s acc++List.replicate (cap-acc.length) (.int .u8 0)) acc.length [.int .u8 (c.toNat:Int)]=u8s (acc++[c])++List.replicate (cap-(acc++[c]).length) (.int .u8 0):=by
  obtain⟨k,hk⟩:∃k,cap-acc.length=k+1:=⟨cap-acc.length-1,by omega⟩
  have h1:cap-(acc++[c]).length=k:=by simp;omega
  have:=setRange_mid (u8s acc) [.int .u8 0] (List.replicate k (.int .u8 0)) [.int .u8 (c.toNat:Int)] rfl
  rw[u8s_len] at this
  rw[hk,h1,List.replicate_succ,←List.singleton_append,←List.append_assoc,this,u8s_append]
  rfl
 unfold nappend
 rw[Tryz.underlying39]
 simp only[sz5,by5,ze5,happ]
 rw[if_pos ⟨rfl,by decide,rfl⟩,if_pos ⟨rfl,rfl,by omega,by omega⟩,if_neg (by decide),if_pos (by omega),hb]
 unfold room
 simp only[Nat.mul_one,Nat.zero_add,hset]
 rw[if_pos (by rw[List.length_append,u8s_len,List.length_replicate];omega)]
noncomputable def lbA:Code:=inC (inC (atC (bodyOf Tryz.f146) 5))
noncomputable def lbB:Code:=inC (inC (atC (inC (atC lbA 2)) 2))
theorem byte_shr (w j:Nat) (hw:w<2^64) (hj:j<8) (t:TypeId):nbin Tryz.prog .shr t (.int .u64 (w:Int)) (.int .u64 ((8*j:Nat):Int))=some (.int .u64 ((w/2^(8*j):Nat):Int)):=by
 have e:nbin Tryz.prog .shr t (.int .u64 (w:Int)) (.int .u64 ((8*j:Nat):Int))=(if((8*j:Nat):Int)<0 then none else some (.int .u64 ((w:Int).fdiv (2^(min ((8*j:Nat):Int).toNat 64))))):=rfl
 rw[e,if_neg (by omega),Int.toNat_natCast,Nat.min_eq_left (by omega)]
 congr 2
 rw[Int.fdiv_eq_ediv_of_nonneg]
 ·push_cast
  rfl
 ·have:(0:Nat)<2^(8*j):=Nat.two_pow_pos _
  exact_mod_cast Nat.le_of_lt this
theorem loopB (w:Nat) (hw:w<2^64) (b cap:Nat) (pre:List UInt8) (hp:pre.length+8≤cap) (hcap:cap≤2^39) (hA:NHeap) (F0:Fr) (f8:F0 8=.int .u64 w) (Q:Out→Prop)
  (hQ:∀(h:NHeap) (F:Fr),Upd [b] hA h→h.get b=some (room cap (pre++wbytes w 8))→Keep [0,1,8,25,26,27] F0 F→F 6=.slice (some (b,0)) (pre.length+8) cap none→Q (some (.exit 2,toL 60 F,h))):
  ∀(f j:Nat) (h:NHeap) (F:Fr),j+f=8→Upd [b] hA h→h.get b=some (room cap (pre++wbytes w j))→Keep [0,1,8,25,26,27] F0 F→F 6=.slice (some (b,0)) (pre.length+j) cap none→F 31=.int .i64 j→Q (C env (.loop lbB) (toL 60 F) h):=by
 intro f
 induction f with
 |zero=>
  intro j h F hj u g kp f6 f31
  have:j=8:=by omega
  subst this
  rw[S_loop]
  conv=>arg 1;arg 2;arg 2;simp only[lbB,lbA,bodyOf,Option.getD_some,atC,seqL,inC,elC,List.nil_append,List.cons_append,List.getElem?_cons_succ,List.getElem?_cons_zero,Tryz.f146]
  simp only[go_sem,seval,f31]
  refine hQ h _ u g ?_ (by simp only[go_sem,seval,f6])
  repeat(first|exact kp|refine Keep.upd ?_ rfl)
 |succ f ih=>
  intro j h F hj u g kp f6 f31
  have f8':=(kp 8 rfl).trans f8
  have j1:(j:Int)<8:=by omega
  have w1:IntKind.i64.wrap ((j:Int)+1)=((j+1:Nat):Int):=by rw[wrap_i64_small (by omega) (by omega)];omega
  have w2:IntKind.i64.wrap (8*(j:Int))=((8*j:Nat):Int):=by rw[wrap_i64_small (by omega) (by omega)];omega
  have w3:IntKind.u64.wrap ((8*j:Nat):Int)=((8*j:Nat):Int):=wrap_u64_small (by omega) (by omega)
  have w4:IntKind.u8.wrap ((w/2^(8*j):Nat):Int)=(((wbyte w j).toNat:Nat):Int):=by
   rw[IntKind.wrap_u8,wbyte,UInt8.toNat_ofNat'];omega
  have sh:=byte_shr w j hw (by omega)
  obtain⟨H,hH⟩:∃H,h.alloc (.cells [.int .u8 (((wbyte w j).toNat:Nat):Int)] (.own none))=H:=⟨_,rfl⟩
  have gH:H.get h.next=some (.cells [.int .u8 (((wbyte w j).toNat:Nat):Int)] (.own none)):=by rw[←hH];simp[NHeap.get_alloc]
  have bl:=NHeap.get_lt g
  have gb:H.get b=some (room cap (pre++wbytes w j)):=by rw[←hH,NHeap.get_alloc,if_neg (by omega)];exact g
  have hlen:(pre++wbytes w j).length=pre.length+j:=by rw[List.length_append,wbytes_len]
  have ap:=app_room H b h.next cap (pre++wbytes w j) (wbyte w j) gb gH (by omega) hcap
  rw[hlen] at ap
  have hs:pre++wbytes w (j+1)=(pre++wbytes w j)++[wbyte w j]:=by rw[wbytes,List.append_assoc]
  rw[S_loop]
  conv=>arg 1;arg 2;arg 2;simp only[lbB,lbA,bodyOf,Option.getD_some,atC,seqL,inC,elC,List.nil_append,List.cons_append,List.getElem?_cons_succ,List.getElem?_cons_zero,Tryz.f146]
  simp only[go_sem,seval,f6,f8',f31,j1,w1,w2,w3,sh,w4,hH,ap]
  refine ih (j+1) _ _ (by omega) ?_ ?_ ?_ ?_ ?_
  ·rw[←hH];exact(u.alloc _).set (.inl (by simp)) _
  ·rw[hs];exact NHeap.get_set_same (NHeap.get_lt gb)
  ·repeat(first|exact kp|refine Keep.upd ?_ rfl)
  ·simp only[go_sem,seval,Nat.add_assoc]
  ·simp only[go_sem,seval]
theorem allBytes_append:∀a b,allBytes (a++b)=allBytes a++allBytes b
 |[],b=>rfl
 |w::a,b=>by rw[List.cons_append,allBytes,allBytes,allBytes_append a b,List.append_assoc]
theorem take_snoc {α:Type} (l:List α) (i:Nat) (a:α) (h:l[i]? =some a):l.take (i+1)=l.take i++[a]:=by
 rw[List.take_add_one,h];rfl
theorem loopA (hA:NHeap) (v:NVal) (ws:List Nat) (hv:Rw hA 1 U v ws) (hlt:∀w∈ws,w<2^64) (hl:ws.length<2^30) (b:Nat) (hb:hA.next≤b) (n:Int) (F0:Fr) (f0:F0 0=v) (f1:F0 1=.int .i64 n) (f25:F0 25=v) (f26:F0 26=.int .i64 ws.length) (Q:Out→Prop)
  (hQ:∀(h:NHeap) (F:Fr),Ext hA h→h.get b=some (room (8*ws.length) (allBytes ws))→Keep [0,1,25,26] F0 F→F 6=.slice (some (b,0)) (8*ws.length) (8*ws.length) none→Q (some (.exit 0,toL 60 F,h))):
  ∀(f i:Nat) (h:NHeap) (F:Fr),i+f=ws.length→Ext hA h→h.get b=some (room (8*ws.length) (allBytes (ws.take i)))→Keep [0,1,25,26] F0 F→F 6=.slice (some (b,0)) (8*i) (8*ws.length) none→F 27=.int .i64 i→Q (C env (.loop lbA) (toL 60 F) h):=by
 intro f
 induction f with
 |zero=>
  intro i h F hi hE g kp f6 f27
  have:i=ws.length:=by omega
  subst this
  have f26':=(kp 26 rfl).trans f26
  rw[List.take_length] at g
  rw[S_loop]
  conv=>arg 1;arg 2;arg 2;simp only[lbA,bodyOf,Option.getD_some,atC,seqL,inC,elC,List.nil_append,List.cons_append,List.getElem?_cons_succ,List.getElem?_cons_zero,Tryz.f146]
  simp only[go_sem,seval,f26',f27]
  refine hQ h _ hE g ?_ (by simp only[go_sem,seval,f6])
  repeat(first|exact kp|refine Keep.upd ?_ rfl)
 |succ f ih=>
  intro i h F hi hE g kp f6 f27
  have f25':=(kp 25 rfl).trans f25
  have f26':=(kp 26 rfl).trans f26
  obtain⟨w,hw⟩:∃w,ws[i]? =some w:=⟨ws[i]'(by omega),List.getElem?_eq_getElem (by omega)⟩
  obtain⟨vb,o,c',x',all,mm,hv',gA,row,hle⟩:=Sl.elem (f:=U) (k:=1) (fun _=>rfl) (hv.ext hE) hw
  have cell:=rowcell row (show(U w)[0]? =some (.int .u64 (w:Int)) from rfl)
  simp only[Nat.mul_one,Nat.add_zero] at cell
  rw[hv'] at f25'
  have i0:(0:Int)≤(i:Int):=by omega
  have i1:(i:Int)<(ws.length:Int):=by omega
  have w1:IntKind.i64.wrap ((i:Int)+1)=((i+1:Nat):Int):=by rw[wrap_i64_small (by omega) (by omega)];omega
  have al:(allBytes (ws.take i)).length=8*i:=by rw[allBytes_len,List.length_take];omega
  have hsn:allBytes (ws.take i)++wbytes w 8=allBytes (ws.take (i+1)):=by rw[take_snoc ws i w hw,allBytes_append];simp[allBytes]
  rw[S_loop]
  conv=>arg 1;arg 2;arg 2;simp only[lbA,bodyOf,Option.getD_some,atC,seqL,inC,elC,List.nil_append,List.cons_append,List.getElem?_cons_succ,List.getElem?_cons_zero,Tryz.f146]
  simp only[go_sem,seval,f25',f26',f27,i0,i1,gA,cell,Nat.mul_one,Nat.add_zero]
  have key:=fun F1 f8 r1 r2=>loopB w (hlt w (List.mem_of_getElem? hw)) b (8*ws.length) (allBytes (ws.take i)) (by rw[al];omega) (by omega) h F1 f8 (fun r=>Q (thenD env (thenD env (blockC 1 (blockC 2 r)) r1) r2))
  refine key _ ?_ _ _ ?_ 8 0 h _ (by omega) (Upd.refl _ _) ?_ (Keep.refl _ _) ?_ ?_
  ·simp only[go_sem,seval]
  ·intro h2 F2 u2 g2 kp2 f62
   have k0:=kp2 0 rfl
   have k1:=kp2 1 rfl
   have k25:=kp2 25 rfl
   have k26:=kp2 26 rfl
   have k27:=kp2 27 rfl
   simp only[go_sem,seval,f25',f26',f27] at k0 k1 k25 k26 k27
   simp only[go_sem,seval,k27,w1]
   refine ih (i+1) h2 _ (by omega) ?_ ?_ ?_ ?_ ?_
   ·exact Upd.ext ((Upd.of_ext hE).trans' u2 fun c hc=>.inr (by rw[List.mem_singleton] at hc;omega))
   ·rw[←hsn];exact g2
   ·intro k hk
    simp only[List.contains_cons,List.contains_nil,Bool.or_eq_true,beq_iff_eq,Bool.or_false,Bool.false_eq_true,or_false] at hk
    rcases hk with rfl|rfl|rfl|rfl
    ·simp only[go_sem,seval,k0];exact kp 0 rfl
    ·simp only[go_sem,seval,k1];exact kp 1 rfl
    ·simp only[go_sem,seval,k25,f25,hv']
    ·simp only[go_sem,seval,k26,f26]
   ·simp only[go_sem,seval,f62,al]
    try(congr 1)
   ·simp only[go_sem,seval]
  ·simp only[wbytes,List.append_nil];exact g
  ·simp only[go_sem,seval,f6,al,Nat.add_zero]
  ·simp only[go_sem,seval]
end pack
end Go.Proofs.YtkjpldganajkkaaGreatDoor.S
namespace Go.Proofs.YtkjpldganajkkaaGreatDoor.S
open Go Go.RowKit Go.Proofs.YtkjpldganajkkaaGreatDoor.NICE
namespace pack
abbrev UB (c:UInt8):List NVal:=[.int .u8 (c.toNat:Int)]
theorem u8s_rows:∀l,u8s l=rows UB l
 |[]=>rfl
 |c::l=>by rw[rows_cons,←u8s_rows l];rfl
def bytesF (ws:List Nat) (n:Int):List UInt8×Int:=if n<0∨8*(ws.length:Int)<n then([],1) else if((allBytes ws).drop n.toNat).any (fun c=>c !=0)=true then([],5) else((allBytes ws).take n.toNat,0)
noncomputable def lbD:Code:=inC (inC (atC (bodyOf Tryz.f146) 7))
theorem loopD (h:NHeap) (v:NVal) (l:List UInt8) (hv:Rw h 1 UB v l) (hl:l.length<2^40) (F0:Fr) (f47:F0 47=v) (f48:F0 48=.int .i64 l.length) (R:Bool) (Q:Out→Prop)
  (hQ1:∀(F:Fr),R=true→F 4=.str []→F 5=.int .i64 5→Q (some (.ret,toL 60 F,h)))
  (hQ2:∀(F:Fr),R=false→Keep [0,1,6,47,48] F0 F→Q (some (.exit 4,toL 60 F,h))):
  ∀(f i:Nat) (F:Fr),i+f=l.length→(l.drop i).any (fun c=>c !=0)=R→Keep [0,1,6,47,48] F0 F→F 49=.int .i64 i→Q (C env (.loop lbD) (toL 60 F) h):=by
 intro f
 induction f with
 |zero=>
  intro i F hi hr kp f49
  have:i=l.length:=by omega
  subst this
  have f48':=(kp 48 rfl).trans f48
  rw[List.drop_length] at hr
  rw[S_loop]
  conv=>arg 1;arg 2;arg 2;simp only[lbD,bodyOf,Option.getD_some,atC,seqL,inC,elC,List.nil_append,List.cons_append,List.getElem?_cons_succ,List.getElem?_cons_zero,Tryz.f146]
  simp only[go_sem,seval,f48',f49]
  refine hQ2 _ hr.symm ?_
  repeat(first|exact kp|refine Keep.upd ?_ rfl)
 |succ f ih=>
  intro i F hi hr kp f49
  have f47':=(kp 47 rfl).trans f47
  have f48':=(kp 48 rfl).trans f48
  obtain⟨c,hc⟩:∃c,l[i]? =some c:=⟨l[i]'(by omega),List.getElem?_eq_getElem (by omega)⟩
  obtain⟨vb,o,c',x',all,mm,hv',gA,row,hle⟩:=Sl.elem (f:=UB) (k:=1) (fun _=>rfl) hv hc
  have cell:=rowcell row (show(UB c)[0]? =some (.int .u8 (c.toNat:Int)) from rfl)
  simp only[Nat.mul_one,Nat.add_zero] at cell
  rw[hv'] at f47'
  have i0:(0:Int)≤(i:Int):=by omega
  have i1:(i:Int)<(l.length:Int):=by omega
  have w1:IntKind.i64.wrap ((i:Int)+1)=((i+1:Nat):Int):=by rw[wrap_i64_small (by omega) (by omega)];omega
  have hd:l.drop i=c::l.drop (i+1):=by
   rw[List.drop_eq_getElem_cons (by omega)]
   congr 1
   rw[List.getElem?_eq_getElem (by omega)] at hc
   exact Option.some.inj hc
  rw[hd,List.any_cons] at hr
  by_cases hz:c=0
  ·have z:((c.toNat:Nat):Int)=0:=by rw[hz];rfl
   have zd:decide (((c.toNat:Nat):Int)=0)=true:=decide_eq_true z
   rw[hz] at hr
   rw[S_loop]
   conv=>arg 1;arg 2;arg 2;simp only[lbD,bodyOf,Option.getD_some,atC,seqL,inC,elC,List.nil_append,List.cons_append,List.getElem?_cons_succ,List.getElem?_cons_zero,Tryz.f146]
   simp only[go_sem,seval,f47',f48',f49,i0,i1,gA,cell,zd,w1,Nat.mul_one,Nat.add_zero]
   refine ih (i+1) _ (by omega) (by simpa using hr) ?_ (by simp only[go_sem,seval])
   repeat(first|exact kp|refine Keep.upd ?_ rfl)
  ·have z:¬((c.toNat:Nat):Int)=0:=fun q=>hz (UInt8.toNat_inj.1 (by show c.toNat=0;omega))
   have hR:R=true:=by rw[←hr];simp[hz]
   rw[S_loop]
   conv=>arg 1;arg 2;arg 2;simp only[lbD,bodyOf,Option.getD_some,atC,seqL,inC,elC,List.nil_append,List.cons_append,List.getElem?_cons_succ,List.getElem?_cons_zero,Tryz.f146]
   simp only[go_sem,seval,f47',f48',f49,i0,i1,gA,cell,z,Nat.mul_one,Nat.add_zero]
   exact hQ1 _ hR (by simp only[go_sem,seval]) (by simp only[go_sem,seval])
theorem rep_bytes:∀n,repeatCells [NVal.int .u8 0] n=List.replicate n (.int .u8 0)
 |0=>rfl
 |n+1=>by
  rw[List.replicate_succ,←rep_bytes n]
  rfl
theorem room_full (l:List UInt8):room l.length l=.cells (u8s l) (.own none):=by unfold room;simp
theorem Bytes_K (h:NHeap) (v:NVal) (ws:List Nat) (hv:Rw h 1 U v ws) (hlt:∀w∈ws,w<2^64) (hl:ws.length<2^30) (n:Int):∃h',K env 146 [v,.int .i64 n] h=some (.tuple [.str (bytesF ws n).1,.int .i64 (bytesF ws n).2],h')∧Ext h h':=by
 obtain⟨vb,vc,vx,hvv⟩:=hv.form
 have w8:IntKind.i64.wrap (8*(ws.length:Int))=8*(ws.length:Int):=wrap_i64_small (by omega) (by omega)
 rw[hvv,k146 _ _ (by simp)]
 by_cases p1:n<0
 ·refine⟨h,?_,Ext.refl _⟩
  rw[bytesF,if_pos (.inl p1)]
  simp only[bodyOf,Option.getD_some,go_sem,seval,Tryz.f146,p1]
 by_cases p2:8*(ws.length:Int)<n
 ·refine⟨h,?_,Ext.refl _⟩
  rw[bytesF,if_pos (.inr p2)]
  simp only[bodyOf,Option.getD_some,go_sem,seval,Tryz.f146,p1,p2,w8]
 rw[bytesF,if_neg (by omega)]
 obtain⟨m,rfl⟩:∃m:Nat,n=(m:Int):=⟨n.toNat,by omega⟩
 rw[Int.toNat_natCast]
 have cap0:(0:Int)≤8*(ws.length:Int):=by omega
 have cap1:8*(ws.length:Int)≤1099511627776:=by omega
 have capn:(8*(ws.length:Int)).toNat=8*ws.length:=by omega
 have al:(allBytes ws).length=8*ws.length:=by rw[allBytes_len];omega
 simp only[bodyOf,Option.getD_some,go_sem,seval,Tryz.f146,p1,p2,w8,cap0,cap1,capn,rep_bytes,Int.mul_one]
 have key:=fun F f0 f1 f25 f26 rest=>loopA h v ws hv hlt hl h.next (Nat.le_refl _) (m:Int) F f0 f1 f25 f26 (fun r=>∃h',outF Tryz.prog [.tmp 4,.tmp 5] (thenD env (blockC 0 r) rest)=some (.tuple [.str (if((allBytes ws).drop m).any (fun c=>c !=0)=true then(([],5):List UInt8×Int) else((allBytes ws).take m,0)).1,.int .i64 (if((allBytes ws).drop m).any (fun c=>c !=0)=true then(([],5):List UInt8×Int) else((allBytes ws).take m,0)).2],h')∧Ext h h')
 refine key _ ?_ ?_ ?_ ?_ _ ?_ ws.length 0 _ _ (by omega) ((Ext.refl h).alloc _) ?_ (Keep.refl _ _) ?_ ?_
 ·simp only[go_sem,seval,hvv]
 ·simp only[go_sem,seval]
 ·simp only[go_sem,seval,hvv]
 ·simp only[go_sem,seval]
 ·intro h' F hE g kp f6
  have k1:=kp 1 rfl
  simp only[go_sem,seval] at k1
  rw[←al,room_full] at g
  have sA:Sl h' 1 (.slice (some (h.next,0)) (8*ws.length) (8*ws.length) none) (8*ws.length) (u8s (allBytes ws)):=Sl.whole g (by rw[u8s_len,al,Nat.mul_one]) (Nat.le_refl _) (.inl rfl)
  obtain⟨v2,e2,s2⟩:=Sl.drop (P:=Tryz.prog) sA Tryz.underlying39 sz5 .i64 m (by omega)
  have hl2:((allBytes ws).drop m).length=8*ws.length-m:=by rw[List.length_drop,al]
  rw[u8s_rows,rows_drop (f:=UB) (k:=1) (fun _=>rfl),←hl2] at s2
  obtain⟨b2,c2,x2,hv2⟩:=s2.form
  have e3:nslice Tryz.prog 39 (.slice (some (h.next,0)) (8*ws.length) (8*ws.length) none) none (some (.int .i64 (m:Int)))=some (.slice (some (h.next,0)) m (8*ws.length) none):=by
   simp only[nslice,nbound,Tryz.underlying39,sz5,Int.toNat_natCast]
   rw[if_pos (by omega)]
   simp only[Nat.zero_mul,Nat.add_zero,ite_self,Nat.sub_zero]
  have tk:(u8s (allBytes ws)).take m=u8s ((allBytes ws).take m):=by
   have:=rows_take (f:=UB) (k:=1) (fun _=>rfl) (allBytes ws) m
   rw[Nat.mul_one,←u8s_rows,←u8s_rows] at this
   exact this
  have ml:m≤(u8s (allBytes ws)).length:=by rw[u8s_len,al];omega
  rw[hv2] at e2
  simp only[go_sem,seval,f6,k1,e2]
  have key2:=fun F1 q47 q48 R rest=>loopD h' v2 ((allBytes ws).drop m) s2 (by rw[hl2];omega) F1 q47 q48 R (fun r=>∃h',outF Tryz.prog [.tmp 4,.tmp 5] (thenD env (blockC 4 r) rest)=some (.tuple [.str (if((allBytes ws).drop m).any (fun c=>c !=0)=true then(([],5):List UInt8×Int) else((allBytes ws).take m,0)).1,.int .i64 (if((allBytes ws).drop m).any (fun c=>c !=0)=true then(([],5):List UInt8×Int) else((allBytes ws).take m,0)).2],h')∧Ext h h')
  refine key2 _ ?_ ?_ (((allBytes ws).drop m).any (fun c=>c !=0)) _ ?_ ?_ ((allBytes ws).drop m).length 0 _ (by omega) (by simp) (Keep.refl _ _) ?_
  ·simp only[go_sem,seval,hv2]
  ·simp only[go_sem,seval]
  ·intro F2 hR f4 f5
   refine⟨h',?_,hE⟩
   rw[hR,if_pos rfl]
   simp only[go_sem,seval,f4,f5]
  ·intro F2 hR kp2
   have q6:=kp2 6 rfl
   have q1:=kp2 1 rfl
   simp only[go_sem,seval,f6,k1] at q6 q1
   refine⟨h',?_,hE⟩
   rw[hR,if_neg (by decide)]
   simp only[go_sem,seval,q6,q1,e3,kStr,g,ml,List.drop_zero,tk,u8s_bytes]
  ·simp only[go_sem,seval]
 ·simp only[NHeap.get_alloc,if_true,List.take_zero]
  unfold room allBytes
  simp[u8s]
 ·simp only[go_sem,seval]
 ·simp only[go_sem,seval]
end pack
end Go.Proofs.YtkjpldganajkkaaGreatDoor.S
namespace Go.Proofs.YtkjpldganajkkaaGreatDoor.S
open Go Go.RowKit Go.Proofs.YtkjpldganajkkaaGreatDoor.NICE
namespace node
open pack
def xStep (l:List UInt8) (ws:List Nat) (i:Nat):List Nat:=ws.set ((l.getD i 0).toNat/8) (ws.getD ((l.getD i 0).toNat/8) 0|||(i+1)*2^(8*((l.getD i 0).toNat%8)))
def indexTo (l:List UInt8):Nat→List Nat
 |0=>List.replicate 32 0
 |i+1=>xStep l (indexTo l i) i
def indexF (l:List UInt8):List Nat:=indexTo l l.length
theorem indexTo_len (l:List UInt8):∀i,(indexTo l i).length=32
 |0=>by simp[indexTo]
 |i+1=>by simp[indexTo,xStep,indexTo_len l i]
theorem nat_shift (b:Nat) (hb:b<256) (j:Nat) (hj:j<8):b*2^(8*j)<2^64:=by
 have h2:b*2^(8*j)<2^8*2^(8*j):=Nat.mul_lt_mul_of_pos_right hb (Nat.two_pow_pos _)
 rw[←Nat.pow_add] at h2
 exact Nat.lt_of_lt_of_le h2 (Nat.pow_le_pow_right (by decide) (by omega))
theorem indexTo_lt (l:List UInt8):∀i,i≤255→∀w∈indexTo l i,w<2^64
 |0,_,w,h=>by
  rw[indexTo] at h
  rw[(List.mem_replicate.1 h).2];decide
 |i+1,hi,w,h=>by
  rw[indexTo,xStep] at h
  rcases List.mem_or_eq_of_mem_set h with h|rfl
  ·exact indexTo_lt l i (by omega) w h
  ·refine Nat.or_lt_two_pow ?_ (nat_shift _ (by omega) _ (Nat.mod_lt _ (by decide)))
   by_cases q:(l.getD i 0).toNat/8<(indexTo l i).length
   ·have:(indexTo l i).getD ((l.getD i 0).toNat/8) 0∈indexTo l i:=by rw[List.getD,List.getElem?_eq_getElem q];exact List.getElem_mem q
    exact indexTo_lt l i (by omega) _ this
   ·rw[List.getD,List.getElem?_eq_none (by omega)];decide
theorem shl_u64b {P:Program} (t:TypeId) (a j:Nat) (hj:j≤63) (h:a*2^j<2^64):nbin P .shl t (.int .u64 (a:Int)) (.int .u8 (j:Int))=some (.int .u64 ((a*2^j:Nat):Int)):=by
 have e:nbin P .shl t (.int .u64 (a:Int)) (.int .u8 (j:Int))=(if(j:Int)<0 then none else some (.int .u64 (IntKind.u64.wrap ((a:Int)*2^(min (j:Int).toNat 64))))):=rfl
 rw[e,if_neg (by omega),Int.toNat_natCast,Nat.min_eq_left (by omega)]
 have h2:((a:Int)*2^j)=((a*2^j:Nat):Int):=by push_cast;rfl
 rw[h2,wrap_u64_small (by omega) (by omega)]
noncomputable def lbX:Code:=inC (inC (atC (bodyOf Tryz.f69) 3))
theorem loopX (hA:NHeap) (v:NVal) (l:List UInt8) (hv:Rw hA 1 UB v l) (hl:l.length≤255) (b:Nat) (hb:hA.next≤b) (F0:Fr) (f7:F0 7=v) (f8:F0 8=.int .i64 l.length) (f3:F0 3=.slice (some (b,0)) 32 32 none) (Q:Out→Prop)
  (hQ:∀(h:NHeap) (F:Fr),Ext hA h→h.get b=some (.cells (rows U (indexF l)) (.own none))→F 3=.slice (some (b,0)) 32 32 none→Q (some (.exit 0,toL 30 F,h))):
  ∀(f i:Nat) (h:NHeap) (F:Fr),i+f=l.length→Ext hA h→h.get b=some (.cells (rows U (indexTo l i)) (.own none))→Keep [3,7,8] F0 F→F 9=.int .i64 i→Q (C env (.loop lbX) (toL 30 F) h):=by
 intro f
 induction f with
 |zero=>
  intro i h F hi hE g kp f9
  have:i=l.length:=by omega
  subst this
  have f3':=(kp 3 rfl).trans f3
  have f8':=(kp 8 rfl).trans f8
  rw[S_loop]
  conv=>arg 1;arg 2;arg 2;simp only[lbX,bodyOf,Option.getD_some,atC,seqL,inC,elC,List.nil_append,List.cons_append,List.getElem?_cons_succ,List.getElem?_cons_zero,Tryz.f69]
  simp only[go_sem,seval,f8',f9]
  exact hQ h _ hE g (by simp only[go_sem,seval,f3'])
 |succ f ih=>
  intro i h F hi hE g kp f9
  have f3':=(kp 3 rfl).trans f3
  have f7':=(kp 7 rfl).trans f7
  have f8':=(kp 8 rfl).trans f8
  obtain⟨c,hc⟩:∃c,l[i]? =some c:=⟨l[i]'(by omega),List.getElem?_eq_getElem (by omega)⟩
  have hcd:l.getD i 0=c:=by rw[List.getD,hc];rfl
  obtain⟨vb,o,c',x',all,mm,hv',gA,row,hle⟩:=Sl.elem (f:=UB) (k:=1) (fun _=>rfl) (hv.ext hE) hc
  have cell:=rowcell row (show(UB c)[0]? =some (.int .u8 (c.toNat:Int)) from rfl)
  simp only[Nat.mul_one,Nat.add_zero] at cell
  rw[hv'] at f7'
  have wl:=indexTo_len l i
  have hcl:=c.toNat_lt
  have hj:c.toNat/8<(indexTo l i).length:=by omega
  obtain⟨w,hw⟩:∃w,(indexTo l i)[c.toNat/8]? =some w:=⟨_,List.getElem?_eq_getElem hj⟩
  have hwd:(indexTo l i).getD (c.toNat/8) 0=w:=by rw[List.getD,hw];rfl
  have hwl:w<2^64:=indexTo_lt l i (by omega) w (List.mem_of_getElem? hw)
  have cell2:=rowcell (rows_at (f:=U) (k:=1) (fun _=>rfl) (indexTo l i) (c.toNat/8) w hw) (show(U w)[0]? =some (.int .u64 (w:Int)) from rfl)
  simp only[Nat.mul_one,Nat.add_zero] at cell2
  have i0:(0:Int)≤(i:Int):=by omega
  have i1:(i:Int)<(l.length:Int):=by omega
  have q8:((c.toNat:Nat):Int).tdiv 8=((c.toNat/8:Nat):Int):=rfl
  have r8:((c.toNat:Nat):Int).tmod 8=((c.toNat%8:Nat):Int):=rfl
  have w1:IntKind.i64.wrap ((i:Int)+1)=((i+1:Nat):Int):=by rw[wrap_i64_small (by omega) (by omega)];omega
  have w2:IntKind.u8.wrap ((c.toNat/8:Nat):Int)=((c.toNat/8:Nat):Int):=by rw[IntKind.wrap_u8];omega
  have w3:IntKind.u8.wrap (8*((c.toNat%8:Nat):Int))=((8*(c.toNat%8):Nat):Int):=by rw[IntKind.wrap_u8];omega
  have w4:IntKind.u64.wrap ((i+1:Nat):Int)=((i+1:Nat):Int):=wrap_u64_small (by omega) (by omega)
  have sh:=fun t=>shl_u64b (P:=Tryz.prog) t (i+1) (8*(c.toNat%8)) (by omega) (nat_shift (i+1) (by omega) _ (Nat.mod_lt _ (by decide)))
  have so:=fun t=>or_u64 (P:=Tryz.prog) t w ((i+1)*2^(8*(c.toNat%8))) hwl (nat_shift (i+1) (by omega) _ (Nat.mod_lt _ (by decide)))
  have j0:(0:Int)≤((c.toNat/8:Nat):Int):=by omega
  have j1:((c.toNat/8:Nat):Int)<32:=by omega
  have j2:((c.toNat/8:Nat):Int)<((32:Nat):Int):=by omega
  have hst:setRange (rows U (indexTo l i)) (c.toNat/8) (U (w|||(i+1)*2^(8*(c.toNat%8))))=rows U (indexTo l (i+1)):=by
   have:=rows_set (f:=U) (k:=1) (fun _=>rfl) (indexTo l i) (c.toNat/8) (w|||(i+1)*2^(8*(c.toNat%8))) hj
   rw[Nat.mul_one] at this
   rw[this,indexTo,xStep,hcd,hwd]
  have rl:c.toNat/8+1≤(rows U (indexTo l i)).length:=by rw[rows_len (k:=1) (fun _=>rfl)];omega
  rw[S_loop]
  conv=>arg 1;arg 2;arg 2;simp only[lbX,bodyOf,Option.getD_some,atC,seqL,inC,elC,List.nil_append,List.cons_append,List.getElem?_cons_succ,List.getElem?_cons_zero,Tryz.f69]
  simp only[go_sem,seval,f3',f7',f8',f9,i0,i1,gA,cell,bin_quo,bin_rem,q8,r8,w1,w2,w3,w4,j0,j1,j2,g,cell2,sh,so,Nat.zero_add,Nat.mul_one,Nat.add_zero,hst,rl]
  refine ih (i+1) _ _ (by omega) (hE.set hb _) (NHeap.get_set_same (NHeap.get_lt g)) ?_ (by simp only[go_sem,seval])
  repeat(first|exact kp|refine Keep.upd ?_ rfl)
theorem index_K (h:NHeap) (v:NVal) (l:List UInt8) (hv:Rw h 1 UB v l) (hl:l.length≤255):∃h',K env 69 [v] h=some (.slice (some (h.next,0)) 32 32 none,h')∧Ext h h'∧h'.get h.next=some (.cells (rows U (indexF l)) (.own none)):=by
 obtain⟨vb,vc,vx,hvv⟩:=hv.form
 have mk:(repeatCells [NVal.int .u64 0] 32)=rows U (indexTo l 0):=rep_rows _
 rw[hvv,k69 _ _ (by simp)]
 simp only[bodyOf,Option.getD_some,go_sem,seval,Tryz.f69,mk]
 have key:=fun F q7 q8 q3 rest=>loopX h v l hv hl h.next (Nat.le_refl _) F q7 q8 q3 (fun r=>∃h',outF Tryz.prog [.tmp 2] (thenD env (blockC 0 r) rest)=some (.slice (some (h.next,0)) 32 32 none,h')∧Ext h h'∧h'.get h.next=some (.cells (rows U (indexF l)) (.own none)))
 refine key _ ?_ ?_ ?_ _ ?_ l.length 0 _ _ (by omega) ((Ext.refl h).alloc _) ?_ (Keep.refl _ _) ?_
 ·simp only[go_sem,seval,hvv]
 ·simp only[go_sem,seval]
 ·simp only[go_sem,seval]
 ·intro h' F hE g f3
  refine⟨h',?_,hE,g⟩
  simp only[go_sem,seval,f3]
 ·simp only[NHeap.get_alloc,if_true]
 ·simp only[go_sem,seval]
end node
end Go.Proofs.YtkjpldganajkkaaGreatDoor.S
namespace Go.Proofs.YtkjpldganajkkaaGreatDoor.S
open Go Go.RowKit Go.Proofs.YtkjpldganajkkaaGreatDoor.NICE
namespace made
theorem idx_K (s:List UInt8) (h:NHeap):K env 189 [.str s,.int .u8 0] h=some (.int .i64 (nfirst 0 s 0),h):=K_known (idxEnv (by simp[idxKnown]))
theorem first_neg (c:UInt8):∀(s:List UInt8) (n:Nat),decide (nfirst c s n<0)=s.all (fun x=>!(x==c))
 |[],n=>by simp[nfirst]
 |x::l,n=>by
  unfold nfirst
  rw[List.all_cons,←first_neg c l (n+1)]
  by_cases h:x=c
  ·subst h;simp
  ·have:(x==c)=false:=by simpa using h
   simp[this]
def rightT (s:List UInt8):Bool:=decide (1≤s.length)&&(decide (s.length≤12)&&s.all (fun x=>!(x==0)))
theorem right_K (s:List UInt8) (h:NHeap):K env 127 [.str s] h=some (.bool (rightT s),h):=by
 have hf:=first_neg 0 s 0
 by_cases h0:s=[]
 ·subst h0
  simp only[k127,Tryz.f127,bodyOf,Option.getD_some,go_sem,seval]
  rfl
 ·have h1:(s==[])=false:=by simpa using h0
  have h2:1≤s.length:=List.length_pos_iff.2 h0
  by_cases h3:(s.length:Int)≤12
  ·have h4:s.length≤12:=by omega
   simp only[k127,Tryz.f127,k160,Tryz.f160,k176,Tryz.f176,idx_K,h1,h3,hf,bodyOf,Option.getD_some,go_sem,seval]
   simp[rightT,h2,h4]
  ·have h4:¬s.length≤12:=by omega
   simp only[k127,Tryz.f127,k160,Tryz.f160,k176,Tryz.f176,idx_K,h1,h3,hf,bodyOf,Option.getD_some,go_sem,seval]
   simp[rightT,h2,h4]
end made
namespace term
open made
theorem Key_K (s:List UInt8) (h:NHeap):K env 128 [.str s] h=some (.str (if rightT s then s++[0] else[]),h):=by
 have r:=right_K s h
 rw[k128 _ _ (by simp)]
 cases hr:rightT s with
 |false=>
  rw[hr] at r
  simp only[bodyOf,Option.getD_some,go_sem,seval,Tryz.f128,r]
  try rfl
 |true=>
  rw[hr] at r
  have hl:s.length≤12:=by simp[rightT] at hr;exact hr.2.1
  have ha:=str_add (P:=Tryz.prog) 9 s [0] (by simp;omega)
  simp only[bodyOf,Option.getD_some,go_sem,seval,Tryz.f128,r,ha]
  try rfl
end term
end Go.Proofs.YtkjpldganajkkaaGreatDoor.S
namespace Go.Proofs.YtkjpldganajkkaaGreatDoor.S
open Go Go.RowKit Go.Proofs.YtkjpldganajkkaaGreatDoor.NICE
namespace term
open made
def ofF (s:List UInt8):List UInt8×Bool:=match s.getLast? with
 |some c=>if c=0∧rightT s.dropLast=true then(s.dropLast,true) else([],false)
 |none=>([],false)
end term
namespace node
def rightLeafF (k:List UInt8) (v:Int):Bool:=(term.ofF k).2&&(decide (0≤v)&&decide (v≤1099511627776))
end node
end Go.Proofs.YtkjpldganajkkaaGreatDoor.S
namespace Go.Proofs.YtkjpldganajkkaaGreatDoor.S
open Go Go.RowKit Go.Proofs.YtkjpldganajkkaaGreatDoor.NICE
namespace node
open pack
def leafW (k:List UInt8) (v:Int):List Nat:=match wordsF k with
 |[a]=>[0,k.length*256,a,0,v.toNat,0,0,0]
 |[a,b]=>[0,k.length*256,a,b,v.toNat,0,0,0]
 |_=>[]
end node
end Go.Proofs.YtkjpldganajkkaaGreatDoor.S
namespace Go.Proofs.YtkjpldganajkkaaGreatDoor.S
open Go Go.RowKit Go.Proofs.YtkjpldganajkkaaGreatDoor.NICE
namespace node
open pack
noncomputable def lbE:Code:=inC (inC (atC (bodyOf Tryz.f147) 4))
theorem loopE (h:NHeap) (v1 v2:NVal) (l m:List Nat) (s1:Rw h 1 U v1 l) (s2:Rw h 1 U v2 m) (hm:m.length=l.length) (hl:l.length<2^40) (F0:Fr) (f0:F0 0=v1) (f1:F0 1=v2) (f12:F0 12=.int .i64 l.length) (R:Bool) (Q:Out→Prop)
  (hQ1:∀(F:Fr),R=false→F 4=.bool false→Q (some (.ret,toL 26 F,h)))
  (hQ2:∀(F:Fr),R=true→Q (some (.exit 0,toL 26 F,h))):
  ∀(f i:Nat) (F:Fr),i+f=l.length→decide (l.drop i=m.drop i)=R→Keep [0,1,12] F0 F→F 13=.int .i64 i→Q (C env (.loop lbE) (toL 26 F) h):=by
 intro f
 induction f with
 |zero=>
  intro i F hi hr kp f13
  have:i=l.length:=by omega
  subst this
  have f12':=(kp 12 rfl).trans f12
  have hR:R=true:=by rw[←hr,List.drop_length,←hm,List.drop_length];rfl
  rw[S_loop]
  conv=>arg 1;arg 2;arg 2;simp only[lbE,bodyOf,Option.getD_some,atC,seqL,inC,elC,List.nil_append,List.cons_append,List.getElem?_cons_succ,List.getElem?_cons_zero,Tryz.f147]
  simp only[go_sem,seval,f12',f13]
  exact hQ2 _ hR
 |succ f ih=>
  intro i F hi hr kp f13
  have f0':=(kp 0 rfl).trans f0
  have f1':=(kp 1 rfl).trans f1
  have f12':=(kp 12 rfl).trans f12
  obtain⟨a,ha⟩:∃a,l[i]? =some a:=⟨l[i]'(by omega),List.getElem?_eq_getElem (by omega)⟩
  obtain⟨b,hb⟩:∃b,m[i]? =some b:=⟨m[i]'(by omega),List.getElem?_eq_getElem (by omega)⟩
  obtain⟨b1,o1,c1,x1,all1,q1,hv1,g1,r1,le1⟩:=Sl.elem (f:=U) (k:=1) (fun _=>rfl) s1 ha
  obtain⟨b2,o2,c2,x2,all2,q2,hv2,g2,r2,le2⟩:=Sl.elem (f:=U) (k:=1) (fun _=>rfl) s2 hb
  have cell1:=rowcell r1 (show(U a)[0]? =some (.int .u64 (a:Int)) from rfl)
  have cell2:=rowcell r2 (show(U b)[0]? =some (.int .u64 (b:Int)) from rfl)
  simp only[Nat.mul_one,Nat.add_zero] at cell1 cell2
  rw[hv1] at f0'
  rw[hv2,hm] at f1'
  have i0:(0:Int)≤(i:Int):=by omega
  have i1:(i:Int)<(l.length:Int):=by omega
  have w1:IntKind.i64.wrap ((i:Int)+1)=((i+1:Nat):Int):=by rw[wrap_i64_small (by omega) (by omega)];omega
  have da:l.drop i=a::l.drop (i+1):=by
   rw[List.drop_eq_getElem_cons (by omega)]
   congr 1
   rw[List.getElem?_eq_getElem (by omega)] at ha
   exact Option.some.inj ha
  have db:m.drop i=b::m.drop (i+1):=by
   rw[List.drop_eq_getElem_cons (by omega)]
   congr 1
   rw[List.getElem?_eq_getElem (by omega)] at hb
   exact Option.some.inj hb
  rw[da,db] at hr
  by_cases hab:a=b
  ·have z:((a:Nat):Int)=((b:Nat):Int):=by rw[hab]
   have zd:decide (((a:Nat):Int)=((b:Nat):Int))=true:=decide_eq_true z
   rw[S_loop]
   conv=>arg 1;arg 2;arg 2;simp only[lbE,bodyOf,Option.getD_some,atC,seqL,inC,elC,List.nil_append,List.cons_append,List.getElem?_cons_succ,List.getElem?_cons_zero,Tryz.f147]
   simp only[go_sem,seval,f0',f1',f12',f13,i0,i1,g1,g2,cell1,cell2,zd,w1,Nat.mul_one,Nat.add_zero]
   refine ih (i+1) _ (by omega) (by rw[←hr];simp[hab]) ?_ (by simp only[go_sem,seval])
   repeat(first|exact kp|refine Keep.upd ?_ rfl)
  ·have z:¬((a:Nat):Int)=((b:Nat):Int):=by omega
   have hR:R=false:=by rw[←hr];simp[hab]
   rw[S_loop]
   conv=>arg 1;arg 2;arg 2;simp only[lbE,bodyOf,Option.getD_some,atC,seqL,inC,elC,List.nil_append,List.cons_append,List.getElem?_cons_succ,List.getElem?_cons_zero,Tryz.f147]
   simp only[go_sem,seval,f0',f1',f12',f13,i0,i1,g1,g2,cell1,cell2,z,Nat.mul_one,Nat.add_zero]
   exact hQ1 _ hR (by simp only[go_sem,seval])
theorem Equal_K (h:NHeap) (v1 v2:NVal) (l m:List Nat) (s1:Rw h 1 U v1 l) (s2:Rw h 1 U v2 m) (hl:l.length<2^40) (hl2:m.length<2^40):K env 147 [v1,v2] h=some (.bool (decide (l=m)),h):=by
 obtain⟨b1,c1,x1,hv1⟩:=s1.form
 obtain⟨b2,c2,x2,hv2⟩:=s2.form
 rw[k147 _ _ (by simp)]
 by_cases hm:m.length=l.length
 ·have hmd:decide ((l.length:Int)=(m.length:Int))=true:=decide_eq_true (by omega)
  simp only[bodyOf,Option.getD_some,go_sem,seval,Tryz.f147,hv1,hv2,hmd]
  have key:=fun F q0 q1 q12 rest=>loopE h v1 v2 l m s1 s2 hm hl F q0 q1 q12 (decide (l=m)) (fun r=>outF Tryz.prog [.tmp 4] (thenD env (blockC 0 r) rest)=some (.bool (decide (l=m)),h))
  refine key _ ?_ ?_ ?_ _ ?_ ?_ l.length 0 _ (by omega) (by simp) (Keep.refl _ _) ?_
  ·simp only[go_sem,seval,hv1]
  ·simp only[go_sem,seval,hv2]
  ·simp only[go_sem,seval]
  ·intro F hR f4
   simp only[go_sem,seval,f4,hR]
  ·intro F hR
   simp only[go_sem,seval,hR]
  ·simp only[go_sem,seval]
 ·have hmd:¬(l.length:Int)=(m.length:Int):=by omega
  have hne:decide (l=m)=false:=decide_eq_false (fun q=>hm (by rw[q]))
  rw[hne]
  simp only[bodyOf,Option.getD_some,go_sem,seval,Tryz.f147,hv1,hv2,hmd]
end node
end Go.Proofs.YtkjpldganajkkaaGreatDoor.S
namespace Go.Proofs.YtkjpldganajkkaaGreatDoor.NICE
open Go Go.RowKit
variable {P:Program}
theorem nslice_both {t e sz:Nat} (hu:P.underlying t=some (.slice e)) (hs:szOf P e=some sz) (k k':IntKind) (bo:Option (Nat×Nat)) (n c:Nat) (x:Option Nat) (hx:x=none∨x=some sz) (hn:n≤c) (h0:bo=none→n=0) (i j:Nat) (hij:i≤j) (hj:j≤n):
  nslice P t (.slice bo n c x) (some (.int k (i:Int))) (some (.int k' (j:Int)))=(match nslice P t (.slice bo n c x) none (some (.int k' (j:Int))) with|some v1=>nslice P t v1 (some (.int k (i:Int))) none|none=>none):=by
 have c1:0≤(j:Int)∧(j:Int)≤(c:Int):=by omega
 have c2:0≤(i:Int)∧(i:Int)≤(j:Int):=by omega
 cases bo with
 |none=>
  have hz:=h0 rfl
  subst hz
  have:j=0:=by omega
  subst this
  have:i=0:=by omega
  subst this
  simp[nslice,nbound,hu,hs]
 |some a=>
  obtain⟨b,o⟩:=a
  rcases hx with rfl|rfl
  ·have e1:nslice P t (.slice (some (b,o)) n c none) none (some (.int k' (j:Int)))=some (.slice (some (b,o)) j c none):=by
    simp only[nslice,nbound,hu,hs,Int.toNat_natCast]
    rw[if_pos (by omega)]
    simp only[Nat.zero_mul,Nat.add_zero,ite_self,Nat.sub_zero]
   rw[e1]
   simp only[nslice,nbound,hu,hs,Int.toNat_natCast,if_pos c1,if_pos c2]
  ·by_cases hq:0<max c n
   ·have e1:nslice P t (.slice (some (b,o)) n c (some sz)) none (some (.int k' (j:Int)))=some (.slice (some (b,o)) j c (some sz)):=by
     simp only[nslice,nbound,hu,hs,Int.toNat_natCast]
     rw[if_pos (by omega)]
     simp only[if_true,hq,Nat.zero_mul,Nat.add_zero,Nat.sub_zero]
    rw[e1]
    simp only[nslice,nbound,hu,hs,Int.toNat_natCast,if_pos c1,if_pos c2,if_true,show max c n=max c j by omega]
   ·have:c=0:=by omega
    subst this
    have:n=0:=by omega
    subst this
    have:j=0:=by omega
    subst this
    have:i=0:=by omega
    subst this
    simp[nslice,nbound,hu,hs]
theorem Sl.sub {h:NHeap} {sz n:Nat} {v cs} (s:Sl h sz v n cs) {t e:TypeId} (hu:P.underlying t=some (.slice e)) (hs:szOf P e=some sz) (k k':IntKind) (i j:Nat) (hij:i≤j) (hj:j≤n) (hz:0<sz:=by decide):
  ∃v',nslice P t v (some (.int k (i:Int))) (some (.int k' (j:Int)))=some v'∧Sl h sz v' (j-i) ((cs.take (j*sz)).drop (i*sz)):=by
 obtain⟨v1,e1,s1⟩:=s.take hu hs k' j hj hz
 obtain⟨v2,e2,s2⟩:=s1.drop hu hs k i hij hz
 refine⟨v2,?_,s2⟩
 obtain⟨_,bo,c,x,rfl,q2,q3,q4⟩:=s
 rw[nslice_both hu hs k k' bo n c x q3 q2 (fun hb=>by
  rcases q4 with q|⟨b,o,all,m,q,_⟩
  ·exact q
  ·rw[hb] at q;cases q) i j hij hj,e1]
 exact e2
end Go.Proofs.YtkjpldganajkkaaGreatDoor.NICE
namespace Go.Proofs.YtkjpldganajkkaaGreatDoor.S
open Go Go.RowKit Go.Proofs.YtkjpldganajkkaaGreatDoor.NICE
namespace node
open pack
theorem bytesF_len (ws:List Nat) (n:Int):(bytesF ws n).1.length≤ws.length*8:=by
 unfold bytesF
 split
 ·simp
 ·split
  ·simp
  ·have:=allBytes_len ws
   simp only[List.length_take];omega
end node
end Go.Proofs.YtkjpldganajkkaaGreatDoor.S
namespace Go.Proofs.YtkjpldganajkkaaGreatDoor.S
open Go Go.RowKit Go.Proofs.YtkjpldganajkkaaGreatDoor.NICE
namespace mir
open word node pack pool
structure SlotS where
 cls:Nat
 gen:Int
 live:Bool
 words:List Nat
structure ArenaS where
 slots:List SlotS
 free:Nat→List Int
def sizeN (c:Nat):Nat:=(sizeI c).toNat
def poisonW (c:Nat):List Nat:=List.replicate (sizeN c) 0xdeadbeefdeadbeef
def fillW (c:Nat) (ws:List Nat):List Nat:=ws++List.replicate (sizeN c-ws.length) 0
def ofS (p:Int×Int×Bool×Bool):Option SlotS→Nat×Int
 |none=>(0,1)
 |some s=>
  if p.2.2.2=false∨p.2.2.1≠(s.cls==0) then(0,1)
  else if s.gen≠p.2.1 then(0,4)
  else if s.live=false then(0,3)
  else(p.1.toNat,0)
def ofF' (σ:ArenaS) (ref:Int):Nat×Int:=ofS (partsI ref) σ.slots[(partsI ref).1.toNat]?
def updF (f:Nat→List Int) (i:Nat) (l:List Int):Nat→List Int:=fun j=>if j=i then l else f j
def allocF (σ:ArenaS) (cls:Int) (ws:List Nat):(Int×Int)×ArenaS:=
 if cls<0∨5≤cls∨sizeI cls<ws.length then((0,1),σ) else
 match σ.free cls.toNat with
 |[]=>((0,2),σ)
 |n::l=>match σ.slots[n.toNat]? with
  |none=>((0,2),σ)
  |some s=>((refI n s.gen (decide (cls=0)),0),⟨σ.slots.set n.toNat {s with live:=true,words:=fillW s.cls ws},updF σ.free cls.toNat l⟩)
def freeF (σ:ArenaS) (ref:Int):Int×ArenaS:=
 match ofF' σ ref with
 |(n,e)=>if e≠0 then(e,σ) else
  match σ.slots[n]? with
  |none=>(1,σ)
  |some s=>(0,⟨σ.slots.set n {s with live:=false,words:=poisonW s.cls,gen:=s.gen+1},if s.gen+1≤1073741824 then updF σ.free s.cls (ins n (σ.free s.cls)) else σ.free⟩)
def loadF (σ:ArenaS) (ref:Int):List Nat×Int:=
 match ofF' σ ref with
 |(n,e)=>if e≠0 then([],e) else
  match σ.slots[n]? with
  |none=>([],1)
  |some s=>(s.words,0)
def storeF (σ:ArenaS) (ref:Int) (ws:List Nat):Int×ArenaS:=
 match ofF' σ ref with
 |(n,e)=>if e≠0 then(e,σ) else
  match σ.slots[n]? with
  |none=>(1,σ)
  |some s=>if s.words.length<ws.length then(1,σ) else(0,⟨σ.slots.set n {s with words:=fillW s.cls ws},σ.free⟩)
def swapF (σ:ArenaS) (ref:Int) (was:Nat) (ws:List Nat):(Bool×Int)×ArenaS:=
 match ofF' σ ref with
 |(n,e)=>if e≠0 then((false,e),σ) else
  match σ.slots[n]? with
  |none=>((false,1),σ)
  |some s=>if s.words.length<ws.length then((false,1),σ) else
   if s.words.getD 0 0≠was then((false,0),σ) else((true,0),⟨σ.slots.set n {s with words:=fillW s.cls ws},σ.free⟩)
def addSlot (c:Nat) (σ:ArenaS):ArenaS:=⟨σ.slots++[⟨c,1,false,poisonW c⟩],updF σ.free c (σ.free c++[(σ.slots.length:Int)])⟩
def addSlots (c:Nat):Nat→ArenaS→ArenaS
 |0,σ=>σ
 |n+1,σ=>addSlots c n (addSlot c σ)
def newFrom:Nat→List Nat→ArenaS→ArenaS
 |_,[],σ=>σ
 |c,n::l,σ=>newFrom (c+1) l (addSlots c n σ)
def newArena (l:List Nat):ArenaS:=newFrom 0 l ⟨[],fun _=>[]⟩
def roomF (σ:ArenaS) (c:Int):Int:=if c<0∨5≤c then 0 else(σ.free c.toNat).length
def liveF (σ:ArenaS):Int:=σ.slots.length-(σ.free 0).length-(σ.free 1).length-(σ.free 2).length-(σ.free 3).length-(σ.free 4).length
structure EpochsS where
 now:Int
 room:Int
 cls:List (Int×List (Int×Int))
def epOf (ε:EpochsS) (c:Int):Option (Int×List (Int×Int)):=if c<0 then none else ε.cls[c.toNat]?
def pinF (ε:EpochsS) (c n:Int):Bool×EpochsS:=match epOf ε c with
 |none=>(false,ε)
 |some x=>if n<0∨ε.now<n then(false,ε) else(true,{ε with cls:=ε.cls.set c.toNat (n,x.2)})
def unpinF (ε:EpochsS) (c:Int):Bool×EpochsS:=match epOf ε c with
 |none=>(false,ε)
 |some x=>(true,{ε with cls:=ε.cls.set c.toNat (-1,x.2)})
def pinOfF (ε:EpochsS) (c:Int):Int:=match epOf ε c with
 |none=>-1
 |some x=>x.1
def advanceF (ε:EpochsS) (a:Int):Bool×EpochsS:=if ε.now≠a∨1073741824≤ε.now then(false,ε) else(true,{ε with now:=ε.now+1})
def retireF (ε:EpochsS) (c r:Int):Int×EpochsS:=match epOf ε c with
 |none=>(1,ε)
 |some x=>if(partsI r).2.2.2=false then(1,ε) else if ε.room≤x.2.length then(2,ε) else(0,{ε with cls:=ε.cls.set c.toNat (x.1,x.2++[(r,ε.now)])})
def collectF (ε:EpochsS) (c:Int):(Int×Bool)×EpochsS:=match epOf ε c with
 |none=>((0,false),ε)
 |some x=>match x.2 with
  |[]=>((0,false),ε)
  |y::l=>if ε.now-y.2<2 then((0,false),ε) else((y.1,true),{ε with cls:=ε.cls.set c.toNat (x.1,l)})
def newEpochs (clients limbo:Nat):EpochsS:=⟨0,limbo,List.replicate clients (-1,[])⟩
structure Acc where
 kind:Int:=0
 ref:Int:=0
 cls:Int:=0
 n:Int:=0
 was:Nat:=0
 words:List Nat:=[]
structure Res where
 err:Int:=0
 n:Int:=0
 ok:Bool:=false
 words:List Nat:=[]
structure MemS where
 arena:ArenaS
 eps:EpochsS
 clients:Int
 root:Int
 holder:Int
def slotsF (μ:MemS) (a:Acc):Res×MemS:=
 if a.kind=1 then({err:=(loadF μ.arena a.ref).2,words:=(loadF μ.arena a.ref).1},μ)
 else if a.kind=2 then({err:=(swapF μ.arena a.ref a.was a.words).1.2,ok:=(swapF μ.arena a.ref a.was a.words).1.1},{μ with arena:=(swapF μ.arena a.ref a.was a.words).2})
 else if a.kind=3 then({err:=(storeF μ.arena a.ref a.words).1},{μ with arena:=(storeF μ.arena a.ref a.words).2})
 else if a.kind=4 then({n:=(allocF μ.arena a.cls a.words).1.1,err:=(allocF μ.arena a.cls a.words).1.2},{μ with arena:=(allocF μ.arena a.cls a.words).2})
 else if a.ref=μ.root then({err:=1},μ)
 else({err:=(freeF μ.arena a.ref).1},{μ with arena:=(freeF μ.arena a.ref).2})
def turnF (μ:MemS) (c k:Int):Res×MemS:=
 if k=13 then({n:=μ.holder},μ)
 else if k=14∧μ.holder<0 then({ok:=true},{μ with holder:=c})
 else if k=15∧μ.holder=c then({ok:=true},{μ with holder:=-1})
 else({},μ)
def collectM (μ:MemS) (c:Int):Res×MemS:=
 match collectF μ.eps c with
 |((_,false),_)=>({},μ)
 |((r,true),ε)=>if(freeF μ.arena r).1≠0 then({err:=(freeF μ.arena r).1},{μ with eps:=ε}) else({n:=r,ok:=true},{μ with eps:=ε,arena:=(freeF μ.arena r).2})
def doF (μ:MemS) (c:Int) (a:Acc):Res×MemS:=
 if c<0∨μ.clients≤c then({err:=1},μ)
 else if a.kind=1∨a.kind=2∨a.kind=3∨a.kind=4∨a.kind=5 then slotsF μ a
 else if a.kind=6 then(if a.ref=μ.root then({err:=1},μ) else({err:=(retireF μ.eps c a.ref).1},{μ with eps:=(retireF μ.eps c a.ref).2}))
 else if a.kind=7 then({n:=μ.eps.now},μ)
 else if a.kind=8 then({ok:=(pinF μ.eps c a.n).1},{μ with eps:=(pinF μ.eps c a.n).2})
 else if a.kind=9 then({ok:=(unpinF μ.eps c).1},{μ with eps:=(unpinF μ.eps c).2})
 else if a.kind=10 then({n:=pinOfF μ.eps a.n},μ)
 else if a.kind=11 then({ok:=(advanceF μ.eps a.n).1},{μ with eps:=(advanceF μ.eps a.n).2})
 else if a.kind=12 then collectM μ c
 else if a.kind=13∨a.kind=14∨a.kind=15 then turnF μ c a.kind
 else({err:=1},μ)
structure Node where
 kind:Int:=0
 word:Nat:=0
 pre:List UInt8:=[]
 keys:List UInt8:=[]
 kids:List Int:=[]
def isRefB (r:Int):Bool:=(partsI r).2.2.2
def risesB:List UInt8→Bool
 |a::b::l=>decide (a<b)&&risesB (b::l)
 |_=>true
def rightN (n:Node):Bool:=
 !decide (highI n.kind=0)&&!(deadN n.word&&decide (n.word%2=1))&&decide (n.pre.length≤12)&&decide (n.keys.length=n.kids.length)&&decide ((n.keys.length:Int)≤highI n.kind)&&n.kids.all isRefB&&risesB n.keys
def layW (w:List Nat) (i:Nat) (s:List Nat):List Nat:=w.take i++s++w.drop (i+s.length)
def kidsW (kind:Int):Nat→List UInt8→List Int→List Nat→List Nat
 |i,b::bs,r::rs,w=>kidsW kind (i+1) bs rs (w.set (placeI kind i b).toNat r.toNat)
 |_,_,_,w=>w
def headW (n:Node):List Nat:=layW ([n.word,n.kind.toNat+n.pre.length*256+n.keys.length*65536]++List.replicate (sizeN n.kind.toNat-2) 0) 2 (wordsF n.pre)
def keysW (n:Node):List Nat:=if n.kind=3 then layW (headW n) 4 (indexF n.keys) else if n.kind=4 then headW n else layW (headW n) 4 (wordsF n.keys)
def encW (n:Node):List Nat:=if rightN n then kidsW n.kind 0 n.keys n.kids (keysW n) else[]
def deIdx (w:List Nat) (n:Nat):Nat→Option (List UInt8)
 |0=>some (List.replicate n 0)
 |b+1=>match deIdx w n b with
  |none=>none
  |some ks=>if n<w.getD (4+b/8) 0/2^(8*(b%8))%256 then none else if 0<w.getD (4+b/8) 0/2^(8*(b%8))%256 then some (ks.set (w.getD (4+b/8) 0/2^(8*(b%8))%256-1) (UInt8.ofNat b)) else some ks
def deAll (w:List Nat):Nat→List UInt8
 |0=>[]
 |b+1=>if w.getD (4+b) 0≠0 then deAll w b++[UInt8.ofNat b] else deAll w b
def bytesN (w:List Nat) (kind:Int) (n:Nat):List UInt8×Bool:=
 if kind=1 then((bytesF ((w.take 5).drop 4) n).1,decide ((bytesF ((w.take 5).drop 4) n).2=0))
 else if kind=2 then((bytesF ((w.take 6).drop 4) n).1,decide ((bytesF ((w.take 6).drop 4) n).2=0))
 else if kind=3 then(match deIdx w n 256 with|none=>([],false)|some ks=>(ks,true))
 else(deAll w 256,decide ((deAll w 256).length=n))
def kidsOf (kind:Int) (w:List Nat):Nat→List UInt8→List Int
 |_,[]=>[]
 |i,b::bs=>IntKind.i64.wrap (w.getD (placeI kind i b).toNat 0:Nat)::kidsOf kind w (i+1) bs
def outN (ws:List Nat):Node:=
 ⟨(ws.getD 1 0%256:Nat),ws.getD 0 0,(bytesF ((ws.take 4).drop 2) (ws.getD 1 0/256%256:Nat)).1,(bytesN ws (ws.getD 1 0%256:Nat) (ws.getD 1 0/65536%65536)).1,
  kidsOf (ws.getD 1 0%256:Nat) ws 0 (bytesN ws (ws.getD 1 0%256:Nat) (ws.getD 1 0/65536%65536)).1⟩
def decN (ws:List Nat):Node×Bool:=
 if ws.length<4 then({},false)
 else if highI (ws.getD 1 0%256:Nat)=0∨(ws.length:Int)≠sizeI (ws.getD 1 0%256:Nat)∨highI (ws.getD 1 0%256:Nat)<(ws.getD 1 0/65536%65536:Nat) then({},false)
 else if(bytesF ((ws.take 4).drop 2) (ws.getD 1 0/256%256:Nat)).2≠0∨(bytesN ws (ws.getD 1 0%256:Nat) (ws.getD 1 0/65536%65536)).2=false then({},false)
 else if encW (outN ws)=ws then(outN ws,true) else({},false)
end mir
end Go.Proofs.YtkjpldganajkkaaGreatDoor.S
