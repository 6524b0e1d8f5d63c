/-
  TreeR to Nice50, as one text. Proved step by step; no conditions beside what is said.
-/
import Derived.Test.YtkjpldganajkkaaGreatDoorQ9
import Derived.Test.YtkjpldganajkkaaGreatDoorQ10
import Derived.Test.YtkjpldganajkkaaGreatDoorQ11
import Derived.Test.YtkjpldganajkkaaGreatDoorQ12
import Derived.Test.YtkjpldganajkkaaGreatDoorQ13
import Derived.Test.YtkjpldganajkkaaGreatDoorQ15
set_option linter.unusedSimpArgs false
set_option linter.unusedVariables false
set_option linter.unusedSectionVars false
set_option maxRecDepth 100000
namespace Go.Proofs.YtkjpldganajkkaaGreatDoor.S
open Go Go.RowKit Go.Proofs.YtkjpldganajkkaaGreatDoor.NICE
namespace tree
open word pack mir node mem get made
theorem rep_cl:∀n,repeatCells [.slice none 0 0 none,.int .i64 0,.bool false,.nilFunc,.nilFunc,.nilFunc,.nilFunc,.int .i64 0,.int .i64 0] n=rows clC (List.replicate n zX)
 |0=>rfl
 |n+1=>by rw[repeatCells,List.replicate_succ,rows_cons,rep_cl n];rfl
set_option maxHeartbeats 2000000 in
theorem New_K (G:Gh) (c:Nat) (hc0:0<c) (a b d e f:Nat) (hsum:[a,b,d,e,f].sum≤1024) (n lm:Nat) (h1:1≤n) (h2:n≤8) (h3:4≤lm) (h4:lm≤64) (tr:Int) (t1:1≤tr) (t2:tr≤100) (hal:(allocF (newArena [a,b,d,e,f]) 4 (encW {kind:=4})).1.2=0) (v:NVal) (ls:List (NVal×List OpS)) (L:LL G v ls) (hn:ls.length≤n) (hok:∀p∈ls,∀o∈p.2,okOp o 1 n=true∧o.term.length<2^26):
  ∃tb G',K env 6 [cfgV ([a,b,d,e,f].map fun(n:Nat)=>(n:Int)) n lm tr,v] G.h=some (.tuple [P tb,.int .i64 0],G'.h)∧Stp c (c+30) G G'∧TreeRep G' c tb ⟨a,b,d,e,f⟩ 0 (newTree [a,b,d,e,f] n lm tr (ls.map (·.2))):=by
 have cv:cfgV ([a,b,d,e,f].map fun(n:Nat)=>(n:Int)) n lm tr=.agg [.int .i64 (a:Int),.int .i64 (b:Int),.int .i64 (d:Int),.int .i64 (e:Int),.int .i64 (f:Int),.int .i64 (n:Int),.int .i64 (lm:Int),.int .i64 tr]:=rfl
 obtain⟨H0,hH0⟩:∃H0,G.h.alloc (.cells [.int .i64 (a:Int),.int .i64 (b:Int),.int .i64 (d:Int),.int .i64 (e:Int),.int .i64 (f:Int),.int .i64 (n:Int),.int .i64 (lm:Int),.int .i64 tr] (.own none))=H0:=⟨_,rfl⟩
 have x0:Ext G.h H0:=by rw[←hH0];exact(Ext.refl _).alloc _
 have g0:H0.get G.h.next=some (.cells [.int .i64 (a:Int),.int .i64 (b:Int),.int .i64 (d:Int),.int .i64 (e:Int),.int .i64 (f:Int),.int .i64 (n:Int),.int .i64 (lm:Int),.int .i64 tr] (.own none)):=by rw[←hH0];simp[NHeap.get_alloc]
 obtain⟨G0,hG0⟩:∃G0:Gh,(⟨H0,newCol G.h G.col fun _=>0⟩:Gh)=G0:=⟨_,rfl⟩
 have hG0h:G0.h=H0:=by rw[←hG0]
 have c0:G0.col G.h.next=0:=by
  rw[←hG0]
  show newCol G.h G.col (fun _=>0) G.h.next=0
  rw[newCol_new (Nat.le_refl _)]
 have S0:∀lo hi,Stp lo hi G G0:=fun lo hi=>by rw[←hG0];exact Stp.of_ext _ _ x0 _
 obtain⟨m,er,G1,e1,S1,hm⟩:=mem.New_K G0 c hc0 [a,b,d,e,f] rfl hsum n lm h1 h2 h3 h4 tr t1 t2
 rcases hm with⟨q,_⟩|⟨_,her,M1⟩
 ·exact absurd hal q
 subst her
 obtain⟨mb,hmv⟩:∃mb,m=.ptr (some (mb,0)):=by obtain⟨mb,_,_,_,h,_⟩:=M1;exact⟨mb,h⟩
 rw[hG0h] at e1
 have g1:=S1.get (by rw[hG0h];exact g0) (by rw[c0];omega)
 have c1:G1.col G.h.next=0:=by rw[S1.col _ (by rw[hG0h];exact NHeap.get_lt g0)];exact c0
 obtain⟨vb,vc,vx,hv⟩:=(arena.fz_sl L.fz).form
 have k1:¬(n:Int)<(ls.length:Int):=by omega
 obtain⟨N,hN⟩:∃N,G1.h.next=N:=⟨_,rfl⟩
 obtain⟨H2,hH2⟩:∃H2,G1.h.alloc .dead=H2:=⟨_,rfl⟩
 have x2:Ext G1.h H2:=by rw[←hH2];exact(Ext.refl _).alloc _
 have n2:H2.next=N+1:=by rw[←hH2,←hN];rfl
 obtain⟨H3,hH3⟩:∃H3,H2.alloc .dead=H3:=⟨_,rfl⟩
 have x3:Ext G1.h H3:=by rw[←hH3];exact x2.alloc _
 have n3:H3.next=N+2:=by rw[←hH3];show H2.next+1=_;omega
 have g3:=x3.get g1
 have mk:repeatCells [.slice none 0 0 none,.int .i64 0,.bool false,.nilFunc,.nilFunc,.nilFunc,.nilFunc,.int .i64 0,.int .i64 0] n=rows clC (List.replicate n zX):=rep_cl n
 have q0:(0:Int)≤(n:Int):=by omega
 have q1:(n:Int)*88≤1099511627776:=by omega
 have q2:(n:Int)≤1099511627776:=by omega
 obtain⟨T,hT⟩:∃T,newTree [a,b,d,e,f] n lm tr (ls.map (·.2))=T:=⟨_,rfl⟩
 rw[hT]
 have hTm:T.m=newMem [a,b,d,e,f] n lm:=by rw[←hT];rfl
 have hTc:T.m.clients=(n:Int):=by rw[hTm];rfl
 have hTl:T.limbo=(lm:Int):=by rw[←hT];rfl
 have hTt:T.tries=tr:=by rw[←hT];rfl
 have hTf:T.faults=0:=by rw[←hT];rfl
 have hTe:T.events=[]:=by rw[←hT];rfl
 have hTd:T.dones=[]:=by rw[←hT];rfl
 have hTs:T.cls=(List.range n).map fun i=>{ops:=(ls.map (·.2)).getD i []}:=by rw[←hT];rfl
 obtain⟨H4,hH4⟩:∃H4,H3.set N (.cells (rows clC (List.replicate n zX)) (.own none))=H4:=⟨_,rfl⟩
 have x4:Ext G1.h H4:=by rw[←hH4];exact x3.set (by omega) _
 have n4:H4.next=N+2:=by rw[←hH4,NHeap.next_set];exact n3
 have g4:H4.get N=some (.cells (rows clC (List.replicate n zX)) (.own none)):=by rw[←hH4,NHeap.get_set_same (by omega)]
 obtain⟨H5,hH5⟩:∃H5,H4.set (N+1) (.cells (treeC ⟨a,b,d,e,f⟩ m (.slice (some (N,0)) n n none) nilS0 nilS0 T) (.own none))=H5:=⟨_,rfl⟩
 have x5:Ext G1.h H5:=by rw[←hH5];exact x4.set (by omega) _
 have g5:H5.get (N+1)=some (.cells (treeC ⟨a,b,d,e,f⟩ m (.slice (some (N,0)) n n none) nilS0 nilS0 T) (.own none)):=by rw[←hH5,NHeap.get_set_same (by omega)]
 have g5c:H5.get N=some (.cells (rows clC (List.replicate n zX)) (.own none)):=by rw[←hH5,NHeap.get_set_ne (by omega)];exact g4
 obtain⟨G5,hG5⟩:∃G5:Gh,(⟨H5,newCol G1.h G1.col fun b=>if b=N then c+18 else c+17⟩:Gh)=G5:=⟨_,rfl⟩
 have hG5h:G5.h=H5:=by rw[←hG5]
 have k5:∀b,N≤b→G5.col b=if b=N then c+18 else c+17:=fun b hb=>by
  rw[←hG5]
  show newCol G1.h G1.col (fun b=>if b=N then c+18 else c+17) b=_
  rw[newCol_new (by omega)]
 have S5:∀lo hi,Stp lo hi G1 G5:=fun lo hi=>by rw[←hG5];exact Stp.of_ext _ _ x5 _
 have T5:TC G5 c (N+1) none ⟨a,b,d,e,f⟩ m nilS0 nilS0 N none (List.replicate n zX) [] [] T:=by
  refine⟨by rw[hG5h,List.length_replicate];exact g5,by rw[k5 _ (by omega),if_neg (by omega)],by rw[hG5h];exact g5c,by rw[k5 _ (by omega),if_pos rfl],.inl ⟨rfl,rfl,rfl⟩,.inl ⟨rfl,rfl,rfl⟩,by simp;exact h2,⟨mb,hmv⟩,by decide,by decide,fun e he=>(by cases he),fun e he=>(by cases he)⟩
 have SA:Stp c (c+30) G G5:=((S0 _ _).trans (S1.mono (by omega) (by omega))).trans (S5 _ _)
 have L5:=L.step SA hc0
 have M5:=M1.step (S5 (c+17) (c+17)) (by omega) (.inr (by omega))
 have g6:=(S5 0 0).get g1 (by omega)
 have c6:G5.col G.h.next=0:=by rw[(S5 0 0).col _ (NHeap.get_lt g1)];exact c1
 rw[cv,k6 _ _ (by simp)]
 rw[cv] at e1
 simp only[hmv,treeC,nilS0,hTc,hTl,hTt,hTf] at hH5
 have hv':=hv
 simp only[hmv,hv] at e1⊢
 simp only[bodyOf,Option.getD_some,go_sem,seval,↓S_drawnY,y_nil,y_plain,y_guard,yGuard_true,yGuard_false,yGo_val,yGo_read,yGo_none,yAgain_true,yNew_some,yNew_none,yChk_true,yDo_some,yEnd_true,looseY_nil,looseY_cons,chainB,afterOf,Bool.or_true,Bool.or_false,Bool.true_or,Bool.false_or,Bool.and_true,Bool.true_and,Bool.false_and,Bool.and_false,true_or,or_true,Tryz.f6,hH0,g0,e1,g1,k1,hN,hH2,hH3,n2,n3,g3,q0,q1,q2,Int.le_refl,Int.toNat_natCast,mk,hH4,hH5]
 have key:=fun rest=>loopNw (s:=⟨a,b,d,e,f⟩) (q:=none) (cq:=none) (mv:=m) (tb:=N+1) (cb:=N) (t:=T) hc0 G5 v ls L5 n hn h2 (by rw[hTc];exact hok) G.h.next g6 c6 (by rw[hTc];rfl) (fun r=>∃tb G',outF Tryz.prog [.tmp 4,.tmp 5] (thenD env (blockC 0 r) rest)=some (.tuple [P tb,.int .i64 0],G'.h)∧Stp c (c+30) G G'∧TreeRep G' c tb ⟨a,b,d,e,f⟩ 0 T)
 simp only[lbNw,bodyOf,Option.getD_some,atC,seqL,inC,elC,List.nil_append,List.cons_append,List.getElem?_cons_succ,List.getElem?_cons_zero,Tryz.f6] at key
 rw[←hG5h]
 refine key _ ?_ ls.length 0 G5 _ (List.replicate n zX) (by omega) (Stp.refl _ _ _) T5 (Part.zero _ _ _) ?_ ?_ ?_ ?_ ?_
 ·intro G' F cx S6 T6 p f8
  refine⟨N+1,G',?_,SA.trans (S6.mono (by omega) (by omega)),none,m,nilS0,nilS0,N,none,cx,[],[],⟨T6,?_,?_,by rw[hTe];rfl,by rw[hTd];rfl,fun e he=>(by cases he),fun e he=>(by cases he),?_,?_,by rw[hTe];simp,by rw[hTd];simp,by rw[hTf];simp,by rw[hTt];exact t1,by rw[hTl];omega⟩⟩
  ·simp only[P] at f8
   simp only[go_sem,seval,f8]
   try rfl
  ·rw[hTm];exact M5.step S6 (by omega) (.inr (by omega))
  ·rw[hTs]
   apply List.ext_getElem?
   intro i
   rw[List.getElem?_map,List.getElem?_map]
   by_cases hi:i<n
   ·rw[List.getElem?_range hi]
    obtain⟨x,hx⟩:∃x,cx[i]? =some x:=⟨cx[i]'(by rw[p.len];exact hi),List.getElem?_eq_getElem _⟩
    obtain⟨z1,z2,z3,z4⟩:=p.at_ i x hx
    rw[hx]
    simp only[Option.map_some]
    rw[z1]
    by_cases hl:i<ls.length
    ·rw[if_pos hl]
    ·rw[if_neg hl,List.getD_eq_getElem?_getD,List.getElem?_eq_none (by simp;omega)]
     rfl
   ·rw[List.getElem?_eq_none (by rw[p.len];omega),List.getElem?_eq_none (by simp;omega)]
    rfl
  ·intro i x hx
   obtain⟨z1,z2,z3,z4⟩:=p.at_ i x hx
   have zp:x.s.prog=none:=by rw[z1]
   refine⟨z3,?_,by omega,by rw[z1];exact Nat.zero_le _,fun h=>absurd zp h,fun h=>absurd zp h,by rw[z2,zp];rfl,fun p hp=>by rw[zp] at hp;cases hp⟩
   intro o ho
   rw[z1] at ho
   simp only at ho
   split at ho
   ·rename_i hl
    rw[List.getD_eq_getElem?_getD,List.getElem?_map,List.getElem?_eq_getElem hl] at ho
    have:=hok _ (List.getElem_mem hl) o ho
    rw[hTt,hTc]
    exact⟨okOp_mono o tr n t1 this.1,this.2⟩
   ·cases ho
  ·rw[hTc,p.len]
 ·simp only[go_sem,seval,P]
 ·simp only[go_sem,seval,P]
 ·simp only[go_sem,seval,hv']
 ·simp only[go_sem,seval]
 ·simp only[go_sem,seval]
end tree
end Go.Proofs.YtkjpldganajkkaaGreatDoor.S
namespace Go.Proofs.YtkjpldganajkkaaGreatDoor.S
open Go Go.RowKit Go.Proofs.YtkjpldganajkkaaGreatDoor.NICE
namespace kp
def letters:Nat→Nat→List UInt8
 |0,_=>[]
 |f+1,m=>if m=0 then[] else UInt8.ofNat (97+m%6)::letters f (m/6)
def term (m:Nat):List UInt8:=UInt8.ofNat (97+m%4)::letters 7 (m/4)
theorem letters_len:∀f m,(letters f m).length≤f
 |0,m=>Nat.le_refl _
 |f+1,m=>by
  unfold letters
  split
  ·simp
  ·have:=letters_len f (m/6);simp;omega
def termI (n:Int):List UInt8:=term (n%1048576).toNat
noncomputable def lbK:Code:=inC (inC (atC (bodyOf Tryz.f41) 4))
theorem loopK (h0:NHeap) (Q:Out→Prop):∀(f m:Nat) (acc:List UInt8) (h:NHeap) (F:Fr),m<6^f→f≤7→acc.length≤8-f→
  F 3=.int .i64 m→F 4=.str acc→Ext h0 h→
  (∀(F':Fr) h',F' 4=.str (acc++letters f m)→Ext h0 h'→Q (some (.exit 0,toL 33 F',h')))→
  Q (C env (.loop lbK) (toL 33 F) h):=by
 intro f
 induction f with
 |zero=>
  intro m acc h F hm hf hl f3 f4 hE hQ
  have:m=0:=by simpa using hm
  subst this
  rw[S_loop]
  conv=>arg 1;arg 2;arg 2;simp only[lbK,bodyOf,Option.getD_some,atC,seqL,inC,elC,List.nil_append,List.cons_append,List.getElem?_cons_succ,List.getElem?_cons_zero,Tryz.f41]
  simp only[go_sem,seval,f3,f4]
  simp only[letters,List.append_nil] at hQ
  exact hQ _ h (by simp only[go_sem,seval,f4]) hE
 |succ f ih=>
  intro m acc h F hm hf hl f3 f4 hE hQ
  rw[S_loop]
  conv=>arg 1;arg 2;arg 2;simp only[lbK,bodyOf,Option.getD_some,atC,seqL,inC,elC,List.nil_append,List.cons_append,List.getElem?_cons_succ,List.getElem?_cons_zero,Tryz.f41]
  by_cases h0:m=0
  ·subst h0
   simp only[go_sem,seval,f3,f4]
   simp only[letters,if_true,List.append_nil] at hQ
   exact hQ _ h (by simp only[go_sem,seval,f4]) hE
  ·have p1:(0:Int)<(m:Int):=by omega
   have p2:(acc.length:Int)<12:=by omega
   have hm6:m/6<6^f:=by rw[Nat.pow_succ] at hm;omega
   have r6:(m:Int).tmod 6=((m%6:Nat):Int):=rfl
   have q6:(m:Int).tdiv 6=((m/6:Nat):Int):=rfl
   have w1:IntKind.i64.wrap (97+((m%6:Nat):Int))=97+((m%6:Nat):Int):=wrap_i64_small (by omega) (by omega)
   have w2:IntKind.u8.wrap (97+((m%6:Nat):Int))=((UInt8.ofNat (97+m%6)).toNat:Int):=by
    rw[IntKind.wrap_u8,UInt8.toNat_ofNat'];omega
   have hb:m<2^30:=by have:6^(f+1)≤6^7:=Nat.pow_le_pow_right (by decide) hf;omega
   have w3:IntKind.i64.wrap ((m/6:Nat):Int)=((m/6:Nat):Int):=wrap_i64_small (by omega) (by omega)
   have ha:acc++letters (f+1) m=(acc++[UInt8.ofNat (97+m%6)])++letters f (m/6):=by
    rw[letters,if_neg h0,List.append_assoc];rfl
   have sa:=fun t=>str_add (P:=Tryz.prog) t acc [UInt8.ofNat (97+m%6)] (by simp;omega)
   have ks:u8s [UInt8.ofNat (97+m%6)]=[NVal.int .u8 ((UInt8.ofNat (97+m%6)).toNat:Int)]:=rfl
   rw[ha] at hQ
   have kb:bytesVals [NVal.int .u8 ((UInt8.ofNat (97+m%6)).toNat:Int)]=some [UInt8.ofNat (97+m%6)]:=by rw[←ks];exact u8s_bytes _
   simp only[go_sem,seval,f3,f4,p1,p2,bin_rem,bin_quo,r6,q6,w1,w2,w3,kStr,kb,sa]
   refine ih (m/6) (acc++[UInt8.ofNat (97+m%6)]) _ _ hm6 (by omega) (by simp;omega) (by simp only[go_sem,seval]) (by simp only[go_sem,seval]) ?_ hQ
   repeat(first|exact Ext.refl _|assumption|apply Ext.alloc|refine Ext.set ?_ (by first|omega|(simp only[NHeap.next_alloc,NHeap.next_set];omega)) _)
theorem Term_K (n:Int) (h:NHeap):∃h',K env 41 [.int .i64 n] h=some (.str (termI n),h')∧Ext h h':=by
 have hm:∃m:Nat,n%1048576=(m:Int)∧m<1048576:=⟨(n%1048576).toNat,by omega,by omega⟩
 obtain⟨m,hm,hm2⟩:=hm
 have e1:=within_K n 0 1048575 h (by decide) (by decide) (by decide)
 rw[show(0:Int)+n%(1048575-0+1)=(m:Int) by omega] at e1
 have r4:(m:Int).tmod 4=((m%4:Nat):Int):=rfl
 have q4:(m:Int).tdiv 4=((m/4:Nat):Int):=rfl
 have w1:IntKind.i64.wrap (97+((m%4:Nat):Int))=97+((m%4:Nat):Int):=wrap_i64_small (by omega) (by omega)
 have w2:IntKind.u8.wrap (97+((m%4:Nat):Int))=((UInt8.ofNat (97+m%4)).toNat:Int):=by
  rw[IntKind.wrap_u8,UInt8.toNat_ofNat'];omega
 have w3:IntKind.i64.wrap ((m/4:Nat):Int)=((m/4:Nat):Int):=wrap_i64_small (by omega) (by omega)
 have ks:u8s [UInt8.ofNat (97+m%4)]=[NVal.int .u8 ((UInt8.ofNat (97+m%4)).toNat:Int)]:=rfl
 have kb:bytesVals [NVal.int .u8 ((UInt8.ofNat (97+m%4)).toNat:Int)]=some [UInt8.ofNat (97+m%4)]:=by rw[←ks];exact u8s_bytes _
 have hT:termI n=term m:=by rw[termI,hm];rfl
 rw[hT,k41 _ _ (by simp)]
 simp only[bodyOf,Option.getD_some,go_sem,seval,Tryz.f41,e1,bin_rem,bin_quo,r4,q4,w1,w2,w3,kStr,kb]
 have key:=fun rest=>loopK h (fun r=>∃h',outF Tryz.prog [.tmp 2] (thenD env (blockC 0 r) rest)=some (.str (term m),h')∧Ext h h')
 refine key _ 7 (m/4) [UInt8.ofNat (97+m%4)] _ _ (by omega) (by omega) (by simp) ?_ ?_ ?_ ?_
 ·simp only[go_sem,seval]
 ·simp only[go_sem,seval]
 ·repeat(first|exact Ext.refl _|assumption|apply Ext.alloc|refine Ext.set ?_ (by first|omega|(simp only[NHeap.next_alloc,NHeap.next_set];omega)) _)
 ·intro F' h' f4 hE
  refine⟨h',?_,hE⟩
  simp only[go_sem,seval,f4]
  rfl
end kp
end Go.Proofs.YtkjpldganajkkaaGreatDoor.S
namespace Go.Proofs.YtkjpldganajkkaaGreatDoor.S
open Go Go.RowKit Go.Proofs.YtkjpldganajkkaaGreatDoor.NICE
namespace kp
open mir get
theorem drop_at {α:Type} {l:List α} {i:Nat} {a:α} (h:l[i]? =some a):l.drop i=a::l.drop (i+1):=by
 have hi:=(List.getElem?_eq_some_iff.1 h).1
 rw[List.drop_eq_getElem_cons hi]
 congr 1
 rw[List.getElem?_eq_getElem hi] at h
 exact Option.some.inj h
def opF (names:Int) (o:OpS) (i:Nat):OpS:=
 let t:=termI (o.value%(names+1))
 let k:=1+o.kind%7
 if k=1∨k=6 then⟨1,t,[],0⟩ else if k=2∨k=7 then⟨2,t,[],((i+1:Nat):Int)⟩ else if k=3 then⟨3,t,[],0⟩ else if k=4 then⟨4,t.take 1,[],1+o.value%16⟩ else⟨5,[],[],0⟩
def opsF (names:Int):List OpS→Nat→List OpS
 |[],_=>[]
 |o::r,i=>opF names o i::opsF names r (i+1)
theorem opsF_len (names:Int):∀(l:List OpS) (i:Nat),(opsF names l i).length=l.length
 |[],_=>rfl
 |o::r,i=>by simp[opsF,opsF_len names r]
theorem Op.len (d:OpS):(opV d).length=4:=rfl
theorem Op.one (d:OpS):allOne (opV d)=true:=rfl
theorem termI_pos (n:Int):1≤(termI n).length:=by simp[termI,term]
abbrev Ops (h:NHeap) (v:NVal) (l:List OpS):Prop:=Rw h 4 opV v l
noncomputable def lbP:Code:=inC (inC (atC (bodyOf Tryz.f19) 3))
set_option maxHeartbeats 1000000 in
theorem loopP (hA:NHeap) (v:NVal) (ops:List OpS) (ho:Ops hA v ops) (hl:ops.length<2^28) (names:Int) (n1:1≤names) (n2:names<2^40) (F0:Fr) (f1:F0 1=.int .i64 names) (f9:F0 9=v) (f10:F0 10=.int .i64 ops.length) (Q:Out→Prop)
  (hQ:∀(h:NHeap) (F:Fr) (rv:NVal),Ext hA h→Grow h rv 4 (rows opV (opsF names ops 0)) (opsF names ops 0).length→(∀b∈blk rv,hA.next≤b)→F 5=rv→Q (some (.exit 0,toL 69 F,h))):
  ∀(f i:Nat) (acc:List OpS) (rv:NVal) (h:NHeap) (F:Fr),i+f=ops.length→acc++opsF names (ops.drop i) i=opsF names ops 0→acc.length=i→Ext hA h→Keep [1,9,10] F0 F→Grow h rv 4 (rows opV acc) acc.length→(∀b∈blk rv,hA.next≤b)→F 5=rv→F 11=.int .i64 i→Q (C env (.loop lbP) (toL 69 F) h):=by
 intro f
 induction f with
 |zero=>
  intro i acc rv h F hi hk ha hE kp gw hb f5 f11
  have:i=ops.length:=by omega
  subst this
  have f10':=(kp 10 rfl).trans f10
  have hacc:acc=opsF names ops 0:=by rw[←hk,List.drop_length,opsF,List.append_nil]
  rw[S_loop]
  conv=>arg 1;arg 2;arg 2;simp only[lbP,bodyOf,Option.getD_some,atC,seqL,inC,elC,List.nil_append,List.cons_append,List.getElem?_cons_succ,List.getElem?_cons_zero,Tryz.f19]
  simp only[go_sem,seval,f10',f11]
  exact hQ h _ rv hE (by rw[←hacc];exact gw) hb (by simp only[go_sem,seval,f5])
 |succ f ih=>
  intro i acc rv h F hi hk ha hE kp gw hb f5 f11
  have f1':=(kp 1 rfl).trans f1
  have f9':=(kp 9 rfl).trans f9
  have f10':=(kp 10 rfl).trans f10
  obtain⟨o,hoi⟩:∃o,ops[i]? =some o:=⟨ops[i]'(by omega),List.getElem?_eq_getElem (by omega)⟩
  obtain⟨b,oo,c',x',all,mm,hv',gA,row,hle⟩:=Sl.elem Op.len (ho.ext hE) hoi
  rw[hv'] at f9'
  rw[drop_at hoi,opsF] at hk
  have i0:(0:Int)≤(i:Int):=by omega
  have i1:(i:Int)<(ops.length:Int):=by omega
  have w1:IntKind.i64.wrap ((i:Int)+1)=((i+1:Nat):Int):=by rw[wrap_i64_small (by omega) (by omega)];omega
  have nb:¬b=h.next:=by have:=NHeap.get_lt gA;omega
  obtain⟨H,hH⟩:∃H,(h.alloc (.cells [.int .i64 0,.str [],.str [],.int .i64 0] (.own (some (55,4))))).set h.next (.cells (opV o) (.own (some (55,4))))=H:=⟨_,rfl⟩
  have xH:Ext h H:=by rw[←hH];exact((Ext.refl h).alloc _).set (Nat.le_refl _) _
  have gH:H.get h.next=some (.cells (opV o) (.own (some (55,4)))):=by rw[←hH];exact NHeap.get_set_same (by simp)
  have nm:(if names<1 then(1:Int) else names)=names:=if_neg (by omega)
  have e1:=within_K o.value 0 names H (by decide) (by omega) (by omega)
  rw[show(0:Int)+o.value%(names-0+1)=o.value%(names+1) by rw[Int.zero_add,Int.sub_zero]] at e1
  obtain⟨h1,e2,x1⟩:=Term_K (o.value%(names+1)) H
  have e3:=within_K o.kind 0 6 h1 (by decide) (by decide) (by decide)
  rw[show(0:Int)+o.kind%(6-0+1)=o.kind%7 by rw[Int.zero_add];rfl] at e3
  have g1:=x1.get gH
  have nb2:¬h.next=h1.next:=by have:=x1.next;rw[←hH] at this;simp at this;omega
  have xx:=hE.trans (xH.trans x1)
  obtain⟨t,ht⟩:∃t,termI (o.value%(names+1))=t:=⟨_,rfl⟩
  have tpos:=termI_pos (o.value%(names+1))
  rw[ht] at e2 tpos
  have app:∀(o':OpS) HB,Ext h1 HB→HB.next=h1.next+1→HB.get h1.next=some (.cells (opV o') (.own none))→∃v' h',nappend Tryz.prog 52 52 rv (.slice (some (h1.next,0)) 1 1 none) HB=some (v',h')∧Grow h' v' 4 (rows opV (acc++[o'])) (acc++[o']).length∧Ext hA h'∧HB.next≤h'.next∧(∀b∈blk v',hA.next≤b):=by
   intro o' HB xB nB gB
   have sB:Rw HB 4 opV (.slice (some (h1.next,0)) 1 1 none) [o']:=by
    rw[Rw,rows_cons,rows_nil,List.append_nil]
    exact Sl.whole gB rfl (Nat.le_refl _) (.inl rfl)
   have xhB:=(xH.trans x1).trans xB
   obtain⟨v',h',a1,a2,a3,a4⟩:=grow_app (P:=Tryz.prog) Op.len Op.one Tryz.underlying52 sz55 by55 ze55 rfl (by decide) (gw.upd (Upd.of_ext xhB) (by simp)).e sB (by simp;omega) (by simp;omega)
   obtain⟨-,n4,v4⟩:=a4.resolve_left (by simp)
   refine⟨v',h',a1,a2.g (by simp),?_,a3.next,?_⟩
   ·exact Upd.ext ((Upd.of_ext (xx.trans xB)).trans' a3 fun b hb'=>.inr (hb b hb'))
   ·intro b hb'
    rw[v4] at hb'
    simp[blk] at hb'
    have:=(xx.trans xB).next
    omega
  have done:∀(o':OpS) v' h' (F':Fr),opF names o i=o'→Grow h' v' 4 (rows opV (acc++[o'])) (acc++[o']).length→Ext hA h'→(∀b∈blk v',hA.next≤b)→Keep [1,9,10] F0 F'→F' 5=v'→F' 11=.int .i64 ((i+1:Nat):Int)→Q (C env (.loop lbP) (toL 69 F') h'):=by
   intro o' v' h' F' ho' g' x' b' k' f5' f11'
   exact ih (i+1) (acc++[o']) v' h' F' (by omega) (by rw[←hk,ho',List.append_assoc];rfl) (by simp[ha]) x' k' g' b' f5' f11'
  have hm:0≤o.kind%7∧o.kind%7<7:=by omega
  have hF:∀k,1+o.kind%7=k→opF names o i=(if k=1∨k=6 then⟨1,t,[],0⟩ else if k=2∨k=7 then⟨2,t,[],((i+1:Nat):Int)⟩ else if k=3 then⟨3,t,[],0⟩ else if k=4 then⟨4,t.take 1,[],1+o.value%16⟩ else⟨5,[],[],0⟩):=by
   intro k hk;simp only[opF,hk,ht]
  rw[S_loop]
  conv=>arg 1;arg 2;arg 2;simp only[lbP,bodyOf,Option.getD_some,atC,seqL,inC,elC,List.nil_append,List.cons_append,List.getElem?_cons_succ,List.getElem?_cons_zero,Tryz.f19]
  have we:∀k:Int,1+o.kind%7=k→IntKind.i64.wrap (1+o.kind%7)=k:=fun k hk=>by rw[hk,wrap_i64_small (by omega) (by omega)]
  have hkk:1+o.kind%7=1∨1+o.kind%7=2∨1+o.kind%7=3∨1+o.kind%7=4∨1+o.kind%7=5∨1+o.kind%7=6∨1+o.kind%7=7:=by omega
  rcases hkk with hq|hq|hq|hq|hq|hq|hq
  ·have wk:=we _ hq
   have ho':=hF _ hq
   obtain⟨HB,hHB⟩:∃HB,h1.alloc (.cells (opV ⟨1,t,[],0⟩) (.own none))=HB:=⟨_,rfl⟩
   have xB:Ext h1 HB:=by rw[←hHB];exact(Ext.refl h1).alloc _
   have nB:HB.next=h1.next+1:=by rw[←hHB];rfl
   obtain⟨v',h',a1,a2,a3,a4,a5⟩:=app ⟨1,t,[],0⟩ HB xB nB (by rw[←hHB];exact by simp[NHeap.get_alloc])
   simp only[go_sem,seval,f1',f5,f9',f10',f11,i0,i1,gA,row,hle,nb,hH,gH,nm,e1,e2,g1,e3,wk,w1,hHB,a1]
   refine done _ v' h' _ (by rw[ho'];rfl) a2 a3 a5 ?_ (by simp only[go_sem,seval]) (by simp only[go_sem,seval])
   repeat(first|exact kp|refine Keep.upd ?_ rfl)
  ·have wk:=we _ hq
   have ho':=hF _ hq
   obtain⟨HB,hHB⟩:∃HB,h1.alloc (.cells (opV ⟨2,t,[],((i+1:Nat):Int)⟩) (.own none))=HB:=⟨_,rfl⟩
   have xB:Ext h1 HB:=by rw[←hHB];exact(Ext.refl h1).alloc _
   have nB:HB.next=h1.next+1:=by rw[←hHB];rfl
   obtain⟨v',h',a1,a2,a3,a4,a5⟩:=app ⟨2,t,[],((i+1:Nat):Int)⟩ HB xB nB (by rw[←hHB];exact by simp[NHeap.get_alloc])
   simp only[go_sem,seval,f1',f5,f9',f10',f11,i0,i1,gA,row,hle,nb,hH,gH,nm,e1,e2,g1,e3,wk,w1,hHB,a1]
   refine done _ v' h' _ (by rw[ho'];rfl) a2 a3 a5 ?_ (by simp only[go_sem,seval]) (by simp only[go_sem,seval])
   repeat(first|exact kp|refine Keep.upd ?_ rfl)
  ·have wk:=we _ hq
   have ho':=hF _ hq
   obtain⟨HB,hHB⟩:∃HB,h1.alloc (.cells (opV ⟨3,t,[],0⟩) (.own none))=HB:=⟨_,rfl⟩
   have xB:Ext h1 HB:=by rw[←hHB];exact(Ext.refl h1).alloc _
   have nB:HB.next=h1.next+1:=by rw[←hHB];rfl
   obtain⟨v',h',a1,a2,a3,a4,a5⟩:=app ⟨3,t,[],0⟩ HB xB nB (by rw[←hHB];exact by simp[NHeap.get_alloc])
   simp only[go_sem,seval,f1',f5,f9',f10',f11,i0,i1,gA,row,hle,nb,hH,gH,nm,e1,e2,g1,e3,wk,w1,hHB,a1]
   refine done _ v' h' _ (by rw[ho'];rfl) a2 a3 a5 ?_ (by simp only[go_sem,seval]) (by simp only[go_sem,seval])
   repeat(first|exact kp|refine Keep.upd ?_ rfl)
  ·have wk:=we _ hq
   have ho':=hF _ hq
   obtain⟨HB,hHB⟩:∃HB,(h1.alloc .dead).set h1.next (.cells (opV ⟨4,t.take 1,[],1+o.value%16⟩) (.own none))=HB:=⟨_,rfl⟩
   have xB:Ext h1 HB:=by rw[←hHB];exact((Ext.refl h1).alloc _).set (Nat.le_refl _) _
   have nB:HB.next=h1.next+1:=by rw[←hHB];rfl
   obtain⟨v',h',a1,a2,a3,a4,a5⟩:=app ⟨4,t.take 1,[],1+o.value%16⟩ HB xB nB (by rw[←hHB];exact NHeap.get_set_same (by simp))
   have ev:=within_K o.value 0 15 (h1.alloc .dead) (by decide) (by decide) (by decide)
   rw[show(0:Int)+o.value%(15-0+1)=o.value%16 by rw[Int.zero_add];rfl] at ev
   have wv:IntKind.i64.wrap (1+o.value%16)=1+o.value%16:=wrap_i64_small (by omega) (by omega)
   have ts:(1:Int)≤(t.length:Int):=by omega
   simp only[go_sem,seval,f1',f5,f9',f10',f11,i0,i1,gA,row,hle,nb,hH,gH,nm,e1,e2,g1,e3,wk,w1,ev,wv,ts,a4,nb2,hHB,a1,nslice,nbound]
   refine done _ v' h' _ (by rw[ho'];rfl) a2 a3 a5 ?_ (by simp only[go_sem,seval]) (by simp only[go_sem,seval])
   repeat(first|exact kp|refine Keep.upd ?_ rfl)
  ·have wk:=we _ hq
   have ho':=hF _ hq
   obtain⟨HB,hHB⟩:∃HB,h1.alloc (.cells (opV ⟨5,[],[],0⟩) (.own none))=HB:=⟨_,rfl⟩
   have xB:Ext h1 HB:=by rw[←hHB];exact(Ext.refl h1).alloc _
   have nB:HB.next=h1.next+1:=by rw[←hHB];rfl
   obtain⟨v',h',a1,a2,a3,a4,a5⟩:=app ⟨5,[],[],0⟩ HB xB nB (by rw[←hHB];exact by simp[NHeap.get_alloc])
   simp only[go_sem,seval,f1',f5,f9',f10',f11,i0,i1,gA,row,hle,nb,hH,gH,nm,e1,e2,g1,e3,wk,w1,hHB,a1]
   refine done _ v' h' _ (by rw[ho'];rfl) a2 a3 a5 ?_ (by simp only[go_sem,seval]) (by simp only[go_sem,seval])
   repeat(first|exact kp|refine Keep.upd ?_ rfl)
  ·have wk:=we _ hq
   have ho':=hF _ hq
   obtain⟨HB,hHB⟩:∃HB,h1.alloc (.cells (opV ⟨1,t,[],0⟩) (.own none))=HB:=⟨_,rfl⟩
   have xB:Ext h1 HB:=by rw[←hHB];exact(Ext.refl h1).alloc _
   have nB:HB.next=h1.next+1:=by rw[←hHB];rfl
   obtain⟨v',h',a1,a2,a3,a4,a5⟩:=app ⟨1,t,[],0⟩ HB xB nB (by rw[←hHB];exact by simp[NHeap.get_alloc])
   simp only[go_sem,seval,f1',f5,f9',f10',f11,i0,i1,gA,row,hle,nb,hH,gH,nm,e1,e2,g1,e3,wk,w1,hHB,a1]
   refine done _ v' h' _ (by rw[ho'];rfl) a2 a3 a5 ?_ (by simp only[go_sem,seval]) (by simp only[go_sem,seval])
   repeat(first|exact kp|refine Keep.upd ?_ rfl)
  ·have wk:=we _ hq
   have ho':=hF _ hq
   obtain⟨HB,hHB⟩:∃HB,h1.alloc (.cells (opV ⟨2,t,[],((i+1:Nat):Int)⟩) (.own none))=HB:=⟨_,rfl⟩
   have xB:Ext h1 HB:=by rw[←hHB];exact(Ext.refl h1).alloc _
   have nB:HB.next=h1.next+1:=by rw[←hHB];rfl
   obtain⟨v',h',a1,a2,a3,a4,a5⟩:=app ⟨2,t,[],((i+1:Nat):Int)⟩ HB xB nB (by rw[←hHB];exact by simp[NHeap.get_alloc])
   simp only[go_sem,seval,f1',f5,f9',f10',f11,i0,i1,gA,row,hle,nb,hH,gH,nm,e1,e2,g1,e3,wk,w1,hHB,a1]
   refine done _ v' h' _ (by rw[ho'];rfl) a2 a3 a5 ?_ (by simp only[go_sem,seval]) (by simp only[go_sem,seval])
   repeat(first|exact kp|refine Keep.upd ?_ rfl)
theorem Ops_K (h:NHeap) (v:NVal) (ops:List OpS) (ho:Ops h v ops) (hl:ops.length<2^28) (names:Int) (n1:1≤names) (n2:names<2^40):
  ∃v' h',K env 19 [v,.int .i64 names] h=some (v',h')∧Ext h h'∧Grow h' v' 4 (rows opV (opsF names ops 0)) (opsF names ops 0).length∧(∀b∈blk v',h.next≤b):=by
 obtain⟨bo,c,xq,hv⟩:=ho.form
 rw[k19 _ _ (by simp)]
 simp only[bodyOf,Option.getD_some,go_sem,seval,Tryz.f19,hv]
 have key:=fun rest F f1 f9 f10=>loopP h v ops ho hl names n1 n2 F f1 f9 f10 (fun r=>∃v' h',outF Tryz.prog [.tmp 4] (thenD env (blockC 0 r) rest)=some (v',h')∧Ext h h'∧Grow h' v' 4 (rows opV (opsF names ops 0)) (opsF names ops 0).length∧(∀b∈blk v',h.next≤b))
 refine key _ _ ?_ ?_ ?_ ?_ ops.length 0 [] (.slice none 0 0 none) h _ (by omega) (by simp) (by simp) (Ext.refl _) (Keep.refl _ _) (Grow.nil _ _) (by simp[blk]) ?_ ?_
 ·simp only[go_sem,seval]
 ·simp only[go_sem,seval,hv]
 ·simp only[go_sem,seval]
 ·intro h' F rv hE gw hb f5
  refine⟨rv,h',?_,hE,gw,hb⟩
  simp only[go_sem,seval,f5]
 ·simp only[go_sem,seval]
 ·simp only[go_sem,seval]
end kp
end Go.Proofs.YtkjpldganajkkaaGreatDoor.S
namespace Go.Proofs.YtkjpldganajkkaaGreatDoor.S
open Go Go.RowKit Go.Proofs.YtkjpldganajkkaaGreatDoor.NICE
namespace kp
open mir get
abbrev c8 (a b d e f n l t:Int):List NVal:=[.int .i64 a,.int .i64 b,.int .i64 d,.int .i64 e,.int .i64 f,.int .i64 n,.int .i64 l,.int .i64 t]
abbrev cgZ:Own:=.own (some (24,8))
theorem ia0 (b o:Nat):nindexAddr Tryz.prog 22 (.ptr (some (b,o))) (.int .i64 0)=some (.ptr (some (b,o))):=by kernel_rfl
theorem ia1 (b o:Nat):nindexAddr Tryz.prog 22 (.ptr (some (b,o))) (.int .i64 1)=some (.ptr (some (b,o+1))):=by kernel_rfl
theorem ia2 (b o:Nat):nindexAddr Tryz.prog 22 (.ptr (some (b,o))) (.int .i64 2)=some (.ptr (some (b,o+2))):=by kernel_rfl
theorem ia3 (b o:Nat):nindexAddr Tryz.prog 22 (.ptr (some (b,o))) (.int .i64 3)=some (.ptr (some (b,o+3))):=by kernel_rfl
theorem ia4 (b o:Nat):nindexAddr Tryz.prog 22 (.ptr (some (b,o))) (.int .i64 4)=some (.ptr (some (b,o+4))):=by kernel_rfl
theorem bu5 (a b d e f:Int):kBuild Tryz.prog 22 (some [(0,.int .i64 a),(1,.int .i64 b),(2,.int .i64 d),(3,.int .i64 e),(4,.int .i64 f)])=some (.agg [.int .i64 a,.int .i64 b,.int .i64 d,.int .i64 e,.int .i64 f]):=by kernel_rfl
theorem wi (n hi:Int) (h:NHeap) (h1:0≤hi) (h2:hi<2^42):K env 13 [.int .i64 n,.int .i64 0,.int .i64 hi] h=some (.int .i64 (n%(hi+1)),h):=by
 have:=within_K n 0 hi h (by decide) h1 h2
 rw[Int.zero_add,Int.sub_zero] at this
 exact this
theorem nn (n k lo:Int) (hk:0<k) (hl:0≤lo):∃m:Nat,lo+n%k=(m:Int)∧lo≤(m:Int)∧(m:Int)<lo+k:=by
 have h1:=Int.emod_nonneg n (show k≠0 by omega)
 have h2:=Int.emod_lt_of_pos n hk
 exact⟨(lo+n%k).toNat,by omega,by omega,by omega⟩
set_option maxHeartbeats 2000000 in
theorem Config_K (h:NHeap) (x0 x1 x2 x3 x4 x5 x6 x7:Int):∃(a b d e f n lm:Nat) (tr:Int) (h':NHeap),K env 5 [.agg (c8 x0 x1 x2 x3 x4 x5 x6 x7)] h=some (mem.cfgV ([a,b,d,e,f].map fun(n:Nat)=>(n:Int)) n lm tr,h')∧Ext h h'∧
  (40≤a∧a≤60)∧(24≤b∧b≤44)∧(8≤d∧d≤16)∧(4≤e∧e≤8)∧(2≤f∧f≤4)∧(1≤n∧n≤4)∧(8≤lm∧lm≤64)∧(1≤tr∧tr≤6):=by
 obtain⟨a,ha,a1,a2⟩:=nn x0 21 40 (by decide) (by decide)
 obtain⟨b,hb,b1,b2⟩:=nn x1 21 24 (by decide) (by decide)
 obtain⟨d,hd,d1,d2⟩:=nn x2 9 8 (by decide) (by decide)
 obtain⟨e,he,e1,e2⟩:=nn x3 5 4 (by decide) (by decide)
 obtain⟨f,hf,f1,f2⟩:=nn x4 3 2 (by decide) (by decide)
 obtain⟨n,hn,n1,n2⟩:=nn x5 4 1 (by decide) (by decide)
 obtain⟨lm,hl,l1,l2⟩:=nn x6 57 8 (by decide) (by decide)
 obtain⟨tr,ht,t1,t2⟩:=nn x7 6 1 (by decide) (by decide)
 have wa:IntKind.i64.wrap (40+x0%21)=(a:Int):=by rw[wrap_i64_small (by omega) (by omega),ha]
 have wb:IntKind.i64.wrap (24+x1%21)=(b:Int):=by rw[wrap_i64_small (by omega) (by omega),hb]
 have wd:IntKind.i64.wrap (8+x2%9)=(d:Int):=by rw[wrap_i64_small (by omega) (by omega),hd]
 have we:IntKind.i64.wrap (4+x3%5)=(e:Int):=by rw[wrap_i64_small (by omega) (by omega),he]
 have wf:IntKind.i64.wrap (2+x4%3)=(f:Int):=by rw[wrap_i64_small (by omega) (by omega),hf]
 have wn:IntKind.i64.wrap (1+x5%4)=(n:Int):=by rw[wrap_i64_small (by omega) (by omega),hn]
 have wl:IntKind.i64.wrap (8+x6%57)=(lm:Int):=by rw[wrap_i64_small (by omega) (by omega),hl]
 have wt:IntKind.i64.wrap (1+x7%6)=(tr:Int):=by rw[wrap_i64_small (by omega) (by omega),ht]
 obtain⟨N,hN⟩:∃N,h.next=N:=⟨_,rfl⟩
 obtain⟨H0,hH0⟩:∃H0,h.alloc (.cells (c8 x0 x1 x2 x3 x4 x5 x6 x7) (.own none))=H0:=⟨_,rfl⟩
 have m0:H0.next=N+1:=by rw[←hH0,←hN];rfl
 have y0:Ext h H0:=by rw[←hH0];exact(Ext.refl _).alloc _
 have g0:H0.get N=some (.cells (c8 x0 x1 x2 x3 x4 x5 x6 x7) (.own none)):=by rw[←hH0,←hN];simp[NHeap.get_alloc]
 obtain⟨H1,hH1⟩:∃H1,H0.alloc (.cells (c8 0 0 0 0 0 0 0 0) cgZ)=H1:=⟨_,rfl⟩
 have m1:H1.next=N+2:=by rw[←hH1];show H0.next+1=_;omega
 have y1:Ext H0 H1:=by rw[←hH1];exact(Ext.refl _).alloc _
 have z1:H1.get (N+1)=some (.cells (c8 0 0 0 0 0 0 0 0) cgZ):=by rw[←hH1,←m0];simp[NHeap.get_alloc]
 obtain⟨H2,hH2⟩:∃H2,H1.alloc (.cells (c8 0 0 0 0 0 0 0 0) cgZ)=H2:=⟨_,rfl⟩
 have m2:H2.next=N+3:=by rw[←hH2];show H1.next+1=_;omega
 have y2:Ext H1 H2:=by rw[←hH2];exact(Ext.refl _).alloc _
 have t2':H2.get (N+2)=some (.cells (c8 0 0 0 0 0 0 0 0) cgZ):=by rw[←hH2,←m1];simp[NHeap.get_alloc]
 have g2:=(y1.trans y2).get g0
 have z2:=y2.get z1
 have q1:N+1+1=N+2:=rfl
 obtain⟨H3,hH3⟩:∃H3,H2.set (N+2) (.cells (c8 a b d e f 0 0 0) cgZ)=H3:=⟨_,rfl⟩
 obtain⟨H4,hH4⟩:∃H4,H3.set (N+2) (.cells (c8 a b d e f n 0 0) cgZ)=H4:=⟨_,rfl⟩
 obtain⟨H5,hH5⟩:∃H5,H4.set (N+2) (.cells (c8 a b d e f n lm 0) cgZ)=H5:=⟨_,rfl⟩
 obtain⟨H6,hH6⟩:∃H6,H5.set (N+2) (.cells (c8 a b d e f n lm tr) cgZ)=H6:=⟨_,rfl⟩
 have m3:H3.next=N+3:=by rw[←hH3,NHeap.next_set];exact m2
 have m4:H4.next=N+3:=by rw[←hH4,NHeap.next_set];exact m3
 have m5:H5.next=N+3:=by rw[←hH5,NHeap.next_set];exact m4
 have m6:H6.next=N+3:=by rw[←hH6,NHeap.next_set];exact m5
 have s3:H3.get (N+2)=some (.cells (c8 a b d e f 0 0 0) cgZ):=by rw[←hH3,NHeap.get_set_same (by omega)]
 have s4:H4.get (N+2)=some (.cells (c8 a b d e f n 0 0) cgZ):=by rw[←hH4,NHeap.get_set_same (by omega)]
 have s5:H5.get (N+2)=some (.cells (c8 a b d e f n lm 0) cgZ):=by rw[←hH5,NHeap.get_set_same (by omega)]
 have s6:H6.get (N+2)=some (.cells (c8 a b d e f n lm tr) cgZ):=by rw[←hH6,NHeap.get_set_same (by omega)]
 have g3:H3.get N=some (.cells (c8 x0 x1 x2 x3 x4 x5 x6 x7) (.own none)):=by rw[←hH3,NHeap.get_set_ne (by omega)];exact g2
 have g4:H4.get N=some (.cells (c8 x0 x1 x2 x3 x4 x5 x6 x7) (.own none)):=by rw[←hH4,NHeap.get_set_ne (by omega)];exact g3
 have g5:H5.get N=some (.cells (c8 x0 x1 x2 x3 x4 x5 x6 x7) (.own none)):=by rw[←hH5,NHeap.get_set_ne (by omega)];exact g4
 have z6:H6.get (N+1)=some (.cells (c8 0 0 0 0 0 0 0 0) cgZ):=by
  rw[←hH6,NHeap.get_set_ne (by omega),←hH5,NHeap.get_set_ne (by omega),←hH4,NHeap.get_set_ne (by omega),←hH3,NHeap.get_set_ne (by omega)];exact z2
 have o3:N+2<H2.next:=by omega
 have o4:N+2<H3.next:=by omega
 have o5:N+2<H4.next:=by omega
 have o6:N+2<H5.next:=by omega
 have o7:N+1<H6.next:=by omega
 obtain⟨H7,hH7⟩:∃H7,H6.set (N+1) (.cells (c8 a b d e f n lm tr) cgZ)=H7:=⟨_,rfl⟩
 have s7:H7.get (N+1)=some (.cells (c8 a b d e f n lm tr) cgZ):=by rw[←hH7,NHeap.get_set_same o7]
 have kw0:=wi x0 20 H2 (by decide) (by decide)
 have kw1:=wi x1 20 H2 (by decide) (by decide)
 have kw2:=wi x2 8 H2 (by decide) (by decide)
 have kw3:=wi x3 4 H2 (by decide) (by decide)
 have kw4:=wi x4 2 H2 (by decide) (by decide)
 have kw5:=wi x5 3 H3 (by decide) (by decide)
 have kw6:=wi x6 56 H4 (by decide) (by decide)
 have kw7:=wi x7 5 H5 (by decide) (by decide)
 simp only[Int.reduceAdd] at kw0 kw1 kw2 kw3 kw4 kw5 kw6 kw7
 refine⟨a,b,d,e,f,n,lm,tr,H7,?_,?_,by omega,by omega,by omega,by omega,by omega,by omega,by omega,by omega⟩
 ·rw[show mem.cfgV ([a,b,d,e,f].map fun(n:Nat)=>(n:Int)) n lm tr=.agg (c8 a b d e f n lm tr) from rfl]
  rw[k5 _ _ (by simp)]
  simp only[bodyOf,Option.getD_some,go_sem,seval,↓S_drawnY,y_nil,y_plain,y_guard,yGuard_true,yGuard_false,yGo_val,yGo_read,yGo_none,yAgain_true,yNew_some,yNew_none,yChk_true,yDo_some,yEnd_true,looseY_nil,looseY_cons,chainB,afterOf,Bool.or_true,Bool.or_false,Bool.true_or,Bool.false_or,Bool.and_true,Bool.true_and,Bool.false_and,Bool.and_false,true_or,or_true,Tryz.f5,ia0,ia1,ia2,ia3,ia4,bu5,hN,hH0,m0,hH1,m1,hH2,m2,q1,g2,kw0,kw1,kw2,kw3,kw4,wa,wb,wd,we,wf,t2',o3,hH3,m3,g3,kw5,wn,s3,o4,hH4,g4,kw6,wl,s4,o5,hH5,g5,kw7,wt,s5,o6,hH6,s6,z6,o7,hH7,s7,Nat.le_refl]
  try rfl
 ·have yy:=(y0.trans y1).trans y2
  have e3:Ext h H3:=by rw[←hH3];exact yy.set (by omega) _
  have e4:Ext h H4:=by rw[←hH4];exact e3.set (by omega) _
  have e5:Ext h H5:=by rw[←hH5];exact e4.set (by omega) _
  have e6:Ext h H6:=by rw[←hH6];exact e5.set (by omega) _
  rw[←hH7];exact e6.set (by omega) _
end kp
end Go.Proofs.YtkjpldganajkkaaGreatDoor.S
namespace Go.Proofs.YtkjpldganajkkaaGreatDoor.S
open Go Go.RowKit Go.Proofs.YtkjpldganajkkaaGreatDoor.NICE
namespace kp
open mir get tree
def putV (i k:Nat) (o:OpS):OpS:=if o.kind=2 then{o with value:=((100*i+k+1:Nat):Int)} else o
def putsV (i:Nat):List OpS→Nat→List OpS
 |[],_=>[]
 |o::r,k=>putV i k o::putsV i r (k+1)
theorem putsV_len (i:Nat):∀(l:List OpS) (k:Nat),(putsV i l k).length=l.length
 |[],_=>rfl
 |o::r,k=>by simp[putsV,putsV_len i r]
theorem putsV_at (i:Nat):∀(l:List OpS) (k j:Nat),(putsV i l k)[j]? =l[j]?.map (putV i (k+j))
 |[],_,_=>by simp[putsV]
 |o::r,k,0=>by simp[putsV]
 |o::r,k,j+1=>by
  rw[putsV,List.getElem?_cons_succ,List.getElem?_cons_succ,putsV_at i r (k+1) j,Nat.add_right_comm k 1 j]
  rfl
def listF (most:Nat) (names:Int) (i:Nat) (l:List OpS):List OpS:=putsV i (opsF names (l.take most) 0) 0
def listsF (most:Nat) (names:Int):List (List OpS)→Nat→List (List OpS)
 |[],_=>[]
 |l::r,i=>listF most names i l::listsF most names r (i+1)
theorem listF_len (most:Nat) (names:Int) (i:Nat) (l:List OpS):(listF most names i l).length=min most l.length:=by
 rw[listF,putsV_len,opsF_len,List.length_take]
noncomputable def lbL:Code:=inC (inC (atC (bodyOf Tryz.f7) 3))
noncomputable def lbI:Code:=inC (inC (atC (inC (atC lbL 2)) 5))
structure Half (i k:Nat) (l cur:List OpS):Prop where
 len:cur.length=l.length
 at_:∀j,cur[j]? =if j<k then l[j]?.map (putV i j) else l[j]?
theorem Half.zero (i:Nat) (l:List OpS):Half i 0 l l:=⟨rfl,fun j=>by simp⟩
theorem Half.all {i:Nat} {l cur:List OpS} (h:Half i l.length l cur):cur=putsV i l 0:=by
 apply List.ext_getElem?
 intro j
 rw[putsV_at,h.at_,Nat.zero_add]
 by_cases hj:j<l.length
 ·rw[if_pos hj]
 ·rw[if_neg hj,List.getElem?_eq_none (by omega)];rfl
theorem Half.step {i k:Nat} {l cur:List OpS} (h:Half i k l cur) {o:OpS} (ho:l[k]? =some o):Half i (k+1) l (cur.set k (putV i k o)):=by
 have hk:=(List.getElem?_eq_some_iff.1 ho).1
 refine⟨by rw[List.length_set];exact h.len,fun j=>?_⟩
 by_cases hj:j=k
 ·subst hj
  rw[List.getElem?_set_self (by rw[h.len];exact hk),if_pos (Nat.lt_succ_self _),ho];rfl
 ·rw[List.getElem?_set_ne (Ne.symm hj),h.at_]
  by_cases hjk:j<k
  ·rw[if_pos hjk,if_pos (by omega)]
  ·rw[if_neg hjk,if_neg (by omega)]
set_option maxHeartbeats 1000000 in
theorem loopI (hA:NHeap) (nb i:Nat) (hi:i<2^20) (l:List OpS) (hl:l.length<2^20) (q:Option (TypeId×Nat)) (c:Nat) (xc:Option Nat) (F0:Fr) (f11:F0 11=.slice (some (nb,0)) l.length c xc) (f10:F0 10=.int .i64 (i:Nat)) (f39:F0 39=.int .i64 (l.length:Nat)) (Q:Out→Prop)
  (hQ:∀(h:NHeap) (F:Fr),Upd [nb] hA h→h.get nb=some (.cells (rows opV (putsV i l 0)) (.own q))→Keep [0,1,2,3,9,10,11] F0 F→Q (some (.exit 2,toL 64 F,h))):
  ∀(f k:Nat) (cur:List OpS) (h:NHeap) (F:Fr),k+f=l.length→Half i k l cur→Upd [nb] hA h→h.get nb=some (.cells (rows opV cur) (.own q))→Keep [0,1,2,3,9,10,11,39] F0 F→F 40=.int .i64 (k:Nat)→Q (C env (.loop lbI) (toL 64 F) h):=by
 intro f
 induction f with
 |zero=>
  intro k cur h F hk hc u g kp f40
  have:k=l.length:=by omega
  subst this
  have f39':=(kp 39 rfl).trans f39
  rw[S_loop]
  conv=>arg 1;arg 2;arg 2;simp only[lbI,lbL,bodyOf,Option.getD_some,atC,seqL,inC,elC,List.nil_append,List.cons_append,List.getElem?_cons_succ,List.getElem?_cons_zero,Tryz.f7]
  simp only[go_sem,seval,f39',f40]
  refine hQ h _ u (by rw[←hc.all];exact g) ?_
  repeat(first|exact kp.sub rfl|refine Keep.upd ?_ rfl)
 |succ f ih=>
  intro k cur h F hk hc u g kp f40
  have f39':=(kp 39 rfl).trans f39
  have f10':=(kp 10 rfl).trans f10
  have f11':=(kp 11 rfl).trans f11
  have k0:(0:Int)≤(k:Int):=by omega
  have k1:(k:Int)<(l.length:Int):=by omega
  obtain⟨o,ho⟩:∃o,l[k]? =some o:=⟨l[k]'(by omega),List.getElem?_eq_getElem (by omega)⟩
  have hcur:cur[k]? =some o:=by rw[hc.at_,if_neg (by omega),ho]
  have w1:IntKind.i64.wrap ((k:Int)+1)=((k+1:Nat):Int):=by rw[wrap_i64_small (by omega) (by omega)];omega
  have w2:IntKind.i64.wrap (100*(i:Int))=((100*i:Nat):Int):=by rw[wrap_i64_small (by omega) (by omega)];omega
  have w3:IntKind.i64.wrap (((100*i:Nat):Int)+(k:Int))=((100*i+k:Nat):Int):=by rw[wrap_i64_small (by omega) (by omega)];omega
  have w4:IntKind.i64.wrap (((100*i+k:Nat):Int)+1)=((100*i+k+1:Nat):Int):=by rw[wrap_i64_small (by omega) (by omega)];omega
  have hlen:(rows opV cur).length=l.length*4:=by rw[rows_len Op.len,hc.len]
  have c0:(rows opV cur)[k*4]? =some (.int .i64 o.kind):=by
   have:=rows_cell (f:=opV) Op.len hcur (j:=0) (by decide)
   rw[Nat.add_zero] at this
   exact this
  have hle:k*4+3+1≤(rows opV cur).length:=by omega
  have hst:setRange (rows opV cur) (k*4+3) [.int .i64 ((100*i+k+1:Nat):Int)]=rows opV (cur.set k {o with value:=((100*i+k+1:Nat):Int)}):=rows_setR Op.len hcur rfl (by simp)
  have ln:=NHeap.get_lt g
  rw[S_loop]
  conv=>arg 1;arg 2;arg 2;simp only[lbI,lbL,bodyOf,Option.getD_some,atC,seqL,inC,elC,List.nil_append,List.cons_append,List.getElem?_cons_succ,List.getElem?_cons_zero,Tryz.f7]
  by_cases ck:o.kind=2
  ·have pv:putV i k o=⟨2,o.term,o.to,((100*i+k+1:Nat):Int)⟩:=by rw[putV,if_pos ck,ck]
   rw[ck] at hst
   obtain⟨H2,hH2⟩:∃H2,h.set nb (.cells (rows opV (cur.set k ⟨2,o.term,o.to,((100*i+k+1:Nat):Int)⟩)) (.own q))=H2:=⟨_,rfl⟩
   have u2:Upd [nb] hA H2:=by rw[←hH2];exact u.set (.inl (by simp)) _
   simp only[go_sem,seval,f11',f10',f39',f40,k0,k1,g,c0,ck,w1,w2,w3,w4,hle,hst,ln,hH2]
   refine ih (k+1) _ H2 _ (by omega) (hc.step ho) u2 (by rw[pv,←hH2,NHeap.get_set_same ln]) ?_ (by simp only[go_sem,seval])
   repeat(first|exact kp|refine Keep.upd ?_ rfl)
  ·have pv:putV i k o=o:=by rw[putV,if_neg ck]
   have sm:cur.set k o=cur:=by
    apply List.ext_getElem?
    intro j
    by_cases hj:j=k
    ·subst hj;rw[List.getElem?_set_self (by rw[hc.len];omega),hcur]
    ·rw[List.getElem?_set_ne (Ne.symm hj)]
   have hs:=hc.step ho
   rw[pv,sm] at hs
   simp only[go_sem,seval,f11',f10',f39',f40,k0,k1,g,c0,ck,w1]
   refine ih (k+1) _ h _ (by omega) hs u g ?_ (by simp only[go_sem,seval])
   repeat(first|exact kp|refine Keep.upd ?_ rfl)
end kp
end Go.Proofs.YtkjpldganajkkaaGreatDoor.S
namespace Go.Proofs.YtkjpldganajkkaaGreatDoor.S
open Go Go.RowKit Go.Proofs.YtkjpldganajkkaaGreatDoor.NICE
namespace kp
open mir get tree arena
theorem loopJ (hA:NHeap) (v:NVal) (i:Nat) (hi:i<2^20) (l:List OpS) (hl:l.length<2^20) (gw:Grow hA v 4 (rows opV l) l.length) (F0:Fr) (f11:F0 11=v) (f10:F0 10=.int .i64 (i:Nat)) (f39:F0 39=.int .i64 (l.length:Nat)) (f40:F0 40=.int .i64 (0:Nat)) (Q:Out→Prop)
  (hQ:∀(h:NHeap) (F:Fr),Upd (blk v) hA h→Grow h v 4 (rows opV (putsV i l 0)) l.length→Keep [0,1,2,3,9,10,11] F0 F→Q (some (.exit 2,toL 64 F,h))):Q (C env (.loop lbI) (toL 64 F0) hA):=by
 rcases gw with⟨hv,_,h0⟩|⟨b,x,q,hv,hx,g,hlen,hpos⟩
 ·have e:l=[]:=List.eq_nil_of_length_eq_zero h0
  subst e
  subst hv
  rw[S_loop]
  conv=>arg 1;arg 2;arg 2;simp only[lbI,lbL,bodyOf,Option.getD_some,atC,seqL,inC,elC,List.nil_append,List.cons_append,List.getElem?_cons_succ,List.getElem?_cons_zero,Tryz.f7]
  simp only[List.length_nil] at f39
  simp only[go_sem,seval,f39,f40]
  refine hQ hA _ (Upd.refl _ _) (Grow.nil _ _) ?_
  repeat(first|exact Keep.refl _ _|refine Keep.upd ?_ rfl)
 ·subst hv
  refine loopI hA b i hi l hl q l.length x F0 f11 f10 f39 Q (fun h F u g' kp=>hQ h F (by simpa[blk] using u) (.inr ⟨b,x,q,rfl,hx,g',?_,hpos⟩) kp) l.length 0 l hA F0 (by omega) (Half.zero _ _) (Upd.refl _ _) g (Keep.refl _ _) f40
  rw[rows_len Op.len,putsV_len]
structure Acc (hA h:NHeap) (ov:NVal) (acc:List (NVal×List OpS)):Prop where
 x:Ext hA h
 gw:Grow h ov 1 (rows opR acc) acc.length
 nb:∀b∈blk ov,hA.next≤b
 el:∀p∈acc,Grow h p.1 4 (rows opV p.2) p.2.length∧p.1.one=true∧∀b∈blk p.1,hA.next≤b∧b∉blk ov
theorem oprL (p:NVal×List OpS):(opR p).length=1:=rfl
set_option maxHeartbeats 2000000 in
theorem loopL (hA:NHeap) (v:NVal) (ins:List (NVal×List OpS)) (hs:Rw hA 1 opR v ins) (hin:∀p∈ins,Rw hA 4 opV p.1 p.2) (n most:Nat) (hn:n<2^10) (hm:most<2^10) (names:Int) (n1:1≤names) (n2:names<2^40) (F0:Fr) (f0:F0 0=v) (f1:F0 1=.int .i64 (n:Nat)) (f2:F0 2=.int .i64 (most:Nat)) (f3:F0 3=.int .i64 names) (R:List (List OpS)) (Q:Out→Prop)
  (hQ:∀(h:NHeap) (F:Fr) (ov:NVal) (acc:List (NVal×List OpS)),Acc hA h ov acc→acc.map (·.2)=R→F 9=ov→Q (some (.exit 0,toL 64 F,h))):
  ∀(f i:Nat) (acc:List (NVal×List OpS)) (ov:NVal) (h:NHeap) (F:Fr),i+f=min n ins.length→acc.length=i→Acc hA h ov acc→acc.map (·.2)++listsF most names (((ins.take n).map (·.2)).drop i) i=R→Keep [0,1,2,3] F0 F→F 9=ov→F 10=.int .i64 (i:Nat)→Q (C env (.loop lbL) (toL 64 F) h):=by
 intro f
 induction f with
 |zero=>
  intro i acc ov h F hi ha A hR kp f9 f10
  have f0':=(kp 0 rfl).trans f0
  have f1':=(kp 1 rfl).trans f1
  obtain⟨bo,c,xq,hv⟩:=hs.form
  rw[hv] at f0'
  have hd:((ins.take n).map (·.2)).drop i=[]:=List.drop_of_length_le (by simp;omega)
  rw[hd,listsF,List.append_nil] at hR
  rw[S_loop]
  conv=>arg 1;arg 2;arg 2;simp only[lbL,bodyOf,Option.getD_some,atC,seqL,inC,elC,List.nil_append,List.cons_append,List.getElem?_cons_succ,List.getElem?_cons_zero,Tryz.f7]
  by_cases c1:(i:Int)<(ins.length:Int)
  ·have c2:¬(i:Int)<(n:Int):=by omega
   simp only[go_sem,seval,f0',f1',f10,c1,c2]
   exact hQ h _ ov acc A hR (by simp only[go_sem,seval,f9])
  ·simp only[go_sem,seval,f0',f1',f10,c1]
   exact hQ h _ ov acc A hR (by simp only[go_sem,seval,f9])
 |succ f ih=>
  intro i acc ov h F hi ha A hR kp f9 f10
  have f0':=(kp 0 rfl).trans f0
  have f1':=(kp 1 rfl).trans f1
  have f2':=(kp 2 rfl).trans f2
  have f3':=(kp 3 rfl).trans f3
  obtain⟨p,hp⟩:∃p,ins[i]? =some p:=⟨ins[i]'(by omega),List.getElem?_eq_getElem (by omega)⟩
  obtain⟨b,oo,c',x',all,mm,hv',gA,row,hle⟩:=Sl.elem oprL (hs.ext A.x) hp
  rw[hv'] at f0'
  have i0:(0:Int)≤(i:Int):=by omega
  have c1:(i:Int)<(ins.length:Int):=by omega
  have c2:(i:Int)<(n:Int):=by omega
  have w1:IntKind.i64.wrap ((i:Int)+1)=((i+1:Nat):Int):=by rw[wrap_i64_small (by omega) (by omega)];omega
  have cell:all[oo+i]? =some p.1:=by
   have:=congrArg (fun l=>l[0]?) row
   simpa[List.getElem?_take,List.getElem?_drop] using this
  have dr:((ins.take n).map (·.2)).drop i=p.2::((ins.take n).map (·.2)).drop (i+1):=drop_at (by rw[List.getElem?_map,List.getElem?_take_of_lt (by omega),hp];rfl)
  rw[dr,listsF] at hR
  have s0:=(hin p (List.mem_of_getElem? hp)).ext A.x
  obtain⟨bi,ci,xi,hpv⟩:=s0.form
  have part:∃v1,Rw h 4 opV v1 (p.2.take most)∧((¬(most:Int)<(p.2.length:Int)∧v1=p.1)∨((most:Int)<(p.2.length:Int)∧nslice Tryz.prog 52 p.1 none (some (.int .i64 (most:Int)))=some v1)):=by
   by_cases q:(most:Int)<(p.2.length:Int)
   ·obtain⟨v1,e1,s1⟩:=Sl.take s0 Tryz.underlying52 sz55 .i64 most (by omega)
    rw[rows_take Op.len] at s1
    refine⟨v1,?_,.inr ⟨q,e1⟩⟩
    rw[Rw,List.length_take,Nat.min_eq_left (by omega)]
    exact s1
   ·exact⟨p.1,by rw[List.take_of_length_le (by omega)];exact s0,.inl ⟨q,rfl⟩⟩
  obtain⟨v1,s1,hv1⟩:=part
  have hl1:(p.2.take most).length<2^28:=by rw[List.length_take];omega
  obtain⟨v2,h2,e2,x2,gw2,nb2⟩:=Ops_K h v1 (p.2.take most) s1 hl1 names n1 n2
  obtain⟨os,hos⟩:∃os,opsF names (p.2.take most) 0=os:=⟨_,rfl⟩
  have osl:os.length≤most:=by rw[←hos,opsF_len,List.length_take];omega
  have lf:listF most names i p.2=putsV i os 0:=by rw[listF,hos]
  rw[hos] at gw2
  rw[lf] at hR
  obtain⟨b2,k2,y2,hv2⟩:=gw2.sl.form
  obtain⟨b1,k1,y1,hv1f⟩:=s1.form
  have one2:v2.one=true:=by rw[hv2];rfl
  have fin:∀(h3:NHeap) (F3:Fr),Upd (blk v2) h2 h3→Grow h3 v2 4 (rows opV (putsV i os 0)) os.length→F3 9=ov→F3 11=v2→F3 10=.int .i64 (i:Nat)→Keep [0,1,2,3] F0 F3→
    ∀Hc,h3.alloc (.cells [v2] (.own none))=Hc→∃ov' H,nappend Tryz.prog 25 25 ov (.slice (some (h3.next,0)) 1 1 none) Hc=some (ov',H)∧Acc hA H ov' (acc++[(v2,putsV i os 0)]):=by
   intro h3 F3 u3 g3 _ _ _ _ Hc hHc
   have xc:Ext h3 Hc:=by rw[←hHc];exact(Ext.refl _).alloc _
   have nc:Hc.next=h3.next+1:=by rw[←hHc];rfl
   have un:Upd [] h h3:=((Upd.of_ext x2).trans' u3 fun b hb=>.inr (nb2 b hb))
   have xh3:=un.ext
   have gov:Grow Hc ov 1 (rows opR acc) acc.length:=(A.gw.upd (Upd.of_ext xh3) (by simp)).upd (Upd.of_ext xc) (by simp)
   have hone:allOne (rows opR acc)=true:=allOne_rows acc fun q hq=>by simp[opR,allOne,(A.el q hq).2.1]
   obtain⟨H,ea,nH,gH,uH⟩:=grow_oneL (f:=opR) oprL Tryz.underlying25 sz52 by52 ze52 rfl (by decide) gov (nb:=h3.next) (a:=(v2,putsV i os 0)) (m:=.own none) (by rw[←hHc];simp[NHeap.get_alloc]) (by simp[opR,allOne,one2]) hone (by omega) (by omega)
   have hx:=A.x.next
   have hx3:=xh3.next
   have hovlt:=A.gw.lt
   refine⟨_,H,ea,⟨?_,by rw[List.length_append];exact gH,fun b hb=>by simp[blk] at hb;omega,fun q hq=>?_⟩⟩
   ·have:Upd [] hA H:=((Upd.of_ext ((A.x.trans xh3).trans xc)).trans' uH fun b hb=>.inr (A.nb b hb))
    exact this.ext
   ·rcases List.mem_append.1 hq with hq|hq
    ·obtain⟨q1,q2,q3⟩:=A.el q hq
     refine⟨(((q1.upd (Upd.of_ext xh3) (by simp)).upd (Upd.of_ext xc) (by simp))).upd uH fun b hb=>(q3 b hb).2,q2,fun b hb=>⟨(q3 b hb).1,fun hb'=>?_⟩⟩
     have:=q1.lt b hb
     simp[blk] at hb'
     omega
    ·have:q=(v2,putsV i os 0):=by simpa using hq
     subst this
     have l3:=g3.lt
     refine⟨?_,one2,fun b hb=>⟨by have:=nb2 b hb;omega,fun hb'=>by have:=l3 b hb;simp[blk] at hb';omega⟩⟩
     rw[putsV_len]
     refine(g3.upd (Upd.of_ext xc) (by simp)).upd uH fun b hb hb'=>?_
     have:=nb2 b hb
     have:=hovlt b hb'
     omega
  rw[S_loop]
  conv=>arg 1;arg 2;arg 2;simp only[lbL,bodyOf,Option.getD_some,atC,seqL,inC,elC,List.nil_append,List.cons_append,List.getElem?_cons_succ,List.getElem?_cons_zero,Tryz.f7]
  have key:=fun A B C F4 a1 a2 a3 a4=>loopJ h2 v2 i (by omega) os (by omega) gw2 F4 a1 a2 a3 a4 (fun r=>Q (thenD env (thenD env (blockC 1 (thenD env (blockC 2 r) A)) B) C))
  simp only[lbI,lbL,bodyOf,Option.getD_some,atC,seqL,inC,elC,List.nil_append,List.cons_append,List.getElem?_cons_succ,List.getElem?_cons_zero,Tryz.f7] at key
  obtain⟨ob,oc,ox,hov⟩:=A.gw.sl.form
  rw[hpv] at hv1
  rcases hv1 with⟨cm,q⟩|⟨cm,q⟩
  ·rw[q] at e2
   simp only[go_sem,seval,f0',f1',f2',f3',f9,f10,i0,c1,c2,gA,cell,hpv,cm,e2,hv2]
   refine key _ _ _ _ ?_ ?_ ?_ ?_ ?_
   rotate_left 4
   ·intro h3 F3 u3 g3 k3
    have b9:=k3 9 rfl
    have b10:=k3 10 rfl
    have b11:=k3 11 rfl
    have k0:=k3.sub (l:=[0,1,2,3]) rfl
    simp only[go_sem,seval,f9,f10] at b9 b10 b11
    obtain⟨Hc,hHc⟩:∃Hc,h3.alloc (.cells [v2] (.own none))=Hc:=⟨_,rfl⟩
    have k00:Keep [0,1,2,3] F0 F3:=by
     refine Keep.trans ?_ k0
     repeat(first|exact kp|refine Keep.upd ?_ rfl)
    obtain⟨ov',H,ea,A'⟩:=fin h3 F3 u3 g3 b9 (by rw[hv2];exact b11) b10 k00 Hc hHc
    rw[hov] at b9 ea
    rw[hv2] at hHc
    simp only[go_sem,seval,b9,b10,b11,hHc,ea,w1]
    refine ih (i+1) _ ov' H _ (by omega) (by simp[ha]) A' (by rw[List.map_append,List.append_assoc];exact hR) ?_ ?_ ?_
    ·repeat(first|exact k00|refine Keep.upd ?_ rfl)
    ·simp only[go_sem,seval]
    ·simp only[go_sem,seval]
   all_goals simp only[go_sem,seval,f10,hv2]
   all_goals rfl
  ·rw[hv1f] at e2 q
   simp only[go_sem,seval,f0',f1',f2',f3',f9,f10,i0,c1,c2,gA,cell,hpv,cm,q,e2,hv2]
   refine key _ _ _ _ ?_ ?_ ?_ ?_ ?_
   rotate_left 4
   ·intro h3 F3 u3 g3 k3
    have b9:=k3 9 rfl
    have b10:=k3 10 rfl
    have b11:=k3 11 rfl
    have k0:=k3.sub (l:=[0,1,2,3]) rfl
    simp only[go_sem,seval,f9,f10] at b9 b10 b11
    obtain⟨Hc,hHc⟩:∃Hc,h3.alloc (.cells [v2] (.own none))=Hc:=⟨_,rfl⟩
    have k00:Keep [0,1,2,3] F0 F3:=by
     refine Keep.trans ?_ k0
     repeat(first|exact kp|refine Keep.upd ?_ rfl)
    obtain⟨ov',H,ea,A'⟩:=fin h3 F3 u3 g3 b9 (by rw[hv2];exact b11) b10 k00 Hc hHc
    rw[hov] at b9 ea
    rw[hv2] at hHc
    simp only[go_sem,seval,b9,b10,b11,hHc,ea,w1]
    refine ih (i+1) _ ov' H _ (by omega) (by simp[ha]) A' (by rw[List.map_append,List.append_assoc];exact hR) ?_ ?_ ?_
    ·repeat(first|exact k00|refine Keep.upd ?_ rfl)
    ·simp only[go_sem,seval]
    ·simp only[go_sem,seval]
   all_goals simp only[go_sem,seval,f10,hv2]
   all_goals rfl
end kp
end Go.Proofs.YtkjpldganajkkaaGreatDoor.S
namespace Go.Proofs.YtkjpldganajkkaaGreatDoor.S
open Go Go.RowKit Go.Proofs.YtkjpldganajkkaaGreatDoor.NICE
namespace kp
open mir get tree
theorem Lists_K (h:NHeap) (v:NVal) (ins:List (NVal×List OpS)) (hs:Rw h 1 opR v ins) (hin:∀p∈ins,Rw h 4 opV p.1 p.2) (n most:Nat) (hn:n<2^10) (hm:most<2^10) (names:Int) (n1:1≤names) (n2:names<2^40):
  ∃v' h' ls,K env 7 [v,.int .i64 (n:Nat),.int .i64 (most:Nat),.int .i64 names] h=some (v',h')∧Acc h h' v' ls∧ls.map (·.2)=listsF most names ((ins.take n).map (·.2)) 0:=by
 rw[k7 _ _ (by simp)]
 simp only[bodyOf,Option.getD_some,go_sem,seval,Tryz.f7]
 have key:=fun rest F f0 f1 f2 f3=>loopL h v ins hs hin n most hn hm names n1 n2 F f0 f1 f2 f3 (listsF most names ((ins.take n).map (·.2)) 0) (fun r=>∃v' h' ls,outF Tryz.prog [.tmp 8] (thenD env (blockC 0 r) rest)=some (v',h')∧Acc h h' v' ls∧ls.map (·.2)=listsF most names ((ins.take n).map (·.2)) 0)
 refine key _ _ ?_ ?_ ?_ ?_ ?_ (min n ins.length) 0 [] (.slice none 0 0 none) h _ (by omega) rfl ⟨Ext.refl _,Grow.nil _ _,by simp[blk],fun p hp=>by cases hp⟩ ?_ (Keep.refl _ _) ?_ ?_
 ·simp only[go_sem,seval]
 ·simp only[go_sem,seval]
 ·simp only[go_sem,seval]
 ·simp only[go_sem,seval]
 ·intro h' F ov acc A hR f9
  exact⟨ov,h',acc,by simp only[go_sem,seval,f9],A,hR⟩
 ·rfl
 ·simp only[go_sem,seval]
 ·simp only[go_sem,seval]
theorem letters_ne:∀f m,∀c∈letters f m,c≠0:=by
 intro f
 induction f with
 |zero=>intro m c hc;simp[letters] at hc
 |succ f ih=>
  intro m c hc
  unfold letters at hc
  split at hc
  ·cases hc
  ·rcases List.mem_cons.1 hc with hc|hc
   ·rw[hc]
    have h1:(97+m%6)<256:=by omega
    intro q
    have:=congrArg UInt8.toNat q
    simp at this
    omega
   ·exact ih _ c hc
theorem term_ne (m:Nat):∀c∈term m,c≠0:=by
 intro c hc
 rcases List.mem_cons.1 hc with hc|hc
 ·rw[hc]
  have h1:(97+m%4)<256:=by omega
  intro q
  have:=congrArg UInt8.toNat q
  simp at this
  omega
 ·exact letters_ne _ _ c hc
theorem rt_of {s:List UInt8} (h1:1≤s.length) (h2:s.length≤12) (h3:∀c∈s,c≠0):made.rightT s=true:=by
 unfold made.rightT
 simp only[Bool.and_eq_true,decide_eq_true_eq,List.all_eq_true]
 refine⟨h1,h2,fun c hc=>?_⟩
 have:=h3 c hc
 simp[this]
theorem termI_len (n:Int):(termI n).length≤8:=by
 have:=letters_len 7 ((n%1048576).toNat/4)
 simp[termI,term]
 omega
theorem termI_ok (n:Int):made.rightT (termI n)=true:=rt_of (termI_pos n) (by have:=termI_len n;omega) (term_ne _)
theorem opF_ok (names:Int) (o:OpS) (i:Nat) (hi:i<2^20) (j m:Nat) (hj:j<2^10) (hm:m<2^20) (n:Int) (h1:1≤n) (h2:n≤8):okOp (putV j m (opF names o i)) 1 n=true∧(putV j m (opF names o i)).term.length<2^26:=by
 have ht:=termI_ok (o.value%(names+1))
 have hl:=termI_len (o.value%(names+1))
 have hp:=termI_pos (o.value%(names+1))
 obtain⟨t,htt⟩:∃t,termI (o.value%(names+1))=t:=⟨_,rfl⟩
 unfold opF
 simp only[htt] at ht hl hp⊢
 have e1:=Int.emod_nonneg o.value (show(16:Int)≠0 by decide)
 have e2:=Int.emod_lt_of_pos o.value (show(0:Int)<16 by decide)
 split
 ·exact⟨by simp[putV,okOp,okGet,ht],by simp[putV];omega⟩
 ·split
  ·refine⟨?_,by simp[putV];omega⟩
   have b1:(0:Int)≤100*(j:Int)+(m:Int)+1:=by omega
   have b2:100*(j:Int)+(m:Int)+1≤1099511627776:=by omega
   simp[putV,okOp,put.okPut,ht,b1,b2]
  ·split
   ·exact⟨by simp[putV,okOp,drop.okDrop,ht],by simp[putV];omega⟩
   ·split
    ·refine⟨?_,by simp[putV];omega⟩
     have b1:(1:Int)≤1+o.value%16:=by omega
     have b2:1+o.value%16≤16:=by omega
     have b3:min 1 t.length≤13:=by omega
     simp[putV,okOp,scan.okScan,b1,b2,b3]
    ·exact⟨by simp[putV,okOp,tick.okTick,h1,h2],by simp[putV]⟩
theorem opsF_at (names:Int):∀(l:List OpS) (i k:Nat),(opsF names l i)[k]? =l[k]?.map fun o=>opF names o (i+k)
 |[],_,_=>by simp[opsF]
 |o::r,i,0=>by simp[opsF]
 |o::r,i,k+1=>by
  rw[opsF,List.getElem?_cons_succ,List.getElem?_cons_succ,opsF_at names r (i+1) k,Nat.add_right_comm i 1 k]
  rfl
theorem listF_ok (most:Nat) (hm:most<2^10) (names:Int) (j:Nat) (hj:j<2^10) (l:List OpS) (n:Int) (h1:1≤n) (h2:n≤8):∀o∈listF most names j l,okOp o 1 n=true∧o.term.length<2^26:=by
 intro o ho
 obtain⟨m,hmm⟩:=List.mem_iff_getElem?.1 ho
 have hlt:=(List.getElem?_eq_some_iff.1 hmm).1
 rw[listF_len] at hlt
 rw[listF,putsV_at,opsF_at] at hmm
 obtain⟨q,hq⟩:∃q,(l.take most)[m]? =some q:=⟨(l.take most)[m]'(by simp;omega),List.getElem?_eq_getElem _⟩
 rw[hq] at hmm
 simp only[Option.map_some,Option.some.injEq] at hmm
 rw[←hmm]
 exact opF_ok names q (0+m) (by omega) j (0+m) hj (by omega) n h1 h2
theorem listsF_at (most:Nat) (names:Int):∀(L:List (List OpS)) (i k:Nat),(listsF most names L i)[k]? =L[k]?.map fun l=>listF most names (i+k) l
 |[],_,_=>by simp[listsF]
 |o::r,i,0=>by simp[listsF]
 |o::r,i,k+1=>by
  rw[listsF,List.getElem?_cons_succ,List.getElem?_cons_succ,listsF_at most names r (i+1) k,Nat.add_right_comm i 1 k]
  rfl
theorem listsF_len (most:Nat) (names:Int):∀(L:List (List OpS)) (i:Nat),(listsF most names L i).length=L.length
 |[],_=>rfl
 |o::r,i=>by simp[listsF,listsF_len most names r]
theorem listsF_ok (most:Nat) (hm:most<2^10) (names:Int) (L:List (List OpS)) (hL:L.length<2^10) (n:Int) (h1:1≤n) (h2:n≤8):∀l∈listsF most names L 0,l.length≤most∧∀o∈l,okOp o 1 n=true∧o.term.length<2^26:=by
 intro l hl
 obtain⟨k,hk⟩:=List.mem_iff_getElem?.1 hl
 have hlt:=(List.getElem?_eq_some_iff.1 hk).1
 rw[listsF_len] at hlt
 rw[listsF_at,List.getElem?_eq_getElem hlt] at hk
 simp only[Option.map_some,Option.some.injEq] at hk
 rw[←hk]
 exact⟨by rw[listF_len];omega,listF_ok most hm names _ (by omega) _ n h1 h2⟩
theorem Acc.ll {hA h:NHeap} {ov:NVal} {acc:List (NVal×List OpS)} (A:Acc hA h ov acc) (hl:∀p∈acc,p.2.length<2^28):LL ⟨h,fun _=>0⟩ ov acc:=
 ⟨sl_fz A.gw.sl fun _ _=>rfl,fun p hp=>⟨sl_fz (A.el p hp).1.sl fun _ _=>rfl,hl p hp⟩⟩
end kp
end Go.Proofs.YtkjpldganajkkaaGreatDoor.S
namespace Go.Proofs.YtkjpldganajkkaaGreatDoor.S
open Go Go.RowKit Go.Proofs.YtkjpldganajkkaaGreatDoor.NICE
namespace mir
open word node pack
theorem addSlots_at (c:Nat):∀(n:Nat) (σ:ArenaS),(addSlots c n σ).slots=σ.slots++List.replicate n ⟨c,1,false,poisonW c⟩∧(addSlots c n σ).free c=σ.free c++(List.range n).map (fun k=>((σ.slots.length+k:Nat):Int))∧∀j,j≠c→(addSlots c n σ).free j=σ.free j
 |0,σ=>⟨by simp[addSlots],by simp[addSlots],fun _ _=>rfl⟩
 |n+1,σ=>by
  obtain⟨h1,h2,h3⟩:=addSlots_at c n (addSlot c σ)
  refine⟨?_,?_,fun j hj=>?_⟩
  ·show(addSlots c n (addSlot c σ)).slots=_
   rw[h1]
   simp[addSlot,List.replicate_succ]
  ·show(addSlots c n (addSlot c σ)).free c=_
   rw[h2]
   simp only[addSlot,updF,if_pos,List.length_append,List.length_singleton,List.range_succ_eq_map,List.map_cons,List.map_map,List.append_assoc,List.singleton_append,Nat.add_zero]
   congr 2
   apply List.map_congr_left
   intro k _
   simp only[Function.comp]
   congr 1
   omega
  ·show(addSlots c n (addSlot c σ)).free j=_
   rw[h3 j hj]
   simp[addSlot,updF,hj]
structure NewA (σ:ArenaS) (l:List Nat) (A f:Nat):Prop where
 len:σ.slots.length=A+f
 at_:∀k,k<f→σ.slots[A+k]? =some ⟨4,1,false,poisonW 4⟩
 f4:σ.free 4=(List.range f).map fun k=>((A+k:Nat):Int)
 fl:∀i,i<4→(σ.free i).length=l.getD i 0
theorem newA (a b d e f:Nat):NewA (newArena [a,b,d,e,f]) [a,b,d,e] (a+b+d+e) f:=by
 unfold newArena
 simp only[newFrom]
 obtain⟨p1,p2,p3⟩:=addSlots_at 0 a ⟨[],fun _=>[]⟩
 obtain⟨s1,hs1⟩:∃s1,addSlots 0 a ⟨[],fun _=>[]⟩=s1:=⟨_,rfl⟩
 rw[hs1] at p1 p2 p3⊢
 obtain⟨q1,q2,q3⟩:=addSlots_at 1 b s1
 obtain⟨s2,hs2⟩:∃s2,addSlots 1 b s1=s2:=⟨_,rfl⟩
 simp only[Nat.zero_add,Nat.reduceAdd] at*
 rw[hs2] at q1 q2 q3⊢
 obtain⟨r1,r2,r3⟩:=addSlots_at 2 d s2
 obtain⟨s3,hs3⟩:∃s3,addSlots 2 d s2=s3:=⟨_,rfl⟩
 rw[hs3] at r1 r2 r3⊢
 obtain⟨t1,t2,t3⟩:=addSlots_at 3 e s3
 obtain⟨s4,hs4⟩:∃s4,addSlots 3 e s3=s4:=⟨_,rfl⟩
 rw[hs4] at t1 t2 t3⊢
 obtain⟨u1,u2,u3⟩:=addSlots_at 4 f s4
 have l4:s4.slots.length=a+b+d+e:=by rw[t1,r1,q1,p1];simp;omega
 refine⟨by rw[u1,List.length_append,l4,List.length_replicate],fun k hk=>?_,?_,fun i hi=>?_⟩
 ·rw[u1,List.getElem?_append_right (by omega),l4,List.getElem?_replicate,if_pos (by omega)]
 ·rw[u2,t3 4 (by decide),r3 4 (by decide),q3 4 (by decide),p3 4 (by decide),l4]
  rfl
 ·match i,hi with
  |0,_=>rw[u3 0 (by decide),t3 0 (by decide),r3 0 (by decide),q3 0 (by decide),p2];simp
  |1,_=>rw[u3 1 (by decide),t3 1 (by decide),r3 1 (by decide),q2,p3 1 (by decide)];simp
  |2,_=>rw[u3 2 (by decide),t3 2 (by decide),r2,q3 2 (by decide),p3 2 (by decide)];simp
  |3,_=>rw[u3 3 (by decide),t2,r3 3 (by decide),q3 3 (by decide),p3 3 (by decide)];simp
theorem right4:rightN {kind:=4}=true:=by decide
theorem enc4_len:(encW {kind:=4}).length=264:=by decide+kernel
theorem new_alloc (a b d e f:Nat):allocF (newArena [a,b,d,e,f+1]) 4 (encW {kind:=4})=
  ((refI ((a+b+d+e:Nat):Int) 1 false,0),⟨(newArena [a,b,d,e,f+1]).slots.set (a+b+d+e) ⟨4,1,true,encW {kind:=4}⟩,updF (newArena [a,b,d,e,f+1]).free 4 ((List.range f).map fun k=>((a+b+d+e+(k+1):Nat):Int))⟩):=by
 have A:=newA a b d e (f+1)
 obtain⟨σ,hσ⟩:∃σ,newArena [a,b,d,e,f+1]=σ:=⟨_,rfl⟩
 rw[hσ] at A⊢
 have h4:=A.f4
 rw[List.range_succ_eq_map,List.map_cons,List.map_map] at h4
 have s0:=A.at_ 0 (by omega)
 rw[Nat.add_zero] at s0 h4
 have hl:=enc4_len
 unfold allocF
 rw[if_neg (by rw[hl];decide)]
 have e4:(4:Int).toNat=4:=rfl
 rw[e4,h4]
 simp only[Int.toNat_natCast,s0]
 have hf:fillW 4 (encW {kind:=4})=encW {kind:=4}:=by
  unfold fillW
  rw[hl]
  have:sizeN 4-264=0:=by decide
  rw[this]
  simp
 rw[hf]
 rfl
theorem parts_new (A:Nat) (hA:A<1024):partsI (refI (A:Int) 1 false)=((A:Int),1,false,true):=by
 have e:refI (A:Int) 1 false=65536+(A:Int):=by
  unfold refI
  rw[if_neg (by omega)]
  simp
 have e1:(65536+(A:Int))%65536=(A:Int):=by omega
 have e2:(65536+(A:Int))/65536%4294967296=1:=by omega
 have e3:(65536+(A:Int))/281474976710656%2=0:=by omega
 rw[e]
 unfold partsI
 simp only[e1,e2,e3]
 have n0:¬(65536+(A:Int)=0):=by omega
 simp[e,n0]
theorem new_root (a b d e f n lm:Nat):(newMem [a,b,d,e,f+1] n lm).root=refI ((a+b+d+e:Nat):Int) 1 false:=by
 unfold newMem
 rw[new_alloc]
theorem new_load (a b d e f n lm:Nat) (hs:a+b+d+e<1024) (hn:1≤n):doF (newMem [a,b,d,e,f+1] n lm) 0 {kind:=1,ref:=(newMem [a,b,d,e,f+1] n lm).root}=({words:=encW {kind:=4}},newMem [a,b,d,e,f+1] n lm):=by
 have A:=newA a b d e (f+1)
 have hc:(newMem [a,b,d,e,f+1] n lm).clients=(n:Int):=rfl
 unfold doF
 rw[if_neg (by rw[hc];omega),if_pos (.inl rfl)]
 unfold slotsF
 rw[if_pos rfl]
 simp only
 rw[new_root]
 have ha:(newMem [a,b,d,e,f+1] n lm).arena=⟨(newArena [a,b,d,e,f+1]).slots.set (a+b+d+e) ⟨4,1,true,encW {kind:=4}⟩,updF (newArena [a,b,d,e,f+1]).free 4 ((List.range f).map fun k=>((a+b+d+e+(k+1):Nat):Int))⟩:=by
  unfold newMem
  rw[new_alloc]
 rw[ha]
 have hl:loadF ⟨(newArena [a,b,d,e,f+1]).slots.set (a+b+d+e) ⟨4,1,true,encW {kind:=4}⟩,updF (newArena [a,b,d,e,f+1]).free 4 ((List.range f).map fun k=>((a+b+d+e+(k+1):Nat):Int))⟩ (refI ((a+b+d+e:Nat):Int) 1 false)=(encW {kind:=4},0):=by
  have hg:((newArena [a,b,d,e,f+1]).slots.set (a+b+d+e) ⟨4,1,true,encW {kind:=4}⟩)[a+b+d+e]? =some ⟨4,1,true,encW {kind:=4}⟩:=List.getElem?_set_self (by rw[A.len];omega)
  unfold loadF ofF'
  rw[parts_new _ hs]
  simp only[Int.toNat_natCast,hg]
  have ho:ofS (((a+b+d+e:Nat):Int),1,false,true) (some ⟨4,1,true,encW {kind:=4}⟩)=(a+b+d+e,0):=by
   unfold ofS
   generalize a+b+d+e=A0
   simp
  rw[ho]
  simp only[hg]
  rfl
 rw[hl]
theorem new_live (a b d e f n lm:Nat):liveF (newMem [a,b,d,e,f+1] n lm).arena=1:=by
 have A:=newA a b d e (f+1)
 have h0:=A.fl 0 (by decide)
 have h1:=A.fl 1 (by decide)
 have h2:=A.fl 2 (by decide)
 have h3:=A.fl 3 (by decide)
 unfold newMem
 rw[new_alloc]
 unfold liveF
 simp only[updF,List.length_set,A.len,if_neg (show¬(0=4) by decide),if_neg (show¬(1=4) by decide),if_neg (show¬(2=4) by decide),if_neg (show¬(3=4) by decide),if_pos,h0,h1,h2,h3,List.length_map,List.length_range]
 simp
 omega
theorem new_free (a b d e f n lm:Nat) (hs:a+b+d+e+f<1024):∀i,i<5→((newMem [a,b,d,e,f+1] n lm).arena.free i).length≤2^20:=by
 have A:=newA a b d e (f+1)
 intro i hi
 unfold newMem
 rw[new_alloc]
 simp only[updF]
 by_cases h:i=4
 ·rw[if_pos h,List.length_map,List.length_range];omega
 ·rw[if_neg h,A.fl i (by omega)]
  match i,hi with
  |0,_=>simp;omega
  |1,_=>simp;omega
  |2,_=>simp;omega
  |3,_=>simp;omega
  |4,_=>exact absurd rfl h
end mir
end Go.Proofs.YtkjpldganajkkaaGreatDoor.S
namespace Go.Proofs.YtkjpldganajkkaaGreatDoor.S
open Go Go.RowKit Go.Proofs.YtkjpldganajkkaaGreatDoor.NICE
namespace chk
open word pack mir node mem get tree
noncomputable def lbV:Code:=inC (inC (atC (bodyOf Tryz.f46) 3))
def liveT (σ:ArenaS):Nat→Int
 |0=>σ.slots.length
 |k+1=>liveT σ k-(σ.free k).length
theorem liveT5 (σ:ArenaS):liveT σ 5=liveF σ:=by simp[liveT,liveF]
theorem loopV {G c a σ} (r:arena.ArenaRep G c a σ) (hf:∀i,i<5→(σ.free i).length≤2^20) (Q:Out→Prop) (hQ:∀F:Fr,F 3=.int .i64 (liveT σ 5)→Q (some (.exit 0,toL 20 F,G.h))):
  ∀(f i:Nat) (F:Fr),i+f=5→F 0=a→F 3=.int .i64 (liveT σ i)→F 10=.int .i64 (i:Nat)→Q (C env (.loop lbV) (toL 20 F) G.h):=by
 have hlen:σ.slots.length≤1024:=by obtain⟨_,_,_,_,_,_,q⟩:=r;exact q.ok.len
 have b0:∀i:Nat,i≤5→-((i:Int)*1048576)≤liveT σ i∧liveT σ i≤1024:=by
  intro i
  induction i with
  |zero=>intro _;simp[liveT];omega
  |succ k ih=>
   intro hk
   have:=ih (by omega)
   have:=hf k (by omega)
   simp only[liveT]
   omega
 intro f
 induction f with
 |zero=>
  intro i F hi f0 f3 f10
  have:i=5:=by omega
  subst this
  rw[S_loop]
  conv=>arg 1;arg 2;arg 2;simp only[lbV,bodyOf,Option.getD_some,atC,seqL,inC,elC,List.nil_append,List.cons_append,List.getElem?_cons_succ,List.getElem?_cons_zero,Tryz.f46]
  simp only[go_sem,seval,f10]
  exact hQ _ (by simp only[go_sem,seval,f3])
 |succ f ih=>
  intro i F hi f0 f3 f10
  have i1:(i:Int)<5:=by omega
  have e:=arena.Room_K r (i:Int)
  have re:roomF σ (i:Int)=(σ.free i).length:=by
   unfold roomF
   rw[if_neg (by omega)]
   simp
  rw[re] at e
  have w1:IntKind.i64.wrap ((i:Int)+1)=((i+1:Nat):Int):=by rw[wrap_i64_small (by omega) (by omega)];omega
  have bb:=b0 i (by omega)
  have hb:=hf i (by omega)
  have w2:IntKind.i64.wrap (liveT σ i-((σ.free i).length:Int))=liveT σ (i+1):=by rw[wrap_i64_small (by omega) (by omega)];rfl
  obtain⟨ab,rfl⟩:∃ab,a=.ptr (some (ab,0)):=by obtain⟨ab,_,_,_,_,q,_⟩:=r;exact⟨ab,q⟩
  rw[S_loop]
  conv=>arg 1;arg 2;arg 2;simp only[lbV,bodyOf,Option.getD_some,atC,seqL,inC,elC,List.nil_append,List.cons_append,List.getElem?_cons_succ,List.getElem?_cons_zero,Tryz.f46]
  simp only[go_sem,seval,f0,f3,f10,i1,e,w1,w2]
  exact ih (i+1) _ (by omega) (by simp only[go_sem,seval,f0]) (by simp only[go_sem,seval]) (by simp only[go_sem,seval])
theorem LiveA_K {G c a σ} (r:arena.ArenaRep G c a σ) (hf:∀i,i<5→(σ.free i).length≤2^20):K env 46 [a] G.h=some (.int .i64 (liveF σ),G.h):=by
 obtain⟨ab,q,sv,Pv,Lv,ha,R⟩:=id r
 have ga:=R.ga
 have hsl:∃bo c' x,sv=.slice bo σ.slots.length c' x:=by
  rcases R.grow with⟨g,_,g0⟩|⟨b,x,q',g,_⟩
  ·refine⟨_,_,_,by rw[g,←R.len,g0]⟩
  ·exact⟨_,_,_,by rw[g,R.len]⟩
 obtain⟨so,sc,sx,hsv⟩:=hsl
 rw[hsv] at ga
 rw[k46 _ _ (by simp)]
 subst ha
 simp only[bodyOf,Option.getD_some,go_sem,seval,Tryz.f46,ga]
 have key:=fun rest=>loopV r hf (fun q=>outF Tryz.prog [.tmp 2] (thenD env (blockC 0 q) rest)=some (.int .i64 (liveF σ),G.h))
 simp only[lbV,bodyOf,Option.getD_some,atC,seqL,inC,elC,List.nil_append,List.cons_append,List.getElem?_cons_succ,List.getElem?_cons_zero,Tryz.f46] at key
 refine key _ ?_ 5 0 _ (by omega) ?_ ?_ ?_
 ·intro F f3
  simp only[go_sem,seval,f3,liveT5]
 ·simp only[go_sem,seval]
 ·simp only[go_sem,seval]
  rfl
 ·simp only[go_sem,seval]
theorem Live_K {G c m μ} (r:MemRep G c m μ) (hf:∀i,i<5→(μ.arena.free i).length≤2^20):K env 23 [m] G.h=some (.int .i64 (liveF μ.arena),G.h):=by
 obtain⟨mb,q,av,ev,rfl,gm,cm,ra,re⟩:=r
 obtain⟨ab,hav⟩:∃ab,av=.ptr (some (ab,0)):=by obtain⟨ab,_,_,_,_,q,_⟩:=ra;exact⟨ab,q⟩
 have e:=LiveA_K ra hf
 obtain⟨eb,hev⟩:∃eb,ev=.ptr (some (eb,0)):=by obtain⟨eb,_,_,_,q,_⟩:=re;exact⟨eb,q⟩
 simp only[hav,hev] at e gm
 rw[k23 _ _ (by simp)]
 simp only[bodyOf,Option.getD_some,go_sem,seval,Tryz.f23,gm,e]
theorem digit_take:∀c:Fin 10,(([48,49,50,51,52,53,54,55,56,57,97,98,99,100,101,102,103,104,105,106,107,108,109,110,111,112,113,114,115,116,117,118,119,120,121,122]:List UInt8).drop c.1).take 1=[UInt8.ofNat (48+c.1)]:=by decide
theorem itoa_K (c:Nat) (hc:c<10) (h:NHeap):K env 57 [.int .i64 c] h=some (.str [UInt8.ofNat (48+c)],h):=by
 have a1:(0:Int)≤(c:Int):=by omega
 have a2:(c:Int)<100:=by omega
 have a3:(c:Int)<10:=by omega
 have a4:(c:Int)≤36:=by omega
 have a5:(0:Int)≤(c:Int)+1:=by omega
 have a6:(c:Int)+1≤36:=by omega
 have a7:(c:Int)≤((c:Int)+1).toNat:=by omega
 have a8:((c:Int)+1).toNat-c=1:=by omega
 have w1:IntKind.i64.wrap ((c:Int)+1)=(c:Int)+1:=wrap_i64_small (by omega) (by omega)
 have dt:=digit_take ⟨c,hc⟩
 simp only at dt
 simp only[bodyOf,Option.getD_some,go_sem,seval,k57,Tryz.f57,k118,Tryz.f118,k156,Tryz.f156,k170,Tryz.f170,a1,a2,a3,w1,a4,a5,a6,a7,a8,dt,Int.cast_ofNat_Int,nslice,nbound]
theorem part_K (h:NHeap):K env 107 [.str []] h=some (.str [48,58],h):=by
 have e:=itoa_K 0 (by decide) h
 have e':K env 57 [.int .i64 0] h=some (.str [48],h):=e
 rw[k107 _ _ (by simp)]
 simp only[bodyOf,Option.getD_some,go_sem,seval,Tryz.f107,List.length_nil,Int.natCast_zero,Int.cast_ofNat_Int,e',str_add _ _ _ (show([48]:List UInt8).length+([58]:List UInt8).length≤1000000 by decide),List.cons_append,List.nil_append,str_add _ _ _ (show([48,58]:List UInt8).length+([]:List UInt8).length≤1000000 by decide)]
 try rfl
set_option maxHeartbeats 1000000 in
theorem inner_K (h:NHeap) (wb:Nat) (rv:NVal) (ws:List Nat) (hv:Rw h 1 U rv ws) (hlt:∀w∈ws,w<2^64) (hws:ws.length<2^30) (hd:decN ws=({kind:=4},true)):
  ∃h',K env 45 [P wb,rv,.str [],.bool true] h=some (.str [40,48,58,41],h')∧Ext h h':=by
 obtain⟨kv,iv,h1,e1,x1,N1,_⟩:=Decode_F h rv ws hv hlt hws
 rw[hd] at e1 N1
 have hnv:nodeV {kind:=4} kv iv=[.int .i64 4,.int .u64 0,.str [],kv,iv]:=rfl
 rw[hnv] at e1
 obtain⟨kbo,kc,kx,hkv⟩:=N1.keys.form
 obtain⟨ibo,ic,ix,hiv⟩:=N1.kids.form
 obtain⟨D,hD⟩:∃D,h1.next=D:=⟨_,rfl⟩
 obtain⟨H2,hH2⟩:∃H2,(h1.alloc (.cells [.int .i64 0,.int .u64 0,.str [],.slice none 0 0 none,.slice none 0 0 none] nZ)).set D (.cells [.int .i64 4,.int .u64 0,.str [],kv,iv] nZ)=H2:=⟨_,rfl⟩
 have x2:Ext h1 H2:=by rw[←hH2];exact((Ext.refl _).alloc _).set (by omega) _
 have n2:H2.next=D+1:=by rw[←hH2];show h1.next+1=_;omega
 have g2:H2.get D=some (.cells [.int .i64 4,.int .u64 0,.str [],kv,iv] nZ):=by rw[←hH2,NHeap.get_set_same (by rw[NHeap.next_alloc];omega)]
 have eF:K env 109 [.int .u64 0] H2=some (.bool (freeN 0),H2):=Free_K 0 (by decide) H2
 have f0:freeN 0=true:=by decide
 rw[f0] at eF
 obtain⟨H3,hH3⟩:∃H3,H2.alloc (.cells [.ptr none,.slice none 0 0 none] bld.bq)=H3:=⟨_,rfl⟩
 have x3:Ext H2 H3:=by rw[←hH3];exact(Ext.refl _).alloc _
 have g3:=x3.get g2
 have B3:bld.Bd H3 (D+1) [] (.slice none 0 0 none):=.inl ⟨rfl,rfl,by rw[←hH3,←n2];simp[NHeap.get_alloc]⟩
 have e4:=part_K H3
 obtain⟨h5,bv5,e5,B5,u5,nb5⟩:=bld.Write_K H3 (D+1) [] _ B3 [40,48,58] (by decide) (by decide)
 have g5:=u5.get g3 (by simp[blk])
 obtain⟨h6,bv6,e6,B6,u6,nb6⟩:=bld.Write_K h5 (D+1) _ _ B5 [41] (by decide) (by decide)
 obtain⟨h7,e7,u7⟩:=bld.String_K h6 (D+1) _ _ B6 (by simp) (by decide)
 have hx1:=x1.next
 have hx3:=x3.next
 have hu5:=u5.next
 have n3:H3.next=D+2:=by rw[←hH3];show H2.next+1=_;omega
 refine⟨h7,?_,?_⟩
 ·simp only[P,hkv,hiv,bld.P,List.length_nil,List.nil_append,List.cons_append] at e1 hH2 g2 g3 g5 eF e5 e6 e7⊢
  rw[k45 _ _ (by simp)]
  simp only[bodyOf,Option.getD_some,go_sem,seval,Tryz.f45,e1,hD,hH2,g2,eF,n2,hH3,g3,e4,str_add _ _ _ (show([40]:List UInt8).length+([48,58]:List UInt8).length≤1000000 by decide),List.nil_append,List.cons_append,e5,g5]
  rw[S_loop]
  simp only[go_sem,seval,e6,e7]
  try rfl
 ·have U:Upd [] h h7:=(((Upd.of_ext ((x1.trans x2).trans x3)).trans' u5 fun b hb=>?_).trans' u6 fun b hb=>?_).trans' u7 fun b hb=>?_
  ·exact U.ext
  ·right
   simp[blk] at hb
   omega
  ·right
   rcases List.mem_cons.1 hb with hb|hb
   ·omega
   ·have:=nb5 b hb;omega
  ·right
   have:=nb6 b hb
   omega
abbrev lookC (m:NVal) (tx:List UInt8) (sl:Int) (fine:Bool):List NVal:=[m,nilS0,.str tx,.int .i64 sl,.bool fine]
set_option maxHeartbeats 1000000 in
theorem text_K {G:Gh} {c:Nat} {m:NVal} {μ:MemS} (hc0:0<c) (M:MemRep G c m μ) (wb:Nat) (q:Option (TypeId×Nat)) (gw:G.h.get wb=some (.cells (lookC m [] 0 true) (.own q))) (cw:G.col wb=c+16) (ws:List Nat) (hl:doF μ 0 {kind:=1,ref:=μ.root}=({words:=ws},μ)) (hlt:∀w∈ws,w<2^64) (hws:ws.length<2^30) (hd:decN ws=({kind:=4},true)) (hp:(partsI μ.root).2.2.1=false):
  ∃G',K env 21 [P wb,.int .i64 μ.root,.str [],.bool true] G.h=some (.str [40,48,58,41],G'.h)∧Stp c (c+17) G G'∧MemRep G' c m μ∧G'.h.get wb=some (.cells (lookC m [] 1 true) (.own q)):=by
 obtain⟨mb,hm⟩:∃mb,m=.ptr (some (mb,0)):=by obtain⟨mb,_,_,_,h,_⟩:=M;exact⟨mb,h⟩
 obtain⟨G1,rv,e1,S1,M1,f1⟩:=Do_K hc0 M 0 {kind:=1,ref:=μ.root} nilS0 (Fz.nil _ _) (fun w hw=>by cases hw)
 rw[hl] at e1 M1 f1
 have hav:accV {kind:=1,ref:=μ.root} nilS0=[.int .i64 1,.int .i64 μ.root,.int .i64 0,.int .i64 0,.int .u64 0,nilS0]:=rfl
 have hrv':resV {words:=ws} rv=[.int .i64 0,.int .i64 0,.bool false,rv]:=rfl
 rw[hav] at e1
 simp only[hrv'] at e1
 have rw1:=arena.fz_sl f1
 obtain⟨rbo,rc,rx,hrv⟩:=rw1.form
 have g1:=S1.get gw (by rw[cw];omega)
 obtain⟨R,hR⟩:∃R,G1.h.next=R:=⟨_,rfl⟩
 obtain⟨H2,hH2⟩:∃H2,(G1.h.alloc (.cells [.int .i64 0,.int .i64 0,.bool false,.slice none 0 0 none] rZ)).set R (.cells [.int .i64 0,.int .i64 0,.bool false,rv] rZ)=H2:=⟨_,rfl⟩
 have x2:Ext G1.h H2:=by rw[←hH2];exact((Ext.refl _).alloc _).set (by omega) _
 have gr2:H2.get R=some (.cells [.int .i64 0,.int .i64 0,.bool false,rv] rZ):=by rw[←hH2,NHeap.get_set_same (by rw[NHeap.next_alloc];omega)]
 have gw2:=x2.get g1
 have lw:=NHeap.get_lt gw2
 have lw1:=NHeap.get_lt g1
 obtain⟨H3,hH3⟩:∃H3,H2.set wb (.cells (lookC m [] 1 true) (.own q))=H3:=⟨_,rfl⟩
 have u3:Upd [wb] H2 H3:=by rw[←hH3];exact(Upd.refl _ _).set (.inl (by simp)) _
 have gw3:H3.get wb=some (.cells (lookC m [] 1 true) (.own q)):=by rw[←hH3,NHeap.get_set_same lw]
 have gr3:=u3.get gr2 (by simp;omega)
 have eP:=Parts_K μ.root H3
 rw[hp] at eP
 have s3:Rw H3 1 U rv ws:=by
  rcases Nat.eq_zero_or_pos ws.length with h0|h0
  ·obtain⟨z0,bo',c',x',z1,z2,z3,_⟩:=rw1
   exact⟨z0,bo',c',x',z1,z2,z3,.inl h0⟩
  ·refine(rw1.ext x2).upd u3 fun d hd=>?_
   obtain⟨z0,bo',c',x',z1,z2,z3,z4⟩:=f1
   rcases z4 with z4|⟨b,o,all,mm,w1,w2,w3,w4⟩
   ·exact absurd z4 (Nat.ne_of_gt h0)
   ·rw[z1,w1] at hd
    simp[blk] at hd
    subst hd
    simp
    rintro rfl
    rw[S1.col _ (NHeap.get_lt gw),cw] at w3
    omega
 obtain⟨h4,e4,x4⟩:=inner_K H3 wb rv ws s3 hlt hws hd
 have U:Upd [wb] G1.h h4:=((Upd.of_ext x2).mono (by simp)).trans (u3.trans ((Upd.of_ext x4).mono (by simp)))
 have S4:Stp (c+16) (c+17) G1 ⟨h4,newCol G1.h G1.col fun _=>0⟩:=Stp.of_upd U (fun b hb _=>by
  simp at hb
  subst hb
  rw[S1.col _ (NHeap.get_lt gw),cw]
  omega) _
 refine⟨⟨h4,newCol G1.h G1.col fun _=>0⟩,?_,(S1.mono (Nat.le_refl _) (by omega)).trans (S4.mono (by omega) (Nat.le_refl _)),M1.step S4 (by omega) (.inr (by omega)),x4.get gw3⟩
 have w1:IntKind.i64.wrap (0+1)=1:=by decide
 have w2:IntKind.i64.wrap 1=1:=by decide
 simp only[P,hm,lookC,hrv,nilS0] at gw e1 g1 hH2 gr2 gw2 hH3 gw3 gr3 e4⊢
 rw[k21 _ _ (by simp)]
 simp only[bodyOf,Option.getD_some,go_sem,seval,Tryz.f21,gw,e1,hR,hH2,gr2,gw2,w1,w2,lw,hH3,gr3,eP,e4]
 try rfl
theorem TreeAt.mem {lo hi:Nat} {G G':Gh} {c tb:Nat} {q s mv ev dv cb cq cx es ds n t} (hlo:0<lo) (R:TreeAt G c tb q s mv ev dv cb cq cx es ds n t) (S:Stp lo hi G G') (hd:hi≤c+17∨c+29≤lo) (M:MemRep G' c mv t.m):TreeAt G' c tb q s mv ev dv cb cq cx es ds n t:=
 {R with
  tc:=R.tc.step S (by omega),m:=M,el:=fun e he=>(R.el e he).step S hlo,dl:=fun e he=>(R.dl e he).step S hlo
  cl:=fun i x hx=>by
   have k:=R.cl i x hx
   have hi:=(List.getElem?_eq_some_iff.1 hx).1
   have h8:=R.tc.c8
   exact{k with ov:=k.ov.step S hlo,prog:=fun p hp=>(k.prog p hp).step S (by omega)}}
theorem Mem_K {G:Gh} {c tb:Nat} {q s mv ev dv cb cq cx es ds n t} (R:TreeAt G c tb q s mv ev dv cb cq cx es ds n t):K env 20 [P tb] G.h=some (mv,G.h):=by
 have gt:=R.tc.gt
 obtain⟨mb,hmv⟩:=R.tc.mp
 simp only[P,treeC,hmv] at gt⊢
 rw[k20 _ _ (by simp)]
 simp only[bodyOf,Option.getD_some,go_sem,seval,Tryz.f20,gt]
abbrev lkZ:Own:=.own (some (34,4))
set_option maxHeartbeats 1000000 in
theorem At_K {G:Gh} {c tb:Nat} {s:Cfg} {n:Nat} {t:TreeS} (hc0:0<c) (R:TreeRep G c tb s n t) (ws:List Nat) (hl:doF t.m 0 {kind:=1,ref:=t.m.root}=({words:=ws},t.m)) (hlt:∀w∈ws,w<2^64) (hws:ws.length<2^30) (hd:decN ws=({kind:=4},true)) (hp:(partsI t.m.root).2.2.1=false):
  ∃G',K env 8 [P tb] G.h=some (.agg [nilS0,.str [40,48,58,41],.int .i64 1,.bool true],G'.h)∧Stp c (c+30) G G'∧TreeRep G' c tb s n t:=by
 obtain⟨q,mv,ev,dv,cb,cq,cx,es,ds,R⟩:=R
 obtain⟨mb,hmv⟩:=R.tc.mp
 obtain⟨L,hL⟩:∃L,G.h.next=L:=⟨_,rfl⟩
 obtain⟨H0,hH0⟩:∃H0,G.h.alloc (.cells [nilS0,.str [],.int .i64 0,.bool false] lkZ)=H0:=⟨_,rfl⟩
 have x0:Ext G.h H0:=by rw[←hH0];exact(Ext.refl _).alloc _
 have n0:H0.next=L+1:=by rw[←hH0,←hL];rfl
 have g0:H0.get L=some (.cells [nilS0,.str [],.int .i64 0,.bool false] lkZ):=by rw[←hH0,←hL];simp[NHeap.get_alloc]
 have eM:K env 20 [P tb] H0=some (mv,H0):=Mem_K (G:=⟨H0,newCol G.h G.col fun _=>0⟩) (TreeAt.mem hc0 R (Stp.of_ext c c x0 _) (by omega) (R.m.step (Stp.of_ext (c+16) (c+16) x0 _) (by omega) (.inr (Nat.le_refl _))))
 obtain⟨H1,hH1⟩:∃H1,H0.alloc (.cells (lookC mv [] 0 true) (.own none))=H1:=⟨_,rfl⟩
 have x1:Ext H0 H1:=by rw[←hH1];exact(Ext.refl _).alloc _
 have n1:H1.next=L+2:=by rw[←hH1];show H0.next+1=_;omega
 have gL1:=x1.get g0
 have gW1:H1.get (L+1)=some (.cells (lookC mv [] 0 true) (.own none)):=by rw[←hH1,←n0];simp[NHeap.get_alloc]
 obtain⟨G1,hG1⟩:∃G1:Gh,(⟨H1,newCol G.h G.col fun d=>if d=L then c+29 else c+16⟩:Gh)=G1:=⟨_,rfl⟩
 have hG1h:G1.h=H1:=by rw[←hG1]
 have S1:∀lo hi,Stp lo hi G G1:=fun lo hi=>by rw[←hG1];exact Stp.of_ext _ _ (x0.trans x1) _
 have cc:∀d,L≤d→G1.col d=if d=L then c+29 else c+16:=fun d hd=>by
  rw[←hG1]
  show newCol G.h G.col (fun d=>if d=L then c+29 else c+16) d=_
  rw[newCol_new (by omega)]
 have cL:G1.col L=c+29:=by rw[cc _ (Nat.le_refl _),if_pos rfl]
 have cW:G1.col (L+1)=c+16:=by rw[cc _ (by omega),if_neg (by omega)]
 have M1:=R.m.step (S1 (c+16) (c+16)) (by omega) (.inr (Nat.le_refl _))
 have eR:=Root_K M1
 obtain⟨G2,e2,S2,M2,gW2⟩:=text_K hc0 M1 (L+1) none (by rw[hG1h];exact gW1) cW ws hl hlt hws hd hp
 rw[hG1h] at eR e2
 have gL2:=S2.get (by rw[hG1h];exact gL1) (by rw[cL];omega)
 have lW2:=NHeap.get_lt gW2
 have lL2:=NHeap.get_lt gL2
 obtain⟨H3,hH3⟩:∃H3,G2.h.set (L+1) (.cells (lookC mv [40,48,58,41] 1 true) (.own none))=H3:=⟨_,rfl⟩
 have gW3:H3.get (L+1)=some (.cells (lookC mv [40,48,58,41] 1 true) (.own none)):=by rw[←hH3,NHeap.get_set_same lW2]
 have gL3:H3.get L=some (.cells [nilS0,.str [],.int .i64 0,.bool false] lkZ):=by rw[←hH3,NHeap.get_set_ne (by omega)];exact gL2
 have lL3:=NHeap.get_lt gL3
 obtain⟨H4,hH4⟩:∃H4,H3.set L (.cells [nilS0,.str [40,48,58,41],.int .i64 1,.bool true] lkZ)=H4:=⟨_,rfl⟩
 have gL4:H4.get L=some (.cells [nilS0,.str [40,48,58,41],.int .i64 1,.bool true] lkZ):=by rw[←hH4,NHeap.get_set_same lL3]
 have S3:Stp (c+16) (c+17) G2 ⟨H3,newCol G2.h G2.col fun _=>0⟩:=Stp.of_upd (fp:=[L+1]) (by rw[←hH3];exact(Upd.refl _ _).set (.inl (by simp)) _) (fun b hb _=>by
  simp at hb
  subst hb
  rw[S2.col _ (by rw[hG1h,n1];omega),cW]
  omega) _
 have S4:Stp (c+29) (c+30) (⟨H3,newCol G2.h G2.col fun _=>0⟩:Gh) ⟨H4,newCol H3 (newCol G2.h G2.col fun _=>0) fun _=>0⟩:=Stp.of_upd (G:=⟨H3,newCol G2.h G2.col fun _=>0⟩) (fp:=[L]) (by show Upd [L] H3 H4;rw[←hH4];exact(Upd.refl _ _).set (.inl (by simp)) _) (fun b hb _=>by
  simp at hb
  subst hb
  rw[S3.col _ lL2,S2.col _ (by rw[hG1h,n1];omega),cL]
  omega) _
 have M3:=M2.step S3 (by omega) (.inr (Nat.le_refl _))
 have M4:=M3.step S4 (by omega) (.inr (by omega))
 have R2:=TreeAt.mem hc0 R ((S1 _ _).trans S2) (.inl (Nat.le_refl _)) M2
 have R3:=TreeAt.mem (by omega) R2 S3 (.inl (Nat.le_refl _)) M3
 have R4:=TreeAt.mem (by omega) R3 S4 (.inr (Nat.le_refl _)) M4
 refine⟨_,?_,(((S1 _ _).trans (S2.mono (Nat.le_refl _) (by omega))).trans (S3.mono (by omega) (by omega))).trans (S4.mono (by omega) (Nat.le_refl _)),q,mv,ev,dv,cb,cq,cx,es,ds,R4⟩
 simp only[P,hmv,lookC,nilS0] at hH0 eM hH1 gL1 gW1 eR e2 gW2 hH3 gW3 gL3 hH4 gL4⊢
 rw[k8 _ _ (by simp)]
 simp only[bodyOf,Option.getD_some,go_sem,seval,Tryz.f8,hL,hH0,eM,n0,hH1,gW1,eR,e2,gW2,lW2,hH3,gW3,gL3,lL3,hH4,gL4]
 try rfl
set_option maxHeartbeats 1000000 in
theorem Clean_K {G:Gh} {c tb:Nat} {s:Cfg} {n:Nat} {t:TreeS} (hc0:0<c) (R:TreeRep G c tb s n t) (ws:List Nat) (hl:doF t.m 0 {kind:=1,ref:=t.m.root}=({words:=ws},t.m)) (hlt:∀w∈ws,w<2^64) (hws:ws.length<2^30) (hd:decN ws=({kind:=4},true)) (hp:(partsI t.m.root).2.2.1=false) (hf:∀i,i<5→(t.m.arena.free i).length≤2^20) (hv:liveF t.m.arena=1):
  ∃h',K env 9 [P tb] G.h=some (.bool true,h'):=by
 obtain⟨G1,e1,S1,R1⟩:=At_K hc0 R ws hl hlt hws hd hp
 obtain⟨q,mv,ev,dv,cb,cq,cx,es,ds,R1⟩:=R1
 obtain⟨mb,hmv⟩:=R1.tc.mp
 obtain⟨N,hN⟩:∃N,G1.h.next=N:=⟨_,rfl⟩
 obtain⟨H2,hH2⟩:∃H2,(G1.h.alloc (.cells [nilS0,.str [],.int .i64 0,.bool false] lkZ)).set N (.cells [nilS0,.str [40,48,58,41],.int .i64 1,.bool true] lkZ)=H2:=⟨_,rfl⟩
 have x2:Ext G1.h H2:=by rw[←hH2];exact((Ext.refl _).alloc _).set (by omega) _
 have g2:H2.get N=some (.cells [nilS0,.str [40,48,58,41],.int .i64 1,.bool true] lkZ):=by rw[←hH2,NHeap.get_set_same (by rw[NHeap.next_alloc];omega)]
 have M2:=R1.m.step (Stp.of_ext (c+16) (c+16) x2 fun _=>0) (by omega) (.inr (Nat.le_refl _))
 have R2:=TreeAt.mem hc0 R1 (Stp.of_ext c c x2 fun _=>0) (by omega) (R1.m.step (Stp.of_ext (c+16) (c+16) x2 _) (by omega) (.inr (Nat.le_refl _)))
 have eM:K env 20 [P tb] H2=some (mv,H2):=Mem_K R2
 have eL:K env 23 [mv] H2=some (.int .i64 (liveF t.m.arena),H2):=Live_K M2 hf
 rw[hv] at eL
 refine⟨H2,?_⟩
 simp only[P,hmv,nilS0] at e1 hH2 g2 eM eL⊢
 rw[k9 _ _ (by simp)]
 simp only[bodyOf,Option.getD_some,go_sem,seval,↓S_drawnY,y_nil,y_plain,y_guard,yGuard_true,yGuard_false,yGo_val,yGo_read,yGo_none,yAgain_true,yNew_some,yNew_none,yChk_true,yDo_some,yEnd_true,looseY_nil,looseY_cons,chainB,afterOf,Bool.or_true,Bool.or_false,Bool.true_or,Bool.false_or,Bool.and_true,Bool.true_and,Bool.false_and,Bool.and_false,true_or,or_true,Tryz.f9,e1,hN,hH2,g2,eM,eL,Nat.le_refl]
 try rfl
end chk
end Go.Proofs.YtkjpldganajkkaaGreatDoor.S
namespace Go.Proofs.YtkjpldganajkkaaGreatDoor.NICE
open Go Go.RowKit
variable {P:Program}
theorem arg_flat {H:Type} {enc:TypeId×Value→H} {W:World} {t:TypeId} {fs:Array Field} {v:Value} {d:DataW H} {p:List MemPlace} {r:Reach} {b0:Nat} (ht:P.underlying t=some (.struct fs)) {dd:Nat} {ks:List FK} (hk:flat P dd t=some ks)
  (h:DataW.Trod enc P W 0 (fun _=>true) true t v d p) (hv:Value.okWide P W r b0 t v):∃us:List NVal,All2 FK.ok ks us∧∀ι,VR ι (.agg us) v:=by
 obtain⟨fuel,hf⟩:=h
 obtain⟨cs,rfl,hcs⟩:=Go.WideShapes.okWide_struct ht hv
 have hc:(Value.agg cs).cells.toList=cs.toList:=rfl
 rw[hc] at hf
 obtain⟨us,h1,h2⟩:=trod_flat dd hk hf
 refine⟨us,h1,fun ι=>.agg (by have:=(h2 ι).length;simpa using this) fun i u w hu hw=>?_⟩
 obtain⟨w',hw',hv'⟩:=(h2 ι).get hu
 have:cs.toList[i]? =some w:=by simpa using hw
 rw[this] at hw'
 cases hw'
 exact hv'
def InOk (ks:List FK) (b2:Nat) (inner:ArgL) (i:Nat) (u:NVal):Prop:=
 ∃bo n c x us,u=.slice bo n c x∧(x=none∨x=some ks.length)∧n≤c∧us.length=n∧(∀w∈us,All2 FK.ok ks w)∧(n=0∨∃y,inner[i]? =some (y,.cells (rows id us) .ro)∧bo=some (b2+i,0))
def RealOk (W:World) (ι:Inj) (q:Option (Nat×Nat×Nat)×NObj):Prop:=
 q.2=.dead∨∃cs,q.2=.cells cs .ro∧∃rb s m,q.1=some (rb,s,m)∧∀(i:Nat) u,cs[i]? =some u→∃r,W.cell? ⟨rb,s+i,none⟩=some r∧VR ι u r
theorem slice_slices {H:Type} {enc:TypeId×Value→H} {W:World} {t e e2:TypeId} {v:Value} {d:DataW H} {p:List MemPlace} (ht:P.underlying t=some (.slice e)) (he:P.underlying e=some (.slice e2)) (hc1:P.cellsOf e=1) {dd:Nat} {ks:List FK} (hk:flat P dd e2=some ks) (h0:0<ks.length)
  (h:DataW.Trod enc P W 0 (fun _=>true) true t v d p) (hv:∃a n c,v=.slice a n c) (b b2:Nat):
  ∃bo n c x y ob,∃(inner:ArgL) (vs:List NVal),((x=none∨x=some 1)∧n≤c)∧inner.length=n∧vs.length=n∧((n=0∧ob=NObj.dead)∨(ob=.cells vs .ro∧bo=some (b,0)))∧
   (∀i u,vs[i]? =some u→InOk ks b2 inner i u)∧
   (∀l:ArgL,l[b]? =some (y,ob)→VR (argI l) (.slice bo n c x) v)∧
   ∀l:ArgL,(∀(i:Nat) q,inner[i]? =some q→l[b2+i]? =some q)→RealOk W (argI l) (y,ob)∧∀q∈inner,RealOk W (argI l) q:=by
 obtain⟨fuel,hf⟩:=h
 obtain⟨a,n,c,rfl⟩:=hv
 have hcs:(Value.slice a n c).cells.toList=[.slice a n c]:=rfl
 rw[hcs] at hf
 rcases Deep.open_slice ht hf with⟨e1,_⟩|⟨a',len,cap,m,k,D,Pl,e1,_,hl,hml,hm,_,hx⟩
 ·simp only[List.cons.injEq,and_true] at e1
  cases e1
  exact⟨none,0,0,none,none,.dead,[],[],⟨.inl rfl,Nat.le_refl _⟩,rfl,rfl,.inl ⟨rfl,rfl⟩,fun i u hu=>by simp at hu,fun l _=>.sliceNil,fun l _=>⟨.inl rfl,fun q hq=>by simp at hq⟩⟩
 ·simp only[List.cons.injEq,and_true] at e1
  cases e1
  rcases Nat.eq_zero_or_pos c with hz|hz
  ·subst hz
   have:n=0:=by omega
   subst this
   exact⟨some (b,0),0,0,some 1,none,.dead,[],[],⟨.inr rfl,Nat.le_refl _⟩,rfl,rfl,.inl ⟨rfl,rfl⟩,fun i u hu=>by simp at hu,fun l _=>.sliceEmpty,fun l _=>⟨.inl rfl,fun q hq=>by simp at hq⟩⟩
  ·obtain⟨blk,off,spot⟩:=a'
   have elem:∀i,i<c→∃(u:NVal) (q:Option (Nat×Nat×Nat)×NObj) (r:Value),W.cell? ((⟨blk,off,spot⟩:Addr).add i)=some r∧(∃bo n c x us,u=.slice bo n c x∧(x=none∨x=some ks.length)∧n≤c∧us.length=n∧(∀w∈us,All2 FK.ok ks w)∧(n=0∨∃y,q=(y,.cells (rows id us) .ro)∧bo=some (b2+i,0)))∧(∀l:ArgL,l[b2+i]? =some q→VR (argI l) u r)∧∀l:ArgL,RealOk W (argI l) q:=fun i hi=>by
    obtain⟨cs',h1,h2⟩:=hx i (by rw[hm];simpa using hi)
    rw[hc1,Nat.mul_one] at h1
    obtain⟨_,hl2,hcell⟩:=World.cells?_some h1
    match cs',hl2 with
    |[r],_=>
    have hr:W.cell? ((⟨blk,off,spot⟩:Addr).add i)=some r:=by
     have:=hcell 0 (by decide)
     simpa[Addr.add] using this
    have hsl:∃a n c,r=.slice a n c:=by
     rcases Deep.open_slice he h2 with⟨q,_⟩|⟨a',len,cap,m,k,D,Pl,q,_⟩
     ·simp only[List.cons.injEq,and_true] at q;exact⟨_,_,_,q⟩
     ·simp only[List.cons.injEq,and_true] at q;exact⟨_,_,_,q⟩
    have htr:DataW.Trod enc P W 0 (fun _=>true) true e r (D i) (Pl i):=by
     obtain⟨a,n,c,rfl⟩:=hsl
     exact⟨_,h2⟩
    obtain⟨bo,n',c',x',y',cs,ob,g1,⟨us,g2,g3,g4⟩,g5,g6,g7⟩:=slice_flatX he hk h0 htr hsl (b2+i)
    refine⟨.slice bo n' c' x',(y',ob),r,hr,⟨bo,n',c',x',us,rfl,g1.1,g1.2,g2,g4,?_⟩,g6,g7⟩
    rcases g5 with⟨g5,_⟩|⟨g5,g5'⟩
    ·exact .inl g5
    ·exact .inr ⟨y',by rw[g5,g3],g5'⟩
   have hspot:spot=none:=by
    obtain⟨u,q,r,h1,_⟩:=elem 0 hz
    simpa[Addr.add] using World.cell?_spot h1
   subst hspot
   have addr:∀i,(⟨blk,off,none⟩:Addr).add i=⟨blk,off+i,none⟩:=by
    intro i
    unfold Addr.add
    by_cases q1:i=0<;>simp[q1]
   have sk:∀i,∃z:NVal×(Option (Nat×Nat×Nat)×NObj),i<c→∃r:Value,W.cell? ⟨blk,off+i,none⟩=some r∧(∃bo n c x us,z.1=.slice bo n c x∧(x=none∨x=some ks.length)∧n≤c∧us.length=n∧(∀w∈us,All2 FK.ok ks w)∧(n=0∨∃y,z.2=(y,.cells (rows id us) .ro)∧bo=some (b2+i,0)))∧(∀l:ArgL,l[b2+i]? =some z.2→VR (argI l) z.1 r)∧∀l:ArgL,RealOk W (argI l) z.2:=fun i=>by
    by_cases hi:i<c
    ·obtain⟨u,q,r,h1,h2⟩:=elem i hi
     rw[addr] at h1
     exact⟨(u,q),fun _=>⟨r,h1,h2⟩⟩
    ·exact⟨(nundef,(none,.dead)),fun q=>absurd q hi⟩
   obtain⟨f,hf'⟩:=Classical.skolem.1 sk
   have vget:∀i u,((List.range n).map fun i=>(f i).1)[i]? =some u→i<n∧u=(f i).1:=fun i u hu=>by
    rw[List.getElem?_map] at hu
    by_cases hi:i<n
    ·rw[List.getElem?_range hi] at hu;simp at hu;exact⟨hi,hu.symm⟩
    ·rw[List.getElem?_eq_none (by simp;omega)] at hu;simp at hu
   have iget:∀i,i<n→((List.range n).map fun i=>(f i).2)[i]? =some (f i).2:=fun i hi=>by
    rw[List.getElem?_map,List.getElem?_range hi];rfl
   refine⟨some (b,0),n,c,none,some (blk,off,0),.cells ((List.range n).map fun i=>(f i).1) .ro,(List.range n).map fun i=>(f i).2,(List.range n).map fun i=>(f i).1,⟨.inl rfl,hl⟩,by simp,by simp,.inr ⟨rfl,rfl⟩,fun i u hu=>?_,fun l hl'=>?_,fun l hin=>⟨.inr ⟨_,rfl,blk,off,0,rfl,fun i u hu=>?_⟩,fun q hq=>?_⟩⟩
   ·obtain⟨hi,rfl⟩:=vget i u hu
    obtain⟨r,_,⟨bo,n',c',x',us,g1,g2,g3,g4,g5,g6⟩,_⟩:=hf' i (by omega)
    exact⟨bo,n',c',x',us,g1,g2,g3,g4,g5,g6.imp id fun⟨y,q1,q2⟩=>⟨y,by rw[iget i hi,q1],q2⟩⟩
   ·have hi:argI l b=some (blk,off,0):=by simp[argI,hl']
    exact VR.slice (o:=0) (s:=off) hi hl rfl
   ·obtain⟨hi,rfl⟩:=vget i u hu
    obtain⟨r,h1,_,h3,_⟩:=hf' i (by omega)
    exact⟨r,h1,h3 l (hin i _ (iget i hi))⟩
   ·obtain⟨i,hi,rfl⟩:=List.mem_map.1 hq
    obtain⟨r,_,_,_,h4⟩:=hf' i (by have:=List.mem_range.1 hi;omega)
    exact h4 l
end Go.Proofs.YtkjpldganajkkaaGreatDoor.NICE
