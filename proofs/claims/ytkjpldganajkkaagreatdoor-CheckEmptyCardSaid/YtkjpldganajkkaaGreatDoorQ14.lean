/-
  Epoch2 to TreeM, as one text. Proved step by step; no conditions beside what is said.
-/
import Derived.Test.YtkjpldganajkkaaGreatDoorQ10
import Derived.Test.YtkjpldganajkkaaGreatDoorQ11
import Derived.Test.YtkjpldganajkkaaGreatDoorQ12
import Derived.Test.YtkjpldganajkkaaGreatDoorQ13
set_option linter.unusedSimpArgs false
set_option linter.unusedVariables false
set_option linter.unusedSectionVars false
set_option maxRecDepth 100000
namespace Go.Proofs.YtkjpldganajkkaaGreatDoor.S
open Go Go.RowKit Go.Proofs.YtkjpldganajkkaaGreatDoor.NICE
namespace epoch
open word pool mir pack arena
theorem set_lim {ε:EpochsS} (o:EpochsOk ε) {i:Nat} {x} (l:List (Int×Int)) (hl:(l.length:Int)≤ε.room∧∀y∈l,0≤y.2∧y.2≤ε.now):EpochsOk {ε with cls:=ε.cls.set i (x,l)}:=by
 refine⟨o.now,o.room,by simpa using o.len,fun y hy=>?_⟩
 rcases List.mem_or_eq_of_mem_set hy with hy|rfl
 ·exact o.lim y hy
 ·exact hl
set_option maxHeartbeats 1000000 in
theorem Retire_K {G c e ε} (r:EpochsRep G c e ε) (cl ref:Int):∃G',K env 96 [e,.int .i64 cl,.int .i64 ref] G.h=some (.int .i64 (retireF ε cl ref).1,G'.h)∧Stp c (c+9) G G'∧EpochsRep G' c e (retireF ε cl ref).2:=by
 obtain⟨eb,q,cv,L,rfl,r⟩:=r
 have eP:=Parts_K ref G.h
 obtain⟨pv,ee,⟨h1,rfl⟩|⟨i,x,b,x',rfl,hs,h1,hcv,rfl⟩⟩:=of_K r cl
 ·have hp:retireF ε cl ref=(1,ε):=by simp[retireF,h1]
  rw[hp]
  refine⟨G,?_,Stp.refl _ _ _,eb,q,cv,L,rfl,r⟩
  rw[k96 _ _ (by simp)]
  simp only[bodyOf,Option.getD_some,go_sem,seval,Tryz.f96,ee,eP]
  try rfl
 obtain⟨b',x2,q',lv,g1,g2,g3,g4,g5,g6,g7,g8,k0,k1,gl,gc⟩:=r.cl hs
 have hbb:b'=b:=by rw[hcv] at g1;simp at g1;exact g1.1.symm
 subst hbb
 have ge:=r.ge
 cases c1:(partsI ref).2.2.2 with
 |false=>
  have hp:retireF ε i ref=(1,ε):=by simp[retireF,h1,c1]
  rw[hp]
  rw[c1] at eP
  refine⟨G,?_,Stp.refl _ _ _,eb,q,cv,L,rfl,r⟩
  rw[k96 _ _ (by simp)]
  simp only[bodyOf,Option.getD_some,go_sem,seval,Tryz.f96,ee,eP]
  try rfl
 |true=>
  rw[c1] at eP
  obtain⟨lb,lc,lx,hlv⟩:=gl.sl.form
  have k1':=k1
  rw[hlv] at k1'
  have hve:veq 50 lv lv=true:=gl.sl.veq
  by_cases c2:ε.room≤x.2.length
  ·have hp:retireF ε i ref=(2,ε):=by simp[retireF,h1,c1,c2]
   rw[hp]
   refine⟨G,?_,Stp.refl _ _ _,eb,q,cv,L,rfl,r⟩
   rw[k96 _ _ (by simp)]
   rw[hlv] at hve
   simp only[bodyOf,Option.getD_some,go_sem,seval,Tryz.f96,ee,eP,g4,k1',ge,c2,hve]
   try rfl
  have hp:retireF ε i ref=(0,{ε with cls:=ε.cls.set i (x.1,x.2++[(ref,ε.now)])}):=by simp[retireF,h1,c1,c2]
  rw[hp]
  have hr:=r.ok.room
  have hn:=r.ok.now
  obtain⟨H1,hH1⟩:∃H1,(G.h.alloc .dead).set G.h.next (.cells [.int .i64 ref,.int .i64 ε.now] (.own none))=H1:=⟨_,rfl⟩
  have xH1:Ext G.h H1:=by rw[←hH1];exact((Ext.refl _).alloc _).set (Nat.le_refl _) _
  have n1:H1.next=G.h.next+1:=by rw[←hH1];rfl
  have gN:H1.get G.h.next=some (.cells [.int .i64 ref,.int .i64 ε.now] (.own none)):=by rw[←hH1];exact NHeap.get_set_same (by simp)
  have sN:Rw H1 2 retC (.slice (some (G.h.next,0)) 1 1 none) [(ref,ε.now)]:=Sl.whole gN rfl (Nat.le_refl _) (.inl rfl)
  have gl1:GrowE H1 lv 2 (rows retC x.2) x.2.length:=gl.upd (Upd.of_ext xH1) (.inr (by simp))
  obtain⟨v',H2,ap,gl2,u2,hcase⟩:=grow_app (P:=Tryz.prog) retC_len (fun _=>rfl) Tryz.underlying151 sz250 by250 ze250 rfl (by decide) gl1 sN (by simp;omega) (by simp;omega)
  obtain⟨n2,hv'⟩:H2.next=H1.next+1∧v'=.slice (some (H1.next,0)) (x.2.length+1) (x.2.length+1) (some 2):=by
   rcases hcase with⟨h,_⟩|⟨_,h2,h3⟩
   ·simp at h
   ·exact⟨h2,h3⟩
  have g41:=xH1.get g4
  have g42:=u2.get g41 (fun hm=>by have:=(gc b' hm).2;omega)
  have ge1:=xH1.get ge
  have ge2:=u2.get ge1 (fun hm=>by have:=(gc eb hm).2;have:=r.ce;omega)
  have lb2:=NHeap.get_lt g42
  have ss:=setRange_single (rows clC L) (i*2+1) v' (by omega)
  rw[cl_lim L i x lv v' (x.2++[(ref,ε.now)]) g3] at ss
  have i1:i*2+1+1≤L.length*2:=by omega
  have nb:¬b'=G.h.next:=by have:=NHeap.get_lt g4;omega
  have nb2:¬eb=G.h.next:=by have:=NHeap.get_lt ge;omega
  have nn:H1.next≤H2.next:=by omega
  have nn0:G.h.next≤H2.next:=by omega
  obtain⟨H3,hH3⟩:∃H3,H2.set b' (.cells (rows clC (L.set i ((x.1,x.2++[(ref,ε.now)]),v'))) (.own q'))=H3:=⟨_,rfl⟩
  have u3:Upd (b'::blk lv) G.h H3:=by
   rw[←hH3]
   exact((Upd.of_ext xH1).mono (by simp)).trans (u2.mono (by intro d hd;exact .inl (List.mem_cons_of_mem _ hd)))|>.set (.inl (by simp)) _
  have uu:Upd [b'] H2 H3:=by rw[←hH3];exact(Upd.refl _ _).set (.inl (by simp)) _
  have lb':=NHeap.get_lt g4
  have hb2:∀d∈blk v',d=H1.next:=by rw[hv'];simp[blk]
  obtain⟨s,r'⟩:=r.put hs (x':=(x.1,x.2++[(ref,ε.now)])) (lv':=v') g1 g2 g5 (fp:=b'::blk lv) (by
   intro d hd
   rw[List.mem_cons] at hd
   rcases hd with hd|hd
   ·exact .inl hd
   ·exact .inr (.inr (gc d hd).2)) u3 (by
   rw[List.mem_cons]
   rintro(h|h)
   ·exact g6 h.symm
   ·have:=(gc eb h).2;have:=r.ce;omega) (by rw[←hH3];exact NHeap.get_set_same lb2) lb' ⟨gl2.upd uu (.inr fun d hd q=>by
    simp at q
    have:=hb2 d hd
    omega),fun d hd=>⟨by have:=hb2 d hd;have:=uu.next;omega,by rw[newCol_new (by have:=hb2 d hd;omega)]⟩⟩
   (set_lim r.ok _ ⟨by simp;omega,fun y hy=>by
    rw[List.mem_append] at hy
    rcases hy with hy|hy
    ·exact(r.ok.lim x (List.mem_of_getElem? hs)).2 y hy
    ·simp at hy;subst hy;exact⟨hn.1,Int.le_refl _⟩⟩)
  refine⟨_,?_,s,eb,q,cv,_,rfl,r'⟩
  rw[k96 _ _ (by simp)]
  rw[hlv] at ap hve
  rw[hv'] at ap ss hH3
  simp only[bodyOf,Option.getD_some,go_sem,seval,Tryz.f96,ee,eP,g4,k1',ge,c2,hve,hH1,g41,ge1,ap,g42,g8,i1,ss,lb2,nb,nb2,nn,nn0,ge2,hH3,uu.next]
  try rfl
set_option maxHeartbeats 1000000 in
theorem Collect_K {G c e ε} (r:EpochsRep G c e ε) (cl:Int):∃G',K env 145 [e,.int .i64 cl] G.h=some (.tuple [.int .i64 (collectF ε cl).1.1,.bool (collectF ε cl).1.2],G'.h)∧Stp c (c+9) G G'∧EpochsRep G' c e (collectF ε cl).2:=by
 obtain⟨eb,q,cv,L,rfl,r⟩:=r
 obtain⟨pv,ee,⟨h1,rfl⟩|⟨i,x,b,x',rfl,hs,h1,hcv,rfl⟩⟩:=of_K r cl
 ·have hp:collectF ε cl=((0,false),ε):=by simp[collectF,h1]
  rw[hp]
  refine⟨G,?_,Stp.refl _ _ _,eb,q,cv,L,rfl,r⟩
  rw[k145 _ _ (by simp)]
  simp only[bodyOf,Option.getD_some,go_sem,seval,Tryz.f145,ee]
  try rfl
 obtain⟨b',x2,q',lv,g1,g2,g3,g4,g5,g6,g7,g8,k0,k1,gl,gc⟩:=r.cl hs
 have hbb:b'=b:=by rw[hcv] at g1;simp at g1;exact g1.1.symm
 subst hbb
 have ge:=r.ge
 have hn:=r.ok.now
 have hr:=r.ok.room
 obtain⟨lb,lc,lx,hlv⟩:=gl.sl.form
 have hve:veq 50 lv lv=true:=gl.sl.veq
 obtain⟨p0,l0⟩:=x
 cases l0 with
 |nil=>
  have hp:collectF ε i=((0,false),ε):=by simp[collectF,h1]
  rw[hp]
  have k1':=k1
  rw[hlv] at k1' hve
  refine⟨G,?_,Stp.refl _ _ _,eb,q,cv,L,rfl,r⟩
  rw[k145 _ _ (by simp)]
  simp only[bodyOf,Option.getD_some,go_sem,seval,Tryz.f145,ee,g4,k1',hve]
  try rfl
 |cons y l=>
  simp only at gl gc hlv k1
  obtain⟨eb',eo,ec,ex,eall,em,hel,gel,rowe,lee⟩:=Sl.elem (f:=retC) (k:=2) retC_len (i:=0) (a:=y) gl.sl rfl
  have ce0:=rowcell rowe (show(retC y)[0]? =some (.int .i64 y.1) from rfl)
  have ce1:=rowcell rowe (show(retC y)[1]? =some (.int .i64 y.2) from rfl)
  simp only[Nat.zero_mul,Nat.add_zero] at ce0 ce1
  have k1':=k1
  rw[hel] at k1' hve
  have hlim:=(r.ok.lim (p0,y::l) (List.mem_of_getElem? hs))
  have hy:=hlim.2 y (by simp)
  have w1:IntKind.i64.wrap (ε.now-y.2)=ε.now-y.2:=wrap_i64_small (by omega) (by omega)
  have ll:((y::l).length:Int)=(l.length:Int)+1:=by simp
  have nz:¬((l.length+1:Nat):Int)=0:=by omega
  have lp:(0:Int)<((l.length+1:Nat):Int):=by omega
  have hroom:=hlim.1
  have le1:(1:Int)≤((l.length+1:Nat):Int):=by omega
  by_cases c1:ε.now-y.2<2
  ·have hp:collectF ε i=((0,false),ε):=by simp[collectF,h1,c1]
   rw[hp]
   refine⟨G,?_,Stp.refl _ _ _,eb,q,cv,L,rfl,r⟩
   rw[k145 _ _ (by simp)]
   simp only[bodyOf,Option.getD_some,go_sem,seval,Tryz.f145,ee,g4,k1',ge,nz,lp,gel,ce1,w1,c1,hve]
   try rfl
  have hp:collectF ε i=((y.1,true),{ε with cls:=ε.cls.set i (p0,l)}):=by simp[collectF,h1,c1]
  rw[hp]
  obtain⟨v1,e1,s1⟩:=Sl.drop (P:=Tryz.prog) gl.sl Tryz.underlying151 sz250 .i64 1 (by simp)
  rw[rows_drop retC_len] at s1
  have s1':Rw G.h 2 retC v1 l:=s1
  obtain⟨v2,H1,e2,xH1,gl2,fresh⟩:=clone_R (f:=retC) retC_len (fun _=>rfl) G.h v1 l s1' (by simp only[List.length_cons] at hroom;omega)
  have g41:=xH1.get g4
  have lb1:=NHeap.get_lt g41
  have lb':=NHeap.get_lt g4
  have ss:=setRange_single (rows clC L) (i*2+1) v2 (by omega)
  rw[cl_lim L i _ lv v2 l g3] at ss
  have i1:i*2+1+1≤L.length*2:=by omega
  obtain⟨H2,hH2⟩:∃H2,H1.set b' (.cells (rows clC (L.set i ((p0,l),v2))) (.own q'))=H2:=⟨_,rfl⟩
  have u2:Upd [b'] G.h H2:=by rw[←hH2];exact((Upd.of_ext xH1).mono (by simp)).set (.inl (by simp)) _
  have uu:Upd [b'] H1 H2:=by rw[←hH2];exact(Upd.refl _ _).set (.inl (by simp)) _
  obtain⟨bo2,c2,xx2,hv2⟩:=gl2.sl.form
  obtain⟨s,r'⟩:=r.put hs (x':=(p0,l)) (lv':=v2) g1 g2 g5 (fp:=[b']) (by simp) u2 (by simpa using Ne.symm g6) (by rw[←hH2];exact NHeap.get_set_same lb1) lb' ⟨gl2.upd uu (.inr fun d hd q=>by
    simp at q;subst q
    have:=(fresh d hd).1
    omega),fun d hd=>⟨Nat.lt_of_lt_of_le (fresh d hd).2 uu.next,by rw[newCol_new (fresh d hd).1]⟩⟩
   (set_lim r.ok _ ⟨by simp only[List.length_cons] at hroom;omega,fun z hz=>hlim.2 z (by simp[hz])⟩)
  refine⟨_,?_,s,eb,q,cv,_,rfl,r'⟩
  rw[k145 _ _ (by simp)]
  rw[hel] at e1
  have e1':nslice Tryz.prog 151 (.slice (some (eb',eo)) (l.length+1) ec ex) (some (.int .i64 1)) none=some v1:=e1
  rw[hv2] at e2 ss hH2
  simp only[bodyOf,Option.getD_some,go_sem,seval,Tryz.f145,ee,g4,k1',ge,nz,lp,gel,ce0,ce1,w1,c1,hve,e1',e2,g41,g8,i1,ss,lb1,hH2]
  try rfl
end epoch
end Go.Proofs.YtkjpldganajkkaaGreatDoor.S
namespace Go.Proofs.YtkjpldganajkkaaGreatDoor.S
open Go Go.RowKit Go.Proofs.YtkjpldganajkkaaGreatDoor.NICE
namespace epoch
open word pool mir pack arena
abbrev clZ:(Int×List (Int×Int))×NVal:=((-1,[]),.slice none 0 0 none)
def clU (_:Unit):List NVal:=clC clZ
theorem clU_rows:∀n,rows clU (List.replicate n ())=rows clC (List.replicate n clZ)
 |0=>rfl
 |n+1=>by rw[List.replicate_succ,List.replicate_succ,rows_cons,rows_cons,clU_rows n];rfl
noncomputable def lbEN:Code:=inC (inC (atC (bodyOf Tryz.f36) 5))
theorem loopEN (hA:NHeap) (eb:Nat) (he:hA.next≤eb) (n:Nat) (hn:n≤8) (room:Int) (Q:Out→Prop)
  (hQ:∀(h:NHeap) (cv:NVal) (F:Fr),Upd [] hA h→h.get eb=some (.cells [.int .i64 0,.int .i64 room,cv] (.own none))→Grow h cv 2 (rows clU (List.replicate n ())) n→(∀b∈blk cv,hA.next≤b∧b≠eb)→F 6=.ptr (some (eb,0))→Q (some (.exit 0,toL 39 F,h))):
  ∀(f i:Nat) (h:NHeap) (cv:NVal) (F:Fr),i+f=n→Upd [] hA h→h.get eb=some (.cells [.int .i64 0,.int .i64 room,cv] (.own none))→Grow h cv 2 (rows clU (List.replicate i ())) i→(∀b∈blk cv,hA.next≤b∧b≠eb)→F 6=.ptr (some (eb,0))→F 24=.int .i64 n→F 25=.int .i64 i→Q (C env (.loop lbEN) (toL 39 F) h):=by
 intro f
 induction f with
 |zero=>
  intro i h cv F hi u ge g hb f6 f24 f25
  have:i=n:=by omega
  subst this
  rw[S_loop]
  conv=>arg 1;arg 2;arg 2;simp only[lbEN,bodyOf,Option.getD_some,atC,seqL,inC,elC,List.nil_append,List.cons_append,List.getElem?_cons_succ,List.getElem?_cons_zero,Tryz.f36]
  simp only[go_sem,seval,f24,f25]
  exact hQ h cv _ u ge g hb (by simp only[go_sem,seval,f6])
 |succ f ih=>
  intro i h cv F hi u ge g hb f6 f24 f25
  have i1:(i:Int)<(n:Int):=by omega
  have w1:IntKind.i64.wrap ((i:Int)+1)=((i+1:Nat):Int):=by rw[wrap_i64_small (by omega) (by omega)];omega
  have le:=NHeap.get_lt ge
  obtain⟨H1,hH1⟩:∃H1,h.alloc (.cells [.int .i64 (-1),.slice none 0 0 none] (.own none))=H1:=⟨_,rfl⟩
  have x1:Ext h H1:=by rw[←hH1];exact(Ext.refl h).alloc _
  have n1:H1.next=h.next+1:=by rw[←hH1];rfl
  have gn:H1.get h.next=some (.cells (clU ()) (.own none)):=by rw[←hH1];simp[NHeap.get_alloc,clU,clC]
  have gl:Grow H1 cv 2 (rows clU (List.replicate i ())) (List.replicate i ()).length:=by rw[List.length_replicate];exact g.upd (Upd.of_ext x1) (by simp)
  obtain⟨h2,ap,n2,g2,u2⟩:=grow_one (P:=Tryz.prog) (f:=clU) (fun _=>rfl) (fun _=>rfl) Tryz.underlying148 sz153 by153 ze153 rfl (by decide) gl gn (by simp;omega) (by simp;omega)
  rw[List.length_replicate] at ap g2
  have ge1:=x1.get ge
  have ge2:=u2.get ge1 (fun hm=>(hb eb hm).2 rfl)
  have le2:=NHeap.get_lt ge2
  have hve:=g.veq
  obtain⟨H3,hH3⟩:∃H3,h2.set eb (.cells [.int .i64 0,.int .i64 room,.slice (some (H1.next,0)) (i+1) (i+1) (some 2)] (.own none))=H3:=⟨_,rfl⟩
  have u3:Upd [eb] h2 H3:=by rw[←hH3];exact(Upd.refl _ _).set (.inl (by simp)) _
  rw[n1] at ap hH3 g2
  rw[S_loop]
  conv=>arg 1;arg 2;arg 2;simp only[lbEN,bodyOf,Option.getD_some,atC,seqL,inC,elC,List.nil_append,List.cons_append,List.getElem?_cons_succ,List.getElem?_cons_zero,Tryz.f36]
  simp only[go_sem,seval,f6,f24,f25,i1,ge,hH1,n1,ge1,ap,ge2,le2,hve,hH3,w1]
  refine ih (i+1) H3 (.slice (some (h.next+1,0)) (i+1) (i+1) (some 2)) _ (by omega) ?_ ?_ ?_ ?_ ?_ ?_ ?_
  ·refine Upd.trans' (fq:=eb::blk cv) u ((((Upd.of_ext x1).mono (by simp)).trans (u2.mono (by intro d hd;exact .inl (List.mem_cons_of_mem _ hd)))).trans (u3.mono (by simp))) ?_
   intro d hd
   rw[List.mem_cons] at hd
   rcases hd with rfl|hd
   ·exact .inr he
   ·exact .inr (hb d hd).1
  ·rw[←hH3];exact NHeap.get_set_same le2
  ·rw[show List.replicate (i+1) ()=List.replicate i ()++[()] by rw[List.replicate_succ']]
   exact g2.upd u3 (by simp[blk];omega)
  ·intro d hd
   simp[blk] at hd
   have:=u.next
   omega
  ·simp only[go_sem,seval,f6]
  ·simp only[go_sem,seval,f24]
  ·simp only[go_sem,seval]
theorem New_K (G:Gh) (c n lim:Nat) (h1:1≤n) (h2:n≤8) (h3:4≤lim) (h4:lim≤64):∃e G',K env 36 [.int .i64 n,.int .i64 lim] G.h=some (.tuple [e,.int .i64 0],G'.h)∧Stp c (c+9) G G'∧EpochsRep G' c e (newEpochs n lim):=by
 have c1:¬(n:Int)<1:=by omega
 have c2:¬(8:Int)<(n:Int):=by omega
 have c3:¬(lim:Int)<4:=by omega
 have c4:¬(64:Int)<(lim:Int):=by omega
 obtain⟨H1,hH1⟩:∃H1,G.h.alloc (.cells [.int .i64 0,.int .i64 (lim:Int),.slice none 0 0 none] (.own none))=H1:=⟨_,rfl⟩
 have x1:Ext G.h H1:=by rw[←hH1];exact(Ext.refl _).alloc _
 have g1:H1.get G.h.next=some (.cells [.int .i64 0,.int .i64 (lim:Int),.slice none 0 0 none] (.own none)):=by rw[←hH1];simp[NHeap.get_alloc]
 rw[k36 _ _ (by simp)]
 simp only[bodyOf,Option.getD_some,go_sem,seval,Tryz.f36,c1,c2,c3,c4,hH1]
 have key:=fun rest=>loopEN G.h G.h.next (Nat.le_refl _) n h2 lim (fun r=>∃e G',outF Tryz.prog [.tmp 4,.tmp 5] (thenD env (blockC 0 r) rest)=some (.tuple [e,.int .i64 0],G'.h)∧Stp c (c+9) G G'∧EpochsRep G' c e (newEpochs n lim))
 simp only[lbEN,bodyOf,Option.getD_some,atC,seqL,inC,elC,List.nil_append,List.cons_append,List.getElem?_cons_succ,List.getElem?_cons_zero,Tryz.f36] at key
 refine key _ ?_ n 0 H1 (.slice none 0 0 none) _ (by omega) (Upd.of_ext x1) g1 (Grow.nil _ _) (by simp[blk]) ?_ ?_ ?_
 ·intro h cv F u ge g hb f6
  have le:=NHeap.get_lt ge
  have hx:Ext G.h h:=u.ext
  refine⟨.ptr (some (G.h.next,0)),⟨h,newCol G.h G.col fun _=>c⟩,?_,Stp.of_ext _ _ hx _,G.h.next,none,cv,List.replicate n clZ,rfl,ge,?_,by rw[List.length_replicate,←clU_rows];exact g,?_,fun b hb'=>(hb b hb').2,?_,?_,?_⟩
  ·simp only[go_sem,seval,f6]
   try rfl
  ·show newCol G.h G.col (fun _=>c) G.h.next=c
   rw[newCol_new (Nat.le_refl _)]
  ·intro b hb'
   show newCol G.h G.col (fun _=>c) b=c
   rw[newCol_new (hb b hb').1]
  ·show(List.replicate n clZ).map Prod.fst=List.replicate n (-1,[])
   rw[List.map_replicate]
  ·intro i x hx'
   have hx2:x=clZ:=(List.mem_replicate.1 (List.mem_of_getElem? hx')).2
   subst hx2
   exact⟨.inl ⟨rfl,rfl,rfl⟩,by simp[blk]⟩
  ·refine⟨by simp[newEpochs],by simp only[newEpochs];omega,by simp[newEpochs];omega,fun x hx'=>?_⟩
   have hx2:=(List.mem_replicate.1 hx').2
   subst hx2
   simp[newEpochs]
 all_goals simp only[go_sem,seval]
end epoch
end Go.Proofs.YtkjpldganajkkaaGreatDoor.S
namespace Go.Proofs.YtkjpldganajkkaaGreatDoor.S
open Go Go.RowKit Go.Proofs.YtkjpldganajkkaaGreatDoor.NICE
namespace mem
open word pool mir pack arena node
def MemRep (G:Gh) (c:Nat) (m:NVal) (μ:MemS):Prop:=
 ∃mb q av ev,m=.ptr (some (mb,0))∧G.h.get mb=some (.cells [av,ev,.int .i64 μ.clients,.int .i64 μ.root,.int .i64 μ.holder] (.own q))∧G.col mb=c∧ArenaRep G (c+1) av μ.arena∧epoch.EpochsRep G (c+7) ev μ.eps
theorem MemRep.step {lo hi c:Nat} {G G':Gh} (s:Stp lo hi G G') (h0:0<lo) (hc:hi≤c∨c+16≤lo) {m μ} (r:MemRep G c m μ):MemRep G' c m μ:=by
 obtain⟨mb,q,av,ev,h1,h2,h3,h4,h5⟩:=r
 exact⟨mb,q,av,ev,h1,s.get h2 (by rw[h3];omega),by rw[s.col _ (NHeap.get_lt h2)];exact h3,h4.step s h0 (by omega),h5.step s (by omega)⟩
def cfgV (s:List Int) (cl li tr:Int):NVal:=.agg (ints s++[.int .i64 cl,.int .i64 li,.int .i64 tr])
theorem emptyNode (h:NHeap):NodeAt h {kind:=4} (.slice none 0 0 none) (.slice none 0 0 none):=⟨Sl.nil _ _,Sl.nil _ _,SlV.nil _,by decide,by decide,by decide,by decide⟩
theorem right_empty:rightN {kind:=4}=true:=by decide
set_option maxHeartbeats 2000000 in
theorem New_K (G:Gh) (c:Nat) (hc0:0<c) (nl:List Nat) (hl:nl.length=5) (hsum:nl.sum≤1024) (n lm:Nat) (h1:1≤n) (h2:n≤8) (h3:4≤lm) (h4:lm≤64) (tr:Int) (t1:1≤tr) (t2:tr≤100):
  ∃m e G',K env 14 [cfgV (nl.map fun(n:Nat)=>(n:Int)) n lm tr] G.h=some (.tuple [m,.int .i64 e],G'.h)∧Stp c (c+16) G G'∧(((allocF (newArena nl) 4 (encW {kind:=4})).1.2≠0∧m=.ptr none∧e=1)∨((allocF (newArena nl) 4 (encW {kind:=4})).1.2=0∧e=0∧MemRep G' c m (newMem nl n lm))):=by
 match nl,hl with
 |[a,b,d,e,f],hl=>
 obtain⟨H,hH⟩:∃H,G.h.alloc (.cells [.int .i64 (a:Int),.int .i64 (b:Int),.int .i64 (d:Int),.int .i64 (e:Int),.int .i64 (f:Int),.int .i64 (n:Int),.int .i64 (lm:Int),.int .i64 tr] (.own none))=H:=⟨_,rfl⟩
 have x:Ext G.h H:=by rw[←hH];exact(Ext.refl _).alloc _
 have g:H.get G.h.next=some (.cells [.int .i64 (a:Int),.int .i64 (b:Int),.int .i64 (d:Int),.int .i64 (e:Int),.int .i64 (f:Int),.int .i64 (n:Int),.int .i64 (lm:Int),.int .i64 tr] (.own none)):=by rw[←hH];simp[NHeap.get_alloc]
 have il:ints ([a,b,d,e,f].map fun(n:Nat)=>(n:Int))=[.int .i64 (a:Int),.int .i64 (b:Int),.int .i64 (d:Int),.int .i64 (e:Int),.int .i64 (f:Int)]:=rfl
 have cv:cfgV ([a,b,d,e,f].map fun(n:Nat)=>(n:Int)) n lm tr=.agg [.int .i64 (a:Int),.int .i64 (b:Int),.int .i64 (d:Int),.int .i64 (e:Int),.int .i64 (f:Int),.int .i64 (n:Int),.int .i64 (lm:Int),.int .i64 tr]:=rfl
 have s0:Stp c (c+16) G ⟨H,newCol G.h G.col fun _=>0⟩:=Stp.of_ext _ _ x _
 obtain⟨av,G1,e1,s1,ra⟩:=arena.New_K ⟨H,newCol G.h G.col fun _=>0⟩ (c+1) (by omega) [a,b,d,e,f] hl hsum
 obtain⟨ab,hab⟩:∃ab,av=.ptr (some (ab,0)):=by obtain⟨ab,_,_,_,_,h,_⟩:=ra;exact⟨ab,h⟩
 subst hab
 rw[il] at e1
 have c0:newCol G.h G.col (fun _=>0) G.h.next=0:=newCol_new (Nat.le_refl _)
 have g1:=s1.get (G:=⟨H,newCol G.h G.col fun _=>0⟩) g (by show¬(c+1≤newCol G.h G.col (fun _=>0) G.h.next∧_);rw[c0];omega)
 have c1:G1.col G.h.next=0:=by rw[s1.col _ (NHeap.get_lt g)];exact c0
 obtain⟨ev,G2,e2,s2,re⟩:=epoch.New_K G1 (c+7) n lm h1 h2 h3 h4
 obtain⟨eb,heb⟩:∃eb,ev=.ptr (some (eb,0)):=by obtain⟨eb,_,_,_,h,_⟩:=re;exact⟨eb,h⟩
 subst heb
 have g2:=s2.get g1 (by rw[c1];omega)
 have c2:G2.col G.h.next=0:=by rw[s2.col _ (NHeap.get_lt g1)];exact c1
 have ra2:=ra.step s2 (by omega) (by omega)
 obtain⟨wb,h3',e3,x3,hwb,gw⟩:=Encode_K G2.h {kind:=4} (.slice none 0 0 none) (.slice none 0 0 none) (emptyNode _) right_empty
 obtain⟨W,hW⟩:∃W,encW {kind:=4}=W:=⟨_,rfl⟩
 have hWl:W.length=264:=by rw[←hW,enc_len ((right_iff _).1 right_empty)];rfl
 have hWlt:∀w∈W,w<2^64:=by rw[←hW];decide
 rw[hW] at gw⊢
 have s3:Stp c (c+16) G2 ⟨h3',newCol G2.h G2.col fun _=>0⟩:=Stp.of_ext _ _ x3 _
 have fv:Fz ⟨h3',newCol G2.h G2.col fun _=>0⟩ 1 (.slice (some (wb,0)) 264 264 none) W.length (rows U W):=fzNew hwb gw hWl.symm
 have g3:=x3.get g2
 have s3':Stp (c+17) (c+18) G2 ⟨h3',newCol G2.h G2.col fun _=>0⟩:=Stp.of_ext _ _ x3 _
 have ra3:=ra2.step s3' (by omega) (by omega)
 obtain⟨G4,e4,s4,ra4⟩:=Alloc_K (by omega) ra3 4 _ W fv hWlt
 have c3:newCol G2.h G2.col (fun _=>0) G.h.next=0:=by rw[newCol_old (NHeap.get_lt g2)];exact c2
 have g4:=s4.get (G:=⟨h3',newCol G2.h G2.col fun _=>0⟩) g3 (by show¬(c+1≤newCol G2.h G2.col (fun _=>0) G.h.next∧_);rw[c3];omega)
 have re4:=(re.step s3' (by omega)).step s4 (by omega)
 have S4:Stp c (c+16) G G4:=(((s0.trans (s1.mono (by omega) (by omega))).trans (s2.mono (by omega) (by omega))).trans s3).trans (s4.mono (by omega) (by omega))
 have ep:¬(n:Int)<1:=by omega
 have tt1:¬tr<1:=by omega
 have tt2:¬100<tr:=by omega
 have e3':K env 38 [.agg [.int .i64 4,.int .u64 0,.str [],.slice none 0 0 none,.slice none 0 0 none]] G2.h=some (.slice (some (wb,0)) 264 264 none,h3'):=e3
 have e4':K env 37 [.ptr (some (ab,0)),.int .i64 4,.slice (some (wb,0)) 264 264 none] h3'=some (.tuple [.int .i64 (allocF (newArena [a,b,d,e,f]) 4 W).1.1,.int .i64 (allocF (newArena [a,b,d,e,f]) 4 W).1.2],G4.h):=e4
 rw[cv,k14 _ _ (by simp)]
 by_cases her:(allocF (newArena [a,b,d,e,f]) 4 W).1.2=0
 case neg=>
  refine⟨.ptr none,1,G4,?_,S4,.inl ⟨her,rfl,rfl⟩⟩
  simp only[bodyOf,Option.getD_some,go_sem,seval,Tryz.f14,hH,g,e1,g1,e2,g2,tt1,tt2,e3',e4',her,g4]
  try rfl
 ·have herd:decide ((allocF (newArena [a,b,d,e,f]) 4 W).1.2=0)=true:=decide_eq_true her
  have la:=NHeap.get_lt g4
  obtain⟨H5,hH5⟩:∃H5,G4.h.alloc (.cells [.ptr (some (ab,0)),.ptr (some (eb,0)),.int .i64 (n:Int),.int .i64 (allocF (newArena [a,b,d,e,f]) 4 W).1.1,.int .i64 (-1)] (.own none))=H5:=⟨_,rfl⟩
  have x5:Ext G4.h H5:=by rw[←hH5];exact(Ext.refl _).alloc _
  have s5:Stp c (c+16) G4 ⟨H5,newCol G4.h G4.col fun _=>c⟩:=Stp.of_ext _ _ x5 _
  have s5':Stp (c+17) (c+18) G4 ⟨H5,newCol G4.h G4.col fun _=>c⟩:=Stp.of_ext _ _ x5 _
  refine⟨.ptr (some (G4.h.next,0)),0,⟨H5,newCol G4.h G4.col fun _=>c⟩,?_,S4.trans s5,.inr ⟨her,rfl,G4.h.next,none,.ptr (some (ab,0)),.ptr (some (eb,0)),rfl,?_,?_,?_,re4.step s5' (by omega)⟩⟩
  ·simp only[bodyOf,Option.getD_some,go_sem,seval,Tryz.f14,hH,g,e1,g1,e2,g2,tt1,tt2,e3',e4',her,herd,g4,hH5]
   try rfl
  ·show H5.get G4.h.next=_
   rw[←hH5];simp[NHeap.get_alloc,newMem,hW]
  ·show newCol G4.h G4.col (fun _=>c) G4.h.next=c
   rw[newCol_new (Nat.le_refl _)]
  ·have:=ra4.step s5' (by omega) (by omega)
   simp only[newMem,hW]
   exact this
def accV (a:Acc) (wv:NVal):List NVal:=[.int .i64 a.kind,.int .i64 a.ref,.int .i64 a.cls,.int .i64 a.n,.int .u64 (a.was:Nat),wv]
def resV (r:Res) (rv:NVal):List NVal:=[.int .i64 r.err,.int .i64 r.n,.bool r.ok,rv]
theorem turn_H {h:NHeap} {mb:Nat} {av ev:NVal} {q} {μ:MemS} (gm:h.get mb=some (.cells [av,ev,.int .i64 μ.clients,.int .i64 μ.root,.int .i64 μ.holder] (.own q))) (cl kd:Int):
  ∃h',K env 103 [.ptr (some (mb,0)),.int .i64 cl,.int .i64 kd] h=some (.agg (resV (turnF μ cl kd).1 (.slice none 0 0 none)),h')∧Upd [mb] h h'∧h'.get mb=some (.cells [av,ev,.int .i64 μ.clients,.int .i64 μ.root,.int .i64 (turnF μ cl kd).2.holder] (.own q)):=by
 have nb:¬mb=h.next:=by have:=NHeap.get_lt gm;omega
 have nb':¬h.next=mb:=by have:=NHeap.get_lt gm;omega
 have lm:mb<h.next+1:=by have:=NHeap.get_lt gm;omega
 rw[k103 _ _ (by simp)]
 by_cases c1:kd=13
 ·subst c1
  rw[turnF,if_pos rfl]
  refine⟨_,(by simp only[bodyOf,Option.getD_some,go_sem,seval,Tryz.f103,gm,nb,resV];exact rfl),?_,?_⟩
  ·repeat(first|exact Upd.refl _ _|apply Upd.alloc|refine Upd.set ?_ (by simp) _)
  ·simp only[go_sem,seval,gm,nb,nb',lm]
 by_cases c2:kd=14
 ·subst c2
  by_cases c3:μ.holder<0
  ·rw[turnF,if_neg (by decide),if_pos ⟨rfl,c3⟩]
   refine⟨_,(by simp only[bodyOf,Option.getD_some,go_sem,seval,Tryz.f103,gm,nb,nb',lm,c3,resV];exact rfl),?_,?_⟩
   ·repeat(first|exact Upd.refl _ _|apply Upd.alloc|refine Upd.set ?_ (by simp) _)
   ·simp only[go_sem,seval,gm,nb,nb',lm]
  ·rw[turnF,if_neg (by decide),if_neg (by simp[c3]),if_neg (by simp)]
   refine⟨_,(by simp only[bodyOf,Option.getD_some,go_sem,seval,Tryz.f103,gm,nb,nb',lm,c3,resV];exact rfl),?_,?_⟩
   ·repeat(first|exact Upd.refl _ _|apply Upd.alloc|refine Upd.set ?_ (by simp) _)
   ·simp only[go_sem,seval,gm,nb,nb',lm]
 by_cases c3:kd=15
 ·subst c3
  by_cases c4:μ.holder=cl
  ·have c4d:decide (μ.holder=cl)=true:=decide_eq_true c4
   rw[turnF,if_neg (by decide),if_neg (by simp),if_pos ⟨rfl,c4⟩]
   refine⟨_,(by simp only[bodyOf,Option.getD_some,go_sem,seval,Tryz.f103,gm,nb,nb',lm,c4d,resV];exact rfl),?_,?_⟩
   ·repeat(first|exact Upd.refl _ _|apply Upd.alloc|refine Upd.set ?_ (by simp) _)
   ·simp only[go_sem,seval,gm,nb,nb',lm]
  ·rw[turnF,if_neg (by decide),if_neg (by simp),if_neg (by simp[c4])]
   refine⟨_,(by simp only[bodyOf,Option.getD_some,go_sem,seval,Tryz.f103,gm,nb,nb',lm,c4,resV];exact rfl),?_,?_⟩
   ·repeat(first|exact Upd.refl _ _|apply Upd.alloc|refine Upd.set ?_ (by simp) _)
   ·simp only[go_sem,seval,gm,nb,nb',lm]
 ·rw[turnF,if_neg c1,if_neg (fun q=>c2 q.1),if_neg (fun q=>c3 q.1)]
  refine⟨_,(by simp only[bodyOf,Option.getD_some,go_sem,seval,Tryz.f103,gm,nb,nb',lm,c1,c2,c3,resV];exact rfl),?_,?_⟩
  ·repeat(first|exact Upd.refl _ _|apply Upd.alloc|refine Upd.set ?_ (by simp) _)
  ·simp only[go_sem,seval,gm,nb,nb',lm]
theorem memPut {G:Gh} {c:Nat} (hc0:0<c) {mb q av ev} {μ:MemS} (cm:G.col mb=c) (lm:mb<G.h.next) (ra:ArenaRep G (c+1) av μ.arena) (re:epoch.EpochsRep G (c+7) ev μ.eps) {h':NHeap} (hd:Int) (u:Upd [mb] G.h h') (g:h'.get mb=some (.cells [av,ev,.int .i64 μ.clients,.int .i64 μ.root,.int .i64 hd] (.own q))):
  Stp c (c+16) G ⟨h',newCol G.h G.col fun _=>0⟩∧MemRep ⟨h',newCol G.h G.col fun _=>0⟩ c (.ptr (some (mb,0))) {μ with holder:=hd}:=by
 have s1:Stp c (c+1) G ⟨h',newCol G.h G.col fun _=>0⟩:=Stp.of_upd u (by rintro d hd' _;simp at hd';subst hd';omega) _
 refine⟨s1.mono (Nat.le_refl _) (by omega),mb,q,av,ev,rfl,g,?_,ra.step s1 hc0 (by omega),re.step s1 (by omega)⟩
 show newCol G.h G.col (fun _=>0) mb=c
 rw[newCol_old lm];exact cm
theorem turnF_eq (μ:MemS) (cl kd:Int):(turnF μ cl kd).2={μ with holder:=(turnF μ cl kd).2.holder}∧(turnF μ cl kd).1.words=[]:=by
 unfold turnF
 split
 ·exact⟨rfl,rfl⟩
 ·split
  ·exact⟨rfl,rfl⟩
  ·split
   ·exact⟨rfl,rfl⟩
   ·exact⟨rfl,rfl⟩
end mem
end Go.Proofs.YtkjpldganajkkaaGreatDoor.S
namespace Go.Proofs.YtkjpldganajkkaaGreatDoor.S
open Go Go.RowKit Go.Proofs.YtkjpldganajkkaaGreatDoor.NICE
namespace get
open word pack mir node mem
def gN:Nat→NVal
 |1=>.func (.func 130) [] []
 |2=>.func (.func 161) [] []
 |3=>.func (.func 191) [] []
 |4=>.func (.func 212) [] []
 |5=>.func (.func 218) [] []
 |_=>.nilFunc
theorem z0:((0:Nat):Int)=0:=rfl
abbrev nilS0:NVal:=.slice none 0 0 none
abbrev getC (g:GetS) (fv:NVal):List NVal:=[.str g.key,.str g.rest,.int .i64 g.root,.int .i64 g.want.kind,.int .i64 g.want.ref,.int .i64 g.want.cls,.int .i64 g.want.n,.int .u64 (g.want.was:Nat),nilS0,fv,.int .i64 g.ref,.bool g.placed,.bool g.took,.int .i64 g.ans.err,.bool g.ans.found,.int .i64 g.ans.value,nilS0]
def GetAt (h:NHeap) (b:Nat) (q:Option (TypeId×Nat)) (g:GetS):Prop:=h.get b=some (.cells (getC g (gN g.next)) (.own q))
structure GetWF (g:GetS):Prop where
 key:g.key.length<2^30
 rest:g.rest.length<2^30
 words:g.want.words=[]
 list:g.ans.list=[]
abbrev P (b:Nat):NVal:=.ptr (some (b,0))
def Eff (h:NHeap) (b:Nat) (q:Option (TypeId×Nat)) (f:Nat) (l:List NVal) (g':GetS):Prop:=∃h',K env f l h=some (.tuple [],h')∧Upd [b] h h'∧GetAt h' b q g'
theorem wants_K (h:NHeap) (b:Nat) (q:Option (TypeId×Nat)) (g:GetS) (fv0:NVal) (hg:h.get b=some (.cells (getC g fv0) (.own q))) (a:Acc) (nx:Nat):Eff h b q 129 [P b,.agg (accV a nilS0),gN nx] (g.wants a nx):=by
 obtain⟨H,hH⟩:∃H,h.alloc (.cells (accV a nilS0) (.own none))=H:=⟨_,rfl⟩
 have x:Ext h H:=by rw[←hH];exact(Ext.refl h).alloc _
 have gA:H.get h.next=some (.cells (accV a nilS0) (.own none)):=by rw[←hH];simp[NHeap.get_alloc]
 have gB:=x.get hg
 have lB:=NHeap.get_lt gB
 have lb:=NHeap.get_lt hg
 obtain⟨h',hh'⟩:∃h',(H.set b (.cells [.str g.key,.str g.rest,.int .i64 g.root,.int .i64 a.kind,.int .i64 a.ref,.int .i64 a.cls,.int .i64 a.n,.int .u64 (a.was:Nat),nilS0,fv0,.int .i64 g.ref,.bool g.placed,.bool g.took,.int .i64 g.ans.err,.bool g.ans.found,.int .i64 g.ans.value,nilS0] (.own q))).set b (.cells (getC (g.wants a nx) (gN nx)) (.own q))=h':=⟨_,rfl⟩
 refine⟨h',?_,?_,?_⟩
 ·obtain⟨fv,hfv,hq⟩:∃fv,gN nx=fv∧(fv=.nilFunc∨∃f,fv=.func (.func f) [] []):=by
   refine⟨_,rfl,?_⟩
   unfold gN
   split<;>first|exact .inl rfl|exact .inr ⟨_,rfl⟩
  simp only[hfv,GetS.wants,accV,getC] at hh' hH gA gB⊢
  rw[k129 _ _ (by simp)]
  rcases hq with rfl|⟨f,rfl⟩
  ·simp only[bodyOf,Option.getD_some,go_sem,seval,Tryz.f129,hH,gA,gB,lB,hh']
   try rfl
  ·simp only[bodyOf,Option.getD_some,go_sem,seval,Tryz.f129,hH,gA,gB,lB,hh']
   try rfl
 ·rw[←hh']
  exact(((Upd.of_ext x).mono (by simp)).set (.inl (by simp)) _).set (.inl (by simp)) _
 ·rw[GetAt,←hh',NHeap.get_set_same (by rw[NHeap.next_set];exact lB)]
  rfl
end get
end Go.Proofs.YtkjpldganajkkaaGreatDoor.S
namespace Go.Proofs.YtkjpldganajkkaaGreatDoor.S
open Go Go.RowKit Go.Proofs.YtkjpldganajkkaaGreatDoor.NICE
namespace get
open word pack mir node mem
def GetNx (g:GetS):Prop:=g.next≤5
end get
end Go.Proofs.YtkjpldganajkkaaGreatDoor.S
namespace Go.Proofs.YtkjpldganajkkaaGreatDoor.S
open Go Go.RowKit Go.Proofs.YtkjpldganajkkaaGreatDoor.NICE
namespace get
open word pack mir node mem term made
abbrev opV (o:OpS):List NVal:=[.int .i64 o.kind,.str o.term,.str o.to,.int .i64 o.value]
def okGet (o:OpS):Bool:=decide (o.kind=1)&&rightT o.term&&decide (o.to=[])&&decide (o.value=0)
theorem newGet_wf (o:OpS) (root:Int) (h:o.term.length<2^29):GetWF (newGet o.term root):=⟨by show(o.term++[0]).length<_;simp;omega,by show([]:List UInt8).length<_;decide,rfl,rfl⟩
theorem New_K (h:NHeap) (o:OpS) (root:Int) (hk:okGet o=true):∃b h',K env 70 [.agg (opV o),.int .i64 root] h=some (.tuple [P b,.int .i64 0],h')∧Ext h h'∧h.next≤b∧GetAt h' b none (newGet o.term root):=by
 have⟨⟨⟨c0,c1⟩,c2⟩,c3⟩:((o.kind=1∧rightT o.term=true)∧o.to=[])∧o.value=0:=by simpa[okGet] using hk
 obtain⟨H,hH⟩:∃H,h.alloc (.cells (opV o) (.own none))=H:=⟨_,rfl⟩
 have x:Ext h H:=by rw[←hH];exact(Ext.refl h).alloc _
 have gA:H.get h.next=some (.cells (opV o) (.own none)):=by rw[←hH];simp[NHeap.get_alloc]
 have nH:H.next=h.next+1:=by rw[←hH];rfl
 have eR:=right_K o.term
 have eK:=fun h=>Key_K o.term h
 rw[c1] at eR
 simp only[c1,if_true] at eK
 obtain⟨H1,hH1⟩:∃H1,H.alloc (.cells (getC {key:=o.term++[0],root:=root} .nilFunc) (.own none))=H1:=⟨_,rfl⟩
 have x1:Ext H H1:=by rw[←hH1];exact(Ext.refl H).alloc _
 have g1:H1.get (h.next+1)=some (.cells (getC {key:=o.term++[0],root:=root} .nilFunc) (.own none)):=by rw[←hH1,←nH];simp[NHeap.get_alloc]
 obtain⟨h',e,u,k⟩:=wants_K H1 (h.next+1) none {key:=o.term++[0],root:=root} .nilFunc g1 {kind:=7} 1
 refine⟨h.next+1,h',?_,Upd.ext ((Upd.of_ext (x.trans x1)).trans' u (fun b hb=>.inr (by simp at hb;omega))),by omega,k⟩
 simp only[opV,c0,c2,c3,getC,z0,nilS0,accV,gN,P] at hH gA hH1 e⊢
 rw[k70 _ _ (by simp)]
 simp only[bodyOf,Option.getD_some,go_sem,seval,Tryz.f70,hH,gA,eR,eK,nH,hH1,e]
 try rfl
end get
end Go.Proofs.YtkjpldganajkkaaGreatDoor.S
namespace Go.Proofs.YtkjpldganajkkaaGreatDoor.S
open Go Go.RowKit Go.Proofs.YtkjpldganajkkaaGreatDoor.NICE
namespace get
open word pack mir node mem
def NewW (h h':NHeap) (wv:NVal) (ws:List Nat):Prop:=Rw h' 1 U wv ws∧∀d∈blk wv,h.next≤d∧d<h'.next
end get
end Go.Proofs.YtkjpldganajkkaaGreatDoor.S
namespace Go.Proofs.YtkjpldganajkkaaGreatDoor.S
open Go Go.RowKit Go.Proofs.YtkjpldganajkkaaGreatDoor.NICE
namespace drop
open word pack mir node mem get
def pN:Nat→NVal
 |1=>.func (.func 137) [] []
 |2=>.func (.func 164) [] []
 |3=>.func (.func 197) [] []
 |4=>.func (.func 198) [] []
 |5=>.func (.func 217) [] []
 |6=>.func (.func 263) [] []
 |7=>.func (.func 264) [] []
 |8=>.func (.func 305) [] []
 |9=>.func (.func 314) [] []
 |10=>.func (.func 285) [] []
 |11=>.func (.func 288) [] []
 |12=>.func (.func 307) [] []
 |13=>.func (.func 325) [] []
 |14=>.func (.func 326) [] []
 |15=>.func (.func 330) [] []
 |16=>.func (.func 315) [] []
 |17=>.func (.func 229) [] []
 |18=>.func (.func 271) [] []
 |19=>.func (.func 250) [] []
 |20=>.func (.func 319) [] []
 |21=>.func (.func 332) [] []
 |22=>.func (.func 317) [] []
 |_=>.nilFunc
def tN:Nat→NVal
 |1=>.func (.func 268) [] []
 |3=>.func (.func 316) [] []
 |4=>.func (.func 247) [] []
 |_=>.nilFunc
theorem pN_or (n:Nat):pN n=.nilFunc∨∃f,pN n=.func (.func f) [] []:=by
 unfold pN
 split<;>first|exact .inl rfl|exact .inr ⟨_,rfl⟩
structure PV where
 wv:NVal
 tv:NVal
 pk:NVal
 pi:NVal
 nk:NVal
 ni:NVal
 xk:NVal
 xi:NVal
 mv:NVal
 hv:NVal
 rv:NVal
abbrev dropC (p:DropS) (fv:NVal) (x:PV):List NVal:=[.str p.key,.str p.rest,.int .i64 p.root,.int .i64 p.tries,.int .i64 p.begun,.bool p.held,
 .int .i64 p.want.kind,.int .i64 p.want.ref,.int .i64 p.want.cls,.int .i64 p.want.n,.int .u64 (p.want.was:Nat),x.wv,fv,x.tv,
 .int .i64 p.p.ref,.int .i64 p.p.n.kind,.int .u64 (p.p.n.word:Nat),.str p.p.n.pre,x.pk,x.pi,.int .u8 (p.p.b.toNat:Int),
 .int .i64 p.n.ref,.int .i64 p.n.n.kind,.int .u64 (p.n.n.word:Nat),.str p.n.n.pre,x.nk,x.ni,.int .u8 (p.n.b.toNat:Int),
 .int .i64 p.x.ref,.int .i64 p.x.n.kind,.int .u64 (p.x.n.word:Nat),.str p.x.n.pre,x.xk,x.xi,.int .u8 (p.x.b.toNat:Int),.int .i64 p.leaf,
 x.mv,x.hv,x.rv,.bool p.placed,.bool p.took,.int .i64 p.ans.err,.bool p.ans.found,.int .i64 p.ans.value,nilS0]
def Eff (h:NHeap) (b:Nat) (q:Option (TypeId×Nat)) (f:Nat) (l:List NVal) (p':DropS) (x':PV):Prop:=∃h',K env f l h=some (.tuple [],h')∧Upd [b] h h'∧h'.get b=some (.cells (dropC p' (pN p'.next) x') (.own q))
theorem wants_K (h:NHeap) (b:Nat) (q:Option (TypeId×Nat)) (p:DropS) (fv0:NVal) (x:PV) (hg:h.get b=some (.cells (dropC p fv0 x) (.own q))) (a:Acc) (nx:Nat) (wv:NVal) (hw:∃bo n c y,wv=.slice bo n c y):Eff h b q 136 [P b,.agg (accV a wv),pN nx] (p.wants a nx) {x with wv:=wv}:=by
 obtain⟨H,hH⟩:∃H,h.alloc (.cells (accV a wv) (.own none))=H:=⟨_,rfl⟩
 have xx:Ext h H:=by rw[←hH];exact(Ext.refl h).alloc _
 have gA:H.get h.next=some (.cells (accV a wv) (.own none)):=by rw[←hH];simp[NHeap.get_alloc]
 have gB:=xx.get hg
 have lB:=NHeap.get_lt gB
 obtain⟨h',hh'⟩:∃h',(H.set b (.cells (dropC (p.wants a nx) fv0 {x with wv:=wv}) (.own q))).set b (.cells (dropC (p.wants a nx) (pN nx) {x with wv:=wv}) (.own q))=h':=⟨_,rfl⟩
 refine⟨h',?_,?_,?_⟩
 ·obtain⟨fv,hfv⟩:∃fv,pN nx=fv:=⟨_,rfl⟩
  have hq:=pN_or nx
  obtain⟨wb,wn,wc,wy,rfl⟩:=hw
  simp only[hfv,DropS.wants,accV,dropC] at hh' hH gA gB hq⊢
  rw[k136 _ _ (by simp)]
  rcases hq with rfl|⟨f,rfl⟩
  ·simp only[bodyOf,Option.getD_some,go_sem,seval,Tryz.f136,hH,gA,gB,lB,hh']
   try rfl
  ·simp only[bodyOf,Option.getD_some,go_sem,seval,Tryz.f136,hH,gA,gB,lB,hh']
   try rfl
 ·rw[←hh']
  exact(((Upd.of_ext xx).mono (by simp)).set (.inl (by simp)) _).set (.inl (by simp)) _
 ·rw[←hh',NHeap.get_set_same (by rw[NHeap.next_set];exact lB)]
  rfl
theorem nil_is:∃bo n c y,(nilS0:NVal)=.slice bo n c y:=⟨_,_,_,_,rfl⟩
end drop
end Go.Proofs.YtkjpldganajkkaaGreatDoor.S
namespace Go.Proofs.YtkjpldganajkkaaGreatDoor.NICE
open Go Go.RowKit
variable {P:Program}
def VecK (G:Gh) (k c:Nat) (v:NVal) (n:Nat) (cs:List NVal):Prop:=
 (v=.slice none 0 0 none∧n=0∧cs=[])∨∃b cap x q all,v=.slice (some (b,0)) n cap x∧(x=none∨x=some k)∧G.h.get b=some (.cells all (.own q))∧G.col b=c∧n≤cap∧cap*k≤all.length∧all.take (n*k)=cs∧0<cap
theorem VecK.upd {k c:Nat} {G:Gh} {fp:List Nat} {h':NHeap} (u:Upd fp G.h h') {v n cs} (f:VecK G k c v n cs) (hd:∀b∈NICE.blk v,b∉fp) (g:Nat→Nat):VecK ⟨h',newCol G.h G.col g⟩ k c v n cs:=by
 rcases f with f|⟨b,cap,x,q,all,rfl,h2,h3,h4,h5⟩
 ·exact .inl f
 ·exact .inr ⟨b,cap,x,q,all,rfl,h2,u.get h3 (hd b (by simp[NICE.blk])),by show newCol G.h G.col g b=c;rw[newCol_old (NHeap.get_lt h3)];exact h4,h5⟩
theorem VecK.blk {G:Gh} {k c v n cs} (f:VecK G k c v n cs):∀b∈blk v,b<G.h.next∧G.col b=c:=by
 rcases f with⟨rfl,_⟩|⟨b,cap,x,q,all,rfl,h2,h3,h4,h5⟩
 ·simp[NICE.blk]
 ·intro d hd
  simp[NICE.blk] at hd
  subst hd
  exact⟨NHeap.get_lt h3,h4⟩
end Go.Proofs.YtkjpldganajkkaaGreatDoor.NICE
namespace Go.Proofs.YtkjpldganajkkaaGreatDoor.S
open Go Go.RowKit Go.Proofs.YtkjpldganajkkaaGreatDoor.NICE
namespace scan
open word pack mir node mem get
def sN:Nat→NVal
 |1=>.func (.func 132) [] []
 |2=>.func (.func 162) [] []
 |3=>.func (.func 192) [] []
 |4=>.func (.func 215) [] []
 |5=>.func (.func 220) [] []
 |_=>.nilFunc
abbrev scanC (g:ScanS) (fv rv lv:NVal):List NVal:=[.str g.sought,.str g.to,.int .i64 g.most,.int .i64 g.root,.int .i64 g.want.kind,.int .i64 g.want.ref,.int .i64 g.want.cls,.int .i64 g.want.n,.int .u64 (g.want.was:Nat),nilS0,fv,.str g.path,rv,.bool g.took,.int .i64 g.ans.err,.bool g.ans.found,.int .i64 g.ans.value,lv]
abbrev rwC (x:Row×NVal×NVal):List NVal:=[.int .i64 x.1.n.kind,.int .u64 (x.1.n.word:Nat),.str x.1.n.pre,x.2.1,x.2.2,.str x.1.path,.int .i64 x.1.next]
end scan
end Go.Proofs.YtkjpldganajkkaaGreatDoor.S
namespace Go.Proofs.YtkjpldganajkkaaGreatDoor.S
open Go Go.RowKit Go.Proofs.YtkjpldganajkkaaGreatDoor.NICE
namespace scan
open word pack mir node mem get
def Eff (h:NHeap) (b:Nat) (q:Option (TypeId×Nat)) (f:Nat) (l:List NVal) (g':ScanS) (rv lv:NVal):Prop:=∃h',K env f l h=some (.tuple [],h')∧Upd [b] h h'∧h'.get b=some (.cells (scanC g' (sN g'.next) rv lv) (.own q))
theorem wants_K (h:NHeap) (b:Nat) (q:Option (TypeId×Nat)) (g:ScanS) (fv0 rv lv:NVal) (hg:h.get b=some (.cells (scanC g fv0 rv lv) (.own q))) (a:Acc) (nx:Nat):Eff h b q 131 [P b,.agg (accV a nilS0),sN nx] (g.wants a nx) rv lv:=by
 obtain⟨H,hH⟩:∃H,h.alloc (.cells (accV a nilS0) (.own none))=H:=⟨_,rfl⟩
 have x:Ext h H:=by rw[←hH];exact(Ext.refl h).alloc _
 have gA:H.get h.next=some (.cells (accV a nilS0) (.own none)):=by rw[←hH];simp[NHeap.get_alloc]
 have gB:=x.get hg
 have lB:=NHeap.get_lt gB
 obtain⟨h',hh'⟩:∃h',(H.set b (.cells (scanC (g.wants a nx) fv0 rv lv) (.own q))).set b (.cells (scanC (g.wants a nx) (sN nx) rv lv) (.own q))=h':=⟨_,rfl⟩
 refine⟨h',?_,?_,?_⟩
 ·obtain⟨fv,hfv,hq⟩:∃fv,sN nx=fv∧(fv=.nilFunc∨∃f,fv=.func (.func f) [] []):=by
   refine⟨_,rfl,?_⟩
   unfold sN
   split<;>first|exact .inl rfl|exact .inr ⟨_,rfl⟩
  simp only[hfv,ScanS.wants,accV,scanC] at hh' hH gA gB⊢
  rw[k131 _ _ (by simp)]
  rcases hq with rfl|⟨f,rfl⟩
  ·simp only[bodyOf,Option.getD_some,go_sem,seval,Tryz.f131,hH,gA,gB,lB,hh']
   try rfl
  ·simp only[bodyOf,Option.getD_some,go_sem,seval,Tryz.f131,hH,gA,gB,lB,hh']
   try rfl
 ·rw[←hh']
  exact(((Upd.of_ext x).mono (by simp)).set (.inl (by simp)) _).set (.inl (by simp)) _
 ·rw[←hh',NHeap.get_set_same (by rw[NHeap.next_set];exact lB)]
  rfl
end scan
end Go.Proofs.YtkjpldganajkkaaGreatDoor.S
namespace Go.Proofs.YtkjpldganajkkaaGreatDoor.S
open Go Go.RowKit Go.Proofs.YtkjpldganajkkaaGreatDoor.NICE
namespace scan
open word pack mir node mem get
abbrev RX:=Row×NVal×NVal
def RowsAt (h:NHeap) (rv:NVal) (rws:List RX):Prop:=
 (rv=nilS0∧rws=[])∨∃rb cap xx rq all,rv=.slice (some (rb,0)) rws.length cap xx∧(xx=none∨xx=some 7)∧h.get rb=some (.cells all (.own rq))∧rws.length≤cap∧cap*7≤all.length∧all.take (rws.length*7)=rows rwC rws∧0<cap
theorem RowsAt.upd {fp:List Nat} {h h':NHeap} {rv rws} (r:RowsAt h rv rws) (u:Upd fp h h') (hd:∀d∈blk rv,d∉fp):RowsAt h' rv rws:=by
 rcases r with r|⟨rb,cap,xx,rq,all,h1,h2,h3,h4⟩
 ·exact .inl r
 ·exact .inr ⟨rb,cap,xx,rq,all,h1,h2,u.get h3 (hd rb (by simp[h1,blk])),h4⟩
structure RowOk (h:NHeap) (b:Nat) (rv:NVal) (x:RX):Prop where
 node:NodeAt h x.1.n x.2.1 x.2.2
 apart:∀d∈blk x.2.1++blk x.2.2,d≠b∧d∉blk rv
 len:x.1.n.keys.length=x.1.n.kids.length
 path:x.1.path.length<2^30
 nx:x.1.next≤x.1.n.keys.length
 lt:∀d∈blk x.2.1++blk x.2.2,d<h.next
theorem NodeAt.upd {fp:List Nat} {h h':NHeap} {n kv iv} (r:NodeAt h n kv iv) (u:Upd fp h h') (hd:∀d∈blk kv++blk iv,d∉fp):NodeAt h' n kv iv:=by
 refine⟨r.keys.upd u (fun d q=>hd d (List.mem_append_left _ q)),r.kids.upd u (fun d q=>hd d (List.mem_append_right _ q)),fun b' o' n' c' x' e=>?_,r.word,r.pre,r.kl,r.il⟩
 obtain⟨all',m',g',l'⟩:=r.val b' o' n' c' x' e
 exact⟨all',m',u.get g' (hd b' (List.mem_append_left _ (by rw[e];simp[blk]))),l'⟩
end scan
end Go.Proofs.YtkjpldganajkkaaGreatDoor.S
namespace Go.Proofs.YtkjpldganajkkaaGreatDoor.S
open Go Go.RowKit Go.Proofs.YtkjpldganajkkaaGreatDoor.NICE
namespace put
open word pack mir node mem get
def pN:Nat→NVal
 |1=>.func (.func 134) [] []
 |2=>.func (.func 163) [] []
 |3=>.func (.func 194) [] []
 |4=>.func (.func 195) [] []
 |5=>.func (.func 216) [] []
 |6=>.func (.func 252) [] []
 |7=>.func (.func 253) [] []
 |8=>.func (.func 272) [] []
 |9=>.func (.func 308) [] []
 |10=>.func (.func 276) [] []
 |11=>.func (.func 274) [] []
 |12=>.func (.func 295) [] []
 |13=>.func (.func 322) [] []
 |14=>.func (.func 323) [] []
 |15=>.func (.func 328) [] []
 |16=>.func (.func 311) [] []
 |17=>.func (.func 226) [] []
 |_=>.nilFunc
def tN:Nat→NVal
 |1=>.func (.func 235) [] []
 |2=>.func (.func 241) [] []
 |3=>.func (.func 292) [] []
 |4=>.func (.func 231) [] []
 |_=>.nilFunc
theorem pN_or (n:Nat):pN n=.nilFunc∨∃f,pN n=.func (.func f) [] []:=by
 unfold pN
 split<;>first|exact .inl rfl|exact .inr ⟨_,rfl⟩
structure PV where
 wv:NVal
 tv:NVal
 pk:NVal
 pi:NVal
 nk:NVal
 ni:NVal
 mv:NVal
 hv:NVal
 rv:NVal
abbrev putC (p:PutS) (fv:NVal) (x:PV):List NVal:=[.str p.key,.str p.rest,.int .i64 p.value,.int .i64 p.root,.int .i64 p.tries,.int .i64 p.begun,.bool p.held,
 .int .i64 p.want.kind,.int .i64 p.want.ref,.int .i64 p.want.cls,.int .i64 p.want.n,.int .u64 (p.want.was:Nat),x.wv,fv,x.tv,
 .int .i64 p.p.ref,.int .i64 p.p.n.kind,.int .u64 (p.p.n.word:Nat),.str p.p.n.pre,x.pk,x.pi,.int .u8 (p.p.b.toNat:Int),
 .int .i64 p.n.ref,.int .i64 p.n.n.kind,.int .u64 (p.n.n.word:Nat),.str p.n.n.pre,x.nk,x.ni,.int .u8 (p.n.b.toNat:Int),
 x.mv,x.hv,x.rv,.bool p.placed,.bool p.took,.int .i64 p.ans.err,.bool p.ans.found,.int .i64 p.ans.value,nilS0]
def Eff (h:NHeap) (b:Nat) (q:Option (TypeId×Nat)) (f:Nat) (l:List NVal) (p':PutS) (x':PV):Prop:=∃h',K env f l h=some (.tuple [],h')∧Upd [b] h h'∧h'.get b=some (.cells (putC p' (pN p'.next) x') (.own q))
theorem wants_K (h:NHeap) (b:Nat) (q:Option (TypeId×Nat)) (p:PutS) (fv0:NVal) (x:PV) (hg:h.get b=some (.cells (putC p fv0 x) (.own q))) (a:Acc) (nx:Nat) (wv:NVal) (hw:∃bo n c y,wv=.slice bo n c y):Eff h b q 133 [P b,.agg (accV a wv),pN nx] (p.wants a nx) {x with wv:=wv}:=by
 obtain⟨H,hH⟩:∃H,h.alloc (.cells (accV a wv) (.own none))=H:=⟨_,rfl⟩
 have xx:Ext h H:=by rw[←hH];exact(Ext.refl h).alloc _
 have gA:H.get h.next=some (.cells (accV a wv) (.own none)):=by rw[←hH];simp[NHeap.get_alloc]
 have gB:=xx.get hg
 have lB:=NHeap.get_lt gB
 obtain⟨h',hh'⟩:∃h',(H.set b (.cells (putC (p.wants a nx) fv0 {x with wv:=wv}) (.own q))).set b (.cells (putC (p.wants a nx) (pN nx) {x with wv:=wv}) (.own q))=h':=⟨_,rfl⟩
 refine⟨h',?_,?_,?_⟩
 ·obtain⟨fv,hfv⟩:∃fv,pN nx=fv:=⟨_,rfl⟩
  have hq:=pN_or nx
  obtain⟨wb,wn,wc,wy,rfl⟩:=hw
  simp only[hfv,PutS.wants,accV,putC] at hh' hH gA gB hq⊢
  rw[k133 _ _ (by simp)]
  rcases hq with rfl|⟨f,rfl⟩
  ·simp only[bodyOf,Option.getD_some,go_sem,seval,Tryz.f133,hH,gA,gB,lB,hh']
   try rfl
  ·simp only[bodyOf,Option.getD_some,go_sem,seval,Tryz.f133,hH,gA,gB,lB,hh']
   try rfl
 ·rw[←hh']
  exact(((Upd.of_ext xx).mono (by simp)).set (.inl (by simp)) _).set (.inl (by simp)) _
 ·rw[←hh',NHeap.get_set_same (by rw[NHeap.next_set];exact lB)]
  rfl
theorem nil_is:∃bo n c y,(nilS0:NVal)=.slice bo n c y:=⟨_,_,_,_,rfl⟩
theorem b0:(((0:UInt8).toNat:Nat):Int)=0:=rfl
end put
end Go.Proofs.YtkjpldganajkkaaGreatDoor.S
namespace Go.Proofs.YtkjpldganajkkaaGreatDoor.S
open Go Go.RowKit Go.Proofs.YtkjpldganajkkaaGreatDoor.NICE
namespace scan
open word pack mir node mem get
def VecAt (h:NHeap) (k:Nat) (v:NVal) (n:Nat) (cs:List NVal):Prop:=VecK ⟨h,fun _=>1⟩ k 1 v n cs
theorem VecAt.upd {fp:List Nat} {h h':NHeap} {k v n cs} (r:VecAt h k v n cs) (u:Upd fp h h') (hd:∀d∈blk v,d∉fp):VecAt h' k v n cs:=by
 rcases r with r|⟨b,cap,x,q,all,h1,h2,h3,h4⟩
 ·exact .inl r
 ·exact .inr ⟨b,cap,x,q,all,h1,h2,u.get h3 (hd b (by simp[h1,blk])),h4⟩
theorem RowsAt.vec {h rv rws} (r:RowsAt h rv rws):VecAt h 7 rv rws.length (rows rwC rws):=by
 rcases r with⟨rfl,rfl⟩|⟨rb,cap,xx,rq,all,h1,h2,h3,h4,h5,h6,h7⟩
 ·exact .inl ⟨rfl,rfl,rfl⟩
 ·exact .inr ⟨rb,cap,xx,rq,all,h1,h2,h3,rfl,h4,h5,h6,h7⟩
abbrev enC (e:List UInt8×Int):List NVal:=[.str e.1,.int .i64 e.2]
structure Core (h:NHeap) (b:Nat) (q:Option (TypeId×Nat)) (g:ScanS) (fv rv lv:NVal) (rws:List RX):Prop where
 gb:h.get b=some (.cells (scanC g fv rv lv) (.own q))
 rows:RowsAt h rv rws
 mp:rws.map (·.1)=g.rows
 ok:∀x∈rws,RowOk h b rv x
 br:b∉blk rv
 ls:VecAt h 2 lv g.ans.list.length (NICE.rows enC g.ans.list)
 bl:b∉blk lv
 rl:∀d∈blk rv,d∉blk lv
 okl:∀x∈rws,∀d∈blk x.2.1++blk x.2.2,d∉blk lv
def foot (b:Nat) (rv lv:NVal):List Nat:=b::(blk rv++blk lv)
theorem Core.upd {fp:List Nat} {h h':NHeap} {b q g fv rv lv rws} (c:Core h b q g fv rv lv rws) (u:Upd fp h h') (hd:∀d∈foot b rv lv,d∉fp) (hx:∀x∈rws,∀d∈blk x.2.1++blk x.2.2,d∉fp):Core h' b q g fv rv lv rws where
 gb:=u.get c.gb (hd b (by simp[foot]))
 rows:=c.rows.upd u (fun d q'=>hd d (by simp[foot,q']))
 mp:=c.mp
 ok:=fun x hm=>⟨NodeAt.upd (c.ok x hm).node u (hx x hm),(c.ok x hm).apart,(c.ok x hm).len,(c.ok x hm).path,(c.ok x hm).nx,fun d hd'=>Nat.lt_of_lt_of_le ((c.ok x hm).lt d hd') u.next⟩
 br:=c.br
 ls:=c.ls.upd u (fun d q'=>hd d (by simp[foot,q']))
 bl:=c.bl
 rl:=c.rl
 okl:=c.okl
def nblk (x:RX):List Nat:=blk x.2.1++blk x.2.2
def Foot (b:Nat) (rv lv:NVal) (rws:List RX):List Nat:=foot b rv lv++rws.flatMap nblk
end scan
end Go.Proofs.YtkjpldganajkkaaGreatDoor.S
namespace Go.Proofs.YtkjpldganajkkaaGreatDoor.S
open Go Go.RowKit Go.Proofs.YtkjpldganajkkaaGreatDoor.NICE
namespace drop
open word pack mir node mem get
abbrev one (v:NVal):List NVal:=[v]
def Makes (h:NHeap) (b:Nat) (mv:NVal) (mk:List MkD) (ro:List Nat):Prop:=
 ∃vals:List NVal,vals.length=mk.length∧Rw h 1 one mv vals
theorem Makes.upd {h h1:NHeap} {b mv mk ro fp} (m:Makes h b mv mk ro) (u:Upd fp h h1) (hd:∀d∈ro,d∉fp) (hm:∀d∈blk mv,d∉fp):Makes h1 b mv mk ro:=by
 obtain⟨vals,e1,e2⟩:=m
 exact⟨vals,e1,e2.upd u hm⟩
theorem Makes.nil (h:NHeap) (b:Nat) (ro:List Nat):Makes h b nilS0 [] ro:=⟨[],rfl,Sl.nil _ _⟩
structure Mem (h:NHeap) (b:Nat) (ws:List Nat) (pn nn xn:mir.Node) (had ret:List Int) (mk:List MkD) (t:Nat) (x:PV) (ro:List Nat):Prop where
 w:Rw h 1 U x.wv ws
 p:NodeAt h pn x.pk x.pi
 n:NodeAt h nn x.nk x.ni
 xs:NodeAt h xn x.xk x.xi
 had:scan.VecAt h 1 x.hv had.length (rows node.I had)
 ret:Rw h 1 node.I x.rv ret
 mks:Makes h b x.mv mk ro
 tv:x.tv=tN t
 sub:∀d,d∈blk x.wv∨d∈blk x.pk∨d∈blk x.pi∨d∈blk x.nk∨d∈blk x.ni∨d∈blk x.rv∨d∈blk x.mv∨d∈blk x.xk∨d∈blk x.xi→d∈ro
 ap:∀d∈ro,d≠b∧d∉blk x.hv∧d<h.next
 bh:b∉blk x.hv
theorem Mem.upd {h h1:NHeap} {b ws pn nn xn had ret mk t x ro fp} (m:Mem h b ws pn nn xn had ret mk t x ro) (u:Upd fp h h1) (hd:∀d∈ro,d∉fp) (hh:∀d∈blk x.hv,d∉fp):Mem h1 b ws pn nn xn had ret mk t x ro where
 w:=m.w.upd u (fun d q=>hd d (m.sub d (.inl q)))
 p:=scan.NodeAt.upd m.p u (fun d q=>hd d (m.sub d ((List.mem_append.1 q).elim (fun a=>.inr (.inl a)) (fun a=>.inr (.inr (.inl a))))))
 n:=scan.NodeAt.upd m.n u (fun d q=>hd d (m.sub d ((List.mem_append.1 q).elim (fun a=>.inr (.inr (.inr (.inl a)))) (fun a=>.inr (.inr (.inr (.inr (.inl a))))))))
 xs:=scan.NodeAt.upd m.xs u (fun d q=>hd d (m.sub d ((List.mem_append.1 q).elim (fun a=>by simp[a]) (fun a=>by simp[a]))))
 had:=m.had.upd u hh
 ret:=m.ret.upd u (fun d q=>hd d (m.sub d (by simp[q])))
 mks:=m.mks.upd u hd (fun d q=>hd d (m.sub d (by simp[q])))
 tv:=m.tv
 sub:=m.sub
 ap:=fun d q=>⟨(m.ap d q).1,(m.ap d q).2.1,Nat.lt_of_lt_of_le (m.ap d q).2.2 u.next⟩
 bh:=m.bh
end drop
end Go.Proofs.YtkjpldganajkkaaGreatDoor.S
namespace Go.Proofs.YtkjpldganajkkaaGreatDoor.S
open Go Go.RowKit Go.Proofs.YtkjpldganajkkaaGreatDoor.NICE
namespace put
open word pack mir node mem get
def MkAt (h:NHeap) (b:Nat) (j:Nat) (mk:Mk) (v:NVal) (ro:List Nat):Prop:=
 ∃f c1 c2,v=.func (.func f) c1 c2∧(veqs 49 c1 c1&&veqs 49 c2 c2)=true∧∀(fp:List Nat) (H:NHeap),Upd fp h H→(∀d∈ro,d∉fp)→∀(q:Option (TypeId×Nat)) (p:PutS) (fv:NVal) (x:PV),H.get b=some (.cells (putC p fv x) (.own q))→Rw H 1 node.I x.hv p.had→p.had.length=j→p.key.length<2^40→
  ∃wv h',K env f (c1++c2) H=some (.agg (accV (p.makeN mk) wv),h')∧Ext H h'∧NewW H h' wv (p.makeN mk).words
theorem MkAt.upd {h h1:NHeap} {b j mk v ro fp} (m:MkAt h b j mk v ro) (u:Upd fp h h1) (hd:∀d∈ro,d∉fp):MkAt h1 b j mk v ro:=by
 obtain⟨f,c1,c2,e,ev,k⟩:=m
 refine⟨f,c1,c2,e,ev,fun fp' H u' hd'=>k (fp++fp') H ((u.mono (fun d q=>.inl (List.mem_append_left _ q))).trans (u'.mono (fun d q=>.inl (List.mem_append_right _ q)))) (fun d q hm=>?_)⟩
 ·rcases List.mem_append.1 hm with q'|q'
  ·exact hd d q q'
  ·exact hd' d q q'
abbrev one (v:NVal):List NVal:=[v]
def Makes (h:NHeap) (b:Nat) (mv:NVal) (mk:List Mk) (ro:List Nat):Prop:=
 ∃vals:List NVal,vals.length=mk.length∧Rw h 1 one mv vals∧∀(j:Nat) (m:Mk) (v:NVal),mk[j]? =some m→vals[j]? =some v→MkAt h b j m v ro
theorem Makes.upd {h h1:NHeap} {b mv mk ro fp} (m:Makes h b mv mk ro) (u:Upd fp h h1) (hd:∀d∈ro,d∉fp) (hm:∀d∈blk mv,d∉fp):Makes h1 b mv mk ro:=by
 obtain⟨vals,e1,e2,e3⟩:=m
 exact⟨vals,e1,e2.upd u hm,fun j m v q1 q2=>(e3 j m v q1 q2).upd u hd⟩
theorem Makes.nil (h:NHeap) (b:Nat) (ro:List Nat):Makes h b nilS0 [] ro:=⟨[],rfl,Sl.nil _ _,fun j m v q1 q2=>by simp at q1⟩
structure Mem (h:NHeap) (b:Nat) (ws:List Nat) (pn nn:mir.Node) (had ret:List Int) (mk:List Mk) (t:Nat) (x:PV) (ro:List Nat):Prop where
 w:Rw h 1 U x.wv ws
 p:NodeAt h pn x.pk x.pi
 n:NodeAt h nn x.nk x.ni
 had:scan.VecAt h 1 x.hv had.length (rows node.I had)
 ret:Rw h 1 node.I x.rv ret
 mks:Makes h b x.mv mk ro
 tv:x.tv=tN t
 sub:∀d,d∈blk x.wv∨d∈blk x.pk∨d∈blk x.pi∨d∈blk x.nk∨d∈blk x.ni∨d∈blk x.rv∨d∈blk x.mv→d∈ro
 ap:∀d∈ro,d≠b∧d∉blk x.hv∧d<h.next
 bh:b∉blk x.hv
theorem Mem.upd {h h1:NHeap} {b ws pn nn had ret mk t x ro fp} (m:Mem h b ws pn nn had ret mk t x ro) (u:Upd fp h h1) (hd:∀d∈ro,d∉fp) (hh:∀d∈blk x.hv,d∉fp):Mem h1 b ws pn nn had ret mk t x ro where
 w:=m.w.upd u (fun d q=>hd d (m.sub d (.inl q)))
 p:=scan.NodeAt.upd m.p u (fun d q=>hd d (m.sub d ((List.mem_append.1 q).elim (fun a=>.inr (.inl a)) (fun a=>.inr (.inr (.inl a))))))
 n:=scan.NodeAt.upd m.n u (fun d q=>hd d (m.sub d ((List.mem_append.1 q).elim (fun a=>.inr (.inr (.inr (.inl a)))) (fun a=>.inr (.inr (.inr (.inr (.inl a))))))))
 had:=m.had.upd u hh
 ret:=m.ret.upd u (fun d q=>hd d (m.sub d (by simp[q])))
 mks:=m.mks.upd u hd (fun d q=>hd d (m.sub d (by simp[q])))
 tv:=m.tv
 sub:=m.sub
 ap:=fun d q=>⟨(m.ap d q).1,(m.ap d q).2.1,Nat.lt_of_lt_of_le (m.ap d q).2.2 u.next⟩
 bh:=m.bh
end put
end Go.Proofs.YtkjpldganajkkaaGreatDoor.S
namespace Go.Proofs.YtkjpldganajkkaaGreatDoor.S
open Go Go.RowKit Go.Proofs.YtkjpldganajkkaaGreatDoor.NICE
namespace put
open word pack mir node mem get
abbrev At (h:NHeap) (b:Nat) (q:Option (TypeId×Nat)) (p:PutS) (fv:NVal) (x:PV) (ro:List Nat):Prop:=
 h.get b=some (.cells (putC p fv x) (.own q))∧Mem h b p.want.words p.p.n p.n.n p.had p.retire p.makes p.then_ x ro
theorem node_nil (h:NHeap):NodeAt h {} nilS0 nilS0:=⟨Sl.nil _ _,Sl.nil _ _,SlV.nil _,by show(0:Nat)<2^64;decide,by show(0:Nat)<2^30;decide,by show(0:Nat)<2^30;decide,by show(0:Nat)<2^30;decide⟩
end put
end Go.Proofs.YtkjpldganajkkaaGreatDoor.S
namespace Go.Proofs.YtkjpldganajkkaaGreatDoor.S
open Go Go.RowKit Go.Proofs.YtkjpldganajkkaaGreatDoor.NICE
namespace put
open word pack mir node mem get
structure PutC (p:PutS) (n:Int):Prop where
 key:p.key.length<2^28
 rest:p.rest.length≤p.key.length
 had:p.had.length≤p.makes.length
 mk3:p.makes.length≤3
 ret:p.retire.length≤1
 bg:0≤p.begun∧p.begun≤n
def NxOk (p:PutS):Nat→Prop
 |3=>p.had=[]
 |4=>p.had=[]
 |5=>p.had=[]
 |17=>p.had=[]
 |8=>(p.then_=1∨p.then_=2)∧p.had.length<p.makes.length
 |9=>p.had≠[]∧(p.then_=3∨p.then_=4)
 |11=>p.had≠[]
 |12=>p.had≠[]
 |16=>p.retire≠[]
 |k=>k≤17
structure PutB (p:PutS) (n:Int):Prop extends PutC p n where
 nx:NxOk p p.next
end put
end Go.Proofs.YtkjpldganajkkaaGreatDoor.S
namespace Go.Proofs.YtkjpldganajkkaaGreatDoor.S
open Go Go.RowKit Go.Proofs.YtkjpldganajkkaaGreatDoor.NICE
namespace put
open word pack mir node mem get made
def okPut (o:OpS) (tries:Int):Bool:=decide (o.kind=2)&&rightT o.term&&decide (0≤o.value)&&decide (o.value≤1099511627776)&&decide (o.to=[])&&decide (1≤tries)
abbrev X0:PV:=⟨nilS0,.nilFunc,nilS0,nilS0,nilS0,nilS0,nilS0,nilS0,nilS0⟩
theorem mem0 (h:NHeap) (b:Nat):Mem h b [] {} {} [] [] [] 0 X0 []:=
 {w:=Sl.nil _ _,p:=node_nil _,n:=node_nil _,had:=.inl ⟨rfl,rfl,rfl⟩,ret:=Sl.nil _ _,mks:=Makes.nil _ _ _,tv:=rfl,sub:=fun d hd=>by simp[blk] at hd,ap:=fun d hd=>(by cases hd),bh:=by simp[blk]}
theorem newPut_B (o:OpS) (root tries:Int) (h:o.term.length<2^27):PutB (newPut o.term o.value root tries) 0:=
 ⟨⟨by show(o.term++[0]).length<_;simp;omega,Nat.zero_le _,Nat.le_refl _,Nat.zero_le _,Nat.zero_le _,by show(0:Int)≤0;decide,by show(0:Int)≤0;decide⟩,by show 1≤17;decide⟩
theorem New_K (h:NHeap) (o:OpS) (root tries:Int) (hk:okPut o tries=true):∃b h',K env 80 [.agg (get.opV o),.int .i64 root,.int .i64 tries] h=some (.tuple [P b,.int .i64 0],h')∧Ext h h'∧h.next≤b∧At h' b none (newPut o.term o.value root tries) (pN 1) X0 []:=by
 have⟨⟨⟨⟨⟨c0,c1⟩,c2⟩,c3⟩,c4⟩,c5⟩:((((o.kind=2∧rightT o.term=true)∧0≤o.value)∧o.value≤1099511627776)∧o.to=[])∧1≤tries:=by simpa[okPut] using hk
 obtain⟨H,hH⟩:∃H,h.alloc (.cells (opV o) (.own none))=H:=⟨_,rfl⟩
 have x:Ext h H:=by rw[←hH];exact(Ext.refl h).alloc _
 have gA:H.get h.next=some (.cells (opV o) (.own none)):=by rw[←hH];simp[NHeap.get_alloc]
 have nH:H.next=h.next+1:=by rw[←hH];rfl
 have eR:=right_K o.term
 have eK:=fun h=>term.Key_K o.term h
 rw[c1] at eR
 simp only[c1,if_true] at eK
 have d1:¬o.value<0:=by omega
 have d2:¬1099511627776<o.value:=by omega
 have d3:¬tries<1:=by omega
 obtain⟨Ha,hHa⟩:∃Ha,H.alloc .dead=Ha:=⟨_,rfl⟩
 have xa:Ext H Ha:=by rw[←hHa];exact(Ext.refl _).alloc _
 have na:Ha.next=h.next+2:=by rw[←hHa];show H.next+1=_;omega
 have gAa:=xa.get gA
 obtain⟨p0,hp0⟩:∃p0:PutS,{key:=o.term++[0],value:=o.value,root:=root,tries:=tries}=p0:=⟨_,rfl⟩
 obtain⟨H1,hH1⟩:∃H1,Ha.set (h.next+1) (.cells (putC p0 .nilFunc X0) (.own none))=H1:=⟨_,rfl⟩
 have x1:Ext H H1:=by rw[←hH1];exact xa.set (by omega) _
 have g1:H1.get (h.next+1)=some (.cells (putC p0 .nilFunc X0) (.own none)):=by rw[←hH1,NHeap.get_set_same (by omega)]
 have gA1:=x1.get gA
 obtain⟨h',e,u,k⟩:=wants_K H1 (h.next+1) none p0 .nilFunc X0 g1 {kind:=7} 1 nilS0 nil_is
 refine⟨h.next+1,h',?_,Upd.ext ((Upd.of_ext (x.trans x1)).trans' u (fun b hb=>.inr (by simp at hb;omega))),by omega,⟨?_,mem0 _ _⟩⟩
 ·simp only[opV,c0,c4,putC,z0,b0,nilS0,accV,pN,P,←hp0] at hH gA gAa gA1 hH1 e⊢
  rw[k80 _ _ (by simp)]
  simp only[bodyOf,Option.getD_some,go_sem,seval,Tryz.f80,hH,gA,eR,d1,d2,d3,nH,hHa,gAa,eK,hH1,gA1,e]
  try rfl
 ·rw[←hp0] at k;exact k
end put
end Go.Proofs.YtkjpldganajkkaaGreatDoor.S
namespace Go.Proofs.YtkjpldganajkkaaGreatDoor.S
open Go Go.RowKit Go.Proofs.YtkjpldganajkkaaGreatDoor.NICE
namespace drop
open word pack mir node mem get
abbrev At (h:NHeap) (b:Nat) (q:Option (TypeId×Nat)) (p:DropS) (fv:NVal) (x:PV) (ro:List Nat):Prop:=
 h.get b=some (.cells (dropC p fv x) (.own q))∧Mem h b p.want.words p.p.n p.n.n p.x.n p.had p.retire p.makes p.then_ x ro
theorem node_nil (h:NHeap):NodeAt h {} nilS0 nilS0:=put.node_nil h
end drop
end Go.Proofs.YtkjpldganajkkaaGreatDoor.S
namespace Go.Proofs.YtkjpldganajkkaaGreatDoor.S
open Go Go.RowKit Go.Proofs.YtkjpldganajkkaaGreatDoor.NICE
namespace drop
open word pack mir node mem get
structure DropI (p:DropS) (n:Int):Prop where
 key:p.key.length<2^28
 rest:p.rest.length≤p.key.length
 had:p.had.length≤p.makes.length
 mk1:p.makes.length≤1
 ret:p.retire.length≤3
 bg:0≤p.begun∧p.begun≤n
 nk:0≤p.n.n.kind∧p.n.n.kind<100
 np:p.n.n.pre.length≤12
def NxOk (p:DropS):Nat→Prop
 |5=>p.had=[]
 |3=>p.had=[]
 |4=>p.had=[]
 |17=>p.had=[]
 |18=>p.had=[]
 |8=>p.then_=1∧p.had.length+1=p.makes.length
 |9=>p.had≠[]∧(p.then_=3∨p.then_=4)
 |11=>p.merges=true→p.had≠[]
 |12=>p.merges=true→p.had≠[]
 |20=>p.had≠[]
 |16=>p.retire≠[]
 |k=>k≤22
structure DropB (p:DropS) (n:Int):Prop extends DropI p n where
 nx:NxOk p p.next
theorem zeroK:(0:Int)≤(({}:mir.Node)).kind∧(({}:mir.Node)).kind<100:=⟨by decide,by decide⟩
end drop
end Go.Proofs.YtkjpldganajkkaaGreatDoor.S
namespace Go.Proofs.YtkjpldganajkkaaGreatDoor.S
open Go Go.RowKit Go.Proofs.YtkjpldganajkkaaGreatDoor.NICE
namespace drop
open word pack mir node mem get made
def okDrop (o:OpS) (tries:Int):Bool:=decide (o.kind=3)&&rightT o.term&&decide (o.value=0)&&decide (o.to=[])&&decide (1≤tries)
abbrev X0:PV:=⟨nilS0,.nilFunc,nilS0,nilS0,nilS0,nilS0,nilS0,nilS0,nilS0,nilS0,nilS0⟩
theorem mem0 (h:NHeap) (b:Nat):Mem h b [] {} {} {} [] [] [] 0 X0 []:=
 {w:=Sl.nil _ _,p:=node_nil _,n:=node_nil _,xs:=node_nil _,had:=.inl ⟨rfl,rfl,rfl⟩,ret:=Sl.nil _ _,mks:=Makes.nil _ _ _,tv:=rfl,sub:=fun d hd=>by simp[blk] at hd,ap:=fun d hd=>(by cases hd),bh:=by simp[blk]}
theorem newDrop_B (o:OpS) (root tries:Int) (h:o.term.length<2^27):DropB (newDrop o.term root tries) 0:=
 ⟨⟨by show(o.term++[0]).length<_;simp;omega,Nat.zero_le _,Nat.le_refl _,Nat.zero_le _,Nat.zero_le _,⟨by show(0:Int)≤0;decide,by show(0:Int)≤0;decide⟩,zeroK,Nat.zero_le _⟩,by show 1≤22;decide⟩
theorem New_K (h:NHeap) (o:OpS) (root tries:Int) (hk:okDrop o tries=true):∃b h',K env 85 [.agg (get.opV o),.int .i64 root,.int .i64 tries] h=some (.tuple [P b,.int .i64 0],h')∧Ext h h'∧h.next≤b∧At h' b none (newDrop o.term root tries) (pN 1) X0 []:=by
 have⟨⟨⟨⟨c0,c1⟩,c2⟩,c4⟩,c5⟩:(((o.kind=3∧rightT o.term=true)∧o.value=0)∧o.to=[])∧1≤tries:=by simpa[okDrop] using hk
 obtain⟨H,hH⟩:∃H,h.alloc (.cells (opV o) (.own none))=H:=⟨_,rfl⟩
 have x:Ext h H:=by rw[←hH];exact(Ext.refl h).alloc _
 have gA:H.get h.next=some (.cells (opV o) (.own none)):=by rw[←hH];simp[NHeap.get_alloc]
 have nH:H.next=h.next+1:=by rw[←hH];rfl
 have eR:=right_K o.term
 have eK:=fun h=>term.Key_K o.term h
 rw[c1] at eR
 simp only[c1,if_true] at eK
 have d3:¬tries<1:=by omega
 obtain⟨p0,hp0⟩:∃p0:DropS,{key:=o.term++[0],root:=root,tries:=tries}=p0:=⟨_,rfl⟩
 obtain⟨H1,hH1⟩:∃H1,H.alloc (.cells (dropC p0 .nilFunc X0) (.own none))=H1:=⟨_,rfl⟩
 have x1:Ext H H1:=by rw[←hH1];exact(Ext.refl _).alloc _
 have g1:H1.get (h.next+1)=some (.cells (dropC p0 .nilFunc X0) (.own none)):=by rw[←hH1,←nH];simp[NHeap.get_alloc]
 have gA1:=x1.get gA
 obtain⟨h',e,u,k⟩:=wants_K H1 (h.next+1) none p0 .nilFunc X0 g1 {kind:=7} 1 nilS0 nil_is
 refine⟨h.next+1,h',?_,Upd.ext ((Upd.of_ext (x.trans x1)).trans' u (fun b hb=>.inr (by simp at hb;omega))),by omega,⟨?_,mem0 _ _⟩⟩
 ·simp only[opV,c0,c2,c4,dropC,z0,put.b0,nilS0,accV,pN,P,←hp0] at hH gA gA1 hH1 e⊢
  rw[k85 _ _ (by simp)]
  simp only[bodyOf,Option.getD_some,go_sem,seval,Tryz.f85,hH,gA,eR,d3,nH,eK,hH1,gA1,e]
  try rfl
 ·rw[←hp0] at k;exact k
end drop
end Go.Proofs.YtkjpldganajkkaaGreatDoor.S
namespace Go.Proofs.YtkjpldganajkkaaGreatDoor.S
open Go Go.RowKit Go.Proofs.YtkjpldganajkkaaGreatDoor.NICE
namespace mir
open word pack node
def WOk (a:Acc):Prop:=(∀w∈a.words,w<2^64)∧a.words.length≤264
theorem WOk.nil {a:Acc} (h:a.words=[]):WOk a:=⟨by rw[h];simp,by rw[h];simp⟩
structure PW (p:PutS):Prop where
 w:WOk p.want
 fp:p.p.n.word<2^64
 fn:p.n.n.word<2^64
 fl:p.ans.list=[]
namespace PW
end PW
structure DW (p:DropS):Prop where
 w:WOk p.want
 fp:p.p.n.word<2^64
 fn:p.n.n.word<2^64
 fx:p.x.n.word<2^64
 fl:p.ans.list=[]
namespace DW
end DW
end mir
end Go.Proofs.YtkjpldganajkkaaGreatDoor.S
namespace Go.Proofs.YtkjpldganajkkaaGreatDoor.S
open Go Go.RowKit Go.Proofs.YtkjpldganajkkaaGreatDoor.NICE
namespace scan
open word pack mir node mem get made
def okScan (o:OpS):Bool:=decide (o.kind=4)&&decide (1≤o.value)&&decide (o.value≤16)&&decide (o.term.length≤13)&&decide (o.to.length≤13)
theorem New_K (h:NHeap) (o:OpS) (root:Int) (hk:okScan o=true):∃b h',K env 75 [.agg (opV o),.int .i64 root] h=some (.tuple [P b,.int .i64 0],h')∧Ext h h'∧h.next≤b∧Core h' b none (newScan o root) (sN 1) nilS0 nilS0 []:=by
 have⟨⟨⟨⟨c0,c1⟩,c2⟩,c3⟩,c4⟩:(((o.kind=4∧1≤o.value)∧o.value≤16)∧o.term.length≤13)∧o.to.length≤13:=by simpa[okScan] using hk
 obtain⟨H,hH⟩:∃H,h.alloc (.cells (opV o) (.own none))=H:=⟨_,rfl⟩
 have x:Ext h H:=by rw[←hH];exact(Ext.refl h).alloc _
 have gA:H.get h.next=some (.cells (opV o) (.own none)):=by rw[←hH];simp[NHeap.get_alloc]
 have nH:H.next=h.next+1:=by rw[←hH];rfl
 have d1:¬o.value<1:=by omega
 have d2:¬16<o.value:=by omega
 have d3:¬(13:Int)<(o.term.length:Int):=by omega
 have d4:¬(13:Int)<(o.to.length:Int):=by omega
 obtain⟨H1,hH1⟩:∃H1,H.alloc (.cells (scanC {sought:=o.term,to:=o.to,most:=o.value,root:=root} .nilFunc nilS0 nilS0) (.own none))=H1:=⟨_,rfl⟩
 have x1:Ext H H1:=by rw[←hH1];exact(Ext.refl H).alloc _
 have g1:H1.get (h.next+1)=some (.cells (scanC {sought:=o.term,to:=o.to,most:=o.value,root:=root} .nilFunc nilS0 nilS0) (.own none)):=by rw[←hH1,←nH];simp[NHeap.get_alloc]
 obtain⟨h',e,u,k⟩:=wants_K H1 (h.next+1) none {sought:=o.term,to:=o.to,most:=o.value,root:=root} .nilFunc nilS0 nilS0 g1 {kind:=7} 1
 refine⟨h.next+1,h',?_,Upd.ext ((Upd.of_ext (x.trans x1)).trans' u (fun b hb=>.inr (by simp at hb;omega))),by omega,⟨k,.inl ⟨rfl,rfl⟩,rfl,(fun y hy=>by cases hy),by simp[blk],.inl ⟨rfl,rfl,rfl⟩,by simp[blk],(fun d hd=>by simp[blk] at hd),(fun y hy=>by cases hy)⟩⟩
 simp only[opV,c0,scanC,z0,nilS0,accV,sN,P] at hH gA hH1 e⊢
 rw[k75 _ _ (by simp)]
 simp only[bodyOf,Option.getD_some,go_sem,seval,Tryz.f75,hH,gA,d1,d2,d3,d4,nH,hH1,e]
 try rfl
end scan
end Go.Proofs.YtkjpldganajkkaaGreatDoor.S
namespace Go.Proofs.YtkjpldganajkkaaGreatDoor.S
open Go Go.RowKit Go.Proofs.YtkjpldganajkkaaGreatDoor.NICE
namespace tick
open word pack mir node mem get
def tN:Nat→NVal
 |1=>.func (.func 139) [] []
 |2=>.func (.func 165) [] []
 |3=>.func (.func 182) [] []
 |4=>.func (.func 199) [] []
 |_=>.nilFunc
abbrev tickC (g:TickS) (fv:NVal):List NVal:=[.int .i64 g.clients,.int .i64 g.want.kind,.int .i64 g.want.ref,.int .i64 g.want.cls,.int .i64 g.want.n,.int .u64 (g.want.was:Nat),nilS0,fv,.int .i64 g.epoch,.bool g.took]
def TickAt (h:NHeap) (b:Nat) (q:Option (TypeId×Nat)) (g:TickS):Prop:=h.get b=some (.cells (tickC g (tN g.next)) (.own q))
structure TickWF (g:TickS):Prop where
 most:g.clients≤8
 words:g.want.words=[]
 nx:g.next≤4
 at2:g.next=2→0≤g.want.n∧g.want.n<8
def Eff (h:NHeap) (b:Nat) (q:Option (TypeId×Nat)) (f:Nat) (l:List NVal) (g':TickS):Prop:=∃h',K env f l h=some (.tuple [],h')∧Upd [b] h h'∧TickAt h' b q g'
theorem wants_K (h:NHeap) (b:Nat) (q:Option (TypeId×Nat)) (g:TickS) (fv0:NVal) (hg:h.get b=some (.cells (tickC g fv0) (.own q))) (a:Acc) (nx:Nat):Eff h b q 138 [P b,.agg (accV a nilS0),tN nx] (g.wants a nx):=by
 obtain⟨H,hH⟩:∃H,h.alloc (.cells (accV a nilS0) (.own none))=H:=⟨_,rfl⟩
 have x:Ext h H:=by rw[←hH];exact(Ext.refl h).alloc _
 have gA:H.get h.next=some (.cells (accV a nilS0) (.own none)):=by rw[←hH];simp[NHeap.get_alloc]
 have gB:=x.get hg
 have lB:=NHeap.get_lt gB
 have lb:=NHeap.get_lt hg
 obtain⟨h',hh'⟩:∃h',(H.set b (.cells [.int .i64 g.clients,.int .i64 a.kind,.int .i64 a.ref,.int .i64 a.cls,.int .i64 a.n,.int .u64 (a.was:Nat),nilS0,fv0,.int .i64 g.epoch,.bool g.took] (.own q))).set b (.cells (tickC (g.wants a nx) (tN nx)) (.own q))=h':=⟨_,rfl⟩
 refine⟨h',?_,?_,?_⟩
 ·obtain⟨fv,hfv,hq⟩:∃fv,tN nx=fv∧(fv=.nilFunc∨∃f,fv=.func (.func f) [] []):=by
   refine⟨_,rfl,?_⟩
   unfold tN
   split<;>first|exact .inl rfl|exact .inr ⟨_,rfl⟩
  simp only[hfv,TickS.wants,accV,tickC] at hh' hH gA gB⊢
  rw[k138 _ _ (by simp)]
  rcases hq with rfl|⟨f,rfl⟩
  ·simp only[bodyOf,Option.getD_some,go_sem,seval,Tryz.f138,hH,gA,gB,lB,hh']
   try rfl
  ·simp only[bodyOf,Option.getD_some,go_sem,seval,Tryz.f138,hH,gA,gB,lB,hh']
   try rfl
 ·rw[←hh']
  exact(((Upd.of_ext x).mono (by simp)).set (.inl (by simp)) _).set (.inl (by simp)) _
 ·rw[TickAt,←hh',NHeap.get_set_same (by rw[NHeap.next_set];exact lB)]
  rfl
def okTick (o:OpS) (clients:Int):Bool:=decide (o.kind=5)&&decide (o.term=[])&&decide (o.to=[])&&decide (o.value=0)&&decide (1≤clients)&&decide (clients≤8)
theorem New_K (h:NHeap) (o:OpS) (clients:Int) (hk:okTick o clients=true):∃b h',K env 90 [.agg (opV o),.int .i64 clients] h=some (.tuple [P b,.int .i64 0],h')∧Ext h h'∧h.next≤b∧TickAt h' b none (newTick clients):=by
 have⟨⟨⟨⟨⟨c0,c1⟩,c2⟩,c3⟩,c4⟩,c5⟩:((((o.kind=5∧o.term=[])∧o.to=[])∧o.value=0)∧1≤clients)∧clients≤8:=by simpa[okTick] using hk
 obtain⟨H,hH⟩:∃H,h.alloc (.cells (opV o) (.own none))=H:=⟨_,rfl⟩
 have x:Ext h H:=by rw[←hH];exact(Ext.refl h).alloc _
 have gA:H.get h.next=some (.cells (opV o) (.own none)):=by rw[←hH];simp[NHeap.get_alloc]
 have nH:H.next=h.next+1:=by rw[←hH];rfl
 have en:nbin Tryz.prog .neq 55 (.agg [.int .i64 5,.str [],.str [],.int .i64 0]) (.agg [.int .i64 5,.str [],.str [],.int .i64 0])=some (.bool false):=by kernel_rfl
 have c4':¬clients<1:=by omega
 have c5':¬8<clients:=by omega
 obtain⟨H1,hH1⟩:∃H1,H.alloc (.cells (tickC {clients:=clients} .nilFunc) (.own none))=H1:=⟨_,rfl⟩
 have x1:Ext H H1:=by rw[←hH1];exact(Ext.refl H).alloc _
 have g1:H1.get (h.next+1)=some (.cells (tickC {clients:=clients} .nilFunc) (.own none)):=by rw[←hH1,←nH];simp[NHeap.get_alloc]
 obtain⟨h',e,u,k⟩:=wants_K H1 (h.next+1) none {clients:=clients} .nilFunc g1 {kind:=7} 1
 refine⟨h.next+1,h',?_,Upd.ext ((Upd.of_ext (x.trans x1)).trans' u (fun b hb=>.inr (by simp at hb;omega))),by omega,k⟩
 simp only[opV,c0,c1,c2,c3,tickC,z0,nilS0,accV,tN,P] at hH gA hH1 e⊢
 rw[k90 _ _ (by simp)]
 simp only[bodyOf,Option.getD_some,go_sem,seval,Tryz.f90,hH,gA,en,c4',c5',nH,hH1,e]
 try rfl
end tick
end Go.Proofs.YtkjpldganajkkaaGreatDoor.S
namespace Go.Proofs.YtkjpldganajkkaaGreatDoor.S
open Go Go.RowKit Go.Proofs.YtkjpldganajkkaaGreatDoor.NICE
namespace scan
open word pack mir node mem get
structure ScanI (g:ScanS) (n:Nat):Prop where
 sought:g.sought.length≤40
 path:g.path.length≤13*n
 rpath:∀r∈g.rows,r.path.length≤13*n
 rows:g.rows.length≤n
 list:g.ans.list.length≤n
 words:g.want.words=[]
 nx:g.next≤5
theorem newScan_I (o:OpS) (root:Int) (h:o.term.length≤13):ScanI (newScan o root) 0:=⟨by show o.term.length≤40;omega,Nat.zero_le _,fun r hr=>(by cases hr),Nat.zero_le _,Nat.zero_le _,rfl,by show 1≤5;decide⟩
end scan
end Go.Proofs.YtkjpldganajkkaaGreatDoor.S
namespace Go.Proofs.YtkjpldganajkkaaGreatDoor.S
open Go Go.RowKit Go.Proofs.YtkjpldganajkkaaGreatDoor.NICE
namespace tree
open word pack mir node mem get
theorem Stp.upd {lo hi:Nat} {G G':Gh} (s:Stp lo hi G G'):∃fp,Upd fp G.h G'.h∧∀d∈fp,lo≤G.col d∧G.col d<hi:=by
 refine⟨(List.range G.h.next).filter fun d=>decide (lo≤G.col d∧G.col d<hi),⟨s.next,fun g hn=>s.get g (fun q=>hn (List.mem_filter.2 ⟨List.mem_range.2 (NHeap.get_lt g),decide_eq_true q⟩))⟩,fun d hd=>?_⟩
 exact of_decide_eq_true (List.mem_filter.1 hd).2
def fNext:ProgS→Nat
 | .get _=>71
 | .scan _=>76
 | .put _=>81
 | .drop _=>86
 | .tick _=>91
def fGot:ProgS→Nat
 | .get _=>72
 | .scan _=>77
 | .put _=>82
 | .drop _=>87
 | .tick _=>92
def fTook:ProgS→Nat
 | .get _=>73
 | .scan _=>78
 | .put _=>83
 | .drop _=>88
 | .tick _=>93
def fAns:ProgS→Nat
 | .get _=>74
 | .scan _=>79
 | .put _=>84
 | .drop _=>89
 | .tick _=>94
def ProgAt (G:Gh) (c b n:Nat):ProgS→Prop
 | .get g=>(∃q,get.GetAt G.h b q g)∧get.GetWF g∧get.GetNx g∧G.col b=c
 | .scan g=>∃q rv lv rws,scan.Core G.h b q g (scan.sN g.next) rv lv rws∧scan.ScanI g n∧∀d∈scan.Foot b rv lv rws,G.col d=c
 | .put g=>∃q x ro,put.At G.h b q g (put.pN g.next) x ro∧put.PutB g n∧PW g∧G.col b=c∧∀d,d∈ro∨d∈blk x.hv→G.col d=c
 | .drop g=>∃q x ro,drop.At G.h b q g (drop.pN g.next) x ro∧drop.DropB g n∧DW g∧G.col b=c∧∀d,d∈ro∨d∈blk x.hv→G.col d=c
 | .tick g=>(∃q,tick.TickAt G.h b q g)∧tick.TickWF g∧G.col b=c
theorem foot_lt {h b q g fv rv lv rws} (c:scan.Core h b q g fv rv lv rws):∀d∈scan.Foot b rv lv rws,d<h.next:=by
 intro d hd
 simp only[scan.Foot,scan.foot,List.mem_append,List.mem_cons,List.mem_flatMap] at hd
 rcases hd with(rfl|hd|hd)|⟨x,hx,hd⟩
 ·exact NHeap.get_lt c.gb
 ·exact(VecK.blk c.rows.vec d hd).1
 ·exact(VecK.blk c.ls d hd).1
 ·exact(c.ok x hx).lt d hd
theorem ProgAt.step {lo hi:Nat} {G G':Gh} (s:Stp lo hi G G') {c b n:Nat} {p:ProgS} (h:ProgAt G c b n p) (hc:¬(lo≤c∧c<hi)):ProgAt G' c b n p:=by
 obtain⟨fp,u,hfp⟩:=Stp.upd s
 have off:∀d,G.col d=c→d∉fp:=fun d hd hm=>hc (hd▸hfp d hm)
 cases p with
 |get g=>
  obtain⟨⟨q,h1⟩,h2,h3,h4⟩:=h
  exact⟨⟨q,u.get h1 (off b h4)⟩,h2,h3,by rw[s.col _ (NHeap.get_lt h1)];exact h4⟩
 |tick g=>
  obtain⟨⟨q,h1⟩,h2,h4⟩:=h
  exact⟨⟨q,u.get h1 (off b h4)⟩,h2,by rw[s.col _ (NHeap.get_lt h1)];exact h4⟩
 |scan g=>
  obtain⟨q,rv,lv,rws,h1,h2,h3⟩:=h
  have hlt:=foot_lt h1
  refine⟨q,rv,lv,rws,h1.upd u (fun d hd=>off d (h3 d (List.mem_append_left _ hd))) (fun x hx d hd=>off d (h3 d (List.mem_append_right _ (List.mem_flatMap.2 ⟨x,hx,hd⟩)))),h2,fun d hd=>?_⟩
  rw[s.col _ (hlt d hd)]
  exact h3 d hd
 |put g=>
  obtain⟨q,x,ro,⟨h1,h2⟩,h3,h4,h5,h6⟩:=h
  refine⟨q,x,ro,⟨u.get h1 (off b h5),h2.upd u (fun d hd=>off d (h6 d (.inl hd))) (fun d hd=>off d (h6 d (.inr hd)))⟩,h3,h4,by rw[s.col _ (NHeap.get_lt h1)];exact h5,fun d hd=>?_⟩
  rw[s.col _ (by
   rcases hd with hd|hd
   ·exact(h2.ap d hd).2.2
   ·exact(VecK.blk h2.had d hd).1)]
  exact h6 d hd
 |drop g=>
  obtain⟨q,x,ro,⟨h1,h2⟩,h3,h4,h5,h6⟩:=h
  refine⟨q,x,ro,⟨u.get h1 (off b h5),h2.upd u (fun d hd=>off d (h6 d (.inl hd))) (fun d hd=>off d (h6 d (.inr hd)))⟩,h3,h4,by rw[s.col _ (NHeap.get_lt h1)];exact h5,fun d hd=>?_⟩
  rw[s.col _ (by
   rcases hd with hd|hd
   ·exact(h2.ap d hd).2.2
   ·exact(VecK.blk h2.had d hd).1)]
  exact h6 d hd
end tree
end Go.Proofs.YtkjpldganajkkaaGreatDoor.S
namespace Go.Proofs.YtkjpldganajkkaaGreatDoor.S
open Go Go.RowKit Go.Proofs.YtkjpldganajkkaaGreatDoor.NICE
namespace tree
open word pack mir node mem get made
abbrev progV (p:ProgS) (b:Nat):List NVal:=[.func (.func (fNext p)) [P b] [],.func (.func (fGot p)) [P b] [],.func (.func (fTook p)) [P b] [],.func (.func (fAns p)) [P b] []]
abbrev noProg:List NVal:=[.nilFunc,.nilFunc,.nilFunc,.nilFunc]
abbrev pZ:Own:=.own (some (63,4))
def okOp (o:OpS) (tries clients:Int):Bool:=okGet o||scan.okScan o||put.okPut o tries||drop.okDrop o tries||tick.okTick o clients
def Made (G:Gh) (o:OpS) (root tries clients:Int):Prop:=
 ∃p b h',madeP o root tries clients=some p∧K env 40 [.agg (opV o),.int .i64 root,.int .i64 tries,.int .i64 clients] G.h=some (.tuple [.agg (progV p b),.int .i64 0],h')∧Ext G.h h'∧G.h.next≤b∧∀c,ProgAt ⟨h',newCol G.h G.col fun _=>c⟩ c b 0 p
theorem made_get (G:Gh) (o:OpS) (root tries clients:Int) (hk:okGet o=true) (hl:o.term.length<2^26):Made G o root tries clients:=by
 have⟨⟨⟨c0,c1⟩,c2⟩,c3⟩:((o.kind=1∧rightT o.term=true)∧o.to=[])∧o.value=0:=by simpa[okGet] using hk
 obtain⟨H,hH⟩:∃H,G.h.alloc (.cells (opV o) (.own none))=H:=⟨_,rfl⟩
 have x:Ext G.h H:=by rw[←hH];exact(Ext.refl _).alloc _
 have nH:H.next=G.h.next+1:=by rw[←hH];rfl
 have gA:H.get G.h.next=some (.cells (opV o) (.own none)):=by rw[←hH];simp[NHeap.get_alloc]
 obtain⟨H1,hH1⟩:∃H1,H.alloc (.cells noProg pZ)=H1:=⟨_,rfl⟩
 have x1:Ext H H1:=by rw[←hH1];exact(Ext.refl _).alloc _
 have n1:H1.next=G.h.next+2:=by rw[←hH1];show H.next+1=_;omega
 have gZ:H1.get (G.h.next+1)=some (.cells noProg pZ):=by rw[←hH1,←nH];simp[NHeap.get_alloc]
 have gA1:=x1.get gA
 obtain⟨b,h2,e2,x2,hb,k⟩:=get.New_K H1 o root hk
 have gZ2:=x2.get gZ
 have lZ2:=NHeap.get_lt gZ2
 obtain⟨h3,hh3⟩:∃h3,h2.set (G.h.next+1) (.cells (progV (.get (newGet o.term root)) b) pZ)=h3:=⟨_,rfl⟩
 have u3:Upd [G.h.next+1] h2 h3:=by rw[←hh3];exact(Upd.refl _ _).set (.inl (by simp)) _
 have ku:=u3.get k (by simp;omega)
 refine⟨.get (newGet o.term root),b,h3,by unfold madeP;rw[if_pos ⟨c0,c1,c2,c3⟩],?_,by rw[←hh3];exact((x.trans x1).trans x2).set (by omega) _,by omega,fun c=>?_⟩
 ·simp only[opV,c0,P,fNext,fGot,fTook,fAns] at hH gA gA1 e2 hh3⊢
  rw[k40 _ _ (by simp)]
  simp only[bodyOf,Option.getD_some,go_sem,seval,Tryz.f40,hH,nH,hH1,gA1,e2,gZ2,lZ2,hh3]
  try rw[←hh3]
  try simp only[go_sem,seval,lZ2]
  try rfl
 ·have hcol:newCol G.h G.col (fun _=>c) b=c:=newCol_new (by omega)
  exact⟨⟨none,ku⟩,newGet_wf o root (by omega),by show 1≤5;decide,hcol⟩
theorem made_scan (G:Gh) (o:OpS) (root tries clients:Int) (hk:scan.okScan o=true):Made G o root tries clients:=by
 have⟨⟨⟨⟨c0,c1⟩,c2⟩,c3⟩,c4⟩:(((o.kind=4∧1≤o.value)∧o.value≤16)∧o.term.length≤13)∧o.to.length≤13:=by simpa[scan.okScan] using hk
 obtain⟨H,hH⟩:∃H,G.h.alloc (.cells (opV o) (.own none))=H:=⟨_,rfl⟩
 have x:Ext G.h H:=by rw[←hH];exact(Ext.refl _).alloc _
 have nH:H.next=G.h.next+1:=by rw[←hH];rfl
 have gA:H.get G.h.next=some (.cells (opV o) (.own none)):=by rw[←hH];simp[NHeap.get_alloc]
 obtain⟨H1,hH1⟩:∃H1,H.alloc (.cells noProg pZ)=H1:=⟨_,rfl⟩
 have x1:Ext H H1:=by rw[←hH1];exact(Ext.refl _).alloc _
 have n1:H1.next=G.h.next+2:=by rw[←hH1];show H.next+1=_;omega
 have gZ:H1.get (G.h.next+1)=some (.cells noProg pZ):=by rw[←hH1,←nH];simp[NHeap.get_alloc]
 have gA1:=x1.get gA
 obtain⟨b,h2,e2,x2,hb,k⟩:=scan.New_K H1 o root hk
 have gZ2:=x2.get gZ
 have lZ2:=NHeap.get_lt gZ2
 obtain⟨h3,hh3⟩:∃h3,h2.set (G.h.next+1) (.cells (progV (.scan (newScan o root)) b) pZ)=h3:=⟨_,rfl⟩
 have u3:Upd [G.h.next+1] h2 h3:=by rw[←hh3];exact(Upd.refl _ _).set (.inl (by simp)) _
 have kc:scan.Core h3 b none (newScan o root) (scan.sN 1) nilS0 nilS0 []:=k.upd u3 (fun d hd=>by simp[scan.foot,blk] at hd;simp;omega) (fun x hx=>by cases hx)
 refine⟨.scan (newScan o root),b,h3,by unfold madeP;rw[if_neg (by rw[c0];rintro⟨h,_⟩;exact absurd h (by decide)),if_pos ⟨c0,c1,c2,by omega,by omega⟩],?_,by rw[←hh3];exact((x.trans x1).trans x2).set (by omega) _,by omega,fun c=>?_⟩
 ·simp only[opV,c0,P,fNext,fGot,fTook,fAns] at hH gA gA1 e2 hh3⊢
  rw[k40 _ _ (by simp)]
  simp only[bodyOf,Option.getD_some,go_sem,seval,Tryz.f40,hH,nH,hH1,gA1,e2,gZ2,lZ2,hh3]
  try rw[←hh3]
  try simp only[go_sem,seval,lZ2]
  try rfl
 ·have hcol:newCol G.h G.col (fun _=>c) b=c:=newCol_new (by omega)
  exact⟨none,nilS0,nilS0,[],kc,scan.newScan_I o root c3,fun d hd=>by simp[scan.Foot,scan.foot,blk] at hd;rw[hd];exact hcol⟩
theorem made_put (G:Gh) (o:OpS) (root tries clients:Int) (hk:put.okPut o tries=true) (hl:o.term.length<2^26):Made G o root tries clients:=by
 have⟨⟨⟨⟨⟨c0,c1⟩,c2⟩,c3⟩,c4⟩,c5⟩:((((o.kind=2∧rightT o.term=true)∧0≤o.value)∧o.value≤1099511627776)∧o.to=[])∧1≤tries:=by simpa[put.okPut] using hk
 obtain⟨H,hH⟩:∃H,G.h.alloc (.cells (opV o) (.own none))=H:=⟨_,rfl⟩
 have x:Ext G.h H:=by rw[←hH];exact(Ext.refl _).alloc _
 have nH:H.next=G.h.next+1:=by rw[←hH];rfl
 have gA:H.get G.h.next=some (.cells (opV o) (.own none)):=by rw[←hH];simp[NHeap.get_alloc]
 obtain⟨H1,hH1⟩:∃H1,H.alloc (.cells noProg pZ)=H1:=⟨_,rfl⟩
 have x1:Ext H H1:=by rw[←hH1];exact(Ext.refl _).alloc _
 have n1:H1.next=G.h.next+2:=by rw[←hH1];show H.next+1=_;omega
 have gZ:H1.get (G.h.next+1)=some (.cells noProg pZ):=by rw[←hH1,←nH];simp[NHeap.get_alloc]
 have gA1:=x1.get gA
 obtain⟨b,h2,e2,x2,hb,k⟩:=put.New_K H1 o root tries hk
 have gZ2:=x2.get gZ
 have lZ2:=NHeap.get_lt gZ2
 obtain⟨h3,hh3⟩:∃h3,h2.set (G.h.next+1) (.cells (progV (.put (newPut o.term o.value root tries)) b) pZ)=h3:=⟨_,rfl⟩
 have u3:Upd [G.h.next+1] h2 h3:=by rw[←hh3];exact(Upd.refl _ _).set (.inl (by simp)) _
 have ka:put.At h3 b none (newPut o.term o.value root tries) (put.pN 1) put.X0 []:=⟨u3.get k.1 (by simp;omega),k.2.upd u3 (fun d hd=>by cases hd) (fun d hd=>by simp[blk] at hd)⟩
 refine⟨.put (newPut o.term o.value root tries),b,h3,by unfold madeP;rw[if_neg (by rw[c0];rintro⟨h,_⟩;exact absurd h (by decide)),if_neg (by rw[c0];rintro⟨h,_⟩;exact absurd h (by decide)),if_pos ⟨c0,c1,c4,c2,c3,c5⟩],?_,by rw[←hh3];exact((x.trans x1).trans x2).set (by omega) _,by omega,fun c=>?_⟩
 ·simp only[opV,c0,P,fNext,fGot,fTook,fAns] at hH gA gA1 e2 hh3⊢
  rw[k40 _ _ (by simp)]
  simp only[bodyOf,Option.getD_some,go_sem,seval,Tryz.f40,hH,nH,hH1,gA1,e2,gZ2,lZ2,hh3]
  try rw[←hh3]
  try simp only[go_sem,seval,lZ2]
  try rfl
 ·have hcol:newCol G.h G.col (fun _=>c) b=c:=newCol_new (by omega)
  exact⟨none,put.X0,[],ka,put.newPut_B o root tries (by omega),⟨.nil rfl,by show(0:Nat)<2^64;decide,by show(0:Nat)<2^64;decide,rfl⟩,hcol,fun d hd=>by simp[blk] at hd⟩
theorem made_drop (G:Gh) (o:OpS) (root tries clients:Int) (hk:drop.okDrop o tries=true) (hl:o.term.length<2^26):Made G o root tries clients:=by
 have⟨⟨⟨⟨c0,c1⟩,c2⟩,c4⟩,c5⟩:(((o.kind=3∧rightT o.term=true)∧o.value=0)∧o.to=[])∧1≤tries:=by simpa[drop.okDrop] using hk
 obtain⟨H,hH⟩:∃H,G.h.alloc (.cells (opV o) (.own none))=H:=⟨_,rfl⟩
 have x:Ext G.h H:=by rw[←hH];exact(Ext.refl _).alloc _
 have nH:H.next=G.h.next+1:=by rw[←hH];rfl
 have gA:H.get G.h.next=some (.cells (opV o) (.own none)):=by rw[←hH];simp[NHeap.get_alloc]
 obtain⟨H1,hH1⟩:∃H1,H.alloc (.cells noProg pZ)=H1:=⟨_,rfl⟩
 have x1:Ext H H1:=by rw[←hH1];exact(Ext.refl _).alloc _
 have n1:H1.next=G.h.next+2:=by rw[←hH1];show H.next+1=_;omega
 have gZ:H1.get (G.h.next+1)=some (.cells noProg pZ):=by rw[←hH1,←nH];simp[NHeap.get_alloc]
 have gA1:=x1.get gA
 obtain⟨b,h2,e2,x2,hb,k⟩:=drop.New_K H1 o root tries hk
 have gZ2:=x2.get gZ
 have lZ2:=NHeap.get_lt gZ2
 obtain⟨h3,hh3⟩:∃h3,h2.set (G.h.next+1) (.cells (progV (.drop (newDrop o.term root tries)) b) pZ)=h3:=⟨_,rfl⟩
 have u3:Upd [G.h.next+1] h2 h3:=by rw[←hh3];exact(Upd.refl _ _).set (.inl (by simp)) _
 have ka:drop.At h3 b none (newDrop o.term root tries) (drop.pN 1) drop.X0 []:=⟨u3.get k.1 (by simp;omega),k.2.upd u3 (fun d hd=>by cases hd) (fun d hd=>by simp[blk] at hd)⟩
 refine⟨.drop (newDrop o.term root tries),b,h3,by unfold madeP;rw[if_neg (by rw[c0];rintro⟨h,_⟩;exact absurd h (by decide)),if_neg (by rw[c0];rintro⟨h,_⟩;exact absurd h (by decide)),if_neg (by rw[c0];rintro⟨h,_⟩;exact absurd h (by decide)),if_pos ⟨c0,c1,c4,c2,c5⟩],?_,by rw[←hh3];exact((x.trans x1).trans x2).set (by omega) _,by omega,fun c=>?_⟩
 ·simp only[opV,c0,P,fNext,fGot,fTook,fAns] at hH gA gA1 e2 hh3⊢
  rw[k40 _ _ (by simp)]
  simp only[bodyOf,Option.getD_some,go_sem,seval,Tryz.f40,hH,nH,hH1,gA1,e2,gZ2,lZ2,hh3]
  try rw[←hh3]
  try simp only[go_sem,seval,lZ2]
  try rfl
 ·have hcol:newCol G.h G.col (fun _=>c) b=c:=newCol_new (by omega)
  exact⟨none,drop.X0,[],ka,drop.newDrop_B o root tries (by omega),⟨.nil rfl,by show(0:Nat)<2^64;decide,by show(0:Nat)<2^64;decide,by show(0:Nat)<2^64;decide,rfl⟩,hcol,fun d hd=>by simp[blk] at hd⟩
theorem made_tick (G:Gh) (o:OpS) (root tries clients:Int) (hk:tick.okTick o clients=true):Made G o root tries clients:=by
 have⟨⟨⟨⟨⟨c0,c1⟩,c2⟩,c3⟩,c4⟩,c5⟩:((((o.kind=5∧o.term=[])∧o.to=[])∧o.value=0)∧1≤clients)∧clients≤8:=by simpa[tick.okTick] using hk
 obtain⟨H,hH⟩:∃H,G.h.alloc (.cells (opV o) (.own none))=H:=⟨_,rfl⟩
 have x:Ext G.h H:=by rw[←hH];exact(Ext.refl _).alloc _
 have nH:H.next=G.h.next+1:=by rw[←hH];rfl
 have gA:H.get G.h.next=some (.cells (opV o) (.own none)):=by rw[←hH];simp[NHeap.get_alloc]
 obtain⟨H1,hH1⟩:∃H1,H.alloc (.cells noProg pZ)=H1:=⟨_,rfl⟩
 have x1:Ext H H1:=by rw[←hH1];exact(Ext.refl _).alloc _
 have n1:H1.next=G.h.next+2:=by rw[←hH1];show H.next+1=_;omega
 have gZ:H1.get (G.h.next+1)=some (.cells noProg pZ):=by rw[←hH1,←nH];simp[NHeap.get_alloc]
 have gA1:=x1.get gA
 obtain⟨b,h2,e2,x2,hb,k⟩:=tick.New_K H1 o clients hk
 have gZ2:=x2.get gZ
 have lZ2:=NHeap.get_lt gZ2
 obtain⟨h3,hh3⟩:∃h3,h2.set (G.h.next+1) (.cells (progV (.tick (newTick clients)) b) pZ)=h3:=⟨_,rfl⟩
 have u3:Upd [G.h.next+1] h2 h3:=by rw[←hh3];exact(Upd.refl _ _).set (.inl (by simp)) _
 have ku:=u3.get k (by simp;omega)
 refine⟨.tick (newTick clients),b,h3,by unfold madeP;rw[if_neg (by rw[c0];rintro⟨h,_⟩;exact absurd h (by decide)),if_neg (by rw[c0];rintro⟨h,_⟩;exact absurd h (by decide)),if_neg (by rw[c0];rintro⟨h,_⟩;exact absurd h (by decide)),if_neg (by rw[c0];rintro⟨h,_⟩;exact absurd h (by decide)),if_pos ⟨c0,c1,c2,c3,c4,c5⟩],?_,by rw[←hh3];exact((x.trans x1).trans x2).set (by omega) _,by omega,fun c=>?_⟩
 ·simp only[opV,c0,P,fNext,fGot,fTook,fAns] at hH gA gA1 e2 hh3⊢
  rw[k40 _ _ (by simp)]
  simp only[bodyOf,Option.getD_some,go_sem,seval,Tryz.f40,hH,nH,hH1,gA1,e2,gZ2,lZ2,hh3]
  try rw[←hh3]
  try simp only[go_sem,seval,lZ2]
  try rfl
 ·have hcol:newCol G.h G.col (fun _=>c) b=c:=newCol_new (by omega)
  exact⟨⟨none,ku⟩,⟨c5,rfl,by show 1≤4;decide,fun h=>absurd (show(1:Nat)=2 from h) (by decide)⟩,hcol⟩
theorem made_K (G:Gh) (o:OpS) (root tries clients:Int) (hk:okOp o tries clients=true) (hl:o.term.length<2^26):Made G o root tries clients:=by
 unfold okOp at hk
 simp only[Bool.or_eq_true] at hk
 rcases hk with(((hk|hk)|hk)|hk)|hk
 ·exact made_get G o root tries clients hk hl
 ·exact made_scan G o root tries clients hk
 ·exact made_put G o root tries clients hk hl
 ·exact made_drop G o root tries clients hk hl
 ·exact made_tick G o root tries clients hk
end tree
end Go.Proofs.YtkjpldganajkkaaGreatDoor.S
