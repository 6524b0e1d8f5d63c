/-
  NodeD, Mir2, Pool, Arena, as one text. Proved step by step; no conditions beside what is said.
-/
import Derived.Test.YtkjpldganajkkaaGreatDoorQ9
import Derived.Test.YtkjpldganajkkaaGreatDoorQ10
import Derived.Test.YtkjpldganajkkaaGreatDoorQ11
set_option linter.unusedSimpArgs false
set_option linter.unusedVariables false
set_option linter.unusedSectionVars false
set_option maxRecDepth 100000
namespace Go.Proofs.YtkjpldganajkkaaGreatDoor.S
open Go Go.RowKit Go.Proofs.YtkjpldganajkkaaGreatDoor.NICE
namespace node
open pack word mir
theorem bytesF_ok (ws:List Nat) (n:Nat) (h:(bytesF ws n).2=0):(bytesF ws n).1.length=n:=by
 unfold bytesF at h⊢
 split at h
 ·cases h
 ·rename_i q
  split at h
  ·cases h
  ·rename_i q2
   rw[if_neg q,if_neg q2]
   simp only[Int.toNat_natCast,List.length_take,allBytes_len]
   omega
theorem bytesN_len (ws:List Nat) (kind:Int) (n:Nat) (h:(bytesN ws kind n).2=true):(bytesN ws kind n).1.length=n:=by
 unfold bytesN at h⊢
 split at h
 ·rename_i q
  rw[if_pos q]
  exact bytesF_ok _ _ (by simpa using h)
 ·rename_i q
  rw[if_neg q]
  split at h
  ·rename_i q2
   rw[if_pos q2]
   exact bytesF_ok _ _ (by simpa using h)
  ·rename_i q2
   rw[if_neg q2]
   split at h
   ·rename_i q3
    rw[if_pos q3]
    cases hd:deIdx ws n 256 with
    |none=>rw[hd] at h;cases h
    |some ks=>exact deIdx_len ws n 256 ks hd
   ·rename_i q3
    rw[if_neg q3]
    simpa using h
noncomputable def lbND:Code:=inC (inC (atC (bodyOf Tryz.f108) 12))
set_option maxHeartbeats 2000000 in
theorem loopND (hA:NHeap) (v:NVal) (ws:List Nat) (hv:Rw hA 1 U v ws) (kind:Int) (hk:kind=1∨kind=2∨kind=3∨kind=4) (hl:ws.length=sizeN kind.toNat) (kv:NVal) (keys:List UInt8) (hkv:Rw hA 1 UB kv keys) (hkl:(keys.length:Int)≤highI kind) (wd:Nat) (pre:List UInt8) (nb:Nat) (hnb:hA.next≤nb) (q)
  (F0:Fr) (f0:F0 0=v) (f4:F0 4=.int .i64 kind) (f11:F0 11=.ptr (some (nb,0))) (f80:F0 80=kv) (f81:F0 81=.int .i64 keys.length) (Q:Out→Prop)
  (hQ:∀(h:NHeap) (F:Fr) (iv:NVal),Ext hA h→h.get nb=some (.cells [.int .i64 kind,.int .u64 (wd:Nat),.str pre,kv,iv] (.own q))→Grow h iv 1 (rows I (kidsOf kind ws 0 keys)) keys.length→(∀d∈blk iv,hA.next≤d)→Keep [0,2,11] F0 F→Q (some (.exit 0,toL 108 F,h))):
  ∀(f i:Nat) (h:NHeap) (iv:NVal) (acc:List Int) (F:Fr),i+f=keys.length→acc++kidsOf kind ws i (keys.drop i)=kidsOf kind ws 0 keys→acc.length=i→Ext hA h→h.get nb=some (.cells [.int .i64 kind,.int .u64 (wd:Nat),.str pre,kv,iv] (.own q))→Grow h iv 1 (rows I acc) acc.length→(∀d∈blk iv,hA.next≤d∧d≠nb)→Keep [0,2,4,11,80,81] F0 F→F 82=.int .i64 i→Q (C env (.loop lbND) (toL 108 F) h):=by
 intro f
 induction f with
 |zero=>
  intro i h iv acc F hi hacc hal hE gn g hd kp f82
  have:i=keys.length:=by omega
  subst this
  have f81':=(kp 81 rfl).trans f81
  rw[List.drop_length,kidsOf,List.append_nil] at hacc
  subst hacc
  rw[S_loop]
  conv=>arg 1;arg 2;arg 2;simp only[lbND,bodyOf,Option.getD_some,atC,seqL,inC,elC,List.nil_append,List.cons_append,List.getElem?_cons_succ,List.getElem?_cons_zero,Tryz.f108]
  simp only[go_sem,seval,f81',f82]
  refine hQ h _ iv hE gn (by rw[←hal];exact g) (fun d hd'=>(hd d hd').1) ?_
  exact(Keep.sub kp rfl).upd rfl
 |succ f ih=>
  intro i h iv acc F hi hacc hal hE gn g hd kp f82
  have f0':=(kp 0 rfl).trans f0
  have f4':=(kp 4 rfl).trans f4
  have f11':=(kp 11 rfl).trans f11
  have f80':=(kp 80 rfl).trans f80
  have f81':=(kp 81 rfl).trans f81
  have h256:(keys.length:Int)≤256:=Int.le_trans hkl (by rcases hk with q|q|q|q<;>rw[q]<;>decide)
  obtain⟨k,hk'⟩:∃k,keys[i]? =some k:=⟨keys[i]'(by omega),List.getElem?_eq_getElem (by omega)⟩
  obtain⟨kb,ko,kc,kx,kall,km,hkv',gK,rowK,leK⟩:=Sl.elem (f:=UB) (k:=1) (fun _=>rfl) (hkv.ext hE) hk'
  have cellK:=rowcell rowK (show(UB k)[0]? =some (.int .u8 (k.toNat:Int)) from rfl)
  simp only[Nat.mul_one,Nat.add_zero] at cellK
  rw[hkv'] at f80'
  have d2:keys.drop i=k::keys.drop (i+1):=by
   rw[List.drop_eq_getElem_cons (by omega)]
   congr 1
   rw[List.getElem?_eq_getElem (by omega)] at hk'
   exact Option.some.inj hk'
  rw[d2,kidsOf] at hacc
  have i0:(0:Int)≤(i:Int):=by omega
  have i1:(i:Int)<(keys.length:Int):=by omega
  have w1:IntKind.i64.wrap ((i:Int)+1)=((i+1:Nat):Int):=by rw[wrap_i64_small (by omega) (by omega)];omega
  have kt:k.toNat<256:=k.toNat_lt
  have hpl:0≤placeI kind i k∧(placeI kind i k).toNat<ws.length:=by
   rw[hl]
   rcases hk with q|q|q|q
   ·rw[q] at hkl⊢
    have:highI 1=4:=rfl
    rw[show sizeN (Int.toNat 1)=12 by decide]
    unfold placeI;simp;omega
   ·rw[q] at hkl⊢
    have:highI 2=16:=rfl
    rw[show sizeN (Int.toNat 2)=24 by decide]
    unfold placeI;simp;omega
   ·rw[q] at hkl⊢
    have:highI 3=48:=rfl
    rw[show sizeN (Int.toNat 3)=88 by decide]
    unfold placeI;simp;omega
   ·rw[q]
    rw[show sizeN (Int.toNat 4)=264 by decide]
    unfold placeI;simp;omega
  obtain⟨pl,hple⟩:∃pl:Nat,placeI kind i k=(pl:Int):=⟨(placeI kind i k).toNat,by omega⟩
  have hplt:(placeI kind i k).toNat=pl:=by omega
  rw[hplt] at hacc hpl
  have ep:=fun h=>place_K kind i k h (by omega) (by omega)
  rw[hple] at ep
  obtain⟨x,hx⟩:∃x,ws[pl]? =some x:=⟨ws[pl]'hpl.2,List.getElem?_eq_getElem hpl.2⟩
  have hgx:ws.getD pl 0=x:=by rw[List.getD_eq_getElem?_getD,hx];rfl
  rw[hgx] at hacc
  have p0:(0:Int)≤(pl:Int):=by omega
  have p1:(pl:Int)<(ws.length:Int):=by omega
  obtain⟨vb,vo,vc,vx,vall,vm,hv',gVA,rowV,leV⟩:=Sl.elem (f:=U) (k:=1) (fun _=>rfl) hv hx
  have gV:=hE.get gVA
  have lVA:=NHeap.get_lt gVA
  have cellV:=rowcell rowV (show(U x)[0]? =some (.int .u64 (x:Int)) from rfl)
  simp only[Nat.mul_one,Nat.add_zero] at cellV
  rw[hv'] at f0'
  have lV:=NHeap.get_lt gV
  have nV:¬vb=h.next:=by omega
  have ln:=NHeap.get_lt gn
  have nn:¬nb=h.next:=by omega
  obtain⟨H0,hH0⟩:∃H0,h.alloc .dead=H0:=⟨_,rfl⟩
  have x0:Ext h H0:=by rw[←hH0];exact(Ext.refl _).alloc _
  have n0:H0.next=h.next+1:=by rw[←hH0];rfl
  have gV0:=x0.get gV
  have gn0:=x0.get gn
  obtain⟨H1,hH1⟩:∃H1,H0.set h.next (.cells [.int .i64 (IntKind.i64.wrap (x:Nat))] (.own none))=H1:=⟨_,rfl⟩
  have x1:Ext h H1:=by rw[←hH1];exact x0.set (Nat.le_refl _) _
  have n1:H1.next=h.next+1:=by rw[←hH1];exact n0
  have g1:H1.get h.next=some (.cells (I (IntKind.i64.wrap (x:Nat))) (.own none)):=by rw[←hH1];exact NHeap.get_set_same (by omega)
  obtain⟨h2,ap,n2,g2,u2⟩:=grow_one (P:=Tryz.prog) (f:=I) (k:=1) (fun _=>rfl) (fun _=>rfl) Tryz.underlying77 sz3 by3 ze3 rfl (by decide) (g.upd (Upd.of_ext x1) (by simp)) g1 (by omega) (by omega)
  have gn1:=x1.get gn
  have gV2:=u2.get (x1.get gV) (fun hm=>by have:=(hd vb hm).1;omega)
  have gn2:=u2.get gn1 (fun hm=>(hd nb hm).2 rfl)
  have ln2:=NHeap.get_lt gn2
  have hve:=g.veq
  obtain⟨H3,hH3⟩:∃H3,h2.set nb (.cells [.int .i64 kind,.int .u64 (wd:Nat),.str pre,kv,.slice (some (H1.next,0)) (acc.length+1) (acc.length+1) (some 1)] (.own q))=H3:=⟨_,rfl⟩
  have u3:Upd [nb] h2 H3:=by rw[←hH3];exact(Upd.refl _ _).set (.inl (by simp)) _
  have hnn:=hE.next
  have l1:h.next<H0.next:=by omega
  have nh2:h.next+1≤h2.next:=by omega
  have nh2':h.next≤h2.next:=by omega
  have nH3:h2.next≤H3.next:=u3.next
  obtain⟨ib,il,ic,ix,hivf⟩:∃ib il ic ix,iv=.slice ib il ic ix:=by obtain⟨bo,c,x,q⟩:=g.sl.form;exact⟨_,_,_,_,q⟩
  rw[S_loop]
  conv=>arg 1;arg 2;arg 2;simp only[lbND,bodyOf,Option.getD_some,atC,seqL,inC,elC,List.nil_append,List.cons_append,List.getElem?_cons_succ,List.getElem?_cons_zero,Tryz.f108]
  rw[n1] at ap hH3 g2
  simp only[go_sem,seval,f0',f4',f11',f80',f81',f82,i0,i1,gK,cellK,gn,hve,ep,p0,p1,gV,gV0,cellV,hH0,n0,nV,nn,hH1,l1,n1,ap,gn0,gn1,gn2,ln2,hH3,w1,nh2,nh2',nH3,gV2,Nat.mul_one,Nat.zero_add,Nat.add_zero]
  refine ih (i+1) H3 (.slice (some (h.next+1,0)) (acc.length+1) (acc.length+1) (some 1)) (acc++[IntKind.i64.wrap (x:Nat)]) _ (by omega) (by rw[List.append_assoc];exact hacc) (by simp[hal]) ?_ ?_ ?_ ?_ ?_ ?_
  ·refine(Upd.trans' (fq:=nb::blk iv) (Upd.of_ext (hE.trans x1)) ((u2.mono (by intro d hd';exact .inl (List.mem_cons_of_mem _ hd'))).trans (u3.mono (by simp))) ?_).ext
   intro d hd'
   rw[List.mem_cons] at hd'
   rcases hd' with rfl|hd'
   ·exact .inr hnb
   ·exact .inr (hd d hd').1
  ·rw[←hH3];exact NHeap.get_set_same ln2
  ·rw[List.length_append,List.length_singleton]
   exact g2.upd u3 (by simp[blk];omega)
  ·intro d hd'
   simp[blk] at hd'
   omega
  ·repeat(first|exact kp|refine Keep.upd ?_ rfl)
  ·simp only[go_sem,seval]
theorem kidsOf_len (kind:Int) (w:List Nat):∀(bs:List UInt8) (i:Nat),(kidsOf kind w i bs).length=bs.length
 |[],_=>rfl
 |b::bs,i=>by rw[kidsOf,List.length_cons,kidsOf_len kind w bs,List.length_cons]
theorem zeroAt (h:NHeap):NodeAt h {} (.slice none 0 0 none) (.slice none 0 0 none):=⟨Sl.nil _ _,Sl.nil _ _,SlV.nil _,by decide,by decide,by decide,by decide⟩
abbrev nZ:Own:=.own (some (110,5))
set_option maxHeartbeats 4000000 in
theorem Decode_F (h:NHeap) (v:NVal) (ws:List Nat) (hv:Rw h 1 U v ws) (hlt:∀w∈ws,w<2^64) (hws:ws.length<2^30):
  ∃kv iv h',K env 108 [v] h=some (.tuple [.agg (nodeV (decN ws).1 kv iv),.bool (decN ws).2],h')∧Ext h h'∧NodeAt h' (decN ws).1 kv iv∧∀d∈blk kv++blk iv,h.next≤d∧d<h'.next:=by
 obtain⟨vb,vc,vx,hvv⟩:=hv.form
 obtain⟨H0,hH0⟩:∃H0,h.alloc (.cells [.int .i64 0,.int .u64 0,.str [],.slice none 0 0 none,.slice none 0 0 none] nZ)=H0:=⟨_,rfl⟩
 have x0:Ext h H0:=by rw[←hH0];exact(Ext.refl _).alloc _
 have n0:H0.next=h.next+1:=by rw[←hH0];rfl
 have gZ:H0.get h.next=some (.cells [.int .i64 0,.int .u64 0,.str [],.slice none 0 0 none,.slice none 0 0 none] nZ):=by rw[←hH0];simp[NHeap.get_alloc]
 have lZ:=NHeap.get_lt gZ
 have bad:decN ws=({},false)→∀h1:NHeap,Ext H0 h1→(∃h',h1.set h.next (.cells [.int .i64 0,.int .u64 0,.str [],.slice none 0 0 none,.slice none 0 0 none] nZ)=h'∧Ext h h'∧NodeAt h' (decN ws).1 (.slice none 0 0 none) (.slice none 0 0 none)):=by
  intro hd h1 x1
  refine⟨_,rfl,(x0.trans x1).set (Nat.le_refl _) _,?_⟩
  rw[hd]
  exact zeroAt _
 by_cases c0:ws.length<4
 ·have hd:decN ws=({},false):=by rw[decN,if_pos c0]
  obtain⟨h',hh',xx,nn⟩:=bad hd H0 (Ext.refl _)
  refine⟨_,_,h',?_,xx,nn,by simp[blk]⟩
  have c0':(ws.length:Int)<4:=by omega
  rw[hd,nodeV,k108 _ _ (by simp),hvv]
  simp only[bodyOf,Option.getD_some,go_sem,seval,Tryz.f108,hH0,c0',gZ,lZ,hh']
  rw[←hh']
  simp only[go_sem,seval,lZ]
  try rfl
 have c0':¬(ws.length:Int)<4:=by omega
 obtain⟨a1,ha1⟩:∃a,ws[1]? =some a:=⟨ws[1]'(by omega),List.getElem?_eq_getElem (by omega)⟩
 obtain⟨a0,ha0⟩:∃a,ws[0]? =some a:=⟨ws[0]'(by omega),List.getElem?_eq_getElem (by omega)⟩
 have l1:=hlt a1 (List.mem_of_getElem? ha1)
 have hg1:ws.getD 1 0=a1:=by rw[List.getD_eq_getElem?_getD,ha1];rfl
 have hg0:ws.getD 0 0=a0:=by rw[List.getD_eq_getElem?_getD,ha0];rfl
 obtain⟨b,o,c,x,all,q,hv1,gA,r1,le1⟩:=Sl.elem (f:=U) (k:=1) (fun _=>rfl) hv ha1
 have cell1:=rowcell r1 (show(U a1)[0]? =some (.int .u64 (a1:Int)) from rfl)
 have r0:=rows_at (f:=U) (k:=1) (fun _=>rfl) ws 0 a0 ha0
 obtain⟨b',o',c',x',all',q',hv0,gA0,r0',le0⟩:=Sl.elem (f:=U) (k:=1) (fun _=>rfl) hv ha0
 have cell0:=rowcell r0' (show(U a0)[0]? =some (.int .u64 (a0:Int)) from rfl)
 simp only[Nat.mul_one,Nat.add_zero,Nat.zero_mul,Nat.one_mul] at cell1 cell0
 rw[hvv] at hv1 hv0
 simp only[NVal.slice.injEq] at hv1 hv0
 obtain⟨rfl,_,rfl,rfl⟩:=hv1
 obtain⟨hbb,_,_,_⟩:=hv0
 simp only[Option.some.injEq,Prod.mk.injEq] at hbb
 obtain⟨rfl,rfl⟩:=hbb
 have hq:=gA.symm.trans gA0
 simp only[Option.some.injEq,NObj.cells.injEq] at hq
 obtain⟨rfl,rfl⟩:=hq
 have gA':=x0.get gA
 have lA:=NHeap.get_lt gA
 have nA:¬b=h.next:=by omega
 obtain⟨kd,hkd⟩:∃kd,a1%256=kd:=⟨_,rfl⟩
 obtain⟨sz,hsz⟩:∃sz,a1/256%256=sz:=⟨_,rfl⟩
 obtain⟨n,hn⟩:∃n,a1/65536%65536=n:=⟨_,rfl⟩
 have an1:∀t,nbin Tryz.prog .and t (.int .u64 (a1:Int)) (.int .u64 255)=some (.int .u64 (kd:Int)):=fun t=>by
  have:=and_u64 (P:=Tryz.prog) t a1 255 l1 (by decide)
  rw[show a1&&&255=a1%256 from Nat.and_two_pow_sub_one_eq_mod a1 8,hkd] at this
  exact this
 have sh1:∀t,nbin Tryz.prog .shr t (.int .u64 (a1:Int)) (.int .u64 8)=some (.int .u64 ((a1/256:Nat):Int)):=fun t=>byte_shr a1 1 l1 (by decide) t
 have an2:∀t,nbin Tryz.prog .and t (.int .u64 ((a1/256:Nat):Int)) (.int .u64 255)=some (.int .u64 (sz:Int)):=fun t=>by
  have:=and_u64 (P:=Tryz.prog) t (a1/256) 255 (by omega) (by decide)
  rw[show a1/256&&&255=a1/256%256 from Nat.and_two_pow_sub_one_eq_mod (a1/256) 8,hsz] at this
  exact this
 have sh2:∀t,nbin Tryz.prog .shr t (.int .u64 (a1:Int)) (.int .u64 16)=some (.int .u64 ((a1/65536:Nat):Int)):=fun t=>byte_shr a1 2 l1 (by decide) t
 have an3:∀t,nbin Tryz.prog .and t (.int .u64 ((a1/65536:Nat):Int)) (.int .u64 65535)=some (.int .u64 (n:Int)):=fun t=>by
  have:=and_u64 (P:=Tryz.prog) t (a1/65536) 65535 (by omega) (by decide)
  rw[show a1/65536&&&65535=a1/65536%65536 from Nat.and_two_pow_sub_one_eq_mod (a1/65536) 16,hn] at this
  exact this
 have wk:IntKind.i64.wrap (kd:Int)=(kd:Int):=wrap_i64_small (by omega) (by omega)
 have ws':IntKind.i64.wrap (sz:Int)=(sz:Int):=wrap_i64_small (by omega) (by omega)
 have wn:IntKind.i64.wrap (n:Int)=(n:Int):=wrap_i64_small (by omega) (by omega)
 have p1:(1:Int)<(ws.length:Int):=by omega
 have p0:(0:Int)<(ws.length:Int):=by omega
 have eh:=fun h=>High_K (kd:Int) h
 have es:=fun h=>Size_K (kd:Int) h
 have dec:decN ws=(if highI (kd:Int)=0∨(ws.length:Int)≠sizeI (kd:Int)∨highI (kd:Int)<(n:Int) then({},false)
   else if(bytesF ((ws.take 4).drop 2) (sz:Int)).2≠0∨(bytesN ws (kd:Int) n).2=false then({},false)
   else if encW (outN ws)=ws then(outN ws,true) else({},false)):=by
  rw[decN,if_neg c0,hg1,hkd,hsz,hn]
 by_cases c1:highI (kd:Int)=0
 ·have hd:decN ws=({},false):=by rw[dec,if_pos (.inl c1)]
  obtain⟨h',hh',xx,nn⟩:=bad hd H0 (Ext.refl _)
  refine⟨_,_,h',?_,xx,nn,by simp[blk]⟩
  rw[hd,nodeV,k108 _ _ (by simp),hvv]
  simp only[bodyOf,Option.getD_some,go_sem,seval,Tryz.f108,hH0,c0',gZ,lZ,p1,gA',nA,cell1,an1,sh1,an2,sh2,an3,wk,ws',wn,eh,c1,hh']
  rw[←hh']
  simp only[go_sem,seval,lZ]
  try rfl
 by_cases c2:(ws.length:Int)=sizeI (kd:Int)
 case neg=>
  have hd:decN ws=({},false):=by rw[dec,if_pos (.inr (.inl c2))]
  obtain⟨h',hh',xx,nn⟩:=bad hd H0 (Ext.refl _)
  refine⟨_,_,h',?_,xx,nn,by simp[blk]⟩
  rw[hd,nodeV,k108 _ _ (by simp),hvv]
  simp only[bodyOf,Option.getD_some,go_sem,seval,Tryz.f108,hH0,c0',gZ,lZ,p1,gA',nA,cell1,an1,sh1,an2,sh2,an3,wk,ws',wn,eh,es,c1,c2,hh']
  rw[←hh']
  simp only[go_sem,seval,lZ]
  try rfl
 have c2d:decide ((ws.length:Int)=sizeI (kd:Int))=true:=decide_eq_true c2
 by_cases c3:highI (kd:Int)<(n:Int)
 ·have hd:decN ws=({},false):=by rw[dec,if_pos (.inr (.inr c3))]
  obtain⟨h',hh',xx,nn⟩:=bad hd H0 (Ext.refl _)
  refine⟨_,_,h',?_,xx,nn,by simp[blk]⟩
  rw[hd,nodeV,k108 _ _ (by simp),hvv]
  simp only[bodyOf,Option.getD_some,go_sem,seval,Tryz.f108,hH0,c0',gZ,lZ,p1,gA',nA,cell1,an1,sh1,an2,sh2,an3,wk,ws',wn,eh,es,c1,c2d,c3,hh']
  rw[←hh']
  simp only[go_sem,seval,lZ]
  try rfl
 have hk:(kd:Int)=1∨(kd:Int)=2∨(kd:Int)=3∨(kd:Int)=4:=(high_pos _).1 c1
 have hlz:ws.length=sizeN (kd:Int).toNat:=by
  have:=(size4 (kd:Int) hk).1
  omega
 obtain⟨v2,e2,s2⟩:=Sl.sub (P:=Tryz.prog) hv Tryz.underlying106 sz108 .i64 .i64 2 4 (by decide) (by omega)
 have hl2:((ws.take 4).drop 2).length=4-2:=by simp;omega
 have s2':Rw H0 1 U v2 ((ws.take 4).drop 2):=by
  rw[Rw,hl2]
  rw[rows_take (f:=U) (k:=1) (fun _=>rfl),rows_drop (f:=U) (k:=1) (fun _=>rfl)] at s2
  exact s2.ext x0
 rw[hvv] at e2
 have e2':nslice Tryz.prog 106 (.slice (some (b,o)) ws.length vc vx) (some (.int .i64 2)) (some (.int .i64 4))=some v2:=e2
 obtain⟨h1,e3,x1⟩:=Bytes_K H0 v2 ((ws.take 4).drop 2) s2' (fun w hw=>hlt w (List.mem_of_mem_take (List.mem_of_mem_drop hw))) (by omega) (sz:Int)
 obtain⟨r,hr⟩:∃r,bytesF ((ws.take 4).drop 2) (sz:Int)=r:=⟨_,rfl⟩
 have hrl:=bytesF_len ((ws.take 4).drop 2) (sz:Int)
 rw[hr] at e3 dec hrl
 obtain⟨kv,h2,e4,x2,hkv,hkval,hkfr⟩:=bytes_K h1 v ws (hv.ext (x0.trans x1)) hlt (kd:Int) n hk hlz (by omega)
 obtain⟨bn,hbn⟩:∃bn,bytesN ws (kd:Int) n=bn:=⟨_,rfl⟩
 have hbl:=bytesN_len ws (kd:Int) n
 rw[hbn] at e4 hkv dec hbl
 rw[hvv] at e4
 have x12:=x1.trans x2
 have gZ2:=x12.get gZ
 have lZ2:=NHeap.get_lt gZ2
 have gA2:=x12.get gA'
 rw[if_neg (fun q=>q.elim c1 (fun q=>q.elim (fun q=>q c2) c3))] at dec
 by_cases c4:r.2≠0∨bn.2=false
 ·have hd:decN ws=({},false):=by rw[dec,if_pos c4]
  obtain⟨h',hh',xx,nn⟩:=bad hd h2 x12
  refine⟨_,_,h',?_,xx,nn,by simp[blk]⟩
  rw[hd,nodeV,k108 _ _ (by simp),hvv]
  by_cases c5:r.2=0
  ·have c5d:decide (r.2=0)=true:=decide_eq_true c5
   have c6:bn.2=false:=c4.resolve_left (fun q=>q c5)
   rw[c6] at e4
   simp only[bodyOf,Option.getD_some,go_sem,seval,Tryz.f108,hH0,c0',gZ,lZ,p1,gA',nA,cell1,an1,sh1,an2,sh2,an3,wk,ws',wn,eh,es,c1,c2d,c3,e2',e3,e4,c5d,gZ2,lZ2,hh']
   rw[←hh']
   simp only[go_sem,seval,lZ2]
   try rfl
  ·simp only[bodyOf,Option.getD_some,go_sem,seval,Tryz.f108,hH0,c0',gZ,lZ,p1,gA',nA,cell1,an1,sh1,an2,sh2,an3,wk,ws',wn,eh,es,c1,c2d,c3,e2',e3,e4,c5,gZ2,lZ2,hh']
   rw[←hh']
   simp only[go_sem,seval,lZ2]
   try rfl
 rw[if_neg c4] at dec
 have c5:r.2=0:=Classical.not_not.1 (fun q=>c4 (.inl q))
 have c5d:decide (r.2=0)=true:=decide_eq_true c5
 have c6:bn.2=true:=by
  cases hq:bn.2 with
  |true=>rfl
  |false=>exact absurd (.inr hq) c4
 rw[c6] at e4
 have hkl:=hbl c6
 have hout:outN ws=⟨(kd:Int),a0,r.1,bn.1,kidsOf (kd:Int) ws 0 bn.1⟩:=by rw[outN,hg1,hg0,hkd,hsz,hn,hr,hbn]
 obtain⟨kb0,kl0,kc0,kx0,hkvf⟩:∃kb kl kc kx,kv=.slice kb kl kc kx:=by obtain⟨bo,c,x,q⟩:=hkv.form;exact⟨_,_,_,_,q⟩
 have hkvf':kl0=bn.1.length:=by obtain⟨bo,c,x,q⟩:=hkv.form;rw[hkvf] at q;simp at q;exact q.2.1
 obtain⟨H3,hH3⟩:∃H3,(h2.alloc (.cells [.int .i64 0,.int .u64 0,.str [],.slice none 0 0 none,.slice none 0 0 none] nZ)).set h2.next (.cells [.int .i64 (kd:Int),.int .u64 (a0:Nat),.str r.1,kv,.slice none 0 0 none] nZ)=H3:=⟨_,rfl⟩
 have x3:Ext h2 H3:=by rw[←hH3];exact((Ext.refl _).alloc _).set (Nat.le_refl _) _
 have g3:H3.get h2.next=some (.cells [.int .i64 (kd:Int),.int .u64 (a0:Nat),.str r.1,kv,.slice none 0 0 none] nZ):=by rw[←hH3];exact NHeap.get_set_same (by simp)
 have h256:(n:Int)≤256:=Int.le_trans (Int.not_lt.1 c3) (by rcases hk with q|q|q|q<;>rw[q]<;>decide)
 rw[k108 _ _ (by simp),hvv]
 have hvv2:Rw h2 1 U (.slice (some (b,o)) ws.length vc vx) ws:=by rw[←hvv];exact hv.ext (x0.trans x12)
 subst hkvf
 subst hkvf'
 simp only[bodyOf,Option.getD_some,go_sem,seval,Tryz.f108,hH0,c0',gZ,lZ,p1,p0,gA',gA2,nA,cell1,cell0,an1,sh1,an2,sh2,an3,wk,ws',wn,eh,es,c1,c2d,c3,e2',e3,e4,c5d,hH3]
 change∃kv iv h',outF _ _ (thenD env (blockC 0 (C env (.loop lbND) _ _)) _)=_∧_
 refine loopND h2 (.slice (some (b,o)) ws.length vc vx) ws hvv2 (kd:Int) hk hlz _ bn.1 hkv (by omega) a0 r.1 h2.next (Nat.le_refl _) (some (110,5)) _ ?_ ?_ ?_ ?_ ?_ (fun r'=>∃kv iv h',outF _ _ (thenD env (blockC 0 r') _)=some (.tuple [.agg (nodeV (decN ws).1 kv iv),.bool (decN ws).2],h')∧Ext h h'∧NodeAt h' (decN ws).1 kv iv∧∀d∈blk kv++blk iv,h.next≤d∧d<h'.next) ?_ bn.1.length 0 H3 (.slice none 0 0 none) [] _ (by omega) (by simp) rfl x3 g3 (Grow.nil _ _) (by simp[blk]) (Keep.refl _ _) ?_
 ·simp only[go_sem,seval]
 ·simp only[go_sem,seval]
 ·simp only[go_sem,seval]
 ·simp only[go_sem,seval]
 ·simp only[go_sem,seval]
 ·intro h4 F iv x4 g4 gi gifr kp
  have k0:=kp 0 rfl
  have k2:=kp 2 rfl
  have k11:=kp 11 rfl
  simp only[go_sem,seval] at k0 k2 k11
  have xh4:=(x0.trans x12).trans x4
  have hnode:NodeAt h4 (outN ws) (.slice kb0 bn.1.length kc0 kx0) iv:=by
   rw[hout]
   refine⟨hkv.ext x4,?_,hkval.ext x4,hlt a0 (List.mem_of_getElem? ha0),by show r.1.length<_;omega,by show bn.1.length<_;omega,by show(kidsOf _ _ _ _).length<_;rw[kidsOf_len];omega⟩
   have:=gi.sl
   rw[←kidsOf_len (kd:Int) ws bn.1 0] at this
   exact this
  have hnv:nodeV (outN ws) (.slice kb0 bn.1.length kc0 kx0) iv=[.int .i64 (kd:Int),.int .u64 (a0:Nat),.str r.1,.slice kb0 bn.1.length kc0 kx0,iv]:=by rw[hout];rfl
  have gZ4:=x4.get gZ2
  have lZ4:=NHeap.get_lt gZ4
  obtain⟨ib,il,ic,ix,hivf⟩:∃ib il ic ix,iv=.slice ib il ic ix:=by obtain⟨bo,c,x,q⟩:=gi.sl.form;exact⟨_,_,_,_,q⟩
  cases hro:rightN (outN ws) with
  |false=>
   have henc:encW (outN ws)=[]:=by rw[encW,hro];rfl
   have hd:decN ws=({},false):=by rw[dec,henc,if_neg];intro q;rw[←q] at c0;simp at c0
   obtain⟨h5,e5,x5⟩:=Encode_bad h4 (outN ws) _ iv hnode hro
   have e6:=Equal_K h5 (.slice none 0 0 none) (.slice (some (b,o)) ws.length vc vx) [] ws (Sl.nil _ _) (hvv2.ext (x4.trans x5)) (by simp) (by omega)
   rw[decide_eq_false (show¬([]:List Nat)=ws from fun q=>by rw[←q] at c0;simp at c0)] at e6
   rw[hnv] at e5
   have gZ5:=x5.get gZ4
   have lZ5:=NHeap.get_lt gZ5
   obtain⟨h',hh',xx,nn⟩:=bad hd h5 ((x12.trans x4).trans x5)
   refine⟨_,_,h',?_,xx,nn,by simp[blk]⟩
   rw[hd,nodeV]
   rw[hivf] at g4 e5
   simp only[go_sem,seval,k0,k2,k11,g4,e5,e6,gZ5,lZ5,hh']
   rw[←hh']
   simp only[go_sem,seval,lZ5]
   try rfl
  |true=>
   obtain⟨wb,h5,e5,x5,hwb,gw⟩:=Encode_K h4 (outN ws) _ iv hnode hro
   have hR:=(right_iff _).1 hro
   have hel:=enc_len hR
   have se:Rw h5 1 U (.slice (some (wb,0)) (sizeN (outN ws).kind.toNat) (sizeN (outN ws).kind.toNat) none) (encW (outN ws)):=by
    rw[Rw,hel]
    exact Sl.whole gw (by rw[rlen,hel,Nat.mul_one]) (Nat.le_refl _) (.inl rfl)
   have hsz4:=(size4 (outN ws).kind hR.kind).2.2
   have e6:=Equal_K h5 _ (.slice (some (b,o)) ws.length vc vx) (encW (outN ws)) ws se (hvv2.ext (x4.trans x5)) (by omega) (by omega)
   rw[hnv] at e5
   have gZ5:=x5.get gZ4
   have lZ5:=NHeap.get_lt gZ5
   have g5:=x5.get g4
   by_cases c7:encW (outN ws)=ws
   ·have hd:decN ws=(outN ws,true):=by rw[dec,if_pos c7]
    rw[decide_eq_true c7] at e6
    obtain⟨h',hh'⟩:∃h',h5.set h.next (.cells [.int .i64 (kd:Int),.int .u64 (a0:Nat),.str r.1,.slice kb0 bn.1.length kc0 kx0,iv] nZ)=h':=⟨_,rfl⟩
    have xs:Ext h h':=by rw[←hh'];exact(xh4.trans x5).set (Nat.le_refl _) _
    have us:Upd [h.next] h5 h':=by rw[←hh'];exact(Upd.refl _ _).set (.inl (by simp)) _
    refine⟨.slice kb0 bn.1.length kc0 kx0,iv,h',?_,xs,?_,fun d hd'=>?_⟩
    rotate_left 2
    ·have hx1:=x1.next
     have hx2:=x12.next
     have hx0:=x0.next
     have hx4:=x4.next
     have hx5:=x5.next
     have hus:=us.next
     rcases List.mem_append.1 hd' with q|q
     ·have:=hkfr d q
      have hlt2:d<h2.next:=by
       cases kb0 with
       |none=>simp[blk] at q
       |some p0=>
        simp[blk] at q
        subst q
        obtain⟨all',m',g',_⟩:=hkval p0.1 p0.2 _ _ _ rfl
        exact NHeap.get_lt g'
      omega
     ·have:=gifr d q
      have:=gi.lt d q
      omega
    ·rw[hd,hnv]
     rw[hivf] at g4 e5 g5 hh'⊢
     simp only[go_sem,seval,k0,k2,k11,g4,e5,e6,g5,gZ5,lZ5,hh']
     rw[←hh']
     simp only[go_sem,seval,lZ5]
     try rfl
    ·rw[hd]
     have hn5:=hnode.ext x5
     have hx1:=x1.next
     have hx2:=x12.next
     have d1:∀d∈blk (.slice kb0 bn.1.length kc0 kx0),d∉[h.next]:=fun d hd'=>by
      have:=hkfr d hd'
      simp;omega
     have d2:∀d∈blk iv,d∉[h.next]:=fun d hd'=>by
      have:=gifr d hd'
      simp;omega
     refine⟨hn5.keys.upd us d1,hn5.kids.upd us d2,fun b' o' n' c' x' e=>?_,hn5.word,hn5.pre,hn5.kl,hn5.il⟩
     obtain⟨all',m',g',l'⟩:=hn5.val b' o' n' c' x' e
     exact⟨all',m',us.get g' (d1 b' (by rw[e];simp[blk])),l'⟩
   ·have hd:decN ws=({},false):=by rw[dec,if_neg c7]
    rw[decide_eq_false c7] at e6
    obtain⟨h',hh',xx,nn⟩:=bad hd h5 ((x12.trans x4).trans x5)
    refine⟨_,_,h',?_,xx,nn,by simp[blk]⟩
    rw[hd,nodeV]
    rw[hivf] at g4 e5
    simp only[go_sem,seval,k0,k2,k11,g4,e5,e6,gZ5,lZ5,hh']
    rw[←hh']
    simp only[go_sem,seval,lZ5]
    try rfl
 ·simp only[go_sem,seval];try rfl
end node
end Go.Proofs.YtkjpldganajkkaaGreatDoor.S
namespace Go.Proofs.YtkjpldganajkkaaGreatDoor.S
open Go Go.RowKit Go.Proofs.YtkjpldganajkkaaGreatDoor.NICE
namespace mir
open word node pack pool
structure OpS where
 kind:Int:=0
 term:List UInt8:=[]
 to:List UInt8:=[]
 value:Int:=0
structure Ans where
 err:Int:=0
 found:Bool:=false
 value:Int:=0
 list:List (List UInt8×Int):=[]
def posN (b:UInt8):List UInt8→Nat
 |[]=>0
 |k::ks=>if k<b then posN b ks+1 else 0
def insAt {α:Type} (l:List α) (i:Nat) (a:α):List α:=l.take i++a::l.drop i
def withN (n:Node) (b:UInt8) (kid:Int):Node×Bool:=
 if rightN n=false∨isRefB kid=false then({},false)
 else if n.keys[posN b n.keys]? =some b then({n with kids:=n.kids.set (posN b n.keys) kid},true)
 else if highI n.kind≤n.keys.length then({},false)
 else({n with keys:=insAt n.keys (posN b n.keys) b,kids:=insAt n.kids (posN b n.keys) kid},true)
def turnN (n:Node) (kind:Int):Node×Bool:=
 if rightN n=false∨highI kind=0∨highI kind<n.keys.length then({},false) else({kind:=kind,pre:=n.pre,keys:=n.keys,kids:=n.kids},true)
def encLeaf (k:List UInt8) (v:Int):List Nat:=if rightLeafF k v then leafW k v else[]
structure GetS where
 key:List UInt8
 rest:List UInt8:=[]
 root:Int
 want:Acc:={}
 next:Nat:=0
 ref:Int:=0
 placed:Bool:=false
 took:Bool:=false
 ans:Ans:={}
namespace GetS
def wants (g:GetS) (a:Acc) (nx:Nat):GetS:={g with want:=a,next:=nx}
def next_ (g:GetS):Acc×Bool:=if g.next=0 then({},false) else(g.want,true)
def answer (g:GetS):Ans×Bool:=if g.next=0 then(g.ans,true) else({},false)
end GetS
def newGet (t:List UInt8) (root:Int):GetS:={key:=t++[0],root:=root,want:={kind:=7},next:=1}
structure Row where
 n:Node
 path:List UInt8
 next:Nat:=0
structure ScanS where
 sought:List UInt8
 to:List UInt8
 most:Int
 root:Int
 want:Acc:={}
 next:Nat:=0
 path:List UInt8:=[]
 rows:List Row:=[]
 took:Bool:=false
 ans:Ans:={}
namespace ScanS
def wants (g:ScanS) (a:Acc) (nx:Nat):ScanS:={g with want:=a,next:=nx}
def next_ (g:ScanS):Acc×Bool:=if g.next=0 then({},false) else(g.want,true)
def answer (g:ScanS):Ans×Bool:=if g.next=0 then(g.ans,true) else({},false)
end ScanS
def newScan (o:OpS) (root:Int):ScanS:={sought:=o.term,to:=o.to,most:=o.value,root:=root,want:={kind:=7},next:=1}
structure Spot where
 ref:Int:=0
 n:Node:={}
 b:UInt8:=0
namespace Spot
end Spot
def innerA (n:Node):Acc:={kind:=4,cls:=n.kind,words:=encW {n with word:=0}}
def twoN (pre:List UInt8) (a:UInt8) (x:Int) (b:UInt8) (y:Int):Node:=(withN (withN {kind:=1,pre:=pre} a x).1 b y).1
inductive Mk where
 |leaf
 |low (n:Node)
 |part (n:Node) (i:Nat) (b:UInt8)
 |grow (n:Node)
 |meet (pre:List UInt8) (a:UInt8) (old:Int) (b:UInt8)
structure PutS where
 key:List UInt8
 rest:List UInt8:=[]
 value:Int
 root:Int
 tries:Int
 begun:Int:=0
 held:Bool:=false
 want:Acc:={}
 next:Nat:=0
 then_:Nat:=0
 p:Spot:={}
 n:Spot:={}
 makes:List Mk:=[]
 had:List Int:=[]
 retire:List Int:=[]
 placed:Bool:=false
 took:Bool:=false
 ans:Ans:={}
namespace PutS
def wants (p:PutS) (a:Acc) (nx:Nat):PutS:={p with want:=a,next:=nx}
def load (p:PutS) (ref:Int):PutS:=wants {p with n:={ref:=ref}} {kind:=1,ref:=ref} 5
def down (p:PutS):PutS:=load {p with rest:=p.key,p:={}} p.root
def attempt (p:PutS):PutS:=
 let p:={p with had:=[],makes:=[],retire:=[],ans:={}}
 if p.held then down p else if p.tries≤p.begun then wants p {kind:=14} 3 else wants p {kind:=13} 4
def anew (p:PutS):PutS:=attempt {p with begun:=p.begun+1}
def place (p:PutS):PutS:={p with took:=!p.placed,placed:=true}
def end_ (p:PutS):PutS:=if p.held then wants p {kind:=15} 6 else wants p {kind:=9} 7
def says (p:PutS) (a:Ans):PutS:=end_ {place p with ans:=a}
def full (p:PutS):PutS:=says p p.ans
def change(p:PutS) (n:Node):PutS:=wants p {kind:=2,ref:=p.n.ref,was:=p.n.n.word,words:=encW {n with word:=bareN p.n.n.word}} 10
def last (p:PutS):PutS:=change p (withN p.n.n p.n.b (p.had.getLast?.getD 0)).1
def makeN (p:PutS):Mk→Acc
 | .leaf=>{kind:=4,cls:=0,words:=encLeaf p.key p.value}
 | .low n=>innerA n
 | .part n i b=>innerA (twoN (n.pre.take i) (n.pre.getD i 0) (p.had.getD 1 0) b (p.had.getD 0 0))
 | .grow n=>innerA (withN (turnN n (n.kind+1)).1 p.n.b (p.had.getD 0 0)).1
 | .meet pre a old b=>innerA (twoN pre a old b (p.had.getD 0 0))
def next_ (p:PutS):Acc×Bool:=if p.next=0 then({},false) else(p.want,true)
def answer (p:PutS):Ans×Bool:=if p.next=0 then(p.ans,true) else({},false)
end PutS
def newPut (t:List UInt8) (v root tries:Int):PutS:={key:=t++[0],value:=v,root:=root,tries:=tries,want:={kind:=7},next:=1}
inductive MkD where
 |shrink (n:Node) (kind:Int)
 |merge (n:Node)
structure DropS where
 key:List UInt8
 rest:List UInt8:=[]
 root:Int
 tries:Int
 begun:Int:=0
 held:Bool:=false
 want:Acc:={}
 next:Nat:=0
 then_:Nat:=0
 p:Spot:={}
 n:Spot:={}
 x:Spot:={}
 leaf:Int:=0
 makes:List MkD:=[]
 had:List Int:=[]
 retire:List Int:=[]
 placed:Bool:=false
 took:Bool:=false
 ans:Ans:={}
namespace DropS
def wants (p:DropS) (a:Acc) (nx:Nat):DropS:={p with want:=a,next:=nx}
def merges (p:DropS):Bool:=!decide (p.x.n.kind=0)
def next_ (p:DropS):Acc×Bool:=if p.next=0 then({},false) else(p.want,true)
def answer (p:DropS):Ans×Bool:=if p.next=0 then(p.ans,true) else({},false)
end DropS
def newDrop (t:List UInt8) (root tries:Int):DropS:={key:=t++[0],root:=root,tries:=tries,want:={kind:=7},next:=1}
structure TickS where
 clients:Int
 want:Acc:={}
 next:Nat:=0
 epoch:Int:=0
 took:Bool:=false
namespace TickS
def wants (p:TickS) (a:Acc) (nx:Nat):TickS:={p with want:=a,next:=nx}
def next_ (p:TickS):Acc×Bool:=if p.next=0 then({},false) else(p.want,true)
def answer (p:TickS):Ans×Bool:=({},decide (p.next=0))
end TickS
def newTick (clients:Int):TickS:={clients:=clients,want:={kind:=7},next:=1}
inductive ProgS where
 |get (g:GetS)
 |scan (g:ScanS)
 |put (g:PutS)
 |drop (g:DropS)
 |tick (g:TickS)
namespace ProgS
def next_:ProgS→Acc×Bool
 | .get g=>g.next_
 | .scan g=>g.next_
 | .put g=>g.next_
 | .drop g=>g.next_
 | .tick g=>g.next_
def took:ProgS→Bool
 | .get g=>g.took
 | .scan g=>g.took
 | .put g=>g.took
 | .drop g=>g.took
 | .tick g=>g.took
def answer:ProgS→Ans×Bool
 | .get g=>g.answer
 | .scan g=>g.answer
 | .put g=>g.answer
 | .drop g=>g.answer
 | .tick g=>g.answer
end ProgS
def madeP (o:OpS) (root tries clients:Int):Option ProgS:=
 if o.kind=1∧made.rightT o.term=true∧o.to=[]∧o.value=0 then some (.get (newGet o.term root))
 else if o.kind=4∧1≤o.value∧o.value≤16∧(o.term.length:Int)≤13∧(o.to.length:Int)≤13 then some (.scan (newScan o root))
 else if o.kind=2∧made.rightT o.term=true∧o.to=[]∧0≤o.value∧o.value≤1099511627776∧1≤tries then some (.put (newPut o.term o.value root tries))
 else if o.kind=3∧made.rightT o.term=true∧o.to=[]∧o.value=0∧1≤tries then some (.drop (newDrop o.term root tries))
 else if o.kind=5∧o.term=[]∧o.to=[]∧o.value=0∧1≤clients∧clients≤8 then some (.tick (newTick clients))
 else none
structure EvS where
 kind:Int
 client:Int
 op:OpS
 ans:Ans:={}
structure DnS where
 client:Int
 begin_:Int
 op:OpS
 ans:Ans:={}
structure ClS where
 ops:List OpS:=[]
 begun:Nat:=0
 prog:Option ProgS:=none
 from_:Nat:=0
 done:Int:=0
structure TreeS where
 m:MemS
 limbo:Int
 tries:Int
 cls:List ClS
 events:List EvS:=[]
 dones:List DnS:=[]
 faults:Int:=0
namespace TreeS
end TreeS
def newMem (slots:List Nat) (clients limbo:Nat):MemS:=
 let r:=allocF (newArena slots) 4 (encW {kind:=4})
 ⟨r.2,newEpochs clients limbo,clients,r.1.1,-1⟩
def newTree (slots:List Nat) (clients limbo:Nat) (tries:Int) (ops:List (List OpS)):TreeS:=
 {m:=newMem slots clients limbo,limbo:=limbo,tries:=tries,cls:=(List.range clients).map fun i=>{ops:=ops.getD i []}}
end mir
end Go.Proofs.YtkjpldganajkkaaGreatDoor.S
namespace Go.Proofs.YtkjpldganajkkaaGreatDoor.S
open Go Go.RowKit Go.Proofs.YtkjpldganajkkaaGreatDoor.NICE
namespace pool
theorem inv_Less {h:NHeap} (a:Nat×Nat) (xs:List NVal) {u:NVal} (hu:nload Tryz.prog 203 a h=some u):invK Tryz.prog h "Less" (some (.iface 208 (.ptr (some a)))) (some xs)=some (353,u::xs):=invK_val (fun u xs=>by kernel_rfl) a xs hu
theorem inv_Swap {h:NHeap} (a:Nat×Nat) (xs:List NVal) {u:NVal} (hu:nload Tryz.prog 203 a h=some u):invK Tryz.prog h "Swap" (some (.iface 208 (.ptr (some a)))) (some xs)=some (354,u::xs):=invK_val (fun u xs=>by kernel_rfl) a xs hu
theorem inv_Len {h:NHeap} (a:Nat×Nat) (xs:List NVal) {u:NVal} (hu:nload Tryz.prog 203 a h=some u):invK Tryz.prog h "Len" (some (.iface 208 (.ptr (some a)))) (some xs)=some (352,u::xs):=invK_val (fun u xs=>by kernel_rfl) a xs hu
theorem inv_Push (h:NHeap) (v:NVal) (xs:List NVal):invK Tryz.prog h "Push" (some (.iface 208 v)) (some xs)=some (356,v::xs):=invK_ptr (fun v xs=>by kernel_rfl) v xs
theorem inv_Pop (h:NHeap) (v:NVal) (xs:List NVal):invK Tryz.prog h "Pop" (some (.iface 208 v)) (some xs)=some (355,v::xs):=invK_ptr (fun v xs=>by kernel_rfl) v xs
def Row (h:NHeap) (b:Nat) (q:Option (TypeId×Nat)) (all:List NVal) (l:List Int):Prop:=h.get b=some (.cells all (.own q))∧all.take l.length=i64s l∧l.length≤all.length
theorem Row.at {h b q all l} (r:Row h b q all l) {i:Nat} {v:Int} (hi:l[i]? =some v):all[i]? =some (.int .i64 v):=by
 have hl:=(List.getElem?_eq_some_iff.1 hi).1
 rw[←List.getElem?_take_of_lt hl,r.2.1,i64s_get,hi];rfl
theorem Less_K (h:NHeap) (b:Nat) (q) (all:List NVal) (l:List Int) (r:Row h b q all l) (c:Nat) (x) (i j:Nat) (u v:Int) (hi:l[i]? =some u) (hj:l[j]? =some v) (n:Nat) (hn:l.length≤n+1) (hin:i<n) (hjn:j<n):
  K env 353 [.slice (some (b,0)) n c x,.int .i64 i,.int .i64 j] h=some (.bool (decide (u<v)),h):=by
 have gi:=r.at hi
 have gj:=r.at hj
 have g:=r.1
 have i0:(0:Int)≤(i:Int):=by omega
 have i1:(i:Int)<(n:Int):=by omega
 have j0:(0:Int)≤(j:Int):=by omega
 have j1:(j:Int)<(n:Int):=by omega
 rw[k353 _ _ (by simp)]
 simp only[bodyOf,Option.getD_some,go_sem,seval,Tryz.f353,i0,i1,j0,j1,g,gi,gj]
theorem Swap_K (h:NHeap) (b:Nat) (q) (all:List NVal) (l:List Int) (r:Row h b q all l) (c:Nat) (x) (i j:Nat) (hi:i<l.length) (hj:j<l.length) (n:Nat) (hin:i<n) (hjn:j<n):
  ∃all' h',K env 354 [.slice (some (b,0)) n c x,.int .i64 i,.int .i64 j] h=some (.tuple [],h')∧Row h' b q all' (swapL l i j)∧all'.length=all.length∧Upd [b] h h'∧h'.next=h.next:=by
 have gi:=r.at (List.getElem?_eq_getElem hi)
 have gj:=r.at (List.getElem?_eq_getElem hj)
 have g:=r.1
 have lb:=NHeap.get_lt g
 have hl:=r.2.2
 have i0:(0:Int)≤(i:Int):=by omega
 have i1:(i:Int)<(n:Int):=by omega
 have j0:(0:Int)≤(j:Int):=by omega
 have j1:(j:Int)<(n:Int):=by omega
 have i2:i+1≤all.length:=by omega
 have j2:j+1≤all.length:=by omega
 have s1:=setRange_single all i (.int .i64 l[j]) (by omega)
 have s2:=setRange_single (all.set i (.int .i64 l[j])) j (.int .i64 l[i]) (by simp;omega)
 rw[k354 _ _ (by simp)]
 have hxi:(l.getD i 0)=l[i]:=by rw[List.getD_eq_getElem?_getD,List.getElem?_eq_getElem hi];rfl
 have hxj:(l.getD j 0)=l[j]:=by rw[List.getD_eq_getElem?_getD,List.getElem?_eq_getElem hj];rfl
 refine⟨(all.set i (.int .i64 l[j])).set j (.int .i64 l[i]),_,(by simp only[bodyOf,Option.getD_some,go_sem,seval,Tryz.f354,i0,i1,j0,j1,g,gi,gj,i2,j2,s1,s2,lb,List.length_set];exact rfl),⟨?_,?_,?_⟩,by simp,?_,?_⟩
 ·simp only[go_sem,seval,lb]
 ·rw[swapL_len]
  unfold swapL
  rw[hxi,hxj]
  apply List.ext_getElem?
  intro k
  have hr:=r.2.1
  rw[i64s_get]
  by_cases hk:k<l.length
  ·rw[List.getElem?_take_of_lt hk,List.getElem?_set,List.getElem?_set,List.getElem?_set,List.getElem?_set]
   simp only[List.length_set]
   by_cases h1:j=k
   ·subst h1
    rw[if_pos rfl,if_pos (by omega),if_pos rfl,if_pos hk];rfl
   ·rw[if_neg h1,if_neg h1]
    by_cases h2:i=k
    ·subst h2
     rw[if_pos rfl,if_pos (by omega),if_pos rfl,if_pos hk];rfl
    ·rw[if_neg h2,if_neg h2,List.getElem?_eq_getElem hk,r.at (List.getElem?_eq_getElem hk)];rfl
  ·rw[List.getElem?_eq_none (by simp;omega),List.getElem?_eq_none (by simp;omega)];rfl
 ·rw[swapL_len];simp;exact hl
 ·repeat(first|exact Upd.refl _ _|refine Upd.set ?_ (.inl (by simp)) _)
 ·rfl
def upL:Nat→List Int→Nat→List Int
 |0,l,_=>l
 |f+1,l,j=>if(j-1)/2=j∨¬l.getD j 0<l.getD ((j-1)/2) 0 then l else upL f (swapL l ((j-1)/2) j) ((j-1)/2)
theorem upL_len:∀f l j,(upL f l j).length=l.length
 |0,l,j=>rfl
 |f+1,l,j=>by
  unfold upL
  split
  ·rfl
  ·rw[upL_len,swapL_len]
noncomputable def lbUp:Code:=inC (inC (bodyOf Tryz.f157))
def Least (h:NHeap) (pb b:Nat) (q:Option (TypeId×Nat)) (all:List NVal) (l:List Int) (n c:Nat) (x:Option Nat) (w0 w2:NVal) (q0:Option (TypeId×Nat)):Prop:=
 Row h b q all l∧h.get pb=some (.cells [w0,.slice (some (b,0)) n c x,w2] (.own q0))∧pb≠b
theorem half (j:Nat) (hj:j<2^60) (t:TypeId):nbin Tryz.prog .quo t (.int .i64 ((j:Int)-1)) (.int .i64 2)=some (.int .i64 (((j-1)/2:Nat):Int)):=by
 rw[bin_quo _ _ _ _ (by decide)]
 have:((j:Int)-1).tdiv 2=(((j-1)/2:Nat):Int):=by
  cases j with
  |zero=>rfl
  |succ j=>rw[show((j+1:Nat):Int)-1=(j:Int) by omega,show j+1-1=j by omega];rfl
 rw[this,wrap_i64_small (by omega) (by omega)]
theorem loopUp (pb b:Nat) (q q0) (n c:Nat) (x) (w0 w2:NVal) (Q:Out→Prop) (hA:NHeap) (hn:n<2^50):
  ∀(f j:Nat) (l:List Int) (all:List NVal) (h:NHeap) (F:Fr),j<f→j<n→l.length=n→Least h pb b q all l n c x w0 w2 q0→Upd [b] hA h→h.next=hA.next→
   F 0=.iface 208 (.ptr (some (pb,1)))→F 1=.int .i64 j→
   (∀(h':NHeap) (F':Fr) (all':List NVal),Least h' pb b q all' (upL f l j) n c x w0 w2 q0→all'.length=all.length→Upd [b] hA h'→h'.next=hA.next→Q (some (.exit 0,toL 23 F',h')))→
   Q (C env (.loop lbUp) (toL 23 F) h):=by
 intro f
 induction f with
 |zero=>intro j l all h F hj;omega
 |succ f ih=>
  intro j l all h F hj hjn hl hL hU hN f0 f1 hQ
  obtain⟨hR,gp,hne⟩:=id hL
  have w1:IntKind.i64.wrap ((j:Int)-1)=(j:Int)-1:=wrap_i64_small (by omega) (by omega)
  have hq:=half j (by omega)
  obtain⟨i,hi⟩:∃i,(j-1)/2=i:=⟨_,rfl⟩
  rw[hi] at hq
  have il:i<l.length:=by omega
  have jl:j<l.length:=by omega
  have ldp:nload Tryz.prog 203 (pb,1) h=some (.slice (some (b,0)) n c x):=by simp only[go_sem,seval,gp]
  have iL:=fun xs=>inv_Less (pb,1) xs ldp
  have iS:=fun xs=>inv_Swap (pb,1) xs ldp
  have eLess:=Less_K h b q all l hR c x j i l[j] l[i] (List.getElem?_eq_getElem jl) (List.getElem?_eq_getElem il) n (by omega) hjn (by omega)
  have hxi:(l.getD i 0)=l[i]:=by rw[List.getD_eq_getElem?_getD,List.getElem?_eq_getElem il];rfl
  have hxj:(l.getD j 0)=l[j]:=by rw[List.getD_eq_getElem?_getD,List.getElem?_eq_getElem jl];rfl
  rw[S_loop]
  conv=>arg 1;arg 2;arg 2;simp only[lbUp,inC,bodyOf,Option.getD_some,Tryz.f157]
  by_cases e1:(i:Int)=(j:Int)
  ·have e1':i=j:=by omega
   simp only[go_sem,seval,f0,f1,w1,hq,e1]
   refine hQ h _ all ?_ rfl hU hN
   have:upL (f+1) l j=l:=by rw[upL,hi,if_pos (.inl e1')]
   rw[this]
   exact hL
  ·by_cases e2:l[j]<l[i]
   ·obtain⟨all',h',eS,r',la,u',n'⟩:=Swap_K h b q all l hR c x i j il jl n (by omega) hjn
    have e3:¬i=j:=by omega
    have eu:upL (f+1) l j=upL f (swapL l i j) i:=by
     rw[upL,hi,if_neg]
     rintro(q|q)
     ·exact e3 q
     ·rw[hxi,hxj] at q;exact q e2
    simp only[go_sem,seval,f0,f1,w1,hq,e1,iL,eLess,e2,iS,eS]
    refine ih i (swapL l i j) all' h' _ (by omega) (by omega) (by rw[swapL_len];exact hl) ⟨r',u'.get gp (by simpa using hne),hne⟩ (hU.trans u') (by rw[n',hN]) (by simp only[go_sem,seval,f0]) (by simp only[go_sem,seval]) ?_
    intro h2 F2 all2 hL2 hla hU2 hN2
    rw[←eu] at hL2
    exact hQ h2 F2 all2 hL2 (by rw[hla,la]) hU2 hN2
   ·simp only[go_sem,seval,f0,f1,w1,hq,e1,iL,eLess,e2]
    refine hQ h _ all ?_ rfl hU hN
    have:upL (f+1) l j=l:=by rw[upL,hi,if_pos (.inr (by rw[hxi,hxj];exact e2))]
    rw[this]
    exact hL
theorem up_K (pb b:Nat) (q q0) (n c:Nat) (x) (w0 w2:NVal) (h:NHeap) (hn:n<2^50) (j:Nat) (l:List Int) (all:List NVal) (hj:j<n) (hl:l.length=n) (hL:Least h pb b q all l n c x w0 w2 q0):
  ∃h' all',K env 157 [.iface 208 (.ptr (some (pb,1))),.int .i64 j] h=some (.tuple [],h')∧Least h' pb b q all' (upL (j+1) l j) n c x w0 w2 q0∧all'.length=all.length∧Upd [b] h h'∧h'.next=h.next:=by
 rw[k157 _ _ (by simp)]
 simp only[bodyOf,Option.getD_some,go_sem,seval,Tryz.f157]
 refine loopUp pb b q q0 n c x w0 w2 (fun r=>∃h' all',outF Tryz.prog [] (blockC 0 r)=some (.tuple [],h')∧Least h' pb b q all' (upL (j+1) l j) n c x w0 w2 q0∧all'.length=all.length∧Upd [b] h h'∧h'.next=h.next) h hn (j+1) j l all h _ (by omega) hj hl hL (Upd.refl _ _) rfl ?_ ?_ ?_
 ·simp only[go_sem,seval]
 ·simp only[go_sem,seval]
 ·intro h' F' all' a1 a2 a3 a4
  refine⟨h',all',?_,a1,a2,a3,a4⟩
  simp only[go_sem,seval]
abbrev IsHeap (l:List Int):Prop:=HeapTo l.length l
def HeapBut (l:List Int) (j:Nat):Prop:=(∀i,i<l.length→i≠j→l.getD ((i-1)/2) 0≤l.getD i 0)∧∀i,i<l.length→(i-1)/2=j→0<i→l.getD ((j-1)/2) 0≤l.getD i 0
theorem upL_perm:∀(f:Nat) (l:List Int) (j:Nat),j<l.length→(upL f l j).Perm l
 |0,l,j,_=>.refl _
 |f+1,l,j,hj=>by
  unfold upL
  split
  ·exact .refl _
  ·exact(upL_perm f _ _ (by rw[swapL_len];omega)).trans (swapL_perm l _ _ (by omega) hj)
theorem upL_heap:∀(f:Nat) (l:List Int) (j:Nat),j<f→j<l.length→HeapBut l j→IsHeap (upL f l j)
 |0,l,j,hf,_,_=>by omega
 |f+1,l,j,hf,hj,h=>by
  unfold upL
  split
  ·rename_i hc
   intro i hi
   by_cases hij:i=j
   ·subst hij
    rcases hc with hc|hc
    ·rw[hc];exact Int.le_refl _
    ·exact Int.not_lt.1 hc
   ·exact h.1 i hi hij
  ·rename_i hc
   have hc1:¬(j-1)/2=j:=fun q=>hc (.inl q)
   have hc2:l.getD j 0<l.getD ((j-1)/2) 0:=by
    by_cases q:l.getD j 0<l.getD ((j-1)/2) 0
    ·exact q
    ·exact absurd (.inr q) hc
   obtain⟨p,hp⟩:∃p,(j-1)/2=p:=⟨_,rfl⟩
   rw[hp] at hc1 hc2⊢
   have hpj:p<j:=by omega
   have hpl:p<l.length:=by omega
   refine upL_heap f _ p (by omega) (by rw[swapL_len];omega) ⟨fun i hi hip=>?_,fun i hi hpar h0=>?_⟩
   ·rw[swapL_len] at hi
    rw[swapL_get l p j _ hpl hj,swapL_get l p j _ hpl hj]
    by_cases h1:i=j
    ·subst h1
     rw[if_pos rfl,hp,if_neg (by omega),if_pos rfl]
     omega
    ·rw[if_neg h1,if_neg hip]
     by_cases h2:(i-1)/2=j
     ·rw[if_pos h2]
      by_cases h0:0<i
      ·have:=h.2 i hi h2 h0
       rw[hp] at this
       exact this
      ·have:i=0:=by omega
       subst this
       omega
     ·rw[if_neg h2]
      by_cases h3:(i-1)/2=p
      ·rw[if_pos h3]
       have:=h.1 i hi h1
       rw[h3] at this
       omega
      ·rw[if_neg h3]
       exact h.1 i hi h1
   ·rw[swapL_len] at hi
    rw[swapL_get l p j _ hpl hj,swapL_get l p j _ hpl hj]
    have hpp:(p-1)/2≠j:=by omega
    have h4:l.getD ((p-1)/2) 0≤l.getD p 0:=h.1 p hpl (by omega)
    rw[if_neg hpp]
    by_cases hpr:p=0
    ·subst hpr
     simp only[Nat.zero_sub,Nat.zero_div,if_true]
     by_cases h1:i=j
     ·subst h1;rw[if_pos rfl];omega
     ·rw[if_neg h1,if_neg (by omega)]
      have:=h.1 i hi h1
      rw[hpar] at this
      omega
    ·rw[if_neg (by omega)]
     by_cases h1:i=j
     ·subst h1;rw[if_pos rfl];exact h4
     ·rw[if_neg h1,if_neg (by omega)]
      have:=h.1 i hi h1
      rw[hpar] at this
      omega
def PoolRep (G:Gh) (c:Nat) (p:NVal) (most:Int) (l:List Int):Prop:=
 ∃pb lv mb q0 ks arr,p=.ptr (some (pb,0))∧G.h.get pb=some (.cells [.int .i64 most,lv,.map (some mb)] (.own q0))∧G.col pb=c∧Vec G c lv (i64s arr)∧pb∉blk lv∧
  G.h.get mb=some (.map (mp ks))∧G.col mb=c∧(∀n,n∈ks↔n∈l)∧ks.Nodup∧arr.Perm l∧Rise l∧IsHeap arr∧l.length<2^20
theorem PoolRep.step {c lo hi:Nat} {G G':Gh} (s:Stp lo hi G G') (hc:¬(lo≤c∧c<hi)) {p most l} (r:PoolRep G c p most l):PoolRep G' c p most l:=by
 obtain⟨pb,lv,mb,q0,ks,arr,h1,h2,h3,h4,h5,h6,h7,h8⟩:=r
 exact⟨pb,lv,mb,q0,ks,arr,h1,s.get h2 (by rw[h3];exact hc),by rw[s.col _ (NHeap.get_lt h2)];exact h3,h4.step s hc,h5,s.get h6 (by rw[h7];exact hc),by rw[s.col _ (NHeap.get_lt h6)];exact h7,h8⟩
theorem New_K (G:Gh) (c:Nat) (most:Int) (h0:0≤most) (h1:most≤65535):∃p G',K env 60 [.int .i64 most] G.h=some (.tuple [p,.int .i64 0],G'.h)∧Stp c (c+1) G G'∧PoolRep G' c p most []:=by
 have a0:¬most<0:=by omega
 have a1:¬65535<most:=by omega
 refine⟨_,⟨_,newCol G.h G.col fun _=>c⟩,(by
  rw[k60 _ _ (by simp)]
  simp only[bodyOf,Option.getD_some,go_sem,seval,Tryz.f60,a0,a1]
  exact rfl),Stp.of_ext _ _ (((Ext.refl _).alloc _).alloc _) _,?_⟩
 refine⟨G.h.next+1,.slice none 0 0 none,G.h.next,none,[],[],rfl,?_,?_,.inl ⟨rfl,rfl⟩,by simp[blk],?_,?_,by simp,.nil,.refl _,.nil,?_,by simp⟩
 ·simp only[go_sem,seval]
 ·show newCol G.h G.col (fun _=>c) _=c
  rw[newCol_new (by omega)]
 ·simp only[go_sem,seval]
  rfl
 ·show newCol G.h G.col (fun _=>c) _=c
  rw[newCol_new (by omega)]
 intro i hi
 simp at hi
theorem Has_K (G:Gh) (c:Nat) (p:NVal) (most:Int) (arr:List Int) (r:PoolRep G c p most arr) (n:Int):∃h',K env 119 [p,.int .i64 n] G.h=some (.bool (decide (n∈arr)),h')∧Ext G.h h':=by
 obtain⟨pb,lv,mb,q0,ks,_,rfl,gp,cp,hv,np,gm,cm,hks,_⟩:=r
 have hlk:∃z,nlookup Tryz.prog 202 (.map (some mb)) (.int .i64 n) true G.h=some (.tuple [.agg [],.bool (decide (n∈arr))])∧z=true:=by
  refine⟨true,?_,rfl⟩
  unfold nlookup
  rcases nkeyIn_mp n ks with⟨h1,h2⟩|⟨i,h1,h2⟩
  ·have:n∉arr:=fun q=>h1 ((hks n).2 q)
   simp only[go_sem,seval,keyTypeOk,gm,h2,this]
  ·have:n∈arr:=(hks n).1 (List.mem_of_getElem? h1)
   simp only[go_sem,seval,keyTypeOk,gm,h2,this]
 obtain⟨_,e,_⟩:=hlk
 have np':¬pb=G.h.next:=by have:=NHeap.get_lt gp;omega
 refine⟨_,(by
  rw[k119 _ _ (by simp)]
  simp only[bodyOf,Option.getD_some,go_sem,seval,Tryz.f119,gp,e,np']
  exact rfl),?_⟩
 repeat(first|exact Ext.refl _|apply Ext.alloc|refine Ext.set ?_ (by simp) _)
theorem Len_K (h:NHeap) (bo:Option (Nat×Nat)) (n c:Nat) (x):K env 352 [.slice bo n c x] h=some (.int .i64 n,h):=by
 rw[k352 _ _ (by simp)]
 simp only[bodyOf,Option.getD_some,go_sem,seval,Tryz.f352]
theorem lpush_K (G:Gh) (c pb mb:Nat) (w0 lv w2:NVal) (q0) (arr:List Int) (n:Int) (gp:G.h.get pb=some (.cells [w0,lv,w2] (.own q0))) (cp:G.col pb=c) (hv:Vec G c lv (i64s arr)) (np:pb∉blk lv) (hlen:arr.length<2^20):
  ∃G' b' cap' x' q' all',K env 356 [.ptr (some (pb,1)),.iface 3 (.int .i64 n)] G.h=some (.tuple [],G'.h)∧Stp c (c+1) G G'∧Upd (pb::blk lv) G.h G'.h∧G'.h.get pb=some (.cells [w0,.slice (some (b',0)) (arr.length+1) cap' x',w2] (.own q0))∧
   (x'=none∨x'=some 1)∧G'.h.get b'=some (.cells all' (.own q'))∧G'.col b'=c∧arr.length+1≤cap'∧cap'≤all'.length∧all'.take (arr.length+1)=i64s (arr++[n])∧pb≠b'∧G'.col pb=c∧(b'∈blk lv∨G.h.next≤b'):=by
 have lp:=NHeap.get_lt gp
 have np':¬pb=G.h.next:=by omega
 obtain⟨H,hHd⟩:∃H,(G.h.alloc .dead).set G.h.next (.cells [.int .i64 n] (.own none))=H:=⟨_,rfl⟩
 have UH:Upd [] G.h H:=by rw[←hHd];exact((Upd.refl _ _).alloc _).set (.inr (Nat.le_refl _)) _
 have hHn:H.next=G.h.next+1:=by rw[←hHd];rfl
 have gH:H.get G.h.next=some (.cells [.int .i64 n] (.own none)):=by rw[←hHd];exact NHeap.get_set_same (by simp)
 have gpH:=UH.get gp (by simp)
 have hal:(i64s arr).length=arr.length:=i64s_len arr
 have hve:=hv.veq
 obtain⟨v',h',e,hn,U,hbl,hvec⟩:=Vec.push (P:=Tryz.prog) (a:=.int .i64 n) Tryz.underlying203 sz3 by3 ze3 rfl hv (h:=G.h) UH (nb:=G.h.next) (o:=0) (cc:=1) (y:=none) gH rfl rfl (i64s_one arr) (by omega) (by omega)
 have hvv:=hvec (fun _=>c) (fun _ _=>rfl)
 have gp':=U.get gpH np
 have lp':=NHeap.get_lt gp'
 rcases id hvv with⟨_,q⟩|⟨b',cap',x',q',all',rfl,hx',g1,g2,g3,g4,g5,g6⟩
 ·simp at q
 have hl1:(i64s arr++[NVal.int .i64 n]).length=arr.length+1:=by simp[hal]
 rw[hl1] at e g3 g5
 have hne:pb≠b':=by
  rintro rfl
  rcases hbl pb (by simp[blk]) with q|q
  ·exact np q
  ·omega
 have hnx:G.h.next+1≤h'.next:=by omega
 refine⟨⟨h'.set pb (.cells [w0,.slice (some (b',0)) (arr.length+1) cap' x',w2] (.own q0)),newCol G.h G.col fun _=>c⟩,b',cap',x',q',all',?_,?_,?_,?_,hx',?_,g2,g3,g4,?_,hne,?_,(hbl b' (by simp[blk])).imp id (fun q=>by omega)⟩
 ·rw[k356 _ _ (by simp)]
  simp only[bodyOf,Option.getD_some,go_sem,seval,Tryz.f356,gp,np',hHd,nassert,nassert',e,hHn,hnx,gp',lp',hve]
  done
 ·refine Stp.of_upd (fp:=pb::blk lv) ?_ ?_ _
  ·exact(((UH.mono (by simp)).trans (U.mono (by simp;intro b hb;exact .inl (.inr hb)))).set (.inl (by simp)) _)
  ·intro b hb _
   rw[List.mem_cons] at hb
   rcases hb with rfl|hb
   ·rw[cp];omega
   ·rw[(hv.blk b hb).2];omega
 ·exact(((UH.mono (by simp)).trans (U.mono (by simp;intro b hb;exact .inl (.inr hb)))).set (.inl (by simp)) _)
 ·exact NHeap.get_set_same lp'
 ·show NHeap.get (NHeap.set _ _ _) _=_
  rw[NHeap.get_set_ne (Ne.symm hne)];exact g1
 ·rw[g5,i64s_append];rfl
 ·show newCol G.h G.col (fun _=>c) pb=c
  rw[newCol_old lp];exact cp
theorem push_K (G:Gh) (c pb mb:Nat) (w0 lv w2:NVal) (q0) (arr:List Int) (n:Int) (gp:G.h.get pb=some (.cells [w0,lv,w2] (.own q0))) (cp:G.col pb=c) (hv:Vec G c lv (i64s arr)) (np:pb∉blk lv) (hlen:arr.length<2^20):
  ∃G' lv',K env 120 [.iface 208 (.ptr (some (pb,1))),.iface 3 (.int .i64 n)] G.h=some (.tuple [],G'.h)∧Stp c (c+1) G G'∧Upd (pb::blk lv) G.h G'.h∧G'.h.get pb=some (.cells [w0,lv',w2] (.own q0))∧
   Vec G' c lv' (i64s (upL (arr.length+1) (arr++[n]) arr.length))∧pb∉blk lv'∧G'.col pb=c:=by
 obtain⟨G1,b',cap',x',q',all',e1,s1,u1,gp1,hx',g1,c1,hc1,hc2,ht,hne,cp1,hb'⟩:=lpush_K G c pb mb w0 lv w2 q0 arr n gp cp hv np hlen
 have ldp:nload Tryz.prog 203 (pb,1) G1.h=some (.slice (some (b',0)) (arr.length+1) cap' x'):=by simp only[go_sem,seval,gp1]
 have iL:=fun xs=>inv_Len (pb,1) xs ldp
 have iP:=inv_Push G.h (.ptr (some (pb,1)))
 have hl:(arr++[n]).length=arr.length+1:=by simp
 obtain⟨h2,all2,e2,⟨r2,gp2,_⟩,la2,u2,n2⟩:=up_K pb b' q' q0 (arr.length+1) cap' x' w0 w2 G1.h (by omega) arr.length (arr++[n]) all' (by omega) hl ⟨⟨g1,by rw[hl];exact ht,by omega⟩,gp1,hne⟩
 have w1:IntKind.i64.wrap (((arr.length+1:Nat):Int)-1)=(arr.length:Int):=by rw[wrap_i64_small (by omega) (by omega)];omega
 have hul:(upL (arr.length+1) (arr++[n]) arr.length).length=arr.length+1:=by rw[upL_len,hl]
 have s2:Stp c (c+1) G1 ⟨h2,newCol G1.h G1.col fun _=>c⟩:=Stp.of_upd u2 (by rintro b hb _;simp at hb;subst hb;show c≤G1.col _∧_;rw[c1];omega) _
 refine⟨⟨h2,newCol G1.h G1.col fun _=>c⟩,.slice (some (b',0)) (arr.length+1) cap' x',?_,s1.trans s2,?_,gp2,.inr ⟨b',cap',x',q',all2,?_,hx',r2.1,?_,?_,by omega,?_,by omega⟩,by simpa[blk] using hne,?_⟩
 ·rw[k120 _ _ (by simp)]
  simp only[bodyOf,Option.getD_some,go_sem,seval,Tryz.f120,iP,e1,iL,Len_K,w1,e2]
 ·exact u1.trans' u2 (by
   intro b hb
   simp at hb;subst hb
   rcases hb' with h|h
   ·exact .inl (by simp[h])
   ·exact .inr h)
 ·rw[i64s_len,hul]
 ·show newCol G1.h G1.col (fun _=>c) b'=c
  rw[newCol_old (NHeap.get_lt g1)];exact c1
 ·rw[i64s_len,hul];exact hc1
 ·rw[i64s_len];exact r2.2.1
 ·show newCol G1.h G1.col (fun _=>c) pb=c
  rw[newCol_old (NHeap.get_lt gp1)];exact cp1
def putL (arr:List Int) (n:Int):List Int:=upL (arr.length+1) (arr++[n]) arr.length
theorem putL_perm (arr:List Int) (n:Int):(putL arr n).Perm (arr++[n]):=upL_perm _ _ _ (by simp)
theorem putL_heap (arr:List Int) (n:Int) (h:IsHeap arr):IsHeap (putL arr n):=by
 refine upL_heap _ _ _ (by omega) (by simp) ⟨fun i hi hne=>?_,fun i hi hp h0=>?_⟩
 ·have hi':i<arr.length:=by simp at hi;omega
  have g:∀k,k<arr.length→(arr++[n]).getD k 0=arr.getD k 0:=fun k hk=>by
   rw[List.getD_eq_getElem?_getD,List.getD_eq_getElem?_getD,List.getElem?_append_left hk]
  rw[g _ (by omega),g _ hi']
  exact h i hi'
 ·simp at hi;omega
theorem Put_K (G:Gh) (c:Nat) (p:NVal) (most:Int) (l:List Int) (r:PoolRep G c p most l) (n:Int) (h0:0≤n) (h1:n<most) (hn:n∉l) (hlen:l.length+1<2^20):
  ∃G',K env 61 [p,.int .i64 n] G.h=some (.bool true,G'.h)∧Stp c (c+1) G G'∧PoolRep G' c p most (ins n l):=by
 obtain⟨h1',e1,x1⟩:=Has_K G c p most l r n
 obtain⟨pb,lv,mb,q0,ks,arr,rfl,gp,cp,hv,np,gm,cm,hks,hkn,hap,hrl,hheap,_⟩:=r
 have hal:=hap.length_eq
 have a0:¬n<0:=by omega
 have a1:¬most≤n:=by omega
 have gp1:=x1.get gp
 have gm1:=x1.get gm
 have lm:=NHeap.get_lt gm
 have lp:=NHeap.get_lt gp
 have lm1:=NHeap.get_lt gm1
 have hmp:pb≠mb:=by rintro rfl;rw[gp] at gm;cases gm
 have mlv:=hv.ne_map gm
 have hup:nmapUpdate Tryz.prog 202 (.map (some mb)) (.int .i64 n) (.agg []) h1'=some (h1'.set mb (.map (mp (ks++[n])))):=by
  unfold nmapUpdate nmapSet
  rcases nkeyIn_mp n ks with⟨q1,q2⟩|⟨i,q1,q2⟩
  ·simp only[go_sem,seval,keyTypeOk,gm1,q2,mp_append]
   rfl
  ·exact absurd ((hks n).1 (List.mem_of_getElem? q1)) hn
 obtain⟨H,hHd⟩:∃H,h1'.set mb (.map (mp (ks++[n])))=H:=⟨_,rfl⟩
 rw[hHd] at hup
 have UH:Upd [mb] G.h H:=by rw[←hHd];exact((Upd.of_ext x1).mono (by simp)).set (.inl (by simp)) _
 have s1:Stp c (c+1) G ⟨H,newCol G.h G.col fun _=>c⟩:=Stp.of_upd UH (by rintro b hb _;simp at hb;subst hb;show c≤G.col _∧_;rw[cm];omega) _
 have gpH:=UH.get gp (by simpa using hmp)
 have gmH:H.get mb=some (.map (mp (ks++[n]))):=by rw[←hHd];exact NHeap.get_set_same lm1
 have hvH:=hv.upd UH (fun b hb=>by rw[List.mem_singleton];rintro rfl;exact mlv hb) (fun _=>c)
 have cpH:newCol G.h G.col (fun _=>c) pb=c:=by rw[newCol_old lp];exact cp
 obtain⟨G2,lv',e2,s2,u2,gp2,hv2,np2,cp2⟩:=push_K ⟨H,newCol G.h G.col fun _=>c⟩ c pb mb (.int .i64 most) lv (.map (some mb)) q0 arr n gpH cpH hvH np (by omega)
 have gm2:=u2.get gmH (by simpa using⟨Ne.symm hmp,mlv⟩)
 refine⟨G2,?_,s1.trans s2,pb,lv',mb,q0,ks++[n],putL arr n,rfl,gp2,cp2,hv2,np2,gm2,?_,?_,?_,?_,ins_rise n l hrl hn,putL_heap arr n hheap,by rw[ins_len];omega⟩
 ·rw[k61 _ _ (by simp)]
  simp only[bodyOf,Option.getD_some,go_sem,seval,Tryz.f61,gp,a0,a1,e1,hn,gp1,hup,gpH,e2]
 ·rw[s2.col mb (NHeap.get_lt gmH)]
  show newCol G.h G.col (fun _=>c) mb=c
  rw[newCol_old lm];exact cm
 ·intro m
  rw[ins_mem,List.mem_append,List.mem_singleton,hks,or_comm]
 ·rw[List.nodup_append]
  refine⟨hkn,by simp,?_⟩
  intro a ha b hb
  simp at hb
  subst hb
  rintro rfl
  exact hn ((hks a).1 ha)
 ·exact(putL_perm arr n).trans (List.perm_append_comm.trans ((hap.cons n).trans (ins_perm n l).symm))
noncomputable def lbDown:Code:=inC (inC (atC (bodyOf Tryz.f159) 2))
theorem loopDown (pb b:Nat) (q q0) (N n c:Nat) (x) (w0 w2:NVal) (Q:Out→Prop) (hA:NHeap) (hN:N<2^50) (hnN:n≤N):
  ∀(f j:Nat) (l:List Int) (all:List NVal) (h:NHeap) (F:Fr),n≤f+j→j≤N→l.length=N→Least h pb b q all l N c x w0 w2 q0→Upd [b] hA h→h.next=hA.next→
   F 0=.iface 208 (.ptr (some (pb,1)))→F 2=.int .i64 n→F 7=.int .i64 j→
   (∀(h':NHeap) (F':Fr) (all':List NVal) (j':Nat),Least h' pb b q all' (downL f l j n) N c x w0 w2 q0→all'.length=all.length→Upd [b] hA h'→h'.next=hA.next→F' 1=F 1→F' 7=.int .i64 j'→Q (some (.exit 0,toL 48 F',h')))→
   Q (C env (.loop lbDown) (toL 48 F) h):=by
 intro f
 induction f with
 |zero=>
  intro j l all h F hj hjN hl hL hU hNx f0 f2 f7 hQ
  have w1:IntKind.i64.wrap (2*(j:Int))=2*(j:Int):=wrap_i64_small (by omega) (by omega)
  have w2:IntKind.i64.wrap (2*(j:Int)+1)=2*(j:Int)+1:=wrap_i64_small (by omega) (by omega)
  have ge:(n:Int)≤2*(j:Int)+1:=by omega
  rw[S_loop]
  conv=>arg 1;arg 2;arg 2;simp only[lbDown,bodyOf,Option.getD_some,atC,seqL,inC,elC,List.nil_append,List.cons_append,List.getElem?_cons_succ,List.getElem?_cons_zero,Tryz.f159]
  simp only[go_sem,seval,f0,f2,f7,w1,w2,ge]
  exact hQ h _ all j hL rfl hU hNx (by simp only[go_sem,seval]) (by simp only[go_sem,seval,f7])
 |succ f ih=>
  intro j l all h F hj hjN hl hL hU hNx f0 f2 f7 hQ
  obtain⟨hR,gp,hne⟩:=id hL
  have w1:IntKind.i64.wrap (2*(j:Int))=2*(j:Int):=wrap_i64_small (by omega) (by omega)
  obtain⟨k1,hk1⟩:∃k1,2*j+1=k1:=⟨_,rfl⟩
  obtain⟨k2,hk2⟩:∃k2,2*j+2=k2:=⟨_,rfl⟩
  have w2:IntKind.i64.wrap (2*(j:Int)+1)=(k1:Int):=by rw[wrap_i64_small (by omega) (by omega)];omega
  have w3:IntKind.i64.wrap ((k1:Int)+1)=(k2:Int):=by rw[wrap_i64_small (by omega) (by omega)];omega
  have ldp:nload Tryz.prog 203 (pb,1) h=some (.slice (some (b,0)) N c x):=by simp only[go_sem,seval,gp]
  have iL:=fun xs=>inv_Less (pb,1) xs ldp
  have iS:=fun xs=>inv_Swap (pb,1) xs ldp
  rw[S_loop]
  conv=>arg 1;arg 2;arg 2;simp only[lbDown,bodyOf,Option.getD_some,atC,seqL,inC,elC,List.nil_append,List.cons_append,List.getElem?_cons_succ,List.getElem?_cons_zero,Tryz.f159]
  by_cases e1:n≤k1
  ·have ge:(n:Int)≤(k1:Int):=by omega
   simp only[go_sem,seval,f0,f2,f7,w1,w2,ge]
   refine hQ h _ all j ?_ rfl hU hNx (by simp only[go_sem,seval]) (by simp only[go_sem,seval,f7])
   rw[downL,if_pos (by omega)];exact hL
  have ge:¬(n:Int)≤(k1:Int):=by omega
  have nn:¬(k1:Int)<0:=by omega
  have l1:k1<l.length:=by omega
  have lj:j<l.length:=by omega
  have hd1:l.getD (2*j+1) 0=l[k1]:=by rw[hk1,List.getD_eq_getElem?_getD,List.getElem?_eq_getElem l1];rfl
  have hdj:l.getD j 0=l[j]:=by rw[List.getD_eq_getElem?_getD,List.getElem?_eq_getElem lj];rfl
  have fin:∀(k:Nat) (F1:Fr),kidL l j n=k→F1 0=F 0→F1 1=F 1→F1 2=F 2→F1 7=F 7→F1 9=.int .i64 k→k<n→j<k→True:=fun _ _ _ _ _ _ _ _ _ _=>trivial
  by_cases e2:k2<n
  ·have c2:(k2:Int)<(n:Int):=by omega
   have l2:k2<l.length:=by omega
   have hd2:l.getD (2*j+2) 0=l[k2]:=by rw[hk2,List.getD_eq_getElem?_getD,List.getElem?_eq_getElem l2];rfl
   have eA:=Less_K h b q all l hR c x k2 k1 l[k2] l[k1] (List.getElem?_eq_getElem l2) (List.getElem?_eq_getElem l1) N (by omega) (by omega) (by omega)
   by_cases e3:l[k2]<l[k1]
   ·have hk:kidL l j n=k2:=by rw[kidL,if_pos ⟨by omega,by rw[hd1,hd2];exact e3⟩,hk2]
    have eB:=Less_K h b q all l hR c x k2 j l[k2] l[j] (List.getElem?_eq_getElem l2) (List.getElem?_eq_getElem lj) N (by omega) (by omega) (by omega)
    have hdk:l.getD k2 0=l[k2]:=by rw[List.getD_eq_getElem?_getD,List.getElem?_eq_getElem l2];rfl
    by_cases e4:l[k2]<l[j]
    ·obtain⟨all',h',eS,r',la,u',n'⟩:=Swap_K h b q all l hR c x j k2 lj l2 N (by omega) (by omega)
     simp only[go_sem,seval,f0,f2,f7,w1,w2,ge,nn,w3,c2,iL,eA,e3,eB,e4,iS,eS]
     refine ih k2 (swapL l j k2) all' h' _ (by omega) (by omega) (by rw[swapL_len];exact hl) ⟨r',u'.get gp (by simpa using hne),hne⟩ (hU.trans u') (by rw[n',hNx]) (by simp only[go_sem,seval,f0]) (by simp only[go_sem,seval,f2]) (by simp only[go_sem,seval]) ?_
     intro h2 F2 all2 j2 hL2 hla hU2 hN2 g1 g7
     refine hQ h2 F2 all2 j2 ?_ (by rw[hla,la]) hU2 hN2 (by rw[g1];simp only[go_sem,seval]) g7
     rw[downL,if_neg (by omega),hk,if_pos (by rw[hdk,hdj];exact e4)];exact hL2
    ·simp only[go_sem,seval,f0,f2,f7,w1,w2,ge,nn,w3,c2,iL,eA,e3,eB,e4]
     refine hQ h _ all j ?_ rfl hU hNx (by simp only[go_sem,seval]) (by simp only[go_sem,seval,f7])
     rw[downL,if_neg (by omega),hk,if_neg (by rw[hdk,hdj];exact e4)];exact hL
   ·have hk:kidL l j n=k1:=by rw[kidL,if_neg (by rw[hd1,hd2];exact fun q=>e3 q.2),hk1]
    have eB:=Less_K h b q all l hR c x k1 j l[k1] l[j] (List.getElem?_eq_getElem l1) (List.getElem?_eq_getElem lj) N (by omega) (by omega) (by omega)
    have hdk:l.getD k1 0=l[k1]:=by rw[List.getD_eq_getElem?_getD,List.getElem?_eq_getElem l1];rfl
    by_cases e4:l[k1]<l[j]
    ·obtain⟨all',h',eS,r',la,u',n'⟩:=Swap_K h b q all l hR c x j k1 lj l1 N (by omega) (by omega)
     simp only[go_sem,seval,f0,f2,f7,w1,w2,ge,nn,w3,c2,iL,eA,e3,eB,e4,iS,eS]
     refine ih k1 (swapL l j k1) all' h' _ (by omega) (by omega) (by rw[swapL_len];exact hl) ⟨r',u'.get gp (by simpa using hne),hne⟩ (hU.trans u') (by rw[n',hNx]) (by simp only[go_sem,seval,f0]) (by simp only[go_sem,seval,f2]) (by simp only[go_sem,seval]) ?_
     intro h2 F2 all2 j2 hL2 hla hU2 hN2 g1 g7
     refine hQ h2 F2 all2 j2 ?_ (by rw[hla,la]) hU2 hN2 (by rw[g1];simp only[go_sem,seval]) g7
     rw[downL,if_neg (by omega),hk,if_pos (by rw[hdk,hdj];exact e4)];exact hL2
    ·simp only[go_sem,seval,f0,f2,f7,w1,w2,ge,nn,w3,c2,iL,eA,e3,eB,e4]
     refine hQ h _ all j ?_ rfl hU hNx (by simp only[go_sem,seval]) (by simp only[go_sem,seval,f7])
     rw[downL,if_neg (by omega),hk,if_neg (by rw[hdk,hdj];exact e4)];exact hL
  ·have c2:¬(k2:Int)<(n:Int):=by omega
   have hk:kidL l j n=k1:=by rw[kidL,if_neg (by omega),hk1]
   have eB:=Less_K h b q all l hR c x k1 j l[k1] l[j] (List.getElem?_eq_getElem l1) (List.getElem?_eq_getElem lj) N (by omega) (by omega) (by omega)
   have hdk:l.getD k1 0=l[k1]:=by rw[List.getD_eq_getElem?_getD,List.getElem?_eq_getElem l1];rfl
   by_cases e4:l[k1]<l[j]
   ·obtain⟨all',h',eS,r',la,u',n'⟩:=Swap_K h b q all l hR c x j k1 lj l1 N (by omega) (by omega)
    simp only[go_sem,seval,f0,f2,f7,w1,w2,ge,nn,w3,c2,iL,eB,e4,iS,eS]
    refine ih k1 (swapL l j k1) all' h' _ (by omega) (by omega) (by rw[swapL_len];exact hl) ⟨r',u'.get gp (by simpa using hne),hne⟩ (hU.trans u') (by rw[n',hNx]) (by simp only[go_sem,seval,f0]) (by simp only[go_sem,seval,f2]) (by simp only[go_sem,seval]) ?_
    intro h2 F2 all2 j2 hL2 hla hU2 hN2 g1 g7
    refine hQ h2 F2 all2 j2 ?_ (by rw[hla,la]) hU2 hN2 (by rw[g1];simp only[go_sem,seval]) g7
    rw[downL,if_neg (by omega),hk,if_pos (by rw[hdk,hdj];exact e4)];exact hL2
   ·simp only[go_sem,seval,f0,f2,f7,w1,w2,ge,nn,w3,c2,iL,eB,e4]
    refine hQ h _ all j ?_ rfl hU hNx (by simp only[go_sem,seval]) (by simp only[go_sem,seval,f7])
    rw[downL,if_neg (by omega),hk,if_neg (by rw[hdk,hdj];exact e4)];exact hL
theorem down_K (pb b:Nat) (q q0) (N n c:Nat) (x) (w0 w2:NVal) (h:NHeap) (hN:N<2^50) (hn:n≤N) (l:List Int) (all:List NVal) (hl:l.length=N) (hL:Least h pb b q all l N c x w0 w2 q0):
  ∃r h' all',K env 159 [.iface 208 (.ptr (some (pb,1))),.int .i64 0,.int .i64 n] h=some (.bool r,h')∧Least h' pb b q all' (downL (N+1) l 0 n) N c x w0 w2 q0∧all'.length=all.length∧Upd [b] h h'∧h'.next=h.next:=by
 rw[k159 _ _ (by simp)]
 have key:=fun rest=>loopDown pb b q q0 N n c x w0 w2 (fun r=>∃b' h' all',outF Tryz.prog [.tmp 6] (thenD env (blockC 0 r) rest)=some (.bool b',h')∧Least h' pb b q all' (downL (N+1) l 0 n) N c x w0 w2 q0∧all'.length=all.length∧Upd [b] h h'∧h'.next=h.next) h hN hn (N+1) 0 l all h
 simp only[lbDown,bodyOf,Option.getD_some,atC,seqL,inC,elC,List.nil_append,List.cons_append,List.getElem?_cons_succ,List.getElem?_cons_zero,Tryz.f159] at key
 simp only[bodyOf,Option.getD_some,go_sem,seval,Tryz.f159]
 refine key _ _ (by omega) (by omega) hl hL (Upd.refl _ _) trivial ?_ ?_ ?_ ?_
 ·simp only[go_sem,seval]
 ·simp only[go_sem,seval]
 ·simp only[go_sem,seval];try rfl
 ·intro h' F' all' j' a1 a2 a3 a4 f1 f7
  have f1':F' 1=.int .i64 0:=by rw[f1];simp only[go_sem,seval]
  by_cases e:(0:Int)<(j':Int)
  ·refine⟨true,h',all',?_,a1,a2,a3,a4⟩
   simp only[go_sem,seval,f1',f7,e]
  ·refine⟨false,h',all',?_,a1,a2,a3,a4⟩
   simp only[go_sem,seval,f1',f7,e]
theorem lpop_K (pb b:Nat) (q q0) (n cap:Nat) (x) (hx:x=none∨x=some 1) (w0 w2:NVal) (h:NHeap) (hN:n<2^50) (v:Int) (l:List Int) (all:List NVal) (hl:l.length=n+1) (hv:l.getD n 0=v) (hc:n+1≤cap) (hL:Least h pb b q all l (n+1) cap x w0 w2 q0):
  ∃h',K env 355 [.ptr (some (pb,1))] h=some (.iface 3 (.int .i64 v),h')∧Upd [pb] h h'∧h'.next=h.next∧h'.get pb=some (.cells [w0,.slice (some (b,0)) n cap x,w2] (.own q0)):=by
 obtain⟨hR,gp,hne⟩:=hL
 have lp:=NHeap.get_lt gp
 have w1:IntKind.i64.wrap (((n+1:Nat):Int)-1)=(n:Int):=by rw[wrap_i64_small (by omega) (by omega)];omega
 have w1':IntKind.i64.wrap ((n:Int)+1-1)=(n:Int):=by rw[wrap_i64_small (by omega) (by omega)];omega
 have gv:=hR.at (i:=n) (v:=v) (by rw[List.getD_eq_getElem?_getD,List.getElem?_eq_getElem (by omega)] at hv;rw[List.getElem?_eq_getElem (by omega)];exact congrArg some hv)
 have g:=hR.1
 have i0:(0:Int)≤(n:Int):=by omega
 have i1:(n:Int)<((n+1:Nat):Int):=by omega
 have i1':(n:Int)<(n:Int)+1:=by omega
 have es:nslice Tryz.prog 203 (.slice (some (b,0)) (n+1) cap x) none (some (.int .i64 (n:Int)))=some (.slice (some (b,0)) n cap x):=by
  simp only[nslice,nbound,Tryz.underlying203,sz3,Int.toNat_natCast]
  rcases hx with rfl|rfl
  ·rw[if_pos (by omega)]
   simp only[Nat.zero_mul,Nat.add_zero,ite_self,Nat.sub_zero]
  ·rw[if_pos (by omega)]
   simp only[if_true,show max cap (n+1)=cap by omega,Nat.zero_mul,Nat.add_zero,Nat.sub_zero]
   rw[if_pos (by omega)]
 refine⟨h.set pb (.cells [w0,.slice (some (b,0)) n cap x,w2] (.own q0)),?_,(Upd.refl _ _).set (.inl (by simp)) _,rfl,NHeap.get_set_same lp⟩
 rw[k355 _ _ (by simp)]
 simp only[bodyOf,Option.getD_some,go_sem,seval,Tryz.f355,gp,w1,w1',i0,i1,i1',g,gv,es,lp]
 try rfl
theorem pop_K (pb b:Nat) (q q0) (n cap:Nat) (x) (hx:x=none∨x=some 1) (w0 w2:NVal) (h:NHeap) (hN:n<2^49) (l:List Int) (all:List NVal) (hl:l.length=n+1) (hc:n+1≤cap) (hL:Least h pb b q all l (n+1) cap x w0 w2 q0):
  ∃h' all',K env 122 [.iface 208 (.ptr (some (pb,1)))] h=some (.iface 3 (.int .i64 ((downL (n+1+1) (swapL l 0 n) 0 n).getD n 0)),h')∧Upd [b,pb] h h'∧h'.next=h.next∧
   h'.get pb=some (.cells [w0,.slice (some (b,0)) n cap x,w2] (.own q0))∧h'.get b=some (.cells all' (.own q))∧all'.length=all.length∧all'.take n=i64s ((downL (n+1+1) (swapL l 0 n) 0 n).take n):=by
 obtain⟨hR,gp,hne⟩:=id hL
 have ldp:nload Tryz.prog 203 (pb,1) h=some (.slice (some (b,0)) (n+1) cap x):=by simp only[go_sem,seval,gp]
 have iN:=fun xs=>inv_Len (pb,1) xs ldp
 have iS:=fun xs=>inv_Swap (pb,1) xs ldp
 have w1:IntKind.i64.wrap (((n+1:Nat):Int)-1)=(n:Int):=by rw[wrap_i64_small (by omega) (by omega)];omega
 have w1':IntKind.i64.wrap ((n:Int)+1-1)=(n:Int):=by rw[wrap_i64_small (by omega) (by omega)];omega
 obtain⟨all1,h1,e1,r1,la1,u1,n1⟩:=Swap_K h b q all l hR cap x 0 n (by omega) (by omega) (n+1) (by omega) (by omega)
 have e1':K env 354 [.slice (some (b,0)) (n+1) cap x,.int .i64 0,.int .i64 n] h=some (.tuple [],h1):=e1
 have gp1:=u1.get gp (by simpa using hne)
 obtain⟨rr,h2,all2,e2,L2,la2,u2,n2⟩:=down_K pb b q q0 (n+1) n cap x w0 w2 h1 (by omega) (by omega) (swapL l 0 n) all1 (by rw[swapL_len];exact hl) ⟨r1,gp1,hne⟩
 have hdl:(downL (n+1+1) (swapL l 0 n) 0 n).length=n+1:=by rw[downL_len,swapL_len,hl]
 obtain⟨h3,e3,u3,n3,gp3⟩:=lpop_K pb b q q0 n cap x hx w0 w2 h2 (by omega) _ _ all2 hdl rfl hc L2
 have iP:=inv_Pop h2 (.ptr (some (pb,1)))
 refine⟨h3,all2,?_,?_,by omega,gp3,u3.get L2.1.1 (by simpa using Ne.symm hne),by rw[la2,la1],?_⟩
 ·rw[k122 _ _ (by simp)]
  simp only[bodyOf,Option.getD_some,go_sem,seval,Tryz.f122,iN,Len_K,w1,w1',iS,e1',e2,iP,e3]
 ·exact((u1.mono (by simp)).trans (u2.mono (by simp))).trans (u3.mono (by simp))
 ·have:=L2.1.2.1
  rw[hdl] at this
  have h5:=congrArg (List.take n) this
  rw[List.take_take,Nat.min_eq_left (by omega)] at h5
  rw[h5]
  simp only[i64s,List.map_take]
theorem Take_none (G:Gh) (c:Nat) (p:NVal) (most:Int) (r:PoolRep G c p most []):K env 64 [p] G.h=some (.tuple [.int .i64 0,.bool false],G.h):=by
 obtain⟨pb,lv,mb,q0,ks,arr,rfl,gp,cp,hv,np,gm,cm,hks,hkn,hap,hrl,hheap,_⟩:=r
 have ha:arr=[]:=List.eq_nil_of_length_eq_zero (by rw[hap.length_eq];rfl)
 subst ha
 rw[k64 _ _ (by simp)]
 rcases hv with⟨rfl,_⟩|⟨b,cap,x,q,all,rfl,h2,h3,h4,h5⟩
 ·simp only[bodyOf,Option.getD_some,go_sem,seval,Tryz.f64,gp]
  try rfl
 ·simp only[bodyOf,Option.getD_some,go_sem,seval,Tryz.f64,gp,i64s,List.map_nil,List.length_nil]
  try rfl
theorem PoolLen_K (G:Gh) (c:Nat) (p:NVal) (most:Int) (l:List Int) (r:PoolRep G c p most l):K env 153 [p] G.h=some (.int .i64 l.length,G.h):=by
 obtain⟨pb,lv,mb,q0,ks,arr,rfl,gp,cp,hv,np,gm,cm,hks,hkn,hap,hrl,hheap,_⟩:=r
 have hal:=hap.length_eq
 rw[k153 _ _ (by simp)]
 rcases hv with⟨rfl,h0⟩|⟨b,cap,x,q,all,rfl,h2,h3,h4,h5⟩
 ·have hz:arr.length=0:=by have:=congrArg List.length h0;rw[i64s_len] at this;exact this
  have hl0:l.length=0:=by omega
  simp only[bodyOf,Option.getD_some,go_sem,seval,Tryz.f153,gp,hl0]
  try rfl
 ·simp only[bodyOf,Option.getD_some,go_sem,seval,Tryz.f153,gp,i64s_len,hal]
theorem del_keys (n:Int) (ks:List Int) (i:Nat) (hn:ks.Nodup) (hi:ks[i]? =some n) (m:Int):m∈ks.eraseIdx i↔m∈ks∧m≠n:=by
 have hlt:=(List.getElem?_eq_some_iff.1 hi).1
 have he:ks[i]=n:=(List.getElem?_eq_some_iff.1 hi).2
 have hs:ks=ks.take i++n::ks.drop (i+1):=by
  rw[←he]
  conv=>lhs;rw[←List.take_append_drop i ks,List.drop_eq_getElem_cons hlt]
 have hd:(ks.take i++n::ks.drop (i+1)).Nodup:=hs▸hn
 rw[List.eraseIdx_eq_take_drop_succ]
 rw[List.nodup_append] at hd
 obtain⟨d1,d2,d3⟩:=hd
 rw[List.nodup_cons] at d2
 constructor
 ·intro h
  rw[List.mem_append] at h
  refine⟨by rw[hs];rw[List.mem_append];exact h.imp id fun q=>List.mem_cons_of_mem _ q,?_⟩
  rintro rfl
  rcases h with h|h
  ·exact d3 _ h m (by simp) rfl
  ·exact d2.1 h
 ·rintro⟨h,hne⟩
  rw[hs,List.mem_append,List.mem_cons] at h
  rw[List.mem_append]
  rcases h with h|h|h
  ·exact .inl h
  ·exact absurd h hne
  ·exact .inr h
theorem Take_K (G:Gh) (c:Nat) (p:NVal) (most:Int) (n:Int) (l:List Int) (r:PoolRep G c p most (n::l)):
  ∃G',K env 64 [p] G.h=some (.tuple [.int .i64 n,.bool true],G'.h)∧Stp c (c+1) G G'∧PoolRep G' c p most l:=by
 obtain⟨pb,lv,mb,q0,ks,arr,rfl,gp,cp,hv,np,gm,cm,hks,hkn,hap,hrl,hheap,hl20⟩:=r
 have hal:=hap.length_eq
 simp only[List.length_cons] at hal hl20
 have hto:=take_out hap hrl hheap
 rcases id hv with⟨_,h0⟩|⟨b,cap,x,q,all,rfl,hx,gb,cb,hca,hcl,htk,hc0⟩
 ·have hz:arr.length=0:=by have:=congrArg List.length h0;rw[i64s_len] at this;exact this
  omega
 rw[i64s_len] at hca htk
 have hal2:(i64s arr).length=arr.length:=i64s_len arr
 have hne:pb≠b:=by simpa[blk] using np
 have hbm:b≠mb:=by rintro rfl;rw[gb] at gm;cases gm
 have hmp:pb≠mb:=by rintro rfl;rw[gp] at gm;cases gm
 obtain⟨N,hN⟩:∃N,l.length=N:=⟨_,rfl⟩
 rw[hN] at hal hl20
 rw[hal2,hal] at gp
 rw[hal] at hca htk
 have hto':=hto
 rw[hal,Nat.add_sub_cancel] at hto'
 obtain⟨t1,t2,t3⟩:=hto'
 obtain⟨h1,all1,e1,u1,n1,gp1,gb1,la1,tk1⟩:=pop_K pb b q q0 N cap x hx (.int .i64 most) (.map (some mb)) G.h (by omega) arr all hal hca ⟨⟨gb,by rw[hal];exact htk,by rw[hal];omega⟩,gp,hne⟩
 rw[t1] at e1
 have gm1:=u1.get gm (by simp;exact⟨Ne.symm hbm,Ne.symm hmp⟩)
 have nN:¬((N+1:Nat):Int)=0:=by omega
 have nN':¬((N:Int)+1)=0:=by omega
 obtain⟨i,hi,hnk⟩:∃i,ks[i]? =some n∧nkeyIn (.int .i64 n) (mp ks)=some (some (i,.agg [])):=by
  rcases nkeyIn_mp n ks with⟨q1,_⟩|⟨i,q1,q2⟩
  ·exact absurd ((hks n).2 (by simp)) q1
  ·exact⟨i,q1,q2⟩
 have hdel:ndelete Tryz.prog 202 (.map (some mb)) (.int .i64 n) h1=some (nundef,h1.set mb (.map (mp (ks.eraseIdx i)))):=by
  unfold ndelete
  simp only[go_sem,seval,keyTypeOk,gm1,hnk,mp_erase]
  try rfl
 obtain⟨H,hH⟩:∃H,h1.set mb (.map (mp (ks.eraseIdx i)))=H:=⟨_,rfl⟩
 rw[hH] at hdel
 have UH:Upd [b,pb,mb] G.h H:=by rw[←hH];exact(u1.mono (by simp)).set (.inl (by simp)) _
 have lm1:=NHeap.get_lt gm1
 have gmH:H.get mb=some (.map (mp (ks.eraseIdx i))):=by rw[←hH];exact NHeap.get_set_same lm1
 have gpH:H.get pb=some (.cells [.int .i64 most,.slice (some (b,0)) N cap x,.map (some mb)] (.own q0)):=by rw[←hH,NHeap.get_set_ne hmp];exact gp1
 have gbH:H.get b=some (.cells all1 (.own q)):=by rw[←hH,NHeap.get_set_ne hbm];exact gb1
 have hcol:∀d,d<G.h.next→newCol G.h G.col (fun _=>c) d=G.col d:=fun d hd=>newCol_old hd
 obtain⟨arr',harr⟩:∃arr',(downL (N+1+1) (swapL arr 0 N) 0 N).take N=arr':=⟨_,rfl⟩
 rw[harr] at t2 t3 tk1
 have hal':arr'.length=N:=by rw[t2.length_eq,hN]
 refine⟨⟨H,newCol G.h G.col fun _=>c⟩,?_,Stp.of_upd UH ?_ _,pb,.slice (some (b,0)) N cap x,mb,q0,ks.eraseIdx i,arr',rfl,gpH,?_,.inr ⟨b,cap,x,q,all1,by rw[i64s_len,hal'],hx,gbH,?_,?_,?_,?_,hc0⟩,by simpa[blk] using hne,gmH,?_,?_,?_,t2,?_,?_,by omega⟩
 ·rw[k64 _ _ (by simp)]
  simp only[bodyOf,Option.getD_some,go_sem,seval,Tryz.f64,gp,nN,nN',e1,nassert,nassert',gp1,hdel]
  try rfl
 ·rintro d hd hlt
  simp only[List.mem_cons,List.not_mem_nil,or_false] at hd
  rcases hd with rfl|rfl|rfl
  ·rw[cb];omega
  ·rw[cp];omega
  ·rw[cm];omega
 ·show newCol G.h G.col (fun _=>c) pb=c
  rw[hcol _ (NHeap.get_lt gp)];exact cp
 ·show newCol G.h G.col (fun _=>c) b=c
  rw[hcol _ (NHeap.get_lt gb)];exact cb
 ·rw[i64s_len];omega
 ·omega
 ·rw[i64s_len,hal'];exact tk1
 ·show newCol G.h G.col (fun _=>c) mb=c
  rw[hcol _ (NHeap.get_lt gm)];exact cm
 ·intro m
  rw[del_keys n ks i hkn hi,hks,List.mem_cons]
  have hnl:n∉l:=by
   have:=hrl.nodup
   exact(List.nodup_cons.1 this).1
  constructor
  ·rintro⟨h|h,h2⟩
   ·exact absurd h h2
   ·exact h
  ·intro h
   exact⟨.inr h,fun q=>hnl (q▸h)⟩
 ·exact hkn.sublist (List.eraseIdx_sublist _ _)
 ·exact(List.pairwise_cons.1 hrl).2
 ·show HeapTo arr'.length arr'
  rw[hal'];exact t3
end pool
end Go.Proofs.YtkjpldganajkkaaGreatDoor.S
namespace Go.Proofs.YtkjpldganajkkaaGreatDoor.S
open Go Go.RowKit Go.Proofs.YtkjpldganajkkaaGreatDoor.NICE
namespace arena
open word pool mir pack
theorem clone_W {α:Type} {f:α→List NVal} (hf:∀a,(f a).length=1) (h1:∀a,allOne (f a)=true) (h:NHeap) (v:NVal) (l:List α) (hs:Rw h 1 f v l) (hl:l.length<2^30):∃v' h',K env 135 [v] h=some (v',h')∧Ext h h'∧GrowE h' v' 1 (rows f l) l.length∧∀b∈blk v',h.next≤b∧b<h'.next:=by
 obtain⟨bo,c,x,hv⟩:=hs.form
 rw[k135 _ _ (by simp)]
 cases bo with
 |none=>
  have h0:l=[]:=by
   obtain⟨_,bo',c',x',q1,_,_,q2⟩:=hs
   rw[hv] at q1
   cases q1
   rcases q2 with q2|⟨b,o,all,m,q,_⟩
   ·exact List.eq_nil_of_length_eq_zero q2
   ·cases q
  subst h0
  refine⟨.slice none 0 0 none,h,(by simp only[bodyOf,Option.getD_some,go_sem,seval,Tryz.f135,hv,neq,nilS]),Ext.refl _,.inl ⟨rfl,rfl,rfl⟩,by simp[blk]⟩
 |some a=>
  have hnl:neq Tryz.prog 6 106 v (.slice none 0 0 none)=some false:=by cases hv;rfl
  by_cases h0:l=[]
  ·subst h0
   have ap:=nappend_none (P:=Tryz.prog) Tryz.underlying106 sz108 by108 ze108 rfl (by decide) (hs.ext ((Ext.refl h).alloc (.cells [] (.own none)))) (h.next,0) 0 0 none (by decide) (by decide)
   refine⟨.slice (some (h.next,0)) 0 0 none,h.alloc (.cells [] (.own none)),?_,(Ext.refl h).alloc _,.inr (.inl ⟨_,rfl,rfl,rfl⟩),by simp[blk]⟩
   rw[hv] at hnl ap⊢
   simp only[List.length_nil] at hnl ap⊢
   simp only[bodyOf,Option.getD_some,go_sem,seval,Tryz.f135,hnl,ap]
  ·have hpos:0<l.length:=List.length_pos_iff.2 h0
   have ap:=nappend_new (P:=Tryz.prog) Tryz.underlying106 sz108 by108 ze108 rfl (by decide) (hs.ext ((Ext.refl h).alloc (.cells [] (.own none)))) (rows_one h1 l) (by omega) (by omega) hpos (some (h.next,0)) (.inr ⟨_,_,rfl⟩)
   refine⟨.slice (some (h.next+1,0)) l.length l.length (some 1),_,?_,(((Ext.refl h).alloc (.cells [] (.own none))).alloc (.cells (rows f l) (.own (some (108,0))))),?_,?_⟩
   ·rw[hv] at hnl ap⊢
    simp only[bodyOf,Option.getD_some,go_sem,seval,Tryz.f135,hnl,ap]
   ·refine .inr (.inr ⟨h.next+1,some 1,some (108,0),rfl,.inr rfl,by simp[NHeap.get_alloc],by rw[rows_len hf],hpos⟩)
   ·simp[blk]
theorem mul64_K (N:Int) (hN:N=8∨N=12∨N=24∨N=88∨N=264) (h:NHeap):K env 175 [.int .u64 1,.int .u64 N] h=some (.tuple [.int .u64 0,.int .u64 N],h):=by
 have a1:∀t,nbin Tryz.prog .and t (.int .u64 1) (.int .u64 4294967295)=some (.int .u64 1):=fun t=>by kernel_rfl
 have a0:∀t,nbin Tryz.prog .and t (.int .u64 0) (.int .u64 4294967295)=some (.int .u64 0):=fun t=>by kernel_rfl
 have s1:∀t,nbin Tryz.prog .shr t (.int .u64 1) (.int .u64 32)=some (.int .u64 0):=fun t=>by kernel_rfl
 have s0:∀t,nbin Tryz.prog .shr t (.int .u64 0) (.int .u64 32)=some (.int .u64 0):=fun t=>by kernel_rfl
 have aN:∀t,nbin Tryz.prog .and t (.int .u64 N) (.int .u64 4294967295)=some (.int .u64 N):=fun t=>by rcases hN with rfl|rfl|rfl|rfl|rfl<;>kernel_rfl
 have sN:∀t,nbin Tryz.prog .shr t (.int .u64 N) (.int .u64 32)=some (.int .u64 0):=fun t=>by rcases hN with rfl|rfl|rfl|rfl|rfl<;>kernel_rfl
 have w0:IntKind.u64.wrap 0=0:=by kernel_rfl
 have wN:IntKind.u64.wrap (1*N)=N:=by rcases hN with rfl|rfl|rfl|rfl|rfl<;>kernel_rfl
 have w0N:IntKind.u64.wrap (0*N)=0:=by rcases hN with rfl|rfl|rfl|rfl|rfl<;>kernel_rfl
 rw[k175 _ _ (by simp)]
 simp only[bodyOf,Option.getD_some,go_sem,seval,Tryz.f175,a1,a0,s1,s0,aN,sN,w0,wN,w0N]
 try rfl
theorem mul_K (N:Int) (hN:N=8∨N=12∨N=24∨N=88∨N=264) (h:NHeap):K env 158 [.int .u64 1,.int .u64 N] h=some (.tuple [.int .u64 0,.int .u64 N],h):=by
 have e:=fun h=>mul64_K N hN h
 rw[k158 _ _ (by simp)]
 simp only[bodyOf,Option.getD_some,go_sem,seval,Tryz.f158,e]
 try rfl
def poi:Nat:=0xdeadbeefdeadbeef
def poiRow (N n:Nat):List Nat:=List.replicate n poi++List.replicate (N-n) 0
theorem poiRow_len (N n:Nat) (h:n≤N):(poiRow N n).length=N:=by simp[poiRow];omega
theorem poiRow_step (N n k:Nat) (h:n+k≤N):setRange (rows U (poiRow N n)) n (rows U (List.replicate k poi))=rows U (poiRow N (n+k)):=by
 have hl:∀l:List Nat,(rows U l).length=l.length:=fun l=>by rw[rows_len (k:=1) (fun _=>rfl)];omega
 have e1:(rows U (poiRow N n)).take n=rows U ((poiRow N n).take n):=by have:=rows_take (f:=U) (k:=1) (fun _=>rfl) (poiRow N n) n;rw[Nat.mul_one] at this;exact this
 have e2:(rows U (poiRow N n)).drop (n+k)=rows U ((poiRow N n).drop (n+k)):=by have:=rows_drop (f:=U) (k:=1) (fun _=>rfl) (poiRow N n) (n+k);rw[Nat.mul_one] at this;exact this
 unfold setRange
 rw[hl,List.length_replicate,e1,e2,←rows_append,←rows_append]
 congr 1
 unfold poiRow
 rw[List.take_left' (by simp),List.drop_append,List.drop_of_length_le (by simp),List.length_replicate,List.drop_replicate,←List.replicate_append_replicate,List.nil_append,show N-n-(n+k-n)=N-(n+k) by omega]
noncomputable def lbR:Code:=inC (inC (atC (bodyOf Tryz.f121) 8))
theorem loopR (b N:Nat) (hN:N≤264) (hA:NHeap) (hb:hA.next≤b) (Q:Out→Prop)
  (hQ:∀(h:NHeap) (F:Fr),Ext hA h→h.get b=some (.cells (rows U (List.replicate N poi)) (.own none))→F 7=.slice (some (b,0)) N N none→Q (some (.exit 0,toL 48 F,h))):
  ∀(f n:Nat) (h:NHeap) (F:Fr),N≤f+n→0<n→n≤N→Ext hA h→h.get b=some (.cells (rows U (poiRow N n)) (.own none))→F 7=.slice (some (b,0)) N N none→F 8=.int .i64 n→Q (C env (.loop lbR) (toL 48 F) h):=by
 intro f
 induction f with
 |zero=>
  intro n h F hf h0 hn hE g f7 f8
  have:n=N:=by omega
  subst this
  rw[S_loop]
  conv=>arg 1;arg 2;arg 2;simp only[lbR,bodyOf,Option.getD_some,atC,seqL,inC,elC,List.nil_append,List.cons_append,List.getElem?_cons_succ,List.getElem?_cons_zero,Tryz.f121]
  simp only[go_sem,seval,f7,f8]
  refine hQ h _ hE ?_ (by simp only[go_sem,seval,f7])
  rw[g,poiRow,Nat.sub_self,List.replicate_zero,List.append_nil]
 |succ f ih=>
  intro n h F hf h0 hn hE g f7 f8
  rw[S_loop]
  conv=>arg 1;arg 2;arg 2;simp only[lbR,bodyOf,Option.getD_some,atC,seqL,inC,elC,List.nil_append,List.cons_append,List.getElem?_cons_succ,List.getElem?_cons_zero,Tryz.f121]
  by_cases hlt:n<N
  case neg=>
   have:n=N:=by omega
   subst this
   simp only[go_sem,seval,f7,f8]
   refine hQ h _ hE ?_ (by simp only[go_sem,seval,f7])
   rw[g,poiRow,Nat.sub_self,List.replicate_zero,List.append_nil]
  have i1:(n:Int)<(N:Int):=by omega
  have e1:=nslice_from (P:=Tryz.prog) Tryz.underlying106 sz108 .i64 b 0 N N n hn (Nat.le_refl _) hlt
  have e2:=nslice_to (P:=Tryz.prog) Tryz.underlying106 sz108 .i64 b 0 N N n hn (by omega)
  rw[Nat.zero_add,Nat.mul_one] at e1
  obtain⟨k,hk⟩:∃k,min n (N-n)=k:=⟨_,rfl⟩
  have hrl:(rows U (poiRow N n)).length=N:=by rw[rows_len (k:=1) (fun _=>rfl),poiRow_len _ _ hn];omega
  have hsrc:((rows U (poiRow N n)).drop 0).take (k*1)=rows U (List.replicate k poi):=by
   have:=rows_take (f:=U) (k:=1) (fun _=>rfl) (poiRow N n) k
   rw[List.drop_zero,this]
   congr 1
   unfold poiRow
   rw[List.take_append_of_le_length (by simp;omega),List.take_replicate,Nat.min_eq_left (by omega)]
  have e3:=ncopy_row (P:=Tryz.prog) Tryz.underlying106 sz108 (dl:=N-n) (dc:=N-n) (dx:=none) (sl:=n) (sc:=N) (sx:=none) (o:=n) (so:=0) g g (k:=k) hk (by omega) hsrc (by omega) (rows_one (fun _=>rfl) _) (by omega)
  rw[poiRow_step N n k (by omega)] at e3
  have w1:IntKind.i64.wrap ((n:Int)+(k:Int))=((n+k:Nat):Int):=by rw[wrap_i64_small (by omega) (by omega)];omega
  obtain⟨H,hH⟩:∃H,h.set b (.cells (rows U (poiRow N (n+k))) (.own none))=H:=⟨_,rfl⟩
  rw[hH] at e3
  have nH:h.next≤H.next:=by rw[←hH];exact Nat.le_refl _
  simp only[go_sem,seval,f7,f8,i1,e1,e2,e3,w1,nH]
  refine ih (n+k) H _ (by omega) (by omega) (by omega) ?_ ?_ ?_ ?_
  ·rw[←hH];exact hE.set hb _
  ·rw[←hH];exact NHeap.get_set_same (NHeap.get_lt g)
  ·simp only[go_sem,seval,f7]
  ·simp only[go_sem,seval]
theorem repeat_K (N:Nat) (hN:(N:Int)=8∨(N:Int)=12∨(N:Int)=24∨(N:Int)=88∨(N:Int)=264) (h:NHeap) (sb:Nat) (q) (gs:h.get sb=some (.cells [.int .u64 (poi:Nat)] q)):
  ∃h',K env 121 [.slice (some (sb,0)) 1 1 none,.int .i64 N] h=some (.slice (some (h.next,0)) N N none,h')∧Ext h h'∧h'.get h.next=some (.cells (rows U (List.replicate N poi)) (.own none)):=by
 have em:=fun h=>mul_K (N:Int) hN h
 have w0:¬(N:Int)<0:=by omega
 have w0':(0:Int)≤(N:Int):=by omega
 have w1:IntKind.u64.wrap (N:Int)=(N:Int):=wrap_u64_small (by omega) (by omega)
 have w1u:IntKind.u64.wrap 1=1:=by kernel_rfl
 have w2:IntKind.i64.wrap (N:Int)=(N:Int):=wrap_i64_small (by omega) (by omega)
 have w3:¬(9223372036854775807:Int)<(N:Int):=by omega
 have c1:(N:Int)*8≤1099511627776:=by omega
 have c2:(N:Int)≤1099511627776:=by omega
 have mk:=rep_rows N
 obtain⟨H1,hH1⟩:∃H1,h.alloc (.cells (rows U (List.replicate N 0)) (.own none))=H1:=⟨_,rfl⟩
 have x1:Ext h H1:=by rw[←hH1];exact(Ext.refl h).alloc _
 have g1:H1.get h.next=some (.cells (rows U (poiRow N 0)) (.own none)):=by rw[←hH1];simp[NHeap.get_alloc,poiRow]
 have gs1:=x1.get gs
 have e3:=ncopy_row (P:=Tryz.prog) Tryz.underlying106 sz108 (dl:=N) (dc:=N) (dx:=none) (sl:=1) (sc:=1) (sx:=none) (o:=0) (so:=0) g1 gs1 (k:=1) (by omega) (by omega) (cs:=rows U (List.replicate 1 poi)) rfl (by simp) (rows_one (fun _=>rfl) _) (by rw[rows_len (k:=1) (fun _=>rfl),poiRow_len _ _ (by omega)];omega)
 rw[poiRow_step N 0 1 (by omega),Nat.zero_add] at e3
 obtain⟨H2,hH2⟩:∃H2,H1.set h.next (.cells (rows U (poiRow N 1)) (.own none))=H2:=⟨_,rfl⟩
 rw[hH2] at e3
 have e3':ncopy Tryz.prog 106 (.slice (some (h.next,0)) N N none) (.slice (some (sb,0)) 1 1 none) H1=some (.int .i64 1,H2):=e3
 have x2:Ext h H2:=by rw[←hH2];exact x1.set (Nat.le_refl _) _
 have n1:h.next<H1.next:=by rw[←hH1];simp
 have g2:H2.get h.next=some (.cells (rows U (poiRow N 1)) (.own none)):=by rw[←hH2];exact NHeap.get_set_same n1
 rw[k121 _ _ (by simp)]
 have key:=fun rest=>loopR h.next N (by omega) h (Nat.le_refl _) (fun r=>∃h',outF Tryz.prog [.tmp 4] (thenD env (blockC 0 r) rest)=some (.slice (some (h.next,0)) N N none,h')∧Ext h h'∧h'.get h.next=some (.cells (rows U (List.replicate N poi)) (.own none)))
 simp only[lbR,bodyOf,Option.getD_some,atC,seqL,inC,elC,List.nil_append,List.cons_append,List.getElem?_cons_succ,List.getElem?_cons_zero,Tryz.f121] at key
 simp only[bodyOf,Option.getD_some,go_sem,seval,Tryz.f121,w0,w0',w1,w1u,w2,w3,em,c1,c2,mk,hH1,e3']
 refine key _ ?_ N 1 H2 _ (by omega) (by omega) (by omega) x2 g2 ?_ ?_
 ·intro h' F hE g f7
  refine⟨h',?_,hE,g⟩
  simp only[go_sem,seval,f7]
 all_goals simp only[go_sem,seval]
theorem size_cases (c:Nat) (hc:c<5):sizeI c=(sizeN c:Int)∧((sizeN c:Int)=8∨(sizeN c:Int)=12∨(sizeN c:Int)=24∨(sizeN c:Int)=88∨(sizeN c:Int)=264):=by
 have:c=0∨c=1∨c=2∨c=3∨c=4:=by omega
 rcases this with rfl|rfl|rfl|rfl|rfl<;>decide
theorem poison_K (c:Nat) (hc:c<5) (h:NHeap):∃b h',K env 62 [.int .i64 c] h=some (.slice (some (b,0)) (sizeN c) (sizeN c) none,h')∧Ext h h'∧h.next≤b∧h'.get b=some (.cells (rows U (poisonW c)) (.own none)):=by
 obtain⟨hs1,hs2⟩:=size_cases c hc
 have es:=fun h=>Size_K c h
 rw[hs1] at es
 obtain⟨H1,hH1⟩:∃H1,h.alloc (.cells [.int .u64 (poi:Nat)] (.own none))=H1:=⟨_,rfl⟩
 have x1:Ext h H1:=by rw[←hH1];exact(Ext.refl h).alloc _
 have n1:H1.next=h.next+1:=by rw[←hH1];rfl
 have g1:H1.get h.next=some (.cells [.int .u64 (poi:Nat)] (.own none)):=by rw[←hH1];simp[NHeap.get_alloc]
 obtain⟨h',e,x2,g2⟩:=repeat_K (sizeN c) hs2 H1 h.next _ g1
 have hH1':h.alloc (.cells [.int .u64 16045690984833335023] (.own none))=H1:=hH1
 refine⟨H1.next,h',?_,x1.trans x2,by omega,g2⟩
 rw[k62 _ _ (by simp)]
 simp only[bodyOf,Option.getD_some,go_sem,seval,Tryz.f62,hH1',es,e]
theorem ncopy_sl {dt e:TypeId} (hu:Tryz.prog.underlying dt=some (.slice e)) (hs:szOf Tryz.prog e=some 1) {h:NHeap} {b dl dc:Nat} {dx:Option Nat} {old:List NVal} {q:Option (TypeId×Nat)} {v:NVal} {n:Nat} {cs:List NVal}
  (hd:h.get b=some (.cells old (.own q))) (s:Sl h 1 v n cs) (hn:n≤dl) (hone:allOne cs=true) (hlo:n≤old.length):
  ∃h',ncopy Tryz.prog dt (.slice (some (b,0)) dl dc dx) v h=some (.int .i64 n,h')∧h'.next=h.next∧h'.get b=some (.cells (cs++old.drop n) (.own q))∧Upd [b] h h':=by
 have hlen:=s.len
 rw[Nat.mul_one] at hlen
 by_cases h0:n=0
 ·subst h0
  have hcs:cs=[]:=List.eq_nil_of_length_eq_zero (by omega)
  subst hcs
  obtain⟨s1,s2⟩:=s.src (by decide)
  refine⟨h,?_,rfl,by simpa using hd,Upd.refl _ _⟩
  unfold ncopy
  rw[hu]
  simp only[hs,nlenOf] at s1⊢
  obtain⟨bo,c,x,rfl⟩:=s.form
  simp only[Nat.min_zero,Nat.zero_min,s2,hone,if_true,Nat.zero_mul]
  try rfl
 ·obtain⟨sb,so,c,x,all,m,rfl,h1,h2,hg,h4,h5⟩:=s.at (by omega) (by decide)
  refine⟨_,ncopy_row (P:=Tryz.prog) hu hs (o:=0) hd hg (k:=n) (by omega) (by omega) h4 h5 hone (by omega),rfl,?_,(Upd.refl _ _).set (.inl (by simp)) _⟩
  rw[NHeap.get_set_same (NHeap.get_lt hd)]
  unfold setRange
  rw[hlen,List.take_zero,List.nil_append,Nat.zero_add]
theorem setRange_one (all:List NVal) (i:Nat) (v:NVal) (h:i<all.length):setRange all i [v]=all.set i v:=setRange_single all i v h
set_option maxHeartbeats 1000000 in
theorem fill_K (h:NHeap) (sb i c:Nat) (q) (all:List NVal) (v:NVal) (ws:List Nat) (hc:c<5) (hg:h.get sb=some (.cells all (.own q))) (hi:i+4≤all.length) (hcl:all[i]? =some (.int .i64 c)) (hv:Rw h 1 U v ws) (hvb:ws.length=0∨∀b∈blk v,b≠sb) (hl:ws.length≤sizeN c):
  ∃b h',K env 65 [.ptr (some (sb,i)),v] h=some (.tuple [],h')∧Upd [sb] h h'∧h.next≤b∧h'.get b=some (.cells (rows U (fillW c ws)) (.own none))∧h'.get sb=some (.cells (all.set (i+3) (.slice (some (b,0)) (sizeN c) (sizeN c) none)) (.own q)):=by
 obtain⟨hs1,hs2⟩:=size_cases c hc
 have es:=fun h=>Size_K c h
 rw[hs1] at es
 obtain⟨N,hN⟩:∃N,sizeN c=N:=⟨_,rfl⟩
 rw[hN] at es hs2 hl⊢
 have lsb:=NHeap.get_lt hg
 have w0':(0:Int)≤(N:Int):=by omega
 have c1:(N:Int)*8≤1099511627776:=by omega
 have c2:(N:Int)≤1099511627776:=by omega
 have mk:=rep_rows N
 have nb:¬sb=h.next:=by omega
 have i3:i+3+1≤all.length:=by omega
 have ss:=fun v=>setRange_one all (i+3) v (by omega)
 obtain⟨H1,hH1⟩:∃H1,h.alloc (.cells (rows U (List.replicate N 0)) (.own none))=H1:=⟨_,rfl⟩
 have n1:H1.next=h.next+1:=by rw[←hH1];rfl
 have x1:Ext h H1:=by rw[←hH1];exact(Ext.refl h).alloc _
 have hg1:=x1.get hg
 have gR:H1.get h.next=some (.cells (rows U (List.replicate N 0)) (.own none)):=by rw[←hH1];simp[NHeap.get_alloc]
 obtain⟨H2,hH2⟩:∃H2,H1.set sb (.cells (all.set (i+3) (.slice (some (h.next,0)) N N none)) (.own q))=H2:=⟨_,rfl⟩
 have u2:Upd [sb] h H2:=by rw[←hH2];exact((Upd.of_ext x1).mono (by simp)).set (.inl (by simp)) _
 have g2:H2.get sb=some (.cells (all.set (i+3) (.slice (some (h.next,0)) N N none)) (.own q)):=by rw[←hH2];exact NHeap.get_set_same (by omega)
 have gR2:H2.get h.next=some (.cells (rows U (List.replicate N 0)) (.own none)):=by rw[←hH2,NHeap.get_set_ne (Ne.symm nb)];exact gR
 have hv2:Rw H2 1 U v ws:=Sl.upd' hv u2 (hvb.imp id fun k b hb=>by simpa using k b hb)
 obtain⟨H3,e3,n3,g3,u3⟩:=ncopy_sl Tryz.underlying106 sz108 (dl:=N) (dc:=N) (dx:=none) gR2 hv2 hl (rows_one (fun _=>rfl) _) (by rw[rows_len (k:=1) (fun _=>rfl)];simp;omega)
 have c3:(all.set (i+3) (NVal.slice (some (h.next,0)) N N none))[i+3]? =some (.slice (some (h.next,0)) N N none):=by rw[List.getElem?_set_self (by omega)]
 refine⟨h.next,H3,?_,?_,Nat.le_refl _,?_,?_⟩
 ·rw[k65 _ _ (by simp)]
  simp only[bodyOf,Option.getD_some,go_sem,seval,Tryz.f65,hg,hcl,es,w0',c1,c2,mk,hH1,n1,hg1,i3,ss,lsb,nb,hH2,g2,c3,e3,Nat.add_zero]
  try rfl
 ·exact u2.trans' u3 (by simp)
 ·rw[g3]
  congr 2
  unfold fillW
  rw[rows_append,hN]
  have:=rows_drop (f:=U) (k:=1) (fun _=>rfl) (List.replicate N 0) ws.length
  rw[Nat.mul_one] at this
  rw[this,List.drop_replicate]
 ·exact u3.get g2 (by simpa using nb)
end arena
end Go.Proofs.YtkjpldganajkkaaGreatDoor.S
