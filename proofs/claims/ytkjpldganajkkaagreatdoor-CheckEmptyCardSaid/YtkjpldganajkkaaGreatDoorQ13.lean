/-
  Arena2 to Epoch, as one text. Proved step by step; no conditions beside what is said.
-/
import Derived.Test.YtkjpldganajkkaaGreatDoorQ10
import Derived.Test.YtkjpldganajkkaaGreatDoorQ12
set_option linter.unusedSimpArgs false
set_option linter.unusedVariables false
set_option linter.unusedSectionVars false
set_option maxRecDepth 100000
namespace Go.Proofs.YtkjpldganajkkaaGreatDoor.S
open Go Go.RowKit Go.Proofs.YtkjpldganajkkaaGreatDoor.NICE
namespace arena
open word pool mir pack
def slotC (x:SlotS×NVal):List NVal:=[.int .i64 x.1.cls,.int .i64 x.1.gen,.bool x.1.live,x.2]
theorem slotC_len (x:SlotS×NVal):(slotC x).length=4:=rfl
structure ArenaOk (σ:ArenaS):Prop where
 len:σ.slots.length≤1024
 cls:∀s∈σ.slots,s.cls<5
 gen:∀s∈σ.slots,1≤s.gen∧s.gen≤1073741825
 words:∀s∈σ.slots,s.words.length=sizeN s.cls∧∀w∈s.words,w<2^64
 free:∀i,i<5→∀n∈σ.free i,0≤n∧∃s,σ.slots[n.toNat]? =some s∧s.cls=i∧s.live=false
structure ArenaAt (G:Gh) (c ab:Nat) (q:Option (TypeId×Nat)) (sv:NVal) (P:Nat→NVal) (L:List (SlotS×NVal)) (σ:ArenaS):Prop where
 ga:G.h.get ab=some (.cells [sv,P 0,P 1,P 2,P 3,P 4] (.own q))
 ca:G.col ab=c
 pools:∀i,i<5→PoolRep G (c+1+i) (P i) 1024 (σ.free i)
 grow:Grow G.h sv 4 (rows slotC L) L.length
 cs:∀b∈blk sv,G.col b=c
 fst:L.map Prod.fst=σ.slots
 fz:∀x∈L,Fz G 1 x.2 x.1.words.length (rows U x.1.words)
 ok:ArenaOk σ
theorem ArenaAt.step {lo hi c:Nat} {G G':Gh} (s:Stp lo hi G G') (h0:0<lo) (hc:hi≤c∨c+6≤lo) {ab q sv P L σ} (r:ArenaAt G c ab q sv P L σ):ArenaAt G' c ab q sv P L σ where
 ga:=s.get r.ga (by rw[r.ca];omega)
 ca:=by rw[s.col _ (NHeap.get_lt r.ga)];exact r.ca
 pools i hi:=(r.pools i hi).step s (by omega)
 grow:=by
  have g:=r.grow
  have hcs:=r.cs
  rcases g with g|⟨b,x,q,rfl,hx,hg,hl,hn⟩
  ·exact .inl g
  ·exact .inr ⟨b,x,q,rfl,hx,s.get hg (by rw[hcs b (by simp[blk])];omega),hl,hn⟩
 cs b hb:=by rw[s.col b (r.grow.lt b hb)];exact r.cs b hb
 fst:=r.fst
 fz x hx:=(r.fz x hx).step s h0
 ok:=r.ok
def ArenaRep (G:Gh) (c:Nat) (a:NVal) (σ:ArenaS):Prop:=∃ab q sv P L,a=.ptr (some (ab,0))∧ArenaAt G c ab q sv P L σ
theorem ArenaRep.step {lo hi c:Nat} {G G':Gh} (s:Stp lo hi G G') (h0:0<lo) (hc:hi≤c∨c+6≤lo) {a σ} (r:ArenaRep G c a σ):ArenaRep G' c a σ:=by
 obtain⟨ab,q,sv,P,L,h1,h2⟩:=r
 exact⟨ab,q,sv,P,L,h1,h2.step s h0 hc⟩
theorem ArenaAt.len {G c ab q sv P L σ} (r:ArenaAt G c ab q sv P L σ):L.length=σ.slots.length:=by rw[←r.fst,List.length_map]
theorem ArenaAt.slot {G c ab q sv P L σ} (r:ArenaAt G c ab q sv P L σ) {n:Nat} {s:SlotS} (h:σ.slots[n]? =some s):
  ∃b x q' wv,sv=.slice (some (b,0)) L.length L.length x∧L[n]? =some (s,wv)∧G.h.get b=some (.cells (rows slotC L) (.own q'))∧G.col b=c∧n<L.length∧(rows slotC L).length=L.length*4∧
   (rows slotC L)[n*4]? =some (.int .i64 s.cls)∧(rows slotC L)[n*4+1]? =some (.int .i64 s.gen)∧(rows slotC L)[n*4+2]? =some (.bool s.live)∧(rows slotC L)[n*4+3]? =some wv∧Fz G 1 wv s.words.length (rows U s.words):=by
 have hn:n<L.length:=by rw[r.len];exact(List.getElem?_eq_some_iff.1 h).1
 have hL:L[n]?.map Prod.fst=some s:=by rw[←h,←r.fst,List.getElem?_map]
 obtain⟨x,hx,hxs⟩:∃x,L[n]? =some x∧x.1=s:=by
  rw[List.getElem?_eq_getElem hn] at hL⊢
  exact⟨_,rfl,by simpa using hL⟩
 rcases r.grow with⟨_,_,g⟩|⟨b,x',q',hsv,hx',hg,hl,hpos⟩
 ·omega
 ·have hr:=rows_at slotC_len L n x hx
  have cell:∀j v,(slotC x)[j]? =some v→(rows slotC L)[n*4+j]? =some v:=fun j v hv=>rowcell hr hv
  refine⟨b,x',q',x.2,hsv,by rw[hx,←hxs],hg,r.cs b (by rw[hsv];simp[blk]),hn,hl,?_,?_,?_,?_,?_⟩
  ·exact cell 0 _ (by rw[←hxs];rfl)
  ·exact cell 1 _ (by rw[←hxs];rfl)
  ·exact cell 2 _ (by rw[←hxs];rfl)
  ·exact cell 3 _ rfl
  ·rw[←hxs];exact r.fz x (List.mem_of_getElem? hx)
theorem parts_range (r:Int):0≤(partsI r).1∧(partsI r).1<65536:=by
 unfold partsI
 simp only
 split
 ·exact⟨by decide,by decide⟩
 ·exact⟨Int.emod_nonneg _ (by decide),Int.emod_lt_of_pos _ (by decide)⟩
theorem of_K {G c ab q sv P L σ} (r:ArenaAt G c ab q sv P L σ) (ref:Int):∃pv,K env 166 [.ptr (some (ab,0)),.int .i64 ref] G.h=some (.tuple [pv,.int .i64 (ofF' σ ref).2],G.h)∧
  (((ofF' σ ref).2≠0∧pv=.ptr none)∨((ofF' σ ref).2=0∧∃b x s,sv=.slice (some (b,0)) L.length L.length x∧pv=.ptr (some (b,(ofF' σ ref).1*4))∧σ.slots[(ofF' σ ref).1]? =some s∧s.live=true)):=by
 have e:=Parts_K ref G.h
 obtain⟨b0,b1⟩:=parts_range ref
 have ga:=r.ga
 obtain⟨n,hn⟩:∃n:Nat,(partsI ref).1=(n:Int):=⟨(partsI ref).1.toNat,by omega⟩
 have hof:ofF' σ ref=ofS (partsI ref) σ.slots[n]? :=by
  unfold ofF'
  rw[hn,Int.toNat_natCast]
 rw[hof]
 obtain⟨g,hg⟩:∃g,(partsI ref).2.1=g:=⟨_,rfl⟩
 obtain⟨lf,hlf⟩:∃lf,(partsI ref).2.2.1=lf:=⟨_,rfl⟩
 obtain⟨o,ho⟩:∃o,(partsI ref).2.2.2=o:=⟨_,rfl⟩
 have hp:partsI ref=((n:Int),g,lf,o):=by rw[←hn,←hg,←hlf,←ho]
 rw[hn,hg,hlf,ho] at e
 rw[hp,k166 _ _ (by simp)]
 obtain⟨bo,ln,cp,x,hsv⟩:∃bo ln cp x,sv=.slice bo ln cp x∧ln=L.length:=by
  rcases r.grow with⟨g1,_,g3⟩|⟨b,x',q',g1,_⟩
  ·exact⟨_,_,_,_,g1,g3.symm⟩
  ·exact⟨_,_,_,_,g1,rfl⟩
 obtain⟨hsv,hln⟩:=hsv
 have hlen:=r.len
 by_cases c0:o=false
 ·subst c0
  refine⟨.ptr none,?_,.inl ⟨?_,rfl⟩⟩
  ·have h1:ofS ((n:Int),g,lf,false) σ.slots[n]? =(0,1):=by
    cases σ.slots[n]? with
    |none=>rfl
    |some s=>simp[ofS]
   rw[h1]
   simp only[bodyOf,Option.getD_some,go_sem,seval,Tryz.f166,e]
   try rfl
  ·cases σ.slots[n]? with
   |none=>simp[ofS]
   |some s=>simp[ofS]
 have c0':o=true:=by simpa using c0
 subst c0'
 cases hs:σ.slots[n]? with
 |none=>
  have hge:(ln:Int)≤(n:Int):=by have:=List.getElem?_eq_none_iff.1 hs;omega
  refine⟨.ptr none,?_,.inl ⟨by simp[ofS],rfl⟩⟩
  simp only[bodyOf,Option.getD_some,go_sem,seval,Tryz.f166,e,ga,hsv,hge,ofS]
  try rfl
 |some s=>
  obtain⟨b,x',q',wv,g1,g2,g3,g4,g5,g6,k0,k1,k2,k3,fz⟩:=r.slot hs
  rw[g1] at ga
  have hlt:¬(L.length:Int)≤(n:Int):=by omega
  have i0:(0:Int)≤(n:Int):=by omega
  have i1:(n:Int)<(L.length:Int):=by omega
  have hcls:=r.ok.cls s (List.mem_of_getElem? hs)
  obtain⟨z,hz⟩:∃z,decide ((s.cls:Int)=0)=z:=⟨_,rfl⟩
  have hzc:(s.cls==0)=z:=by
   rw[←hz]
   by_cases q:s.cls=0
   ·rw[q];rfl
   ·have:¬(s.cls:Int)=0:=by omega
    simp[q,this]
  have bools:nbin Tryz.prog .neq 4 (.bool lf) (.bool z)=some (.bool (lf !=z)):=by cases lf<;>cases z<;>kernel_rfl
  by_cases c1:lf=z
  case neg=>
   have c1':(lf !=z)=true:=by cases lf<;>cases z<;>simp_all
   have c1'':lf≠(s.cls==0):=by rw[hzc];exact c1
   refine⟨.ptr none,?_,.inl ⟨by simp[ofS,c1''],rfl⟩⟩
   simp only[bodyOf,Option.getD_some,go_sem,seval,Tryz.f166,e,ga,hlt,i0,i1,g3,k0,hz,bools,c1',ofS,c1'']
   try rfl
  have c1':(lf !=z)=false:=by rw[c1];cases z<;>rfl
  have c1'':lf=(s.cls==0):=by rw[hzc];exact c1
  by_cases c2:s.gen=g
  case neg=>
   refine⟨.ptr none,?_,.inl ⟨by simp[ofS,c1'',c2],rfl⟩⟩
   simp only[bodyOf,Option.getD_some,go_sem,seval,Tryz.f166,e,ga,hlt,i0,i1,g3,k0,k1,hz,bools,c1',c2,ofS,←c1'']
   try rfl
  have c2d:decide (s.gen=g)=true:=decide_eq_true c2
  cases c3:s.live with
  |false=>
   rw[c3] at k2
   refine⟨.ptr none,?_,.inl ⟨by simp[ofS,c1'',c2,c3],rfl⟩⟩
   simp only[bodyOf,Option.getD_some,go_sem,seval,Tryz.f166,e,ga,hlt,i0,i1,g3,k0,k1,k2,hz,bools,c1',c2d,c2,c3,ofS,←c1'']
   try rfl
  |true=>
   rw[c3] at k2
   refine⟨.ptr (some (b,n*4)),?_,.inr ⟨by simp[ofS,c1'',c2,c3],b,x',s,g1,by simp[ofS,c1'',c2,c3],by simp[ofS,c1'',c2,c3,hs],c3⟩⟩
   simp only[bodyOf,Option.getD_some,go_sem,seval,Tryz.f166,e,ga,hlt,i0,i1,g3,k0,k1,k2,hz,bools,c1',c2d,c2,c3,ofS,←c1'']
   try rfl
end arena
end Go.Proofs.YtkjpldganajkkaaGreatDoor.S
namespace Go.Proofs.YtkjpldganajkkaaGreatDoor.S
open Go Go.RowKit Go.Proofs.YtkjpldganajkkaaGreatDoor.NICE
namespace arena
open word pool mir pack
theorem rows_split {α:Type} (f:α→List NVal) (L:List α) (n:Nat) (x:α) (h:L[n]? =some x):rows f L=rows f (L.take n)++(f x++rows f (L.drop (n+1))):=by
 have hn:=(List.getElem?_eq_some_iff.1 h).1
 have hx:=(List.getElem?_eq_some_iff.1 h).2
 rw[←rows_cons,←rows_append,←hx,←List.drop_eq_getElem_cons hn,List.take_append_drop]
theorem rows_set_cell {α:Type} {f:α→List NVal} {k:Nat} (hf:∀a,(f a).length=k) (L:List α) (n j:Nat) (x x':α) (v:NVal) (h:L[n]? =some x) (hj:j<k) (hx:(f x).set j v=f x'):(rows f L).set (n*k+j) v=rows f (L.set n x'):=by
 have hn:=(List.getElem?_eq_some_iff.1 h).1
 have h':(L.set n x')[n]? =some x':=by rw[List.getElem?_set_self hn]
 have hl:(rows f (L.take n)).length=n*k:=by rw[rows_len hf,List.length_take,Nat.min_eq_left (by omega)]
 rw[rows_split f L n x h,rows_split f (L.set n x') n x' h',List.take_set_of_le (Nat.le_refl _),List.drop_set_of_lt (by omega),List.set_append_right _ _ (by omega),hl,Nat.add_sub_cancel_left,List.set_append_left _ _ (by rw[hf];exact hj),hx]
theorem slot_live (L:List (SlotS×NVal)) (n:Nat) (s wv) (b:Bool) (h:L[n]? =some (s,wv)):(rows slotC L).set (n*4+2) (.bool b)=rows slotC (L.set n ({s with live:=b},wv)):=rows_set_cell slotC_len L n 2 _ _ _ h (by decide) rfl
theorem slot_gen (L:List (SlotS×NVal)) (n:Nat) (s wv) (g:Int) (h:L[n]? =some (s,wv)):(rows slotC L).set (n*4+1) (.int .i64 g)=rows slotC (L.set n ({s with gen:=g},wv)):=rows_set_cell slotC_len L n 1 _ _ _ h (by decide) rfl
theorem slot_words (L:List (SlotS×NVal)) (n:Nat) (s wv) (wv') (ws:List Nat) (h:L[n]? =some (s,wv)):(rows slotC L).set (n*4+3) wv'=rows slotC (L.set n ({s with words:=ws},wv')):=rows_set_cell slotC_len L n 3 _ _ _ h (by decide) rfl
theorem ArenaOk.set {σ:ArenaS} (o:ArenaOk σ) {n:Nat} {s s':SlotS} (hs:σ.slots[n]? =some s) (hc:s'.cls=s.cls) (hg:1≤s'.gen∧s'.gen≤1073741825) (hw:s'.words.length=sizeN s'.cls∧∀w∈s'.words,w<2^64) (hl:s'.live=s.live∨∀i,i<5→∀m∈σ.free i,m.toNat≠n):ArenaOk ⟨σ.slots.set n s',σ.free⟩:=by
 have hcs:=o.cls s (List.mem_of_getElem? hs)
 have hn:=(List.getElem?_eq_some_iff.1 hs).1
 refine⟨by simpa using o.len,fun x hx=>?_,fun x hx=>?_,fun x hx=>?_,fun i hi m hm=>?_⟩
 ·rcases List.mem_or_eq_of_mem_set hx with hx|rfl
  ·exact o.cls x hx
  ·rw[hc];exact hcs
 ·rcases List.mem_or_eq_of_mem_set hx with hx|rfl
  ·exact o.gen x hx
  ·exact hg
 ·rcases List.mem_or_eq_of_mem_set hx with hx|rfl
  ·exact o.words x hx
  ·exact hw
 ·obtain⟨h0,x,h1,h2,h3⟩:=o.free i hi m hm
  refine⟨h0,?_⟩
  by_cases q:m.toNat=n
  ·rcases hl with hl|hl
   ·rw[q,hs] at h1
    cases h1
    exact⟨s',by rw[q];exact List.getElem?_set_self hn,by rw[hc];exact h2,by rw[hl];exact h3⟩
   ·exact absurd q (hl i hi m hm)
  ·exact⟨x,by show(σ.slots.set n s')[m.toNat]? =_;rw[List.getElem?_set_ne (Ne.symm q)];exact h1,h2,h3⟩
theorem ArenaAt.put {G:Gh} {c ab:Nat} {q sv P L σ} (r:ArenaAt G c ab q sv P L σ) {n:Nat} {s':SlotS} {wv':NVal} {b:Nat} {x:Option Nat} {q':Option (TypeId×Nat)} (hsv:sv=.slice (some (b,0)) L.length L.length x) (hx:x=none∨x=some 4) (hpos:0<L.length) (hbc:G.col b=c) (hab:ab≠b) {h':NHeap} (u:Upd [b] G.h h')
  (hb:h'.get b=some (.cells (rows slotC (L.set n (s',wv'))) (.own q'))) (hbl:b<G.h.next) (hc0:0<c) (fz:n<L.length→Fz ⟨h',newCol G.h G.col fun _=>0⟩ 1 wv' s'.words.length (rows U s'.words)) (ok:ArenaOk ⟨σ.slots.set n s',σ.free⟩):
  Stp c (c+6) G ⟨h',newCol G.h G.col fun _=>0⟩∧ArenaAt ⟨h',newCol G.h G.col fun _=>0⟩ c ab q sv P (L.set n (s',wv')) ⟨σ.slots.set n s',σ.free⟩:=by
 have st:Stp c (c+1) G ⟨h',newCol G.h G.col fun _=>0⟩:=Stp.of_upd u (by rintro d hd _;simp at hd;subst hd;omega) _
 refine⟨st.mono (Nat.le_refl _) (by omega),u.get r.ga (by simpa using hab),?_,fun i hi=>(r.pools i hi).step st (by omega),?_,?_,?_,?_,ok⟩
 ·show newCol G.h G.col (fun _=>0) ab=c
  rw[newCol_old (NHeap.get_lt r.ga)];exact r.ca
 ·rw[hsv]
  refine .inr ⟨b,x,q',by rw[List.length_set],hx,hb,by rw[rows_len slotC_len,List.length_set],by rw[List.length_set];exact hpos⟩
 ·intro d hd
  rw[hsv] at hd
  simp[blk] at hd
  subst hd
  show newCol G.h G.col (fun _=>0) d=c
  rw[newCol_old hbl];exact hbc
 ·rw[←r.fst,List.map_set]
 ·intro y hy
  rcases List.mem_or_eq_of_mem_set hy with hy|rfl
  ·exact(r.fz y hy).step st hc0
  ·by_cases q:n<L.length
   ·exact fz q
   ·rw[List.set_eq_of_length_le (by omega)] at hy
    exact(r.fz _ hy).step st hc0
theorem fzNew {G:Gh} {h':NHeap} {b n:Nat} {ws:List Nat} {m} (hb:G.h.next≤b) (g:h'.get b=some (.cells (rows U ws) m)) (hn:n=ws.length):Fz ⟨h',newCol G.h G.col fun _=>0⟩ 1 (.slice (some (b,0)) n n none) ws.length (rows U ws):=by
 subst hn
 refine⟨rows_len (k:=1) (fun _=>rfl) ws,some (b,0),ws.length,none,rfl,Nat.le_refl _,.inl rfl,.inr ⟨b,0,_,_,rfl,g,?_,?_⟩⟩
 ·show newCol G.h G.col (fun _=>0) b=0
  rw[newCol_new hb]
 ·rw[List.drop_zero,Nat.mul_one,List.take_of_length_le (by rw[rows_len (k:=1) (fun _=>rfl)];omega)]
theorem fz_sl {G:Gh} {sz n:Nat} {v cs} (f:Fz G sz v n cs):Sl G.h sz v n cs:=by
 obtain⟨h0,bo,c,x,h1,h2,h3,h4⟩:=f
 exact⟨h0,bo,c,x,h1,h2,h3,h4.imp id fun⟨b,o,all,m,a1,a2,a3,a4⟩=>⟨b,o,all,m,a1,a2,a4⟩⟩
theorem fz_blk0 {G:Gh} {sz n:Nat} {v cs} (f:Fz G sz v n cs):n=0∨∀b∈blk v,G.col b=0:=by
 obtain⟨h0,bo,c,x,rfl,h2,h3,h4⟩:=f
 refine h4.imp id ?_
 rintro⟨b,o,all,m,rfl,a2,a3,a4⟩ d hd
 simp[blk] at hd
 subst hd
 exact a3
theorem fillW_len (c:Nat) (ws:List Nat) (h:ws.length≤sizeN c):(fillW c ws).length=sizeN c:=by unfold fillW;simp;omega
theorem fillW_lt (c:Nat) (ws:List Nat) (h:∀w∈ws,w<2^64):∀w∈fillW c ws,w<2^64:=by
 intro w hw
 unfold fillW at hw
 rw[List.mem_append] at hw
 rcases hw with hw|hw
 ·exact h w hw
 ·rw[(List.mem_replicate.1 hw).2];decide
theorem poisonW_len (c:Nat):(poisonW c).length=sizeN c:=by unfold poisonW;simp
theorem poisonW_lt (c:Nat):∀w∈poisonW c,w<2^64:=by
 intro w hw
 rw[(List.mem_replicate.1 hw).2];decide
theorem Load_K {G c a σ} (r:ArenaRep G c a σ) (ref:Int):∃v h',K env 140 [a,.int .i64 ref] G.h=some (.tuple [v,.int .i64 (loadF σ ref).2],h')∧Ext G.h h'∧Fz ⟨h',newCol G.h G.col fun _=>0⟩ 1 v (loadF σ ref).1.length (rows U (loadF σ ref).1):=by
 obtain⟨ab,q,sv,P,L,rfl,r⟩:=r
 obtain⟨pv,e,h1|⟨h1,b,x,s,hsv,hpv,hs,hlive⟩⟩:=of_K r ref
 ·obtain⟨h1,rfl⟩:=h1
  have hl:loadF σ ref=([],(ofF' σ ref).2):=by simp[loadF,h1]
  rw[hl]
  refine⟨.slice none 0 0 none,G.h,?_,Ext.refl _,Fz.nil _ _⟩
  rw[k140 _ _ (by simp)]
  simp only[bodyOf,Option.getD_some,go_sem,seval,Tryz.f140,e,h1]
 ·obtain⟨b',x',q',wv,g1,g2,g3,g4,g5,g6,k0,k1,k2,k3,fz⟩:=r.slot hs
  have hbb:b'=b:=by rw[hsv] at g1;simp at g1;exact g1.1.symm
  subst hbb
  have hl:loadF σ ref=(s.words,0):=by simp[loadF,h1,hs]
  have hw:=r.ok.words s (List.mem_of_getElem? hs)
  have hc:=r.ok.cls s (List.mem_of_getElem? hs)
  have hsz:=size_cases s.cls hc
  obtain⟨v',h',e2,x2,gr,fresh⟩:=clone_W (f:=U) (fun _=>rfl) (fun _=>rfl) G.h wv s.words (fz_sl fz) (by omega)
  rw[h1,hpv] at e
  rw[hl]
  refine⟨v',h',?_,x2,?_⟩
  ·rw[k140 _ _ (by simp)]
   simp only[bodyOf,Option.getD_some,go_sem,seval,Tryz.f140,e,g3,k3,e2]
  ·obtain⟨s0,bo,cc,xx,s1,s2,s3,s4⟩:=gr.sl
   refine⟨s0,bo,cc,xx,s1,s2,s3,s4.imp id ?_⟩
   rintro⟨b,o,all,m,a1,a2,a3⟩
   refine⟨b,o,all,m,a1,a2,?_,a3⟩
   show newCol G.h G.col (fun _=>0) b=0
   rw[newCol_new (fresh b (by rw[s1,a1];simp[blk])).1]
end arena
end Go.Proofs.YtkjpldganajkkaaGreatDoor.S
namespace Go.Proofs.YtkjpldganajkkaaGreatDoor.S
open Go Go.RowKit Go.Proofs.YtkjpldganajkkaaGreatDoor.NICE
namespace arena
open word pool mir pack
theorem ArenaAt.ne {G c ab q sv P L σ} (r:ArenaAt G c ab q sv P L σ) {n:Nat} {s:SlotS} (hs:σ.slots[n]? =some s) {b l cp x} (hsv:sv=.slice (some (b,0)) l cp x):ab≠b:=by
 rintro rfl
 have h0:0<σ.slots.length:=by have:=(List.getElem?_eq_some_iff.1 hs).1;omega
 obtain⟨b',x',q',wv,g1,g2,g3,g4,g5,g6,k0,k1,k2,k3,fz⟩:=r.slot (List.getElem?_eq_getElem h0)
 have:b'=ab:=by rw[hsv] at g1;simp at g1;exact g1.1.symm
 subst this
 rw[r.ga] at g3
 simp only[Option.some.injEq,NObj.cells.injEq] at g3
 rw[←g3.1,hsv] at k0
 simp at k0
theorem fillSlot_K {G c ab q sv P L σ} (hc0:0<c) (r:ArenaAt G c ab q sv P L σ) {n:Nat} {s:SlotS} (hs:σ.slots[n]? =some s) {b l cp x} (hsv:sv=.slice (some (b,0)) l cp x) (v:NVal) (ws:List Nat) (fv:Fz G 1 v ws.length (rows U ws)) (hlt:∀w∈ws,w<2^64) (hl:ws.length≤sizeN s.cls):
  ∃G' L',K env 65 [.ptr (some (b,n*4)),v] G.h=some (.tuple [],G'.h)∧Stp c (c+6) G G'∧ArenaAt G' c ab q sv P L' ⟨σ.slots.set n {s with words:=fillW s.cls ws},σ.free⟩:=by
 have hne:=r.ne hs hsv
 obtain⟨b',x',q',wv,g1,g2,g3,g4,g5,g6,k0,k1,k2,k3,fz⟩:=r.slot hs
 have hbb:b'=b:=by rw[hsv] at g1;simp at g1;exact g1.1.symm
 subst hbb
 have hcl:=r.ok.cls s (List.mem_of_getElem? hs)
 have hx':x'=none∨x'=some 4:=by
  rcases r.grow with⟨g,_⟩|⟨b2,x2,q2,g,hx,_⟩
  ·rw[g] at g1;cases g1
  ·rw[g] at g1;simp at g1;rw[←g1.2];exact hx
 obtain⟨nb,h',e,u,hnb,gn,gs⟩:=fill_K G.h b' (n*4) s.cls q' (rows slotC L) v ws hcl g3 (by omega) k0 (fz_sl fv) ((fz_blk0 fv).imp id fun k d hd q=>by
  subst q
  have:=k d hd
  omega) hl
 rw[slot_words L n s wv _ (fillW s.cls ws) g2] at gs
 have hw:=r.ok.words s (List.mem_of_getElem? hs)
 obtain⟨st,r'⟩:=r.put (s':={s with words:=fillW s.cls ws}) g1 hx' (by omega) g4 hne u gs (NHeap.get_lt g3) hc0 (fun _=>fzNew hnb gn (fillW_len _ _ hl).symm) (r.ok.set hs rfl (r.ok.gen s (List.mem_of_getElem? hs)) ⟨fillW_len _ _ hl,fillW_lt _ _ hlt⟩ (.inl rfl))
 exact⟨_,_,e,st,r'⟩
theorem Store_K {G c a σ} (hc0:0<c) (r:ArenaRep G c a σ) (ref:Int) (v:NVal) (ws:List Nat) (fv:Fz G 1 v ws.length (rows U ws)) (hlt:∀w∈ws,w<2^64):
  ∃G',K env 142 [a,.int .i64 ref,v] G.h=some (.int .i64 (storeF σ ref ws).1,G'.h)∧Stp c (c+6) G G'∧ArenaRep G' c a (storeF σ ref ws).2:=by
 obtain⟨ab,q,sv,P,L,rfl,r⟩:=r
 obtain⟨vb,vc,vx,hv⟩:=(fz_sl fv).form
 obtain⟨pv,e,h1|⟨h1,b,x,s,hsv,hpv,hs,hlive⟩⟩:=of_K r ref
 ·obtain⟨h1,rfl⟩:=h1
  have hl:storeF σ ref ws=((ofF' σ ref).2,σ):=by simp[storeF,h1]
  rw[hl]
  refine⟨G,?_,Stp.refl _ _ _,ab,q,sv,P,L,rfl,r⟩
  rw[k142 _ _ (by simp)]
  simp only[bodyOf,Option.getD_some,go_sem,seval,Tryz.f142,e,h1]
 ·obtain⟨b',x',q',wv,g1,g2,g3,g4,g5,g6,k0,k1,k2,k3,fz⟩:=r.slot hs
  have hbb:b'=b:=by rw[hsv] at g1;simp at g1;exact g1.1.symm
  subst hbb
  obtain⟨wb,wc,wx,hwv⟩:=(fz_sl fz).form
  rw[hwv] at k3
  have hw:=r.ok.words s (List.mem_of_getElem? hs)
  rw[h1,hpv] at e
  by_cases hlen:s.words.length<ws.length
  ·have hl:storeF σ ref ws=(1,σ):=by simp[storeF,h1,hs,hlen]
   rw[hl]
   have hlen':(s.words.length:Int)<(ws.length:Int):=by omega
   refine⟨G,?_,Stp.refl _ _ _,ab,q,sv,P,L,rfl,r⟩
   rw[k142 _ _ (by simp),hv]
   simp only[bodyOf,Option.getD_some,go_sem,seval,Tryz.f142,e,g3,k3,hlen']
  ·have hl:storeF σ ref ws=(0,⟨σ.slots.set (ofF' σ ref).1 {s with words:=fillW s.cls ws},σ.free⟩):=by simp[storeF,h1,hs,hlen]
   rw[hl]
   have hlen':¬(s.words.length:Int)<(ws.length:Int):=by omega
   obtain⟨G',L',e2,st,r'⟩:=fillSlot_K hc0 r hs hsv v ws fv hlt (by omega)
   refine⟨G',?_,st,ab,q,sv,P,L',rfl,r'⟩
   rw[k142 _ _ (by simp)]
   rw[hv] at e2⊢
   simp only[bodyOf,Option.getD_some,go_sem,seval,Tryz.f142,e,g3,k3,hlen',e2]
theorem Swap_K {G c a σ} (hc0:0<c) (r:ArenaRep G c a σ) (ref:Int) (was:Nat) (v:NVal) (ws:List Nat) (fv:Fz G 1 v ws.length (rows U ws)) (hlt:∀w∈ws,w<2^64):
  ∃G',K env 141 [a,.int .i64 ref,.int .u64 was,v] G.h=some (.tuple [.bool (swapF σ ref was ws).1.1,.int .i64 (swapF σ ref was ws).1.2],G'.h)∧Stp c (c+6) G G'∧ArenaRep G' c a (swapF σ ref was ws).2:=by
 obtain⟨ab,q,sv,P,L,rfl,r⟩:=r
 obtain⟨vb,vc,vx,hv⟩:=(fz_sl fv).form
 obtain⟨pv,e,h1|⟨h1,b,x,s,hsv,hpv,hs,hlive⟩⟩:=of_K r ref
 ·obtain⟨h1,rfl⟩:=h1
  have hl:swapF σ ref was ws=((false,(ofF' σ ref).2),σ):=by simp[swapF,h1]
  rw[hl]
  refine⟨G,?_,Stp.refl _ _ _,ab,q,sv,P,L,rfl,r⟩
  rw[k141 _ _ (by simp)]
  simp only[bodyOf,Option.getD_some,go_sem,seval,Tryz.f141,e,h1]
 ·obtain⟨b',x',q',wv,g1,g2,g3,g4,g5,g6,k0,k1,k2,k3,fz⟩:=r.slot hs
  have hbb:b'=b:=by rw[hsv] at g1;simp at g1;exact g1.1.symm
  subst hbb
  have hw:=r.ok.words s (List.mem_of_getElem? hs)
  have hcl:=r.ok.cls s (List.mem_of_getElem? hs)
  have hsz:=size_cases s.cls hcl
  obtain⟨w0,hw0⟩:∃w0,s.words[0]? =some w0:=⟨s.words[0]'(by omega),List.getElem?_eq_getElem (by omega)⟩
  obtain⟨wb,wo,wc,wx,wall,wm,hwv,gw,roww,lew⟩:=Sl.elem (f:=U) (k:=1) (fun _=>rfl) (fz_sl fz) hw0
  have cellw:=rowcell roww (show(U w0)[0]? =some (.int .u64 (w0:Int)) from rfl)
  simp only[Nat.mul_one,Nat.add_zero,Nat.zero_mul] at cellw
  rw[hwv] at k3
  have hd0:s.words.getD 0 0=w0:=by rw[List.getD_eq_getElem?_getD,hw0];rfl
  rw[h1,hpv] at e
  have lp:(0:Int)<(s.words.length:Int):=by omega
  by_cases hlen:s.words.length<ws.length
  ·have hl:swapF σ ref was ws=((false,1),σ):=by simp[swapF,h1,hs,hlen]
   rw[hl]
   have hlen':(s.words.length:Int)<(ws.length:Int):=by omega
   refine⟨G,?_,Stp.refl _ _ _,ab,q,sv,P,L,rfl,r⟩
   rw[k141 _ _ (by simp),hv]
   simp only[bodyOf,Option.getD_some,go_sem,seval,Tryz.f141,e,g3,k3,hlen']
  ·have hlen':¬(s.words.length:Int)<(ws.length:Int):=by omega
   by_cases hwas:w0=was
   ·have hwd:decide ((w0:Int)=(was:Int))=true:=decide_eq_true (by omega)
    have hl:swapF σ ref was ws=((true,0),⟨σ.slots.set (ofF' σ ref).1 {s with words:=fillW s.cls ws},σ.free⟩):=by simp[swapF,h1,hs,hlen,hd0,hwas,-List.getD_eq_getElem?_getD]
    rw[hl]
    obtain⟨G',L',e2,st,r'⟩:=fillSlot_K hc0 r hs hsv v ws fv hlt (by omega)
    refine⟨G',?_,st,ab,q,sv,P,L',rfl,r'⟩
    rw[k141 _ _ (by simp)]
    rw[hv] at e2⊢
    simp only[bodyOf,Option.getD_some,go_sem,seval,Tryz.f141,e,g3,k3,hlen',lp,gw,cellw,hwd,e2]
    try rfl
   ·have hwd:¬(w0:Int)=(was:Int):=by omega
    have hl:swapF σ ref was ws=((false,0),σ):=by simp[swapF,h1,hs,hlen,hd0,hwas,-List.getD_eq_getElem?_getD]
    rw[hl]
    refine⟨G,?_,Stp.refl _ _ _,ab,q,sv,P,L,rfl,r⟩
    rw[k141 _ _ (by simp),hv]
    simp only[bodyOf,Option.getD_some,go_sem,seval,Tryz.f141,e,g3,k3,hlen',lp,gw,cellw,hwd]
    try rfl
end arena
end Go.Proofs.YtkjpldganajkkaaGreatDoor.S
namespace Go.Proofs.YtkjpldganajkkaaGreatDoor.S
open Go Go.RowKit Go.Proofs.YtkjpldganajkkaaGreatDoor.NICE
namespace arena
open word pool mir pack
theorem updF_self (f:Nat→List Int) (k:Nat) (l:List Int):updF f k l k=l:=by simp[updF]
theorem updF_ne (f:Nat→List Int) (k:Nat) (l:List Int) (i:Nat) (h:i≠k):updF f k l i=f i:=by simp[updF,h]
theorem ArenaAt.pool {G c ab q sv P L σ} (hc0:0<c) (r:ArenaAt G c ab q sv P L σ) {k:Nat} (hk:k<5) {G':Gh} (st:Stp (c+1+k) (c+1+k+1) G G') {l:List Int} (p:PoolRep G' (c+1+k) (P k) 1024 l) (ok:ArenaOk ⟨σ.slots,updF σ.free k l⟩):ArenaAt G' c ab q sv P L ⟨σ.slots,updF σ.free k l⟩ where
 ga:=st.get r.ga (by rw[r.ca];omega)
 ca:=by rw[st.col _ (NHeap.get_lt r.ga)];exact r.ca
 pools i hi:=by
  by_cases q:i=k
  ·subst q;simp only[updF_self];exact p
  ·simp only[updF_ne _ _ _ _ q];exact(r.pools i hi).step st (by omega)
 grow:=by
  have g:=r.grow
  have hcs:=r.cs
  rcases g with g|⟨b,x,q,rfl,hx,hg,hl,hn⟩
  ·exact .inl g
  ·exact .inr ⟨b,x,q,rfl,hx,st.get hg (by rw[hcs b (by simp[blk])];omega),hl,hn⟩
 cs b hb:=by rw[st.col b (r.grow.lt b hb)];exact r.cs b hb
 fst:=r.fst
 fz x hx:=(r.fz x hx).step st (by omega)
 ok:=ok
theorem arr5 (sv:NVal) (P:Nat→NVal) (k:Nat) (hk:k<5):([sv,P 0,P 1,P 2,P 3,P 4]:List NVal)[1+k]? =some (P k):=by
 have:k=0∨k=1∨k=2∨k=3∨k=4:=by omega
 rcases this with rfl|rfl|rfl|rfl|rfl<;>rfl
theorem pools_idx (ab o k:Nat) (kk:IntKind) (hk:k<5):nindexAddr Tryz.prog 140 (.ptr (some (ab,o))) (.int kk (k:Int))=some (.ptr (some (ab,o+k))):=by
 have h1:(k:Int)<5:=by omega
 have hs:szOf Tryz.prog 139=some 1:=by kernel_rfl
 have hu:Tryz.prog.underlying 140=some (.array 5 139):=Tryz.underlying140
 simp[nindexAddr,hu,hs,h1]
set_option maxHeartbeats 1000000 in
theorem Alloc_K {G c a σ} (hc0:0<c) (r:ArenaRep G c a σ) (cls:Int) (v:NVal) (ws:List Nat) (fv:Fz G 1 v ws.length (rows U ws)) (hlt:∀w∈ws,w<2^64):
  ∃G',K env 37 [a,.int .i64 cls,v] G.h=some (.tuple [.int .i64 (allocF σ cls ws).1.1,.int .i64 (allocF σ cls ws).1.2],G'.h)∧Stp c (c+6) G G'∧ArenaRep G' c a (allocF σ cls ws).2:=by
 obtain⟨ab,q,sv,P,L,rfl,r⟩:=r
 obtain⟨vb,vc,vx,hv⟩:=(fz_sl fv).form
 have es:=fun h=>Size_K cls h
 have ga:=r.ga
 by_cases hbad:cls<0∨5≤cls∨sizeI cls<ws.length
 ·have hl:allocF σ cls ws=((0,1),σ):=by simp[allocF,hbad]
  rw[hl]
  refine⟨G,?_,Stp.refl _ _ _,ab,q,sv,P,L,rfl,r⟩
  rw[k37 _ _ (by simp),hv]
  by_cases c1:cls<0
  ·simp only[bodyOf,Option.getD_some,go_sem,seval,Tryz.f37,c1]
   try rfl
  by_cases c2:5≤cls
  ·simp only[bodyOf,Option.getD_some,go_sem,seval,Tryz.f37,c1,c2]
   try rfl
  have c3:sizeI cls<(ws.length:Int):=by omega
  simp only[bodyOf,Option.getD_some,go_sem,seval,Tryz.f37,c1,c2,es,c3]
  try rfl
 have c1:¬cls<0:=by omega
 have c2:¬5≤cls:=by omega
 have c3:¬sizeI cls<(ws.length:Int):=by omega
 obtain⟨k,rfl⟩:∃k:Nat,cls=(k:Int):=⟨cls.toNat,by omega⟩
 have hk:k<5:=by omega
 have a0:(0:Int)≤(k:Int):=by omega
 have a1:(k:Int)<5:=by omega
 have cP:=arr5 sv P k hk
 have hp:=r.pools k hk
 cases hfree:σ.free k with
 |nil=>
  have hl:allocF σ (k:Int) ws=((0,2),σ):=by simp[allocF,hbad,hfree]
  rw[hl]
  rw[hfree] at hp
  have e:=Take_none G _ (P k) 1024 hp
  refine⟨G,?_,Stp.refl _ _ _,ab,q,sv,P,L,rfl,r⟩
  rw[k37 _ _ (by simp),hv]
  simp only[bodyOf,Option.getD_some,go_sem,seval,Tryz.f37,c1,c2,es,c3,pools_idx ab 1 k .i64 hk,ga,cP,e]
 |cons n0 l=>
  rw[hfree] at hp
  obtain⟨G1,e1,st1,p1⟩:=Take_K G _ (P k) 1024 n0 l hp
  obtain⟨n0nn,s,hs,hscl,hsl⟩:=r.ok.free k hk n0 (by rw[hfree];simp)
  obtain⟨n,hn⟩:∃n:Nat,n0=(n:Int):=⟨n0.toNat,by omega⟩
  subst hn
  rw[Int.toNat_natCast] at hs
  have hnl:(n:Int)∉l:=by
   obtain⟨_,_,_,_,_,_,_,_,_,_,_,_,_,_,_,_,hr,_⟩:=hp
   exact(List.nodup_cons.1 hr.nodup).1
  have ok1:ArenaOk ⟨σ.slots,updF σ.free k l⟩:=by
   refine⟨r.ok.len,r.ok.cls,r.ok.gen,r.ok.words,fun i hi m hm=>r.ok.free i hi m ?_⟩
   by_cases q:i=k
   ·subst q;simp only[updF_self] at hm;rw[hfree];exact List.mem_cons_of_mem _ hm
   ·simp only[updF_ne _ _ _ _ q] at hm;exact hm
  have r1:=r.pool hc0 hk st1 p1 ok1
  have hs1:(⟨σ.slots,updF σ.free k l⟩:ArenaS).slots[n]? =some s:=hs
  obtain⟨b,x,q',wv,g1,g2,g3,g4,g5,g6,k0,k1,k2,k3,fz⟩:=r1.slot hs1
  have hx:x=none∨x=some 4:=by
   rcases r1.grow with⟨g,_⟩|⟨b2,x2,q2,g,hx,_⟩
   ·rw[g] at g1;cases g1
   ·rw[g] at g1;simp at g1;rw[←g1.2];exact hx
  have hne:=r1.ne hs1 g1
  have lb:=NHeap.get_lt g3
  obtain⟨H2,hH2⟩:∃H2,G1.h.set b (.cells (rows slotC (L.set n ({s with live:=true},wv))) (.own q'))=H2:=⟨_,rfl⟩
  have g2b:H2.get b=some (.cells (rows slotC (L.set n ({s with live:=true},wv))) (.own q')):=by rw[←hH2];exact NHeap.get_set_same lb
  have u2:Upd [b] G1.h H2:=by rw[←hH2];exact(Upd.refl _ _).set (.inl (by simp)) _
  obtain⟨st2,r2⟩:=r1.put (s':={s with live:=true}) g1 hx (by omega) g4 hne u2 g2b lb hc0 (fun _=>by
   have stz:Stp c (c+1) G1 ⟨H2,newCol G1.h G1.col fun _=>0⟩:=Stp.of_upd u2 (by rintro d hd _;simp at hd;subst hd;omega) _
   exact fz.step stz hc0) (ok1.set hs1 rfl (r.ok.gen s (List.mem_of_getElem? hs)) (r.ok.words s (List.mem_of_getElem? hs)) (.inr fun i hi m hm q=>by
    obtain⟨m0,y,hy1,hy2,hy3⟩:=ok1.free i hi m hm
    rw[q] at hy1
    rw[hs1] at hy1
    cases hy1
    have hik:i=k:=by omega
    subst hik
    simp only[updF_self] at hm
    have:m=(n:Int):=by omega
    subst this
    exact hnl hm))
  have hs2:(σ.slots.set n {s with live:=true})[n]? =some {s with live:=true}:=List.getElem?_set_self (List.getElem?_eq_some_iff.1 hs).1
  have fv2:Fz ⟨H2,newCol G1.h G1.col fun _=>0⟩ 1 v ws.length (rows U ws):=(fv.step st1 (by omega)).step st2 hc0
  have hsz:=size_cases k hk
  obtain⟨G3,L3,e3,st3,r3⟩:=fillSlot_K hc0 r2 hs2 g1 v ws fv2 hlt (by show ws.length≤sizeN s.cls;rw[hscl];omega)
  have hl:allocF σ (k:Int) ws=((refI n s.gen (decide ((k:Int)=0)),0),⟨σ.slots.set n {s with live:=true,words:=fillW s.cls ws},updF σ.free k l⟩):=by
   simp[allocF,hbad,hfree,hs]
  rw[hl]
  rw[List.set_set] at r3
  obtain⟨b',x',q'',wv',f1,f2,f3,f4,f5,f6,j0,j1,j2,j3,fz'⟩:=r3.slot (n:=n) (s:={s with live:=true,words:=fillW s.cls ws}) (List.getElem?_set_self (List.getElem?_eq_some_iff.1 hs).1)
  have hbb:b'=b:=by rw[g1] at f1;simp at f1;exact f1.1.symm
  subst hbb
  have ga1:=r1.ga
  rw[g1] at ga1
  have i0:(0:Int)≤(n:Int):=by omega
  have i1:(n:Int)<(L.length:Int):=by omega
  have i2:n*4+2+1≤(rows slotC L).length:=by omega
  have ss:=setRange_single (rows slotC L) (n*4+2) (.bool true) (by omega)
  rw[slot_live L n s wv true g2] at ss
  have er:=fun h=>Ref_K (n:Int) s.gen (decide ((k:Int)=0)) h
  refine⟨G3,?_,((st1.mono (by omega) (by omega)).trans st2).trans st3,ab,q,sv,P,L3,rfl,r3⟩
  rw[k37 _ _ (by simp)]
  rw[hv] at e3⊢
  simp only[bodyOf,Option.getD_some,go_sem,seval,Tryz.f37,c1,c2,es,c3,pools_idx ab 1 k .i64 hk,ga,cP,e1,ga1,i0,i1,i2,g3,ss,lb,hH2,e3,f3,j1,er]
  try rfl
theorem Room_K {G c a σ} (r:ArenaRep G c a σ) (cls:Int):K env 111 [a,.int .i64 cls] G.h=some (.int .i64 (roomF σ cls),G.h):=by
 obtain⟨ab,q,sv,P,L,rfl,r⟩:=r
 have ga:=r.ga
 rw[k111 _ _ (by simp),roomF]
 by_cases c1:cls<0
 ·rw[if_pos (.inl c1)]
  simp only[bodyOf,Option.getD_some,go_sem,seval,Tryz.f111,c1]
  try rfl
 by_cases c2:5≤cls
 ·rw[if_pos (.inr c2)]
  simp only[bodyOf,Option.getD_some,go_sem,seval,Tryz.f111,c1,c2]
  try rfl
 rw[if_neg (by omega)]
 obtain⟨k,rfl⟩:∃k:Nat,cls=(k:Int):=⟨cls.toNat,by omega⟩
 have hk:k<5:=by omega
 have a0:(0:Int)≤(k:Int):=by omega
 have a1:(k:Int)<5:=by omega
 have cP:=arr5 sv P k hk
 have e:=PoolLen_K G _ (P k) 1024 _ (r.pools k hk)
 simp only[bodyOf,Option.getD_some,go_sem,seval,Tryz.f111,c1,c2,pools_idx ab 1 k .i64 hk,ga,cP,e,Int.toNat_natCast]
end arena
end Go.Proofs.YtkjpldganajkkaaGreatDoor.S
namespace Go.Proofs.YtkjpldganajkkaaGreatDoor.S
open Go Go.RowKit Go.Proofs.YtkjpldganajkkaaGreatDoor.NICE
namespace arena
open word pool mir pack
theorem ref_gen (n g:Int) (b:Bool) (h:refI n g b≠0):0≤n∧n<1024∧1≤g∧g≤1073741824:=by
 unfold refI at h
 split at h
 ·exact absurd rfl h
 ·omega
theorem parts_ok (r:Int) (h:(partsI r).2.2.2=true):r≠0∧refI (partsI r).1 (partsI r).2.1 (partsI r).2.2.1=r∧0≤(partsI r).1∧(partsI r).1<1024∧1≤(partsI r).2.1∧(partsI r).2.1≤1073741824:=by
 unfold partsI at h⊢
 simp only at h⊢
 split at h
 ·cases h
 ·rename_i q
  rw[if_neg q]
  have q0:r≠0:=fun p=>q (.inl p)
  have q1:refI (r%65536) (r/65536%4294967296) (!(r/281474976710656%2==0))=r:=by
   by_cases p:refI (r%65536) (r/65536%4294967296) (!(r/281474976710656%2==0))=r
   ·exact p
   ·exact absurd (.inr p) q
  have:=ref_gen (r%65536) (r/65536%4294967296) (!(r/281474976710656%2==0)) (by rw[q1];exact q0)
  exact⟨q0,q1,this⟩
theorem of_ok {σ:ArenaS} {ref:Int} (h:(ofF' σ ref).2=0):∃s,σ.slots[(ofF' σ ref).1]? =some s∧s.live=true∧s.gen=(partsI ref).2.1∧(partsI ref).2.2.2=true∧(partsI ref).1=((ofF' σ ref).1:Int)∧(partsI ref).2.2.1=(s.cls==0):=by
 unfold ofF' at h⊢
 cases hs:σ.slots[(partsI ref).1.toNat]? with
 |none=>rw[hs] at h;simp[ofS] at h
 |some s=>
  rw[hs] at h
  unfold ofS at h⊢
  simp only at h⊢
  split at h
  ·cases h
  ·rename_i q1
   split at h
   ·cases h
   ·rename_i q2
    split at h
    ·cases h
    ·rename_i q3
     rw[if_neg q1,if_neg q2,if_neg q3]
     have hp:(partsI ref).2.2.2=true:=by
      cases hq:(partsI ref).2.2.2 with
      |true=>rfl
      |false=>exact absurd (.inl hq) q1
     have h0:=(parts_ok ref hp).2.2.1
     refine⟨s,hs,by simpa using q3,Classical.not_not.1 q2,hp,by simp only;omega,?_⟩
     by_cases p:(partsI ref).2.2.1=(s.cls==0)
     ·exact p
     ·exact absurd (.inr p) q1
theorem rise_short:∀(l:List Int) (a b:Int),Rise l→(∀x∈l,a≤x∧x<b)→(l.length:Int)≤max (b-a) 0
 |[],a,b,_,_=>by simp;omega
 |x::l,a,b,hr,h=>by
  have h1:=h x (by simp)
  have h2:=List.pairwise_cons.1 hr
  have ih:=rise_short l (x+1) b h2.2 fun y hy=>⟨by have:=h2.1 y hy;omega,(h y (by simp[hy])).2⟩
  simp only[List.length_cons]
  omega
theorem free_short {σ:ArenaS} (o:ArenaOk σ) {k:Nat} (hk:k<5) (hr:Rise (σ.free k)):(σ.free k).length≤1024:=by
 have:=rise_short (σ.free k) 0 1024 hr fun x hx=>by
  obtain⟨h0,s,hs,_⟩:=o.free k hk x hx
  have h1:=(List.getElem?_eq_some_iff.1 hs).1
  have:=o.len
  omega
 omega
theorem pool_rise {G:Gh} {c p most l} (r:PoolRep G c p most l):Rise l:=by
 obtain⟨_,_,_,_,_,_,_,_,_,_,_,_,_,_,_,_,hr,_⟩:=r
 exact hr
theorem pool_veq {G:Gh} {c p most l} (r:PoolRep G c p most l):veq 50 p p=true:=by
 obtain⟨pb,_,_,_,_,_,rfl,_⟩:=r
 rw[veq_ptr];simp
set_option maxHeartbeats 2000000 in
theorem Free_K {G c a σ} (hc0:0<c) (r:ArenaRep G c a σ) (ref:Int):
  ∃G',K env 143 [a,.int .i64 ref] G.h=some (.int .i64 (freeF σ ref).1,G'.h)∧Stp c (c+6) G G'∧ArenaRep G' c a (freeF σ ref).2:=by
 obtain⟨ab,q,sv,P,L,rfl,r⟩:=r
 obtain⟨pv,e,h1|⟨h1,b,x,s,hsv,hpv,hs,hlive⟩⟩:=of_K r ref
 ·obtain⟨h1,rfl⟩:=h1
  have hl:freeF σ ref=((ofF' σ ref).2,σ):=by simp[freeF,h1]
  rw[hl]
  refine⟨G,?_,Stp.refl _ _ _,ab,q,sv,P,L,rfl,r⟩
  rw[k143 _ _ (by simp)]
  simp only[bodyOf,Option.getD_some,go_sem,seval,Tryz.f143,e,h1]
 obtain⟨s',hs',_,hgen,hpok,hpn,_⟩:=of_ok h1
 rw[hs] at hs'
 cases hs'
 obtain⟨n,hn⟩:∃n,(ofF' σ ref).1=n:=⟨_,rfl⟩
 rw[hn] at hs hpv hpn
 obtain⟨b',x',q',wv,g1,g2,g3,g4,g5,g6,k0,k1,k2,k3,fz⟩:=r.slot hs
 have hbb:b'=b:=by rw[hsv] at g1;simp at g1;exact g1.1.symm
 subst hbb
 have hne:=r.ne hs hsv
 have hx':x'=none∨x'=some 4:=by
  rcases r.grow with⟨g,_⟩|⟨b2,x2,q2,g,hx,_⟩
  ·rw[g] at g1;cases g1
  ·rw[g] at g1;simp at g1;rw[←g1.2];exact hx
 have hcl:=r.ok.cls s (List.mem_of_getElem? hs)
 have hg0:=(parts_ok ref hpok).2.2.2.2
 rw[←hgen] at hg0
 rw[h1,hpv] at e
 have lb:=NHeap.get_lt g3
 obtain⟨wb,h1',ep,x1,hwb,gw⟩:=poison_K s.cls hcl G.h
 have g31:=x1.get g3
 have lb1:=NHeap.get_lt g31
 obtain⟨pvv,hpvv⟩:∃pvv:NVal,.slice (some (wb,0)) (sizeN s.cls) (sizeN s.cls) none=pvv:=⟨_,rfl⟩
 rw[hpvv] at ep
 obtain⟨L1,hL1⟩:∃L1,L.set n ({s with words:=poisonW s.cls},pvv)=L1:=⟨_,rfl⟩
 have e1:L1[n]? =some ({s with words:=poisonW s.cls},pvv):=by rw[←hL1];exact List.getElem?_set_self g5
 have ss1:=setRange_single (rows slotC L) (n*4+3) pvv (by omega)
 rw[slot_words L n s wv pvv (poisonW s.cls) g2,hL1] at ss1
 obtain⟨H1,hH1⟩:∃H1,h1'.set b' (.cells (rows slotC L1) (.own q'))=H1:=⟨_,rfl⟩
 have gH1:H1.get b'=some (.cells (rows slotC L1) (.own q')):=by rw[←hH1];exact NHeap.get_set_same lb1
 have lH1:=NHeap.get_lt gH1
 have l1:(rows slotC L1).length=L.length*4:=by rw[rows_len slotC_len,←hL1,List.length_set]
 have r1:=rows_at slotC_len L1 n _ e1
 have j1:(rows slotC L1)[n*4+1]? =some (.int .i64 s.gen):=rowcell r1 rfl
 obtain⟨L2,hL2⟩:∃L2,L1.set n ({s with words:=poisonW s.cls,gen:=s.gen+1},pvv)=L2:=⟨_,rfl⟩
 have e2:L2[n]? =some ({s with words:=poisonW s.cls,gen:=s.gen+1},pvv):=by rw[←hL2];exact List.getElem?_set_self (by rw[←hL1,List.length_set];exact g5)
 have ss2:=setRange_single (rows slotC L1) (n*4+1) (.int .i64 (s.gen+1)) (by omega)
 rw[slot_gen L1 n _ pvv (s.gen+1) e1,hL2] at ss2
 obtain⟨H2,hH2⟩:∃H2,H1.set b' (.cells (rows slotC L2) (.own q'))=H2:=⟨_,rfl⟩
 have gH2:H2.get b'=some (.cells (rows slotC L2) (.own q')):=by rw[←hH2];exact NHeap.get_set_same lH1
 have lH2:=NHeap.get_lt gH2
 have l2:(rows slotC L2).length=L.length*4:=by rw[rows_len slotC_len,←hL2,List.length_set,←hL1,List.length_set]
 obtain⟨L3,hL3⟩:∃L3,L2.set n ({s with words:=poisonW s.cls,gen:=s.gen+1,live:=false},pvv)=L3:=⟨_,rfl⟩
 have e3:L3[n]? =some ({s with words:=poisonW s.cls,gen:=s.gen+1,live:=false},pvv):=by rw[←hL3];exact List.getElem?_set_self (by rw[←hL2,List.length_set,←hL1,List.length_set];exact g5)
 have ss3:=setRange_single (rows slotC L2) (n*4+2) (.bool false) (by omega)
 rw[slot_live L2 n _ pvv false e2,hL3] at ss3
 obtain⟨H3,hH3⟩:∃H3,H2.set b' (.cells (rows slotC L3) (.own q'))=H3:=⟨_,rfl⟩
 have gH3:H3.get b'=some (.cells (rows slotC L3) (.own q')):=by rw[←hH3];exact NHeap.get_set_same lH2
 have r3:=rows_at slotC_len L3 n _ e3
 have m0:(rows slotC L3)[n*4]? =some (.int .i64 s.cls):=rowcell (j:=0) r3 rfl
 have m1:(rows slotC L3)[n*4+1]? =some (.int .i64 (s.gen+1)):=rowcell r3 rfl
 have hLL:L3=L.set n ({s with words:=poisonW s.cls,gen:=s.gen+1,live:=false},pvv):=by rw[←hL3,←hL2,←hL1,List.set_set,List.set_set]
 have u3:Upd [b'] G.h H3:=by
  rw[←hH3,←hH2,←hH1]
  exact((((Upd.of_ext x1).mono (by simp)).set (.inl (by simp)) _).set (.inl (by simp)) _).set (.inl (by simp)) _
 have gw3:H3.get wb=some (.cells (rows U (poisonW s.cls)) (.own none)):=by
  have:wb≠b':=by omega
  rw[←hH3,NHeap.get_set_ne this,←hH2,NHeap.get_set_ne this,←hH1,NHeap.get_set_ne this];exact gw
 have nfree:∀i,i<5→∀m∈σ.free i,m.toNat≠n:=fun i hi m hm p=>by
  obtain⟨_,y,hy,_,hy3⟩:=r.ok.free i hi m hm
  rw[p,hs] at hy
  cases hy
  rw[hlive] at hy3;cases hy3
 obtain⟨st3,ra⟩:=r.put (s':={s with words:=poisonW s.cls,gen:=s.gen+1,live:=false}) (wv':=pvv) g1 hx' (by omega) g4 hne u3 (by rw[gH3,hLL]) lb hc0 (fun _=>by rw[←hpvv];exact fzNew hwb gw3 (poisonW_len _).symm)
  (r.ok.set hs rfl ⟨by show(1:Int)≤s.gen+1;omega,by show s.gen+1≤1073741825;omega⟩ ⟨poisonW_len _,poisonW_lt _⟩ (.inr nfree))
 have wg:IntKind.i64.wrap (s.gen+1)=s.gen+1:=wrap_i64_small (by omega) (by omega)
 have eP:=Parts_K ref H3
 rw[hpn] at eP
 have i1:n*4+1+1≤L.length*4:=by omega
 have i2:n*4+2+1≤L.length*4:=by omega
 have i3:n*4+3+1≤L.length*4:=by omega
 have nH1:h1'.next≤H1.next:=by rw[←hH1];exact Nat.le_refl _
 subst hpvv
 by_cases hgm:s.gen+1≤1073741824
 case neg=>
  have hl:freeF σ ref=(0,⟨σ.slots.set n {s with words:=poisonW s.cls,gen:=s.gen+1,live:=false},σ.free⟩):=by simp[freeF,h1,hn,hs,hgm]
  rw[hl]
  refine⟨_,?_,st3,ab,q,sv,P,_,rfl,ra⟩
  rw[k143 _ _ (by simp)]
  simp only[bodyOf,Option.getD_some,go_sem,seval,Tryz.f143,e,g3,k0,ep,g31,g6,l1,l2,i1,i2,i3,ss1,lb1,hH1,gH1,j1,wg,ss2,lH1,hH2,gH2,ss3,lH2,hH3,eP,gH3,m0,m1,hgm,Nat.add_zero]
  try rfl
 ·have hl:freeF σ ref=(0,⟨σ.slots.set n {s with words:=poisonW s.cls,gen:=s.gen+1,live:=false},updF σ.free s.cls (ins n (σ.free s.cls))⟩):=by simp[freeF,h1,hn,hs,hgm]
  rw[hl]
  have hp3:=ra.pools s.cls hcl
  have hr3:=pool_rise hp3
  have hsh:=free_short ra.ok hcl hr3
  have hnf:(n:Int)∉σ.free s.cls:=fun q=>nfree s.cls hcl _ q (by omega)
  have hnl:(n:Int)<1024:=by have:=r.ok.len;have:=(List.getElem?_eq_some_iff.1 hs).1;omega
  obtain⟨G4,e4,st4,p4⟩:=Put_K _ _ (P s.cls) 1024 (σ.free s.cls) hp3 n (by omega) hnl hnf (by show(σ.free s.cls).length+1<_;have:(σ.free s.cls).length≤1024:=hsh;omega)
  have cP:=arr5 sv P s.cls hcl
  have vP:=pool_veq hp3
  have gaH:=ra.ga
  have g4b:=st4.get (show(⟨H3,newCol G.h G.col fun _=>0⟩:Gh).h.get b'=_ from gH3) (by show¬(_≤newCol G.h G.col (fun _=>0) b'∧newCol G.h G.col (fun _=>0) b'<_);rw[newCol_old lb];omega)
  have n4:H3.next≤G4.h.next:=st4.next
  have r4:=ra.pool hc0 hcl st4 p4 (by
   refine⟨ra.ok.len,ra.ok.cls,ra.ok.gen,ra.ok.words,fun i hi m hm=>?_⟩
   by_cases q:i=s.cls
   ·subst q
    simp only[updF_self] at hm
    rw[ins_mem] at hm
    rcases hm with rfl|hm
    ·refine⟨by omega,{s with words:=poisonW s.cls,gen:=s.gen+1,live:=false},?_,rfl,rfl⟩
     rw[Int.toNat_natCast]
     exact List.getElem?_set_self (List.getElem?_eq_some_iff.1 hs).1
    ·exact ra.ok.free _ hi m hm
   ·simp only[updF_ne _ _ _ _ q] at hm
    exact ra.ok.free i hi m hm)
  have ga4:=r4.ga
  refine⟨G4,?_,st3.trans (st4.mono (by omega) (by omega)),ab,q,sv,P,_,rfl,r4⟩
  rw[k143 _ _ (by simp)]
  simp only[bodyOf,Option.getD_some,go_sem,seval,Tryz.f143,e,g3,k0,ep,g31,g6,l1,l2,i1,i2,i3,ss1,lb1,hH1,gH1,j1,wg,ss2,lH1,hH2,gH2,ss3,lH2,hH3,eP,gH3,m0,m1,hgm,gaH,pools_idx ab 1 s.cls .i64 hcl,cP,vP,e4,g4b,n4,ga4,Nat.add_zero]
  try rfl
end arena
end Go.Proofs.YtkjpldganajkkaaGreatDoor.S
namespace Go.Proofs.YtkjpldganajkkaaGreatDoor.S
open Go Go.RowKit Go.Proofs.YtkjpldganajkkaaGreatDoor.NICE
namespace arena
open word pool mir pack
def checkF:List Int→Int→Bool
 |[],_=>true
 |n::l,left=>if n<0∨left<n then false else checkF l (left-n)
def ints (l:List Int):List NVal:=l.map fun n=>.int .i64 n
theorem ints_get (l:List Int) (i:Nat):(ints l)[i]? =l[i]?.map fun n=>NVal.int .i64 n:=by simp[ints]
noncomputable def lbA1:Code:=inC (inC (atC (bodyOf Tryz.f35) 3))
noncomputable def lbA2:Code:=inC (inC (atC (bodyOf Tryz.f35) 6))
theorem idx5 (l:List Int) (hl:l.length=5) (i:Nat) (n:Int) (h:l[i]? =some n) (k:IntKind):nindex Tryz.prog 22 (.agg (ints l)) (.int k (i:Int))=some (.int .i64 n):=by
 have hi:=(List.getElem?_eq_some_iff.1 h).1
 have hu:Tryz.prog.underlying 22=some (.array 5 3):=Tryz.underlying22
 have hs:szOf Tryz.prog 3=some 1:=by kernel_rfl
 have h1:(i:Int)<5:=by omega
 have hg:=ints_get l i
 rw[h] at hg
 have:i=0∨i=1∨i=2∨i=3∨i=4:=by omega
 match l,hl with
 |[a,b,c,d,e],_=>
  rcases this with rfl|rfl|rfl|rfl|rfl<;>(simp at h;subst h;simp[nindex,hu,hs,ints];try rfl)
theorem loopA1 (l:List Int) (hl:l.length=5) (h:NHeap) (F0:Fr) (f10:F0 10=.agg (ints l)) (R:Bool) (Q:Out→Prop)
  (hQ1:∀F:Fr,R=false→F 2=.ptr none→F 3=.int .i64 1→Q (some (.ret,toL 72 F,h)))
  (hQ2:∀F:Fr,R=true→Keep [1] F0 F→Q (some (.exit 0,toL 72 F,h))):
  ∀(f i:Nat) (left:Int) (F:Fr),i+f=5→checkF (l.drop i) left=R→0≤left→left≤1024→Keep [1,10] F0 F→F 11=.int .i64 i→F 4=.int .i64 left→Q (C env (.loop lbA1) (toL 72 F) h):=by
 intro f
 induction f with
 |zero=>
  intro i left F hi hr h0 h1 kp f11 f4
  have:i=5:=by omega
  subst this
  rw[List.drop_eq_nil_of_le (by omega),checkF] at hr
  rw[S_loop]
  conv=>arg 1;arg 2;arg 2;simp only[lbA1,bodyOf,Option.getD_some,atC,seqL,inC,elC,List.nil_append,List.cons_append,List.getElem?_cons_succ,List.getElem?_cons_zero,Tryz.f35]
  simp only[go_sem,seval,f11]
  refine hQ2 _ hr.symm ?_
  exact(Keep.sub kp rfl).upd rfl
 |succ f ih=>
  intro i left F hi hr h0 h1 kp f11 f4
  have f10':=(kp 10 rfl).trans f10
  obtain⟨n,hn⟩:∃n,l[i]? =some n:=⟨l[i]'(by omega),List.getElem?_eq_getElem (by omega)⟩
  have hd:l.drop i=n::l.drop (i+1):=by
   rw[List.drop_eq_getElem_cons (by omega)]
   congr 1
   rw[List.getElem?_eq_getElem (by omega)] at hn
   exact Option.some.inj hn
  rw[hd,checkF] at hr
  have i1:(i:Int)<5:=by omega
  have ix:=fun k=>idx5 l hl i n hn k
  have w1:IntKind.i64.wrap ((i:Int)+1)=((i+1:Nat):Int):=by rw[wrap_i64_small (by omega) (by omega)];omega
  rw[S_loop]
  conv=>arg 1;arg 2;arg 2;simp only[lbA1,bodyOf,Option.getD_some,atC,seqL,inC,elC,List.nil_append,List.cons_append,List.getElem?_cons_succ,List.getElem?_cons_zero,Tryz.f35]
  by_cases c1:n<0
  ·rw[if_pos (.inl c1)] at hr
   simp only[go_sem,seval,f11,f10',i1,ix,c1]
   exact hQ1 _ hr.symm (by simp only[go_sem,seval]) (by simp only[go_sem,seval])
  by_cases c2:left<n
  ·rw[if_pos (.inr c2)] at hr
   simp only[go_sem,seval,f11,f10',f4,i1,ix,c1,c2]
   exact hQ1 _ hr.symm (by simp only[go_sem,seval]) (by simp only[go_sem,seval])
  have w2:IntKind.i64.wrap (left-n)=left-n:=wrap_i64_small (by omega) (by omega)
  rw[if_neg (by omega)] at hr
  simp only[go_sem,seval,f11,f10',f4,i1,ix,c1,c2,w1,w2]
  refine ih (i+1) (left-n) _ (by omega) hr (by omega) (by omega) ?_ (by simp only[go_sem,seval]) (by simp only[go_sem,seval])
  repeat(first|exact kp|refine Keep.upd ?_ rfl)
theorem allOne_rows {α:Type} {f:α→List NVal}:∀l:List α,(∀a∈l,allOne (f a)=true)→allOne (rows f l)=true
 |[],_=>rfl
 |a::l,h=>by rw[rows_cons,allOne_append,h a (by simp),allOne_rows l fun b hb=>h b (by simp[hb])];rfl
theorem grow_oneL {α:Type} {f:α→List NVal} {k:Nat} (hf:∀a,(f a).length=k) {st e by_:Nat} {z:NVal} (hu:Tryz.prog.underlying st=some (.slice e)) (hs:szOf Tryz.prog e=some k) (hb:bytesOf Tryz.prog e=some by_) (hz:zeroOf Tryz.prog e=some z) (hzl:z.cells.length=k) (h0:0<k)
  {h:NHeap} {v:NVal} {l:List α} (g:Grow h v k (rows f l) l.length) {nb:Nat} {a:α} {m:Own} (hn:h.get nb=some (.cells (f a) m)) (ha:allOne (f a)=true) (hl:allOne (rows f l)=true) (h2:l.length+1≤1099511627776) (h3:(l.length+1)*by_≤1099511627776) (hzo:allOne z.cells=true:=by rfl):
  ∃h',nappend Tryz.prog st st v (.slice (some (nb,0)) 1 1 none) h=some (.slice (some (h.next,0)) (l.length+1) (l.length+1) (some k),h')∧h'.next=h.next+1∧Grow h' (.slice (some (h.next,0)) (l.length+1) (l.length+1) (some k)) k (rows f (l++[a])) (l.length+1)∧Upd (blk v) h h':=by
 obtain⟨h',q,e1,e2,e3,e4⟩:=append_one hu hs hb hz hzl h0 g (nb:=nb) (o:=0) (c:=1) (y:=none) hn (by rw[List.drop_zero,List.take_of_length_le (by rw[hf];exact Nat.le_refl _)]) (hf a) ha hl h2 h3 hzo
 refine⟨h',e1,e2,.inr ⟨h.next,some k,q,rfl,.inr rfl,?_,?_,by omega⟩,e4⟩
 ·rw[e3,rows_append,rows_cons,rows_nil,List.append_nil]
 ·rw[rows_len hf,List.length_append,List.length_singleton]
structure Pre (G:Gh) (c ab:Nat) (sv:NVal) (P:Nat→NVal) (L:List (SlotS×NVal)) (σ:ArenaS) (m:Nat):Prop where
 ga:G.h.get ab=some (.cells [sv,P 0,P 1,P 2,P 3,P 4] (.own none))
 ca:G.col ab=c
 pools:∀i,i<m→PoolRep G (c+1+i) (P i) 1024 (σ.free i)
 nil:∀i,m≤i→P i=.ptr none∧σ.free i=[]
 grow:Grow G.h sv 4 (rows slotC L) L.length
 cs:∀b∈blk sv,G.col b=c
 ne:∀b∈blk sv,b≠ab
 fst:L.map Prod.fst=σ.slots
 fz:∀x∈L,Fz G 1 x.2 x.1.words.length (rows U x.1.words)
 one:∀x∈L,x.2.one=true
 ok:ArenaOk σ
theorem growStep {lo hi c:Nat} {G G':Gh} (s:Stp lo hi G G') {v sz cs n} (g:Grow G.h v sz cs n) (h:∀b∈blk v,G.col b=c) (hc:¬(lo≤c∧c<hi)):Grow G'.h v sz cs n∧∀b∈blk v,G'.col b=c:=by
 refine⟨?_,fun b hb=>by rw[s.col b (g.lt b hb)];exact h b hb⟩
 rcases g with g|⟨b,x,q,rfl,hx,hg,hl,hn⟩
 ·exact .inl g
 ·exact .inr ⟨b,x,q,rfl,hx,s.get hg (by rw[h b (by simp[blk])];exact hc),hl,hn⟩
def updP (P:Nat→NVal) (i:Nat) (p:NVal):Nat→NVal:=fun j=>if j=i then p else P j
theorem arr5_set (sv:NVal) (P:Nat→NVal) (k:Nat) (hk:k<5) (p:NVal):setRange [sv,P 0,P 1,P 2,P 3,P 4] (1+k) [p]=[sv,updP P k p 0,updP P k p 1,updP P k p 2,updP P k p 3,updP P k p 4]:=by
 have:k=0∨k=1∨k=2∨k=3∨k=4:=by omega
 rcases this with rfl|rfl|rfl|rfl|rfl<;>rfl
theorem ok_add {σ:ArenaS} (o:ArenaOk σ) (k:Nat) (hk:k<5) (hl:σ.slots.length+1≤1024):ArenaOk (addSlot k σ):=by
 have app:∀(P:SlotS→Prop),(∀s∈σ.slots,P s)→P ⟨k,1,false,poisonW k⟩→∀s∈σ.slots++[⟨k,1,false,poisonW k⟩],P s:=fun P h1 h2 s hs=>by
  rw[List.mem_append] at hs
  rcases hs with hs|hs
  ·exact h1 s hs
  ·simp at hs;subst hs;exact h2
 refine⟨by simp[addSlot];omega,app _ o.cls hk,app _ o.gen ⟨Int.le_refl _,by show(1:Int)≤1073741825;decide⟩,app _ o.words ⟨poisonW_len k,poisonW_lt k⟩,fun i hi n hn=>?_⟩
 have old:n∈σ.free i→0≤n∧∃s,(addSlot k σ).slots[n.toNat]? =some s∧s.cls=i∧s.live=false:=fun h=>by
  obtain⟨h0,s,hs,h2⟩:=o.free i hi n h
  refine⟨h0,s,?_,h2⟩
  show(σ.slots++_)[n.toNat]? =_
  rw[List.getElem?_append_left (List.getElem?_eq_some_iff.1 hs).1];exact hs
 by_cases q:i=k
 ·subst q
  have hn':n∈σ.free i++[(σ.slots.length:Int)]:=by simpa[addSlot,updF] using hn
  rw[List.mem_append] at hn'
  rcases hn' with h|h
  ·exact old h
  ·simp at h;subst h
   refine⟨by omega,⟨i,1,false,poisonW i⟩,?_,rfl,rfl⟩
   show(σ.slots++[⟨i,1,false,poisonW i⟩])[_]? =_
   rw[Int.toNat_natCast,List.getElem?_append_right (Nat.le_refl _),Nat.sub_self];rfl
 ·refine old ?_
  simpa[addSlot,updF,q] using hn
noncomputable def lbA3:Code:=inC (inC (atC (inC (atC lbA2 2)) 3))
set_option maxHeartbeats 2000000 in
theorem loopA3 (c ab i N:Nat) (hc0:0<c) (hi:i<5) (G0:Gh) (R:ArenaS) (F0:Fr) (f7:F0 7=.ptr (some (ab,0))) (f8:F0 8=.int .i64 i) (f41:F0 41=.int .i64 N) (Q:Out→Prop)
  (hQ:∀(G:Gh) (sv:NVal) (P:Nat→NVal) (L:List (SlotS×NVal)) (F:Fr),Pre G c ab sv P L R (i+1)→Stp c (c+6) G0 G→Keep [1,7,27,28] F0 F→Q (some (.exit 4,toL 72 F,G.h))):
  ∀(f j:Nat) (G:Gh) (sv:NVal) (P:Nat→NVal) (L:List (SlotS×NVal)) (σ:ArenaS) (F:Fr),j+f=N→N≤1024→addSlots i f σ=R→σ.slots.length+f≤1024→Pre G c ab sv P L σ (i+1)→Stp c (c+6) G0 G→Keep [1,7,8,27,28,41] F0 F→F 42=.int .i64 j→Q (C env (.loop lbA3) (toL 72 F) G.h):=by
 intro f
 induction f with
 |zero=>
  intro j G sv P L σ F hj hN hR hl pre st kp f42
  have:j=N:=by omega
  subst this
  have f41':=(kp 41 rfl).trans f41
  rw[addSlots] at hR
  subst hR
  rw[S_loop]
  conv=>arg 1;arg 2;arg 2;simp only[lbA3,lbA2,bodyOf,Option.getD_some,atC,seqL,inC,elC,List.nil_append,List.cons_append,List.getElem?_cons_succ,List.getElem?_cons_zero,Tryz.f35]
  simp only[go_sem,seval,f41',f42]
  exact hQ G sv P L _ pre st ((Keep.sub kp rfl).upd rfl)
 |succ f ih=>
  intro j G sv P L σ F hj hN hR hl pre st kp f42
  have f7':=(kp 7 rfl).trans f7
  have f8':=(kp 8 rfl).trans f8
  have f41':=(kp 41 rfl).trans f41
  have i1:(j:Int)<(N:Int):=by omega
  have w1:IntKind.i64.wrap ((j:Int)+1)=((j+1:Nat):Int):=by rw[wrap_i64_small (by omega) (by omega)];omega
  have hlen:L.length=σ.slots.length:=by rw[←pre.fst,List.length_map]
  have hp:=pre.pools i (by omega)
  have hle:∀x∈σ.free i,x<(σ.slots.length:Int):=fun x hx=>by
   obtain⟨h0,s,hs,_⟩:=pre.ok.free i hi x hx
   have:=(List.getElem?_eq_some_iff.1 hs).1
   omega
  have hsh:=free_short pre.ok hi (pool_rise hp)
  obtain⟨G1,e1,st1,p1⟩:=Put_K G _ (P i) 1024 (σ.free i) hp (σ.slots.length:Int) (by omega) (by omega) (fun q=>by have:=hle _ q;omega) (by omega)
  rw[ins_last _ _ hle] at p1
  have vP:=pool_veq hp
  have ga:=pre.ga
  have ga1:=st1.get ga (by rw[pre.ca];omega)
  have cP:=arr5 sv P i hi
  obtain⟨bo,svl,cp,x,hsv,hsl⟩:∃bo svl cp x,sv=.slice bo svl cp x∧svl=L.length:=by
   rcases pre.grow with⟨g1,_,g3⟩|⟨b,x',q',g1,_⟩
   ·exact⟨_,_,_,_,g1,g3.symm⟩
   ·exact⟨_,_,_,_,g1,rfl⟩
  have hve:veq 50 sv sv=true:=pre.grow.veq
  obtain⟨H0,hH0⟩:∃H0,G1.h.alloc .dead=H0:=⟨_,rfl⟩
  have x0:Ext G1.h H0:=by rw[←hH0];exact(Ext.refl _).alloc _
  have n0:H0.next=G1.h.next+1:=by rw[←hH0];rfl
  obtain⟨wb,h1,ep,x1,hwb,gw⟩:=poison_K i hi H0
  obtain⟨s',hs'⟩:∃s':SlotS,s'=⟨i,1,false,poisonW i⟩:=⟨_,rfl⟩
  have lG1:G1.h.next<h1.next:=by have:=x1.next;omega
  obtain⟨H2,hH2⟩:∃H2,h1.set G1.h.next (.cells [.int .i64 i,.int .i64 1,.bool false,.slice (some (wb,0)) (sizeN i) (sizeN i) none] (.own none))=H2:=⟨_,rfl⟩
  have x2:Ext G1.h H2:=by rw[←hH2];exact(x0.trans x1).set (Nat.le_refl _) _
  have n2:H2.next=h1.next:=by rw[←hH2];rfl
  have gN:H2.get G1.h.next=some (.cells (slotC (s',.slice (some (wb,0)) (sizeN i) (sizeN i) none)) (.own none)):=by rw[←hH2,hs'];exact NHeap.get_set_same lG1
  obtain⟨gr1,cs1⟩:=growStep st1 pre.grow pre.cs (by omega)
  have gr2:Grow H2 sv 4 (rows slotC L) L.length:=gr1.upd (Upd.of_ext x2) (by simp)
  obtain⟨h3,ap,n3,gr3,u3⟩:=grow_oneL slotC_len Tryz.underlying138 sz147 by147 ze147 rfl (by decide) gr2 gN rfl (allOne_rows L fun a ha=>by
   have:=pre.one a ha
   simp[slotC,allOne,NVal.one] at this⊢
   exact this) (by omega) (by omega)
  have ga2:=x2.get ga1
  have gad:=(x0.trans x1).get ga1
  have gaz:=x0.get ga1
  have ga3:=u3.get ga2 (fun hm=>pre.ne ab hm rfl)
  have la3:=NHeap.get_lt ga3
  obtain⟨H4,hH4⟩:∃H4,h3.set ab (.cells [.slice (some (H2.next,0)) (L.length+1) (L.length+1) (some 4),P 0,P 1,P 2,P 3,P 4] (.own none))=H4:=⟨_,rfl⟩
  have ga4:H4.get ab=some (.cells [.slice (some (H2.next,0)) (L.length+1) (L.length+1) (some 4),P 0,P 1,P 2,P 3,P 4] (.own none)):=by rw[←hH4];exact NHeap.get_set_same la3
  have u4:Upd [ab] h3 H4:=by rw[←hH4];exact(Upd.refl _ _).set (.inl (by simp)) _
  have Uu:Upd (ab::blk sv) G1.h H4:=(((Upd.of_ext x2).mono (by simp)).trans (u3.mono (by intro d hd;exact .inl (List.mem_cons_of_mem _ hd)))).trans (u4.mono (by simp))
  have ca1:G1.col ab=c:=by rw[st1.col _ (NHeap.get_lt ga)];exact pre.ca
  have lA:ab<G1.h.next:=NHeap.get_lt ga1
  obtain⟨fc,hfc⟩:∃fc:Nat→Nat,fc=fun d=>if d=H2.next then c else 0:=⟨_,rfl⟩
  have st4:Stp c (c+1) G1 ⟨H4,newCol G1.h G1.col fc⟩:=Stp.of_upd Uu (by
   intro d hd _
   rw[List.mem_cons] at hd
   rcases hd with rfl|hd
   ·omega
   ·have:=cs1 d hd;omega) _
  have hnn1:G1.h.next≤H2.next:=x2.next
  have pre':Pre ⟨H4,newCol G1.h G1.col fc⟩ c ab (.slice (some (H2.next,0)) (L.length+1) (L.length+1) (some 4)) P (L++[(s',.slice (some (wb,0)) (sizeN i) (sizeN i) none)]) (addSlot i σ) (i+1):=by
   refine⟨ga4,?_,fun k hk=>?_,fun k hk=>?_,?_,?_,?_,?_,?_,?_,ok_add pre.ok i hi (by omega)⟩
   ·show newCol G1.h G1.col fc ab=c
    rw[newCol_old lA];exact ca1
   ·by_cases q:k=i
    ·subst q
     simp only[addSlot,updF_self]
     exact p1.step st4 (by omega)
    ·simp only[addSlot,updF_ne _ _ _ _ q]
     exact((pre.pools k hk).step st1 (by omega)).step st4 (by omega)
   ·have:=pre.nil k hk
    refine⟨this.1,?_⟩
    simp only[addSlot,updF_ne _ _ _ _ (show k≠i by omega)]
    exact this.2
   ·rw[List.length_append,List.length_singleton]
    exact gr3.upd u4 (by simp[blk];omega)
   ·intro d hd
    simp[blk] at hd
    subst hd
    show newCol G1.h G1.col fc _=c
    rw[newCol_new hnn1,hfc];simp
   ·intro d hd
    simp[blk] at hd
    omega
   ·rw[List.map_append,pre.fst,hs'];rfl
   ·intro y hy
    rw[List.mem_append] at hy
    rcases hy with hy|hy
    ·exact((pre.fz y hy).step st1 (by omega)).step st4 hc0
    ·simp at hy;subst hy
     rw[hs']
     have hwl:wb<h1.next:=NHeap.get_lt gw
     have gw4:H4.get wb=some (.cells (rows U (poisonW i)) (.own none)):=by
      have q1:wb≠G1.h.next:=by omega
      have q2:wb≠ab:=by omega
      have g2:H2.get wb=some (.cells (rows U (poisonW i)) (.own none)):=by rw[←hH2,NHeap.get_set_ne q1];exact gw
      exact u4.get (u3.get g2 (fun hm=>by have:=gr1.lt wb hm;omega)) (by simpa using q2)
     refine⟨rows_len (k:=1) (fun _=>rfl) _,some (wb,0),_,none,by rw[poisonW_len],Nat.le_refl _,.inl rfl,.inr ⟨wb,0,_,_,rfl,gw4,?_,?_⟩⟩
     ·show newCol G1.h G1.col fc wb=0
      rw[newCol_new (by omega),hfc]
      have:wb≠H2.next:=by omega
      simp[this]
     ·show((rows pack.U (poisonW i)).drop 0).take ((poisonW i).length*1)=rows pack.U (poisonW i)
      rw[List.drop_zero,Nat.mul_one,List.take_of_length_le (by rw[rows_len (k:=1) (fun _=>rfl)];omega)]
   ·intro y hy
    rw[List.mem_append] at hy
    rcases hy with hy|hy
    ·exact pre.one y hy
    ·simp at hy;subst hy;rfl
  have e1':K env 61 [P i,.int .i64 (L.length:Int)] G.h=some (.bool true,G1.h):=by rw[hlen];exact e1
  have nG1:G.h.next≤G1.h.next:=st1.next
  have a0:(0:Int)≤(i:Int):=by omega
  have a1:(i:Int)<5:=by omega
  rw[S_loop]
  conv=>arg 1;arg 2;arg 2;simp only[lbA3,lbA2,bodyOf,Option.getD_some,atC,seqL,inC,elC,List.nil_append,List.cons_append,List.getElem?_cons_succ,List.getElem?_cons_zero,Tryz.f35]
  rw[hsv] at ga ga1 ga2 ga3 gad gaz ap hve cP
  rw[hsl] at ga ga1 ga2 ga3 gad gaz ap hve cP
  have nab:¬ab=G1.h.next:=by omega
  have lg1:G1.h.next+1≤h1.next:=by omega
  simp only[go_sem,seval,f7',f8',f41',f42,i1,ga,a0,a1,pools_idx ab 1 i .i64 hi,cP,e1',vP,nG1,hve,ga1,hH0,nab,ep,gad,gaz,hH2,lG1,ap,ga2,ga3,la3,hH4,w1,x0.next,x1.next,x2.next,u3.next,u4.next,n0,lg1]
  refine ih (j+1) ⟨H4,newCol G1.h G1.col fc⟩ _ P _ (addSlot i σ) _ (by omega) hN hR ?_ pre' ((st.trans (st1.mono (by omega) (by omega))).trans (st4.mono (by omega) (by omega))) ?_ ?_
  ·simp[addSlot];omega
  ·repeat(first|exact kp|refine Keep.upd ?_ rfl)
  ·simp only[go_sem,seval]
end arena
end Go.Proofs.YtkjpldganajkkaaGreatDoor.S
namespace Go.Proofs.YtkjpldganajkkaaGreatDoor.S
open Go Go.RowKit Go.Proofs.YtkjpldganajkkaaGreatDoor.NICE
namespace arena
open word pool mir pack
theorem addSlots_len (k:Nat):∀n σ,(addSlots k n σ).slots.length=σ.slots.length+n
 |0,σ=>rfl
 |n+1,σ=>by rw[addSlots,addSlots_len k n];simp[addSlot];omega
set_option maxHeartbeats 2000000 in
theorem loopA2 (c ab:Nat) (hc0:0<c) (l:List Nat) (hl5:l.length=5) (G0:Gh) (R:ArenaS) (F0:Fr) (f7:F0 7=.ptr (some (ab,0))) (f27:F0 27=.agg (ints (l.map fun(n:Nat)=>(n:Int)))) (Q:Out→Prop)
  (hQ:∀(G:Gh) (sv:NVal) (P:Nat→NVal) (L:List (SlotS×NVal)) (F:Fr),Pre G c ab sv P L R 5→Stp c (c+6) G0 G→F 7=.ptr (some (ab,0))→Q (some (.exit 2,toL 72 F,G.h))):
  ∀(f i:Nat) (G:Gh) (sv:NVal) (P:Nat→NVal) (L:List (SlotS×NVal)) (σ:ArenaS) (F:Fr),i+f=5→newFrom i (l.drop i) σ=R→σ.slots.length+(l.drop i).sum≤1024→Pre G c ab sv P L σ i→Stp c (c+6) G0 G→Keep [1,7,27] F0 F→F 28=.int .i64 i→Q (C env (.loop lbA2) (toL 72 F) G.h):=by
 intro f
 induction f with
 |zero=>
  intro i G sv P L σ F hi hR hl pre st kp f28
  have:i=5:=by omega
  subst this
  rw[List.drop_eq_nil_of_le (by omega),newFrom] at hR
  subst hR
  have f7':=(kp 7 rfl).trans f7
  rw[S_loop]
  conv=>arg 1;arg 2;arg 2;simp only[lbA2,bodyOf,Option.getD_some,atC,seqL,inC,elC,List.nil_append,List.cons_append,List.getElem?_cons_succ,List.getElem?_cons_zero,Tryz.f35]
  simp only[go_sem,seval,f28]
  exact hQ G sv P L _ pre st (by simp only[go_sem,seval,f7'])
 |succ f ih=>
  intro i G sv P L σ F hi hR hl pre st kp f28
  have f7':=(kp 7 rfl).trans f7
  have f27':=(kp 27 rfl).trans f27
  have hi5:i<5:=by omega
  obtain⟨n,hn⟩:∃n,l[i]? =some n:=⟨l[i]'(by omega),List.getElem?_eq_getElem (by omega)⟩
  have hd:l.drop i=n::l.drop (i+1):=by
   rw[List.drop_eq_getElem_cons (by omega)]
   congr 1
   rw[List.getElem?_eq_getElem (by omega)] at hn
   exact Option.some.inj hn
  rw[hd] at hR hl
  rw[newFrom] at hR
  rw[List.sum_cons] at hl
  have i1:(i:Int)<5:=by omega
  have a0:(0:Int)≤(i:Int):=by omega
  have ix:=fun k=>idx5 (l.map fun(n:Nat)=>(n:Int)) (by simp[hl5]) i (n:Int) (by simp[hn]) k
  have w1:IntKind.i64.wrap ((i:Int)+1)=((i+1:Nat):Int):=by rw[wrap_i64_small (by omega) (by omega)];omega
  obtain⟨p,G1,e1,st1,p1⟩:=New_K G (c+1+i) 1024 (by decide) (by decide)
  obtain⟨pb,hpb⟩:∃pb,p=.ptr (some (pb,0)):=by
   obtain⟨pb,_,_,_,_,_,h,_⟩:=p1
   exact⟨pb,h⟩
  subst hpb
  have ga:=pre.ga
  have ca:=pre.ca
  have ga1:=st1.get ga (by omega)
  have la1:=NHeap.get_lt ga1
  have ca1:G1.col ab=c:=by rw[st1.col _ (NHeap.get_lt ga)];exact ca
  obtain⟨H2,hH2⟩:∃H2,G1.h.set ab (.cells [sv,updP P i (.ptr (some (pb,0))) 0,updP P i (.ptr (some (pb,0))) 1,updP P i (.ptr (some (pb,0))) 2,updP P i (.ptr (some (pb,0))) 3,updP P i (.ptr (some (pb,0))) 4] (.own none))=H2:=⟨_,rfl⟩
  have u2:Upd [ab] G1.h H2:=by rw[←hH2];exact(Upd.refl _ _).set (.inl (by simp)) _
  have st2:Stp c (c+1) G1 ⟨H2,newCol G1.h G1.col fun _=>0⟩:=Stp.of_upd u2 (by rintro d hd _;simp at hd;subst hd;omega) _
  have ss:=arr5_set sv P i hi5 (.ptr (some (pb,0)))
  obtain⟨gr1,cs1⟩:=growStep st1 pre.grow pre.cs (by omega)
  have pre2:Pre ⟨H2,newCol G1.h G1.col fun _=>0⟩ c ab sv (updP P i (.ptr (some (pb,0)))) L σ (i+1):=by
   refine⟨by show H2.get ab=_;rw[←hH2];exact NHeap.get_set_same la1,?_,fun k hk=>?_,fun k hk=>?_,gr1.upd u2 (fun b hb=>by simpa using pre.ne b hb),?_,pre.ne,pre.fst,fun y hy=>((pre.fz y hy).step st1 (by omega)).step st2 hc0,pre.one,pre.ok⟩
   ·show newCol G1.h G1.col (fun _=>0) ab=c
    rw[newCol_old la1];exact ca1
   ·by_cases q:k=i
    ·subst q
     rw[(pre.nil k (Nat.le_refl _)).2]
     have:updP P k (.ptr (some (pb,0))) k=.ptr (some (pb,0)):=by simp[updP]
     rw[this]
     exact p1.step st2 (by omega)
    ·have:updP P i (.ptr (some (pb,0))) k=P k:=by simp[updP,q]
     rw[this]
     exact((pre.pools k (by omega)).step st1 (by omega)).step st2 (by omega)
   ·have:updP P i (.ptr (some (pb,0))) k=P k:=by simp[updP,show k≠i by omega]
    rw[this]
    exact pre.nil k (by omega)
   ·intro b hb
    show newCol G1.h G1.col (fun _=>0) b=c
    rw[newCol_old (gr1.lt b hb)];exact cs1 b hb
  have stt:=(st.trans (st1.mono (by omega) (by omega))).trans (st2.mono (Nat.le_refl _) (by omega))
  have nG1:G.h.next≤G1.h.next:=st1.next
  have l6:1+i+1≤6:=by omega
  rw[S_loop]
  conv=>arg 1;arg 2;arg 2;simp only[lbA2,bodyOf,Option.getD_some,atC,seqL,inC,elC,List.nil_append,List.cons_append,List.getElem?_cons_succ,List.getElem?_cons_zero,Tryz.f35]
  simp only[go_sem,seval,f7',f27',f28,i1,a0,ix,e1,ga1,pools_idx ab 1 i .i64 hi5,ss,la1,hH2,nG1,l6,u2.next]
  change Q (thenD env (thenD env (blockC 3 (blockC 4 (C env (.loop lbA3) _ _))) _) _)
  refine loopA3 c ab i n hc0 hi5 G0 (addSlots i n σ) _ ?_ ?_ ?_ (fun r=>Q (thenD env (thenD env (blockC 3 (blockC 4 r)) _) _)) ?_ n 0 ⟨H2,newCol G1.h G1.col fun _=>0⟩ sv (updP P i (.ptr (some (pb,0)))) L σ _ (by omega) (by omega) rfl (by omega) pre2 stt (Keep.refl _ _) ?_
  ·simp only[go_sem,seval,f7']
  ·simp only[go_sem,seval]
  ·simp only[go_sem,seval]
  ·intro G3 sv3 P3 L3 F3 pre3 st3 kp3
   have k28:F3 28=.int .i64 i:=by rw[kp3 28 rfl];simp only[go_sem,seval,f28]
   simp only[go_sem,seval,k28,w1]
   refine ih (i+1) G3 sv3 P3 L3 (addSlots i n σ) _ (by omega) hR (by rw[addSlots_len];omega) pre3 st3 ?_ (by simp only[go_sem,seval])
   have kk:Keep [1,7,27] F F3:=by
    refine Keep.trans ?_ (Keep.sub kp3 rfl)
    repeat(first|exact Keep.refl _ _|refine Keep.upd ?_ rfl)
   repeat(first|exact kp.trans kk|refine Keep.upd ?_ rfl)
  ·simp only[go_sem,seval];try rfl
theorem checkF_nat:∀(l:List Nat) (left:Nat),l.sum≤left→checkF (l.map fun(n:Nat)=>(n:Int)) left=true
 |[],_,_=>rfl
 |n::l,left,h=>by
  rw[List.sum_cons] at h
  rw[List.map_cons,checkF,if_neg (by omega),show(left:Int)-(n:Int)=((left-n:Nat):Int) by omega]
  exact checkF_nat l _ (by omega)
set_option maxHeartbeats 1000000 in
theorem New_K (G:Gh) (c:Nat) (hc0:0<c) (l:List Nat) (hl:l.length=5) (hs:l.sum≤1024):∃a G',K env 35 [.agg (ints (l.map fun(n:Nat)=>(n:Int)))] G.h=some (.tuple [a,.int .i64 0],G'.h)∧Stp c (c+6) G G'∧ArenaRep G' c a (newArena l):=by
 have hck:=checkF_nat l 1024 hs
 match l,hl with
 |[a,b,e,d,f],hl=>
 obtain⟨H1,hH1⟩:∃H1,G.h.alloc (.cells [.int .i64 (a:Int),.int .i64 (b:Int),.int .i64 (e:Int),.int .i64 (d:Int),.int .i64 (f:Int)] (.own none))=H1:=⟨_,rfl⟩
 have x1:Ext G.h H1:=by rw[←hH1];exact(Ext.refl _).alloc _
 have n1:H1.next=G.h.next+1:=by rw[←hH1];rfl
 have g1:H1.get G.h.next=some (.cells [.int .i64 (a:Int),.int .i64 (b:Int),.int .i64 (e:Int),.int .i64 (d:Int),.int .i64 (f:Int)] (.own none)):=by rw[←hH1];simp[NHeap.get_alloc]
 obtain⟨H2,hH2⟩:∃H2,H1.alloc (.cells [.slice none 0 0 none,.ptr none,.ptr none,.ptr none,.ptr none,.ptr none] (.own none))=H2:=⟨_,rfl⟩
 have x2:Ext G.h H2:=by rw[←hH2];exact x1.alloc _
 have g2:H2.get H1.next=some (.cells [.slice none 0 0 none,.ptr none,.ptr none,.ptr none,.ptr none,.ptr none] (.own none)):=by rw[←hH2];simp[NHeap.get_alloc]
 have g1':H2.get G.h.next=some (.cells [.int .i64 (a:Int),.int .i64 (b:Int),.int .i64 (e:Int),.int .i64 (d:Int),.int .i64 (f:Int)] (.own none)):=by rw[←hH2,NHeap.get_alloc,if_neg (by omega)];exact g1
 have il:ints ([a,b,e,d,f].map fun(n:Nat)=>(n:Int))=[.int .i64 (a:Int),.int .i64 (b:Int),.int .i64 (e:Int),.int .i64 (d:Int),.int .i64 (f:Int)]:=rfl
 have pre:Pre ⟨H2,newCol G.h G.col fun _=>c⟩ c H1.next (.slice none 0 0 none) (fun _=>.ptr none) [] ⟨[],fun _=>[]⟩ 0:=by
  refine⟨g2,?_,fun i hi=>by omega,fun i _=>⟨rfl,rfl⟩,Grow.nil _ _,by simp[blk],by simp[blk],rfl,by simp,by simp,⟨by simp,by simp,by simp,by simp,by simp⟩⟩
  show newCol G.h G.col (fun _=>c) H1.next=c
  rw[newCol_new (by omega)]
 have st:Stp c (c+6) G ⟨H2,newCol G.h G.col fun _=>c⟩:=Stp.of_ext _ _ x2 _
 rw[k35 _ _ (by simp),il]
 simp only[bodyOf,Option.getD_some,go_sem,seval,Tryz.f35,hH1,g1]
 change∃v G',outF _ _ (thenD env (blockC 0 (C env (.loop lbA1) _ _)) _)=_∧_
 refine loopA1 ([a,b,e,d,f].map fun(n:Nat)=>(n:Int)) (by simp) H1 _ ?_ true (fun r=>∃v G',outF _ _ (thenD env (blockC 0 r) _)=some (.tuple [v,.int .i64 0],G'.h)∧Stp c (c+6) G G'∧ArenaRep G' c v (newArena [a,b,e,d,f])) ?_ ?_ 5 0 1024 _ (by omega) hck (by decide) (by decide) (Keep.refl _ _) ?_ ?_
 ·simp only[go_sem,seval];try rfl
 ·intro F q;cases q
 ·intro F _ kp
  have k1:F 1=.ptr (some (G.h.next,0)):=by rw[kp 1 rfl];simp only[go_sem,seval]
  simp only[go_sem,seval,k1,hH2,g1',g2]
  change∃v G',outF _ _ (thenD env (blockC 2 (C env (.loop lbA2) _ _)) _)=_∧_
  refine loopA2 c H1.next hc0 [a,b,e,d,f] hl G (newArena [a,b,e,d,f]) _ ?_ ?_ (fun r=>∃v G',outF _ _ (thenD env (blockC 2 r) _)=some (.tuple [v,.int .i64 0],G'.h)∧Stp c (c+6) G G'∧ArenaRep G' c v (newArena [a,b,e,d,f])) ?_ 5 0 ⟨H2,newCol G.h G.col fun _=>c⟩ _ _ [] ⟨[],fun _=>[]⟩ _ (by omega) rfl (by simpa using hs) pre st (Keep.refl _ _) ?_
  ·simp only[go_sem,seval]
  ·simp only[go_sem,seval];try rfl
  ·intro G3 sv P L F3 p3 st3 f7
   refine⟨.ptr (some (H1.next,0)),G3,?_,st3,H1.next,none,sv,P,L,rfl,p3.ga,p3.ca,p3.pools,p3.grow,p3.cs,p3.fst,p3.fz,p3.ok⟩
   simp only[go_sem,seval,f7]
   try rfl
  ·simp only[go_sem,seval];try rfl
 ·simp only[go_sem,seval];try rfl
 ·simp only[go_sem,seval];try rfl
end arena
end Go.Proofs.YtkjpldganajkkaaGreatDoor.S
namespace Go.Proofs.YtkjpldganajkkaaGreatDoor.S
open Go Go.RowKit Go.Proofs.YtkjpldganajkkaaGreatDoor.NICE
namespace epoch
open word pool mir pack arena
theorem clone_R {α:Type} {f:α→List NVal} (hf:∀a,(f a).length=2) (h1:∀a,allOne (f a)=true) (h:NHeap) (v:NVal) (l:List α) (hs:Rw h 2 f v l) (hl:l.length<2^30):∃v' h',K env 167 [v] h=some (v',h')∧Ext h h'∧GrowE h' v' 2 (rows f l) l.length∧∀b∈blk v',h.next≤b∧b<h'.next:=by
 obtain⟨bo,c,x,hv⟩:=hs.form
 rw[k167 _ _ (by simp)]
 cases bo with
 |none=>
  have h0:l=[]:=by
   obtain⟨_,bo',c',x',q1,_,_,q2⟩:=hs
   rw[hv] at q1
   cases q1
   rcases q2 with q2|⟨b,o,all,m,q,_⟩
   ·exact List.eq_nil_of_length_eq_zero q2
   ·cases q
  subst h0
  refine⟨.slice none 0 0 none,h,(by simp only[bodyOf,Option.getD_some,go_sem,seval,Tryz.f167,hv,neq,nilS]),Ext.refl _,.inl ⟨rfl,rfl,rfl⟩,by simp[blk]⟩
 |some a=>
  have hnl:neq Tryz.prog 6 151 v (.slice none 0 0 none)=some false:=by cases hv;rfl
  by_cases h0:l=[]
  ·subst h0
   have ap:=nappend_none (P:=Tryz.prog) Tryz.underlying151 sz250 by250 ze250 rfl (by decide) (hs.ext ((Ext.refl h).alloc (.cells [] (.own none)))) (h.next,0) 0 0 none (by decide) (by decide)
   refine⟨.slice (some (h.next,0)) 0 0 none,h.alloc (.cells [] (.own none)),?_,(Ext.refl h).alloc _,.inr (.inl ⟨_,rfl,rfl,rfl⟩),by simp[blk]⟩
   rw[hv] at hnl ap⊢
   simp only[List.length_nil] at hnl ap⊢
   simp only[bodyOf,Option.getD_some,go_sem,seval,Tryz.f167,hnl,ap]
  ·have hpos:0<l.length:=List.length_pos_iff.2 h0
   have ap:=nappend_new (P:=Tryz.prog) Tryz.underlying151 sz250 by250 ze250 rfl (by decide) (hs.ext ((Ext.refl h).alloc (.cells [] (.own none)))) (rows_one h1 l) (by omega) (by omega) hpos (some (h.next,0)) (.inr ⟨_,_,rfl⟩)
   refine⟨.slice (some (h.next+1,0)) l.length l.length (some 2),_,?_,(((Ext.refl h).alloc (.cells [] (.own none))).alloc (.cells (rows f l) (.own (some (250,0))))),?_,?_⟩
   ·rw[hv] at hnl ap⊢
    simp only[bodyOf,Option.getD_some,go_sem,seval,Tryz.f167,hnl,ap]
   ·refine .inr (.inr ⟨h.next+1,some 2,some (250,0),rfl,.inr rfl,by simp[NHeap.get_alloc],by rw[rows_len hf],hpos⟩)
   ·simp[blk]
def retC (x:Int×Int):List NVal:=[.int .i64 x.1,.int .i64 x.2]
theorem retC_len (x):(retC x).length=2:=rfl
def clC (x:(Int×List (Int×Int))×NVal):List NVal:=[.int .i64 x.1.1,x.2]
theorem clC_len (x):(clC x).length=2:=rfl
structure EpochsOk (ε:EpochsS):Prop where
 now:0≤ε.now∧ε.now≤1073741824
 room:0≤ε.room∧ε.room≤64
 len:ε.cls.length≤8
 lim:∀x∈ε.cls,(x.2.length:Int)≤ε.room∧∀y∈x.2,0≤y.2∧y.2≤ε.now
structure EpochsAt (G:Gh) (c eb:Nat) (q:Option (TypeId×Nat)) (cv:NVal) (L:List ((Int×List (Int×Int))×NVal)) (ε:EpochsS):Prop where
 ge:G.h.get eb=some (.cells [.int .i64 ε.now,.int .i64 ε.room,cv] (.own q))
 ce:G.col eb=c
 grow:Grow G.h cv 2 (rows clC L) L.length
 cs:∀b∈blk cv,G.col b=c
 ne:∀b∈blk cv,b≠eb
 fst:L.map Prod.fst=ε.cls
 lim:∀i x,L[i]? =some x→GrowE G.h x.2 2 (rows retC x.1.2) x.1.2.length∧∀b∈blk x.2,b<G.h.next∧G.col b=c+1+i
 ok:EpochsOk ε
def EpochsRep (G:Gh) (c:Nat) (e:NVal) (ε:EpochsS):Prop:=∃eb q cv L,e=.ptr (some (eb,0))∧EpochsAt G c eb q cv L ε
theorem EpochsAt.len {G c eb q cv L ε} (r:EpochsAt G c eb q cv L ε):L.length=ε.cls.length:=by rw[←r.fst,List.length_map]
theorem EpochsAt.le8 {G c eb q cv L ε} (r:EpochsAt G c eb q cv L ε):L.length≤8:=by rw[r.len];exact r.ok.len
theorem growE_step {lo hi c:Nat} {G G':Gh} (s:Stp lo hi G G') {v sz cs n} (g:GrowE G.h v sz cs n) (h:∀b∈blk v,b<G.h.next∧G.col b=c) (hc:¬(lo≤c∧c<hi)):GrowE G'.h v sz cs n∧∀b∈blk v,b<G'.h.next∧G'.col b=c:=by
 refine⟨?_,fun b hb=>⟨Nat.lt_of_lt_of_le (h b hb).1 s.next,by rw[s.col b (h b hb).1];exact(h b hb).2⟩⟩
 rcases g with g|g|⟨b,x,q,rfl,hx,hg,hl,hn⟩
 ·exact .inl g
 ·exact .inr (.inl g)
 ·have hb:=(h b (by simp[blk])).2
  exact .inr (.inr ⟨b,x,q,rfl,hx,s.get hg (by rw[hb];exact hc),hl,hn⟩)
theorem EpochsAt.step {lo hi c:Nat} {G G':Gh} (s:Stp lo hi G G') (hc:hi≤c∨c+9≤lo) {eb q cv L ε} (r:EpochsAt G c eb q cv L ε):EpochsAt G' c eb q cv L ε where
 ge:=s.get r.ge (by rw[r.ce];omega)
 ce:=by rw[s.col _ (NHeap.get_lt r.ge)];exact r.ce
 grow:=by
  have hcs:=r.cs
  rcases r.grow with g|⟨b,x,q,rfl,hx,hg,hl,hn⟩
  ·exact .inl g
  ·exact .inr ⟨b,x,q,rfl,hx,s.get hg (by rw[hcs b (by simp[blk])];omega),hl,hn⟩
 cs b hb:=by rw[s.col b (r.grow.lt b hb)];exact r.cs b hb
 ne:=r.ne
 fst:=r.fst
 lim i x hx:=by
  obtain⟨g,h⟩:=r.lim i x hx
  have:=(List.getElem?_eq_some_iff.1 hx).1
  have:=r.le8
  exact growE_step s g h (by omega)
 ok:=r.ok
theorem EpochsRep.step {lo hi c:Nat} {G G':Gh} (s:Stp lo hi G G') (hc:hi≤c∨c+9≤lo) {e ε} (r:EpochsRep G c e ε):EpochsRep G' c e ε:=by
 obtain⟨eb,q,cv,L,h1,h2⟩:=r
 exact⟨eb,q,cv,L,h1,h2.step s hc⟩
theorem EpochsAt.cl {G c eb q cv L ε} (r:EpochsAt G c eb q cv L ε) {i:Nat} {x} (h:ε.cls[i]? =some x):
  ∃b x' q' lv,cv=.slice (some (b,0)) L.length L.length x'∧(x'=none∨x'=some 2)∧L[i]? =some (x,lv)∧G.h.get b=some (.cells (rows clC L) (.own q'))∧G.col b=c∧b≠eb∧i<L.length∧(rows clC L).length=L.length*2∧
   (rows clC L)[i*2]? =some (.int .i64 x.1)∧(rows clC L)[i*2+1]? =some lv∧GrowE G.h lv 2 (rows retC x.2) x.2.length∧(∀b∈blk lv,b<G.h.next∧G.col b=c+1+i):=by
 have hn:i<L.length:=by rw[r.len];exact(List.getElem?_eq_some_iff.1 h).1
 have hL:L[i]?.map Prod.fst=some x:=by rw[←h,←r.fst,List.getElem?_map]
 obtain⟨y,hy,hyx⟩:∃y,L[i]? =some y∧y.1=x:=by
  rw[List.getElem?_eq_getElem hn] at hL⊢
  exact⟨_,rfl,by simpa using hL⟩
 rcases r.grow with⟨_,_,g⟩|⟨b,x',q',hcv,hx',hg,hl,hpos⟩
 ·omega
 ·have hr:=rows_at clC_len L i y hy
  have cell:∀j v,(clC y)[j]? =some v→(rows clC L)[i*2+j]? =some v:=fun j v hv=>rowcell hr hv
  have hlim:=r.lim i y hy
  subst hyx
  exact⟨b,x',q',y.2,hcv,hx',hy,hg,r.cs b (by rw[hcv];simp[blk]),r.ne b (by rw[hcv];simp[blk]),hn,hl,cell 0 _ rfl,cell 1 _ rfl,hlim.1,hlim.2⟩
theorem of_K {G c eb q cv L ε} (r:EpochsAt G c eb q cv L ε) (cl:Int):∃pv,K env 144 [.ptr (some (eb,0)),.int .i64 cl] G.h=some (pv,G.h)∧
  ((epOf ε cl=none∧pv=.ptr none)∨∃(i:Nat) (x:Int×List (Int×Int)) (b:Nat) (x':Option Nat),cl=(i:Int)∧ε.cls[i]? =some x∧epOf ε cl=some x∧cv=.slice (some (b,0)) L.length L.length x'∧pv=.ptr (some (b,i*2))):=by
 have ge:=r.ge
 have hlen:=r.len
 rw[k144 _ _ (by simp)]
 by_cases c0:cl<0
 ·refine⟨.ptr none,?_,.inl ⟨by simp[epOf,c0],rfl⟩⟩
  simp only[bodyOf,Option.getD_some,go_sem,seval,Tryz.f144,c0]
  try rfl
 obtain⟨i,rfl⟩:∃i:Nat,cl=(i:Int):=⟨cl.toNat,by omega⟩
 obtain⟨bo,ln,cp,x,hcv,hln⟩:∃bo ln cp x,cv=.slice bo ln cp x∧ln=L.length:=by
  rcases r.grow with⟨g1,_,g3⟩|⟨b,x',q',g1,_⟩
  ·exact⟨_,_,_,_,g1,g3.symm⟩
  ·exact⟨_,_,_,_,g1,rfl⟩
 cases hs:ε.cls[i]? with
 |none=>
  have hge:(ln:Int)≤(i:Int):=by have:=List.getElem?_eq_none_iff.1 hs;omega
  refine⟨.ptr none,?_,.inl ⟨by simp[epOf,c0,hs],rfl⟩⟩
  simp only[bodyOf,Option.getD_some,go_sem,seval,Tryz.f144,c0,ge,hcv,hge]
  try rfl
 |some x=>
  obtain⟨b,x',q',lv,g1,g2,g3,g4,g5,g6,g7,g8,k0,k1,gl,gc⟩:=r.cl hs
  rw[g1] at ge
  have i0:(0:Int)≤(i:Int):=by omega
  have i1:(i:Int)<(L.length:Int):=by omega
  have i2:¬(L.length:Int)≤(i:Int):=by omega
  refine⟨.ptr (some (b,i*2)),?_,.inr ⟨i,x,b,x',rfl,hs,by simp[epOf,hs],g1,rfl⟩⟩
  simp only[bodyOf,Option.getD_some,go_sem,seval,Tryz.f144,c0,ge,i0,i1,i2]
  try rfl
theorem cl_pin (L:List ((Int×List (Int×Int))×NVal)) (n:Nat) (x lv) (p:Int) (h:L[n]? =some (x,lv)):(rows clC L).set (n*2) (.int .i64 p)=rows clC (L.set n ((p,x.2),lv)):=rows_set_cell (j:=0) clC_len L n _ _ _ h (by decide) rfl
theorem cl_lim (L:List ((Int×List (Int×Int))×NVal)) (n:Nat) (x lv) (lv':NVal) (l:List (Int×Int)) (h:L[n]? =some (x,lv)):(rows clC L).set (n*2+1) lv'=rows clC (L.set n ((x.1,l),lv')):=rows_set_cell clC_len L n 1 _ _ _ h (by decide) rfl
theorem EpochsAt.put {G:Gh} {c eb:Nat} {q cv L ε} (r:EpochsAt G c eb q cv L ε) {i:Nat} {x:Int×List (Int×Int)} (hs:ε.cls[i]? =some x) {x':Int×List (Int×Int)} {lv':NVal} {b:Nat} {xx:Option Nat} {q':Option (TypeId×Nat)} (hcv:cv=.slice (some (b,0)) L.length L.length xx) (hxx:xx=none∨xx=some 2) (hbc:G.col b=c)
  {fp:List Nat} (hfp:∀d∈fp,d=b∨G.h.next≤d∨(G.col d=c+1+i)) {h':NHeap} (u:Upd fp G.h h') (hne:eb∉fp)
  (hb:h'.get b=some (.cells (rows clC (L.set i (x',lv'))) (.own q'))) (hbl:b<G.h.next) (hlim:GrowE h' lv' 2 (rows retC x'.2) x'.2.length∧∀d∈blk lv',d<h'.next∧newCol G.h G.col (fun _=>c+1+i) d=c+1+i) (ok:EpochsOk {ε with cls:=ε.cls.set i x'}):
  Stp c (c+9) G ⟨h',newCol G.h G.col fun _=>c+1+i⟩∧EpochsAt ⟨h',newCol G.h G.col fun _=>c+1+i⟩ c eb q cv (L.set i (x',lv')) {ε with cls:=ε.cls.set i x'}:=by
 have hil:i<L.length:=by rw[r.len];exact(List.getElem?_eq_some_iff.1 hs).1
 have h8:=r.le8
 have hcol:∀d∈fp,d<G.h.next→G.col d=c∧d=b∨G.col d=c+1+i:=by
  intro d hd hlt
  rcases hfp d hd with rfl|q|q
  ·exact .inl ⟨hbc,rfl⟩
  ·omega
  ·exact .inr q
 refine⟨Stp.of_upd u (fun d hd hlt=>by rcases hcol d hd hlt with q|q<;>omega) _,u.get r.ge hne,?_,?_,?_,r.ne,?_,?_,ok⟩
 ·show newCol G.h G.col (fun _=>c+1+i) eb=c
  rw[newCol_old (NHeap.get_lt r.ge)];exact r.ce
 ·rw[hcv]
  exact .inr ⟨b,xx,q',by rw[List.length_set],hxx,hb,by rw[rows_len clC_len,List.length_set],by rw[List.length_set];omega⟩
 ·intro d hd
  rw[hcv] at hd
  simp[blk] at hd
  subst hd
  show newCol G.h G.col (fun _=>c+1+i) d=c
  rw[newCol_old hbl];exact hbc
 ·rw[←r.fst,List.map_set]
 ·intro j y hy
  by_cases hj:j=i
  ·subst hj
   rw[List.getElem?_set_self hil] at hy
   cases hy
   exact hlim
  ·rw[List.getElem?_set_ne (Ne.symm hj)] at hy
   obtain⟨g,gc⟩:=r.lim j y hy
   have hjl:=(List.getElem?_eq_some_iff.1 hy).1
   refine⟨g.upd u (.inr fun d hd hm=>?_),fun e he=>⟨Nat.lt_of_lt_of_le (gc e he).1 u.next,?_⟩⟩
   ·rcases hcol d hm (gc d hd).1 with⟨q,_⟩|q
    ·have:=(gc d hd).2;omega
    ·have:=(gc d hd).2;omega
   ·show newCol G.h G.col (fun _=>c+1+i) e=_
    rw[newCol_old (gc e he).1];exact(gc e he).2
theorem Now_K {G c e ε} (r:EpochsRep G c e ε):K env 97 [e] G.h=some (.int .i64 ε.now,G.h):=by
 obtain⟨eb,q,cv,L,rfl,r⟩:=r
 have ge:=r.ge
 rw[k97 _ _ (by simp)]
 simp only[bodyOf,Option.getD_some,go_sem,seval,Tryz.f97,ge]
theorem set_pin {ε:EpochsS} (o:EpochsOk ε) {i:Nat} {x} (hs:ε.cls[i]? =some x) (p:Int):EpochsOk {ε with cls:=ε.cls.set i (p,x.2)}:=by
 refine⟨o.now,o.room,by simpa using o.len,fun y hy=>?_⟩
 rcases List.mem_or_eq_of_mem_set hy with hy|rfl
 ·exact o.lim y hy
 ·exact o.lim x (List.mem_of_getElem? hs)
theorem pinned {G:Gh} {c eb:Nat} {q cv L ε} (r:EpochsAt G c eb q cv L ε) {i:Nat} {x} (hs:ε.cls[i]? =some x) {b x' q' lv} (hcv:cv=.slice (some (b,0)) L.length L.length x') (hxx:x'=none∨x'=some 2) (hL:L[i]? =some (x,lv)) (hg:G.h.get b=some (.cells (rows clC L) (.own q'))) (hbc:G.col b=c) (hbe:b≠eb)
  (hlim:GrowE G.h lv 2 (rows retC x.2) x.2.length) (hlc:∀b∈blk lv,b<G.h.next∧G.col b=c+1+i) (p:Int):
  Stp c (c+9) G ⟨G.h.set b (.cells (rows clC (L.set i ((p,x.2),lv))) (.own q')),newCol G.h G.col fun _=>c+1+i⟩∧EpochsRep ⟨G.h.set b (.cells (rows clC (L.set i ((p,x.2),lv))) (.own q')),newCol G.h G.col fun _=>c+1+i⟩ c (.ptr (some (eb,0))) {ε with cls:=ε.cls.set i (p,x.2)}:=by
 have u:Upd [b] G.h (G.h.set b (.cells (rows clC (L.set i ((p,x.2),lv))) (.own q'))):=(Upd.refl _ _).set (.inl (by simp)) _
 obtain⟨s,r'⟩:=r.put hs (x':=(p,x.2)) (lv':=lv) hcv hxx hbc (fp:=[b]) (by simp) u (by simpa using Ne.symm hbe) (NHeap.get_set_same (NHeap.get_lt hg)) (NHeap.get_lt hg) ⟨hlim.upd u (.inr fun d hd q=>by
   simp at q;subst q
   have:=(hlc d hd).2
   omega),fun d hd=>⟨(hlc d hd).1,by rw[newCol_old (hlc d hd).1];exact(hlc d hd).2⟩⟩ (set_pin r.ok hs p)
 ·exact⟨s,eb,q,cv,_,rfl,r'⟩
theorem Pin_K {G c e ε} (r:EpochsRep G c e ε) (cl n:Int):∃G',K env 98 [e,.int .i64 cl,.int .i64 n] G.h=some (.bool (pinF ε cl n).1,G'.h)∧Stp c (c+9) G G'∧EpochsRep G' c e (pinF ε cl n).2:=by
 obtain⟨eb,q,cv,L,rfl,r⟩:=r
 obtain⟨pv,ee,⟨h1,rfl⟩|⟨i,x,b,x',rfl,hs,h1,hcv,rfl⟩⟩:=of_K r cl
 ·have hp:pinF ε cl n=(false,ε):=by simp[pinF,h1]
  rw[hp]
  refine⟨G,?_,Stp.refl _ _ _,eb,q,cv,L,rfl,r⟩
  rw[k98 _ _ (by simp)]
  simp only[bodyOf,Option.getD_some,go_sem,seval,Tryz.f98,ee]
  try rfl
 ·obtain⟨b',x2,q',lv,g1,g2,g3,g4,g5,g6,g7,g8,k0,k1,gl,gc⟩:=r.cl hs
  have hbb:b'=b:=by rw[hcv] at g1;simp at g1;exact g1.1.symm
  subst hbb
  have ge:=r.ge
  by_cases c1:n<0
  ·have hp:pinF ε i n=(false,ε):=by simp[pinF,h1,c1]
   rw[hp]
   refine⟨G,?_,Stp.refl _ _ _,eb,q,cv,L,rfl,r⟩
   rw[k98 _ _ (by simp)]
   simp only[bodyOf,Option.getD_some,go_sem,seval,Tryz.f98,ee,c1]
   try rfl
  by_cases c2:ε.now<n
  ·have hp:pinF ε i n=(false,ε):=by simp[pinF,h1,c1,c2]
   rw[hp]
   refine⟨G,?_,Stp.refl _ _ _,eb,q,cv,L,rfl,r⟩
   rw[k98 _ _ (by simp)]
   simp only[bodyOf,Option.getD_some,go_sem,seval,Tryz.f98,ee,c1,ge,c2]
   try rfl
  have hp:pinF ε i n=(true,{ε with cls:=ε.cls.set i (n,x.2)}):=by simp[pinF,h1,c1,c2]
  rw[hp]
  obtain⟨s,r'⟩:=pinned r hs g1 g2 g3 g4 g5 g6 gl gc n
  have ss:=setRange_single (rows clC L) (i*2) (.int .i64 n) (by omega)
  rw[cl_pin L i x lv n g3] at ss
  have lb:=NHeap.get_lt g4
  have i1:i*2+1≤L.length*2:=by omega
  refine⟨_,?_,s,r'⟩
  rw[k98 _ _ (by simp)]
  simp only[bodyOf,Option.getD_some,go_sem,seval,Tryz.f98,ee,c1,ge,c2,g4,g8,i1,ss,lb]
  try rfl
theorem Unpin_K {G c e ε} (r:EpochsRep G c e ε) (cl:Int):∃G',K env 99 [e,.int .i64 cl] G.h=some (.bool (unpinF ε cl).1,G'.h)∧Stp c (c+9) G G'∧EpochsRep G' c e (unpinF ε cl).2:=by
 obtain⟨eb,q,cv,L,rfl,r⟩:=r
 obtain⟨pv,ee,⟨h1,rfl⟩|⟨i,x,b,x',rfl,hs,h1,hcv,rfl⟩⟩:=of_K r cl
 ·have hp:unpinF ε cl=(false,ε):=by simp[unpinF,h1]
  rw[hp]
  refine⟨G,?_,Stp.refl _ _ _,eb,q,cv,L,rfl,r⟩
  rw[k99 _ _ (by simp)]
  simp only[bodyOf,Option.getD_some,go_sem,seval,Tryz.f99,ee]
  try rfl
 ·obtain⟨b',x2,q',lv,g1,g2,g3,g4,g5,g6,g7,g8,k0,k1,gl,gc⟩:=r.cl hs
  have hbb:b'=b:=by rw[hcv] at g1;simp at g1;exact g1.1.symm
  subst hbb
  have hp:unpinF ε i=(true,{ε with cls:=ε.cls.set i (-1,x.2)}):=by simp[unpinF,h1]
  rw[hp]
  obtain⟨s,r'⟩:=pinned r hs g1 g2 g3 g4 g5 g6 gl gc (-1)
  have ss:=setRange_single (rows clC L) (i*2) (.int .i64 (-1)) (by omega)
  rw[cl_pin L i x lv (-1) g3] at ss
  have lb:=NHeap.get_lt g4
  have i1:i*2+1≤L.length*2:=by omega
  refine⟨_,?_,s,r'⟩
  rw[k99 _ _ (by simp)]
  simp only[bodyOf,Option.getD_some,go_sem,seval,Tryz.f99,ee,g4,g8,i1,ss,lb]
  try rfl
theorem PinOf_K {G c e ε} (r:EpochsRep G c e ε) (cl:Int):K env 100 [e,.int .i64 cl] G.h=some (.int .i64 (pinOfF ε cl),G.h):=by
 obtain⟨eb,q,cv,L,rfl,r⟩:=r
 rw[k100 _ _ (by simp)]
 obtain⟨pv,ee,⟨h1,rfl⟩|⟨i,x,b,x',rfl,hs,h1,hcv,rfl⟩⟩:=of_K r cl
 ·have hp:pinOfF ε cl=-1:=by simp[pinOfF,h1]
  rw[hp]
  simp only[bodyOf,Option.getD_some,go_sem,seval,Tryz.f100,ee]
  try rfl
 ·obtain⟨b',x2,q',lv,g1,g2,g3,g4,g5,g6,g7,g8,k0,k1,gl,gc⟩:=r.cl hs
  have hbb:b'=b:=by rw[hcv] at g1;simp at g1;exact g1.1.symm
  subst hbb
  have hp:pinOfF ε i=x.1:=by simp[pinOfF,h1]
  rw[hp]
  simp only[bodyOf,Option.getD_some,go_sem,seval,Tryz.f100,ee,g4,k0]
  try rfl
theorem Advance_K {G c e ε} (r:EpochsRep G c e ε) (n:Int):∃G',K env 101 [e,.int .i64 n] G.h=some (.bool (advanceF ε n).1,G'.h)∧Stp c (c+9) G G'∧EpochsRep G' c e (advanceF ε n).2:=by
 obtain⟨eb,q,cv,L,rfl,r⟩:=r
 have ge:=r.ge
 have lb:=NHeap.get_lt ge
 have ho:=r.ok.now
 by_cases c1:ε.now=n
 case neg=>
  have hp:advanceF ε n=(false,ε):=by simp[advanceF,c1]
  rw[hp]
  refine⟨G,?_,Stp.refl _ _ _,eb,q,cv,L,rfl,r⟩
  rw[k101 _ _ (by simp)]
  simp only[bodyOf,Option.getD_some,go_sem,seval,Tryz.f101,ge,c1]
  try rfl
 have c1d:decide (ε.now=n)=true:=decide_eq_true c1
 by_cases c2:1073741824≤ε.now
 ·have hp:advanceF ε n=(false,ε):=by simp[advanceF,c2]
  rw[hp]
  refine⟨G,?_,Stp.refl _ _ _,eb,q,cv,L,rfl,r⟩
  rw[k101 _ _ (by simp)]
  simp only[bodyOf,Option.getD_some,go_sem,seval,Tryz.f101,ge,c1d,c2]
  try rfl
 have hp:advanceF ε n=(true,{ε with now:=ε.now+1}):=by simp[advanceF,c1,c2];omega
 rw[hp]
 have w1:IntKind.i64.wrap (ε.now+1)=ε.now+1:=wrap_i64_small (by omega) (by omega)
 have u:Upd [eb] G.h (G.h.set eb (.cells [.int .i64 (ε.now+1),.int .i64 ε.room,cv] (.own q))):=(Upd.refl _ _).set (.inl (by simp)) _
 have ce:=r.ce
 have s:Stp c (c+9) G ⟨G.h.set eb (.cells [.int .i64 (ε.now+1),.int .i64 ε.room,cv] (.own q)),newCol G.h G.col fun _=>0⟩:=Stp.of_upd u (by rintro d hd _;simp at hd;subst hd;omega) _
 refine⟨_,?_,s,eb,q,cv,L,rfl,NHeap.get_set_same lb,?_,?_,?_,r.ne,r.fst,?_,⟨by show(0:Int)≤ε.now+1∧ε.now+1≤1073741824;omega,r.ok.room,r.ok.len,fun x hx=>⟨(r.ok.lim x hx).1,fun y hy=>by have:=(r.ok.lim x hx).2 y hy;show 0≤y.2∧y.2≤ε.now+1;omega⟩⟩⟩
 ·rw[k101 _ _ (by simp)]
  simp only[bodyOf,Option.getD_some,go_sem,seval,Tryz.f101,ge,c1d,c2,w1,lb]
  try rfl
 ·show newCol G.h G.col (fun _=>0) eb=c
  rw[newCol_old lb];exact ce
 ·have hne:=r.ne
  exact r.grow.upd u fun b hb=>by simpa using hne b hb
 ·intro b hb
  show newCol G.h G.col (fun _=>0) b=c
  rw[newCol_old (r.grow.lt b hb)];exact r.cs b hb
 ·intro i x hx
  obtain⟨g,gc⟩:=r.lim i x hx
  refine⟨g.upd u (.inr fun d hd p=>by
   simp at p;subst p
   have:=(gc d hd).2
   omega),fun d hd=>⟨(gc d hd).1,?_⟩⟩
  show newCol G.h G.col (fun _=>0) d=_
  rw[newCol_old (gc d hd).1];exact(gc d hd).2
end epoch
end Go.Proofs.YtkjpldganajkkaaGreatDoor.S
