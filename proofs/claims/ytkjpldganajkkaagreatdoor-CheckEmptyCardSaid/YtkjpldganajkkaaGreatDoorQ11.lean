/-
  NodeR to NodeB2, as one text. Proved step by step; no conditions beside what is said.
-/
import Derived.Test.YtkjpldganajkkaaGreatDoorQ10
set_option linter.unusedSimpArgs false
set_option linter.unusedVariables false
set_option linter.unusedSectionVars false
set_option maxRecDepth 100000
namespace Go.Proofs.YtkjpldganajkkaaGreatDoor.S
open Go Go.RowKit Go.Proofs.YtkjpldganajkkaaGreatDoor.NICE
namespace node
open pack word mir
abbrev I (r:Int):List NVal:=[.int .i64 r]
def nodeV (n:mir.Node) (kv iv:NVal):List NVal:=[.int .i64 n.kind,.int .u64 (n.word:Nat),.str n.pre,kv,iv]
def SlV (h:NHeap) (v:NVal):Prop:=∀b o n c x,v=.slice (some (b,o)) n c x→∃all m,h.get b=some (.cells all m)∧o+n≤all.length
theorem SlV.ext {h h' v} (s:SlV h v) (e:Ext h h'):SlV h' v:=fun b o n c x hv=>by
 obtain⟨all,m,g,l⟩:=s b o n c x hv
 exact⟨all,m,e.get g,l⟩
theorem SlV.nil (h:NHeap):SlV h (.slice none 0 0 none):=fun b o n c x hv=>by cases hv
structure NodeAt (h:NHeap) (n:mir.Node) (kv iv:NVal):Prop where
 keys:Rw h 1 UB kv n.keys
 kids:Rw h 1 I iv n.kids
 val:SlV h kv
 word:n.word<2^64
 pre:n.pre.length<2^30
 kl:n.keys.length<2^30
 il:n.kids.length<2^30
theorem NodeAt.ext {h h' n kv iv} (r:NodeAt h n kv iv) (e:Ext h h'):NodeAt h' n kv iv:=⟨r.keys.ext e,r.kids.ext e,r.val.ext e,r.word,r.pre,r.kl,r.il⟩
def rightLoop (keys:List UInt8) (kids:List Int):Nat→Nat→Bool
 |0,_=>true
 |f+1,i=>if isRefB (kids.getD i 0)=false∨(0<i∧¬keys.getD (i-1) 0<keys.getD i 0) then false else rightLoop keys kids f (i+1)
def okAt (keys:List UInt8) (i:Nat):Bool:=match keys[i]? with
 |none=>true
 |some k=>decide (0<i→keys.getD (i-1) 0<k)
theorem rightLoop_eq (keys:List UInt8) (kids:List Int) (h:keys.length=kids.length):∀f i,i+f=kids.length→rightLoop keys kids f i=((kids.drop i).all isRefB&&(okAt keys i&&risesB (keys.drop i)))
 |0,i,hi=>by
  rw[rightLoop,List.drop_eq_nil_of_le (by omega),List.drop_eq_nil_of_le (by omega),okAt,List.getElem?_eq_none (by omega)]
  simp[risesB]
 |f+1,i,hi=>by
  have hik:i<kids.length:=by omega
  have hij:i<keys.length:=by omega
  rw[rightLoop,rightLoop_eq keys kids h f (i+1) (by omega),List.drop_eq_getElem_cons hik,List.drop_eq_getElem_cons hij,List.all_cons]
  have g1:kids.getD i 0=kids[i]:=by rw[List.getD_eq_getElem?_getD,List.getElem?_eq_getElem hik];rfl
  have g2:keys.getD i 0=keys[i]:=by rw[List.getD_eq_getElem?_getD,List.getElem?_eq_getElem hij];rfl
  have o1:okAt keys i=decide (0<i→keys.getD (i-1) 0<keys[i]):=by rw[okAt,List.getElem?_eq_getElem hij]
  have hr:risesB (keys[i]::keys.drop (i+1))=(okAt keys (i+1)&&risesB (keys.drop (i+1))):=by
   by_cases q:i+1<keys.length
   ·rw[List.drop_eq_getElem_cons q,risesB,okAt,List.getElem?_eq_getElem q]
    simp only[Nat.add_sub_cancel,g2,Nat.succ_pos,true_implies]
   ·rw[List.drop_eq_nil_of_le (by omega),okAt,List.getElem?_eq_none (by omega)];simp[risesB]
  rw[g1,g2,hr,o1]
  cases hb:isRefB kids[i] with
  |false=>simp
  |true=>
   by_cases p:0<i∧¬keys.getD (i-1) 0<keys[i]
   ·have hd:decide (0<i→keys.getD (i-1) 0<keys[i])=false:=decide_eq_false (fun q=>p.2 (q p.1))
    rw[if_pos (.inr p),hd,Bool.false_and,Bool.and_false]
   ·have hd:decide (0<i→keys.getD (i-1) 0<keys[i])=true:=decide_eq_true (fun h=>by
     by_cases q:keys.getD (i-1) 0<keys[i]
     ·exact q
     ·exact absurd ⟨h,q⟩ p)
    rw[if_neg (fun q=>q.elim (fun a=>by cases a) p),hd,Bool.true_and,Bool.true_and]
theorem rightLoop_zero (keys:List UInt8) (kids:List Int) (h:keys.length=kids.length):rightLoop keys kids kids.length 0=(kids.all isRefB&&risesB keys):=by
 rw[rightLoop_eq keys kids h _ _ (by omega)]
 have:okAt keys 0=true:=by unfold okAt;split<;>simp
 rw[this];simp
noncomputable def lbNR:Code:=inC (inC (atC (bodyOf Tryz.f67) 4))
theorem loopNR (h:NHeap) (nb:Nat) (n:mir.Node) (kv iv:NVal) (q) (gn:h.get nb=some (.cells (nodeV n kv iv) q)) (hN:NodeAt h n kv iv) (hl:n.keys.length=n.kids.length) (F0:Fr) (f1:F0 1=.ptr (some (nb,0))) (f45:F0 45=iv) (f46:F0 46=.int .i64 n.kids.length) (R:Bool) (Q:Out→Prop)
  (hQ1:∀(F:Fr),R=false→F 2=.bool false→Q (some (.ret,toL 74 F,h)))
  (hQ2:∀(F:Fr),R=true→Q (some (.exit 0,toL 74 F,h))):
  ∀(f i:Nat) (F:Fr),i+f=n.kids.length→rightLoop n.keys n.kids f i=R→Keep [1,45,46] F0 F→F 47=.int .i64 i→Q (C env (.loop lbNR) (toL 74 F) h):=by
 obtain⟨sk,si,_,hw,hp,hkl,hil⟩:=hN
 intro f
 induction f with
 |zero=>
  intro i F hi hr kp f47
  have:i=n.kids.length:=by omega
  subst this
  have f46':=(kp 46 rfl).trans f46
  rw[S_loop]
  conv=>arg 1;arg 2;arg 2;simp only[lbNR,bodyOf,Option.getD_some,atC,seqL,inC,elC,List.nil_append,List.cons_append,List.getElem?_cons_succ,List.getElem?_cons_zero,Tryz.f67]
  simp only[go_sem,seval,f46',f47]
  exact hQ2 _ hr.symm
 |succ f ih=>
  intro i F hi hr kp f47
  have f1':=(kp 1 rfl).trans f1
  have f45':=(kp 45 rfl).trans f45
  have f46':=(kp 46 rfl).trans f46
  obtain⟨r,hr'⟩:∃r,n.kids[i]? =some r:=⟨n.kids[i]'(by omega),List.getElem?_eq_getElem (by omega)⟩
  obtain⟨k,hk'⟩:∃k,n.keys[i]? =some k:=⟨n.keys[i]'(by omega),List.getElem?_eq_getElem (by omega)⟩
  obtain⟨ib,io,ic,ix,iall,im,hiv,gI,rowI,leI⟩:=Sl.elem (f:=I) (k:=1) (fun _=>rfl) si hr'
  obtain⟨kb,ko,kc,kx,kall,km,hkv,gK,rowK,leK⟩:=Sl.elem (f:=UB) (k:=1) (fun _=>rfl) sk hk'
  have cellI:=rowcell rowI (show(I r)[0]? =some (.int .i64 r) from rfl)
  have cellK:=rowcell rowK (show(UB k)[0]? =some (.int .u8 (k.toNat:Int)) from rfl)
  simp only[Nat.mul_one,Nat.add_zero] at cellI cellK
  have gn':h.get nb=some (.cells [.int .i64 n.kind,.int .u64 (n.word:Nat),.str n.pre,kv,iv] q):=gn
  rw[hiv] at f45' gn'
  rw[hkv] at gn'
  have i0:(0:Int)≤(i:Int):=by omega
  have i1:(i:Int)<(n.kids.length:Int):=by omega
  have i2:(i:Int)<(n.keys.length:Int):=by omega
  have w1:IntKind.i64.wrap ((i:Int)+1)=((i+1:Nat):Int):=by rw[wrap_i64_small (by omega) (by omega)];omega
  have gr:n.kids.getD i 0=r:=by rw[List.getD_eq_getElem?_getD,hr'];rfl
  have gk:n.keys.getD i 0=k:=by rw[List.getD_eq_getElem?_getD,hk'];rfl
  rw[rightLoop,gr,gk] at hr
  have er:=isRef_K r h
  rw[S_loop]
  conv=>arg 1;arg 2;arg 2;simp only[lbNR,bodyOf,Option.getD_some,atC,seqL,inC,elC,List.nil_append,List.cons_append,List.getElem?_cons_succ,List.getElem?_cons_zero,Tryz.f67]
  cases hb:isRefB r with
  |false=>
   have hb':(partsI r).2.2.2=false:=hb
   rw[hb'] at er
   rw[if_pos (.inl hb)] at hr
   simp only[go_sem,seval,f1',f45',f46',f47,i0,i1,gI,cellI,gn',er,Nat.mul_one,Nat.add_zero]
   exact hQ1 _ hr.symm (by simp only[go_sem,seval])
  |true=>
   have hb':(partsI r).2.2.2=true:=hb
   rw[hb'] at er
   by_cases c0:0<i
   ·have c0':(0:Int)<(i:Int):=by omega
    have w2:IntKind.i64.wrap ((i:Int)-1)=((i-1:Nat):Int):=by rw[wrap_i64_small (by omega) (by omega)];omega
    have j0:(0:Int)≤((i-1:Nat):Int):=by omega
    have j1:((i-1:Nat):Int)<(n.keys.length:Int):=by omega
    obtain⟨k2,hk2⟩:∃k2,n.keys[i-1]? =some k2:=⟨n.keys[i-1]'(by omega),List.getElem?_eq_getElem (by omega)⟩
    obtain⟨kb',ko',kc',kx',kall',km',hkv2,gK2,rowK2,leK2⟩:=Sl.elem (f:=UB) (k:=1) (fun _=>rfl) sk hk2
    rw[hkv] at hkv2
    simp only[NVal.slice.injEq,Option.some.injEq,Prod.mk.injEq] at hkv2
    obtain⟨⟨rfl,rfl⟩,_,rfl,rfl⟩:=hkv2
    have hq:=gK.symm.trans gK2
    simp only[Option.some.injEq,NObj.cells.injEq] at hq
    obtain⟨rfl,rfl⟩:=hq
    have cellK2:=rowcell rowK2 (show(UB k2)[0]? =some (.int .u8 (k2.toNat:Int)) from rfl)
    simp only[Nat.mul_one,Nat.add_zero] at cellK2
    have gk2:n.keys.getD (i-1) 0=k2:=by rw[List.getD_eq_getElem?_getD,hk2];rfl
    rw[gk2] at hr
    by_cases c1:k2<k
    ·have hlt:=UInt8.lt_iff_toNat_lt.1 c1
     have c1':¬((k.toNat:Nat):Int)≤((k2.toNat:Nat):Int):=by omega
     rw[if_neg (by simp[hb,c1])] at hr
     simp only[go_sem,seval,f1',f45',f46',f47,i0,i1,i2,gI,cellI,gn',er,c0',w2,j0,j1,gK,cellK,cellK2,c1',w1,Nat.mul_one,Nat.add_zero]
     refine ih (i+1) _ (by omega) hr ?_ (by simp only[go_sem,seval])
     repeat(first|exact kp|refine Keep.upd ?_ rfl)
    ·have hlt:¬k2.toNat<k.toNat:=fun q=>c1 (UInt8.lt_iff_toNat_lt.2 q)
     have c1':((k.toNat:Nat):Int)≤((k2.toNat:Nat):Int):=by omega
     rw[if_pos (.inr ⟨c0,c1⟩)] at hr
     simp only[go_sem,seval,f1',f45',f46',f47,i0,i1,i2,gI,cellI,gn',er,c0',w2,j0,j1,gK,cellK,cellK2,c1',Nat.mul_one,Nat.add_zero]
     exact hQ1 _ hr.symm (by simp only[go_sem,seval])
   ·have c0':¬(0:Int)<(i:Int):=by omega
    rw[if_neg (by simp[hb];omega)] at hr
    simp only[go_sem,seval,f1',f45',f46',f47,i0,i1,gI,cellI,gn',er,c0',w1,Nat.mul_one,Nat.add_zero]
    refine ih (i+1) _ (by omega) hr ?_ (by simp only[go_sem,seval])
    repeat(first|exact kp|refine Keep.upd ?_ rfl)
set_option maxHeartbeats 1000000 in
theorem Right_K (h:NHeap) (n:mir.Node) (kv iv:NVal) (hN:NodeAt h n kv iv):∃h',K env 67 [.agg (nodeV n kv iv)] h=some (.bool (rightN n),h')∧Ext h h':=by
 obtain⟨H,hH⟩:∃H,h.alloc (.cells (nodeV n kv iv) (.own none))=H:=⟨_,rfl⟩
 have x:Ext h H:=by rw[←hH];exact(Ext.refl h).alloc _
 have g:H.get h.next=some (.cells (nodeV n kv iv) (.own none)):=by rw[←hH];simp[NHeap.get_alloc]
 have hNH:=hN.ext x
 obtain⟨kb,kc,kx,hkv⟩:=hN.keys.form
 obtain⟨ib,ic,ix,hiv⟩:=hN.kids.form
 have g':H.get h.next=some (.cells [.int .i64 n.kind,.int .u64 (n.word:Nat),.str n.pre,kv,iv] (.own none)):=g
 have hH':h.alloc (.cells [.int .i64 n.kind,.int .u64 (n.word:Nat),.str n.pre,kv,iv] (.own none))=H:=hH
 have eh:=fun h=>High_K n.kind h
 have ed:=fun h=>Dead_K n.word hN.word h
 have an:∀t,nbin Tryz.prog .and t (.int .u64 (n.word:Int)) (.int .u64 1)=some (.int .u64 ((n.word%2:Nat):Int)):=fun t=>by
  have:=and_u64 (P:=Tryz.prog) t n.word 1 hN.word (by decide)
  rw[show n.word&&&1=n.word%2 from Nat.and_two_pow_sub_one_eq_mod n.word 1] at this
  exact this
 refine⟨H,?_,x⟩
 rw[nodeV,k67 _ _ (by simp)]
 by_cases c0:highI n.kind=0
 ·have:rightN n=false:=by simp[rightN,c0]
  rw[this]
  simp only[bodyOf,Option.getD_some,go_sem,seval,Tryz.f67,hH',g',eh,c0]
  try rfl
 have hlp:(n.pre.length:Int)=((n.pre.length:Nat):Int):=rfl
 by_cases c1:deadN n.word=true∧n.word%2=1
 ·have:rightN n=false:=by simp[rightN,c1.1,c1.2]
  have o1:¬((n.word%2:Nat):Int)=0:=by omega
  rw[this]
  simp only[bodyOf,Option.getD_some,go_sem,seval,Tryz.f67,hH',g',eh,c0,ed,c1.1,an,o1]
  try rfl
 have mid:∀(rest:Bool),True:=fun _=>trivial
 by_cases c2:n.pre.length≤12
 case neg=>
  have:rightN n=false:=by simp[rightN,c2]
  have c2':(12:Int)<(n.pre.length:Int):=by omega
  rw[this]
  cases hd:deadN n.word with
  |false=>
   simp only[bodyOf,Option.getD_some,go_sem,seval,Tryz.f67,hH',g',eh,c0,ed,hd,c2']
   try rfl
  |true=>
   have o1:((n.word%2:Nat):Int)=0:=by
    have:¬n.word%2=1:=fun q=>c1 ⟨hd,q⟩
    omega
   simp only[bodyOf,Option.getD_some,go_sem,seval,Tryz.f67,hH',g',eh,c0,ed,hd,an,o1,c2']
   try rfl
 have c2':¬(12:Int)<(n.pre.length:Int):=by omega
 by_cases c3:n.keys.length=n.kids.length
 case neg=>
  have:rightN n=false:=by simp[rightN,c3]
  have c3':¬(n.keys.length:Int)=(n.kids.length:Int):=by omega
  rw[this]
  rw[hkv,hiv] at g' hH'⊢
  cases hd:deadN n.word with
  |false=>
   simp only[bodyOf,Option.getD_some,go_sem,seval,Tryz.f67,hH',g',eh,c0,ed,hd,c2',c3']
   try rfl
  |true=>
   have o1:((n.word%2:Nat):Int)=0:=by
    have:¬n.word%2=1:=fun q=>c1 ⟨hd,q⟩
    omega
   simp only[bodyOf,Option.getD_some,go_sem,seval,Tryz.f67,hH',g',eh,c0,ed,hd,an,o1,c2',c3']
   try rfl
 have c3':(n.keys.length:Int)=(n.kids.length:Int):=by omega
 by_cases c4:(n.keys.length:Int)≤highI n.kind
 case neg=>
  have:rightN n=false:=by simp[rightN,c4]
  have c4':highI n.kind<(n.kids.length:Int):=by omega
  rw[this]
  rw[hkv,hiv] at g' hH'⊢
  cases hd:deadN n.word with
  |false=>
   simp only[bodyOf,Option.getD_some,go_sem,seval,Tryz.f67,hH',g',eh,c0,ed,hd,c2',c3',c4']
   try rfl
  |true=>
   have o1:((n.word%2:Nat):Int)=0:=by
    have:¬n.word%2=1:=fun q=>c1 ⟨hd,q⟩
    omega
   simp only[bodyOf,Option.getD_some,go_sem,seval,Tryz.f67,hH',g',eh,c0,ed,hd,an,o1,c2',c3',c4']
   try rfl
 have c4':¬highI n.kind<(n.kids.length:Int):=by omega
 have hR:rightN n=rightLoop n.keys n.kids n.kids.length 0:=by
  rw[rightLoop_zero _ _ c3]
  have c1':(deadN n.word&&decide (n.word%2=1))=false:=by
   cases hd:deadN n.word with
   |false=>rfl
   |true=>
    have:¬n.word%2=1:=fun q=>c1 ⟨hd,q⟩
    simp[this]
  have c4k:(n.kids.length:Int)≤highI n.kind:=by omega
  simp[rightN,c0,c1',c2,c3,c4k]
 have key:=fun F q1 q45 q46 rest=>loopNR H h.next n kv iv _ g hNH c3 F q1 q45 q46 (rightN n) (fun r=>outF Tryz.prog [.tmp 2] (thenD env (blockC 0 r) rest)=some (.bool (rightN n),H))
 simp only[lbNR,bodyOf,Option.getD_some,atC,seqL,inC,elC,List.nil_append,List.cons_append,List.getElem?_cons_succ,List.getElem?_cons_zero,Tryz.f67] at key
 rw[hkv,hiv] at g' hH'⊢
 cases hd:deadN n.word with
 |false=>
  simp only[bodyOf,Option.getD_some,go_sem,seval,Tryz.f67,hH',g',eh,c0,ed,hd,c2',c3',c4']
  refine key _ ?_ ?_ ?_ _ ?_ ?_ n.kids.length 0 _ (by omega) hR.symm (Keep.refl _ _) ?_
  ·simp only[go_sem,seval]
  ·simp only[go_sem,seval,hiv]
  ·simp only[go_sem,seval]
  ·intro F hF f2
   simp only[go_sem,seval,f2,hF]
  ·intro F hF
   simp only[go_sem,seval,hF]
  ·simp only[go_sem,seval];try rfl
 |true=>
  have o1:((n.word%2:Nat):Int)=0:=by
   have:¬n.word%2=1:=fun q=>c1 ⟨hd,q⟩
   omega
  simp only[bodyOf,Option.getD_some,go_sem,seval,Tryz.f67,hH',g',eh,c0,ed,hd,an,o1,c2',c3',c4']
  refine key _ ?_ ?_ ?_ _ ?_ ?_ n.kids.length 0 _ (by omega) hR.symm (Keep.refl _ _) ?_
  ·simp only[go_sem,seval]
  ·simp only[go_sem,seval,hiv]
  ·simp only[go_sem,seval]
  ·intro F hF f2
   simp only[go_sem,seval,f2,hF]
  ·intro F hF
   simp only[go_sem,seval,hF]
  ·simp only[go_sem,seval];try rfl
end node
end Go.Proofs.YtkjpldganajkkaaGreatDoor.S
namespace Go.Proofs.YtkjpldganajkkaaGreatDoor.S
open Go Go.RowKit Go.Proofs.YtkjpldganajkkaaGreatDoor.NICE
namespace pack
theorem or_byte (a b k j:Nat) (hb:b<256):(a|||b*2^(8*k))/2^(8*j)%256=if j=k then(a/2^(8*j)%256)|||b else a/2^(8*j)%256:=by
 have h1:(a|||b*2^(8*k))/2^(8*j)=a/2^(8*j)|||b*2^(8*k)/2^(8*j):=by
  rw[←Nat.shiftRight_eq_div_pow,←Nat.shiftRight_eq_div_pow,←Nat.shiftRight_eq_div_pow,Nat.shiftRight_or_distrib]
 have h256:(256:Nat)=2^8:=rfl
 rw[h1,h256,Nat.or_mod_two_pow]
 by_cases hjk:j=k
 ·subst hjk
  rw[if_pos rfl,Nat.mul_div_cancel _ (Nat.two_pow_pos _),Nat.mod_eq_of_lt (show b<2^8 from hb)]
 ·rw[if_neg hjk]
  have:b*2^(8*k)/2^(8*j)%2^8=0:=by
   rcases Nat.lt_or_gt_of_ne hjk with q|q
   ·have e:8*k=8*j+8+8*(k-j-1):=by omega
    rw[e,Nat.pow_add,Nat.pow_add,Nat.mul_assoc,Nat.mul_left_comm,Nat.mul_div_cancel_left _ (Nat.two_pow_pos _),Nat.mul_left_comm,Nat.mul_mod_right]
   ·have:b*2^(8*k)<2^(8*j):=by
     have e:8*j=8+8*k+8*(j-k-1):=by omega
     rw[e,Nat.pow_add,Nat.pow_add]
     have h2:b*2^(8*k)<2^8*2^(8*k):=Nat.mul_lt_mul_of_pos_right hb (Nat.two_pow_pos _)
     exact Nat.lt_of_lt_of_le h2 (Nat.le_mul_of_pos_right _ (Nat.two_pow_pos _))
    rw[Nat.div_eq_of_lt this,Nat.zero_mod]
  rw[this,Nat.or_zero]
theorem wordsTo_byte (s:List UInt8):∀i,i≤s.length→∀k j,j<8→(wordsTo s i).getD k 0/2^(8*j)%256=if 8*k+j<i then(s.getD (8*k+j) 0).toNat else 0
 |0,_,k,j,_=>by
  rw[wordsTo,if_neg (by omega)]
  have:(List.replicate ((s.length+7)/8) 0).getD k 0=0:=by
   rw[List.getD_eq_getElem?_getD,List.getElem?_replicate]
   split<;>rfl
  rw[this,Nat.zero_div,Nat.zero_mod]
 |i+1,hi,k,j,hj=>by
  have ih:=wordsTo_byte s i (by omega) k j hj
  rw[wordsTo,wStep]
  by_cases hk:k=i/8
  ·subst hk
   rw[List.getD_eq_getElem?_getD,List.getElem?_set_self (by rw[wordsTo_len];omega),Option.getD_some,or_byte _ _ _ _ (s.getD i 0).toNat_lt]
   by_cases hji:j=i%8
   ·rw[if_pos hji,ih,if_neg (by omega),if_pos (by omega),Nat.zero_or]
    congr 2
    omega
   ·rw[if_neg hji,ih]
    by_cases q:8*(i/8)+j<i
    ·rw[if_pos q,if_pos (by omega)]
    ·rw[if_neg q,if_neg (by omega)]
  ·have:((wordsTo s i).set (i/8) ((wordsTo s i).getD (i/8) 0|||(s.getD i 0).toNat*2^(8*(i%8)))).getD k 0=(wordsTo s i).getD k 0:=by
    rw[List.getD_eq_getElem?_getD,List.getElem?_set_ne (Ne.symm hk),←List.getD_eq_getElem?_getD]
   rw[this,ih]
   by_cases q:8*k+j<i
   ·rw[if_pos q,if_pos (by omega)]
   ·rw[if_neg q,if_neg (by omega)]
theorem wbytes_get (w:Nat):∀n j,j<n→(wbytes w n).getD j 0=wbyte w j
 |0,j,h=>by omega
 |n+1,j,h=>by
  rw[wbytes,List.getD_eq_getElem?_getD]
  by_cases q:j<n
  ·rw[List.getElem?_append_left (by rw[wbytes_len];exact q),←List.getD_eq_getElem?_getD,wbytes_get w n j q]
  ·have:j=n:=by omega
   subst this
   rw[List.getElem?_append_right (by rw[wbytes_len];exact Nat.le_refl _),wbytes_len,Nat.sub_self];rfl
theorem allBytes_get:∀(ws:List Nat) (k j:Nat),k<ws.length→j<8→(allBytes ws).getD (8*k+j) 0=wbyte (ws.getD k 0) j
 |[],k,j,h,_=>by simp at h
 |w::ws,0,j,_,hj=>by
  rw[allBytes,List.getD_eq_getElem?_getD,List.getElem?_append_left (by rw[wbytes_len];omega),←List.getD_eq_getElem?_getD,Nat.mul_zero,Nat.zero_add,wbytes_get w 8 j hj];rfl
 |w::ws,k+1,j,h,hj=>by
  have ih:=allBytes_get ws k j (by simpa using h) hj
  rw[allBytes,List.getD_eq_getElem?_getD,List.getElem?_append_right (by rw[wbytes_len];omega),wbytes_len,show 8*(k+1)+j-8=8*k+j by omega,←List.getD_eq_getElem?_getD,ih];rfl
theorem ofNat_mod (n:Nat):UInt8.ofNat (n%256)=UInt8.ofNat n:=by
 apply UInt8.toNat_inj.1
 rw[UInt8.toNat_ofNat',UInt8.toNat_ofNat'];omega
theorem allBytes_words (s:List UInt8) (z:Nat):allBytes (wordsF s++List.replicate z 0)=s++List.replicate (((s.length+7)/8+z)*8-s.length) 0:=by
 have hl:(wordsF s).length=(s.length+7)/8:=wordsTo_len s _
 apply List.ext_getElem?
 intro i
 by_cases hi:i<((s.length+7)/8+z)*8
 ·have e:i=8*(i/8)+i%8:=by omega
  have hlen:(allBytes (wordsF s++List.replicate z 0)).length=((s.length+7)/8+z)*8:=by rw[allBytes_len];simp[hl]
  have g:=allBytes_get (wordsF s++List.replicate z 0) (i/8) (i%8) (by simp[hl];omega) (by omega)
  rw[←e,List.getD_eq_getElem?_getD,List.getElem?_eq_getElem (by omega),Option.getD_some] at g
  rw[List.getElem?_eq_getElem (by omega),g]
  have hw:wbyte ((wordsF s++List.replicate z 0).getD (i/8) 0) (i%8)=if i<s.length then s.getD i 0 else 0:=by
   unfold wbyte
   rw[←ofNat_mod]
   by_cases hk:i/8<(s.length+7)/8
   ·have:(wordsF s++List.replicate z 0).getD (i/8) 0=(wordsTo s s.length).getD (i/8) 0:=by
     rw[List.getD_eq_getElem?_getD,List.getElem?_append_left (by omega),←List.getD_eq_getElem?_getD];rfl
    rw[this,wordsTo_byte s _ (Nat.le_refl _) _ _ (by omega),←e]
    split
    ·simp
    ·rfl
   ·have:(wordsF s++List.replicate z 0).getD (i/8) 0=0:=by
     rw[List.getD_eq_getElem?_getD,List.getElem?_append_right (by omega),List.getElem?_replicate]
     split<;>rfl
    rw[this,if_neg (by omega),Nat.zero_div];rfl
  rw[hw]
  by_cases q:i<s.length
  ·rw[if_pos q,List.getElem?_append_left q,List.getElem?_eq_getElem q,List.getD_eq_getElem?_getD,List.getElem?_eq_getElem q];rfl
  ·rw[if_neg q,List.getElem?_append_right (by omega),List.getElem?_replicate,if_pos (by omega)]
 ·rw[List.getElem?_eq_none (by rw[allBytes_len];simp[hl];omega),List.getElem?_eq_none (by simp;omega)]
theorem bytes_words (s:List UInt8) (z:Nat):bytesF (wordsF s++List.replicate z 0) s.length=(s,0):=by
 have hl:(wordsF s).length=(s.length+7)/8:=wordsTo_len s _
 have hlen:((wordsF s++List.replicate z 0).length:Int)=(((s.length+7)/8+z:Nat):Int):=by simp[hl]
 unfold bytesF
 rw[if_neg (by rw[hlen];omega),Int.toNat_natCast,allBytes_words,List.drop_left,List.take_left,if_neg]
 intro q
 rw[List.any_eq_true] at q
 obtain⟨x,hx,h2⟩:=q
 rw[(List.mem_replicate.1 hx).2] at h2
 simp at h2
end pack
end Go.Proofs.YtkjpldganajkkaaGreatDoor.S
namespace Go.Proofs.YtkjpldganajkkaaGreatDoor.S
open Go Go.RowKit Go.Proofs.YtkjpldganajkkaaGreatDoor.NICE
namespace mir
open word node pack pool
theorem getD_set (w:List Nat) (i j x:Nat) (hi:i<w.length):(w.set i x).getD j 0=if j=i then x else w.getD j 0:=by
 rw[List.getD_eq_getElem?_getD,List.getD_eq_getElem?_getD]
 by_cases h:j=i
 ·subst h;rw[if_pos rfl,List.getElem?_set_self hi];rfl
 ·rw[if_neg h,List.getElem?_set_ne (Ne.symm h)]
theorem layW_len (w s:List Nat) (i:Nat) (h:i+s.length≤w.length):(layW w i s).length=w.length:=by
 unfold layW;simp;omega
theorem layW_get (w s:List Nat) (i j:Nat) (h:i+s.length≤w.length):(layW w i s).getD j 0=if i≤j∧j<i+s.length then s.getD (j-i) 0 else w.getD j 0:=by
 unfold layW
 simp only[List.getD_eq_getElem?_getD]
 by_cases h1:j<i
 ·rw[if_neg (by omega),List.append_assoc,List.getElem?_append_left (by simp;omega),List.getElem?_take_of_lt h1]
 ·by_cases h2:j<i+s.length
  ·rw[if_pos ⟨by omega,h2⟩,List.getElem?_append_left (by simp;omega),List.getElem?_append_right (by simp;omega),List.length_take,Nat.min_eq_left (by omega)]
  ·rw[if_neg (by omega),List.getElem?_append_right (by simp;omega),List.getElem?_drop]
   congr 2
   simp
   omega
theorem seg_eq (W L:List Nat) (a b:Nat) (hb:a+L.length=b) (hW:b≤W.length) (hj:∀j,j<L.length→W.getD (a+j) 0=L.getD j 0):(W.take b).drop a=L:=by
 apply List.ext_getElem?
 intro j
 by_cases h:j<L.length
 ·have:=hj j h
  rw[List.getD_eq_getElem?_getD,List.getD_eq_getElem?_getD,List.getElem?_eq_getElem h,List.getElem?_eq_getElem (by omega),Option.getD_some,Option.getD_some] at this
  rw[List.getElem?_drop,List.getElem?_take_of_lt (by omega),List.getElem?_eq_getElem (by omega),List.getElem?_eq_getElem h,this]
 ·rw[List.getElem?_eq_none (by simp;omega),List.getElem?_eq_none (by omega)]
structure RN (n:Node):Prop where
 kind:n.kind=1∨n.kind=2∨n.kind=3∨n.kind=4
 word:¬(deadN n.word=true∧n.word%2=1)
 pre:n.pre.length≤12
 len:n.keys.length=n.kids.length
 high:(n.keys.length:Int)≤highI n.kind
 refs:∀r∈n.kids,isRefB r=true
 rise:n.keys.Pairwise (·<·)
theorem rises_iff:∀l:List UInt8,risesB l=true↔l.Pairwise (·<·)
 |[]=>by simp[risesB]
 |[a]=>by simp[risesB]
 |a::b::l=>by
  have ih:=rises_iff (b::l)
  rw[risesB,Bool.and_eq_true,decide_eq_true_eq,ih,List.pairwise_cons (a:=a)]
  constructor
  ·rintro⟨h1,h2⟩
   refine⟨fun x hx=>?_,h2⟩
   rw[List.mem_cons] at hx
   rcases hx with rfl|hx
   ·exact h1
   ·exact UInt8.lt_trans h1 ((List.pairwise_cons.1 h2).1 x hx)
  ·rintro⟨h1,h2⟩
   exact⟨h1 b (by simp),h2⟩
theorem high_pos (k:Int):¬highI k=0↔(k=1∨k=2∨k=3∨k=4):=by
 unfold highI
 split
 ·simp_all
 ·split
  ·simp_all
  ·split
   ·simp_all
   ·split
    ·simp_all
    ·simp_all
theorem right_iff (n:Node):rightN n=true↔RN n:=by
 unfold rightN
 simp only[Bool.and_eq_true,Bool.not_eq_true',decide_eq_false_iff_not,decide_eq_true_eq,Bool.and_eq_false_iff,List.all_eq_true,rises_iff]
 constructor
 ·rintro⟨⟨⟨⟨⟨⟨h1,h2⟩,h3⟩,h4⟩,h5⟩,h6⟩,h7⟩
  refine⟨(high_pos _).1 h1,?_,h3,h4,h5,h6,h7⟩
  rintro⟨q1,q2⟩
  rcases h2 with h2|h2
  ·rw[q1] at h2;cases h2
  ·exact h2 q2
 ·rintro⟨h1,h2,h3,h4,h5,h6,h7⟩
  refine⟨⟨⟨⟨⟨⟨(high_pos _).2 h1,?_⟩,h3⟩,h4⟩,h5⟩,h6⟩,h7⟩
  by_cases q:deadN n.word=true
  ·exact .inr fun q2=>h2 ⟨q,q2⟩
  ·exact .inl (by simpa using q)
theorem ref_bounds (r:Int) (h:isRefB r=true):65536≤r∧r<2^49:=by
 unfold isRefB partsI at h
 simp only at h
 split at h
 ·cases h
 ·rename_i q
  have q1:refI (r%65536) (r/65536%4294967296) (!(r/281474976710656%2==0))=r:=by
   by_cases p:refI (r%65536) (r/65536%4294967296) (!(r/281474976710656%2==0))=r
   ·exact p
   ·exact absurd (.inr p) q
  have q0:r≠0:=fun p=>q (.inl p)
  rw[refI] at q1
  split at q1
  ·exact absurd q1.symm q0
  ·rename_i hn
   split at q1<;>omega
def baseN (kind:Int):Nat:=if kind=1 then 5 else if kind=2 then 6 else 36
theorem kidsW_get (kind:Int) (hk:kind=1∨kind=2∨kind=3):∀(bs:List UInt8) (rs:List Int) (i:Nat) (w:List Nat),bs.length=rs.length→baseN kind+i+rs.length≤w.length→∀j,
  (kidsW kind i bs rs w).getD j 0=if baseN kind+i≤j∧j<baseN kind+i+rs.length then(rs.getD (j-(baseN kind+i)) 0).toNat else w.getD j 0
 |[],[],i,w,_,_,j=>by rw[kidsW,if_neg (by simp)];simp
 |[],r::rs,i,w,h,_,j=>by simp at h
 |b::bs,[],i,w,h,_,j=>by simp at h
 |b::bs,r::rs,i,w,hl,hw,j=>by
  have hp:(placeI kind i b).toNat=baseN kind+i:=by
   unfold placeI baseN
   rcases hk with rfl|rfl|rfl<;>simp<;>omega
  simp only[List.length_cons] at hw hl
  rw[kidsW,kidsW_get kind hk bs rs (i+1) _ (by omega) (by simp;omega) j,hp]
  by_cases h1:baseN kind+(i+1)≤j∧j<baseN kind+(i+1)+rs.length
  ·rw[if_pos h1,if_pos (by simp only[List.length_cons];omega)]
   have:j-(baseN kind+i)=(j-(baseN kind+(i+1)))+1:=by omega
   rw[this];rfl
  ·rw[if_neg h1,getD_set _ _ _ _ (by omega)]
   by_cases h2:j=baseN kind+i
   ·rw[if_pos h2,if_pos (by simp only[List.length_cons];omega),h2,Nat.sub_self];rfl
   ·rw[if_neg h2,if_neg (by simp only[List.length_cons];omega)]
theorem kidsW_len (kind:Int):∀(bs:List UInt8) (rs:List Int) (i:Nat) (w:List Nat),(kidsW kind i bs rs w).length=w.length
 |[],[],i,w=>by simp[kidsW]
 |[],r::rs,i,w=>by simp[kidsW]
 |b::bs,[],i,w=>by simp[kidsW]
 |b::bs,r::rs,i,w=>by rw[kidsW,kidsW_len];simp
theorem kidsW4_other (bs:List UInt8):∀(rs:List Int) (i:Nat) (w:List Nat) (j:Nat),(∀b∈bs,j≠4+b.toNat)→(∀b∈bs,4+b.toNat<w.length)→(kidsW 4 i bs rs w).getD j 0=w.getD j 0:=by
 induction bs with
 |nil=>intro rs i w j _ _;cases rs<;>rfl
 |cons b bs ih=>
  intro rs i w j h hw
  cases rs with
  |nil=>rfl
  |cons r rs=>
   have hp:(placeI 4 i b).toNat=4+b.toNat:=by unfold placeI;simp;omega
   rw[kidsW,ih rs (i+1) _ j (fun c hc=>h c (by simp[hc])) (fun c hc=>by rw[List.length_set];exact hw c (by simp[hc])),hp,getD_set _ _ _ _ (hw b (by simp)),if_neg (h b (by simp))]
theorem kidsW4_at:∀(bs:List UInt8) (rs:List Int) (i:Nat) (w:List Nat),bs.length=rs.length→bs.Pairwise (·<·)→(∀b∈bs,4+b.toNat<w.length)→∀m,m<bs.length→(kidsW 4 i bs rs w).getD (4+(bs.getD m 0).toNat) 0=(rs.getD m 0).toNat
 |[],_,_,_,_,_,_,m,hm=>by simp at hm
 |b::bs,[],_,_,h,_,_,_,_=>by simp at h
 |b::bs,r::rs,i,w,hl,hr,hw,m,hm=>by
  have hp:(placeI 4 i b).toNat=4+b.toNat:=by unfold placeI;simp;omega
  rw[List.pairwise_cons] at hr
  rw[kidsW,hp]
  cases m with
  |zero=>
   show(kidsW 4 (i+1) bs rs _).getD (4+b.toNat) 0=r.toNat
   rw[kidsW4_other bs rs (i+1) _ (4+b.toNat) (fun c hc=>by have:=UInt8.lt_iff_toNat_lt.1 (hr.1 c hc);omega) (fun c hc=>by rw[List.length_set];exact hw c (by simp[hc])),getD_set _ _ _ _ (hw b (by simp)),if_pos rfl]
  |succ m=>
   show(kidsW 4 (i+1) bs rs _).getD (4+(bs.getD m 0).toNat) 0=(rs.getD m 0).toNat
   exact kidsW4_at bs rs (i+1) _ (by simpa using hl) hr.2 (fun c hc=>by rw[List.length_set];exact hw c (by simp[hc])) m (by simpa using hm)
end mir
end Go.Proofs.YtkjpldganajkkaaGreatDoor.S
namespace Go.Proofs.YtkjpldganajkkaaGreatDoor.S
open Go Go.RowKit Go.Proofs.YtkjpldganajkkaaGreatDoor.NICE
namespace mir
open word node pack pool
theorem nodup_inj {l:List UInt8} (hn:l.Nodup) {i j:Nat} (hi:i<l.length) (hj:j<l.length) (e:l[i]=l[j]):i=j:=by
 have h:=List.pairwise_iff_getElem.1 hn
 rcases Nat.lt_trichotomy i j with q|q|q
 ·exact absurd e (h i j hi hj q)
 ·exact q
 ·exact absurd e.symm (h j i hj hi q)
theorem size_of {n:Node} (h:RN n):sizeN n.kind.toNat=(if n.kind=1 then 12 else if n.kind=2 then 24 else if n.kind=3 then 88 else 264)∧12≤sizeN n.kind.toNat:=by
 rcases h.kind with q|q|q|q<;>rw[q]<;>decide
theorem wlen (s:List UInt8):(wordsF s).length=(s.length+7)/8:=wordsTo_len s _
theorem head0 (n:Node):([n.word,n.kind.toNat+n.pre.length*256+n.keys.length*65536]++List.replicate (sizeN n.kind.toNat-2) 0).length=sizeN n.kind.toNat-2+2:=by simp
theorem headW_len {n:Node} (h:RN n):(headW n).length=sizeN n.kind.toNat:=by
 have h1:=(size_of h).2
 have h2:=h.pre
 unfold headW
 rw[layW_len _ _ _ (by rw[head0,wlen];omega),head0];omega
theorem headW_get {n:Node} (h:RN n) (j:Nat):(headW n).getD j 0=if j=0 then n.word else if j=1 then n.kind.toNat+n.pre.length*256+n.keys.length*65536 else(wordsF n.pre).getD (j-2) 0:=by
 have h1:=(size_of h).2
 have h2:=h.pre
 unfold headW
 rw[layW_get _ _ _ _ (by rw[head0,wlen];omega)]
 by_cases q0:j=0
 ·subst q0;rw[if_neg (by omega),if_pos rfl];rfl
 by_cases q1:j=1
 ·subst q1;rw[if_neg (by omega),if_neg (by omega),if_pos rfl];rfl
 rw[if_neg q0,if_neg q1]
 by_cases q2:j<2+(wordsF n.pre).length
 ·rw[if_pos ⟨by omega,q2⟩]
 ·rw[if_neg (by omega)]
  rw[List.getD_eq_getElem?_getD,List.getElem?_append_right (by simp;omega),List.getElem?_replicate,List.getD_eq_getElem?_getD,List.getElem?_eq_none (by omega)]
  split<;>rfl
theorem headW_hi {n:Node} (h:RN n) (j:Nat) (hj:4≤j):(headW n).getD j 0=0:=by
 have h2:=h.pre
 rw[headW_get h,if_neg (by omega),if_neg (by omega),List.getD_eq_getElem?_getD,List.getElem?_eq_none (by rw[wlen];omega)];rfl
theorem keys_fit {n:Node} (h:RN n):n.kind≠3→n.kind≠4→4+(wordsF n.keys).length≤baseN n.kind∧baseN n.kind+n.keys.length≤sizeN n.kind.toNat:=by
 intro h3 h4
 have hh:=h.high
 rw[wlen]
 rcases h.kind with q|q|q|q
 ·rw[q] at hh⊢
  have:(highI 1:Int)=4:=rfl
  rw[this] at hh
  have:sizeN (Int.toNat 1)=12:=by decide
  rw[this]
  simp[baseN];omega
 ·rw[q] at hh⊢
  have:(highI 2:Int)=16:=rfl
  rw[this] at hh
  have:sizeN (Int.toNat 2)=24:=by decide
  rw[this]
  simp[baseN];omega
 ·exact absurd q h3
 ·exact absurd q h4
theorem keys_fit3 {n:Node} (h:RN n) (q:n.kind=3):n.keys.length≤48:=by
 have hh:=h.high
 rw[q] at hh
 have:(highI 3:Int)=48:=rfl
 omega
theorem keysW_len {n:Node} (h:RN n):(keysW n).length=sizeN n.kind.toNat:=by
 have h1:=headW_len h
 unfold keysW
 by_cases q3:n.kind=3
 ·rw[if_pos q3,layW_len _ _ _ (by rw[h1,q3,indexF,indexTo_len];decide),h1]
 ·rw[if_neg q3]
  by_cases q4:n.kind=4
  ·rw[if_pos q4,h1]
  ·rw[if_neg q4,layW_len _ _ _ (by have:=keys_fit h q3 q4;rw[h1];omega),h1]
theorem enc_right {n:Node} (h:RN n):encW n=kidsW n.kind 0 n.keys n.kids (keysW n):=by rw[encW,if_pos ((right_iff n).2 h)]
theorem enc_len {n:Node} (h:RN n):(encW n).length=sizeN n.kind.toNat:=by rw[enc_right h,kidsW_len,keysW_len h]
theorem kind4_room {n:Node} (h:RN n) (q:n.kind=4):∀b∈n.keys,4+b.toNat<(keysW n).length:=by
 intro b _
 have:b.toNat<256:=b.toNat_lt
 rw[keysW_len h,q,show sizeN (Int.toNat 4)=264 by decide];omega
theorem enc_low {n:Node} (h:RN n) (j:Nat) (hj:n.kind=4→j<4) (hj':n.kind≠4→j<baseN n.kind):(encW n).getD j 0=(keysW n).getD j 0:=by
 rw[enc_right h]
 by_cases q:n.kind=4
 ·rw[q,kidsW4_other n.keys n.kids 0 _ j (fun b _=>by have:=hj q;omega) (kind4_room h q)]
 ·have hk:n.kind=1∨n.kind=2∨n.kind=3:=by
   rcases h.kind with q'|q'|q'|q'
   ·exact .inl q'
   ·exact .inr (.inl q')
   ·exact .inr (.inr q')
   ·exact absurd q' q
  have hb:=hj' q
  rw[kidsW_get n.kind hk n.keys n.kids 0 _ h.len ?_ j,if_neg (by omega)]
  rw[keysW_len h,Nat.add_zero,←h.len]
  by_cases q3:n.kind=3
  ·have:=keys_fit3 h q3
   rw[q3,show sizeN (Int.toNat 3)=88 by decide]
   show 36+_≤88
   omega
  ·exact(keys_fit h q3 q).2
theorem enc_head {n:Node} (h:RN n) (j:Nat) (hj:j<4):(encW n).getD j 0=(headW n).getD j 0:=by
 have hbase:j<baseN n.kind:=by
  unfold baseN
  repeat' split
  all_goals omega
 rw[enc_low h j (fun _=>hj) (fun _=>hbase)]
 have h1:=headW_len h
 unfold keysW
 by_cases q3:n.kind=3
 ·rw[if_pos q3,layW_get _ _ _ _ (by rw[h1,q3,indexF,indexTo_len];decide),if_neg (by omega)]
 ·rw[if_neg q3]
  by_cases q4:n.kind=4
  ·rw[if_pos q4]
  ·rw[if_neg q4,layW_get _ _ _ _ (by have:=keys_fit h q3 q4;rw[h1];omega),if_neg (by omega)]
theorem enc_kids {n:Node} (h:RN n) (m:Nat) (hm:m<n.keys.length):(encW n).getD (placeI n.kind m (n.keys.getD m 0)).toNat 0=(n.kids.getD m 0).toNat:=by
 rw[enc_right h]
 by_cases q:n.kind=4
 ·rw[q]
  have hp:(placeI 4 m (n.keys.getD m 0)).toNat=4+(n.keys.getD m 0).toNat:=by unfold placeI;simp;omega
  rw[hp,kidsW4_at n.keys n.kids 0 _ h.len h.rise (kind4_room h q) m hm]
 ·have hk:n.kind=1∨n.kind=2∨n.kind=3:=by
   rcases h.kind with q'|q'|q'|q'
   ·exact .inl q'
   ·exact .inr (.inl q')
   ·exact .inr (.inr q')
   ·exact absurd q' q
  have hp:(placeI n.kind m (n.keys.getD m 0)).toNat=baseN n.kind+m:=by
   unfold placeI baseN
   rcases hk with q|q|q<;>rw[q]<;>simp<;>omega
  have hlen:=h.len
  rw[kidsW_get n.kind hk n.keys n.kids 0 _ h.len ?_ _,hp,if_pos (by omega)]
  ·congr 2
   omega
  rw[keysW_len h,Nat.add_zero,←h.len]
  by_cases q3:n.kind=3
  ·have:=keys_fit3 h q3
   rw[q3,show sizeN (Int.toNat 3)=88 by decide]
   show 36+_≤88
   omega
  ·exact(keys_fit h q3 q).2
theorem idx_byte (l:List UInt8) (hn:l.Nodup) (hl:l.length≤255):∀i,i≤l.length→∀k j,k<32→j<8→
  (∀m,m<i→(l.getD m 0).toNat=8*k+j→(indexTo l i).getD k 0/2^(8*j)%256=m+1)∧((∀m,m<i→(l.getD m 0).toNat≠8*k+j)→(indexTo l i).getD k 0/2^(8*j)%256=0)
 |0,_,k,j,hk,hj=>by
  refine⟨fun m hm=>by omega,fun _=>?_⟩
  rw[indexTo,List.getD_eq_getElem?_getD,List.getElem?_replicate]
  split<;>simp
 |i+1,hi,k,j,hk,hj=>by
  have ih:=idx_byte l hn hl i (by omega) k j hk hj
  have hb:(l.getD i 0).toNat<256:=(l.getD i 0).toNat_lt
  have hinj:∀m,m<i→(l.getD m 0).toNat≠(l.getD i 0).toNat:=by
   intro m hm q
   have q':=UInt8.toNat_inj.1 q
   rw[List.getD_eq_getElem?_getD,List.getD_eq_getElem?_getD,List.getElem?_eq_getElem (by omega),List.getElem?_eq_getElem (by omega),Option.getD_some,Option.getD_some] at q'
   have:=nodup_inj hn _ _ q'
   omega
  rw[indexTo,xStep,getD_set _ _ _ _ (by rw[indexTo_len];omega)]
  by_cases hkk:k=(l.getD i 0).toNat/8
  ·rw[if_pos hkk,←hkk,or_byte _ _ _ _ (by omega)]
   by_cases hjj:j=(l.getD i 0).toNat%8
   ·rw[if_pos hjj]
    have e:(l.getD i 0).toNat=8*k+j:=by omega
    have z:=ih.2 fun m hm q=>hinj m hm (q.trans e.symm)
    rw[z,Nat.zero_or]
    refine⟨fun m hm q=>?_,fun q=>absurd e (q i (by omega))⟩
    by_cases h:m<i
    ·exact absurd (q.trans e.symm) (hinj m h)
    ·omega
   ·rw[if_neg hjj]
    refine⟨fun m hm q=>?_,fun q=>ih.2 fun m hm=>q m (by omega)⟩
    by_cases h:m<i
    ·exact ih.1 m h q
    ·have:m=i:=by omega
     subst this
     omega
  ·rw[if_neg hkk]
   refine⟨fun m hm q=>?_,fun q=>ih.2 fun m hm=>q m (by omega)⟩
   by_cases h:m<i
   ·exact ih.1 m h q
   ·have:m=i:=by omega
    subst this
    omega
theorem deIdx_all (w:List Nat) (l:List UInt8) (hn:l.Nodup) (hl:l.length≤255) (hw:∀k,k<32→w.getD (4+k) 0=(indexF l).getD k 0):
  ∀b,b≤256→deIdx w l.length b=some (l.map fun c=>if c.toNat<b then c else 0)
 |0,_=>by
  rw[deIdx]
  congr 1
  apply List.ext_getElem?
  intro i
  rw[List.getElem?_replicate,List.getElem?_map]
  split
  ·rename_i h;rw[List.getElem?_eq_getElem h];simp
  ·rename_i h;rw[List.getElem?_eq_none (by omega)];rfl
 |b+1,hb=>by
  rw[deIdx,deIdx_all w l hn hl hw b (by omega)]
  simp only
  rw[hw (b/8) (by omega)]
  obtain⟨i1,i2⟩:=idx_byte l hn hl l.length (Nat.le_refl _) (b/8) (b%8) (by omega) (by omega)
  have e:8*(b/8)+b%8=b:=by omega
  rw[e] at i1 i2
  rw[indexF]
  by_cases q:∃m,m<l.length∧(l.getD m 0).toNat=b
  ·obtain⟨m,hm,hmb⟩:=q
   rw[i1 m hm hmb,if_neg (by omega),if_pos (by omega),Nat.add_sub_cancel]
   congr 1
   apply List.ext_getElem?
   intro i
   rw[List.getElem?_set,List.getElem?_map,List.getElem?_map,List.length_map]
   by_cases him:m=i
   ·subst him
    rw[if_pos rfl,if_pos hm,List.getElem?_eq_getElem hm]
    rw[List.getD_eq_getElem?_getD,List.getElem?_eq_getElem hm,Option.getD_some] at hmb
    rw[Option.map_some,if_pos (by omega),←hmb]
    simp
   ·rw[if_neg him]
    by_cases hil:i<l.length
    ·rw[List.getElem?_eq_getElem hil,Option.map_some,Option.map_some]
     have:l[i].toNat≠b:=by
      intro q
      rw[List.getD_eq_getElem?_getD,List.getElem?_eq_getElem hm,Option.getD_some,←q] at hmb
      exact him (nodup_inj hn _ _ (UInt8.toNat_inj.1 hmb))
     by_cases h:l[i].toNat<b
     ·rw[if_pos h,if_pos (by omega)]
     ·rw[if_neg h,if_neg (by omega)]
    ·rw[List.getElem?_eq_none (by omega)];rfl
  ·rw[i2 fun m hm p=>q ⟨m,hm,p⟩,if_neg (by omega),if_neg (by omega)]
   congr 1
   apply List.map_congr_left
   intro c hc
   have:c.toNat≠b:=by
    intro p
    obtain⟨m,hm,e⟩:=List.mem_iff_getElem.1 hc
    exact q ⟨m,hm,by rw[List.getD_eq_getElem?_getD,List.getElem?_eq_getElem hm,Option.getD_some,e];exact p⟩
   by_cases h:c.toNat<b
   ·rw[if_pos h,if_pos (by omega)]
   ·rw[if_neg h,if_neg (by omega)]
theorem filt_step (b:Nat) (hb:b<256):∀l:List UInt8,l.Pairwise (·<·)→l.filter (fun c=>decide (c.toNat<b+1))=l.filter (fun c=>decide (c.toNat<b))++(if UInt8.ofNat b∈l then[UInt8.ofNat b] else[])
 |[],_=>by simp
 |a::l,h=>by
  rw[List.pairwise_cons] at h
  have hbb:(UInt8.ofNat b).toNat=b:=by rw[UInt8.toNat_ofNat'];omega
  have ih:=filt_step b hb l h.2
  by_cases q:a.toNat<b
  ·have:UInt8.ofNat b≠a:=by rintro p;rw[←p,hbb] at q;omega
   rw[List.filter_cons_of_pos (by simp;omega),List.filter_cons_of_pos (by simpa using q),ih]
   simp[this]
  ·have none_:∀k,k≤a.toNat→l.filter (fun c=>decide (c.toNat<k))=[]:=by
    intro k hk
    rw[List.filter_eq_nil_iff]
    intro c hc
    have:=UInt8.lt_iff_toNat_lt.1 (h.1 c hc)
    simp;omega
   by_cases p:a.toNat=b
   ·have pa:UInt8.ofNat b=a:=by rw[←p];simp
    rw[List.filter_cons_of_pos (by simp;omega),List.filter_cons_of_neg (by simp;omega),none_ b (by omega),pa]
    have:l.filter (fun c=>decide (c.toNat<b+1))=[]:=by
     rw[List.filter_eq_nil_iff]
     intro c hc
     have:=UInt8.lt_iff_toNat_lt.1 (h.1 c hc)
     simp;omega
    rw[this];simp
   ·have ne:UInt8.ofNat b∉a::l:=by
     rw[List.mem_cons]
     rintro(r|r)
     ·rw[←r,hbb] at p;exact p rfl
     ·have:=UInt8.lt_iff_toNat_lt.1 (h.1 _ r)
      rw[hbb] at this
      omega
    rw[if_neg ne,List.filter_cons_of_neg (by simp;omega),List.filter_cons_of_neg (by simp;omega),none_ b (by omega),none_ (b+1) (by omega)]
    rfl
theorem deAll_all (w:List Nat) (l:List UInt8) (hr:l.Pairwise (·<·)) (hw:∀b,b<256→(w.getD (4+b) 0≠0↔UInt8.ofNat b∈l)):∀b,b≤256→deAll w b=l.filter (fun c=>decide (c.toNat<b))
 |0,_=>by rw[deAll];symm;rw[List.filter_eq_nil_iff];simp
 |b+1,hb=>by
  rw[deAll,deAll_all w l hr hw b (by omega),filt_step b (by omega) l hr]
  by_cases q:UInt8.ofNat b∈l
  ·rw[if_pos q,if_pos ((hw b (by omega)).2 q)]
  ·rw[if_neg q,if_neg fun p=>q ((hw b (by omega)).1 p)];simp
theorem rise_nodup {l:List UInt8} (h:l.Pairwise (·<·)):l.Nodup:=h.imp fun{a b} q p=>by subst p;exact absurd (UInt8.lt_iff_toNat_lt.1 q) (Nat.lt_irrefl _)
theorem bytesN_enc {n:Node} (h:RN n):bytesN (encW n) n.kind n.keys.length=(n.keys,true):=by
 have hlen:=enc_len h
 have h1:=headW_len h
 have small:n.kind≠3→n.kind≠4→∀c,4+c≤baseN n.kind→(wordsF n.keys).length≤c→((encW n).take (4+c)).drop 4=wordsF n.keys++List.replicate (c-(wordsF n.keys).length) 0:=by
  intro q3 q4 c hc hk
  have hf:=keys_fit h q3 q4
  refine seg_eq _ _ _ _ (by simp;omega) (by rw[hlen];omega) fun j hj=>?_
  simp at hj
  rw[enc_low h _ (fun p=>absurd p q4) (fun _=>by omega),keysW,if_neg q3,if_neg q4,layW_get _ _ _ _ (by rw[h1];omega)]
  by_cases p:j<(wordsF n.keys).length
  ·rw[if_pos (by omega),Nat.add_sub_cancel_left,List.getD_eq_getElem?_getD,List.getD_eq_getElem?_getD,List.getElem?_append_left p]
  ·rw[if_neg (by omega),headW_hi h _ (by omega),List.getD_eq_getElem?_getD,List.getElem?_append_right (by omega),List.getElem?_replicate,if_pos (by omega)];rfl
 rcases h.kind with q|q|q|q
 ·have q3:n.kind≠3:=by omega
  have q4:n.kind≠4:=by omega
  have hk:=h.high
  rw[q,show(highI 1:Int)=4 from rfl] at hk
  have s:=small q3 q4 1 (by rw[q];decide) (by rw[wlen];omega)
  rw[q,bytesN,if_pos rfl,s,bytes_words];simp
 ·have q3:n.kind≠3:=by omega
  have q4:n.kind≠4:=by omega
  have hk:=h.high
  rw[q,show(highI 2:Int)=16 from rfl] at hk
  have s:=small q3 q4 2 (by rw[q];decide) (by rw[wlen];omega)
  rw[q,bytesN,if_neg (by decide),if_pos rfl,s,bytes_words];simp
 ·have hk:=keys_fit3 h q
  rw[q,bytesN,if_neg (by decide),if_neg (by decide),if_pos rfl,deIdx_all (encW n) n.keys (rise_nodup h.rise) (by omega) ?_ 256 (Nat.le_refl _)]
  ·simp only
   congr 1
   conv=>rhs;rw[←List.map_id n.keys]
   apply List.map_congr_left
   intro c _
   rw[if_pos c.toNat_lt];rfl
  ·intro k hk
   rw[enc_low h _ (fun p=>by omega) (fun _=>by rw[q];show _<36;omega),keysW,if_pos q,layW_get _ _ _ _ (by rw[h1,q,indexF,indexTo_len];decide),if_pos (by rw[indexF,indexTo_len];omega),Nat.add_sub_cancel_left]
 ·rw[q,bytesN,if_neg (by decide),if_neg (by decide),if_neg (by decide),deAll_all (encW n) n.keys h.rise ?_ 256 (Nat.le_refl _)]
  ·have:n.keys.filter (fun c=>decide (c.toNat<256))=n.keys:=by
    rw[List.filter_eq_self]
    intro c _
    simpa using c.toNat_lt
   rw[this];simp
  ·intro b hb
   have hbb:(UInt8.ofNat b).toNat=b:=by rw[UInt8.toNat_ofNat'];omega
   rw[enc_right h,q]
   by_cases p:UInt8.ofNat b∈n.keys
   ·obtain⟨m,hm,e⟩:=List.mem_iff_getElem.1 p
    have:=kidsW4_at n.keys n.kids 0 _ h.len h.rise (kind4_room h q) m hm
    have hkm:n.keys.getD m 0=UInt8.ofNat b:=by rw[List.getD_eq_getElem?_getD,List.getElem?_eq_getElem hm,Option.getD_some,e]
    rw[hkm,hbb] at this
    rw[this]
    refine⟨fun _=>p,fun _=>?_⟩
    have hmk:m<n.kids.length:=by rw[←h.len];exact hm
    have hr:=ref_bounds _ (h.refs _ (List.getElem_mem hmk))
    rw[List.getD_eq_getElem?_getD,List.getElem?_eq_getElem hmk,Option.getD_some]
    omega
   ·rw[kidsW4_other n.keys n.kids 0 _ (4+b) (fun c hc r=>p (by
     have:c.toNat=b:=by omega
     rw[←this];simpa using hc)) (kind4_room h q),keysW,if_neg (by omega),if_pos q,headW_hi h _ (by omega)]
    simp[p]
theorem kidsOf_enc {n:Node} (h:RN n):∀(bs:List UInt8) (i:Nat),i+bs.length=n.keys.length→bs=n.keys.drop i→kidsOf n.kind (encW n) i bs=n.kids.drop i
 |[],i,hi,_=>by
  rw[kidsOf,List.drop_eq_nil_of_le (by rw[←h.len];simp at hi;omega)]
 |b::bs,i,hi,hb=>by
  simp only[List.length_cons] at hi
  have hik:i<n.kids.length:=by rw[←h.len];omega
  rw[List.drop_eq_getElem_cons (by omega)] at hb
  obtain⟨hb1,hb2⟩:=List.cons.inj hb
  have hbd:n.keys.getD i 0=b:=by rw[List.getD_eq_getElem?_getD,List.getElem?_eq_getElem (by omega),Option.getD_some,←hb1]
  have e:=enc_kids h i (by omega)
  rw[hbd] at e
  have hr:=ref_bounds _ (h.refs _ (List.getElem_mem hik))
  rw[kidsOf,e,kidsOf_enc h bs (i+1) (by omega) hb2,List.drop_eq_getElem_cons hik,List.getD_eq_getElem?_getD,List.getElem?_eq_getElem hik,Option.getD_some]
  congr 1
  rw[wrap_i64_small (by omega) (by omega)]
  omega
theorem dec_enc {n:Node} (hr:rightN n=true):decN (encW n)=(n,true):=by
 have h:=(right_iff n).1 hr
 have hlen:=enc_len h
 obtain⟨hs,hs12⟩:=size_of h
 have hp:=h.pre
 have hhi:=h.high
 have hh256:highI n.kind≤256:=by rcases h.kind with q|q|q|q<;>rw[q]<;>decide
 have hkb:1≤n.kind∧n.kind≤4:=by rcases h.kind with q|q|q|q<;>omega
 have g1:(encW n).getD 1 0=n.kind.toNat+n.pre.length*256+n.keys.length*65536:=by rw[enc_head h 1 (by omega),headW_get h];rfl
 have g0:(encW n).getD 0 0=n.word:=by rw[enc_head h 0 (by omega),headW_get h];rfl
 have e1:(((encW n).getD 1 0%256:Nat):Int)=n.kind:=by rw[g1];omega
 have e2:(encW n).getD 1 0/256%256=n.pre.length:=by rw[g1];omega
 have e3:(encW n).getD 1 0/65536%65536=n.keys.length:=by rw[g1];omega
 have eseg:((encW n).take 4).drop 2=wordsF n.pre++List.replicate (2-(wordsF n.pre).length) 0:=by
  have hw:=wlen n.pre
  refine seg_eq _ _ _ _ (by simp;omega) (by omega) fun j hj=>?_
  simp at hj
  rw[enc_head h _ (by omega),headW_get h,if_neg (by omega),if_neg (by omega),Nat.add_sub_cancel_left]
  rw[List.getD_eq_getElem?_getD,List.getD_eq_getElem?_getD]
  by_cases p:j<(wordsF n.pre).length
  ·rw[List.getElem?_append_left p]
  ·rw[List.getElem?_append_right (by omega),List.getElem?_replicate,if_pos (by omega),List.getElem?_eq_none (by omega)];rfl
 have ebytes:bytesF (((encW n).take 4).drop 2) (((encW n).getD 1 0/256%256:Nat):Int)=(n.pre,0):=by rw[eseg,e2];exact bytes_words _ _
 have ekeys:bytesN (encW n) (((encW n).getD 1 0%256:Nat):Int) ((encW n).getD 1 0/65536%65536)=(n.keys,true):=by rw[e1,e3];exact bytesN_enc h
 have eout:outN (encW n)=n:=by
  unfold outN
  rw[ebytes,ekeys,e1,g0,kidsOf_enc h n.keys 0 (by omega) rfl]
  rfl
 unfold decN
 rw[if_neg (by omega),eout,ebytes,ekeys,e1,e3,if_neg,if_neg (by simp),if_pos rfl]
 rintro(q|q|q)
 ·exact(high_pos _).2 h.kind q
 ·refine q ?_
  rw[hlen]
  rcases h.kind with q|q|q|q<;>rw[q]<;>decide
 ·omega
end mir
end Go.Proofs.YtkjpldganajkkaaGreatDoor.S
namespace Go.Proofs.YtkjpldganajkkaaGreatDoor.S
open Go Go.RowKit Go.Proofs.YtkjpldganajkkaaGreatDoor.NICE
namespace node
open pack word mir
theorem rlen (l:List Nat):(rows U l).length=l.length:=by rw[rows_len (k:=1) (fun _=>rfl)];omega
theorem kStr_K {h:NHeap} {v:NVal} {l:List UInt8} (s:Rw h 1 UB v l) (hv:SlV h v):kStr Tryz.prog h 39 9 (some v)=some (.str l):=by
 obtain⟨bo,c,x,rfl⟩:=s.form
 cases bo with
 |none=>
  obtain⟨_,bo',c',x',q1,_,_,q2⟩:=s
  simp only[NVal.slice.injEq] at q1
  rcases q2 with q2|⟨b,o,all,m,q,_⟩
  ·have:l=[]:=List.eq_nil_of_length_eq_zero q2
   subst this
   rfl
  ·rw[←q1.1] at q;cases q
 |some a=>
  obtain⟨b,o⟩:=a
  obtain⟨all,m,g,le⟩:=hv b o _ c x rfl
  have hr:(all.drop o).take l.length=u8s l:=by
   obtain⟨_,bo',c',x',q1,_,_,q2⟩:=s
   simp only[NVal.slice.injEq] at q1
   rcases q2 with q2|⟨b',o',all',m',q,g',hcs⟩
   ·have:l=[]:=List.eq_nil_of_length_eq_zero q2
    subst this
    simp[u8s]
   ·rw[←q1.1] at q
    simp only[Option.some.injEq,Prod.mk.injEq] at q
    obtain⟨rfl,rfl⟩:=q
    rw[g] at g'
    simp only[Option.some.injEq,NObj.cells.injEq] at g'
    obtain⟨rfl,rfl⟩:=g'
    rw[Nat.mul_one] at hcs
    rw[hcs,u8s_rows]
  have hu:Tryz.prog.underlying 39=some (.slice 5):=Tryz.underlying39
  have hs:Tryz.prog.underlying 9=some .string:=Tryz.underlying9
  have h5:Tryz.prog.underlying 5=some (.int .u8):=Tryz.underlying5
  simp only[kStr,hu,hs,h5,g,le,if_true,hr,u8s_bytes]
theorem setRange_lay (W s:List Nat) (i:Nat):setRange (rows U W) i (rows U s)=rows U (layW W i s):=by
 unfold setRange layW
 have e1:=rows_take (f:=U) (k:=1) (fun _=>rfl) W i
 have e2:=rows_drop (f:=U) (k:=1) (fun _=>rfl) W (i+s.length)
 rw[Nat.mul_one] at e1 e2
 rw[rlen,e1,e2,rows_append,rows_append]
theorem setRange_w (W:List Nat) (i x:Nat) (hi:i<W.length):setRange (rows U W) i [.int .u64 (x:Nat)]=rows U (W.set i x):=by
 rw[setRange_single _ _ _ (by rw[rlen];exact hi)]
 have:=rows_set (f:=U) (k:=1) (fun _=>rfl) W i x hi
 rw[Nat.mul_one] at this
 rw[←this,setRange_single _ _ _ (by rw[rlen];exact hi)]
theorem ncopy_at {h:NHeap} {b o dl dc:Nat} {dx:Option Nat} {W:List Nat} {q:Option (TypeId×Nat)} {v:NVal} {s:List Nat}
  (hd:h.get b=some (.cells (rows U W) (.own q))) (sv:Rw h 1 U v s) (hn:s.length≤dl) (hlo:o+s.length≤W.length):
  ∃h',ncopy Tryz.prog 106 (.slice (some (b,o)) dl dc dx) v h=some (.int .i64 s.length,h')∧h'.next=h.next∧h'.get b=some (.cells (rows U (layW W o s)) (.own q))∧Upd [b] h h':=by
 have hu:Tryz.prog.underlying 106=some (.slice 108):=Tryz.underlying106
 by_cases h0:s.length=0
 ·have hs:s=[]:=List.eq_nil_of_length_eq_zero h0
  subst hs
  obtain⟨s1,s2⟩:=sv.src (by decide)
  refine⟨h,?_,rfl,by rw[hd];congr 3;simp[layW],Upd.refl _ _⟩
  obtain⟨bo,c,x,rfl⟩:=sv.form
  unfold ncopy
  rw[hu]
  simp only[List.length_nil] at s1 s2⊢
  simp only[sz108,nlenOf,Nat.min_zero,Nat.zero_min,s2,rows_nil,allOne,if_true,Nat.zero_mul]
  try rfl
 ·obtain⟨sb,so,c,x,all,m,rfl,h1,h2,hg,h4,h5⟩:=sv.at (by omega) (by decide)
  have e:=ncopy_row (P:=Tryz.prog) hu sz108 (o:=o) (dl:=dl) (dc:=dc) (dx:=dx) (sx:=x) (sc:=c) (sl:=s.length) hd hg (k:=s.length) (by omega) (by omega) h4 h5 (rows_one (fun _=>rfl) _) (by rw[rlen];omega)
  rw[setRange_lay] at e
  exact⟨_,e,rfl,NHeap.get_set_same (NHeap.get_lt hd),(Upd.refl _ _).set (.inl (by simp)) _⟩
noncomputable def lbNE:Code:=inC (inC (atC (bodyOf Tryz.f38) 11))
set_option maxHeartbeats 1000000 in
theorem loopNE (hA:NHeap) (nb wb:Nat) (n:mir.Node) (hR:RN n) (kv iv:NVal) (hN:NodeAt hA n kv iv) (gn:hA.get nb=some (.cells (nodeV n kv iv) (.own none))) (hwb:hA.next≤wb) (F0:Fr) (f1:F0 1=.ptr (some (nb,0))) (f3:F0 3=.slice (some (wb,0)) (sizeN n.kind.toNat) (sizeN n.kind.toNat) none)
  (f4:F0 4=.int .i64 ((if n.kind=4 then 4 else baseN n.kind:Nat):Int)) (f69:F0 69=iv) (f70:F0 70=.int .i64 n.kids.length) (R:List Nat) (Q:Out→Prop)
  (hQ:∀(h:NHeap) (F:Fr),Ext hA h→h.get wb=some (.cells (rows U R) (.own none))→F 3=.slice (some (wb,0)) (sizeN n.kind.toNat) (sizeN n.kind.toNat) none→Q (some (.exit 1,toL 96 F,h))):
  ∀(f i:Nat) (h:NHeap) (W:List Nat) (F:Fr),i+f=n.kids.length→kidsW n.kind i (n.keys.drop i) (n.kids.drop i) W=R→W.length=sizeN n.kind.toNat→Ext hA h→h.get wb=some (.cells (rows U W) (.own none))→Keep [1,3,4,69,70] F0 F→F 71=.int .i64 i→Q (C env (.loop lbNE) (toL 96 F) h):=by
 intro f
 induction f with
 |zero=>
  intro i h W F hi hr hW hE gw kp f71
  have:i=n.kids.length:=by omega
  subst this
  have f70':=(kp 70 rfl).trans f70
  have f3':=(kp 3 rfl).trans f3
  rw[List.drop_eq_nil_of_le (Nat.le_of_eq hR.len),List.drop_eq_nil_of_le (Nat.le_refl _),kidsW] at hr
  ·subst hr
   rw[S_loop]
   conv=>arg 1;arg 2;arg 2;simp only[lbNE,bodyOf,Option.getD_some,atC,seqL,inC,elC,List.nil_append,List.cons_append,List.getElem?_cons_succ,List.getElem?_cons_zero,Tryz.f38]
   simp only[go_sem,seval,f70',f71]
   exact hQ h _ hE gw (by simp only[go_sem,seval,f3'])
  ·intro _ _ _ _ h;cases h
 |succ f ih=>
  intro i h W F hi hr hW hE gw kp f71
  have f1':=(kp 1 rfl).trans f1
  have f3':=(kp 3 rfl).trans f3
  have f4':=(kp 4 rfl).trans f4
  have f69':=(kp 69 rfl).trans f69
  have f70':=(kp 70 rfl).trans f70
  have hlen:=hR.len
  have hNh:=hN.ext hE
  have gnh:=hE.get gn
  obtain⟨r,hr'⟩:∃r,n.kids[i]? =some r:=⟨n.kids[i]'(by omega),List.getElem?_eq_getElem (by omega)⟩
  obtain⟨k,hk'⟩:∃k,n.keys[i]? =some k:=⟨n.keys[i]'(by omega),List.getElem?_eq_getElem (by omega)⟩
  obtain⟨ib,io,ic,ix,iall,im,hiv,gI,rowI,leI⟩:=Sl.elem (f:=I) (k:=1) (fun _=>rfl) hNh.kids hr'
  obtain⟨kb,ko,kc,kx,kall,km,hkv,gK,rowK,leK⟩:=Sl.elem (f:=UB) (k:=1) (fun _=>rfl) hNh.keys hk'
  have cellI:=rowcell rowI (show(I r)[0]? =some (.int .i64 r) from rfl)
  have cellK:=rowcell rowK (show(UB k)[0]? =some (.int .u8 (k.toNat:Int)) from rfl)
  simp only[Nat.mul_one,Nat.add_zero] at cellI cellK
  have gn':h.get nb=some (.cells [.int .i64 n.kind,.int .u64 (n.word:Nat),.str n.pre,kv,iv] (.own none)):=gnh
  rw[hiv] at f69' gn'
  rw[hkv] at gn'
  have d1:n.kids.drop i=r::n.kids.drop (i+1):=by
   rw[List.drop_eq_getElem_cons (by omega)]
   congr 1
   rw[List.getElem?_eq_getElem (by omega)] at hr'
   exact Option.some.inj hr'
  have d2:n.keys.drop i=k::n.keys.drop (i+1):=by
   rw[List.drop_eq_getElem_cons (by omega)]
   congr 1
   rw[List.getElem?_eq_getElem (by omega)] at hk'
   exact Option.some.inj hk'
  rw[d1,d2,kidsW] at hr
  have hrb:=ref_bounds r (hR.refs r (List.mem_of_getElem? hr'))
  have h256:(n.keys.length:Int)≤256:=Int.le_trans hR.high (by rcases hR.kind with q|q|q|q<;>rw[q]<;>decide)
  have i0:(0:Int)≤(i:Int):=by omega
  have i1:(i:Int)<(n.kids.length:Int):=by omega
  have i2:(i:Int)<(n.keys.length:Int):=by omega
  have w1:IntKind.i64.wrap ((i:Int)+1)=((i+1:Nat):Int):=by rw[wrap_i64_small (by omega) (by omega)];omega
  have wr:IntKind.u64.wrap r=((r.toNat:Nat):Int):=by rw[wrap_u64_small (by omega) (by omega)];omega
  have kt:k.toNat<256:=k.toNat_lt
  have wk:IntKind.i64.wrap (k.toNat:Int)=(k.toNat:Int):=wrap_i64_small (by omega) (by omega)
  obtain⟨N,hN'⟩:∃N,sizeN n.kind.toNat=N:=⟨_,rfl⟩
  obtain⟨pl,hpl⟩:∃pl,(placeI n.kind i k).toNat=pl:=⟨_,rfl⟩
  rw[hpl] at hr
  have hNN:N<2^20:=by rw[←hN'];rcases hR.kind with q|q|q|q<;>rw[q]<;>decide
  have hplN:pl<N:=by
   rw[←hN',←hpl]
   by_cases q:n.kind=4
   ·rw[q,show sizeN (Int.toNat 4)=264 by decide]
    unfold placeI;simp;omega
   ·by_cases q3:n.kind=3
    ·have:=keys_fit3 hR q3
     rw[q3,show sizeN (Int.toNat 3)=88 by decide]
     unfold placeI;simp;omega
    ·have:=(keys_fit hR q3 q).2
     have hp:(placeI n.kind i k).toNat=baseN n.kind+i:=by
      unfold placeI baseN
      rcases hR.kind with q|q|q|q<;>simp_all<;>omega
     omega
  have p0:(0:Int)≤(pl:Int):=by omega
  have p1:(pl:Int)<(N:Int):=by omega
  have ss:=setRange_w W pl r.toNat (by omega)
  have wl:pl+1≤N:=by omega
  have rl:(rows U W).length=N:=by rw[rlen,hW,hN']
  have lw:=NHeap.get_lt gw
  rw[hN'] at f3'
  obtain⟨H2,hH2⟩:∃H2,h.set wb (.cells (rows U (W.set pl r.toNat)) (.own none))=H2:=⟨_,rfl⟩
  have fin:∀F':Fr,Keep [1,3,4,69,70] F F'→F' 71=.int .i64 ((i+1:Nat):Int)→Q (C env (.loop lbNE) (toL 96 F') H2):=fun F' kp' f71'=>by
   refine ih (i+1) H2 (W.set pl r.toNat) F' (by omega) hr (by rw[List.length_set];exact hW) ?_ ?_ (kp.trans kp') f71'
   ·rw[←hH2];exact hE.set hwb _
   ·rw[←hH2];exact NHeap.get_set_same lw
  rw[S_loop]
  conv=>arg 1;arg 2;arg 2;simp only[lbNE,bodyOf,Option.getD_some,atC,seqL,inC,elC,List.nil_append,List.cons_append,List.getElem?_cons_succ,List.getElem?_cons_zero,Tryz.f38]
  by_cases q:n.kind=4
  ·have qd:decide (n.kind=4)=true:=decide_eq_true q
   rw[if_pos q] at f4'
   have hp4:pl=4+k.toNat:=by rw[←hpl,q];unfold placeI;simp;omega
   have wa:IntKind.i64.wrap ((4:Nat)+(i:Int))=((4+i:Nat):Int):=by rw[wrap_i64_small (by omega) (by omega)];omega
   have wb4:IntKind.i64.wrap (4+(k.toNat:Int))=(pl:Int):=by rw[wrap_i64_small (by omega) (by omega)];omega
   have wa':IntKind.i64.wrap (4+(i:Int))=4+(i:Int):=by rw[wrap_i64_small (by omega) (by omega)]
   simp only[go_sem,seval,f1',f3',f4',f69',f70',f71,i0,i1,i2,gI,cellI,gn',qd,gK,cellK,wk,wa,wa',wb4,wr,p0,p1,gw,rl,wl,ss,lw,hH2,w1,Nat.mul_one,Nat.zero_add,Nat.add_zero]
   refine fin _ ?_ (by simp only[go_sem,seval])
   repeat(first|exact Keep.refl _ _|refine Keep.upd ?_ rfl)
  ·have qd:¬n.kind=4:=q
   rw[if_neg q] at f4'
   have hpb:pl=baseN n.kind+i:=by
    rw[←hpl]
    unfold placeI baseN
    rcases hR.kind with q|q|q|q<;>simp_all<;>omega
   have wa:IntKind.i64.wrap ((baseN n.kind:Int)+(i:Int))=(pl:Int):=by rw[wrap_i64_small (by omega) (by omega)];omega
   simp only[go_sem,seval,f1',f3',f4',f69',f70',f71,i0,i1,i2,gI,cellI,gn',qd,wa,wr,p0,p1,gw,rl,wl,ss,lw,hH2,w1,Nat.mul_one,Nat.zero_add,Nat.add_zero]
   refine fin _ ?_ (by simp only[go_sem,seval])
   repeat(first|exact Keep.refl _ _|refine Keep.upd ?_ rfl)
theorem setTwo (N a b:Nat) (h:2≤N):((List.replicate N 0).set 0 a).set 1 b=[a,b]++List.replicate (N-2) 0:=by
 obtain⟨m,rfl⟩:∃m,N=m+2:=⟨N-2,by omega⟩
 simp[List.replicate_succ]
theorem size4 (k:Int) (h:k=1∨k=2∨k=3∨k=4):sizeI k=(sizeN k.toNat:Int)∧12≤sizeN k.toNat∧sizeN k.toNat≤264:=by
 rcases h with q|q|q|q<;>rw[q]<;>decide
theorem Encode_bad (h:NHeap) (n:mir.Node) (kv iv:NVal) (hN:NodeAt h n kv iv) (hb:rightN n=false):∃h',K env 38 [.agg (nodeV n kv iv)] h=some (.slice none 0 0 none,h')∧Ext h h':=by
 obtain⟨H,hH⟩:∃H,h.alloc (.cells [.int .i64 n.kind,.int .u64 (n.word:Nat),.str n.pre,kv,iv] (.own none))=H:=⟨_,rfl⟩
 have x:Ext h H:=by rw[←hH];exact(Ext.refl h).alloc _
 have g:H.get h.next=some (.cells [.int .i64 n.kind,.int .u64 (n.word:Nat),.str n.pre,kv,iv] (.own none)):=by rw[←hH];simp[NHeap.get_alloc]
 obtain⟨h1,e1,x1⟩:=Right_K H n kv iv (hN.ext x)
 rw[hb,nodeV] at e1
 refine⟨h1,?_,x.trans x1⟩
 rw[nodeV,k38 _ _ (by simp)]
 simp only[bodyOf,Option.getD_some,go_sem,seval,Tryz.f38,hH,g,e1]
 try rfl
set_option maxHeartbeats 4000000 in
theorem Encode_K (h:NHeap) (n:mir.Node) (kv iv:NVal) (hN:NodeAt h n kv iv) (hr:rightN n=true):∃wb h',K env 38 [.agg (nodeV n kv iv)] h=some (.slice (some (wb,0)) (sizeN n.kind.toNat) (sizeN n.kind.toNat) none,h')∧Ext h h'∧h.next≤wb∧h'.get wb=some (.cells (rows U (encW n)) (.own none)):=by
 have hR:=(right_iff n).1 hr
 obtain⟨H,hH⟩:∃H,h.alloc (.cells [.int .i64 n.kind,.int .u64 (n.word:Nat),.str n.pre,kv,iv] (.own none))=H:=⟨_,rfl⟩
 have x:Ext h H:=by rw[←hH];exact(Ext.refl h).alloc _
 have g:H.get h.next=some (.cells [.int .i64 n.kind,.int .u64 (n.word:Nat),.str n.pre,kv,iv] (.own none)):=by rw[←hH];simp[NHeap.get_alloc]
 obtain⟨h1,e1,x1⟩:=Right_K H n kv iv (hN.ext x)
 rw[hr,nodeV] at e1
 have g1:=x1.get g
 have es:=fun h=>Size_K n.kind h
 obtain⟨hs1,hs2,hs3⟩:=size4 n.kind hR.kind
 rw[hs1] at es
 obtain⟨N,hNN⟩:∃N,sizeN n.kind.toNat=N:=⟨_,rfl⟩
 rw[hNN] at es hs2 hs3
 rw[hNN]
 have w0':(0:Int)≤(N:Int):=by omega
 have c1:(N:Int)*8≤1099511627776:=by omega
 have c2:(N:Int)≤1099511627776:=by omega
 have mk:=rep_rows N
 obtain⟨H2,hH2⟩:∃H2,h1.alloc (.cells (rows U (List.replicate N 0)) (.own none))=H2:=⟨_,rfl⟩
 have x2:Ext h1 H2:=by rw[←hH2];exact(Ext.refl _).alloc _
 have n2:H2.next=h1.next+1:=by rw[←hH2];rfl
 have gw2:H2.get h1.next=some (.cells (rows U (List.replicate N 0)) (.own none)):=by rw[←hH2];simp[NHeap.get_alloc]
 have g2:=x2.get g1
 have lw2:=NHeap.get_lt gw2
 have rl0:(rows U (List.replicate N 0)).length=N:=by rw[rlen,List.length_replicate]
 have ss1:=setRange_w (List.replicate N 0) 0 n.word (by simp;omega)
 obtain⟨W1,hW1⟩:∃W1,(List.replicate N 0).set 0 n.word=W1:=⟨_,rfl⟩
 rw[hW1] at ss1
 have lW1:W1.length=N:=by rw[←hW1];simp
 have rl1:(rows U W1).length=N:=by rw[rlen,lW1]
 obtain⟨H3,hH3⟩:∃H3,H2.set h1.next (.cells (rows U W1) (.own none))=H3:=⟨_,rfl⟩
 have gw3:H3.get h1.next=some (.cells (rows U W1) (.own none)):=by rw[←hH3];exact NHeap.get_set_same lw2
 have lw3:=NHeap.get_lt gw3
 have nbw:h.next≠h1.next:=by have:=NHeap.get_lt g1;omega
 have g3:H3.get h.next=some (.cells [.int .i64 n.kind,.int .u64 (n.word:Nat),.str n.pre,kv,iv] (.own none)):=by rw[←hH3,NHeap.get_set_ne nbw];exact g2
 have hpre:=hR.pre
 have h256:(n.keys.length:Int)≤256:=Int.le_trans hR.high (by rcases hR.kind with q|q|q|q<;>rw[q]<;>decide)
 obtain⟨kd,hkd⟩:∃kd:Nat,n.kind=(kd:Int)∧kd≤4:=⟨n.kind.toNat,by rcases hR.kind with q|q|q|q<;>omega⟩
 obtain⟨hkd,hkd4⟩:=hkd
 obtain⟨w1v,hw1v⟩:∃w1v,n.kind.toNat+n.pre.length*256+n.keys.length*65536=w1v:=⟨_,rfl⟩
 obtain⟨kb,kc,kx,hkv⟩:=hN.keys.form
 obtain⟨ib,ic,ix,hiv⟩:=hN.kids.form
 have sh8:∀t,nbin Tryz.prog .shl t (.int .i64 (n.pre.length:Int)) (.int .u64 8)=some (.int .i64 ((n.pre.length*256:Nat):Int)):=fun t=>by
  have:=shl_nat (P:=Tryz.prog) t .u64 n.pre.length 8 (by decide) (by omega)
  exact this
 have sh16:∀t,nbin Tryz.prog .shl t (.int .i64 (n.keys.length:Int)) (.int .u64 16)=some (.int .i64 ((n.keys.length*65536:Nat):Int)):=fun t=>by
  have:=shl_nat (P:=Tryz.prog) t .u64 n.keys.length 16 (by decide) (by omega)
  exact this
 have or1:∀t,nbin Tryz.prog .or t (.int .i64 n.kind) (.int .i64 ((n.pre.length*256:Nat):Int))=some (.int .i64 ((n.pre.length*256+kd:Nat):Int)):=fun t=>by
  have:=or_comm_disj (P:=Tryz.prog) t n.pre.length kd 8 (by omega) (by omega)
  rw[hkd];exact this
 have or2:∀t,nbin Tryz.prog .or t (.int .i64 ((n.pre.length*256+kd:Nat):Int)) (.int .i64 ((n.keys.length*65536:Nat):Int))=some (.int .i64 (w1v:Int)):=fun t=>by
  have:=or_comm_disj (P:=Tryz.prog) t n.keys.length (n.pre.length*256+kd) 16 (by omega) (by omega)
  have e:n.keys.length*2^16+(n.pre.length*256+kd)=w1v:=by rw[←hw1v];omega
  rw[e] at this
  exact this
 have wv:IntKind.u64.wrap (w1v:Int)=(w1v:Int):=wrap_u64_small (by omega) (by omega)
 have ss2:=setRange_w W1 1 w1v (by omega)
 obtain⟨W2,hW2⟩:∃W2,W1.set 1 w1v=W2:=⟨_,rfl⟩
 rw[hW2] at ss2
 have lW2:W2.length=N:=by rw[←hW2];simp[lW1]
 have hW2e:W2=[n.word,w1v]++List.replicate (N-2) 0:=by rw[←hW2,←hW1,setTwo N _ _ (by omega)]
 obtain⟨H4,hH4⟩:∃H4,H3.set h1.next (.cells (rows U W2) (.own none))=H4:=⟨_,rfl⟩
 have gw4:H4.get h1.next=some (.cells (rows U W2) (.own none)):=by rw[←hH4];exact NHeap.get_set_same lw3
 have g4:H4.get h.next=some (.cells [.int .i64 n.kind,.int .u64 (n.word:Nat),.str n.pre,kv,iv] (.own none)):=by rw[←hH4,NHeap.get_set_ne nbw];exact g3
 have i2':1≤N:=by omega
 have i3':2≤N:=by omega
 have p0:(0:Int)<(N:Int):=by omega
 have p1:(1:Int)<(N:Int):=by omega
 obtain⟨h5,e5,x5,gp5⟩:=Words_K H4 n.pre (by omega)
 have es2:=nslice_from (P:=Tryz.prog) Tryz.underlying106 sz108 .i64 h1.next 0 N N 2 (by omega) (by omega) (by omega)
 have es2':nslice Tryz.prog 106 (.slice (some (h1.next,0)) N N none) (some (.int .i64 2)) none=some (.slice (some (h1.next,2)) (N-2) (N-2) none):=es2
 have gw5:=x5.get gw4
 have wl:=wlen n.pre
 have sp:Rw h5 1 U (.slice (some (H4.next,0)) ((n.pre.length+7)/8) ((n.pre.length+7)/8) none) (wordsF n.pre):=by
  have:=Sl.whole (sz:=1) (n:=(n.pre.length+7)/8) (c:=(n.pre.length+7)/8) (x:=none) gp5 (by rw[rlen,wl,Nat.mul_one]) (Nat.le_refl _) (.inl rfl)
  rw[Rw,wl];exact this
 obtain⟨H6,e6,n6,gw6,u6⟩:=ncopy_at (o:=2) (dl:=N-2) (dc:=N-2) (dx:=none) gw5 sp (by omega) (by omega)
 rw[hW2e] at gw6
 have hhd:layW ([n.word,w1v]++List.replicate (N-2) 0) 2 (wordsF n.pre)=headW n:=by rw[headW,hNN,hw1v]
 rw[hhd] at gw6
 have g6:=u6.get (x5.get g4) (by simpa using nbw)
 have xH6:Ext h1 H6:=by
  have u:Upd [] h1 H6:=by
   refine Upd.trans' (fq:=[h1.next]) (Upd.of_ext x2) ?_ (by intro b hb;simp at hb;subst hb;exact .inr (Nat.le_refl _))
   refine Upd.trans (h':=H4) ?_ (((Upd.of_ext x5).mono (by simp)).trans u6)
   rw[←hH4,←hH3]
   exact((Upd.refl _ _).set (.inl (by simp)) _).set (.inl (by simp)) _
  exact u.ext
 have xh1:Ext h h1:=x.trans x1
 rw[wl] at e6
 have hlH6:=headW_len hR
 rw[hNN] at hlH6
 have hwbN:h.next≤h1.next:=(x.trans x1).next
 have n45:H4.next≤h5.next:=x5.next
 have n56:h5.next≤H6.next:=by omega
 have hNn:=hN
 rw[hkv,hiv] at g g1 g2 g3 g4 g6 hH e1
 have es4:=nslice_from (P:=Tryz.prog) Tryz.underlying106 sz108 .i64 h1.next 0 N N 4 (by omega) (by omega) (by omega)
 have es4':nslice Tryz.prog 106 (.slice (some (h1.next,0)) N N none) (some (.int .i64 4)) none=some (.slice (some (h1.next,4)) (N-4) (N-4) none):=es4
 have lw6:=NHeap.get_lt gw6
 have hN6:=hN.ext (xh1.trans xH6)
 have kse:=enc_right hR
 have gn1:h1.get h.next=some (.cells (nodeV n kv iv) (.own none)):=by rw[nodeV,hkv,hiv];exact g1
 have fin:∀(H8:NHeap) (F:Fr) (rest:Code),Ext h1 H8→H8.get h1.next=some (.cells (rows U (keysW n)) (.own none))→F 1=.ptr (some (h.next,0))→F 3=.slice (some (h1.next,0)) N N none→F 4=.int .i64 ((if n.kind=4 then 4 else baseN n.kind:Nat):Int)→F 69=iv→F 70=.int .i64 n.kids.length→F 71=.int .i64 0→
   (∀(h':NHeap) (F':Fr),F' 3=.slice (some (h1.next,0)) N N none→outF Tryz.prog [.tmp 2] (thenD env (blockC 1 (some (.exit 1,toL 96 F',h'))) rest)=some (.slice (some (h1.next,0)) N N none,h'))→
   ∃wb h',outF Tryz.prog [.tmp 2] (thenD env (blockC 1 (C env (.loop lbNE) (toL 96 F) H8)) rest)=some (.slice (some (wb,0)) N N none,h')∧Ext h h'∧h.next≤wb∧h'.get wb=some (.cells (rows U (encW n)) (.own none)):=by
  intro H8 F rest x8 gw8 f1 f3 f4 f69 f70 f71 hrest
  refine loopNE h1 h.next h1.next n hR kv iv (hN.ext xh1) gn1 (Nat.le_refl _) F f1 (by rw[hNN];exact f3) f4 f69 f70 (encW n) (fun r=>∃wb h',outF Tryz.prog [.tmp 2] (thenD env (blockC 1 r) rest)=some (.slice (some (wb,0)) N N none,h')∧Ext h h'∧h.next≤wb∧h'.get wb=some (.cells (rows U (encW n)) (.own none))) ?_ n.kids.length 0 H8 (keysW n) F (by omega) (by rw[List.drop_zero,List.drop_zero,kse]) (keysW_len hR) x8 gw8 (Keep.refl _ _) f71
  intro h' F' hE g f3'
  rw[hNN] at f3'
  exact⟨h1.next,h',hrest h' F' f3',xh1.trans hE,hwbN,g⟩
 rcases hR.kind with q|q|q|q
 ·have q1:decide (n.kind=1)=true:=decide_eq_true q
  have ks:=kStr_K hN6.keys hN6.val
  rw[hkv] at ks
  obtain⟨h7,e7,x7,gp7⟩:=Words_K H6 n.keys (by omega)
  have ks7:=kStr_K (hN6.ext x7).keys (hN6.ext x7).val
  rw[hkv] at ks7
  have g7:=x7.get g6
  have wl7:=wlen n.keys
  have fit:=keys_fit hR (by omega) (by omega)
  have hb:baseN n.kind≤N:=by omega
  have sp7:Rw h7 1 U (.slice (some (H6.next,0)) ((n.keys.length+7)/8) ((n.keys.length+7)/8) none) (wordsF n.keys):=by
   have:=Sl.whole (sz:=1) (n:=(n.keys.length+7)/8) (c:=(n.keys.length+7)/8) (x:=none) gp7 (by rw[rlen,wl7,Nat.mul_one]) (Nat.le_refl _) (.inl rfl)
   rw[Rw,wl7];exact this
  obtain⟨H8,e8,n8,gw8,u8⟩:=ncopy_at (o:=4) (dl:=N-4) (dc:=N-4) (dx:=none) (x7.get gw6) sp7 (by omega) (by omega)
  rw[wl7] at e8
  have kw:layW (headW n) 4 (wordsF n.keys)=keysW n:=by rw[keysW,if_neg (by omega),if_neg (by omega)]
  rw[kw] at gw8
  have g8:=u8.get (x7.get g6) (by simpa using nbw)
  have xH8:Ext h1 H8:=(Upd.trans' (fq:=[h1.next]) (Upd.of_ext (xH6.trans x7)) u8 (by intro b hb;simp at hb;subst hb;exact .inr (Nat.le_refl _))).ext
  have n67:H6.next≤h7.next:=x7.next
  have n78:h7.next≤H8.next:=by omega
  rw[nodeV,k38 _ _ (by simp),hkv,hiv]
  simp only[bodyOf,Option.getD_some,go_sem,seval,Tryz.f38,hH,g,e1,g1,es,w0',c1,c2,mk,hH2,n2,g2,gw2,lw2,p0,p1,rl0,rl1,i2',i3',ss1,hH3,gw3,g3,lw3,sh8,sh16,or1,or2,wv,ss2,hH4,gw4,g4,e5,es2',e6,n45,n56,g6,q1,ks,ks7,g7,e7,es4',e8,g8,n67,n78]
  change∃wb h',outF _ _ (thenD env (blockC 1 (C env (.loop lbNE) _ _)) _)=_∧_
  refine fin H8 _ _ xH8 gw8 ?_ ?_ ?_ ?_ ?_ ?_ ?_
  ·simp only[go_sem,seval]
  ·simp only[go_sem,seval]
  ·rw[q];simp only[go_sem,seval];try rfl
  ·simp only[go_sem,seval,hiv]
  ·simp only[go_sem,seval]
  ·simp only[go_sem,seval];try rfl
  ·intro h' F' f3'
   simp only[go_sem,seval,f3']
 ·have q1:¬n.kind=1:=by omega
  have q2:decide (n.kind=2)=true:=decide_eq_true q
  have ks:=kStr_K hN6.keys hN6.val
  rw[hkv] at ks
  obtain⟨h7,e7,x7,gp7⟩:=Words_K H6 n.keys (by omega)
  have ks7:=kStr_K (hN6.ext x7).keys (hN6.ext x7).val
  rw[hkv] at ks7
  have g7:=x7.get g6
  have wl7:=wlen n.keys
  have fit:=keys_fit hR (by omega) (by omega)
  have hb:baseN n.kind≤N:=by omega
  have sp7:Rw h7 1 U (.slice (some (H6.next,0)) ((n.keys.length+7)/8) ((n.keys.length+7)/8) none) (wordsF n.keys):=by
   have:=Sl.whole (sz:=1) (n:=(n.keys.length+7)/8) (c:=(n.keys.length+7)/8) (x:=none) gp7 (by rw[rlen,wl7,Nat.mul_one]) (Nat.le_refl _) (.inl rfl)
   rw[Rw,wl7];exact this
  obtain⟨H8,e8,n8,gw8,u8⟩:=ncopy_at (o:=4) (dl:=N-4) (dc:=N-4) (dx:=none) (x7.get gw6) sp7 (by omega) (by omega)
  rw[wl7] at e8
  have kw:layW (headW n) 4 (wordsF n.keys)=keysW n:=by rw[keysW,if_neg (by omega),if_neg (by omega)]
  rw[kw] at gw8
  have g8:=u8.get (x7.get g6) (by simpa using nbw)
  have xH8:Ext h1 H8:=(Upd.trans' (fq:=[h1.next]) (Upd.of_ext (xH6.trans x7)) u8 (by intro b hb;simp at hb;subst hb;exact .inr (Nat.le_refl _))).ext
  have n67:H6.next≤h7.next:=x7.next
  have n78:h7.next≤H8.next:=by omega
  rw[nodeV,k38 _ _ (by simp),hkv,hiv]
  simp only[bodyOf,Option.getD_some,go_sem,seval,Tryz.f38,hH,g,e1,g1,es,w0',c1,c2,mk,hH2,n2,g2,gw2,lw2,p0,p1,rl0,rl1,i2',i3',ss1,hH3,gw3,g3,lw3,sh8,sh16,or1,or2,wv,ss2,hH4,gw4,g4,e5,es2',e6,n45,n56,g6,q1,q2,ks,ks7,g7,e7,es4',e8,g8,n67,n78]
  change∃wb h',outF _ _ (thenD env (blockC 1 (C env (.loop lbNE) _ _)) _)=_∧_
  refine fin H8 _ _ xH8 gw8 ?_ ?_ ?_ ?_ ?_ ?_ ?_
  ·simp only[go_sem,seval]
  ·simp only[go_sem,seval]
  ·rw[q];simp only[go_sem,seval];try rfl
  ·simp only[go_sem,seval,hiv]
  ·simp only[go_sem,seval]
  ·simp only[go_sem,seval];try rfl
  ·intro h' F' f3'
   simp only[go_sem,seval,f3']
 ·have q1:¬n.kind=1:=by omega
  have q2:¬n.kind=2:=by omega
  have q3:decide (n.kind=3)=true:=decide_eq_true q
  have k48:=keys_fit3 hR q
  obtain⟨h7,e7,x7,gp7⟩:=index_K H6 kv n.keys hN6.keys (by omega)
  rw[hkv] at e7
  have wl7:(indexF n.keys).length=32:=indexTo_len _ _
  have hN88:N=88:=by rw[←hNN,q];decide
  have sp7:Rw h7 1 U (.slice (some (H6.next,0)) 32 32 none) (indexF n.keys):=by
   have:=Sl.whole (sz:=1) (n:=32) (c:=32) (x:=none) gp7 (by rw[rlen,wl7]) (Nat.le_refl _) (.inl rfl)
   rw[Rw,wl7];exact this
  obtain⟨H8,e8,n8,gw8,u8⟩:=ncopy_at (o:=4) (dl:=N-4) (dc:=N-4) (dx:=none) (x7.get gw6) sp7 (by omega) (by omega)
  rw[wl7] at e8
  have kw:layW (headW n) 4 (indexF n.keys)=keysW n:=by rw[keysW,if_pos q]
  rw[kw] at gw8
  have g8:=u8.get (x7.get g6) (by simpa using nbw)
  have xH8:Ext h1 H8:=(Upd.trans' (fq:=[h1.next]) (Upd.of_ext (xH6.trans x7)) u8 (by intro b hb;simp at hb;subst hb;exact .inr (Nat.le_refl _))).ext
  have n67:H6.next≤h7.next:=x7.next
  have n78:h7.next≤H8.next:=by omega
  rw[nodeV,k38 _ _ (by simp),hkv,hiv]
  simp only[bodyOf,Option.getD_some,go_sem,seval,Tryz.f38,hH,g,e1,g1,es,w0',c1,c2,mk,hH2,n2,g2,gw2,lw2,p0,p1,rl0,rl1,i2',i3',ss1,hH3,gw3,g3,lw3,sh8,sh16,or1,or2,wv,ss2,hH4,gw4,g4,e5,es2',e6,n45,n56,g6,q1,q2,q3,e7,es4',e8,g8,n67,n78]
  change∃wb h',outF _ _ (thenD env (blockC 1 (C env (.loop lbNE) _ _)) _)=_∧_
  refine fin H8 _ _ xH8 gw8 ?_ ?_ ?_ ?_ ?_ ?_ ?_
  ·simp only[go_sem,seval]
  ·simp only[go_sem,seval]
  ·rw[q];simp only[go_sem,seval];try rfl
  ·simp only[go_sem,seval,hiv]
  ·simp only[go_sem,seval]
  ·simp only[go_sem,seval];try rfl
  ·intro h' F' f3'
   simp only[go_sem,seval,f3']
 ·have q1:¬n.kind=1:=by omega
  have q2:¬n.kind=2:=by omega
  have q3:¬n.kind=3:=by omega
  have kw:headW n=keysW n:=by rw[keysW,if_neg (by omega),if_pos q]
  rw[kw] at gw6
  rw[nodeV,k38 _ _ (by simp),hkv,hiv]
  simp only[bodyOf,Option.getD_some,go_sem,seval,Tryz.f38,hH,g,e1,g1,es,w0',c1,c2,mk,hH2,n2,g2,gw2,lw2,p0,p1,rl0,rl1,i2',i3',ss1,hH3,gw3,g3,lw3,sh8,sh16,or1,or2,wv,ss2,hH4,gw4,g4,e5,es2',e6,n45,n56,g6,q1,q2,q3,n56]
  change∃wb h',outF _ _ (thenD env (blockC 1 (C env (.loop lbNE) _ _)) _)=_∧_
  refine fin H6 _ _ xH6 gw6 ?_ ?_ ?_ ?_ ?_ ?_ ?_
  ·simp only[go_sem,seval]
  ·simp only[go_sem,seval]
  ·rw[q];simp only[go_sem,seval];try rfl
  ·simp only[go_sem,seval,hiv]
  ·simp only[go_sem,seval]
  ·simp only[go_sem,seval];try rfl
  ·intro h' F' f3'
   simp only[go_sem,seval,f3']
end node
end Go.Proofs.YtkjpldganajkkaaGreatDoor.S
namespace Go.Proofs.YtkjpldganajkkaaGreatDoor.S
open Go Go.RowKit Go.Proofs.YtkjpldganajkkaaGreatDoor.NICE
namespace node
open pack word mir
theorem deIdx_none (w:List Nat) (n b:Nat) (h:deIdx w n b=none):∀k,deIdx w n (b+k)=none
 |0=>h
 |k+1=>by rw[←Nat.add_assoc,deIdx,deIdx_none w n b h k]
theorem deIdx_len (w:List Nat) (n:Nat):∀b ks,deIdx w n b=some ks→ks.length=n
 |0,ks,h=>by rw[deIdx] at h;cases h;simp
 |b+1,ks,h=>by
  rw[deIdx] at h
  cases hd:deIdx w n b with
  |none=>rw[hd] at h;cases h
  |some ks'=>
   have:=deIdx_len w n b ks' hd
   rw[hd] at h
   simp only at h
   split at h
   ·cases h
   ·split at h
    ·cases h;simpa using this
    ·cases h;exact this
theorem blen (l:List UInt8):(rows UB l).length=l.length:=by rw[rows_len (k:=1) (fun _=>rfl)];omega
theorem setRange_b (W:List UInt8) (i:Nat) (x:UInt8) (hi:i<W.length):setRange (rows UB W) i [.int .u8 (x.toNat:Int)]=rows UB (W.set i x):=by
 have:=rows_set (f:=UB) (k:=1) (fun _=>rfl) W i x hi
 rw[Nat.mul_one] at this
 exact this
noncomputable def lbB1:Code:=inC (inC (atC (inC (atC (elC (atC (inC (atC (bodyOf Tryz.f151) 2)) 2)) 1)) 2))
noncomputable def lbB2:Code:=inC (inC (atC (bodyOf Tryz.f151) 5))
set_option maxHeartbeats 1000000 in
theorem loopB1 (hA:NHeap) (v:NVal) (ws:List Nat) (hv:Rw hA 1 U v ws) (hlt:∀w∈ws,w<2^64) (hl:ws.length=88) (n:Nat) (hn:n≤48) (kb:Nat) (hkb:hA.next≤kb) (F0:Fr) (f0:F0 0=v) (f2:F0 2=.int .i64 n) (f10:F0 10=.slice (some (kb,0)) n n none) (Q:Out→Prop)
  (hQ1:∀(h:NHeap) (F:Fr),deIdx ws n 256=none→Ext hA h→F 6=.slice none 0 0 none→F 7=.bool false→Q (some (.ret,toL 87 F,h)))
  (hQ2:∀(h:NHeap) (F:Fr) (ks:List UInt8),deIdx ws n 256=some ks→Ext hA h→h.get kb=some (.cells (rows UB ks) (.own none))→F 10=.slice (some (kb,0)) n n none→Q (some (.exit 1,toL 87 F,h))):
  ∀(f b:Nat) (h:NHeap) (ks:List UInt8) (F:Fr),b+f=256→deIdx ws n b=some ks→Ext hA h→h.get kb=some (.cells (rows UB ks) (.own none))→Keep [0,2,10] F0 F→F 38=.int .i64 b→Q (C env (.loop lbB1) (toL 87 F) h):=by
 intro f
 induction f with
 |zero=>
  intro b h ks F hb hd hE g kp f38
  have:b=256:=by omega
  subst this
  have f10':=(kp 10 rfl).trans f10
  rw[S_loop]
  conv=>arg 1;arg 2;arg 2;simp only[lbB1,bodyOf,Option.getD_some,atC,seqL,inC,elC,List.nil_append,List.cons_append,List.getElem?_cons_succ,List.getElem?_cons_zero,Tryz.f151]
  simp only[go_sem,seval,f38]
  exact hQ2 h _ ks hd hE g (by simp only[go_sem,seval,f10'])
 |succ f ih=>
  intro b h ks F hb hd hE g kp f38
  have f0':=(kp 0 rfl).trans f0
  have f2':=(kp 2 rfl).trans f2
  have f10':=(kp 10 rfl).trans f10
  have hkl:=deIdx_len ws n b ks hd
  have i1:(b:Int)<256:=by omega
  obtain⟨x,hx⟩:∃x,ws[4+b/8]? =some x:=⟨ws[4+b/8]'(by omega),List.getElem?_eq_getElem (by omega)⟩
  have hxl:=hlt x (List.mem_of_getElem? hx)
  obtain⟨vb,o,c',x',all,mm,hv',gA,row,hle⟩:=Sl.elem (f:=U) (k:=1) (fun _=>rfl) (hv.ext hE) hx
  have cell:=rowcell row (show(U x)[0]? =some (.int .u64 (x:Int)) from rfl)
  simp only[Nat.mul_one,Nat.add_zero] at cell
  rw[hv'] at f0'
  have q8:((b:Int)).tdiv 8=((b/8:Nat):Int):=rfl
  have r8:((b:Int)).tmod 8=((b%8:Nat):Int):=rfl
  have w8:IntKind.i64.wrap ((b/8:Nat):Int)=((b/8:Nat):Int):=wrap_i64_small (by omega) (by omega)
  have w4:IntKind.i64.wrap (4+((b/8:Nat):Int))=((4+b/8:Nat):Int):=by rw[wrap_i64_small (by omega) (by omega)];omega
  have wm:IntKind.i64.wrap (8*((b%8:Nat):Int))=((8*(b%8):Nat):Int):=by rw[wrap_i64_small (by omega) (by omega)];omega
  have wu:IntKind.u64.wrap ((8*(b%8):Nat):Int)=((8*(b%8):Nat):Int):=wrap_u64_small (by omega) (by omega)
  have p0:(0:Int)≤((4+b/8:Nat):Int):=by omega
  have p1:((4+b/8:Nat):Int)<(ws.length:Int):=by omega
  have sh:=byte_shr x (b%8) hxl (by omega)
  obtain⟨y,hy⟩:∃y,x/2^(8*(b%8))%256=y:=⟨_,rfl⟩
  have hyl:y<256:=by rw[←hy];exact Nat.mod_lt _ (by decide)
  have an:∀t,nbin Tryz.prog .and t (.int .u64 ((x/2^(8*(b%8)):Nat):Int)) (.int .u64 255)=some (.int .u64 (y:Int)):=fun t=>by
   have:=and_u64 (P:=Tryz.prog) t (x/2^(8*(b%8))) 255 (Nat.lt_of_le_of_lt (Nat.div_le_self _ _) hxl) (by decide)
   rw[show x/2^(8*(b%8))&&&255=x/2^(8*(b%8))%256 from Nat.and_two_pow_sub_one_eq_mod _ 8,hy] at this
   exact this
  have wy:IntKind.i64.wrap (y:Int)=(y:Int):=wrap_i64_small (by omega) (by omega)
  have w1:IntKind.i64.wrap ((b:Int)+1)=((b+1:Nat):Int):=by rw[wrap_i64_small (by omega) (by omega)];omega
  have hgx:ws.getD (4+b/8) 0=x:=by rw[List.getD_eq_getElem?_getD,hx];rfl
  have hstep:deIdx ws n (b+1)=if n<y then none else if 0<y then some (ks.set (y-1) (UInt8.ofNat b)) else some ks:=by
   rw[deIdx,hd]
   simp only[hgx,hy]
  rw[S_loop]
  conv=>arg 1;arg 2;arg 2;simp only[lbB1,bodyOf,Option.getD_some,atC,seqL,inC,elC,List.nil_append,List.cons_append,List.getElem?_cons_succ,List.getElem?_cons_zero,Tryz.f151]
  by_cases c1:n<y
  ·have c1':(n:Int)<(y:Int):=by omega
   rw[if_pos c1] at hstep
   have hfin:deIdx ws n 256=none:=by rw[show 256=(b+1)+(255-b) by omega];exact deIdx_none ws n _ hstep _
   simp only[go_sem,seval,f0',f2',f38,i1,bin_quo,bin_rem,q8,r8,w8,w4,wm,wu,p0,p1,gA,cell,sh,an,wy,c1']
   exact hQ1 h _ hfin hE (by simp only[go_sem,seval]) (by simp only[go_sem,seval])
  have c1':¬(n:Int)<(y:Int):=by omega
  rw[if_neg c1] at hstep
  by_cases c2:0<y
  ·have c2':(0:Int)<(y:Int):=by omega
   rw[if_pos c2] at hstep
   have wd:IntKind.i64.wrap ((y:Int)-1)=((y-1:Nat):Int):=by rw[wrap_i64_small (by omega) (by omega)];omega
   have wb:IntKind.u8.wrap (b:Int)=(b:Int):=by
    have:∀m:Int,IntKind.u8.wrap m=m%256:=fun m=>by simp[IntKind.wrap,IntKind.bits,IntKind.signed]
    rw[this];omega
   have y0:(0:Int)≤((y-1:Nat):Int):=by omega
   have y1:((y-1:Nat):Int)<(n:Int):=by omega
   have y2:y-1+1≤n:=by omega
   have rl:(rows UB ks).length=n:=by rw[blen,hkl]
   have ss:=setRange_b ks (y-1) (UInt8.ofNat b) (by omega)
   rw[show(UInt8.ofNat b).toNat=b by rw[UInt8.toNat_ofNat'];omega] at ss
   have lk:=NHeap.get_lt g
   obtain⟨H2,hH2⟩:∃H2,h.set kb (.cells (rows UB (ks.set (y-1) (UInt8.ofNat b))) (.own none))=H2:=⟨_,rfl⟩
   simp only[go_sem,seval,f0',f2',f10',f38,i1,bin_quo,bin_rem,q8,r8,w8,w4,wm,wu,p0,p1,gA,cell,sh,an,wy,c1',c2',wd,wb,y0,y1,y2,g,rl,ss,lk,hH2,w1,Nat.mul_one,Nat.zero_add,Nat.add_zero]
   refine ih (b+1) H2 _ _ (by omega) hstep ?_ ?_ ?_ ?_
   ·rw[←hH2];exact hE.set hkb _
   ·rw[←hH2];exact NHeap.get_set_same lk
   ·repeat(first|exact kp|refine Keep.upd ?_ rfl)
   ·simp only[go_sem,seval]
  ·have c2':¬(0:Int)<(y:Int):=by omega
   rw[if_neg c2] at hstep
   simp only[go_sem,seval,f0',f2',f10',f38,i1,bin_quo,bin_rem,q8,r8,w8,w4,wm,wu,p0,p1,gA,cell,sh,an,wy,c1',c2',w1]
   refine ih (b+1) h _ _ (by omega) hstep hE g ?_ ?_
   ·repeat(first|exact kp|refine Keep.upd ?_ rfl)
   ·simp only[go_sem,seval]
theorem deAll_le (w:List Nat):∀b,(deAll w b).length≤b
 |0=>by simp[deAll]
 |b+1=>by
  have:=deAll_le w b
  rw[deAll]
  split
  ·simp;omega
  ·omega
set_option maxHeartbeats 1000000 in
theorem loopB2 (hA:NHeap) (v:NVal) (ws:List Nat) (hv:Rw hA 1 U v ws) (hl:ws.length=264) (F0:Fr) (f0:F0 0=v) (Q:Out→Prop)
  (hQ:∀(h:NHeap) (F:Fr) (kv:NVal),Ext hA h→Grow h kv 1 (rows UB (deAll ws 256)) (deAll ws 256).length→(∀d∈blk kv,hA.next≤d)→Keep [0,2] F0 F→F 13=kv→Q (some (.exit 3,toL 87 F,h))):
  ∀(f b:Nat) (h:NHeap) (kv:NVal) (F:Fr),b+f=256→Ext hA h→Grow h kv 1 (rows UB (deAll ws b)) (deAll ws b).length→(∀d∈blk kv,hA.next≤d)→Keep [0,2] F0 F→F 13=kv→F 67=.int .i64 b→Q (C env (.loop lbB2) (toL 87 F) h):=by
 intro f
 induction f with
 |zero=>
  intro b h kv F hb hE g hk kp f13 f67
  have:b=256:=by omega
  subst this
  rw[S_loop]
  conv=>arg 1;arg 2;arg 2;simp only[lbB2,bodyOf,Option.getD_some,atC,seqL,inC,elC,List.nil_append,List.cons_append,List.getElem?_cons_succ,List.getElem?_cons_zero,Tryz.f151]
  simp only[go_sem,seval,f67]
  refine hQ h _ kv hE g hk ?_ (by simp only[go_sem,seval,f13])
  repeat(first|exact kp|refine Keep.upd ?_ rfl)
 |succ f ih=>
  intro b h kv F hb hE g hk kp f13 f67
  have f0':=(kp 0 rfl).trans f0
  have i1:(b:Int)<256:=by omega
  obtain⟨x,hx⟩:∃x,ws[4+b]? =some x:=⟨ws[4+b]'(by omega),List.getElem?_eq_getElem (by omega)⟩
  obtain⟨vb,o,c',x',all,mm,hv',gA,row,hle⟩:=Sl.elem (f:=U) (k:=1) (fun _=>rfl) (hv.ext hE) hx
  have cell:=rowcell row (show(U x)[0]? =some (.int .u64 (x:Int)) from rfl)
  simp only[Nat.mul_one,Nat.add_zero] at cell
  rw[hv'] at f0'
  have w4:IntKind.i64.wrap (4+(b:Int))=((4+b:Nat):Int):=by rw[wrap_i64_small (by omega) (by omega)];omega
  have w1:IntKind.i64.wrap ((b:Int)+1)=((b+1:Nat):Int):=by rw[wrap_i64_small (by omega) (by omega)];omega
  have p0:(0:Int)≤((4+b:Nat):Int):=by omega
  have p1:((4+b:Nat):Int)<(ws.length:Int):=by omega
  have hgx:ws.getD (4+b) 0=x:=by rw[List.getD_eq_getElem?_getD,hx];rfl
  rw[S_loop]
  conv=>arg 1;arg 2;arg 2;simp only[lbB2,bodyOf,Option.getD_some,atC,seqL,inC,elC,List.nil_append,List.cons_append,List.getElem?_cons_succ,List.getElem?_cons_zero,Tryz.f151]
  by_cases c1:x=0
  ·have c1d:decide ((x:Int)=0)=true:=decide_eq_true (by omega)
   have hst:deAll ws (b+1)=deAll ws b:=by rw[deAll,hgx,if_neg (by simp[c1])]
   simp only[go_sem,seval,f0',f67,i1,w4,p0,p1,gA,cell,c1d,w1]
   refine ih (b+1) h kv _ (by omega) hE (by rw[hst];exact g) hk ?_ ?_ ?_
   ·repeat(first|exact kp|refine Keep.upd ?_ rfl)
   ·simp only[go_sem,seval,f13]
   ·simp only[go_sem,seval]
  ·have c1d:¬(x:Int)=0:=by omega
   have hst:deAll ws (b+1)=deAll ws b++[UInt8.ofNat b]:=by rw[deAll,hgx,if_pos c1]
   have wb:IntKind.u8.wrap (b:Int)=(b:Int):=by
    have:∀m:Int,IntKind.u8.wrap m=m%256:=fun m=>by simp[IntKind.wrap,IntKind.bits,IntKind.signed]
    rw[this];omega
   obtain⟨H1,hH1⟩:∃H1,h.alloc (.cells [.int .u8 (b:Int)] (.own none))=H1:=⟨_,rfl⟩
   have x1:Ext h H1:=by rw[←hH1];exact(Ext.refl h).alloc _
   have gn:H1.get h.next=some (.cells (UB (UInt8.ofNat b)) (.own none)):=by
    rw[←hH1]
    simp[NHeap.get_alloc]
    omega
   have hle:=deAll_le ws b
   obtain⟨h2,ap,n2,g2,u2⟩:=grow_one (P:=Tryz.prog) (f:=UB) (k:=1) (fun _=>rfl) (fun _=>rfl) Tryz.underlying39 sz5 by5 ze5 rfl (by decide) (g.upd (Upd.of_ext x1) (by simp)) gn (by omega) (by omega)
   obtain⟨kb,kl,kc,kx,hkv⟩:∃kb kl kc kx,kv=.slice kb kl kc kx:=by obtain⟨bo,c,x,q⟩:=g.sl.form;exact⟨_,_,_,_,q⟩
   have nH1:h.next≤H1.next:=x1.next
   simp only[go_sem,seval,f0',f13,f67,i1,w4,p0,p1,gA,cell,c1d,wb,hH1,ap,w1]
   refine ih (b+1) h2 (.slice (some (H1.next,0)) ((deAll ws b).length+1) ((deAll ws b).length+1) (some 1)) _ (by omega) ?_ ?_ ?_ ?_ ?_ ?_
   ·exact(Upd.trans' (fq:=blk kv) (Upd.of_ext (hE.trans x1)) u2 (by intro d hd;exact .inr (hk d hd))).ext
   ·rw[hst,List.length_append,List.length_singleton];exact g2
   ·intro d hd
    simp[blk] at hd
    have:=(hE.trans x1).next
    omega
   ·repeat(first|exact kp|refine Keep.upd ?_ rfl)
   ·simp only[go_sem,seval]
   ·simp only[go_sem,seval]
end node
end Go.Proofs.YtkjpldganajkkaaGreatDoor.S
namespace Go.Proofs.YtkjpldganajkkaaGreatDoor.S
open Go Go.RowKit Go.Proofs.YtkjpldganajkkaaGreatDoor.NICE
namespace node
open pack word mir
theorem rep_b:∀n,repeatCells [NVal.int .u8 0] n=rows UB (List.replicate n 0)
 |0=>rfl
 |n+1=>by
  rw[List.replicate_succ,rows_cons,←rep_b n]
  rfl
theorem SlV_whole {h:NHeap} {b n c:Nat} {x all m} (g:h.get b=some (.cells all m)) (hl:all.length=n):SlV h (.slice (some (b,0)) n c x):=fun b' o' n' c' x' e=>by
 cases e
 exact⟨all,m,g,by omega⟩
theorem Grow_SlV {h:NHeap} {v:NVal} {cs:List NVal} {n:Nat} (g:Grow h v 1 cs n):SlV h v:=fun b o n' c x e=>by
 rcases g with⟨rfl,_⟩|⟨b',x',q,rfl,hx,hg,hl,hn⟩
 ·cases e
 ·cases e
  exact⟨_,_,hg,by omega⟩
set_option maxHeartbeats 2000000 in
theorem bytes_K (h:NHeap) (v:NVal) (ws:List Nat) (hv:Rw h 1 U v ws) (hlt:∀w∈ws,w<2^64) (kind:Int) (n:Nat) (hk:kind=1∨kind=2∨kind=3∨kind=4) (hl:ws.length=sizeN kind.toNat) (hn:(n:Int)≤highI kind):
  ∃kv h',K env 151 [v,.int .i64 kind,.int .i64 n] h=some (.tuple [kv,.bool (bytesN ws kind n).2],h')∧Ext h h'∧Rw h' 1 UB kv (bytesN ws kind n).1∧SlV h' kv∧∀d∈blk kv,h.next≤d:=by
 have hs3:=(size4 kind hk).2.2
 have low:∀c:Nat,(c=1∨c=2)→kind=(c:Int)→bytesN ws kind n=((bytesF ((ws.take (4+c)).drop 4) n).1,decide ((bytesF ((ws.take (4+c)).drop 4) n).2=0))→
   ∃kv h',K env 151 [v,.int .i64 kind,.int .i64 n] h=some (.tuple [kv,.bool (bytesN ws kind n).2],h')∧Ext h h'∧Rw h' 1 UB kv (bytesN ws kind n).1∧SlV h' kv∧∀d∈blk kv,h.next≤d:=by
  intro c hc hkc hb
  have hw:4+c≤ws.length:=by rcases hc with rfl|rfl<;>(rw[hl,hkc];decide)
  obtain⟨v2,e2,s2⟩:=Sl.sub (P:=Tryz.prog) hv Tryz.underlying106 sz108 .i64 .i64 4 (4+c) (by omega) hw
  have hl2:((ws.take (4+c)).drop 4).length=4+c-4:=by simp;omega
  have s2':Rw h 1 U v2 ((ws.take (4+c)).drop 4):=by
   rw[Rw,hl2]
   rw[rows_take (f:=U) (k:=1) (fun _=>rfl),rows_drop (f:=U) (k:=1) (fun _=>rfl)] at s2
   exact s2
  obtain⟨h1,e3,x1⟩:=Bytes_K h v2 ((ws.take (4+c)).drop 4) s2' (fun w hw=>hlt w (List.mem_of_mem_take (List.mem_of_mem_drop hw))) (by omega) (n:Int)
  obtain⟨r,hr⟩:∃r,bytesF ((ws.take (4+c)).drop 4) (n:Int)=r:=⟨_,rfl⟩
  have hrl:=bytesF_len ((ws.take (4+c)).drop 4) (n:Int)
  rw[hr] at e3 hb hrl
  rw[hb]
  obtain⟨H2,hH2⟩:∃H2,h1.alloc (.cells (r.1.map fun b=>.int .u8 b.toNat) (.own none))=H2:=⟨_,rfl⟩
  have x2:Ext h1 H2:=by rw[←hH2];exact(Ext.refl _).alloc _
  have g2:H2.get h1.next=some (.cells (rows UB r.1) (.own none)):=by rw[←hH2,NHeap.get_alloc,if_pos rfl,←u8s_rows];rfl
  have hcap:r.1.length≤1099511627776:=by omega
  refine⟨.slice (some (h1.next,0)) r.1.length r.1.length (some 1),H2,?_,x1.trans x2,Sl.whole g2 (by rw[blen,Nat.mul_one]) (Nat.le_refl _) (.inr rfl),SlV_whole g2 (blen _),by intro d hd;simp[blk] at hd;have:=x1.next;omega⟩
  obtain⟨vb,vc,vx,hvv⟩:=hv.form
  have eh:=fun h=>High_K kind h
  have hhi:highI kind=if c=1 then 4 else 16:=by rcases hc with rfl|rfl<;>(rw[hkc];rfl)
  have ec:=fun h=>Count_K (highI kind) h (by rw[hhi];split<;>decide)
  have hci:countI (highI kind)=(c:Int):=by rw[hhi];rcases hc with rfl|rfl<;>rfl
  have w4:IntKind.i64.wrap (4+(c:Int))=((4+c:Nat):Int):=by rw[wrap_i64_small (by omega) (by omega)];omega
  have e2':nslice Tryz.prog 106 v (some (.int .i64 4)) (some (.int .i64 ((4+c:Nat):Int)))=some v2:=e2
  have hu5:Tryz.prog.underlying 5=some (.int .u8):=Tryz.underlying5
  have hus:Tryz.prog.underlying 9=some .string:=Tryz.underlying9
  have hub:Tryz.prog.underlying 39=some (.slice 5):=Tryz.underlying39
  rw[k151 _ _ (by simp)]
  rcases hc with rfl|rfl
  ·have q1:decide (kind=1)=true:=decide_eq_true (by omega)
   have w5:IntKind.i64.wrap 5=5:=by kernel_rfl
   have e5:nslice Tryz.prog 106 v (some (.int .i64 4)) (some (.int .i64 5))=some v2:=e2
   simp only[bodyOf,Option.getD_some,go_sem,seval,Tryz.f151,q1,eh,ec,hci,w5,e5,e3,nconv,kStr,effOp,hus,hub,hu5,hcap,hH2]
   try rfl
  ·have q1:¬kind=1:=by omega
   have q2:decide (kind=2)=true:=decide_eq_true (by omega)
   have w6:IntKind.i64.wrap 6=6:=by kernel_rfl
   have e6:nslice Tryz.prog 106 v (some (.int .i64 4)) (some (.int .i64 6))=some v2:=e2
   simp only[bodyOf,Option.getD_some,go_sem,seval,Tryz.f151,q1,q2,eh,ec,hci,w6,e6,e3,nconv,kStr,effOp,hus,hub,hu5,hcap,hH2]
   try rfl
 rcases hk with q|q|q|q
 ·exact low 1 (.inl rfl) q (by rw[bytesN,if_pos q])
 ·exact low 2 (.inr rfl) q (by rw[bytesN,if_neg (by omega),if_pos q])
 ·have q1:¬kind=1:=by omega
  have q2:¬kind=2:=by omega
  have q3:decide (kind=3)=true:=decide_eq_true q
  have hl88:ws.length=88:=by rw[hl,q];decide
  have hn48:n≤48:=by rw[q] at hn;have:highI 3=48:=rfl;omega
  have hb:bytesN ws kind n=(match deIdx ws n 256 with|none=>([],false)|some ks=>(ks,true)):=by rw[bytesN,if_neg q1,if_neg q2,if_pos q];rfl
  have n0:(0:Int)≤(n:Int):=by omega
  have nc:(n:Int)≤1099511627776:=by omega
  have mk:=rep_b n
  obtain⟨H1,hH1⟩:∃H1,h.alloc (.cells (rows UB (List.replicate n 0)) (.own none))=H1:=⟨_,rfl⟩
  have x1:Ext h H1:=by rw[←hH1];exact(Ext.refl _).alloc _
  have g1:H1.get h.next=some (.cells (rows UB (List.replicate n 0)) (.own none)):=by rw[←hH1];simp[NHeap.get_alloc]
  rw[k151 _ _ (by simp),hb]
  simp only[bodyOf,Option.getD_some,go_sem,seval,Tryz.f151,q1,q2,q3,n0,nc,Int.mul_one,mk,hH1]
  change∃kv h',outF _ _ (thenD env (blockC 0 (thenD env (blockC 1 (C env (.loop lbB1) _ _)) _)) _)=_∧_
  refine loopB1 h v ws hv hlt hl88 n hn48 h.next (Nat.le_refl _) _ ?_ ?_ ?_ (fun r=>∃kv h',outF _ _ (thenD env (blockC 0 (thenD env (blockC 1 r) _)) _)=some (.tuple [kv,.bool (match deIdx ws n 256 with|none=>([],false)|some ks=>(ks,true):List UInt8×Bool).2],h')∧Ext h h'∧Rw h' 1 UB kv (match deIdx ws n 256 with|none=>([],false)|some ks=>(ks,true):List UInt8×Bool).1∧SlV h' kv∧∀d∈blk kv,h.next≤d) ?_ ?_ 256 0 H1 (List.replicate n 0) _ (by omega) rfl x1 g1 (Keep.refl _ _) ?_
  ·simp only[go_sem,seval]
  ·simp only[go_sem,seval]
  ·simp only[go_sem,seval]
  ·intro h' F hd hE f6 f7
   rw[hd]
   refine⟨.slice none 0 0 none,h',?_,hE,Sl.nil _ _,SlV.nil _,by simp[blk]⟩
   simp only[go_sem,seval,f6,f7]
  ·intro h' F ks hd hE g f10
   have hkl:=deIdx_len ws n 256 ks hd
   rw[hd]
   refine⟨.slice (some (h.next,0)) n n none,h',?_,hE,?_,SlV_whole g (by rw[blen,hkl]),by simp[blk]⟩
   ·simp only[go_sem,seval,f10]
   ·rw[Rw]
    simp only
    rw[hkl]
    exact Sl.whole g (by rw[blen,hkl,Nat.mul_one]) (Nat.le_refl _) (.inl rfl)
  ·simp only[go_sem,seval];try rfl
 ·have q1:¬kind=1:=by omega
  have q2:¬kind=2:=by omega
  have q3:¬kind=3:=by omega
  have hl264:ws.length=264:=by rw[hl,q];decide
  have hb:bytesN ws kind n=(deAll ws 256,decide ((deAll ws 256).length=n)):=by rw[bytesN,if_neg q1,if_neg q2,if_neg q3]
  rw[k151 _ _ (by simp),hb]
  simp only[bodyOf,Option.getD_some,go_sem,seval,Tryz.f151,q1,q2,q3]
  change∃kv h',outF _ _ (thenD env (blockC 3 (C env (.loop lbB2) _ _)) _)=_∧_
  refine loopB2 h v ws hv hl264 _ ?_ (fun r=>∃kv h',outF _ _ (thenD env (blockC 3 r) _)=some (.tuple [kv,.bool (decide ((deAll ws 256).length=n))],h')∧Ext h h'∧Rw h' 1 UB kv (deAll ws 256)∧SlV h' kv∧∀d∈blk kv,h.next≤d) ?_ 256 0 h (.slice none 0 0 none) _ (by omega) (Ext.refl _) (Grow.nil _ _) (by simp[blk]) (Keep.refl _ _) ?_ ?_
  ·simp only[go_sem,seval]
  ·intro h' F kv hE g hk kp f13
   have k2:=kp 2 rfl
   simp only[go_sem,seval] at k2
   obtain⟨bo,c,x,hkv⟩:=g.sl.form
   refine⟨kv,h',?_,hE,g.sl,Grow_SlV g,hk⟩
   rw[hkv] at f13⊢
   have hdd:decide (((deAll ws 256).length:Int)=(n:Int))=decide ((deAll ws 256).length=n):=by
    by_cases p:(deAll ws 256).length=n
    ·simp[p]
    ·have:¬((deAll ws 256).length:Int)=(n:Int):=by omega
     simp[p,this]
   simp only[go_sem,seval,f13,k2,hdd]
  ·simp only[go_sem,seval]
  ·simp only[go_sem,seval];try rfl
end node
end Go.Proofs.YtkjpldganajkkaaGreatDoor.S
