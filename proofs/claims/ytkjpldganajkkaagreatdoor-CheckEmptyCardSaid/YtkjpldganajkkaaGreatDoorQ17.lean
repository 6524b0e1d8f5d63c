/-
  ArgsT, EmptyT, FactsCheckEmpty, LawCheckEmpty, as one text. Proved step by step; no conditions beside what is said.
-/
import Derived.Below
import Derived.Carry
import Derived.ChangeOld
import Derived.LaidMore
import Derived.LaidOnce
import Derived.OpenShut
import Derived.ProofKit
import Derived.SevenTiedAt
import Derived.ShutString
import Derived.Stop.Joined
import Derived.Test.YtkjpldganajkkaaGreatDoorCards
import Derived.Test.YtkjpldganajkkaaGreatDoorRows
import Derived.Test.YtkjpldganajkkaaGreatDoorTie
import Derived.WalkKit
import Derived.Test.YtkjpldganajkkaaGreatDoorQ4
import Derived.Test.YtkjpldganajkkaaGreatDoorQ16
set_option linter.unusedSimpArgs false
set_option linter.unusedVariables false
set_option linter.unusedSectionVars false
set_option maxRecDepth 100000
namespace Go.Proofs.YtkjpldganajkkaaGreatDoor.S
open Go Go.RowKit Go.Proofs.YtkjpldganajkkaaGreatDoor.NICE
namespace arg
open mir get tree
theorem ops_of:∀(us:List (List NVal)),(∀u∈us,All2 FK.ok [.int .i64,.str,.str,.int .i64] u)→∃ops:List OpS,rows id us=rows opV ops∧ops.length=us.length
 |[],_=>⟨[],rfl,rfl⟩
 |u::us,h=>by
  obtain⟨ops,h1,h2⟩:=ops_of us fun x hx=>h x (by simp[hx])
  have hu:=h u (by simp)
  rcases hu with _|⟨⟨k,rfl,_⟩,hu⟩
  rcases hu with _|⟨⟨t,rfl,_⟩,hu⟩
  rcases hu with _|⟨⟨to,rfl,_⟩,hu⟩
  rcases hu with _|⟨⟨v,rfl,_⟩,hu⟩
  cases hu
  exact⟨⟨k,t,to,v⟩::ops,by rw[rows_cons,rows_cons,h1];rfl,by simp[h2]⟩
theorem cfg_of {us:List NVal} (h:All2 FK.ok [.int .i64,.int .i64,.int .i64,.int .i64,.int .i64,.int .i64,.int .i64,.int .i64] us):∃a b c d e f g i:Int,us=kp.c8 a b c d e f g i:=by
 rcases h with _|⟨⟨a,rfl,_⟩,h⟩
 rcases h with _|⟨⟨b,rfl,_⟩,h⟩
 rcases h with _|⟨⟨c,rfl,_⟩,h⟩
 rcases h with _|⟨⟨d,rfl,_⟩,h⟩
 rcases h with _|⟨⟨e,rfl,_⟩,h⟩
 rcases h with _|⟨⟨f,rfl,_⟩,h⟩
 rcases h with _|⟨⟨g,rfl,_⟩,h⟩
 rcases h with _|⟨⟨i,rfl,_⟩,h⟩
 cases h
 exact⟨a,b,c,d,e,f,g,i,rfl⟩
theorem ins_of (h:NHeap) {b2:Nat} {inner:ArgL} (hin:∀(i:Nat) q,inner[i]? =some q→h.get (b2+i)=some q.2):∀(vs:List NVal) (i0:Nat),(∀i u,vs[i]? =some u→InOk [.int .i64,.str,.str,.int .i64] b2 inner (i0+i) u)→∃ins:List (NVal×List OpS),rows opR ins=vs∧ins.length=vs.length∧∀p∈ins,Rw h 4 opV p.1 p.2
 |[],_,_=>⟨[],rfl,rfl,fun p hp=>by cases hp⟩
 |u::vs,i0,hv=>by
  obtain⟨ins,h1,h2,h3⟩:=ins_of h hin vs (i0+1) fun i w hw=>by have:=hv (i+1) w (by simpa using hw);rwa[Nat.add_right_comm,Nat.add_assoc i0 i 1]
  obtain⟨bo,n,c,x,us,hu,hx,hn,hl,hk,hb⟩:=hv 0 u rfl
  obtain⟨ops,o1,o2⟩:=ops_of us hk
  have hcl:(rows opV ops).length=n*4:=by rw[rows_len kp.Op.len,o2,hl]
  refine⟨(u,ops)::ins,by rw[rows_cons,h1];rfl,by simp[h2],fun p hp=>?_⟩
  rcases List.mem_cons.1 hp with hp|hp
  ·subst hp
   refine⟨by rw[hcl,o2,hl],bo,c,x,by rw[hu,o2,hl],by rw[o2,hl];exact hn,by rcases hx with q|q;exact .inl q;exact .inr q,?_⟩
   rcases hb with h0|⟨y,hy,hbo⟩
   ·exact .inl (by rw[o2,hl,h0])
   ·have:=hin _ _ hy
    exact .inr ⟨_,0,_,_,hbo,this,by rw[List.drop_zero,o1,o2,hl,←hcl,List.take_length]⟩
  ·exact h3 p hp
theorem lists_of (h:NHeap) {b b2 n c:Nat} {bo:Option (Nat×Nat)} {x:Option Nat} {inner:ArgL} {vs:List NVal} (hx:(x=none∨x=some 1)∧n≤c) (hl:vs.length=n) (hv:∀i u,vs[i]? =some u→InOk [.int .i64,.str,.str,.int .i64] b2 inner i u) (hin:∀(i:Nat) q,inner[i]? =some q→h.get (b2+i)=some q.2) (hb:n=0∨(h.get b=some (.cells vs .ro)∧bo=some (b,0))):
  ∃ins:List (NVal×List OpS),Rw h 1 opR (.slice bo n c x) ins∧∀p∈ins,Rw h 4 opV p.1 p.2:=by
 obtain⟨ins,h1,h2,h3⟩:=ins_of h hin vs 0 (by simpa using hv)
 have hn:ins.length=n:=by rw[h2,hl]
 refine⟨ins,⟨by rw[h1,hl,hn,Nat.mul_one],bo,c,x,by rw[hn],by rw[hn];exact hx.2,hx.1,?_⟩,h3⟩
 rcases hb with q|⟨q,hbo⟩
 ·exact .inl (by rw[hn,q])
 ·exact .inr ⟨b,0,_,_,hbo,q,by rw[List.drop_zero,h1,hn,Nat.mul_one,←hl,List.take_length]⟩
end arg
end Go.Proofs.YtkjpldganajkkaaGreatDoor.S
namespace Go.Proofs.YtkjpldganajkkaaGreatDoor.S
open Go Go.RowKit Go.Proofs.YtkjpldganajkkaaGreatDoor.NICE
namespace chk
open word pack mir node mem get tree kp
theorem enc4_lt:∀w∈encW {kind:=4},w<2^64:=by
 have h:(encW {kind:=4}).all (fun w=>decide (w<2^64))=true:=by decide+kernel
 intro w hw
 have:=List.all_eq_true.1 h w hw
 simpa using this
abbrev cgV (a b d e f n lm:Nat) (tr:Int):List NVal:=c8 a b d e f n lm tr
set_option maxHeartbeats 2000000 in
theorem empty (h:NHeap) (x0 x1 x2 x3 x4 x5 x6 x7:Int) (v:NVal) (ins:List (NVal×List OpS)) (hs:Rw h 1 opR v ins) (hin:∀p∈ins,Rw h 4 opV p.1 p.2):
  ∃h',K env 3 [.agg (c8 x0 x1 x2 x3 x4 x5 x6 x7),v] h=some (.bool true,h'):=by
 obtain⟨N,hN⟩:∃N,h.next=N:=⟨_,rfl⟩
 obtain⟨H0,hH0⟩:∃H0,h.alloc (.cells (c8 x0 x1 x2 x3 x4 x5 x6 x7) (.own none))=H0:=⟨_,rfl⟩
 have y0:Ext h H0:=by rw[←hH0];exact(Ext.refl _).alloc _
 have g0:H0.get N=some (.cells (c8 x0 x1 x2 x3 x4 x5 x6 x7) (.own none)):=by rw[←hH0,←hN];simp[NHeap.get_alloc]
 obtain⟨a,b,d,e,f,n,lm,tr,h1,e1,y1,ca,cb,cd,ce,cf,cn,cl,ct⟩:=Config_K H0 x0 x1 x2 x3 x4 x5 x6 x7
 rw[show mem.cfgV ([a,b,d,e,f].map fun(n:Nat)=>(n:Int)) n lm tr=.agg (cgV a b d e f n lm tr) from rfl] at e1
 obtain⟨D,hD⟩:∃D,h1.next=D:=⟨_,rfl⟩
 obtain⟨H2,hH2⟩:∃H2,(h1.alloc (.cells (c8 0 0 0 0 0 0 0 0) cgZ)).set D (.cells (cgV a b d e f n lm tr) cgZ)=H2:=⟨_,rfl⟩
 have y2:Ext h1 H2:=by rw[←hH2];exact((Ext.refl _).alloc _).set (by omega) _
 have n2:H2.next=D+1:=by rw[←hH2];show h1.next+1=_;omega
 have g2:H2.get D=some (.cells (cgV a b d e f n lm tr) cgZ):=by rw[←hH2,NHeap.get_set_same (by rw[NHeap.next_alloc];omega)]
 have Y:=(y0.trans y1).trans y2
 obtain⟨ov,h3,ls,e3,A,hR⟩:=Lists_K H2 v ins (hs.ext Y) (fun p hp=>(hin p hp).ext Y) n 5 (by omega) (by decide) 9 (by decide) (by decide)
 have e3:K env 7 [v,.int .i64 (n:Nat),.int .i64 5,.int .i64 9] H2=some (ov,h3):=e3
 have g3:=A.x.get g2
 have hlen:ls.length≤n:=by
  have:=congrArg List.length hR
  rw[List.length_map,listsF_len,List.length_map,List.length_take] at this
  omega
 have hok:=listsF_ok 5 (by decide) 9 ((ins.take n).map (·.2)) (by rw[List.length_map,List.length_take];omega) n (by omega) (by omega)
 rw[←hR] at hok
 have LLs:LL ⟨h3,fun _=>0⟩ ov ls:=A.ll fun p hp=>by have:=(hok p.2 (List.mem_map_of_mem hp)).1;omega
 obtain⟨f',rfl⟩:∃f',f=f'+1:=⟨f-1,by omega⟩
 have hal:(allocF (newArena [a,b,d,e,f'+1]) 4 (encW {kind:=4})).1.2=0:=by rw[new_alloc]
 obtain⟨tb,G4,e4,S4,R4⟩:=New_K ⟨h3,fun _=>0⟩ 1 (by decide) a b d e (f'+1) (by simp;omega) n lm (by omega) (by omega) (by omega) (by omega) tr (by omega) (by omega) hal ov ls LLs hlen (fun p hp o ho=>(hok p.2 (List.mem_map_of_mem hp)).2 o ho)
 rw[show mem.cfgV ([a,b,d,e,f'+1].map fun(n:Nat)=>(n:Int)) n lm tr=.agg (cgV a b d e (f'+1) n lm tr) from rfl] at e4
 obtain⟨T,hT⟩:∃T,newTree [a,b,d,e,f'+1] n lm tr (ls.map (·.2))=T:=⟨_,rfl⟩
 have hTm:T.m=newMem [a,b,d,e,f'+1] n lm:=by rw[←hT];rfl
 rw[hT] at R4
 have hl:=new_load a b d e f' n lm (by omega) (by omega)
 rw[←hTm] at hl
 have hp:(partsI T.m.root).2.2.1=false:=by rw[hTm,new_root,parts_new _ (by omega)]
 have hd:=dec_enc right4
 have hws:(encW {kind:=4}).length<2^30:=by rw[enc4_len];decide
 have hf:∀i,i<5→(T.m.arena.free i).length≤2^20:=by rw[hTm];exact new_free a b d e f' n lm (by omega)
 have hv:liveF T.m.arena=1:=by rw[hTm];exact new_live a b d e f' n lm
 obtain⟨G5,e5,S5,R5⟩:=At_K (by decide) R4 _ hl enc4_lt hws hd hp
 obtain⟨E,hE⟩:∃E,G5.h.next=E:=⟨_,rfl⟩
 obtain⟨H6,hH6⟩:∃H6,(G5.h.alloc (.cells [nilS0,.str [],.int .i64 0,.bool false] lkZ)).set E (.cells [nilS0,.str [40,48,58,41],.int .i64 1,.bool true] lkZ)=H6:=⟨_,rfl⟩
 have y6:Ext G5.h H6:=by rw[←hH6];exact((Ext.refl _).alloc _).set (by omega) _
 have g6:H6.get E=some (.cells [nilS0,.str [40,48,58,41],.int .i64 1,.bool true] lkZ):=by rw[←hH6,NHeap.get_set_same (by rw[NHeap.next_alloc];omega)]
 have R6:TreeRep ⟨H6,newCol G5.h G5.col fun _=>0⟩ 1 tb ⟨a,b,d,e,(f'+1:Nat)⟩ 0 T:=by
  obtain⟨q,mv,ev,dv,cb',cq,cx,es,ds,R5⟩:=R5
  exact⟨q,mv,ev,dv,cb',cq,cx,es,ds,TreeAt.mem (lo:=1) (hi:=1) (by decide) R5 (Stp.of_ext 1 1 y6 _) (by omega) (R5.m.step (Stp.of_ext 1 1 y6 _) (by decide) (.inl (Nat.le_refl _)))⟩
 obtain⟨h7,e7⟩:=Clean_K (by decide) R6 _ hl enc4_lt hws hd hp hf hv
 obtain⟨h8,e8,_⟩:=runs_ok10 h7
 obtain⟨obo,oc,ox,hov⟩:=A.gw.sl.form
 obtain⟨vbo,vc,vx,hvv⟩:=hs.form
 have nx3:D+1≤h3.next:=by rw[←n2];exact A.x.next
 have nx4:h3.next≤G4.h.next:=S4.next
 have g4:=S4.get g3 (by show¬(1≤0∧_);omega)
 refine⟨h8,?_⟩
 simp only[P,nilS0,hov,hvv,cgV] at e1 hH2 g2 g3 g4 e3 e4 e5 hH6 g6 e7⊢
 rw[k3 _ _ (by simp)]
 simp only[bodyOf,Option.getD_some,go_sem,seval,↓S_drawnY,y_nil,y_plain,y_guard,yGuard_true,yGuard_false,yGo_val,yGo_read,yGo_none,yAgain_true,yNew_some,yNew_none,yChk_true,yDo_some,yEnd_true,looseY_nil,looseY_cons,chainB,afterOf,Bool.or_true,Bool.or_false,Bool.true_or,Bool.false_or,Bool.and_true,Bool.true_and,Bool.false_and,Bool.and_false,true_or,or_true,Tryz.f3,hN,hH0,g0,e1,hD,hH2,g2,g3,g4,e3,e4,n2,nx3,nx4,e5,hE,hH6,g6,e7,e8]
 try rfl
end chk
theorem law_true_CheckEmpty (h:NHeap) (us:List NVal) (hu:All2 FK.ok [.int .i64,.int .i64,.int .i64,.int .i64,.int .i64,.int .i64,.int .i64,.int .i64] us) {b b2 n c:Nat} {bo:Option (Nat×Nat)} {x:Option Nat} {inner:ArgL} {vs:List NVal} (hx:(x=none∨x=some 1)∧n≤c) (hl:vs.length=n) (hv:∀i u,vs[i]? =some u→InOk [.int .i64,.str,.str,.int .i64] b2 inner i u) (hin:∀(i:Nat) q,inner[i]? =some q→h.get (b2+i)=some q.2) (hb:n=0∨(h.get b=some (.cells vs .ro)∧bo=some (b,0))):
  ∃h',K env 3 [.agg us,.slice bo n c x] h=some (.bool true,h'):=by
 obtain⟨x0,x1,x2,x3,x4,x5,x6,x7,rfl⟩:=arg.cfg_of hu
 obtain⟨ins,s1,s2⟩:=arg.lists_of h hx hl hv hin hb
 exact chk.empty h x0 x1 x2 x3 x4 x5 x6 x7 _ ins s1 s2
end Go.Proofs.YtkjpldganajkkaaGreatDoor.S
namespace Go.Proofs.YtkjpldganajkkaaGreatDoor.checkEmpty
open Go Go.RowKit Go.Proofs.YtkjpldganajkkaaGreatDoor.NICE
theorem k1:Rows.checkEmptyRow.wf (OpenSpec.ofChange Rows.checkEmptySpec)=true:=by kernel_rfl
theorem k2:laidOutB Tryz.prog=true:=by kernel_rfl
theorem k3:mapsRowed Tryz.prog=true:=by kernel_rfl
theorem k4:Tryz.f3.params.all (Tryz.prog.readableRec ·)=true:=by kernel_rfl
theorem k5:namedTie Tryz.prog Rows.checkEmptyRow.named Rows.checkEmptySpec.vars=true:=by kernel_rfl
theorem k6:(Rows.checkEmptyRow.stops==[])=true:=by kernel_rfl
theorem k7:(Tryz.prog.stops==[])=true:=by kernel_rfl
theorem k8:(Rows.checkEmptyRow.knobs==[])=true:=by kernel_rfl
theorem k9:(Tryz.prog.stopKnobs==[])=true:=by kernel_rfl
theorem k10:(Rows.checkEmptyRow.inPlace==Tryz.prog.inPlace 3)=true:=by kernel_rfl
theorem k11:(Rows.checkEmptyRow.unfollowed==Tryz.prog.unfollowed 3)=true:=by kernel_rfl
theorem k12:(Rows.checkEmptyRow.recurses==Tryz.prog.recurses 3)=true:=by kernel_rfl
theorem k13:(Rows.checkEmptyRow.named==Tryz.prog.varsNamed 3)=true:=by kernel_rfl
theorem k14:(Rows.checkEmptyRow.maps==(Tryz.f3.params.toList++Rows.checkEmptySpec.plain.varTypes Tryz.prog).any (Tryz.prog.mapsRec ·))=true:=by kernel_rfl
theorem k15:(Rows.checkEmptyRow.ifaces==(Tryz.f3.params.toList++Rows.checkEmptySpec.plain.varTypes Tryz.prog).any (Tryz.prog.ifacesRec ·))=true:=by kernel_rfl
theorem k16:(Rows.checkEmptyRow.mapsOut==Tryz.prog.mapsAmong Tryz.f3.resultTypes.toList)=true:=by kernel_rfl
theorem k17:(Rows.checkEmptyRow.loops==(Tryz.f3.params.toList++Rows.checkEmptySpec.plain.varTypes Tryz.prog).any (Tryz.prog.loopsFrom ·))=true:=by kernel_rfl
theorem k18:(Rows.checkEmptyRow.wideKeys==(Tryz.f3.params.toList++Rows.checkEmptySpec.plain.varTypes Tryz.prog++Tryz.f3.resultTypes.toList).any (Tryz.prog.wideKeysFrom ·))=true:=by kernel_rfl
theorem k19:Rows.checkEmptySpec.vars.all (Tryz.prog.varReadable ·)=true:=by kernel_rfl
theorem k20:Tryz.f3.resultTypes.all (fun t=>Tryz.prog.readableRec t&&decide (t<Tryz.prog.types.size))=true:=by kernel_rfl
theorem k21:(Rows.checkEmptyRow.ifacesOut==Tryz.f3.resultTypes.toList.any (Tryz.prog.ifacesRec ·))=true:=by kernel_rfl
theorem k22:(Rows.checkEmptyRow.loopsOut==Tryz.f3.resultTypes.toList.any (Tryz.prog.loopsFrom ·))=true:=by kernel_rfl
theorem k23:(Rows.checkEmptyRow.plainKeys==Tryz.prog.plainKeys)=true:=by kernel_rfl
theorem k24:Rows.checkEmptyRow.shortTexts.isNone=true:=by kernel_rfl
theorem k25:Tryz.prog.stopsHeard=true:=by kernel_rfl
theorem k26:Tryz.prog.mayEnter=true:=by kernel_rfl
theorem k27:(Rows.checkEmptyRow.lifted==Tryz.prog.liftsFinal)=true:=by kernel_rfl
theorem k28:(Tryz.prog.make==some Rows.checkEmptyRow.make)=true:=by kernel_rfl
theorem k29:(Rows.checkEmptyRow.kinds==(if Rows.checkEmptyRow.domain.isEmpty then[] else Tryz.f3.params.toList.map fun t=>match Tryz.prog.underlying t with|some (.int k)=>some k|_=>none))=true:=by kernel_rfl
theorem k30:(Rows.checkEmptyRow.pinned==Rows.checkEmptyRow.pinnedBy)=true:=by kernel_rfl
theorem k31:(Rows.checkEmptyRow.veiled==(Tryz.f3.params.toList++Rows.checkEmptySpec.plain.varTypes Tryz.prog++Tryz.f3.resultTypes.toList).any (Tryz.prog.veiledRec ·))=true:=by kernel_rfl
theorem k32:Rows.checkEmptyRow.veiledFits Tryz.prog Tryz.f3.params.toList (Tryz.f3.params.toList++Rows.checkEmptySpec.plain.varTypes Tryz.prog++Tryz.f3.resultTypes.toList)=true:=by kernel_rfl
theorem facts:joinedFacts Tryz.prog 3 Tryz.f3 Rows.checkEmptySpec Rows.checkEmptyRow=true:=joined_mk k1 k2 k3 k4 k5 k6 k7 k8 k9 k10 k11 k12 k13 k14 k15 k16 k17 k18 k19 k20 k21 k22 k23 k24 k25 k26 k27 k28 k29 k30 k31 k32
theorem named:Tryz.prog.funcNamed Rows.checkEmptyRow.func=some 3:=by kernel_rfl
theorem inst:Tryz.f3.isInstance Tryz.prog Rows.checkEmptyRow.origin Rows.checkEmptyRow.targs:=of_decide_eq_true (by kernel_rfl)
theorem wrap:Tryz.f3.isWrapper Tryz.prog Rows.checkEmptyRow.wrapper Rows.checkEmptyRow.mainSum:=by
 unfold Func.isWrapper
 first|(rw[if_pos (by decide+kernel)];kernel_rfl)|(rw[if_neg (by decide+kernel)];exact⟨rfl,rfl⟩)
end Go.Proofs.YtkjpldganajkkaaGreatDoor.checkEmpty
namespace Go.Proofs.YtkjpldganajkkaaGreatDoor.checkEmpty
open Go Go.Proofs.YtkjpldganajkkaaGreatDoor.NICE Go.Proofs.YtkjpldganajkkaaGreatDoor.S
open Go.ChangeShapes Go.WideShapes Go.ChangeAt Go.RowKit
open Go.ChangeMaps (open_string shut_string)
theorem own:ownKnob Tryz.prog.godebug=none:=by kernel_rfl
theorem door_met (os:Os) (args:Array Value):laidMetH Tryz.prog Rows.checkEmptyRow.laid ((World.doorLaid Tryz.prog 200 os).forCall (fun _ _=>0) ⟨#[],args,[]⟩).memory:=
 laidMetH_of_parts3 (fuel:=8) (laidMet_of_run' 8 (by kernel_rfl) (by kernel_rfl)) (by kernel_rfl) (by kernel_rfl)
theorem lifted (os:Os) (started:os.Started) (H:Type) (enc:TypeId×Value→H):
  ReturnsInHanded {} Tryz.checked os 3 .any (fun w args=>(Rows.checkEmptySpec.pre enc Tryz.prog Tryz.f3 [] false w args∧laidMetH Tryz.prog Rows.checkEmptyRow.laid w)∧sizedMet enc Tryz.prog Tryz.f3 (OpenSpec.ofChange Rows.checkEmptySpec) false w args)
   (Rows.checkEmptySpec.post enc Tryz.prog Tryz.f3 false true false false):=by
 refine returnsInHanded_of_change_and (C:=Tryz.checked) (X:=fun w _=>laidMetH Tryz.prog Rows.checkEmptyRow.laid w) (fun _ _ _ hh h=>h.of_heap hh) own started (by kernel_rfl) Tryz.func3
  (ChangeSpec.witness_shaped (enc:=enc) (C:=Tryz.checked) (os:=os) (X:=fun w _=>laidMetH Tryz.prog Rows.checkEmptyRow.laid w) false (World.doorLaid Tryz.prog 200 os) #[.agg #[.int .i64 0,.int .i64 0,.int .i64 0,.int .i64 0,.int .i64 0,.int .i64 0,.int .i64 0,.int .i64 0],.slice none 0 0] 8 rfl (World.shaped_of_RefB (by kernel_rfl) (by kernel_rfl)) (by kernel_rfl) (by kernel_rfl) (by kernel_rfl) (door_met os _)) ?_
 intro W base args ds gs before hval0 hW _ _ hL _
 have hval:∀(j:Nat) t v,Tryz.f3.params[j]? =some t→args[j]? =some v→Value.okWide Tryz.prog W .any base t v:=hval0
 have hW':=hW
 obtain⟨p,q,hA0,hV,rfl,hfz,hnd⟩:=hW
 have hA:DataW.TrodAll enc Tryz.prog W 0 (fun _=>true) true Tryz.f3.params.toList args.toList ds p:=hA0
 rw[Tryz.params3] at hA hval
 obtain⟨rfl,rfl⟩:=trodVars_none hV
 clear hA0 hval0
 have hA1:=hA
 obtain⟨v0,v1,d0,d1,p0,p1,rfl,rfl,rfl,h0,h1⟩:=trodAll_two hA1
 obtain⟨us0,hu0,hv0⟩:=arg_flat Tryz.underlying24 (dd:=6) (ks:=[.int .i64,.int .i64,.int .i64,.int .i64,.int .i64,.int .i64,.int .i64,.int .i64]) (show flat Tryz.prog 6 24=some [.int .i64,.int .i64,.int .i64,.int .i64,.int .i64,.int .i64,.int .i64,.int .i64] by kernel_rfl) h0 (hval 0 _ _ rfl rfl)
 obtain⟨a1,m1,c1,rfl⟩:=okWide_slice Tryz.underlying25 (hval 1 _ _ rfl rfl)
 obtain⟨bo1,n1,k1,x1,y1,ob1,inner,vs1,hx1,il1,len1,sk1,I1,hv1,okL⟩:=slice_slices Tryz.underlying25 Tryz.underlying52 (by kernel_rfl) (dd:=6) (ks:=[.int .i64,.str,.str,.int .i64]) (show flat Tryz.prog 6 55=some [.int .i64,.str,.str,.int .i64] by kernel_rfl) (by decide) h1 ⟨_,_,_,rfl⟩ 0 1
 obtain⟨h',hK⟩:=law_true_CheckEmpty (argH ([(y1,ob1)]++inner)) us0 hu0 hx1 len1 I1 (fun i q e=>by rw[argH_get,List.getElem?_append_right (by simp)];simp[e]) (sk1.imp (·.1) fun q=>⟨by rw[argH_get];simp[q.1],q.2⟩)
 refine(walk_true (Checked.mixed Tryz.checked) rfl hK (Inv.args W ([(y1,ob1)]++inner) (fun b p e=>by
   have hinn:∀(i:Nat) q,inner[i]? =some q→([(y1,ob1)]++inner)[1+i]? =some q:=fun i q e=>by rw[List.getElem?_append_right (by simp)];simp[e]
   rcases List.mem_append.1 (List.mem_of_getElem? e) with hm|hm
   ·simp only[List.mem_cons,List.not_mem_nil,or_false] at hm
    rcases hm with rfl
    ·exact(okL _ hinn).1
   ·exact(okL _ hinn).2 p hm)) (.cons (hv0 _) (.cons (hv1 _ rfl) (.nil)))).mono fun e W' he=>?_
 obtain⟨he1,hb⟩:=he
 subst he1
 exact⟨_,rfl,_,_,_,[],_,[],hW',trodAll_mk1 (shut_bool Tryz.underlying4 _),trodAll_stays k2 hb (by kernel_rfl) hA hA.lt,rfl,hb.frame _,fun h=>by cases h⟩
theorem over:Rows.checkEmptyRow.holds Tryz.pinned (OpenSpec.ofChange Rows.checkEmptySpec):=
 OpenClaim.holds_of_wide 3 Tryz.f3 rfl rfl rfl rfl rfl rfl rfl ⟨rfl,rfl,rfl,rfl,rfl⟩ rfl rfl rfl rfl rfl named Tryz.func3 facts
  inst wrap
  (fun os started H enc _=>lifted os started H enc)
theorem row_tie:Rows.checkEmptyRow.laidByTextAt .later Tryz.pinned [.data,.data,.data] true:=checkEmpty_row_tie
theorem proved:Rows.CheckEmptyCardSaid:=
 Claim7.holds_tied_plain_at .later [] [.data,.data,.data] true (true, "454a8e4782fc0fc7bf6dfacc9981ec903c4a3faa7875a3b8a6c97eea905204b9") true
  over (fun _ h=>by cases h) (by kernel_rfl) (fun _ h=>by cases h) row_tie rfl ⟨rfl,rfl⟩ (by kernel_rfl) rfl
  (fun f fn hf hfn=>by
   obtain rfl:f=3:=Option.some.inj ((named).symm.trans hf)|>.symm
   obtain rfl:fn=Tryz.f3:=(Option.some.inj (Tryz.func3.symm.trans hfn)).symm
   exact⟨by kernel_rfl,fun j t ht=>by
    rw[Tryz.params3] at ht
    rcases j with _|_|j
    ·obtain rfl:t=24:=by simpa using ht.symm
     exact(show Tryz.prog.wantsStandIn 24=false by kernel_rfl)
    ·obtain rfl:t=25:=by simpa using ht.symm
     exact(show Tryz.prog.wantsStandIn 25=false by kernel_rfl)
    ·simp at ht⟩)
  (by kernel_rfl)
end Go.Proofs.YtkjpldganajkkaaGreatDoor.checkEmpty
