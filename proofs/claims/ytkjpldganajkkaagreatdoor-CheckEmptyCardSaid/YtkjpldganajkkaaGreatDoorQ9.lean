/-
  Ins to Heap, as one text. Proved step by step; no conditions beside what is said.
-/
import Derived.Test.YtkjpldganajkkaaGreatDoorQ5
import Derived.Test.YtkjpldganajkkaaGreatDoorQ7
import Derived.Test.YtkjpldganajkkaaGreatDoorQ8
set_option linter.unusedSimpArgs false
set_option linter.unusedVariables false
set_option linter.unusedSectionVars false
set_option maxRecDepth 100000
namespace Go.Proofs.YtkjpldganajkkaaGreatDoor.S
open Go Go.RowKit Go.Proofs.YtkjpldganajkkaaGreatDoor.NICE
theorem ov_ok279:CallOk Tryz.prog (ovKnown 279):=ovKnown_ok Tryz.func279 (by kernel_rfl) (by kernel_rfl) (by kernel_rfl) (tS:=39) (tR:=4) Tryz.underlying39 sz5 (by kernel_rfl)
theorem ov_ok281:CallOk Tryz.prog (ovKnown 281):=ovKnown_ok Tryz.func281 (by kernel_rfl) (by kernel_rfl) (by kernel_rfl) (tS:=77) (tR:=4) Tryz.underlying77 sz3 (by kernel_rfl)
noncomputable def envO:Env Tryz.prog drStatic:=tab.env tab_ok (orKnown (ovKnown 281) (orKnown (ovKnown 279) (orKnown (idxKnown 189) (sameKnown 117)))) (orKnown_ok ov_ok281 (orKnown_ok ov_ok279 (orKnown_ok idx_ok esc_ok)))
theorem env_ok_at261:FnOk Tryz.prog 261 (bodyOf Tryz.f261) 95 [.tmp 6]∧codeStat drStatic (bodyOf Tryz.f261)=true:=envO.ok _ _ _ _ (by kernel_rfl)
namespace ins261
theorem kO (l:List NVal) (h:NHeap) (hl:l.length≤95):K envO 261 l h=outF Tryz.prog [.tmp 6] (C envO (bodyOf Tryz.f261) (toL 95 (argF l)) h):=K_bodyF rfl (by kernel_rfl) hl
theorem ov {h:NHeap} {va o b o' l c x n c' x' T q v vcs vq cs} (hv:h.get va=some (.cells (v::vcs) (.own vq))) (hb:h.get b=some (.cells cs (.own (some (T,q))))) (hne:¬va=b):
  K envO 279 [.slice (some (va,o)) l c x,.slice (some (b,o')) (n+1) c' x'] h=some (.bool false,h):=K_known (by simp[envO,Tb.env,orKnown,ovKnown,idxKnown,hv,hb,hne])
variable {h:NHeap} {b vb vo vc n i:Nat} {vx:Option Nat} {cs vcs new:List NVal} {vq:Option (TypeId×Nat)}
theorem grow (hb:h.get b=some (.cells cs (.own (some (5,0))))) (hl:cs.length=n*1) (hv:h.get vb=some (.cells vcs (.own vq))) (hnew:(vcs.drop vo).take 1=new) (hnl:new.length=1) (hne:b≠vb) (hi:i<n) (hn:n<2^30) (ho:allOne cs=true) (hon:allOne new=true) (rc:Nat) (h1:n≤rc) (h2:rc<n+1):
  ∃h1,K envO 261 [.slice (some (b,0)) n rc none,.int .i64 i,.slice (some (vb,vo)) 1 vc vx] h=some (.slice (some (h.next,0)) (n+1) (n+1) (some 1),h1)∧h1.next=h.next+1∧
   ∀b',h1.get b'=if b'=h.next then some (.cells (cs.take (i*1)++new++cs.drop (i*1)) (.own (some (5,0)))) else h.get b':=by
 have hrc:n=rc:=by omega
 subst hrc
 have bl:=NHeap.get_lt hb
 have vl:=NHeap.get_lt hv
 have voc:vo+1≤vcs.length:=by
  have:=congrArg List.length hnew
  simp only[List.length_take,List.length_drop,hnl] at this
  omega
 have a1:¬(i:Int)=(n:Int):=by omega
 have w1:IntKind.i64.wrap ((n:Int)+1)=((n+1:Nat):Int):=by rw[wrap_i64_small (by omega) (by omega)];omega
 have a2:(n:Int)<((n+1:Nat):Int):=by omega
 have w2:IntKind.i64.wrap (((n+1:Nat):Int)-(i:Int))=((n+1-i:Nat):Int):=by rw[wrap_i64_small (by omega) (by omega)];omega
 have w3:IntKind.i64.wrap ((i:Int)+1)=((i+1:Nat):Int):=by rw[wrap_i64_small (by omega) (by omega)];omega
 have s1:=nslice_from (P:=Tryz.prog) Tryz.underlying39 sz5 .i64 b 0 n n i (by omega) (Nat.le_refl _) hi
 have s2:=nslice_to (P:=Tryz.prog) Tryz.underlying39 sz5 .i64 b 0 n n i (by omega) (by omega)
 have s3:=nslice_fromX (P:=Tryz.prog) Tryz.underlying39 sz5 .i64 h.next 0 (n+1) (n+1) i (by omega)
 have s4:=nslice_fromX (P:=Tryz.prog) Tryz.underlying39 sz5 .i64 h.next 0 (n+1) (n+1) (i+1) (by omega)
 simp only[Nat.zero_add] at s1 s2 s3 s4
 obtain⟨z,zc,hz,hzc,zl,zo⟩:∃z zc,zeroOf Tryz.prog 5=some z∧z.cells=zc∧zc.length=1∧allOne zc=true:=⟨_,_,ze5,rfl,rfl,rfl⟩
 obtain⟨Z,hZ⟩:∃Z,repeatCells zc (n-i)=Z:=⟨_,rfl⟩
 have hZ1:repeatCells zc (n+1-i)=zc++Z:=by rw[show n+1-i=(n-i)+1 by omega,←hZ];rfl
 have hZl:Z.length=(n-i)*1:=by rw[←hZ,repeat_length,zl]
 have app:nappend Tryz.prog 39 3 (.slice (some (b,0)) i n none) (.int .i64 ((n+1-i:Nat):Int)) h=some (.slice (some (h.next,0)) (n+1) (n+1) (some 1),h.alloc (.cells (cs.take (i*1)++(zc++Z)) (.own (some (5,0))))):=by
  have hz2:allOne (zc++Z)=true:=by rw[←hZ1];exact allOne_repeat zo _
  unfold nappend appended
  rw[Tryz.underlying39]
  simp only[sz5,by5,hz,hzc,zl,zo,Tryz.underlying3]
  rw[if_pos (by decide),if_pos ⟨by omega,by omega,trivial⟩]
  simp only[Int.toNat_natCast,hZ1]
  have e1:i+(n+1-i)=n+1:=by omega
  rw[if_pos ⟨by rw[List.length_append,zl,hZl];omega,hz2,by omega,by omega⟩,if_neg (by omega),if_neg (by omega),srcCells_row hb (Nat.le_refl _) (by omega)]
  simp only[List.drop_zero,allOne_take ho,if_true,e1]
 obtain⟨H1,hH1⟩:∃H,h.alloc (.cells (cs.take (i*1)++(zc++Z)) (.own (some (5,0))))=H:=⟨_,rfl⟩
 have g1:H1.get h.next=some (.cells (cs.take (i*1)++(zc++Z)) (.own (some (5,0)))):=by rw[←hH1,NHeap.get_alloc,if_pos rfl]
 have o1:∀b',b'≠h.next→H1.get b'=h.get b':=fun b' q=>by rw[←hH1,NHeap.get_alloc,if_neg q]
 have tl:(cs.take (i*1)).length=i*1:=by simp;omega
 have c1:=ncopy_row (P:=Tryz.prog) Tryz.underlying39 sz5 (dc:=n+1-i) (dx:=some 1) (sc:=vc) (sx:=vx) g1 (by rw[o1 vb (by omega)];exact hv) (dl:=n+1-i) (sl:=1) (o:=i*1) (so:=vo) (k:=1) (by omega) (by decide) (cs:=new) (by simpa using hnew) (by omega) hon (by simp only[List.length_append,tl,zl,hZl];omega)
 have sr1:setRange (cs.take (i*1)++(zc++Z)) (i*1) new=cs.take (i*1)++new++Z:=by
  have:=setRange_mid (cs.take (i*1)) zc Z new (by rw[hnl,zl])
  rw[tl,List.append_assoc] at this
  exact this
 rw[sr1] at c1
 obtain⟨H2,hH2⟩:∃H,H1.set h.next (.cells (cs.take (i*1)++new++Z) (.own (some (5,0))))=H:=⟨_,rfl⟩
 have n1:H1.next=h.next+1:=by rw[←hH1];rfl
 have g2:H2.get h.next=some (.cells (cs.take (i*1)++new++Z) (.own (some (5,0)))):=by rw[←hH2,NHeap.get_set_same (by omega)]
 have o2:∀b',b'≠h.next→H2.get b'=h.get b':=fun b' q=>by rw[←hH2,NHeap.get_set_ne q,o1 b' q]
 have c2:=ncopy_row (P:=Tryz.prog) Tryz.underlying39 sz5 (dc:=n+1-(i+1)) (dx:=some 1) (sc:=n-i) (sx:=none) g2 (by rw[o2 b (by omega)];exact hb) (dl:=n+1-(i+1)) (sl:=n-i) (o:=(i+1)*1) (so:=i*1) (k:=n-i) (by omega) (by omega) (cs:=cs.drop (i*1)) (List.take_of_length_le (by simp;omega)) (by omega) (allOne_drop ho _) (by simp only[List.length_append,tl,hnl,hZl];omega)
 have sr2:setRange (cs.take (i*1)++new++Z) ((i+1)*1) (cs.drop (i*1))=cs.take (i*1)++new++cs.drop (i*1):=by
  have:=setRange_mid (cs.take (i*1)++new) Z [] (cs.drop (i*1)) (by rw[hZl];simp;omega)
  rw[List.length_append,tl,hnl,List.append_nil,List.append_nil,show i*1+1=(i+1)*1 by omega] at this
  exact this
 rw[sr2,show n+1-(i+1)=n-i by omega] at c2
 have n2:H2.next=h.next+1:=by rw[←hH2];exact n1
 rw[kO _ _ (by simp)]
 refine⟨H2.set h.next (.cells (cs.take (i*1)++new++cs.drop (i*1)) (.own (some (5,0)))),?_,?_,?_⟩
 ·try simp only[Nat.mul_one] at s1
  try simp only[Nat.mul_one] at s2
  try simp only[Nat.mul_one] at s3
  try simp only[Nat.mul_one] at s4
  try simp only[Nat.mul_one] at app
  try simp only[Nat.mul_one] at hov
  try simp only[Nat.mul_one] at hH1
  try simp only[Nat.mul_one] at c1
  try simp only[Nat.mul_one] at hH2
  try simp only[Nat.mul_one] at c2
  simp only[bodyOf,Option.getD_some,go_sem,seval,Tryz.f261,s1,s2,s3,s4,a1,w1,a2,w2,w3,app,hH1,c1,hH2,c2,n1,n2,Nat.le_refl]
 ·exact n2
 ·intro b'
  by_cases q:b'=h.next
  ·rw[if_pos q,q,NHeap.get_set_same (by omega)]
  ·rw[if_neg q,NHeap.get_set_ne q,o2 b' q]
theorem room (hb:h.get b=some (.cells cs (.own (some (5,0))))) (hl:cs.length=n*1) (hv:h.get vb=some (.cells vcs (.own vq))) (hnew:(vcs.drop vo).take 1=new) (hnl:new.length=1) (hne:b≠vb) (hi:i<n) (hn:n<2^30) (ho:allOne cs=true) (hon:allOne new=true) (rc:Nat) (h1:n+1≤rc):
  ∃h1,K envO 261 [.slice (some (b,0)) n rc none,.int .i64 i,.slice (some (vb,vo)) 1 vc vx] (h.set b (.cells (cs++List.replicate ((n+1-n)*1) .junk) (.own (some (5,0)))))=some (.slice (some (b,0)) (n+1) rc none,h1)∧h1.next=h.next∧
   ∀b',h1.get b'=if b'=b then some (.cells (cs.take (i*1)++new++cs.drop (i*1)) (.own (some (5,0)))) else h.get b':=by
 have bl:=NHeap.get_lt hb
 have vl:=NHeap.get_lt hv
 have voc:vo+1≤vcs.length:=by
  have:=congrArg List.length hnew
  simp only[List.length_take,List.length_drop,hnl] at this
  omega
 obtain⟨v0,vr,hvc⟩:∃v0 vr,vcs=v0::vr:=by
  cases vcs with
  |nil=>simp at voc
  |cons a l=>exact⟨a,l,rfl⟩
 obtain⟨J,hJ⟩:∃J,List.replicate ((n+1-n)*1) NVal.junk=J:=⟨_,rfl⟩
 have hJl:J.length=1:=by rw[←hJ,List.length_replicate];omega
 rw[hJ]
 obtain⟨H1,hH1⟩:∃H,h.set b (.cells (cs++J) (.own (some (5,0))))=H:=⟨_,rfl⟩
 have g1:H1.get b=some (.cells (cs++J) (.own (some (5,0)))):=by rw[←hH1,NHeap.get_set_same bl]
 have o1:∀b',b'≠b→H1.get b'=h.get b':=fun b' q=>by rw[←hH1,NHeap.get_set_ne q]
 have n1:H1.next=h.next:=by rw[←hH1];rfl
 rw[hH1]
 have gv1:H1.get vb=some (.cells (v0::vr) (.own vq)):=by rw[o1 vb (Ne.symm hne),hv,hvc]
 have a1:¬(i:Int)=(n:Int):=by omega
 have w1:IntKind.i64.wrap ((n:Int)+1)=((n+1:Nat):Int):=by rw[wrap_i64_small (by omega) (by omega)];omega
 have a2:¬(rc:Int)<((n+1:Nat):Int):=by omega
 have w3:IntKind.i64.wrap ((i:Int)+1)=((i+1:Nat):Int):=by rw[wrap_i64_small (by omega) (by omega)];omega
 have s1:=nslice_from (P:=Tryz.prog) Tryz.underlying39 sz5 .i64 b 0 n rc i (by omega) (by omega) (by omega)
 have s2:=nslice_to (P:=Tryz.prog) Tryz.underlying39 sz5 .i64 b 0 n rc (n+1) (by omega) (by omega)
 have s3:=nslice_from (P:=Tryz.prog) Tryz.underlying39 sz5 .i64 b 0 (n+1) rc i (by omega) (by omega) (by omega)
 have s4:=nslice_from (P:=Tryz.prog) Tryz.underlying39 sz5 .i64 b 0 (n+1) rc (i+1) (by omega) (by omega) (by omega)
 simp only[Nat.zero_add] at s1 s2 s3 s4
 obtain⟨m,hm⟩:∃m,n-i=m+1:=⟨n-i-1,by omega⟩
 have e1:n+1-(i+1)=m+1:=by omega
 have e2:n+1-i=m+2:=by omega
 rw[e1] at s4
 rw[e2] at s3
 have hov:=ov (o:=vo) (l:=1) (c:=vc) (x:=vx) (o':=(i+1)*1) (n:=m) (c':=rc-(i+1)) (x':=none) gv1 g1 (Ne.symm hne)
 have tl:(cs.take (i*1)).length=i*1:=by simp;omega
 have c1:=ncopy_row (P:=Tryz.prog) Tryz.underlying39 sz5 (dc:=rc-(i+1)) (dx:=none) (sc:=rc-i) (sx:=none) g1 g1 (dl:=m+1) (sl:=m+2) (o:=(i+1)*1) (so:=i*1) (k:=m+1) (by omega) (by omega) (cs:=cs.drop (i*1)) (by
  rw[List.drop_append,show i*1-cs.length=0 by omega,List.drop_zero,List.take_append_of_le_length (by simp;omega),List.take_of_length_le (by simp;omega)]) (by simp only[List.length_append,hJl];omega) (allOne_drop ho _) (by simp only[List.length_append,hJl];omega)
 obtain⟨M,hM⟩:∃M,((cs++J).drop (i*1)).take 1=M:=⟨_,rfl⟩
 have hMl:M.length=1:=by rw[←hM];simp;omega
 have sr1:setRange (cs++J) ((i+1)*1) (cs.drop (i*1))=cs.take (i*1)++M++cs.drop (i*1):=by
  have e:cs++J=(cs.take (i*1)++M)++(cs++J).drop ((i+1)*1)++[]:=by
   rw[←hM,List.append_nil]
   conv=>lhs;rw[←List.take_append_drop (i*1) (cs++J),←List.take_append_drop 1 ((cs++J).drop (i*1))]
   rw[List.take_append_of_le_length (by omega),List.drop_drop,←List.append_assoc,show i*1+1=(i+1)*1 by omega]
  have:=setRange_mid (cs.take (i*1)++M) ((cs++J).drop ((i+1)*1)) [] (cs.drop (i*1)) (by simp;omega)
  rw[←e,List.length_append,tl,hMl,List.append_nil,show i*1+1=(i+1)*1 by omega] at this
  exact this
 rw[sr1] at c1
 obtain⟨H2,hH2⟩:∃H,H1.set b (.cells (cs.take (i*1)++M++cs.drop (i*1)) (.own (some (5,0))))=H:=⟨_,rfl⟩
 have g2:H2.get b=some (.cells (cs.take (i*1)++M++cs.drop (i*1)) (.own (some (5,0)))):=by rw[←hH2,NHeap.get_set_same (by omega)]
 have o2:∀b',b'≠b→H2.get b'=h.get b':=fun b' q=>by rw[←hH2,NHeap.get_set_ne q,o1 b' q]
 have n2:H2.next=h.next:=by rw[←hH2];exact n1
 have c2:=ncopy_row (P:=Tryz.prog) Tryz.underlying39 sz5 (dc:=rc-i) (dx:=none) (sc:=vc) (sx:=vx) g2 (by rw[o2 vb (Ne.symm hne)];exact hv) (dl:=m+2) (sl:=1) (o:=i*1) (so:=vo) (k:=1) (by omega) (by decide) (cs:=new) (by simpa using hnew) (by omega) hon (by simp only[List.length_append,tl,hMl];omega)
 have sr2:setRange (cs.take (i*1)++M++cs.drop (i*1)) (i*1) new=cs.take (i*1)++new++cs.drop (i*1):=by
  have:=setRange_mid (cs.take (i*1)) M (cs.drop (i*1)) new (by rw[hnl,hMl])
  rw[tl] at this
  exact this
 rw[sr2] at c2
 rw[kO _ _ (by simp)]
 refine⟨H2.set b (.cells (cs.take (i*1)++new++cs.drop (i*1)) (.own (some (5,0)))),?_,?_,?_⟩
 ·try simp only[Nat.mul_one] at s1
  try simp only[Nat.mul_one] at s2
  try simp only[Nat.mul_one] at s3
  try simp only[Nat.mul_one] at s4
  try simp only[Nat.mul_one] at app
  try simp only[Nat.mul_one] at hov
  try simp only[Nat.mul_one] at hH1
  try simp only[Nat.mul_one] at c1
  try simp only[Nat.mul_one] at hH2
  try simp only[Nat.mul_one] at c2
  simp only[bodyOf,Option.getD_some,go_sem,seval,Tryz.f261,s1,s2,s3,s4,a1,w1,a2,w3,hov,c1,hH2,c2,n1,n2,Nat.le_refl]
 ·exact n2
 ·intro b'
  by_cases q:b'=b
  ·rw[if_pos q,q,NHeap.get_set_same (by omega)]
  ·rw[if_neg q,NHeap.get_set_ne q,o2 b' q]
end ins261
noncomputable def insKnown261:CallF:=fun f l h=>if f=261 then(match l with
 |[.slice (some (b,0)) n c (some z),.int .i64 (.ofNat i),.slice (some (vb,vo)) 1 vc vx]=>(match h.get b,h.get vb with
  |some (.cells cs (.own (some (T,0)))),some (.cells vcs (.own _))=>
   if b≠vb∧z=1∧T=5∧cs.length=n*1∧i<n∧n<2^30∧((vcs.drop vo).take 1).length=1∧allOne cs=true∧allOne ((vcs.drop vo).take 1)=true then
    some (.slice (some (h.next,0)) (n+1) (n+1) (some 1),(h.set b .dead).alloc (.cells (cs.take (i*1)++(vcs.drop vo).take 1++cs.drop (i*1)) (.own (some (5,0)))))
   else none
  |_,_=>none)
 |_=>none) else none
theorem insKnown261_ok:CallOk Tryz.prog insKnown261:=by
 intro f l h v h' q
 unfold insKnown261 at q
 split at q
 ·rename_i hf
  subst hf
  split at q
  ·rename_i b n c z i vb vo vc vx
   split at q
   ·rename_i cs T vcs vq gb gv
    split at q
    ·rename_i hc
     obtain⟨hne,rfl,rfl,hl,hi,hn,hnl,ho,hon⟩:=hc
     cases q
     refine .inl ⟨((env_ok_at261).1).enters,?_⟩
     refine ins_sim gb hl (by omega) (by omega) ?_ ?_ ?_
     ·simp only[List.length_append,hnl,List.length_take,List.length_drop];omega
     ·intro rc r1 r2
      obtain⟨h1,e1,e2,e3⟩:=ins261.grow (vc:=vc) (vx:=vx) gb hl gv rfl hnl hne hi hn ho hon rc r1 r2
      exact⟨h1,K_sim (Checked.mixed Tryz.checked) rfl e1,e2,e3⟩
     ·intro rc r1
      obtain⟨h1,e1,e2,e3⟩:=ins261.room (vc:=vc) (vx:=vx) gb hl gv rfl hnl hne hi hn ho hon rc r1
      exact⟨h1,K_sim (Checked.mixed Tryz.checked) rfl e1,e2,e3⟩
    ·cases q
   ·cases q
  ·cases q
 ·cases q
theorem env_ok_at262:FnOk Tryz.prog 262 (bodyOf Tryz.f262) 95 [.tmp 6]∧codeStat drStatic (bodyOf Tryz.f262)=true:=envO.ok _ _ _ _ (by kernel_rfl)
namespace ins262
theorem kO (l:List NVal) (h:NHeap) (hl:l.length≤95):K envO 262 l h=outF Tryz.prog [.tmp 6] (C envO (bodyOf Tryz.f262) (toL 95 (argF l)) h):=K_bodyF rfl (by kernel_rfl) hl
theorem ov {h:NHeap} {va o b o' l c x n c' x' T q v vcs vq cs} (hv:h.get va=some (.cells (v::vcs) (.own vq))) (hb:h.get b=some (.cells cs (.own (some (T,q))))) (hne:¬va=b):
  K envO 281 [.slice (some (va,o)) l c x,.slice (some (b,o')) (n+1) c' x'] h=some (.bool false,h):=K_known (by simp[envO,Tb.env,orKnown,ovKnown,idxKnown,hv,hb,hne])
variable {h:NHeap} {b vb vo vc n i:Nat} {vx:Option Nat} {cs vcs new:List NVal} {vq:Option (TypeId×Nat)}
theorem grow (hb:h.get b=some (.cells cs (.own (some (3,0))))) (hl:cs.length=n*1) (hv:h.get vb=some (.cells vcs (.own vq))) (hnew:(vcs.drop vo).take 1=new) (hnl:new.length=1) (hne:b≠vb) (hi:i<n) (hn:n<2^30) (ho:allOne cs=true) (hon:allOne new=true) (rc:Nat) (h1:n≤rc) (h2:rc<n+1):
  ∃h1,K envO 262 [.slice (some (b,0)) n rc none,.int .i64 i,.slice (some (vb,vo)) 1 vc vx] h=some (.slice (some (h.next,0)) (n+1) (n+1) (some 1),h1)∧h1.next=h.next+1∧
   ∀b',h1.get b'=if b'=h.next then some (.cells (cs.take (i*1)++new++cs.drop (i*1)) (.own (some (3,0)))) else h.get b':=by
 have hrc:n=rc:=by omega
 subst hrc
 have bl:=NHeap.get_lt hb
 have vl:=NHeap.get_lt hv
 have voc:vo+1≤vcs.length:=by
  have:=congrArg List.length hnew
  simp only[List.length_take,List.length_drop,hnl] at this
  omega
 have a1:¬(i:Int)=(n:Int):=by omega
 have w1:IntKind.i64.wrap ((n:Int)+1)=((n+1:Nat):Int):=by rw[wrap_i64_small (by omega) (by omega)];omega
 have a2:(n:Int)<((n+1:Nat):Int):=by omega
 have w2:IntKind.i64.wrap (((n+1:Nat):Int)-(i:Int))=((n+1-i:Nat):Int):=by rw[wrap_i64_small (by omega) (by omega)];omega
 have w3:IntKind.i64.wrap ((i:Int)+1)=((i+1:Nat):Int):=by rw[wrap_i64_small (by omega) (by omega)];omega
 have s1:=nslice_from (P:=Tryz.prog) Tryz.underlying77 sz3 .i64 b 0 n n i (by omega) (Nat.le_refl _) hi
 have s2:=nslice_to (P:=Tryz.prog) Tryz.underlying77 sz3 .i64 b 0 n n i (by omega) (by omega)
 have s3:=nslice_fromX (P:=Tryz.prog) Tryz.underlying77 sz3 .i64 h.next 0 (n+1) (n+1) i (by omega)
 have s4:=nslice_fromX (P:=Tryz.prog) Tryz.underlying77 sz3 .i64 h.next 0 (n+1) (n+1) (i+1) (by omega)
 simp only[Nat.zero_add] at s1 s2 s3 s4
 obtain⟨z,zc,hz,hzc,zl,zo⟩:∃z zc,zeroOf Tryz.prog 3=some z∧z.cells=zc∧zc.length=1∧allOne zc=true:=⟨_,_,ze3,rfl,rfl,rfl⟩
 obtain⟨Z,hZ⟩:∃Z,repeatCells zc (n-i)=Z:=⟨_,rfl⟩
 have hZ1:repeatCells zc (n+1-i)=zc++Z:=by rw[show n+1-i=(n-i)+1 by omega,←hZ];rfl
 have hZl:Z.length=(n-i)*1:=by rw[←hZ,repeat_length,zl]
 have app:nappend Tryz.prog 77 3 (.slice (some (b,0)) i n none) (.int .i64 ((n+1-i:Nat):Int)) h=some (.slice (some (h.next,0)) (n+1) (n+1) (some 1),h.alloc (.cells (cs.take (i*1)++(zc++Z)) (.own (some (3,0))))):=by
  have hz2:allOne (zc++Z)=true:=by rw[←hZ1];exact allOne_repeat zo _
  unfold nappend appended
  rw[Tryz.underlying77]
  simp only[sz3,by3,hz,hzc,zl,zo,Tryz.underlying3]
  rw[if_pos (by decide),if_pos ⟨by omega,by omega,trivial⟩]
  simp only[Int.toNat_natCast,hZ1]
  have e1:i+(n+1-i)=n+1:=by omega
  rw[if_pos ⟨by rw[List.length_append,zl,hZl];omega,hz2,by omega,by omega⟩,if_neg (by omega),if_neg (by omega),srcCells_row hb (Nat.le_refl _) (by omega)]
  simp only[List.drop_zero,allOne_take ho,if_true,e1]
 obtain⟨H1,hH1⟩:∃H,h.alloc (.cells (cs.take (i*1)++(zc++Z)) (.own (some (3,0))))=H:=⟨_,rfl⟩
 have g1:H1.get h.next=some (.cells (cs.take (i*1)++(zc++Z)) (.own (some (3,0)))):=by rw[←hH1,NHeap.get_alloc,if_pos rfl]
 have o1:∀b',b'≠h.next→H1.get b'=h.get b':=fun b' q=>by rw[←hH1,NHeap.get_alloc,if_neg q]
 have tl:(cs.take (i*1)).length=i*1:=by simp;omega
 have c1:=ncopy_row (P:=Tryz.prog) Tryz.underlying77 sz3 (dc:=n+1-i) (dx:=some 1) (sc:=vc) (sx:=vx) g1 (by rw[o1 vb (by omega)];exact hv) (dl:=n+1-i) (sl:=1) (o:=i*1) (so:=vo) (k:=1) (by omega) (by decide) (cs:=new) (by simpa using hnew) (by omega) hon (by simp only[List.length_append,tl,zl,hZl];omega)
 have sr1:setRange (cs.take (i*1)++(zc++Z)) (i*1) new=cs.take (i*1)++new++Z:=by
  have:=setRange_mid (cs.take (i*1)) zc Z new (by rw[hnl,zl])
  rw[tl,List.append_assoc] at this
  exact this
 rw[sr1] at c1
 obtain⟨H2,hH2⟩:∃H,H1.set h.next (.cells (cs.take (i*1)++new++Z) (.own (some (3,0))))=H:=⟨_,rfl⟩
 have n1:H1.next=h.next+1:=by rw[←hH1];rfl
 have g2:H2.get h.next=some (.cells (cs.take (i*1)++new++Z) (.own (some (3,0)))):=by rw[←hH2,NHeap.get_set_same (by omega)]
 have o2:∀b',b'≠h.next→H2.get b'=h.get b':=fun b' q=>by rw[←hH2,NHeap.get_set_ne q,o1 b' q]
 have c2:=ncopy_row (P:=Tryz.prog) Tryz.underlying77 sz3 (dc:=n+1-(i+1)) (dx:=some 1) (sc:=n-i) (sx:=none) g2 (by rw[o2 b (by omega)];exact hb) (dl:=n+1-(i+1)) (sl:=n-i) (o:=(i+1)*1) (so:=i*1) (k:=n-i) (by omega) (by omega) (cs:=cs.drop (i*1)) (List.take_of_length_le (by simp;omega)) (by omega) (allOne_drop ho _) (by simp only[List.length_append,tl,hnl,hZl];omega)
 have sr2:setRange (cs.take (i*1)++new++Z) ((i+1)*1) (cs.drop (i*1))=cs.take (i*1)++new++cs.drop (i*1):=by
  have:=setRange_mid (cs.take (i*1)++new) Z [] (cs.drop (i*1)) (by rw[hZl];simp;omega)
  rw[List.length_append,tl,hnl,List.append_nil,List.append_nil,show i*1+1=(i+1)*1 by omega] at this
  exact this
 rw[sr2,show n+1-(i+1)=n-i by omega] at c2
 have n2:H2.next=h.next+1:=by rw[←hH2];exact n1
 rw[kO _ _ (by simp)]
 refine⟨H2.set h.next (.cells (cs.take (i*1)++new++cs.drop (i*1)) (.own (some (3,0)))),?_,?_,?_⟩
 ·try simp only[Nat.mul_one] at s1
  try simp only[Nat.mul_one] at s2
  try simp only[Nat.mul_one] at s3
  try simp only[Nat.mul_one] at s4
  try simp only[Nat.mul_one] at app
  try simp only[Nat.mul_one] at hov
  try simp only[Nat.mul_one] at hH1
  try simp only[Nat.mul_one] at c1
  try simp only[Nat.mul_one] at hH2
  try simp only[Nat.mul_one] at c2
  simp only[bodyOf,Option.getD_some,go_sem,seval,Tryz.f262,s1,s2,s3,s4,a1,w1,a2,w2,w3,app,hH1,c1,hH2,c2,n1,n2,Nat.le_refl]
 ·exact n2
 ·intro b'
  by_cases q:b'=h.next
  ·rw[if_pos q,q,NHeap.get_set_same (by omega)]
  ·rw[if_neg q,NHeap.get_set_ne q,o2 b' q]
theorem room (hb:h.get b=some (.cells cs (.own (some (3,0))))) (hl:cs.length=n*1) (hv:h.get vb=some (.cells vcs (.own vq))) (hnew:(vcs.drop vo).take 1=new) (hnl:new.length=1) (hne:b≠vb) (hi:i<n) (hn:n<2^30) (ho:allOne cs=true) (hon:allOne new=true) (rc:Nat) (h1:n+1≤rc):
  ∃h1,K envO 262 [.slice (some (b,0)) n rc none,.int .i64 i,.slice (some (vb,vo)) 1 vc vx] (h.set b (.cells (cs++List.replicate ((n+1-n)*1) .junk) (.own (some (3,0)))))=some (.slice (some (b,0)) (n+1) rc none,h1)∧h1.next=h.next∧
   ∀b',h1.get b'=if b'=b then some (.cells (cs.take (i*1)++new++cs.drop (i*1)) (.own (some (3,0)))) else h.get b':=by
 have bl:=NHeap.get_lt hb
 have vl:=NHeap.get_lt hv
 have voc:vo+1≤vcs.length:=by
  have:=congrArg List.length hnew
  simp only[List.length_take,List.length_drop,hnl] at this
  omega
 obtain⟨v0,vr,hvc⟩:∃v0 vr,vcs=v0::vr:=by
  cases vcs with
  |nil=>simp at voc
  |cons a l=>exact⟨a,l,rfl⟩
 obtain⟨J,hJ⟩:∃J,List.replicate ((n+1-n)*1) NVal.junk=J:=⟨_,rfl⟩
 have hJl:J.length=1:=by rw[←hJ,List.length_replicate];omega
 rw[hJ]
 obtain⟨H1,hH1⟩:∃H,h.set b (.cells (cs++J) (.own (some (3,0))))=H:=⟨_,rfl⟩
 have g1:H1.get b=some (.cells (cs++J) (.own (some (3,0)))):=by rw[←hH1,NHeap.get_set_same bl]
 have o1:∀b',b'≠b→H1.get b'=h.get b':=fun b' q=>by rw[←hH1,NHeap.get_set_ne q]
 have n1:H1.next=h.next:=by rw[←hH1];rfl
 rw[hH1]
 have gv1:H1.get vb=some (.cells (v0::vr) (.own vq)):=by rw[o1 vb (Ne.symm hne),hv,hvc]
 have a1:¬(i:Int)=(n:Int):=by omega
 have w1:IntKind.i64.wrap ((n:Int)+1)=((n+1:Nat):Int):=by rw[wrap_i64_small (by omega) (by omega)];omega
 have a2:¬(rc:Int)<((n+1:Nat):Int):=by omega
 have w3:IntKind.i64.wrap ((i:Int)+1)=((i+1:Nat):Int):=by rw[wrap_i64_small (by omega) (by omega)];omega
 have s1:=nslice_from (P:=Tryz.prog) Tryz.underlying77 sz3 .i64 b 0 n rc i (by omega) (by omega) (by omega)
 have s2:=nslice_to (P:=Tryz.prog) Tryz.underlying77 sz3 .i64 b 0 n rc (n+1) (by omega) (by omega)
 have s3:=nslice_from (P:=Tryz.prog) Tryz.underlying77 sz3 .i64 b 0 (n+1) rc i (by omega) (by omega) (by omega)
 have s4:=nslice_from (P:=Tryz.prog) Tryz.underlying77 sz3 .i64 b 0 (n+1) rc (i+1) (by omega) (by omega) (by omega)
 simp only[Nat.zero_add] at s1 s2 s3 s4
 obtain⟨m,hm⟩:∃m,n-i=m+1:=⟨n-i-1,by omega⟩
 have e1:n+1-(i+1)=m+1:=by omega
 have e2:n+1-i=m+2:=by omega
 rw[e1] at s4
 rw[e2] at s3
 have hov:=ov (o:=vo) (l:=1) (c:=vc) (x:=vx) (o':=(i+1)*1) (n:=m) (c':=rc-(i+1)) (x':=none) gv1 g1 (Ne.symm hne)
 have tl:(cs.take (i*1)).length=i*1:=by simp;omega
 have c1:=ncopy_row (P:=Tryz.prog) Tryz.underlying77 sz3 (dc:=rc-(i+1)) (dx:=none) (sc:=rc-i) (sx:=none) g1 g1 (dl:=m+1) (sl:=m+2) (o:=(i+1)*1) (so:=i*1) (k:=m+1) (by omega) (by omega) (cs:=cs.drop (i*1)) (by
  rw[List.drop_append,show i*1-cs.length=0 by omega,List.drop_zero,List.take_append_of_le_length (by simp;omega),List.take_of_length_le (by simp;omega)]) (by simp only[List.length_append,hJl];omega) (allOne_drop ho _) (by simp only[List.length_append,hJl];omega)
 obtain⟨M,hM⟩:∃M,((cs++J).drop (i*1)).take 1=M:=⟨_,rfl⟩
 have hMl:M.length=1:=by rw[←hM];simp;omega
 have sr1:setRange (cs++J) ((i+1)*1) (cs.drop (i*1))=cs.take (i*1)++M++cs.drop (i*1):=by
  have e:cs++J=(cs.take (i*1)++M)++(cs++J).drop ((i+1)*1)++[]:=by
   rw[←hM,List.append_nil]
   conv=>lhs;rw[←List.take_append_drop (i*1) (cs++J),←List.take_append_drop 1 ((cs++J).drop (i*1))]
   rw[List.take_append_of_le_length (by omega),List.drop_drop,←List.append_assoc,show i*1+1=(i+1)*1 by omega]
  have:=setRange_mid (cs.take (i*1)++M) ((cs++J).drop ((i+1)*1)) [] (cs.drop (i*1)) (by simp;omega)
  rw[←e,List.length_append,tl,hMl,List.append_nil,show i*1+1=(i+1)*1 by omega] at this
  exact this
 rw[sr1] at c1
 obtain⟨H2,hH2⟩:∃H,H1.set b (.cells (cs.take (i*1)++M++cs.drop (i*1)) (.own (some (3,0))))=H:=⟨_,rfl⟩
 have g2:H2.get b=some (.cells (cs.take (i*1)++M++cs.drop (i*1)) (.own (some (3,0)))):=by rw[←hH2,NHeap.get_set_same (by omega)]
 have o2:∀b',b'≠b→H2.get b'=h.get b':=fun b' q=>by rw[←hH2,NHeap.get_set_ne q,o1 b' q]
 have n2:H2.next=h.next:=by rw[←hH2];exact n1
 have c2:=ncopy_row (P:=Tryz.prog) Tryz.underlying77 sz3 (dc:=rc-i) (dx:=none) (sc:=vc) (sx:=vx) g2 (by rw[o2 vb (Ne.symm hne)];exact hv) (dl:=m+2) (sl:=1) (o:=i*1) (so:=vo) (k:=1) (by omega) (by decide) (cs:=new) (by simpa using hnew) (by omega) hon (by simp only[List.length_append,tl,hMl];omega)
 have sr2:setRange (cs.take (i*1)++M++cs.drop (i*1)) (i*1) new=cs.take (i*1)++new++cs.drop (i*1):=by
  have:=setRange_mid (cs.take (i*1)) M (cs.drop (i*1)) new (by rw[hnl,hMl])
  rw[tl] at this
  exact this
 rw[sr2] at c2
 rw[kO _ _ (by simp)]
 refine⟨H2.set b (.cells (cs.take (i*1)++new++cs.drop (i*1)) (.own (some (3,0)))),?_,?_,?_⟩
 ·try simp only[Nat.mul_one] at s1
  try simp only[Nat.mul_one] at s2
  try simp only[Nat.mul_one] at s3
  try simp only[Nat.mul_one] at s4
  try simp only[Nat.mul_one] at app
  try simp only[Nat.mul_one] at hov
  try simp only[Nat.mul_one] at hH1
  try simp only[Nat.mul_one] at c1
  try simp only[Nat.mul_one] at hH2
  try simp only[Nat.mul_one] at c2
  simp only[bodyOf,Option.getD_some,go_sem,seval,Tryz.f262,s1,s2,s3,s4,a1,w1,a2,w3,hov,c1,hH2,c2,n1,n2,Nat.le_refl]
 ·exact n2
 ·intro b'
  by_cases q:b'=b
  ·rw[if_pos q,q,NHeap.get_set_same (by omega)]
  ·rw[if_neg q,NHeap.get_set_ne q,o2 b' q]
end ins262
noncomputable def insKnown262:CallF:=fun f l h=>if f=262 then(match l with
 |[.slice (some (b,0)) n c (some z),.int .i64 (.ofNat i),.slice (some (vb,vo)) 1 vc vx]=>(match h.get b,h.get vb with
  |some (.cells cs (.own (some (T,0)))),some (.cells vcs (.own _))=>
   if b≠vb∧z=1∧T=3∧cs.length=n*1∧i<n∧n<2^30∧((vcs.drop vo).take 1).length=1∧allOne cs=true∧allOne ((vcs.drop vo).take 1)=true then
    some (.slice (some (h.next,0)) (n+1) (n+1) (some 1),(h.set b .dead).alloc (.cells (cs.take (i*1)++(vcs.drop vo).take 1++cs.drop (i*1)) (.own (some (3,0)))))
   else none
  |_,_=>none)
 |_=>none) else none
theorem insKnown262_ok:CallOk Tryz.prog insKnown262:=by
 intro f l h v h' q
 unfold insKnown262 at q
 split at q
 ·rename_i hf
  subst hf
  split at q
  ·rename_i b n c z i vb vo vc vx
   split at q
   ·rename_i cs T vcs vq gb gv
    split at q
    ·rename_i hc
     obtain⟨hne,rfl,rfl,hl,hi,hn,hnl,ho,hon⟩:=hc
     cases q
     refine .inl ⟨((env_ok_at262).1).enters,?_⟩
     refine ins_sim gb hl (by omega) (by omega) ?_ ?_ ?_
     ·simp only[List.length_append,hnl,List.length_take,List.length_drop];omega
     ·intro rc r1 r2
      obtain⟨h1,e1,e2,e3⟩:=ins262.grow (vc:=vc) (vx:=vx) gb hl gv rfl hnl hne hi hn ho hon rc r1 r2
      exact⟨h1,K_sim (Checked.mixed Tryz.checked) rfl e1,e2,e3⟩
     ·intro rc r1
      obtain⟨h1,e1,e2,e3⟩:=ins262.room (vc:=vc) (vx:=vx) gb hl gv rfl hnl hne hi hn ho hon rc r1
      exact⟨h1,K_sim (Checked.mixed Tryz.checked) rfl e1,e2,e3⟩
    ·cases q
   ·cases q
  ·cases q
 ·cases q
noncomputable def insAll:CallF:=(orKnown insKnown262 (orKnown insKnown261 (orKnown (ovKnown 281) (orKnown (ovKnown 279) (orKnown (idxKnown 189) (sameKnown 117))))))
theorem insAll_ok:CallOk Tryz.prog insAll:=(orKnown_ok insKnown262_ok (orKnown_ok insKnown261_ok (orKnown_ok ov_ok281 (orKnown_ok ov_ok279 (orKnown_ok idx_ok esc_ok)))))
end Go.Proofs.YtkjpldganajkkaaGreatDoor.S
namespace Go.Proofs.YtkjpldganajkkaaGreatDoor.NICE
open Go Go.RowKit
variable {P:Program} {E:Env P drStatic}
theorem do_clear (F:CallF) (ρ:Rho) (h:NHeap) (x:Operand) (t:TypeId):doK P F ρ (.call ⟨.builtin .clear,#[x],#[t]⟩) h=(match ρ x with|some x=>nclear P t x h|none=>none):=rfl
attribute [go_sem] do_clear nundef
theorem orKnown_left {F G:CallF} {f l h r} (e:F f l h=some r):orKnown F G f l h=some r:=by unfold orKnown;rw[e]
theorem orKnown_right {F G:CallF} {f l h r} (e:F f l h=none) (e':G f l h=some r):orKnown F G f l h=some r:=by unfold orKnown;rw[e];exact e'
def Sl (h:NHeap) (sz:Nat) (v:NVal) (n:Nat) (cs:List NVal):Prop:=
 cs.length=n*sz∧∃bo c x,v=.slice bo n c x∧n≤c∧(x=none∨x=some sz)∧(n=0∨∃b o all m,bo=some (b,o)∧h.get b=some (.cells all m)∧(all.drop o).take (n*sz)=cs)
theorem Sl.ext {h h':NHeap} {sz v n cs} (s:Sl h sz v n cs) (e:Ext h h'):Sl h' sz v n cs:=by
 obtain⟨h0,bo,c,x,h1,h2,h3,h4⟩:=s
 exact⟨h0,bo,c,x,h1,h2,h3,h4.imp id fun⟨b,o,all,m,a1,a2,a3⟩=>⟨b,o,all,m,a1,e.get a2,a3⟩⟩
theorem Sl.upd {fp:List Nat} {h h':NHeap} {sz v n cs} (s:Sl h sz v n cs) (u:Upd fp h h') (hd:∀b∈blk v,b∉fp):Sl h' sz v n cs:=by
 obtain⟨h0,bo,c,x,h1,h2,h3,h4⟩:=s
 exact⟨h0,bo,c,x,h1,h2,h3,h4.imp id fun⟨b,o,all,m,a1,a2,a3⟩=>⟨b,o,all,m,a1,u.get a2 (hd b (by rw[h1,a1];simp[blk])),a3⟩⟩
theorem Sl.nil (h:NHeap) (sz:Nat):Sl h sz (.slice none 0 0 none) 0 []:=⟨by simp,none,0,none,rfl,Nat.le_refl _,.inl rfl,.inl rfl⟩
theorem Sl.whole {h:NHeap} {b sz n c:Nat} {x all m} (hg:h.get b=some (.cells all m)) (hl:all.length=n*sz) (hc:n≤c) (hx:x=none∨x=some sz):Sl h sz (.slice (some (b,0)) n c x) n all:=
 ⟨hl,_,_,_,rfl,hc,hx,.inr ⟨b,0,all,m,rfl,hg,by rw[List.drop_zero,←hl,List.take_length]⟩⟩
theorem Sl.at {h:NHeap} {sz v n cs} (s:Sl h sz v n cs) (hn:0<n) (hz:0<sz:=by decide):∃b o c x all m,v=.slice (some (b,o)) n c x∧n≤c∧(x=none∨x=some sz)∧h.get b=some (.cells all m)∧(all.drop o).take (n*sz)=cs∧o+n*sz≤all.length:=by
 obtain⟨h0,bo,c,x,h1,h2,h3,h4⟩:=s
 rcases h4 with h4|⟨b,o,all,m,a1,a2,a3⟩
 ·omega
 ·subst a1
  refine⟨b,o,c,x,all,m,h1,h2,h3,a2,a3,?_⟩
  have:=congrArg List.length a3
  simp only[List.length_take,List.length_drop] at this
  have:0<n*sz:=Nat.mul_pos hn hz
  omega
theorem Sl.form {h:NHeap} {sz v n cs} (s:Sl h sz v n cs):∃bo c x,v=.slice bo n c x:=by
 obtain⟨h0,bo,c,x,h1,_⟩:=s
 exact⟨bo,c,x,h1⟩
theorem Sl.len {h:NHeap} {sz v n cs} (s:Sl h sz v n cs):cs.length=n*sz:=s.1
theorem seg_at {all cs:List NVal} {o n sz i:Nat} (h:(all.drop o).take (n*sz)=cs) (hi:i<n):(all.drop (o+i*sz)).take sz=(cs.drop (i*sz)).take sz:=by
 have hm:i*sz+sz≤n*sz:=by rw[←Nat.succ_mul];exact Nat.mul_le_mul_right _ hi
 subst h
 rw[List.drop_take,List.take_take,List.drop_drop]
 congr 1
 omega
theorem Sl.veq {h:NHeap} {sz v n cs} (s:Sl h sz v n cs):NICE.veq 50 v v=true:=by
 obtain⟨bo,c,x,rfl⟩:=s.form
 rw[veq_slice];simp
theorem Sl.take {h:NHeap} {sz n:Nat} {v cs} (s:Sl h sz v n cs) {t e:TypeId} (hu:P.underlying t=some (.slice e)) (hs:szOf P e=some sz) (k:IntKind) (i:Nat) (hi:i≤n) (hz:0<sz:=by decide):
  ∃v',nslice P t v none (some (.int k (i:Int)))=some v'∧Sl h sz v' i (cs.take (i*sz)):=by
 obtain⟨h0,bo,c,x,rfl,h2,h3,h4⟩:=s
 have hm:i*sz≤n*sz:=Nat.mul_le_mul_right _ hi
 have hl:(cs.take (i*sz)).length=i*sz:=by simp;omega
 have a5:∀b o all m,bo=some (b,o)∧h.get b=some (.cells all m)∧(all.drop o).take (n*sz)=cs→bo=some (b,o)∧h.get b=some (.cells all m)∧(all.drop o).take (i*sz)=cs.take (i*sz):=by
  rintro b o all m ⟨q1,q2,q3⟩
  exact⟨q1,q2,by rw[←q3,List.take_take,Nat.min_eq_left hm]⟩
 have h4':i=0∨∃b o all m,bo=some (b,o)∧h.get b=some (.cells all m)∧(all.drop o).take (i*sz)=cs.take (i*sz):=by
  rcases h4 with h4|⟨b,o,all,m,q⟩
  ·exact .inl (by omega)
  ·exact .inr ⟨b,o,all,m,a5 b o all m q⟩
 cases bo with
 |none=>
  have:i=0:=by
   rcases h4' with q|⟨b,o,all,m,q,_⟩
   ·exact q
   ·cases q
  subst this
  refine⟨.slice none 0 0 none,?_,hl,none,0,none,rfl,Nat.le_refl _,.inl rfl,.inl rfl⟩
  simp only[nslice,nbound,hu,hs,Int.toNat_natCast]
  rw[if_pos (by omega)]
 |some a=>
  obtain⟨b,o⟩:=a
  rcases h3 with rfl|rfl
  ·refine⟨.slice (some (b,o)) i c none,?_,hl,_,_,_,rfl,by omega,.inl rfl,h4'⟩
   simp only[nslice,nbound,hu,hs,Int.toNat_natCast]
   rw[if_pos (by omega)]
   simp only[Nat.zero_mul,Nat.add_zero,ite_self,Nat.sub_zero]
  ·by_cases hq:0<max c n
   ·refine⟨.slice (some (b,o)) i c (some sz),?_,hl,_,_,_,rfl,by omega,.inr rfl,h4'⟩
    simp only[nslice,nbound,hu,hs,Int.toNat_natCast]
    rw[if_pos (by omega)]
    simp only[if_true,hq,Nat.zero_mul,Nat.add_zero,Nat.sub_zero]
   ·have:i=0:=by omega
    subst this
    refine⟨.slice (some (b,o)) 0 0 (some sz),?_,hl,_,_,_,rfl,by omega,.inr rfl,.inl rfl⟩
    simp only[nslice,nbound,hu,hs,Int.toNat_natCast]
    rw[if_pos (by omega)]
    simp only[if_true,hq,if_false,Nat.zero_mul,Nat.add_zero,Nat.sub_zero]
theorem Sl.drop {h:NHeap} {sz n:Nat} {v cs} (s:Sl h sz v n cs) {t e:TypeId} (hu:P.underlying t=some (.slice e)) (hs:szOf P e=some sz) (k:IntKind) (i:Nat) (hi:i≤n) (hz:0<sz:=by decide):
  ∃v',nslice P t v (some (.int k (i:Int))) none=some v'∧Sl h sz v' (n-i) (cs.drop (i*sz)):=by
 obtain⟨h0,bo,c,x,rfl,h2,h3,h4⟩:=s
 have hl:(cs.drop (i*sz)).length=(n-i)*sz:=by simp;rw[h0,Nat.sub_mul]
 have h4':n-i=0∨∃b o all m,bo=some (b,o)∧h.get b=some (.cells all m)∧(all.drop (o+i*sz)).take ((n-i)*sz)=cs.drop (i*sz):=by
  rcases h4 with h4|⟨b,o,all,m,q1,q2,q3⟩
  ·exact .inl (by omega)
  ·refine .inr ⟨b,o,all,m,q1,q2,?_⟩
   rw[←q3,List.drop_take,List.drop_drop,Nat.sub_mul]
 cases bo with
 |none=>
  have:n-i=0:=by
   rcases h4' with q|⟨b,o,all,m,q,_⟩
   ·exact q
   ·cases q
  refine⟨.slice none 0 0 none,?_,hl,none,0,none,by rw[this],by omega,.inl rfl,.inl this⟩
  simp only[nslice,nbound,hu,hs,Int.toNat_natCast]
  rw[if_pos (by omega)]
 |some a=>
  obtain⟨b,o⟩:=a
  have go:∀o',(0<n-i→o'=o+i*sz)→(n-i=0∨∃b2 o2 all m,some (b,o')=some (b2,o2)∧h.get b2=some (.cells all m)∧(all.drop o2).take ((n-i)*sz)=cs.drop (i*sz)):=by
   intro o' ho
   rcases h4' with q|⟨b2,o2,all,m,q,q2,q3⟩
   ·exact .inl q
   ·by_cases h0:n-i=0
    ·exact .inl h0
    ·cases q
     exact .inr ⟨b,o+i*sz,all,m,by rw[ho (by omega)],q2,q3⟩
  rcases h3 with rfl|rfl
  ·refine⟨.slice (some (b,if c=i then o else o+i*sz)) (n-i) (c-i) none,?_,hl,_,_,_,rfl,by omega,.inl rfl,go _ ?_⟩
   ·simp only[nslice,nbound,hu,hs,Int.toNat_natCast]
    rw[if_pos (by omega)]
   ·intro h0
    rw[if_neg (by omega)]
  ·by_cases hq:i<max c n
   ·refine⟨.slice (some (b,o+i*sz)) (n-i) (c-i) (some sz),?_,hl,_,_,_,rfl,by omega,.inr rfl,go _ fun _=>rfl⟩
    simp only[nslice,nbound,hu,hs,Int.toNat_natCast]
    rw[if_pos (by omega)]
    simp only[if_true,hq]
   ·have h0':n-i=0:=by omega
    refine⟨.slice (some (b,o+i*sz)) 0 0 (some sz),?_,hl,_,_,_,by rw[h0'],by omega,.inr rfl,.inl h0'⟩
    simp only[nslice,nbound,hu,hs,Int.toNat_natCast]
    rw[if_pos (by omega)]
    simp only[if_true,hq,if_false]
theorem Sl.src {h:NHeap} {sz n:Nat} {v cs} (s:Sl h sz v n cs) (hz:0<sz:=by decide):nlenOf v=some n∧srcCells sz n h v=some cs:=by
 obtain⟨h0,bo,c,x,rfl,h2,h3,h4⟩:=s
 refine⟨rfl,?_⟩
 cases bo with
 |none=>
  rcases h4 with rfl|⟨b,o,all,m,q,_⟩
  ·have:cs=[]:=List.eq_nil_of_length_eq_zero (by omega)
   subst this
   simp[srcCells]
  ·cases q
 |some a=>
  obtain⟨b,o⟩:=a
  rcases h4 with rfl|⟨b,o,all,m,q,hg,h3⟩
  ·have:cs=[]:=List.eq_nil_of_length_eq_zero (by omega)
   subst this
   simp[srcCells]
  ·cases q
   by_cases h00:n=0
   ·subst h00
    have:cs=[]:=List.eq_nil_of_length_eq_zero (by omega)
    subst this
    simp[srcCells]
   ·rw[srcCells_row hg (Nat.le_refl _),h3]
    have:=congrArg List.length h3
    simp only[List.length_take,List.length_drop] at this
    have:0<n*sz:=Nat.mul_pos (by omega) hz
    omega
theorem nappend_new {st e sz by_:Nat} {z:NVal} (hu:P.underlying st=some (.slice e)) (hs:szOf P e=some sz) (hb:bytesOf P e=some by_) (hz:zeroOf P e=some z) (hzl:z.cells.length=sz) (h0:0<sz)
  {h:NHeap} {v:NVal} {cs:List NVal} {n:Nat} (s:Sl h sz v n cs) (ho:allOne cs=true) (h1:n≤1099511627776) (h2:n*by_≤1099511627776) (hn:0<n) (bo:Option (Nat×Nat)) (hbo:bo=none∨∃b o,bo=some (b,o)) (hzo:allOne z.cells=true:=by rfl):
  nappend P st st (.slice bo 0 0 none) v h=some (.slice (some (h.next,0)) n n (some sz),h.alloc (.cells cs (.own (some (e,0))))):=by
 obtain⟨s1,s2⟩:=s.src h0
 have hl:=s.len
 have happ:appended P e sz st v h=some (n,cs):=by
  unfold appended
  rw[hu]
  simp only[s1,s2]
 unfold nappend
 rw[hu]
 simp only[hs,hb,hz,happ,hzl,h0,hzo,hl,ho,true_and,if_true,Nat.zero_add]
 rw[if_pos ⟨h1,h2⟩]
 rcases hbo with rfl|⟨b,o,rfl⟩
 ·simp only
  rw[if_neg (by omega)]
 ·simp only
  rw[if_neg (by omega),if_neg (by omega)]
  simp[srcCells,allOne]
theorem nappend_none {st e sz by_:Nat} {z:NVal} (hu:P.underlying st=some (.slice e)) (hs:szOf P e=some sz) (hb:bytesOf P e=some by_) (hz:zeroOf P e=some z) (hzl:z.cells.length=sz) (h0:0<sz)
  {h:NHeap} {v:NVal} {cs:List NVal} (s:Sl h sz v 0 cs) (a:Nat×Nat) (l c:Nat) (x:Option Nat) (h1:l≤1099511627776) (h2:l*by_≤1099511627776) (hzo:allOne z.cells=true:=by rfl):
  nappend P st st (.slice (some a) l c x) v h=some (.slice (some a) l c x,h):=by
 obtain⟨s1,s2⟩:=s.src h0
 have hl:cs=[]:=List.eq_nil_of_length_eq_zero (by rw[s.len];omega)
 subst hl
 have happ:appended P e sz st v h=some (0,[]):=by
  unfold appended
  rw[hu]
  simp only[s1,s2]
 unfold nappend
 rw[hu]
 simp only[hs,hb,hz,happ,hzl,h0,hzo,true_and,if_true,Nat.add_zero,List.length_nil,Nat.zero_mul,allOne]
 rw[if_pos ⟨h1,h2⟩]
theorem nappend_none_nil {st e sz by_:Nat} {z:NVal} (hu:P.underlying st=some (.slice e)) (hs:szOf P e=some sz) (hb:bytesOf P e=some by_) (hz:zeroOf P e=some z) (hzl:z.cells.length=sz) (h0:0<sz)
  {h:NHeap} {v:NVal} {cs:List NVal} (s:Sl h sz v 0 cs) (hzo:allOne z.cells=true:=by rfl):
  nappend P st st (.slice none 0 0 none) v h=some (.slice none 0 0 none,h):=by
 obtain⟨s1,s2⟩:=s.src h0
 have hl:cs=[]:=List.eq_nil_of_length_eq_zero (by rw[s.len];omega)
 subst hl
 have happ:appended P e sz st v h=some (0,[]):=by
  unfold appended
  rw[hu]
  simp only[s1,s2]
 unfold nappend
 rw[hu]
 simp only[hs,hb,hz,happ,hzl,h0,hzo,true_and,if_true,Nat.add_zero,List.length_nil,Nat.zero_mul,allOne]
 rw[if_pos ⟨by omega,by omega⟩]
def rows {α:Type} (f:α→List NVal) (l:List α):List NVal:=l.flatMap f
section
variable {α:Type} {f:α→List NVal} {k:Nat}
theorem rows_nil:rows f []=[]:=rfl
theorem rows_cons (a:α) (l:List α):rows f (a::l)=f a++rows f l:=by simp[rows]
theorem rows_append (l m:List α):rows f (l++m)=rows f l++rows f m:=by simp[rows]
theorem rows_len (hf:∀a,(f a).length=k):∀l:List α,(rows f l).length=l.length*k
 |[]=>by simp[rows]
 |a::l=>by rw[rows_cons,List.length_append,hf,rows_len hf l,List.length_cons,Nat.succ_mul];omega
theorem rows_drop (hf:∀a,(f a).length=k):∀(l:List α) (i:Nat),(rows f l).drop (i*k)=rows f (l.drop i)
 |[],i=>by simp[rows]
 |a::l,0=>by simp
 |a::l,i+1=>by
  rw[rows_cons,List.drop_append,List.drop_of_length_le (by rw[hf,Nat.succ_mul];omega),hf,Nat.succ_mul,show i*k+k-k=i*k by omega,List.nil_append,List.drop_succ_cons]
  exact rows_drop hf l i
theorem rows_take (hf:∀a,(f a).length=k):∀(l:List α) (i:Nat),(rows f l).take (i*k)=rows f (l.take i)
 |[],i=>by simp[rows]
 |a::l,0=>by simp[rows]
 |a::l,i+1=>by
  rw[rows_cons,List.take_append,List.take_of_length_le (by rw[hf,Nat.succ_mul];omega),hf,Nat.succ_mul,show i*k+k-k=i*k by omega,List.take_succ_cons,rows_cons]
  rw[rows_take hf l i]
theorem rows_at (hf:∀a,(f a).length=k) (l:List α) (i:Nat) (a:α) (h:l[i]? =some a):((rows f l).drop (i*k)).take k=f a:=by
 rw[rows_drop hf]
 have hi:=(List.getElem?_eq_some_iff.1 h).1
 rw[List.drop_eq_getElem_cons hi,rows_cons,List.take_left' (hf _)]
 rw[List.getElem?_eq_getElem hi] at h
 cases h;rfl
theorem rows_one (hf:∀a,allOne (f a)=true):∀l:List α,allOne (rows f l)=true
 |[]=>rfl
 |a::l=>by rw[rows_cons,allOne_append,hf,rows_one hf l];rfl
theorem rows_set (hf:∀a,(f a).length=k) (l:List α) (i:Nat) (a:α) (hi:i<l.length):setRange (rows f l) (i*k) (f a)=rows f (l.set i a):=by
 unfold setRange
 rw[hf,show i*k+k=(i+1)*k by rw[Nat.succ_mul],rows_take hf,rows_drop hf,List.set_eq_take_append_cons_drop,if_pos hi,rows_append,rows_cons,List.append_assoc]
end
abbrev Rw {α:Type} (h:NHeap) (k:Nat) (f:α→List NVal) (v:NVal) (l:List α):Prop:=Sl h k v l.length (rows f l)
theorem rowcell {all r:List NVal} {p k j:Nat} {v:NVal} (h:(all.drop p).take k=r) (hj:r[j]? =some v):all[p+j]? =some v:=by
 subst h
 rw[List.getElem?_take] at hj
 split at hj
 ·rwa[List.getElem?_drop] at hj
 ·cases hj
theorem Sl.elem {α:Type} {f:α→List NVal} {k:Nat} (hf:∀a,(f a).length=k) {h:NHeap} {v:NVal} {l:List α} (s:Rw h k f v l) {i:Nat} {a:α} (hi:l[i]? =some a) (hk:0<k:=by decide):
  ∃b o c x all m,v=.slice (some (b,o)) l.length c x∧h.get b=some (.cells all m)∧(all.drop (o+i*k)).take k=f a∧o+i*k+k≤all.length:=by
 have hlt:=(List.getElem?_eq_some_iff.1 hi).1
 obtain⟨b,o,c,x,all,m,hv,hc,hx,g,hcs,hle⟩:=s.at (by omega) hk
 refine⟨b,o,c,x,all,m,hv,g,(seg_at hcs hlt).trans (rows_at hf l i a hi),?_⟩
 have:i*k+k≤l.length*k:=by rw[←Nat.succ_mul];exact Nat.mul_le_mul_right _ hlt
 omega
theorem grow_one {α:Type} {f:α→List NVal} {k:Nat} (hf:∀a,(f a).length=k) (h1:∀a,allOne (f a)=true) {st e by_:Nat} {z:NVal} (hu:P.underlying st=some (.slice e)) (hs:szOf P e=some k) (hb:bytesOf P e=some by_) (hz:zeroOf P e=some z) (hzl:z.cells.length=k) (h0:0<k)
  {h:NHeap} {v:NVal} {l:List α} (g:Grow h v k (rows f l) l.length) {nb:Nat} {a:α} {m:Own} (hn:h.get nb=some (.cells (f a) m)) (h2:l.length+1≤1099511627776) (h3:(l.length+1)*by_≤1099511627776) (hzo:allOne z.cells=true:=by rfl):
  ∃h',nappend P st st v (.slice (some (nb,0)) 1 1 none) h=some (.slice (some (h.next,0)) (l.length+1) (l.length+1) (some k),h')∧h'.next=h.next+1∧Grow h' (.slice (some (h.next,0)) (l.length+1) (l.length+1) (some k)) k (rows f (l++[a])) (l.length+1)∧Upd (blk v) h h':=by
 obtain⟨h',q,e1,e2,e3,e4⟩:=append_one hu hs hb hz hzl h0 g (nb:=nb) (o:=0) (c:=1) (y:=none) hn (by rw[List.drop_zero,List.take_of_length_le (by rw[hf];exact Nat.le_refl _)]) (hf a) (h1 a) (rows_one h1 l) h2 h3 hzo
 refine⟨h',e1,e2,.inr ⟨h.next,some k,q,rfl,.inr rfl,?_,?_,by omega⟩,e4⟩
 ·rw[e3,rows_append,rows_cons,rows_nil,List.append_nil]
 ·rw[rows_len hf,List.length_append,List.length_singleton]
theorem Grow.sl {h:NHeap} {v:NVal} {sz:Nat} {cs:List NVal} {n:Nat} (g:Grow h v sz cs n):Sl h sz v n cs:=by
 rcases g with⟨rfl,rfl,rfl⟩|⟨b,x,q,rfl,hx,hg,hl,hpos⟩
 ·exact Sl.nil _ _
 ·exact Sl.whole hg hl (Nat.le_refl _) hx
def Keep (l:List Nat) (F F':Fr):Prop:=∀k,l.contains k=true→F' k=F k
theorem Keep.refl (l:List Nat) (F:Fr):Keep l F F:=fun _ _=>rfl
theorem Keep.upd {l:List Nat} {F F':Fr} (h:Keep l F F') {d:Nat} {v:NVal} (hd:l.contains d=false):Keep l F (upd F' d v):=fun k hk=>by
 rw[upd_at]
 have:(k==d)=false:=beq_false_of_ne fun q=>by subst q;rw[hk] at hd;cases hd
 rw[this,cond_false]
 exact h k hk
theorem Keep.sub {l m:List Nat} {F F':Fr} (h:Keep m F F') (hs:l.all (fun k=>m.contains k)=true):Keep l F F':=fun k hk=>h k (by
 rw[List.all_eq_true] at hs
 exact hs k (by simpa using hk))
theorem Keep.trans {l:List Nat} {F F' F'':Fr} (h:Keep l F F') (g:Keep l F' F''):Keep l F F'':=fun k hk=>(g k hk).trans (h k hk)
theorem Sl.upd' {fp:List Nat} {h h':NHeap} {sz v n cs} (s:Sl h sz v n cs) (u:Upd fp h h') (hd:n=0∨∀b∈blk v,b∉fp):Sl h' sz v n cs:=by
 rcases hd with rfl|hd
 ·obtain⟨h0,bo,c,x,h1,h2,h3,_⟩:=s
  exact⟨h0,bo,c,x,h1,h2,h3,.inl rfl⟩
 ·exact s.upd u hd
end Go.Proofs.YtkjpldganajkkaaGreatDoor.NICE
namespace Go.Proofs.YtkjpldganajkkaaGreatDoor.checkRuns
open Go.Proofs.YtkjpldganajkkaaGreatDoor.NICE
theorem says:saysTrue (tF Tryz.prog env 100000 (300+1) 10 [] NHeap.empty)=true:=by kernel_rfl
end Go.Proofs.YtkjpldganajkkaaGreatDoor.checkRuns
namespace Go.Proofs.YtkjpldganajkkaaGreatDoor.S
open Go Go.RowKit Go.Proofs.YtkjpldganajkkaaGreatDoor.NICE
theorem known_at10:(Go.Proofs.YtkjpldganajkkaaGreatDoor.env).known 10 [] NHeap.empty=none:=by kernel_rfl
theorem known_ex10:∃c,CallOk Tryz.prog (trueKnown 10 c):=trueKnown_ok (Checked.mixed Tryz.checked) Go.Proofs.YtkjpldganajkkaaGreatDoor.env known_at10 Go.Proofs.YtkjpldganajkkaaGreatDoor.checkRuns.says
noncomputable def runsN10:Nat:=Classical.choose known_ex10
theorem runsN10_ok:CallOk Tryz.prog (trueKnown 10 runsN10):=Classical.choose_spec known_ex10
noncomputable def env:Env Tryz.prog drStatic:=tab.env tab_ok (orKnown (trueKnown 10 runsN10) insAll) (orKnown_ok runsN10_ok insAll_ok)
theorem runs_ok10 (h:NHeap):∃h',K env 10 [] h=some (.bool true,h')∧Ext h h':=
 ⟨layAll h.next (List.replicate runsN10 .dead) h,K_known (by simp[env,Tb.env,orKnown,trueKnown]),layAll_ext _ _ _⟩
theorem idxEnv {l h r} (e:idxKnown 189 189 l h=some r):env.known 189 l h=some r:=(orKnown_right (F:=trueKnown 10 runsN10) (by unfold trueKnown;rw[if_neg (by decide)]) (orKnown_right (F:=insKnown262) (by unfold insKnown262;rw[if_neg (by decide)]) (orKnown_right (F:=insKnown261) (by unfold insKnown261;rw[if_neg (by decide)]) (orKnown_right (F:=ovKnown 281) (by unfold ovKnown;rw[if_neg (by decide)]) (orKnown_right (F:=ovKnown 279) (by unfold ovKnown;rw[if_neg (by decide)]) (orKnown_left (F:=idxKnown 189) e))))))
theorem k2 (l:List NVal) (h:NHeap) (hl:l.length≤1):K env 2 l h=outF Tryz.prog [] (C env (bodyOf Tryz.f2) (toL 1 (argF l)) h):=K_bodyF rfl (by kernel_rfl) hl
theorem k3 (l:List NVal) (h:NHeap) (hl:l.length≤53):K env 3 l h=outF Tryz.prog [.tmp 4] (C env (bodyOf Tryz.f3) (toL 53 (argF l)) h):=K_bodyF rfl (by kernel_rfl) hl
theorem k4 (l:List NVal) (h:NHeap) (hl:l.length≤81):K env 4 l h=outF Tryz.prog [.tmp 6] (C env (bodyOf Tryz.f4) (toL 81 (argF l)) h):=K_bodyF rfl (by kernel_rfl) hl
theorem k5 (l:List NVal) (h:NHeap) (hl:l.length≤47):K env 5 l h=outF Tryz.prog [.cell 2 24] (C env (bodyOf Tryz.f5) (toL 47 (argF l)) h):=K_bodyF rfl (by kernel_rfl) hl
theorem k6 (l:List NVal) (h:NHeap) (hl:l.length≤53):K env 6 l h=outF Tryz.prog [.tmp 4,.tmp 5] (C env (bodyOf Tryz.f6) (toL 53 (argF l)) h):=K_bodyF rfl (by kernel_rfl) hl
theorem k7 (l:List NVal) (h:NHeap) (hl:l.length≤64):K env 7 l h=outF Tryz.prog [.tmp 8] (C env (bodyOf Tryz.f7) (toL 64 (argF l)) h):=K_bodyF rfl (by kernel_rfl) hl
theorem k8 (l:List NVal) (h:NHeap) (hl:l.length≤24):K env 8 l h=outF Tryz.prog [.cell 2 34] (C env (bodyOf Tryz.f8) (toL 24 (argF l)) h):=K_bodyF rfl (by kernel_rfl) hl
theorem k9 (l:List NVal) (h:NHeap) (hl:l.length≤16):K env 9 l h=outF Tryz.prog [.tmp 2] (C env (bodyOf Tryz.f9) (toL 16 (argF l)) h):=K_bodyF rfl (by kernel_rfl) hl
theorem k11 (l:List NVal) (h:NHeap) (hl:l.length≤54):K env 11 l h=outF Tryz.prog [.tmp 4,.tmp 5] (C env (bodyOf Tryz.f11) (toL 54 (argF l)) h):=K_bodyF rfl (by kernel_rfl) hl
theorem k12 (l:List NVal) (h:NHeap) (hl:l.length≤31):K env 12 l h=outF Tryz.prog [.tmp 0] (C env (bodyOf Tryz.f12) (toL 31 (argF l)) h):=K_bodyF rfl (by kernel_rfl) hl
theorem k13 (l:List NVal) (h:NHeap) (hl:l.length≤24):K env 13 l h=outF Tryz.prog [.tmp 6] (C env (bodyOf Tryz.f13) (toL 24 (argF l)) h):=K_bodyF rfl (by kernel_rfl) hl
theorem k14 (l:List NVal) (h:NHeap) (hl:l.length≤52):K env 14 l h=outF Tryz.prog [.tmp 2,.tmp 3] (C env (bodyOf Tryz.f14) (toL 52 (argF l)) h):=K_bodyF rfl (by kernel_rfl) hl
theorem k15 (l:List NVal) (h:NHeap) (hl:l.length≤9):K env 15 l h=outF Tryz.prog [.tmp 4] (C env (bodyOf Tryz.f15) (toL 9 (argF l)) h):=K_bodyF rfl (by kernel_rfl) hl
theorem k16 (l:List NVal) (h:NHeap) (hl:l.length≤9):K env 16 l h=outF Tryz.prog [.tmp 3] (C env (bodyOf Tryz.f16) (toL 9 (argF l)) h):=K_bodyF rfl (by kernel_rfl) hl
theorem k17 (l:List NVal) (h:NHeap) (hl:l.length≤15):K env 17 l h=outF Tryz.prog [.tmp 4] (C env (bodyOf Tryz.f17) (toL 15 (argF l)) h):=K_bodyF rfl (by kernel_rfl) hl
theorem k18 (l:List NVal) (h:NHeap) (hl:l.length≤8):K env 18 l h=outF Tryz.prog [.tmp 2] (C env (bodyOf Tryz.f18) (toL 8 (argF l)) h):=K_bodyF rfl (by kernel_rfl) hl
theorem k19 (l:List NVal) (h:NHeap) (hl:l.length≤69):K env 19 l h=outF Tryz.prog [.tmp 4] (C env (bodyOf Tryz.f19) (toL 69 (argF l)) h):=K_bodyF rfl (by kernel_rfl) hl
theorem k20 (l:List NVal) (h:NHeap) (hl:l.length≤7):K env 20 l h=outF Tryz.prog [.tmp 2] (C env (bodyOf Tryz.f20) (toL 7 (argF l)) h):=K_bodyF rfl (by kernel_rfl) hl
theorem k21 (l:List NVal) (h:NHeap) (hl:l.length≤61):K env 21 l h=outF Tryz.prog [.tmp 8] (C env (bodyOf Tryz.f21) (toL 61 (argF l)) h):=K_bodyF rfl (by kernel_rfl) hl
theorem k22 (l:List NVal) (h:NHeap) (hl:l.length≤7):K env 22 l h=outF Tryz.prog [.tmp 2] (C env (bodyOf Tryz.f22) (toL 7 (argF l)) h):=K_bodyF rfl (by kernel_rfl) hl
theorem k23 (l:List NVal) (h:NHeap) (hl:l.length≤8):K env 23 l h=outF Tryz.prog [.tmp 2] (C env (bodyOf Tryz.f23) (toL 8 (argF l)) h):=K_bodyF rfl (by kernel_rfl) hl
theorem k25 (l:List NVal) (h:NHeap) (hl:l.length≤26):K env 25 l h=outF Tryz.prog [.tmp 4] (C env (bodyOf Tryz.f25) (toL 26 (argF l)) h):=K_bodyF rfl (by kernel_rfl) hl
theorem k26 (l:List NVal) (h:NHeap) (hl:l.length≤90):K env 26 l h=outF Tryz.prog [.tmp 2,.tmp 3] (C env (bodyOf Tryz.f26) (toL 90 (argF l)) h):=K_bodyF rfl (by kernel_rfl) hl
theorem k27 (l:List NVal) (h:NHeap) (hl:l.length≤21):K env 27 l h=outF Tryz.prog [.tmp 4] (C env (bodyOf Tryz.f27) (toL 21 (argF l)) h):=K_bodyF rfl (by kernel_rfl) hl
theorem k28 (l:List NVal) (h:NHeap) (hl:l.length≤20):K env 28 l h=outF Tryz.prog [.tmp 4] (C env (bodyOf Tryz.f28) (toL 20 (argF l)) h):=K_bodyF rfl (by kernel_rfl) hl
theorem k31 (l:List NVal) (h:NHeap) (hl:l.length≤19):K env 31 l h=outF Tryz.prog [.tmp 4,.tmp 5] (C env (bodyOf Tryz.f31) (toL 19 (argF l)) h):=K_bodyF rfl (by kernel_rfl) hl
theorem k33 (l:List NVal) (h:NHeap) (hl:l.length≤14):K env 33 l h=outF Tryz.prog [.tmp 2] (C env (bodyOf Tryz.f33) (toL 14 (argF l)) h):=K_bodyF rfl (by kernel_rfl) hl
theorem k35 (l:List NVal) (h:NHeap) (hl:l.length≤72):K env 35 l h=outF Tryz.prog [.tmp 2,.tmp 3] (C env (bodyOf Tryz.f35) (toL 72 (argF l)) h):=K_bodyF rfl (by kernel_rfl) hl
theorem k36 (l:List NVal) (h:NHeap) (hl:l.length≤39):K env 36 l h=outF Tryz.prog [.tmp 4,.tmp 5] (C env (bodyOf Tryz.f36) (toL 39 (argF l)) h):=K_bodyF rfl (by kernel_rfl) hl
theorem k37 (l:List NVal) (h:NHeap) (hl:l.length≤56):K env 37 l h=outF Tryz.prog [.tmp 6,.tmp 7] (C env (bodyOf Tryz.f37) (toL 56 (argF l)) h):=K_bodyF rfl (by kernel_rfl) hl
theorem k38 (l:List NVal) (h:NHeap) (hl:l.length≤96):K env 38 l h=outF Tryz.prog [.tmp 2] (C env (bodyOf Tryz.f38) (toL 96 (argF l)) h):=K_bodyF rfl (by kernel_rfl) hl
theorem k39 (l:List NVal) (h:NHeap) (hl:l.length≤19):K env 39 l h=outF Tryz.prog [.tmp 4] (C env (bodyOf Tryz.f39) (toL 19 (argF l)) h):=K_bodyF rfl (by kernel_rfl) hl
theorem k40 (l:List NVal) (h:NHeap) (hl:l.length≤115):K env 40 l h=outF Tryz.prog [.cell 8 63,.tmp 9] (C env (bodyOf Tryz.f40) (toL 115 (argF l)) h):=K_bodyF rfl (by kernel_rfl) hl
theorem k41 (l:List NVal) (h:NHeap) (hl:l.length≤33):K env 41 l h=outF Tryz.prog [.tmp 2] (C env (bodyOf Tryz.f41) (toL 33 (argF l)) h):=K_bodyF rfl (by kernel_rfl) hl
theorem k42 (l:List NVal) (h:NHeap) (hl:l.length≤111):K env 42 l h=outF Tryz.prog [.cell 6 117] (C env (bodyOf Tryz.f42) (toL 111 (argF l)) h):=K_bodyF rfl (by kernel_rfl) hl
theorem k43 (l:List NVal) (h:NHeap) (hl:l.length≤27):K env 43 l h=outF Tryz.prog [.tmp 2,.tmp 3,.tmp 4,.tmp 5] (C env (bodyOf Tryz.f43) (toL 27 (argF l)) h):=K_bodyF rfl (by kernel_rfl) hl
theorem k45 (l:List NVal) (h:NHeap) (hl:l.length≤84):K env 45 l h=outF Tryz.prog [.tmp 8] (C env (bodyOf Tryz.f45) (toL 84 (argF l)) h):=K_bodyF rfl (by kernel_rfl) hl
theorem k46 (l:List NVal) (h:NHeap) (hl:l.length≤20):K env 46 l h=outF Tryz.prog [.tmp 2] (C env (bodyOf Tryz.f46) (toL 20 (argF l)) h):=K_bodyF rfl (by kernel_rfl) hl
theorem k48 (l:List NVal) (h:NHeap) (hl:l.length≤119):K env 48 l h=outF Tryz.prog [.tmp 4] (C env (bodyOf Tryz.f48) (toL 119 (argF l)) h):=K_bodyF rfl (by kernel_rfl) hl
theorem k56 (l:List NVal) (h:NHeap) (hl:l.length≤20):K env 56 l h=outF Tryz.prog [] (C env (bodyOf Tryz.f56) (toL 20 (argF l)) h):=K_bodyF rfl (by kernel_rfl) hl
theorem k57 (l:List NVal) (h:NHeap) (hl:l.length≤5):K env 57 l h=outF Tryz.prog [.tmp 2] (C env (bodyOf Tryz.f57) (toL 5 (argF l)) h):=K_bodyF rfl (by kernel_rfl) hl
theorem k60 (l:List NVal) (h:NHeap) (hl:l.length≤14):K env 60 l h=outF Tryz.prog [.tmp 2,.tmp 3] (C env (bodyOf Tryz.f60) (toL 14 (argF l)) h):=K_bodyF rfl (by kernel_rfl) hl
theorem k61 (l:List NVal) (h:NHeap) (hl:l.length≤33):K env 61 l h=outF Tryz.prog [.tmp 4] (C env (bodyOf Tryz.f61) (toL 33 (argF l)) h):=K_bodyF rfl (by kernel_rfl) hl
theorem k62 (l:List NVal) (h:NHeap) (hl:l.length≤7):K env 62 l h=outF Tryz.prog [.tmp 2] (C env (bodyOf Tryz.f62) (toL 7 (argF l)) h):=K_bodyF rfl (by kernel_rfl) hl
theorem k63 (l:List NVal) (h:NHeap) (hl:l.length≤14):K env 63 l h=outF Tryz.prog [.tmp 2] (C env (bodyOf Tryz.f63) (toL 14 (argF l)) h):=K_bodyF rfl (by kernel_rfl) hl
theorem k64 (l:List NVal) (h:NHeap) (hl:l.length≤27):K env 64 l h=outF Tryz.prog [.tmp 2,.tmp 3] (C env (bodyOf Tryz.f64) (toL 27 (argF l)) h):=K_bodyF rfl (by kernel_rfl) hl
theorem k65 (l:List NVal) (h:NHeap) (hl:l.length≤19):K env 65 l h=outF Tryz.prog [] (C env (bodyOf Tryz.f65) (toL 19 (argF l)) h):=K_bodyF rfl (by kernel_rfl) hl
theorem k66 (l:List NVal) (h:NHeap) (hl:l.length≤30):K env 66 l h=outF Tryz.prog [.tmp 6] (C env (bodyOf Tryz.f66) (toL 30 (argF l)) h):=K_bodyF rfl (by kernel_rfl) hl
theorem k67 (l:List NVal) (h:NHeap) (hl:l.length≤74):K env 67 l h=outF Tryz.prog [.tmp 2] (C env (bodyOf Tryz.f67) (toL 74 (argF l)) h):=K_bodyF rfl (by kernel_rfl) hl
theorem k68 (l:List NVal) (h:NHeap) (hl:l.length≤32):K env 68 l h=outF Tryz.prog [.tmp 2] (C env (bodyOf Tryz.f68) (toL 32 (argF l)) h):=K_bodyF rfl (by kernel_rfl) hl
theorem k69 (l:List NVal) (h:NHeap) (hl:l.length≤30):K env 69 l h=outF Tryz.prog [.tmp 2] (C env (bodyOf Tryz.f69) (toL 30 (argF l)) h):=K_bodyF rfl (by kernel_rfl) hl
theorem k70 (l:List NVal) (h:NHeap) (hl:l.length≤36):K env 70 l h=outF Tryz.prog [.tmp 4,.tmp 5] (C env (bodyOf Tryz.f70) (toL 36 (argF l)) h):=K_bodyF rfl (by kernel_rfl) hl
theorem k75 (l:List NVal) (h:NHeap) (hl:l.length≤45):K env 75 l h=outF Tryz.prog [.tmp 4,.tmp 5] (C env (bodyOf Tryz.f75) (toL 45 (argF l)) h):=K_bodyF rfl (by kernel_rfl) hl
theorem k80 (l:List NVal) (h:NHeap) (hl:l.length≤50):K env 80 l h=outF Tryz.prog [.tmp 6,.tmp 7] (C env (bodyOf Tryz.f80) (toL 50 (argF l)) h):=K_bodyF rfl (by kernel_rfl) hl
theorem k85 (l:List NVal) (h:NHeap) (hl:l.length≤43):K env 85 l h=outF Tryz.prog [.tmp 6,.tmp 7] (C env (bodyOf Tryz.f85) (toL 43 (argF l)) h):=K_bodyF rfl (by kernel_rfl) hl
theorem k90 (l:List NVal) (h:NHeap) (hl:l.length≤25):K env 90 l h=outF Tryz.prog [.tmp 4,.tmp 5] (C env (bodyOf Tryz.f90) (toL 25 (argF l)) h):=K_bodyF rfl (by kernel_rfl) hl
theorem k95 (l:List NVal) (h:NHeap) (hl:l.length≤87):K env 95 l h=outF Tryz.prog [.cell 4 117] (C env (bodyOf Tryz.f95) (toL 87 (argF l)) h):=K_bodyF rfl (by kernel_rfl) hl
theorem k96 (l:List NVal) (h:NHeap) (hl:l.length≤53):K env 96 l h=outF Tryz.prog [.tmp 6] (C env (bodyOf Tryz.f96) (toL 53 (argF l)) h):=K_bodyF rfl (by kernel_rfl) hl
theorem k97 (l:List NVal) (h:NHeap) (hl:l.length≤7):K env 97 l h=outF Tryz.prog [.tmp 2] (C env (bodyOf Tryz.f97) (toL 7 (argF l)) h):=K_bodyF rfl (by kernel_rfl) hl
theorem k98 (l:List NVal) (h:NHeap) (hl:l.length≤29):K env 98 l h=outF Tryz.prog [.tmp 6] (C env (bodyOf Tryz.f98) (toL 29 (argF l)) h):=K_bodyF rfl (by kernel_rfl) hl
theorem k99 (l:List NVal) (h:NHeap) (hl:l.length≤14):K env 99 l h=outF Tryz.prog [.tmp 4] (C env (bodyOf Tryz.f99) (toL 14 (argF l)) h):=K_bodyF rfl (by kernel_rfl) hl
theorem k100 (l:List NVal) (h:NHeap) (hl:l.length≤15):K env 100 l h=outF Tryz.prog [.tmp 4] (C env (bodyOf Tryz.f100) (toL 15 (argF l)) h):=K_bodyF rfl (by kernel_rfl) hl
theorem k101 (l:List NVal) (h:NHeap) (hl:l.length≤25):K env 101 l h=outF Tryz.prog [.tmp 4] (C env (bodyOf Tryz.f101) (toL 25 (argF l)) h):=K_bodyF rfl (by kernel_rfl) hl
theorem k102 (l:List NVal) (h:NHeap) (hl:l.length≤32):K env 102 l h=outF Tryz.prog [.cell 4 117] (C env (bodyOf Tryz.f102) (toL 32 (argF l)) h):=K_bodyF rfl (by kernel_rfl) hl
theorem k103 (l:List NVal) (h:NHeap) (hl:l.length≤46):K env 103 l h=outF Tryz.prog [.cell 6 117] (C env (bodyOf Tryz.f103) (toL 46 (argF l)) h):=K_bodyF rfl (by kernel_rfl) hl
theorem k107 (l:List NVal) (h:NHeap) (hl:l.length≤9):K env 107 l h=outF Tryz.prog [.tmp 2] (C env (bodyOf Tryz.f107) (toL 9 (argF l)) h):=K_bodyF rfl (by kernel_rfl) hl
theorem k108 (l:List NVal) (h:NHeap) (hl:l.length≤108):K env 108 l h=outF Tryz.prog [.cell 2 110,.tmp 3] (C env (bodyOf Tryz.f108) (toL 108 (argF l)) h):=K_bodyF rfl (by kernel_rfl) hl
theorem k109 (l:List NVal) (h:NHeap) (hl:l.length≤6):K env 109 l h=outF Tryz.prog [.tmp 2] (C env (bodyOf Tryz.f109) (toL 6 (argF l)) h):=K_bodyF rfl (by kernel_rfl) hl
theorem k111 (l:List NVal) (h:NHeap) (hl:l.length≤18):K env 111 l h=outF Tryz.prog [.tmp 4] (C env (bodyOf Tryz.f111) (toL 18 (argF l)) h):=K_bodyF rfl (by kernel_rfl) hl
theorem k118 (l:List NVal) (h:NHeap) (hl:l.length≤5):K env 118 l h=outF Tryz.prog [.tmp 2] (C env (bodyOf Tryz.f118) (toL 5 (argF l)) h):=K_bodyF rfl (by kernel_rfl) hl
theorem k119 (l:List NVal) (h:NHeap) (hl:l.length≤17):K env 119 l h=outF Tryz.prog [.tmp 4] (C env (bodyOf Tryz.f119) (toL 17 (argF l)) h):=K_bodyF rfl (by kernel_rfl) hl
theorem k120 (l:List NVal) (h:NHeap) (hl:l.length≤12):K env 120 l h=outF Tryz.prog [] (C env (bodyOf Tryz.f120) (toL 12 (argF l)) h):=K_bodyF rfl (by kernel_rfl) hl
theorem k121 (l:List NVal) (h:NHeap) (hl:l.length≤48):K env 121 l h=outF Tryz.prog [.tmp 4] (C env (bodyOf Tryz.f121) (toL 48 (argF l)) h):=K_bodyF rfl (by kernel_rfl) hl
theorem k122 (l:List NVal) (h:NHeap) (hl:l.length≤15):K env 122 l h=outF Tryz.prog [.tmp 2] (C env (bodyOf Tryz.f122) (toL 15 (argF l)) h):=K_bodyF rfl (by kernel_rfl) hl
theorem k123 (l:List NVal) (h:NHeap) (hl:l.length≤12):K env 123 l h=outF Tryz.prog [.tmp 2] (C env (bodyOf Tryz.f123) (toL 12 (argF l)) h):=K_bodyF rfl (by kernel_rfl) hl
theorem k124 (l:List NVal) (h:NHeap) (hl:l.length≤6):K env 124 l h=outF Tryz.prog [.tmp 2] (C env (bodyOf Tryz.f124) (toL 6 (argF l)) h):=K_bodyF rfl (by kernel_rfl) hl
theorem k125 (l:List NVal) (h:NHeap) (hl:l.length≤15):K env 125 l h=outF Tryz.prog [.tmp 2] (C env (bodyOf Tryz.f125) (toL 15 (argF l)) h):=K_bodyF rfl (by kernel_rfl) hl
theorem k126 (l:List NVal) (h:NHeap) (hl:l.length≤9):K env 126 l h=outF Tryz.prog [.tmp 2] (C env (bodyOf Tryz.f126) (toL 9 (argF l)) h):=K_bodyF rfl (by kernel_rfl) hl
theorem k127 (l:List NVal) (h:NHeap) (hl:l.length≤15):K env 127 l h=outF Tryz.prog [.tmp 2] (C env (bodyOf Tryz.f127) (toL 15 (argF l)) h):=K_bodyF rfl (by kernel_rfl) hl
theorem k128 (l:List NVal) (h:NHeap) (hl:l.length≤8):K env 128 l h=outF Tryz.prog [.tmp 2] (C env (bodyOf Tryz.f128) (toL 8 (argF l)) h):=K_bodyF rfl (by kernel_rfl) hl
theorem k129 (l:List NVal) (h:NHeap) (hl:l.length≤14):K env 129 l h=outF Tryz.prog [] (C env (bodyOf Tryz.f129) (toL 14 (argF l)) h):=K_bodyF rfl (by kernel_rfl) hl
theorem k131 (l:List NVal) (h:NHeap) (hl:l.length≤14):K env 131 l h=outF Tryz.prog [] (C env (bodyOf Tryz.f131) (toL 14 (argF l)) h):=K_bodyF rfl (by kernel_rfl) hl
theorem k133 (l:List NVal) (h:NHeap) (hl:l.length≤14):K env 133 l h=outF Tryz.prog [] (C env (bodyOf Tryz.f133) (toL 14 (argF l)) h):=K_bodyF rfl (by kernel_rfl) hl
theorem k135 (l:List NVal) (h:NHeap) (hl:l.length≤8):K env 135 l h=outF Tryz.prog [.tmp 2] (C env (bodyOf Tryz.f135) (toL 8 (argF l)) h):=K_bodyF rfl (by kernel_rfl) hl
theorem k136 (l:List NVal) (h:NHeap) (hl:l.length≤14):K env 136 l h=outF Tryz.prog [] (C env (bodyOf Tryz.f136) (toL 14 (argF l)) h):=K_bodyF rfl (by kernel_rfl) hl
theorem k138 (l:List NVal) (h:NHeap) (hl:l.length≤14):K env 138 l h=outF Tryz.prog [] (C env (bodyOf Tryz.f138) (toL 14 (argF l)) h):=K_bodyF rfl (by kernel_rfl) hl
theorem k140 (l:List NVal) (h:NHeap) (hl:l.length≤22):K env 140 l h=outF Tryz.prog [.tmp 4,.tmp 5] (C env (bodyOf Tryz.f140) (toL 22 (argF l)) h):=K_bodyF rfl (by kernel_rfl) hl
theorem k141 (l:List NVal) (h:NHeap) (hl:l.length≤40):K env 141 l h=outF Tryz.prog [.tmp 8,.tmp 9] (C env (bodyOf Tryz.f141) (toL 40 (argF l)) h):=K_bodyF rfl (by kernel_rfl) hl
theorem k142 (l:List NVal) (h:NHeap) (hl:l.length≤29):K env 142 l h=outF Tryz.prog [.tmp 6] (C env (bodyOf Tryz.f142) (toL 29 (argF l)) h):=K_bodyF rfl (by kernel_rfl) hl
theorem k143 (l:List NVal) (h:NHeap) (hl:l.length≤61):K env 143 l h=outF Tryz.prog [.tmp 4] (C env (bodyOf Tryz.f143) (toL 61 (argF l)) h):=K_bodyF rfl (by kernel_rfl) hl
theorem k144 (l:List NVal) (h:NHeap) (hl:l.length≤22):K env 144 l h=outF Tryz.prog [.tmp 4] (C env (bodyOf Tryz.f144) (toL 22 (argF l)) h):=K_bodyF rfl (by kernel_rfl) hl
theorem k145 (l:List NVal) (h:NHeap) (hl:l.length≤53):K env 145 l h=outF Tryz.prog [.tmp 4,.tmp 5] (C env (bodyOf Tryz.f145) (toL 53 (argF l)) h):=K_bodyF rfl (by kernel_rfl) hl
theorem k146 (l:List NVal) (h:NHeap) (hl:l.length≤60):K env 146 l h=outF Tryz.prog [.tmp 4,.tmp 5] (C env (bodyOf Tryz.f146) (toL 60 (argF l)) h):=K_bodyF rfl (by kernel_rfl) hl
theorem k147 (l:List NVal) (h:NHeap) (hl:l.length≤26):K env 147 l h=outF Tryz.prog [.tmp 4] (C env (bodyOf Tryz.f147) (toL 26 (argF l)) h):=K_bodyF rfl (by kernel_rfl) hl
theorem k151 (l:List NVal) (h:NHeap) (hl:l.length≤87):K env 151 l h=outF Tryz.prog [.tmp 6,.tmp 7] (C env (bodyOf Tryz.f151) (toL 87 (argF l)) h):=K_bodyF rfl (by kernel_rfl) hl
theorem k152 (l:List NVal) (h:NHeap) (hl:l.length≤23):K env 152 l h=outF Tryz.prog [.tmp 6] (C env (bodyOf Tryz.f152) (toL 23 (argF l)) h):=K_bodyF rfl (by kernel_rfl) hl
theorem k153 (l:List NVal) (h:NHeap) (hl:l.length≤8):K env 153 l h=outF Tryz.prog [.tmp 2] (C env (bodyOf Tryz.f153) (toL 8 (argF l)) h):=K_bodyF rfl (by kernel_rfl) hl
theorem k156 (l:List NVal) (h:NHeap) (hl:l.length≤54):K env 156 l h=outF Tryz.prog [.tmp 4] (C env (bodyOf Tryz.f156) (toL 54 (argF l)) h):=K_bodyF rfl (by kernel_rfl) hl
theorem k157 (l:List NVal) (h:NHeap) (hl:l.length≤23):K env 157 l h=outF Tryz.prog [] (C env (bodyOf Tryz.f157) (toL 23 (argF l)) h):=K_bodyF rfl (by kernel_rfl) hl
theorem k158 (l:List NVal) (h:NHeap) (hl:l.length≤30):K env 158 l h=outF Tryz.prog [.tmp 4,.tmp 5] (C env (bodyOf Tryz.f158) (toL 30 (argF l)) h):=K_bodyF rfl (by kernel_rfl) hl
theorem k159 (l:List NVal) (h:NHeap) (hl:l.length≤48):K env 159 l h=outF Tryz.prog [.tmp 6] (C env (bodyOf Tryz.f159) (toL 48 (argF l)) h):=K_bodyF rfl (by kernel_rfl) hl
theorem k160 (l:List NVal) (h:NHeap) (hl:l.length≤8):K env 160 l h=outF Tryz.prog [.tmp 4] (C env (bodyOf Tryz.f160) (toL 8 (argF l)) h):=K_bodyF rfl (by kernel_rfl) hl
theorem k166 (l:List NVal) (h:NHeap) (hl:l.length≤60):K env 166 l h=outF Tryz.prog [.tmp 4,.tmp 5] (C env (bodyOf Tryz.f166) (toL 60 (argF l)) h):=K_bodyF rfl (by kernel_rfl) hl
theorem k167 (l:List NVal) (h:NHeap) (hl:l.length≤8):K env 167 l h=outF Tryz.prog [.tmp 2] (C env (bodyOf Tryz.f167) (toL 8 (argF l)) h):=K_bodyF rfl (by kernel_rfl) hl
theorem k170 (l:List NVal) (h:NHeap) (hl:l.length≤15):K env 170 l h=outF Tryz.prog [.tmp 2] (C env (bodyOf Tryz.f170) (toL 15 (argF l)) h):=K_bodyF rfl (by kernel_rfl) hl
theorem k175 (l:List NVal) (h:NHeap) (hl:l.length≤51):K env 175 l h=outF Tryz.prog [.tmp 4,.tmp 5] (C env (bodyOf Tryz.f175) (toL 51 (argF l)) h):=K_bodyF rfl (by kernel_rfl) hl
theorem k176 (l:List NVal) (h:NHeap) (hl:l.length≤8):K env 176 l h=outF Tryz.prog [.tmp 4] (C env (bodyOf Tryz.f176) (toL 8 (argF l)) h):=K_bodyF rfl (by kernel_rfl) hl
theorem k352 (l:List NVal) (h:NHeap) (hl:l.length≤5):K env 352 l h=outF Tryz.prog [.tmp 2] (C env (bodyOf Tryz.f352) (toL 5 (argF l)) h):=K_bodyF rfl (by kernel_rfl) hl
theorem k353 (l:List NVal) (h:NHeap) (hl:l.length≤16):K env 353 l h=outF Tryz.prog [.tmp 6] (C env (bodyOf Tryz.f353) (toL 16 (argF l)) h):=K_bodyF rfl (by kernel_rfl) hl
theorem k354 (l:List NVal) (h:NHeap) (hl:l.length≤20):K env 354 l h=outF Tryz.prog [] (C env (bodyOf Tryz.f354) (toL 20 (argF l)) h):=K_bodyF rfl (by kernel_rfl) hl
theorem k355 (l:List NVal) (h:NHeap) (hl:l.length≤25):K env 355 l h=outF Tryz.prog [.tmp 2] (C env (bodyOf Tryz.f355) (toL 25 (argF l)) h):=K_bodyF rfl (by kernel_rfl) hl
theorem k356 (l:List NVal) (h:NHeap) (hl:l.length≤13):K env 356 l h=outF Tryz.prog [] (C env (bodyOf Tryz.f356) (toL 13 (argF l)) h):=K_bodyF rfl (by kernel_rfl) hl
end Go.Proofs.YtkjpldganajkkaaGreatDoor.S
namespace Go.Proofs.YtkjpldganajkkaaGreatDoor.S
open Go Go.RowKit Go.Proofs.YtkjpldganajkkaaGreatDoor.NICE
theorem index_str {P:Program} {t:TypeId} (hu:P.underlying t=some .string) (s:List UInt8) (k) (i:Nat) (c:UInt8) (hc:s[i]? =some c):nindex P t (.str s) (.int k (i:Int))=some (.int .u8 c.toNat):=by
 simp[nindex,hu,hc]
theorem str_add {P:Program} (t:TypeId) (x y:List UInt8) (h:x.length+y.length≤1000000):nbin P .add t (.str x) (.str y)=some (.str (x++y)):=by
 simp[nbin,nStrOp];omega
theorem emod_tmod (n m:Int) (hm:0<m):n%m=if n.tmod m<0 then n.tmod m+m else n.tmod m:=by
 have h1:=Int.tmod_add_mul_tdiv n m
 have h2:=Int.tmod_lt_of_pos n hm
 have h3:=Int.lt_tmod_of_pos n hm
 have h4:n%m=n.tmod m%m:=by
  conv=>lhs;rw[←h1]
  rw[Int.add_mul_emod_self_left]
 rw[h4]
 split
 ·rename_i h
  rw[←Int.add_emod_right,Int.emod_eq_of_lt (by omega) (by omega)]
 ·exact Int.emod_eq_of_lt (by omega) (by omega)
theorem within_K (n lo hi:Int) (h:NHeap) (h0:-2^42<lo) (h1:lo≤hi) (h2:hi<2^42):K env 13 [.int .i64 n,.int .i64 lo,.int .i64 hi] h=some (.int .i64 (lo+n%(hi-lo+1)),h):=by
 have e1:IntKind.i64.wrap (hi-lo)=hi-lo:=wrap_i64_small (by omega) (by omega)
 have e2:IntKind.i64.wrap (hi-lo+1)=hi-lo+1:=wrap_i64_small (by omega) (by omega)
 have e3:hi-lo+1≠0:=by omega
 have e4:=emod_tmod n (hi-lo+1) (by omega)
 have b1:=Int.tmod_lt_of_pos n (show 0<hi-lo+1 by omega)
 have b2:=Int.lt_tmod_of_pos n (show 0<hi-lo+1 by omega)
 rw[k13 _ _ (by simp)]
 simp only[bodyOf,Option.getD_some,go_sem,seval,Tryz.f13,e1,e2,bin_rem _ _ _ _ e3]
 generalize n.tmod (hi-lo+1)=r at*
 by_cases hr:r<0
 ·have w1:IntKind.i64.wrap (r+hi)=r+hi:=wrap_i64_small (by omega) (by omega)
  have w2:IntKind.i64.wrap (r+hi-lo)=r+hi-lo:=wrap_i64_small (by omega) (by omega)
  have w3:IntKind.i64.wrap (r+hi-lo+1)=r+hi-lo+1:=wrap_i64_small (by omega) (by omega)
  have w4:IntKind.i64.wrap (lo+(r+hi-lo+1))=lo+(r+hi-lo+1):=wrap_i64_small (by omega) (by omega)
  have w5:lo+n%(hi-lo+1)=lo+(r+hi-lo+1):=by rw[e4,if_pos hr];omega
  simp only[hr,go_sem,seval,w1,w2,w3,w4,w5]
 ·have w4:IntKind.i64.wrap (lo+r)=lo+r:=wrap_i64_small (by omega) (by omega)
  have w5:lo+n%(hi-lo+1)=lo+r:=by rw[e4,if_neg hr]
  simp only[hr,go_sem,seval,w4,w5]
end Go.Proofs.YtkjpldganajkkaaGreatDoor.S
namespace Go.Proofs.YtkjpldganajkkaaGreatDoor.S
open Go Go.RowKit Go.Proofs.YtkjpldganajkkaaGreatDoor.NICE
namespace bld
abbrev P (b:Nat):NVal:=.ptr (some (b,0))
abbrev bcs (s:List UInt8):List NVal:=s.map fun b=>.int .u8 b.toNat
abbrev bq:Own:=.own (some (85,2))
def Bd (h:NHeap) (b:Nat) (s:List UInt8) (bv:NVal):Prop:=
 (s=[]∧bv=.slice none 0 0 none∧h.get b=some (.cells [.ptr none,.slice none 0 0 none] bq))∨
 (s≠[]∧∃nb,nb≠b∧bv=.slice (some (nb,0)) s.length s.length (some 1)∧h.get b=some (.cells [P b,.slice (some (nb,0)) s.length s.length (some 1)] bq)∧h.get nb=some (.cells (bcs s) (.own (some (5,0)))))
theorem bcs_len (s:List UInt8):(bcs s).length=s.length:=List.length_map _
theorem bcs_one:∀s,allOne (bcs s)=true
 |[]=>rfl
 |_::l=>by simp only[bcs,List.map_cons,allOne];exact bcs_one l
theorem bcs_all:∀s:List UInt8,allBytes (bcs s)=true
 |[]=>rfl
 |a::l=>by
  have:=bcs_all l
  simp only[bcs,List.map_cons] at this⊢
  unfold allBytes
  have:=UInt8.toNat_lt a
  simp[*]
  try omega
theorem bcs_vals:∀s:List UInt8,bytesVals (bcs s)=some s
 |[]=>rfl
 |a::l=>by
  have:=bcs_vals l
  simp only[bcs,List.map_cons] at this⊢
  unfold bytesVals
  simp[this,byteVal]
theorem kS (h:NHeap) (b:Nat):kStr Tryz.prog h 83 200 (some (.ptr (some (b,0))))=none:=by kernel_rfl
theorem kS' (h:NHeap) (b:Nat):kStr Tryz.prog h 200 83 (some (.ptr (some (b,0))))=none:=by kernel_rfl
theorem lies:liesAt Tryz.prog Tryz.prog.depth 85 ((1+1)/Tryz.prog.cellsOf 85) 0 85 1=true:=by kernel_rfl
theorem szB:szOf Tryz.prog 85=some 2:=by kernel_rfl
theorem uns1 (h:NHeap) (b:Nat) (x y:NVal) (g:h.get b=some (.cells [x,y] bq)):nunsafe Tryz.prog 83 200 (.ptr (some (b,0))) h=some (.ptr (some (b,0))):=by
 unfold nunsafe
 rw[Tryz.underlying83,Tryz.underlying200]
 simp only[g,szB]
theorem uns2 (h:NHeap) (b:Nat) (x y:NVal) (g:h.get b=some (.cells [x,y] bq)):nunsafe Tryz.prog 200 83 (.ptr (some (b,0))) h=some (.ptr (some (b,0))):=by
 unfold nunsafe
 rw[Tryz.underlying83,Tryz.underlying200]
 simp only[g,szB,lies,if_true]
theorem pne (b:Nat):nbin Tryz.prog .neq 83 (.ptr (some (b,0))) (.ptr (some (b,0)))=some (.bool false):=by
 have e:nbin Tryz.prog .neq 83 (.ptr (some (b,0))) (.ptr (some (b,0)))=(if((b,0):Nat×Nat)=(b,0) then some (.bool false) else none):=by kernel_rfl
 rw[e,if_pos rfl]
theorem copy_new (h:NHeap) (b:Nat) (g:h.get b=some (.cells [.ptr none,.slice none 0 0 none] bq)):K env 56 [P b] h=some (.tuple [],h.set b (.cells [P b,.slice none 0 0 none] bq)):=by
 have u1:=uns1 h b _ _ g
 have u2:=uns2 h b _ _ g
 have ne:K env 117 [.ptr (some (b,0))] h=some (.ptr (some (b,0)),h):=K_known (by simp[env,Tb.env,orKnown,sameKnown];rfl)
 simp only[P]
 rw[k56 _ _ (by simp)]
 simp only[bodyOf,Option.getD_some,go_sem,seval,Tryz.f56,g,NHeap.get_lt g,kS,kS',effOp,u1,u2,ne]
 try rfl
theorem copy_old (h:NHeap) (b:Nat) (v:NVal) (g:h.get b=some (.cells [P b,v] bq)):K env 56 [P b] h=some (.tuple [],h):=by
 simp only[P] at g⊢
 rw[k56 _ _ (by simp)]
 simp only[bodyOf,Option.getD_some,go_sem,seval,Tryz.f56,g,NHeap.get_lt g,pne]
 try rfl
theorem app0 (H:NHeap) (t:List UInt8) (ht:t≠[]) (hl:t.length<2^39):nappend Tryz.prog 39 9 (.slice none 0 0 none) (.str t) H=some (.slice (some (H.next,0)) t.length t.length (some 1),H.alloc (.cells (bcs t) (.own (some (5,0))))):=by
 have h0:t.length≠0:=fun q=>ht (List.eq_nil_of_length_eq_zero q)
 have e:t.take t.length=t:=List.take_length
 have o:=bcs_one t
 simp only[bcs] at o
 simp[nappend,Tryz.underlying39,sz5,by5,ze5,appended,Tryz.underlying9,nlenOf,srcCells,e,o,NVal.cells,allOne,NVal.one,h0,ht]
 omega
theorem app1 (H:NHeap) (s t:List UInt8) (nb:Nat) (hs:s≠[]) (ht:t≠[]) (hl:s.length+t.length<2^39) (g:H.get nb=some (.cells (bcs s) (.own (some (5,0))))):
  nappend Tryz.prog 39 9 (.slice (some (nb,0)) s.length s.length (some 1)) (.str t) H=some (.slice (some (H.next,0)) (s++t).length (s++t).length (some 1),(H.set nb .dead).alloc (.cells (bcs (s++t)) (.own (some (5,0))))):=by
 have h0:t.length≠0:=fun q=>ht (List.eq_nil_of_length_eq_zero q)
 have h1:0<s.length:=List.length_pos_iff.2 hs
 have e:t.take t.length=t:=List.take_length
 have e2:s.take s.length=s:=List.take_length
 have o:=bcs_one t
 have a1:¬s.length+t.length≤s.length:=by omega
 have a2:0<s.length+s.length:=by omega
 have a3:s.length+t.length≤1099511627776:=by omega
 simp only[bcs] at o g
 simp[nappend,Tryz.underlying39,sz5,by5,ze5,appended,Tryz.underlying9,nlenOf,srcCells,e,e2,o,NVal.cells,allOne,NVal.one,h0,ht,hs,a1,a2,a3,g,regrown]
 rw[List.take_of_length_le (by simp)]
theorem Write_K (h:NHeap) (b:Nat) (s:List UInt8) (bv:NVal) (B:Bd h b s bv) (t:List UInt8) (ht:t≠[]) (hl:s.length+t.length<2^39):∃h' bv',K env 31 [P b,.str t] h=some (.tuple [.int .i64 t.length,.nilIface],h')∧Bd h' b (s++t) bv'∧Upd (b::blk bv) h h'∧∀d∈blk bv',h.next≤d:=by
 rcases B with⟨rfl,rfl,g⟩|⟨hs,nb,hne,rfl,g,g2⟩
 ·have lb:=NHeap.get_lt g
  have e1:=copy_new h b g
  obtain⟨H1,hH1⟩:∃H1,h.set b (.cells [P b,.slice none 0 0 none] bq)=H1:=⟨_,rfl⟩
  have n1:H1.next=h.next:=by rw[←hH1];rfl
  have g1:H1.get b=some (.cells [P b,.slice none 0 0 none] bq):=by rw[←hH1,NHeap.get_set_same lb]
  rw[hH1] at e1
  have ea:=app0 H1 t ht (by simpa using hl)
  obtain⟨H2,hH2⟩:∃H2,H1.alloc (.cells (bcs t) (.own (some (5,0))))=H2:=⟨_,rfl⟩
  rw[hH2] at ea
  have x2:Ext H1 H2:=by rw[←hH2];exact(Ext.refl _).alloc _
  have g2:=x2.get g1
  have l2:=NHeap.get_lt g2
  have gn:H2.get H1.next=some (.cells (bcs t) (.own (some (5,0)))):=by rw[←hH2];simp[NHeap.get_alloc]
  obtain⟨H3,hH3⟩:∃H3,H2.set b (.cells [P b,.slice (some (H1.next,0)) t.length t.length (some 1)] bq)=H3:=⟨_,rfl⟩
  refine⟨H3,.slice (some (H1.next,0)) t.length t.length (some 1),?_,.inr ⟨by simpa using ht,H1.next,by omega,by simp,by rw[←hH3,NHeap.get_set_same l2];simp,by rw[←hH3,NHeap.get_set_ne (by omega)];exact gn⟩,?_,fun d hd=>by simp[blk] at hd;omega⟩
  ·simp only[P] at e1 g1 g2 hH3⊢
   rw[k31 _ _ (by simp)]
   simp only[bodyOf,Option.getD_some,go_sem,seval,Tryz.f31,e1,g1,ea,g2,l2,hH3]
   try rfl
  ·rw[←hH3,←hH2,←hH1]
   exact(((Upd.refl _ _).set (.inl (by simp)) _).alloc _).set (.inl (by simp)) _
 ·have lb:=NHeap.get_lt g
  have ln:=NHeap.get_lt g2
  have e1:=copy_old h b _ g
  have ea:=app1 h s t nb hs ht hl g2
  obtain⟨H2,hH2⟩:∃H2,(h.set nb .dead).alloc (.cells (bcs (s++t)) (.own (some (5,0))))=H2:=⟨_,rfl⟩
  rw[hH2] at ea
  have g3:H2.get b=some (.cells [P b,.slice (some (nb,0)) s.length s.length (some 1)] bq):=by rw[←hH2,NHeap.get_alloc,if_neg (by rw[NHeap.next_set];omega),NHeap.get_set_ne (Ne.symm hne)];exact g
  have l3:=NHeap.get_lt g3
  have gn:H2.get h.next=some (.cells (bcs (s++t)) (.own (some (5,0)))):=by rw[←hH2];simp[NHeap.get_alloc]
  obtain⟨m,hm⟩:∃m,(s++t).length=m:=⟨_,rfl⟩
  rw[hm] at ea
  obtain⟨H3,hH3⟩:∃H3,H2.set b (.cells [P b,.slice (some (h.next,0)) m m (some 1)] bq)=H3:=⟨_,rfl⟩
  refine⟨H3,.slice (some (h.next,0)) m m (some 1),?_,.inr ⟨by simp[hs],h.next,by omega,by rw[hm],by rw[←hH3,NHeap.get_set_same l3,hm],by rw[←hH3,NHeap.get_set_ne (by omega)];exact gn⟩,?_,fun d hd=>by simp[blk] at hd;omega⟩
  ·simp only[P] at e1 g g3 hH3⊢
   rw[k31 _ _ (by simp)]
   simp only[bodyOf,Option.getD_some,go_sem,seval,Tryz.f31,e1,g,ea,g3,l3,hH3]
   try rfl
  ·rw[←hH3,←hH2]
   exact(((Upd.refl _ _).set (.inl (by simp[blk])) _).alloc _).set (.inl (by simp)) _
theorem usd (ρ:Rho) (h:NHeap) (a t):eStep Tryz.prog ρ h (.call ⟨.builtin .unsafeSliceData,a,t⟩)=none:=rfl
theorem ust (ρ:Rho) (h:NHeap) (a t):eStep Tryz.prog ρ h (.call ⟨.builtin .unsafeString,a,t⟩)=none:=rfl
theorem do_usd (F:CallF) (ρ:Rho) (h:NHeap) (x t):doK Tryz.prog F ρ (.call ⟨.builtin .unsafeSliceData,#[x],#[t]⟩) h=(match ρ x with
 |some (.slice none _ _ _)=>some (.ptr none,h)
 |some (.slice (some a) _ (_+1) _)=>some (.ptr (some a),h)
 |_=>none):=rfl
theorem do_ust (F:CallF) (ρ:Rho) (h:NHeap) (p n pt q):doK Tryz.prog F ρ (.call ⟨.builtin .unsafeString,#[p,n],#[pt,q]⟩) h=(match ρ p,ρ n with|some p,some n=>nstring Tryz.prog pt p n h|_,_=>none):=rfl
theorem String_K (h:NHeap) (b:Nat) (s:List UInt8) (bv:NVal) (B:Bd h b s bv) (hs:s≠[]) (hl:s.length<2^39):∃h',K env 33 [P b] h=some (.str s,h')∧Upd (blk bv) h h':=by
 rcases B with⟨q,_⟩|⟨_,nb,hne,rfl,g,g2⟩
 ·exact absurd q hs
 have h1:0<s.length:=List.length_pos_iff.2 hs
 obtain⟨n,hn⟩:∃n,s.length=n+1:=⟨s.length-1,by omega⟩
 have ln:=NHeap.get_lt g2
 have es:nstring Tryz.prog 136 (.ptr (some (nb,0))) (.int .i64 ((s.length:Nat):Int)) h=some (.str s,h.set nb .dead):=by
  show nstring Tryz.prog 136 (.ptr (some (nb,0))) (.int .i64 (.ofNat s.length)) h=_
  unfold nstring
  have e2:(bcs s).take s.length=bcs s:=by rw[←bcs_len s,List.take_length]
  have ce:Tryz.prog.cellsOf 5=1:=by kernel_rfl
  simp only[g2,Tryz.underlying136]
  rw[if_pos ⟨trivial,ce,h1,by rw[bcs_len];exact Nat.le_refl _,by omega,by rw[e2];exact bcs_all s⟩,e2,bcs_vals]
 refine⟨h.set nb .dead,?_,(Upd.refl _ _).set (.inl (by simp[blk])) _⟩
 simp only[P] at g⊢
 rw[k33 _ _ (by simp)]
 rw[hn] at g es
 have hb:¬b=nb:=fun q=>hne q.symm
 simp only[bodyOf,Option.getD_some,go_sem,seval,Tryz.f33,g,usd,ust,do_usd,do_ust,es,hb,false_and]
 try rfl
end bld
end Go.Proofs.YtkjpldganajkkaaGreatDoor.S
namespace Go.Proofs.YtkjpldganajkkaaGreatDoor.S
open Go Go.RowKit Go.Proofs.YtkjpldganajkkaaGreatDoor.NICE
namespace pool
def swapL (l:List Int) (i j:Nat):List Int:=(l.set i (l.getD j 0)).set j (l.getD i 0)
theorem swapL_len (l:List Int) (i j:Nat):(swapL l i j).length=l.length:=by simp[swapL]
theorem swapL_get (l:List Int) (i j k:Nat) (hi:i<l.length) (hj:j<l.length):(swapL l i j).getD k 0=if k=j then l.getD i 0 else if k=i then l.getD j 0 else l.getD k 0:=by
 unfold swapL
 simp only[List.getD_eq_getElem?_getD,List.getElem?_set,List.length_set]
 by_cases h1:j=k
 ·subst h1;simp[hj]
 ·rw[if_neg h1,if_neg (Ne.symm h1)]
  by_cases h2:i=k
  ·subst h2;simp[hi]
  ·rw[if_neg h2,if_neg (Ne.symm h2)]
theorem swapL_perm (l:List Int) (i j:Nat) (hi:i<l.length) (hj:j<l.length):(swapL l i j).Perm l:=by
 unfold swapL
 rw[List.getD_eq_getElem?_getD,List.getD_eq_getElem?_getD,List.getElem?_eq_getElem hi,List.getElem?_eq_getElem hj]
 exact List.set_set_perm hi hj
def HeapTo (n:Nat) (l:List Int):Prop:=∀i,i<n→l.getD ((i-1)/2) 0≤l.getD i 0
def HeapDown (n:Nat) (l:List Int) (j:Nat):Prop:=(∀i,i<n→0<i→(i-1)/2≠j→l.getD ((i-1)/2) 0≤l.getD i 0)∧∀i,i<n→0<i→(i-1)/2=j→0<j→l.getD ((j-1)/2) 0≤l.getD i 0
def kidL (l:List Int) (j n:Nat):Nat:=if 2*j+2<n∧l.getD (2*j+2) 0<l.getD (2*j+1) 0 then 2*j+2 else 2*j+1
def downL:Nat→List Int→Nat→Nat→List Int
 |0,l,_,_=>l
 |f+1,l,j,n=>if n≤2*j+1 then l else if l.getD (kidL l j n) 0<l.getD j 0 then downL f (swapL l j (kidL l j n)) (kidL l j n) n else l
theorem kidL_lt (l:List Int) (j n:Nat) (h:¬n≤2*j+1):kidL l j n<n∧j<kidL l j n∧(kidL l j n-1)/2=j∧0<kidL l j n:=by
 unfold kidL
 split<;>omega
theorem downL_len:∀f l j n,(downL f l j n).length=l.length
 |0,l,j,n=>rfl
 |f+1,l,j,n=>by
  unfold downL
  split
  ·rfl
  ·split
   ·rw[downL_len,swapL_len]
   ·rfl
theorem downL_perm:∀(f:Nat) (l:List Int) (j n:Nat),n≤l.length→(downL f l j n).Perm l
 |0,l,j,n,_=>.refl _
 |f+1,l,j,n,hn=>by
  unfold downL
  split
  ·exact .refl _
  ·rename_i h
   obtain⟨k1,k2,k3,k4⟩:=kidL_lt l j n h
   split
   ·exact(downL_perm f _ _ n (by rw[swapL_len];exact hn)).trans (swapL_perm l _ _ (by omega) (by omega))
   ·exact .refl _
theorem downL_get:∀(f:Nat) (l:List Int) (j n:Nat),n≤l.length→∀k,n≤k→(downL f l j n).getD k 0=l.getD k 0
 |0,l,j,n,_=>fun _ _=>rfl
 |f+1,l,j,n,hn=>fun k hk=>by
  unfold downL
  split
  ·rfl
  ·rename_i h
   obtain⟨k1,k2,k3,k4⟩:=kidL_lt l j n h
   split
   ·rw[downL_get f _ _ n (by rw[swapL_len];exact hn) k hk,swapL_get l _ _ k (by omega) (by omega),if_neg (by omega),if_neg (by omega)]
   ·rfl
theorem downL_heap:∀(f:Nat) (l:List Int) (j n:Nat),n<f+j→n≤l.length→HeapDown n l j→HeapTo n (downL f l j n)
 |0,l,j,n,hf,_,h=>fun i hi=>by
  by_cases h0:i=0
  ·subst h0;exact Int.le_refl _
  ·exact h.1 i hi (by omega) (by omega)
 |f+1,l,j,n,hf,hn,h=>by
  unfold downL
  split
  ·intro i hi
   by_cases h0:i=0
   ·subst h0;exact Int.le_refl _
   ·exact h.1 i hi (by omega) (by omega)
  ·rename_i hk
   obtain⟨k1,k2,k3,k4⟩:=kidL_lt l j n hk
   obtain⟨k,hkd⟩:∃k,kidL l j n=k:=⟨_,rfl⟩
   have hmin:∀i,i<n→0<i→(i-1)/2=j→l.getD k 0≤l.getD i 0:=by
    intro i hi h0 hp
    have hi2:i=2*j+1∨i=2*j+2:=by omega
    rw[←hkd]
    unfold kidL
    by_cases hc:2*j+2<n∧l.getD (2*j+2) 0<l.getD (2*j+1) 0
    ·rw[if_pos hc]
     rcases hi2 with rfl|rfl
     ·omega
     ·exact Int.le_refl _
    ·rw[if_neg hc]
     rcases hi2 with rfl|rfl
     ·exact Int.le_refl _
     ·exact Int.not_lt.1 fun q=>hc ⟨hi,q⟩
   rw[hkd] at k1 k2 k3 k4⊢
   split
   ·rename_i hlt
    refine downL_heap f _ k n (by omega) (by rw[swapL_len];exact hn) ⟨fun i hi h0 hp=>?_,fun i hi h0 hp _=>?_⟩
    ·rw[swapL_get l j k _ (by omega) (by omega),swapL_get l j k _ (by omega) (by omega)]
     by_cases hik:i=k
     ·subst hik
      rw[if_pos rfl,k3,if_neg (by omega),if_pos rfl]
      omega
     ·rw[if_neg hik]
      by_cases hij:i=j
      ·subst hij
       rw[if_pos rfl,if_neg hp]
       have:¬(i-1)/2=i:=by omega
       rw[if_neg this]
       exact h.2 k (by omega) k4 k3 h0
      ·rw[if_neg hij]
       by_cases hpj:(i-1)/2=j
       ·rw[if_neg (by omega),if_pos hpj]
        exact hmin i hi h0 hpj
       ·rw[if_neg hp,if_neg hpj]
        exact h.1 i hi h0 hpj
    ·rw[swapL_get l j k _ (by omega) (by omega),swapL_get l j k _ (by omega) (by omega),k3,if_neg (by omega),if_pos rfl,if_neg (by omega),if_neg (by omega)]
     have:=h.1 i hi h0 (by omega)
     rw[hp] at this
     exact this
   ·rename_i hlt
    intro i hi
    by_cases h0:i=0
    ·subst h0;exact Int.le_refl _
    ·by_cases hp:(i-1)/2=j
     ·have:=hmin i hi (by omega) hp
      rw[hp];omega
     ·exact h.1 i hi (by omega) hp
theorem heap_least {n:Nat} {l:List Int} (h:HeapTo n l):∀i,i<n→l.getD 0 0≤l.getD i 0:=by
 intro i
 induction i using Nat.strongRecOn with
 |_ i ih=>
  intro hi
  by_cases h0:i=0
  ·subst h0;exact Int.le_refl _
  ·exact Int.le_trans (ih ((i-1)/2) (by omega) (by omega)) (h i hi)
def ins (n:Int):List Int→List Int
 |[]=>[n]
 |x::l=>if n<x then n::x::l else x::ins n l
theorem ins_perm (n:Int):∀l,(ins n l).Perm (n::l)
 |[]=>.refl _
 |x::l=>by
  unfold ins
  split
  ·exact .refl _
  ·exact((ins_perm n l).cons x).trans (.swap _ _ _)
theorem ins_mem (n m:Int) (l:List Int):m∈ins n l↔m=n∨m∈l:=by rw[(ins_perm n l).mem_iff];simp
theorem ins_len (n:Int) (l:List Int):(ins n l).length=l.length+1:=by rw[(ins_perm n l).length_eq];simp
def Rise (l:List Int):Prop:=l.Pairwise (·<·)
theorem ins_rise (n:Int):∀l,Rise l→n∉l→Rise (ins n l)
 |[],_,_=>by simp[ins,Rise]
 |x::l,h,hn=>by
  unfold Rise at h
  rw[List.pairwise_cons] at h
  simp at hn
  unfold ins
  split
  ·rename_i hlt
   unfold Rise
   rw[List.pairwise_cons,List.pairwise_cons]
   refine⟨fun y hy=>?_,h⟩
   rw[List.mem_cons] at hy
   rcases hy with rfl|hy
   ·exact hlt
   ·exact Int.lt_trans hlt (h.1 y hy)
  ·rename_i hlt
   unfold Rise
   rw[List.pairwise_cons]
   refine⟨fun y hy=>?_,ins_rise n l h.2 hn.2⟩
   rw[ins_mem] at hy
   rcases hy with rfl|hy
   ·omega
   ·exact h.1 y hy
theorem Rise.nodup {l:List Int} (h:Rise l):l.Nodup:=h.imp fun q=>by omega
theorem ins_last (n:Int):∀l:List Int,(∀x∈l,x<n)→ins n l=l++[n]
 |[],_=>rfl
 |x::l,h=>by
  have:=h x (by simp)
  unfold ins
  rw[if_neg (by omega),ins_last n l fun y hy=>h y (by simp[hy])]
  rfl
theorem heap_head {arr l:List Int} {n:Int} (hp:arr.Perm (n::l)) (hr:Rise (n::l)) (hh:HeapTo arr.length arr):arr.getD 0 0=n:=by
 have hlen:=hp.length_eq
 simp at hlen
 have h0:0<arr.length:=by omega
 have hm:arr.getD 0 0∈arr:=by
  rw[List.getD_eq_getElem?_getD,List.getElem?_eq_getElem h0];exact List.getElem_mem h0
 have hn:n∈arr:=hp.mem_iff.2 (by simp)
 obtain⟨i,hi,e⟩:=List.mem_iff_getElem.1 hn
 have h1:=heap_least hh i hi
 rw[List.getD_eq_getElem?_getD,List.getD_eq_getElem?_getD,List.getElem?_eq_getElem hi,e] at h1
 have h2:arr.getD 0 0∈n::l:=hp.mem_iff.1 hm
 rw[List.mem_cons] at h2
 rcases h2 with h2|h2
 ·exact h2
 ·unfold Rise at hr
  rw[List.pairwise_cons] at hr
  have:=hr.1 _ h2
  rw[List.getD_eq_getElem?_getD] at this h2⊢
  simp only[Option.getD_some] at h1
  omega
theorem take_out {arr l:List Int} {n:Int} (hp:arr.Perm (n::l)) (hr:Rise (n::l)) (hh:HeapTo arr.length arr):
  let out:=downL (arr.length+1) (swapL arr 0 (arr.length-1)) 0 (arr.length-1)
  out.getD (arr.length-1) 0=n∧(out.take (arr.length-1)).Perm l∧HeapTo (arr.length-1) (out.take (arr.length-1)):=by
 intro out
 have hlen:=hp.length_eq
 simp at hlen
 obtain⟨m,hm⟩:∃m,arr.length-1=m:=⟨_,rfl⟩
 have hhead:=heap_head hp hr hh
 have hol:out.length=arr.length:=by show(downL _ _ _ _).length=_;rw[downL_len,swapL_len]
 have hlast:out.getD m 0=n:=by
  show(downL _ _ _ _).getD m 0=n
  rw[downL_get _ _ _ _ (by rw[swapL_len];omega) m (by omega),swapL_get _ _ _ _ (by omega) (by omega),if_pos (by omega),hhead]
 have hperm:out.Perm (n::l):=(downL_perm _ _ _ _ (by rw[swapL_len];omega)).trans ((swapL_perm _ _ _ (by omega) (by omega)).trans hp)
 have hsplit:out=out.take m++[n]:=by
  have h1:out.drop m=[n]:=by
   rw[List.drop_eq_getElem_cons (by omega),List.drop_eq_nil_of_le (by omega)]
   rw[List.getD_eq_getElem?_getD,List.getElem?_eq_getElem (by omega)] at hlast
   exact congrArg (·::[]) hlast
  rw[←h1,List.take_append_drop]
 rw[hm]
 refine⟨hlast,?_,?_⟩
 ·have h2:(out.take m++[n]).Perm (n::l):=hsplit▸hperm
  exact(List.perm_cons n).1 ((List.perm_append_comm (l₁:=[n]) (l₂:=out.take m)).trans h2)
 ·have h3:HeapTo m out:=by
   show HeapTo m (downL _ _ _ _)
   rw[hm]
   refine downL_heap _ _ _ _ (by omega) (by rw[swapL_len];omega) ⟨fun i hi h0 hpj=>?_,fun i hi h0 hpj q=>by omega⟩
   rw[swapL_get _ _ _ _ (by omega) (by omega),swapL_get _ _ _ _ (by omega) (by omega),if_neg (by omega),if_neg hpj,if_neg (by omega),if_neg (by omega)]
   exact hh i (by omega)
  intro i hi
  have g:∀k,k<m→(out.take m).getD k 0=out.getD k 0:=fun k hk=>by
   rw[List.getD_eq_getElem?_getD,List.getD_eq_getElem?_getD,List.getElem?_take_of_lt hk]
  rw[g _ (by omega),g _ hi]
  exact h3 i hi
end pool
end Go.Proofs.YtkjpldganajkkaaGreatDoor.S
