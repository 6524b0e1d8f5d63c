/-
  Nice12, Nice13, Nice14, Nice15, Nice16, as one text. Proved step by step; no conditions beside what is said.
-/
import Derived.Test.YtkjpldganajkkaaGreatDoorQ1
set_option linter.unusedSimpArgs false
set_option linter.unusedVariables false
set_option linter.unusedSectionVars false
set_option maxRecDepth 100000
namespace Go.Proofs.YtkjpldganajkkaaGreatDoor.NICE
open Go Go.RowKit
variable {P:Program} {w0 w:World} {ι:Inj} {h:NHeap}
theorem appended_sound (I:Inv w0 ι h w) {st xt ty e:TypeId} {sz n:Nat} {x z:NVal} {cs:List NVal} {i:TypeInfo} {rz:Value} (hst:P.underlying st=some (.slice e)) (hs:szOf P e=some sz) (hi:P.info? e=some i) (hiz:i.zero=some rz)
  (hz:zeroOf P e=some z) (hzr:VR ι z rz) (hzl:z.cells.length=sz) (h0:0<sz) (ha:appended P e sz xt x h=some (n,cs)) (hby:n*i.bytes≤1099511627776) {rx:Value} (hx:VR ι x rx):
  ∃zeros A us,VRs ι cs us∧(∀w2:World,(∀a,w2.cell? a=w.cell? a)→A.run P w2=.ok us.toArray w2)∧
   ∀base sLen sCap,(Builtin.append_ #[st,xt] ty #[.slice base sLen sCap,rx]).run P w=(appendCore e sz zeros n base sLen sCap rx A).run P w:=by
 unfold appended at ha
 cases hu:P.underlying xt with
 |none=>rw[hu] at ha;cases ha
 |some d=>
  rw[hu] at ha
  by_cases hd:∃k,d=.int k
  ·obtain⟨k,rfl⟩:=hd
   simp only[hz] at ha
   cases x with
   |int k' l=>
    simp only at ha
    split at ha
    ·rename_i hc;obtain⟨c1,c2,c3⟩:=hc;cases ha
     have:=hx.int_inv;subst this
     have his:i.size=sz:=by simp only[szOf,hi] at hs;cases hs;rfl
     refine⟨true,_,(Builtin.zeroCells rz.cells l.toNat).toList,zeroCells_rel hzr hzl h0 _,?_,fun base sLen sCap=>append_eq_zeros hst hi his hu c1 c2 hby w⟩
     intro w2 _
     by_cases hl0:l.toNat*sz=0
     ·rw[if_pos hl0]
      have:l.toNat=0:=by
       rcases Nat.mul_eq_zero.1 hl0 with q|q
       ·exact q
       ·omega
      simp[this,Builtin.zeroCells]
     ·rw[if_neg hl0]
      simp[run_zeroValue' hi hiz]
    ·cases ha
   |_=>cases ha
  ·have hd':∀k,d≠.int k:=fun k q=>hd ⟨k,q⟩
   have ha':(match nlenOf x with
    |some n=>(match srcCells sz n h x with|some cs=>some (n,cs)|none=>none)
    |none=>none)=some (n,cs):=by
    cases d<;>first|exact absurd rfl (hd' _)|exact ha
   cases hn:nlenOf x with
   |none=>rw[hn] at ha';cases ha'
   |some n'=>cases hc:srcCells sz n' h x with
    |none=>rw[hn] at ha';simp only at ha';rw[hc] at ha';cases ha'
    |some cs'=>
     rw[hn] at ha';simp only at ha';rw[hc] at ha';cases ha'
     obtain⟨rs,r1,r2⟩:=src_sound (P:=P) I hc hx
     exact⟨false,_,rs,r1,r2,fun base sLen sCap=>append_eq_src hst hs hu hd' (lenOf_sound hn hx) w⟩
theorem Inv.kill (I:Inv w0 ι h w) {b:Nat} (hb:b<h.next):Inv w0 ι (h.set b .dead) w∧Step ι h w ι (h.set b .dead) w:=by
 have get:∀{b' ob'},(h.set b .dead).get b'=some ob'→ob'=.dead∨h.get b'=some ob':=by
  intro b' ob' q
  rw[NHeap.get_set] at q
  split at q
  ·cases q;exact .inl rfl
  ·exact .inr q
 refine⟨⟨I.below,fun b' x q=>by simpa using I.fresh b' x q,?_,?_,?_,?_,?_⟩,⟨ι.le_refl,fun _ _ q=>.inl q,Nat.le_refl _,fun _ _ _=>rfl,?_,by simp⟩⟩
 ·intro b' cs t q
  rcases get q with q'|q'
  ·cases q'
  ·exact I.cells b' cs q'
 ·intro b' cs T k q
  rcases get q with q'|q'
  ·cases q'
  ·exact I.typed b' cs T k q'
 ·intro b' cs q
  rcases get q with q'|q'
  ·cases q'
  ·exact I.ro b' cs q'
 ·intro b' es q
  rcases get q with q'|q'
  ·cases q'
  ·exact I.maps b' es q'
 ·intro b1 b2 o1 o2 rb s1 s2 m1 m2 g1 w1 g2 w2 i1 i2
  rcases get g1 with p1|p1
  ·subst p1;simp[NObj.owned] at w1
  ·rcases get g2 with p2|p2
   ·subst p2;simp[NObj.owned] at w2
   ·exact I.inj b1 b2 o1 o2 rb s1 s2 m1 m2 p1 w1 p2 w2 i1 i2
 ·rintro k ⟨b',ob',s',m',g,ho,hi⟩
  rcases get g with p|p
  ·subst p;simp[NObj.owned] at ho
  ·exact .inl ⟨b',ob',s',m',p,ho,hi⟩
theorem allOne_append:∀l m:List NVal,allOne (l++m)=(allOne l&&allOne m)
 |[],m=>by simp[allOne]
 |a::l,m=>by simp[allOne,allOne_append l m,Bool.and_assoc]
theorem allOne_repeat {z:List NVal} (hz:allOne z=true):∀n,allOne (repeatCells z n)=true
 |0=>rfl
 |n+1=>by simp[repeatCells,allOne_append,hz,allOne_repeat hz n]
theorem append_sound (I:Inv w0 ι h w) {st xt ty:TypeId} {s x v:NVal} {h':NHeap} (ha:nappend P st xt s x h=some (v,h')) {rs rx:Value} (hs:VR ι s rs) (hx:VR ι x rx):
  ∃ι' w' rv,(Builtin.append_ #[st,xt] ty #[rs,rx]).run P w=.ok rv w'∧VR ι' v rv∧Inv w0 ι' h' w'∧Step ι h w ι' h' w':=by
 unfold nappend at ha
 cases hu:P.underlying st with
 |none=>rw[hu] at ha;cases ha
 |some d=>
  rw[hu] at ha
  cases d with
  |slice e=>
   cases s with
   |slice base len cap xx=>
    simp only at ha
    cases hn:szOf P e with
    |none=>rw[hn] at ha;cases ha
    |some sz=>cases hb:bytesOf P e with
     |none=>rw[hn,hb] at ha;cases ha
     |some by_=>cases hz:zeroOf P e with
      |none=>rw[hn,hb,hz] at ha;cases ha
      |some z=>
       rw[hn,hb,hz] at ha;simp only at ha
       split at ha
       ·rename_i hc0;obtain⟨hzl,hz0,hzo⟩:=hc0
        cases hap:appended P e sz xt x h with
        |none=>rw[hap] at ha;cases ha
        |some p=>
         obtain⟨n,cs⟩:=p
         rw[hap] at ha;simp only at ha
         split at ha
         ·rename_i hc1;obtain⟨hcl,hone,h40,hby⟩:=hc1
          obtain⟨i,rz,hi,hiz,hzr⟩:=zeroOf_sound (ι:=ι) hz
          have hbi:i.bytes=by_:=by simp only[bytesOf,hi] at hb;cases hb;rfl
          have hby':n*i.bytes≤1099511627776:=by
           rw[hbi];exact Nat.le_trans (Nat.mul_le_mul_right _ (by omega)) hby
          obtain⟨zeros,A,us,hus,hA,heq⟩:=appended_sound (ty:=ty) I hu hn hi hiz hz hzr hzl hz0 hap hby' hx
          have hul:us.length=n*sz:=by rw[←hus.length,hcl]
          have grow:∀{rbase rcap} {os:List Value} {olds:List NVal} (h2:NHeap) (I2:Inv w0 ι h2 w) {t:Option (TypeId×Nat)},(t=none∨t=some (e,0)∧∀v∈os,v.oneCell'=true)→VRs ι olds os→olds.length=len*sz→rcap<len+n→
            (∀w2:World,(∀a,w2.cell? a=w.cell? a)→(Builtin.firstCells sz len (.slice rbase len rcap)).run P w2=.ok os.toArray w2)→
            ∃ι' w' rv,(Builtin.append_ #[st,xt] ty #[.slice rbase len rcap,rx]).run P w=.ok rv w'∧VR ι' (.slice (some (h2.next,0)) (len+n) (len+n) (some sz)) rv∧
             Inv w0 ι' (h2.alloc (.cells (olds++cs) (.own t))) w'∧Step ι h2 w ι' (h2.alloc (.cells (olds++cs) (.own t))) w':=by
           intro rbase rcap os olds h2 I2 t ht ho hol hlt hO
           have hrun:=core_grow (zeros:=zeros) (x:=rx) hi hiz (.inr trivial) hA hO hlt h40 (by rw[hbi];exact hby)
           have hge:=grownCap_ge w (len+n) rcap e
           have hol':os.length=len*sz:=by rw[←ho.length,hol]
           have hrzl:rz.cells.size=sz:=by have:=hzr.cells.length;simp at this;omega
           have hsize:(os.toArray++us.toArray++Builtin.zeroCells rz.cells (grownCap w (len+n) rcap e-(len+n))).size=grownCap w (len+n) rcap e*sz:=by
            simp only[Array.size_append,List.size_toArray,size_zeroCells,hrzl,hol',hul,←Nat.add_mul]
            congr 1;omega
           obtain⟨I',S'⟩:=I2.push (o:=.cells (olds++cs) (.own t)) (Pushed.drewAlloc w (.cells (os.toArray++us.toArray++Builtin.zeroCells rz.cells (grownCap w (len+n) rcap e-(len+n))) e)) (grownCap w (len+n) rcap e*sz)
            (fun cs' t' q=>by
             cases q
             refine⟨_,_,(0,0),rfl,by rw[hsize];exact Nat.le_refl _,?_,by simp,fun j v hj=>?_⟩
             ·rw[List.length_append,hol,hcl,←Nat.add_mul];exact Nat.mul_le_mul_right _ hge
             ·obtain⟨r,hr,hv⟩:=(ho.append hus).get hj
              have hjl:j<(os++us).length:=(List.getElem?_eq_some_iff.1 hr).1
              refine⟨r,?_,hv⟩
              rw[←Array.getElem?_toList]
              simp only[Array.toList_append]
              rw[List.getElem?_append_left (by simpa using hjl)]
              simpa using hr)
            (fun _ q=>by cases q) (fun _ q=>by cases q) (fun cs' T k q=>by
             cases q
             rcases ht with ht|⟨ht,hto⟩<;>cases ht
             refine⟨_,rfl,by rw[hsize],.inl rfl,fun _ i r hr=>?_⟩
             rw[Array.getElem?_append] at hr
             split at hr
             ·rw[Array.getElem?_append] at hr
              split at hr
              ·exact hto r (List.mem_of_getElem? (by simpa using hr))
              ·exact allOne_sound hone hus r (List.mem_of_getElem? (by simpa using hr))
             ·have hm:=List.mem_of_getElem? (l:=(Builtin.zeroCells rz.cells (grownCap w (len+n) rcap e-(len+n))).toList) (by simpa using hr)
              exact allOne_sound (allOne_repeat hzo _) (zeroCells_rel hzr hzl hz0 _) r hm)
           refine⟨_,_,_,by rw[heq];exact hrun,?_,I',S'⟩
           have:=VR.sliceMore (ι:=ι.upd h2.next (w.heap.size,0,grownCap w (len+n) rcap e*sz)) (b:=h2.next) (o:=0) (z:=sz) (len:=len+n) (cap:=len+n) (rcap:=grownCap w (len+n) rcap e) (by simp;exact⟨rfl,rfl,rfl⟩) hge hge (by omega)
           simpa using this
          cases base with
          |none=>
           simp only at ha
           have hrs:rs=.slice none 0 0∧len=0:=by
            cases hh:rs<;>rw[hh] at hs<;>cases hs;exact⟨rfl,rfl⟩
           obtain⟨rfl,rfl⟩:=hrs
           split at ha
           ·rename_i hn0;subst hn0;cases ha
            refine⟨ι,w,.slice none 0 0,?_,.sliceNil,I,Step.refl _ _ _⟩
            rw[heq];exact core_nil (hA w fun _=>rfl)
           ·rename_i hn0;cases ha
            have:=grow (rbase:=none) (rcap:=0) (os:=[]) (olds:=[]) h I (.inr ⟨rfl,by simp⟩) .nil (by simp) (by omega) (fun w2 _=>by simp[Builtin.firstCells])
            simpa using this
          |some bo=>
           obtain⟨b,o⟩:=bo
           simp only at ha
           by_cases hn0:n=0
           ·rw[if_pos hn0] at ha;cases ha
            have room0:∀{a rcap},len≤rcap→(Builtin.append_ #[st,xt] ty #[.slice (some a) len rcap,rx]).run P w=.ok (.slice (some a) len rcap) w:=by
             intro a rcap hle
             have us0:us=[]:=List.eq_nil_of_length_eq_zero (by rw[hul,hn0,Nat.zero_mul])
             rw[heq,core_room (hA w fun _=>rfl) (by omega),us0,hn0]
             rfl
            refine⟨ι,w,rs,?_,hs,I,Step.refl _ _ _⟩
            cases hs with
            |slice hι hl hc=>subst hc;exact room0 hl
            |sliceMore hι hl hc hm=>exact room0 hl
            |sliceEmpty=>exact room0 (Nat.zero_le _)
           rw[if_neg hn0] at ha
           by_cases hroom:len+n≤cap
           ·rw[if_pos hroom] at ha
            cases hg:h.get b with
            |none=>rw[hg] at ha;cases ha
            |some ob=>
             rw[hg] at ha
             cases ob with
             |map es=>cases ha
             |dead=>cases ha
             |cells old mine=>cases mine with
              |ro=>cases ha
              |own q=>
               simp only at ha
               split at ha
               ·rename_i hle;cases ha
                have hmul:(len+n)*sz=len*sz+n*sz:=Nat.add_mul _ _ _
                have main:∀{rb s m rcap},ι b=some (rb,s,m)→len+n≤rcap→VR ι (.slice (some (b,o)) (len+n) cap xx) (.slice (some ⟨rb,s+o,none⟩) (len+n) rcap)→
                  ∃ι' w' rv,(Builtin.append_ #[st,xt] ty #[.slice (some ⟨rb,s+o,none⟩) len rcap,rx]).run P w=.ok rv w'∧VR ι' (.slice (some (b,o)) (len+n) cap xx) rv∧
                   Inv w0 ι' (h.set b (.cells (setRange old (o+len*sz) cs) (.own q))) w'∧Step ι h w ι' (h.set b (.cells (setRange old (o+len*sz) cs) (.own q))) w':=by
                 intro rb s m rcap hι hrc hvr
                 obtain⟨w',r1,r2,r3⟩:=I.write (P:=P) (o:=o+len*sz) hg hι hus hone (by omega)
                 refine⟨ι,w',_,?_,hvr,r2,r3⟩
                 rw[heq,core_room (hA w fun _=>rfl) hrc,add_at,show s+o+len*sz=s+(o+len*sz) by omega,r1]
                 rfl
                cases hs with
                |slice hι hl hc=>subst hc;exact main hι hroom (.slice hι hroom rfl)
                |sliceMore hι hl hc hm=>exact main hι (by omega) (.sliceMore hι (by omega) hc hm)
                |sliceEmpty=>omega
               ·cases ha
           ·rw[if_neg hroom] at ha
            cases xx with
            |none=>
             simp only at ha
             cases hsrc:srcCells sz len h (.slice (some (b,o)) len cap none) with
             |none=>rw[hsrc] at ha;cases ha
             |some olds=>
              rw[hsrc] at ha;simp only at ha
              split at ha
              case isFalse=>cases ha
              rename_i holo
              cases ha
              obtain⟨os,o1,o2⟩:=src_sound (P:=P) I hsrc hs
              have hol:olds.length=len*sz:=by
               simp only[srcCells] at hsrc
               split at hsrc
               ·rename_i q;cases hsrc;simp[q]
               ·cases hg:h.get b with
                |none=>rw[hg] at hsrc;cases hsrc
                |some ob=>
                 rw[hg] at hsrc
                 cases ob with
                 |cells cc mm=>
                  simp only at hsrc
                  split at hsrc
                  ·rename_i q;cases hsrc;simp;omega
                  ·cases hsrc
                 |map _=>cases hsrc
                 |dead=>cases hsrc
              cases hs with
              |slice hι hl hc=>subst hc;exact grow h I (.inr ⟨rfl,allOne_sound holo o1⟩) o1 hol (by omega) o2
            |some q=>
             simp only at ha
             split at ha
             ·rename_i hq;obtain⟨rfl,hpos⟩:=hq
              cases hg:h.get b with
              |none=>rw[hg] at ha;cases ha
              |some ob=>
               rw[hg] at ha
               cases ob with
               |map es=>cases ha
               |dead=>cases ha
               |cells old mine=>cases mine with
                |ro=>cases ha
                |own t0=>
                 simp only at ha
                 split at ha
                 ·rename_i hle;cases ha
                  cases hs with
                  |sliceEmpty=>omega
                  |sliceMore hι hl hc hm=>
                   rename_i rb s m rcap
                   by_cases hin:len+n≤rcap
                   ·
                    have hmul:(len+n)*q=len*q+n*q:=Nat.add_mul _ _ _
                    have hmul2:(len+n)*q≤rcap*q:=Nat.mul_le_mul_right _ hin
                    obtain⟨w',r1,r2,r3⟩:=I.regrow (P:=P) (e0:=e) hg hι hus hone (o:=o) (k:=len*q) hle (by omega)
                    refine⟨_,w',.slice (some ⟨rb,s+o,none⟩) (len+n) rcap,?_,?_,r2,r3⟩
                    ·rw[heq,core_room (hA w fun _=>rfl) hin,add_at,show s+o+len*q=s+(o+len*q) by omega,r1]
                     rfl
                    ·have:=VR.sliceMore (ι:=ι.upd h.next (rb,s+o,m-o)) (b:=h.next) (o:=0) (z:=q) (len:=len+n) (cap:=len+n) (rcap:=rcap) (by simp;exact⟨rfl,rfl,rfl⟩) hin hin (by omega)
                     simpa using this
                   ·
                    obtain⟨os,o1,o2,o3⟩:=I.range hg hι (len*q) o hle
                    obtain⟨ι',w',rv,r1,r2,r3,r4⟩:=grow (rbase:=some ⟨rb,s+o,none⟩) (rcap:=rcap) (h.set b .dead) (I.kill (NHeap.get_lt hg)).1 (t:=regrown o e t0) (by
                     unfold regrown
                     split
                     ·rename_i hr
                      refine .inr ⟨hr.2,fun v hv=>?_⟩
                      obtain⟨j,hj⟩:=List.getElem?_of_mem hv
                      have hcell:=o3 j v hj
                      obtain⟨rb2,c2,t1,t2,t3,t4⟩:=I.typed b old e 0 (by rw[hg,hr.2])
                      rw[hι] at t1;cases t1
                      rw[add_at] at hcell
                      simp only[World.cell?,t2] at hcell
                      exact t4 rfl _ v (by simpa using hcell)
                     ·exact .inl rfl) o2 (by simp;omega) (by omega) (fun w2 hw2=>run_firstCells_some w2 q len _ len rcap os o1 (fun j v e=>by rw[hw2];exact o3 j v e))
                    exact⟨ι',w',rv,r1,r2,r3,(I.kill (NHeap.get_lt hg)).2.trans r4⟩
                 ·cases ha
             ·cases ha
         ·cases ha
       ·cases ha
   |_=>cases ha
  |_=>cases ha
theorem copy_sound (I:Inv w0 ι h w) {dt st' ty:TypeId} {rest:List TypeId} {d s v:NVal} {h':NHeap} (hc:ncopy P dt d s h=some (v,h')) {rd rs:Value} (hd:VR ι d rd) (hs:VR ι s rs) {argTypes:Array TypeId} (hat:argTypes[0]? =some dt):
  ∃ι' w' rv,(Builtin.copy_ argTypes ty #[rd,rs]).run P w=.ok rv w'∧VR ι' v rv∧Inv w0 ι' h' w'∧Step ι h w ι' h' w':=by
 unfold ncopy at hc
 cases hu:P.underlying dt with
 |none=>rw[hu] at hc;cases hc
 |some td=>
  rw[hu] at hc
  cases td with
  |slice e=>
   cases d with
   |slice base dl dcap xx=>
    simp only at hc
    cases hn:szOf P e with
    |none=>rw[hn] at hc;cases hc
    |some sz=>cases hl:nlenOf s with
     |none=>rw[hn,hl] at hc;cases hc
     |some sl=>
      rw[hn,hl] at hc;simp only at hc
      cases hsrc:srcCells sz (min sl dl) h s with
      |none=>rw[hsrc] at hc;cases hc
      |some cs=>
       rw[hsrc] at hc;simp only at hc
       split at hc
       ·rename_i hone
        obtain⟨us,u1,u2⟩:=src_sound (P:=P) I hsrc hs
        have hu2:=u2 w fun _=>rfl
        have hlen:=lenOf_sound (P:=P) hl hs w
        have shape:∃rb0 rcap,rd=.slice rb0 dl rcap:=by
         cases hd<;>exact⟨_,_,rfl⟩
        obtain⟨rbase,rcap,hrd⟩:=shape
        have run:(Builtin.copy_ argTypes ty #[rd,rs]).run P w=rbase.elim (.ok (.int .i64 (min sl dl:Nat)) w) (fun a=>((storeCells a us 0).run P w).andThen fun _ w'=>.ok (.int .i64 (min sl dl:Nat)) w'):=by
         rw[hrd]
         unfold Builtin.copy_
         simp only[hat,List.getElem?_toArray,List.getElem?_cons_zero,List.getElem?_cons_succ,Sem.run_bind,run_underlying hu,Result.andThen_ok,hlen,run_sizeOf' hn]
         have e1:Nat.min sl dl=min sl dl:=rfl
         rw[e1,hu2]
         cases rbase<;>simp[goInt]
        cases base with
        |none=>
         simp only at hc
         split at hc
         ·cases hc
          have:rbase=none:=by subst hrd;cases hd;rfl
          subst this
          exact⟨ι,w,_,run,.int _ _,I,Step.refl _ _ _⟩
         ·cases hc
        |some bo=>
         obtain⟨b,o⟩:=bo
         simp only at hc
         split at hc
         ·rename_i h0;cases hc
          have us0:us=[]:=List.eq_nil_of_length_eq_zero (by rw[←u1.length];exact h0)
          refine⟨ι,w,.int .i64 (min sl dl:Nat),?_,.int _ _,I,Step.refl _ _ _⟩
          rw[run]
          cases rbase with
          |none=>rfl
          |some a=>rw[us0];rfl
         ·rename_i h0
          cases hg:h.get b with
          |none=>rw[hg] at hc;cases hc
          |some ob=>
           rw[hg] at hc
           cases ob with
           |map es=>cases hc
           |dead=>cases hc
           |cells old mine=>cases mine with
            |ro=>cases hc
            |own q=>
             simp only at hc
             split at hc
             ·rename_i hle;cases hc
              have main:∀{rb s m},ι b=some (rb,s,m)→rbase=some ⟨rb,s+o,none⟩→∃ι' w' rv,(Builtin.copy_ argTypes ty #[rd,rs]).run P w=.ok rv w'∧VR ι' (.int .i64 (min sl dl:Nat)) rv∧
                Inv w0 ι' (h.set b (.cells (setRange old o cs) (.own q))) w'∧Step ι h w ι' (h.set b (.cells (setRange old o cs) (.own q))) w':=by
               intro rb s m hι hb
               subst hb
               obtain⟨w',r1,r2,r3⟩:=I.write (P:=P) hg hι u1 hone (o:=o) hle
               exact⟨ι,w',_,by rw[run];simp only[Option.elim];rw[r1];rfl,.int _ _,r2,r3⟩
              subst hrd
              cases hd with
              |slice hι=>exact main hι rfl
              |sliceMore hι=>exact main hι rfl
              |sliceEmpty=>
               exfalso
               apply h0
               have hmin:min sl 0=0:=by omega
               rw[hmin] at hsrc
               have:cs=[]:=by
                cases s with
                |slice a _ _ _=>cases a<;>simp[srcCells] at hsrc<;>exact hsrc
                |str _=>simp[srcCells] at hsrc;exact hsrc
                |_=>simp[srcCells] at hsrc
               simp[this]
             ·cases hc
       ·cases hc
   |_=>cases hc
  |_=>cases hc
theorem clear_sound (I:Inv w0 ι h w) {t ty:TypeId} {x v:NVal} {h':NHeap} (hc:nclear P t x h=some (v,h')) {rx:Value} (hx:VR ι x rx) {argTypes:Array TypeId} (hat:argTypes[0]? =some t):
  ∃ι' w' rv,(Builtin.clear_ argTypes ty #[rx]).run P w=.ok rv w'∧VR ι' v rv∧Inv w0 ι' h' w'∧Step ι h w ι' h' w':=by
 unfold nclear at hc
 cases hu:P.underlying t with
 |none=>rw[hu] at hc;cases hc
 |some td=>
  rw[hu] at hc
  cases td with
  |slice e=>
   cases x with
   |slice a n cap xx=>
    have nothing:∀rx':Value,rx=rx'→(∃c m,rx'=.slice none m c)∨(∃a c,rx'=.slice a 0 c)→(Builtin.clear_ argTypes ty #[rx]).run P w=.ok (.tuple #[]) w:=by
     intro rx' e hs
     subst e
     rcases hs with⟨c,m,rfl⟩|⟨a,c,rfl⟩
     ·unfold Builtin.clear_
      simp only[hat,List.getElem?_toArray,List.getElem?_cons_zero,Sem.run_bind,run_underlying hu,Result.andThen_ok,Sem.run_pure]
     ·unfold Builtin.clear_
      simp only[hat,List.getElem?_toArray,List.getElem?_cons_zero,Sem.run_bind,run_underlying hu,Result.andThen_ok,Sem.run_pure]
      cases a<;>rfl
    have tup:VR ι (.tuple []) (.tuple #[]):=.tuple' (by simpa using All2.nil)
    cases a with
    |none=>
     simp only at hc;cases hc
     refine⟨ι,w,_,nothing rx rfl (.inl ?_),tup,I,Step.refl _ _ _⟩
     cases hx;exact⟨_,_,rfl⟩
    |some bo=>
     obtain⟨b,o⟩:=bo
     simp only at hc
     split at hc
     ·rename_i h0;subst h0;cases hc
      refine⟨ι,w,_,nothing rx rfl (.inr ?_),tup,I,Step.refl _ _ _⟩
      cases hx<;>exact⟨_,_,rfl⟩
     ·rename_i h0
      cases hz:zeroOf P e with
      |none=>rw[hz] at hc;cases hc
      |some z=>cases hg:h.get b with
       |none=>rw[hz,hg] at hc;cases hc
       |some ob=>
        rw[hz,hg] at hc
        cases ob with
        |map es=>cases hc
        |dead=>cases hc
        |cells old mine=>cases mine with
         |ro=>cases hc
         |own q=>
          simp only at hc
          split at hc
          ·rename_i hle;obtain⟨hle,hone⟩:=hle;cases hc
           obtain⟨i,rz,hi,hiz,hzr⟩:=zeroOf_sound (ι:=ι) hz
           have hz0:∀cs:List NVal,cs.length=0→cs=[]:=fun cs q=>List.eq_nil_of_length_eq_zero q
           have hrel:VRs ι (repeatCells z.cells n) (Builtin.zeroCells rz.cells n).toList:=by
            by_cases hz00:0<z.cells.length
            ·exact zeroCells_rel hzr rfl hz00 n
            ·have e1:repeatCells z.cells n=[]:=hz0 _ (by rw[repeat_length];simp[Nat.eq_zero_of_not_pos hz00])
             have e2:(Builtin.zeroCells rz.cells n).toList=[]:=List.eq_nil_of_length_eq_zero (by
              have:=hzr.cells.length;simp at this
              simp only[Array.length_toList,size_zeroCells]
              rw[←this,Nat.eq_zero_of_not_pos hz00];simp)
             rw[e1,e2];exact .nil
           have hall:allOne (repeatCells z.cells n)=true:=allOne_repeat hone n
           have main:∀{rb s m rcap},ι b=some (rb,s,m)→∃ι' w' rv,(Builtin.clear_ argTypes ty #[.slice (some ⟨rb,s+o,none⟩) n rcap]).run P w=.ok rv w'∧VR ι' (.tuple []) rv∧
             Inv w0 ι' (h.set b (.cells (setRange old o (repeatCells z.cells n)) (.own q))) w'∧Step ι h w ι' (h.set b (.cells (setRange old o (repeatCells z.cells n)) (.own q))) w':=by
            intro rb s m rcap hι
            obtain⟨w',r1,r2,r3⟩:=I.write (P:=P) hg hι hrel hall (o:=o) (by rw[repeat_length];exact hle)
            refine⟨ι,w',.tuple #[],?_,tup,r2,r3⟩
            obtain⟨n,rfl⟩:∃k,n=k+1:=⟨n-1,by omega⟩
            unfold Builtin.clear_
            simp only[hat,List.getElem?_toArray,List.getElem?_cons_zero,Sem.run_bind,run_underlying hu,Result.andThen_ok,Sem.run_pure,run_zeroValue' hi hiz,r1]
           cases hx with
           |slice hι=>exact main hι
           |sliceMore hι=>exact main hι
           |sliceEmpty=>exact absurd rfl h0
          ·cases hc
   |_=>cases hc
  |_=>cases hc
end Go.Proofs.YtkjpldganajkkaaGreatDoor.NICE
namespace Go.Proofs.YtkjpldganajkkaaGreatDoor.NICE
open Go Go.RowKit
variable {P:Program} {w0 w:World} {ι:Inj} {h:NHeap}
abbrev EntR (ι:Inj):NVal×NVal→MapEntry→Prop:=fun p e=>VR ι p.1 e.key∧VR ι p.2 e.val
theorem Inv.setMap (I:Inv w0 ι h w) {b:Nat} {es es':List (NVal×NVal)} (hb:h.get b=some (.map es)) {rb s m:Nat} (hι:ι b=some (rb,s,m)) {ents ents':Array MapEntry} {clock clock':Nat}
  (hw:w.heap[rb]? =some (.map ents clock)) (hr:All2 (EntR ι) es' ents'.toList):
  Inv w0 ι (h.set b (.map es')) {w with heap:=w.heap.setIfInBounds rb (.map ents' clock')}∧Step ι h w ι (h.set b (.map es')) {w with heap:=w.heap.setIfInBounds rb (.map ents' clock')}:=by
 have hlt:=NHeap.get_lt hb
 obtain⟨rb1,s1,m1,ents1,clock1,q1,q2,q3,q4⟩:=I.maps b es hb
 rw[hι] at q1;cases q1
 obtain⟨hnew,hother⟩:=MapKept.heap_set (o':=.map ents' clock') hw
 have get:∀{b' ob'},(h.set b (.map es')).get b'=some ob'→(b'=b∧ob'=.map es')∨(b'≠b∧h.get b'=some ob'):=by
  intro b' ob' e
  rw[NHeap.get_set] at e
  split at e
  ·rename_i hh;cases e;exact .inl ⟨hh.1,rfl⟩
  ·rename_i hh;exact .inr ⟨fun q=>hh ⟨q,hlt⟩,e⟩
 have ne_of:∀{b' ob' rb' s' m'},b'≠b→h.get b'=some ob'→ob'.owned=true→ι b'=some (rb',s',m')→rb'≠rb:=by
  intro b' ob' rb' s' m' hne hg how hi q
  subst q
  exact hne (I.inj b' b ob' _ rb' s' s m' m hg how hb rfl hi hι)
 refine⟨⟨I.below.trans ⟨rfl,rfl,rfl,by simp,fun k hk=>hother k (by omega)⟩,fun b' x q=>by simpa using I.fresh b' x q,?_,?_,?_,?_,?_⟩,⟨ι.le_refl,fun _ _ q=>.inl q,by simp,?_,?_,by simp⟩⟩
 ·intro b' ds t q
  rcases get q with⟨rfl,q'⟩|⟨hne,q'⟩
  ·cases q'
  ·obtain⟨rb',s',m',c2,e2,fz2,h1,h2,h3,h4⟩:=I.cells b' ds q'
   exact⟨rb',s',m',c2,e2,fz2,h1,h2,by rw[hother rb' (ne_of hne q' rfl h1)];exact h3,h4⟩
 ·intro b' ds T k1 q
  rcases get q with⟨rfl,q'⟩|⟨hne,q'⟩
  ·cases q'
  ·obtain⟨rb',c2,h1,h2,h3⟩:=I.typed b' ds T k1 q'
   exact⟨rb',c2,h1,by rw[hother rb' (ne_of hne q' rfl h1)];exact h2,h3⟩
 ·intro b' ds q
  rcases get q with⟨rfl,q'⟩|⟨hne,q'⟩
  ·cases q'
  ·exact I.ro b' ds q'
 ·intro b' fs q
  rcases get q with⟨rfl,q'⟩|⟨hne,q'⟩
  ·cases q';exact⟨rb,s,m,ents',clock',hι,q2,hnew,hr⟩
  ·obtain⟨rb',s',m',e1,k,h1,h2,h3,h4⟩:=I.maps b' fs q'
   exact⟨rb',s',m',e1,k,h1,h2,by rw[hother rb' (ne_of hne q' rfl h1)];exact h3,h4⟩
 ·intro b1 b2 o1 o2 rb' s1 s2 m1 m2 g1 w1 g2 w2 i1 i2
  have:∀{b' ob'},(h.set b (.map es')).get b'=some ob'→ob'.owned=true→∃ob'',h.get b'=some ob''∧ob''.owned=true:=by
   intro b' ob' q qo
   rcases get q with⟨rfl,q'⟩|⟨hne,q'⟩
   ·exact⟨_,hb,rfl⟩
   ·exact⟨_,q',qo⟩
  obtain⟨p1,g1,w1⟩:=this g1 w1
  obtain⟨p2,g2,w2⟩:=this g2 w2
  exact I.inj b1 b2 p1 p2 rb' s1 s2 m1 m2 g1 w1 g2 w2 i1 i2
 ·intro k hk hno
  exact hother k (fun q=>hno (by subst q;exact⟨b,_,s,m,hb,rfl,hι⟩))
 ·rintro k ⟨b',ob',s',m',g,ho,hi⟩
  rcases get g with⟨rfl,g⟩|⟨hne,g⟩
  ·exact .inl ⟨b',_,s',m',hb,rfl,hi⟩
  ·exact .inl ⟨b',ob',s',m',g,ho,hi⟩
theorem All2.eraseIdx {α β:Type} {R:α→β→Prop}:∀{l:List α} {m:List β} (i:Nat),All2 R l m→All2 R (l.eraseIdx i) (m.eraseIdx i)
 |_,_,_,.nil=>by simpa using All2.nil
 |_,_,0,.cons _ b=>by simpa using b
 |_,_,i+1,.cons a b=>by simpa using All2.cons a (b.eraseIdx i)
theorem VR.map_inv {b:Nat} {r:Value} (h:VR ι (.map (some b)) r):∃rb s m,ι b=some (rb,s,m)∧r=.map (some rb):=by
 cases h with|map hh=>exact⟨_,_,_,hh,rfl⟩
theorem keyTy_some {kt:TypeId} {k:NVal} (hk:keyTypeOk P kt k=true):∃kd,P.underlying kt=some kd:=by
 cases hq:P.underlying kt with
 |none=>simp only[keyTypeOk,hq] at hk;cases k<;>simp at hk
 |some q=>exact⟨q,rfl⟩
theorem sameBits_key {kt:TypeId} {k:NVal} (hk:keyTypeOk P kt k=true) {rk:Value} (hr:VR ι k rk):Instr.sameBits 10000 rk rk=true:=by
 cases k<;>simp[keyTypeOk] at hk
 ·have:=hr.int_inv;subst this;simp[Instr.sameBits]
 ·obtain⟨b,rfl,_⟩:=hr.str_inv
  simp only[Instr.sameBits]
  exact(MapKept.bytes_beq b b).2 rfl
theorem mapUpdate_sound (I:Inv w0 ι h w) {t:TypeId} {m k v:NVal} {h':NHeap} (hu:nmapUpdate P t m k v h=some h') {rm rk rv:Value} (hm:VR ι m rm) (hk:VR ι k rk) (hv:VR ι v rv):
  ∃w',(Instr.mapUpdate t rm rk rv).run P w=.ok () w'∧Inv w0 ι h' w'∧Step ι h w ι h' w':=by
 unfold nmapUpdate at hu
 cases ht:P.underlying t with
 |none=>rw[ht] at hu;cases hu
 |some td=>
  rw[ht] at hu
  cases td with
  |map kt et=>
   cases m with
   |map r=>
    cases r with
    |none=>cases hu
    |some b=>
     simp only at hu
     split at hu
     ·rename_i hkt
      cases hg:h.get b with
      |none=>rw[hg] at hu;cases hu
      |some ob=>
       rw[hg] at hu
       cases ob with
       |cells _ _=>cases hu
       |dead=>cases hu
       |map es=>
        simp only at hu
        cases hs:nmapSet es k v with
        |none=>rw[hs] at hu;cases hu
        |some es'=>
         rw[hs] at hu;cases hu
         obtain⟨rb,s,m,hι,rfl⟩:=hm.map_inv
         obtain⟨rb1,s1,m1,ents,clock,q1,q2,q3,q4⟩:=I.maps b es hg
         rw[hι] at q1;cases q1
         obtain⟨kd,hkd⟩:=keyTy_some hkt
         have hgo:(getObj rb).run P w=.ok (.map ents clock) w:=by simp[getObj,Sem.run,q3]
         have hset:∀o,(setObj rb o).run P w=.ok () {w with heap:=w.heap.setIfInBounds rb o}:=fun o=>by simp[setObj,Sem.run,q3]
         obtain⟨f1,f2⟩:=keyIn_sound hkd hkt hk 0 q4
         unfold nmapSet at hs
         cases hki:nkeyIn k es with
         |none=>rw[hki] at hs;cases hs
         |some r=>
          rw[hki] at hs
          cases r with
          |none=>
           cases hs
           obtain⟨I',S'⟩:=I.setMap (es':=es++[(k,v)]) (ents':=ents.push {key:=rk,val:=rv,born:=clock}) (clock':=clock+1) hg hι q3 (by
            rw[Array.toList_push];exact q4.append (.cons ⟨hk,hv⟩ .nil))
           refine⟨_,?_,I',S'⟩
           simp[Instr.mapUpdate,run_underlying ht,hgo,key_isKey hkd hkt hk,Instr.findKey,run_underlying hkd,f1 hki,hset]
          |some p=>
           obtain⟨i,u⟩:=p
           cases hs
           obtain⟨e,g1,g2,g3,g4,g5⟩:=f2 i u hki
           obtain⟨I',S'⟩:=I.setMap (es':=es.set i (k,v)) (ents':=ents.modify i fun e=>{e with key:=rk,val:=rv}) (clock':=clock) hg hι q3 (by
            refine .of_get (by simpa using q4.length) fun j p e' hj hj'=>?_
            rw[Array.getElem?_toList,Array.getElem?_modify] at hj'
            rw[List.getElem?_set] at hj
            by_cases hij:i=j
            ·subst hij
             rw[if_pos rfl] at hj hj'
             rw[if_pos g5] at hj;cases hj
             rw[Array.getElem?_toList] at g2
             rw[g2] at hj';cases hj'
             exact⟨hk,hv⟩
            ·rw[if_neg hij] at hj hj'
             obtain⟨e2,h2,r2⟩:=q4.get hj
             rw[Array.getElem?_toList,hj'] at h2;cases h2;exact r2)
           refine⟨_,?_,I',S'⟩
           have hks:(ents[i]?).map (·.key)=some rk:=by rw[Array.getElem?_toList] at g2;rw[g2];simp[g4]
           simp[Instr.mapUpdate,run_underlying ht,hgo,key_isKey hkd hkt hk,Instr.findKey,run_underlying hkd,g1,hks,Instr.keyThatStays,sameBits_key hkt hk,hset]
     ·cases hu
   |_=>cases hu
  |_=>cases hu
theorem delete_sound (I:Inv w0 ι h w) {t ty:TypeId} {m k v:NVal} {h':NHeap} (hu:ndelete P t m k h=some (v,h')) {rm rk:Value} (hm:VR ι m rm) (hk:VR ι k rk) {argTypes:Array TypeId} (hat:argTypes[0]? =some t):
  ∃ι' w' rv,(Builtin.delete_ argTypes ty #[rm,rk]).run P w=.ok rv w'∧VR ι' v rv∧Inv w0 ι' h' w'∧Step ι h w ι' h' w':=by
 have tup:VR ι (.tuple []) (.tuple #[]):=.tuple' (by simpa using All2.nil)
 unfold ndelete at hu
 cases ht:P.underlying t with
 |none=>rw[ht] at hu;cases hu
 |some td=>
  rw[ht] at hu
  cases td with
  |map kt et=>
   cases m with
   |map r=>
    cases r with
    |none=>cases hu
    |some b=>
     simp only at hu
     split at hu
     ·rename_i hkt
      cases hg:h.get b with
      |none=>rw[hg] at hu;cases hu
      |some ob=>
       rw[hg] at hu
       cases ob with
       |cells _ _=>cases hu
       |dead=>cases hu
       |map es=>
        simp only at hu
        obtain⟨rb,s,m,hι,rfl⟩:=hm.map_inv
        obtain⟨rb1,s1,m1,ents,clock,q1,q2,q3,q4⟩:=I.maps b es hg
        rw[hι] at q1;cases q1
        obtain⟨kd,hkd⟩:=keyTy_some hkt
        have hgo:(getObj rb).run P w=.ok (.map ents clock) w:=by simp[getObj,Sem.run,q3]
        have hset:∀o,(setObj rb o).run P w=.ok () {w with heap:=w.heap.setIfInBounds rb o}:=fun o=>by simp[setObj,Sem.run,q3]
        obtain⟨f1,f2⟩:=keyIn_sound hkd hkt hk 0 q4
        cases hki:nkeyIn k es with
        |none=>rw[hki] at hu;cases hu
        |some r=>
         rw[hki] at hu
         cases r with
         |none=>
          cases hu
          obtain⟨I',S'⟩:=I.setMap (es':=es) (ents':=ents) (clock':=clock) hg hι q3 q4
          exact⟨ι,_,_,by simp[Builtin.delete_,hat,run_underlying ht,hgo,key_isKey hkd hkt hk,Instr.findKey,run_underlying hkd,f1 hki,hset],tup,I',S'⟩
         |some p=>
          obtain⟨i,u⟩:=p
          cases hu
          obtain⟨e,g1,g2,g3,g4,g5⟩:=f2 i u hki
          obtain⟨I',S'⟩:=I.setMap (es':=es.eraseIdx i) (ents':=ents.eraseIdxIfInBounds i) (clock':=clock) hg hι q3 (by
           have:(ents.eraseIdxIfInBounds i).toList=ents.toList.eraseIdx i:=by
            unfold Array.eraseIdxIfInBounds
            have hi:i<ents.size:=by have:=q4.length;simp at this;omega
            rw[dif_pos hi];simp
           rw[this];exact q4.eraseIdx i)
          exact⟨ι,_,_,by simp[Builtin.delete_,hat,run_underlying ht,hgo,key_isKey hkd hkt hk,Instr.findKey,run_underlying hkd,g1,hset],tup,I',S'⟩
     ·cases hu
   |_=>cases hu
  |_=>cases hu
theorem modify_push (a:Array Obj) (o:Obj) (f:Obj→Obj):(a.push o).modify a.size f=a.push (f o):=by
 apply Array.ext
 ·simp
 ·intro i h1 h2
  simp only[Array.getElem_modify,Array.getElem_push]
  by_cases hi:i<a.size
  ·simp[hi,Nat.ne_of_gt hi]
  ·have:i=a.size:=by simp at h1;omega
   subst this
   simp
theorem bytes_slice (I:Inv w0 ι h w) (s d e:TypeId) (bs:ByteArray) {sd:TypeDesc} (hs:P.underlying s=some sd) (hd:P.underlying d=some (.slice e)) (he:P.underlying e=some (.int .u8)):
  ∃ι' w' rv,(convert s d (.string bs)).run P w=.ok rv w'∧VR ι' (.slice (some (h.next,0)) bs.data.toList.length bs.data.toList.length (some 1)) rv∧
   Inv w0 ι' (h.alloc (.cells (bs.data.toList.map fun b=>.int .u8 b.toNat) (.own none))) w'∧Step ι h w ι' (h.alloc (.cells (bs.data.toList.map fun b=>.int .u8 b.toNat) (.own none))) w':=by
 have hge:=grownCap_ge w bs.size 0 e
 generalize hcap:grownCap w bs.size 0 e=cap at hge
 have hsz:bs.data.toList.length=bs.size:=by simp
 let c:Array Value:=(bs.data.map fun b=>Value.int .u8 b.toNat)++Array.replicate (cap-bs.size) (.int .u8 0)
 have hc:c.size=cap:=by
  have:bs.data.size=bs.size:=rfl
  simp only[c,Array.size_append,Array.size_map,Array.size_replicate];omega
 let w':World:={w with heap:=w.heap.push (.cells c e (cap,cap+1)),drawn:=w.drawn+1}
 have hp:Pushed w (.cells c e (cap,cap+1)) w':=⟨rfl,rfl,rfl,rfl⟩
 obtain⟨I',S'⟩:=I.push (o:=.cells (bs.data.toList.map fun b=>.int .u8 b.toNat) (.own none)) hp cap
  (fun cs t q=>by
   cases q
   refine⟨c,e,_,rfl,by omega,by simp;omega,fun i hi=>by simp only;omega,fun i v hi=>?_⟩
   rw[List.getElem?_map] at hi
   obtain⟨b,hb,rfl⟩:=Option.map_eq_some_iff.1 hi
   rw[Array.getElem?_toList] at hb
   have hlt:i<bs.data.size:=(Array.getElem?_eq_some_iff.1 hb).1
   refine⟨.int .u8 b.toNat,?_,.int _ _⟩
   simp only[c]
   rw[Array.getElem?_append_left (by simpa using hlt),Array.getElem?_map,hb];rfl)
  (fun _ q=>by cases q) (fun _ q=>by cases q) (fun _ _ _ q=>by cases q)
 refine⟨_,w',.slice (some ⟨w.heap.size,0,none⟩) bs.size cap,?_,?_,I',S'⟩
 ·have conv:convert s d (.string bs)=(underlying s>>=fun us=>underlying d>>=fun ud=>convert s d (.string bs))∨True:=.inr trivial
  have hrun:(Conv.stringToBytes e bs).run P w=.ok (.slice (some ⟨w.heap.size,0,none⟩) bs.size cap) w':=by
   unfold Conv.stringToBytes
   have hchoose:(choose (.appendCap bs.size 0 e)).run P w=.ok cap w.drew:=by
    simp only[run_choose,Question.forced,Bool.false_eq_true,if_false,World.drew_eq]
    rw[←hcap];rfl
   simp only[Sem.run_bind,hchoose,Result.andThen_ok,newRow,run_newObj,Sem.run_pure,markStringish,run_shape]
   have hshape:World.shape? {w.drew with heap:=w.drew.heap.push (.cells c e)} w.heap.size=some (e,cap):=by
    simp only[World.shape?]
    have:(w.drew.heap.push (Obj.cells c e))[w.heap.size]? =some (.cells c e):=by
     show(w.heap.push (Obj.cells c e))[w.heap.size]? =_
     simp
    rw[this];simp[hc]
   have hsize:w.drew.heap.size=w.heap.size:=rfl
   rw[hsize]
   rw[hshape]
   simp only[Sem.run_bind,run_freeze,Result.andThen_ok,Sem.run_pure]
   congr 1
   unfold World.freeze
   rw[if_neg (by decide)]
   have:=modify_push w.heap (.cells c e) (fun
    | .cells c elem (lo,hi)=>.cells c elem (if lo==hi then(cap,cap+1) else(min lo cap,max hi (cap+1)))
    |o=>o)
   try simp only[beq_self_eq_true,if_true] at this
   show World.mk _ _ _ _ _=World.mk _ _ _ _ _
   congr 1
  rw[←hrun]
  unfold convert
  simp only[Sem.run_bind,run_underlying hs,run_underlying hd,run_underlying he,Result.andThen_ok]
 ·have:=VR.sliceMore (ι:=ι.upd h.next (w.heap.size,0,cap)) (b:=h.next) (o:=0) (z:=1) (len:=bs.size) (cap:=bs.size) (rcap:=cap) (by simp;exact⟨rfl,rfl,rfl⟩) hge hge (by omega)
  rw[hsz];simpa using this
theorem nunsafe_sound (I:Inv w0 ι h w) {s d:TypeId} {x v:NVal} (hn:nunsafe P s d x h=some v) {rx:Value} (hx:VR ι x rx):∃rv,VR ι v rv∧(convert s d rx).run P w=.ok rv w:=by
 unfold nunsafe at hn
 split at hn
 ·rename_i u1 u2 u3 t b hs hd
  split at hn
  ·rename_i v1 v2 c0 cs T k z hg hz
   cases hn
   obtain⟨rb,c,hι,hw,hk⟩:=I.typed b _ T _ hg
   obtain⟨rb',s',m',hι',rfl⟩:=hx.ptr_inv
   rw[hι] at hι';cases hι'
   have hsh:w.shape? rb=some (T,c.size):=by simp[World.shape?,hw]
   obtain⟨j,hj,hjs⟩:∃j,P.info? t=some j∧j.size=z+1:=by
    unfold szOf at hz
    cases hi:P.info? t with
    |none=>rw[hi] at hz;cases hz
    |some j=>rw[hi] at hz;simp only[Option.some.injEq] at hz;exact⟨j,rfl,hz⟩
   exact⟨_,hx,Lib.run_to_unsafe w ⟨rb,0+0,none⟩ hs hd hj (by omega) hsh (by show 0+0<c.size;omega)⟩
  ·cases hn
 ·rename_i u1 u2 u3 u b hs hd
  split at hn
  ·rename_i v1 v2 c0 cs T k z hg hz
   split at hn
   ·rename_i hl
    cases hn
    obtain⟨rb,c,hι,hw,hk⟩:=I.typed b _ T _ hg
    obtain⟨rb',s',m',hι',rfl⟩:=hx.ptr_inv
    rw[hι] at hι';cases hι'
    have hsh:w.shape? rb=some (T,c.size):=by simp[World.shape?,hw]
    obtain⟨j,hj,hjs⟩:∃j,P.info? u=some j∧j.size=z+1:=by
     unfold szOf at hz
     cases hi:P.info? u with
     |none=>rw[hi] at hz;cases hz
     |some j=>rw[hi] at hz;simp only[Option.some.injEq] at hz;exact⟨j,rfl,hz⟩
    have hcs:c.size=k+1:=hk.1.resolve_left (by omega)
    exact⟨_,hx,Lib.run_from_unsafe w ⟨rb,0+0,none⟩ hs hd hj hsh (by rw[hcs];exact hl)⟩
   ·cases hn
  ·cases hn
 ·cases hn
theorem Inv.give (I:Inv w0 ι h w) {b:Nat} {cs:List NVal} {t:Option (TypeId×Nat)} (hb:h.get b=some (.cells cs (.own t))) {rb s m:Nat} (hι:ι b=some (rb,s,m)) {w':World}
  (hos:w'.os=w.os) (htape:w'.tape=w.tape) (hout:w'.output=w.output) (hsz:w'.heap.size=w.heap.size) (hother:∀k,k≠rb→w'.heap[k]? =w.heap[k]?):
  Inv w0 ι (h.set b .dead) w'∧Step ι h w ι (h.set b .dead) w':=by
 have hlt:=NHeap.get_lt hb
 obtain⟨rb1,s1,m1,c1,e1,fz1,q1,q2,q3,q4,q5,q6,q7⟩:=I.cells b cs hb
 rw[hι] at q1;cases q1
 have get:∀{b' ob'},(h.set b .dead).get b'=some ob'→(b'=b∧ob'=.dead)∨(b'≠b∧h.get b'=some ob'):=by
  intro b' ob' e
  rw[NHeap.get_set] at e
  split at e
  ·rename_i hh;cases e;exact .inl ⟨hh.1,rfl⟩
  ·rename_i hh;exact .inr ⟨fun q=>hh ⟨q,hlt⟩,e⟩
 have ne_of:∀{b' ob' rb' s' m'},b'≠b→h.get b'=some ob'→ob'.owned=true→ι b'=some (rb',s',m')→rb'≠rb:=by
  intro b' ob' rb' s' m' hne hg how hi q
  subst q
  exact hne (I.inj b' b ob' _ rb' s' s m' m hg how hb rfl hi hι)
 refine⟨⟨I.below.trans ⟨hos,htape,hout,by rw[hsz];exact Nat.le_refl _,fun k hk=>hother k (by omega)⟩,fun b' x q=>by simpa using I.fresh b' x q,?_,?_,?_,?_,?_⟩,⟨ι.le_refl,fun _ _ q=>.inl q,by rw[hsz];exact Nat.le_refl _,?_,?_,by simp⟩⟩
 ·intro b' ds t' q
  rcases get q with⟨rfl,q'⟩|⟨hne,q'⟩
  ·cases q'
  ·obtain⟨rb',s',m',c2,e2,fz2,h1,h2,h3,h4⟩:=I.cells b' ds q'
   exact⟨rb',s',m',c2,e2,fz2,h1,h2,by rw[hother rb' (ne_of hne q' rfl h1)];exact h3,h4⟩
 ·intro b' ds T k q
  rcases get q with⟨rfl,q'⟩|⟨hne,q'⟩
  ·cases q'
  ·obtain⟨rb',c2,h1,h2,h3⟩:=I.typed b' ds T k q'
   exact⟨rb',c2,h1,by rw[hother rb' (ne_of hne q' rfl h1)];exact h2,h3⟩
 ·intro b' ds q
  rcases get q with⟨rfl,q'⟩|⟨hne,q'⟩
  ·cases q'
  ·exact I.ro b' ds q'
 ·intro b' es q
  rcases get q with⟨rfl,q'⟩|⟨hne,q'⟩
  ·cases q'
  ·obtain⟨rb',s',m',ents,k,h1,h2,h3,h4⟩:=I.maps b' es q'
   exact⟨rb',s',m',ents,k,h1,h2,by rw[hother rb' (ne_of hne q' rfl h1)];exact h3,h4⟩
 ·intro b1 b2 o1 o2 rb' s1 s2 m1 m2 g1 w1 g2 w2 i1 i2
  rcases get g1 with⟨rfl,p1⟩|⟨n1,p1⟩
  ·subst p1;simp[NObj.owned] at w1
  ·rcases get g2 with⟨rfl,p2⟩|⟨n2,p2⟩
   ·subst p2;simp[NObj.owned] at w2
   ·exact I.inj b1 b2 o1 o2 rb' s1 s2 m1 m2 p1 w1 p2 w2 i1 i2
 ·intro k hk hno
  exact hother k (fun q=>hno (by subst q;exact⟨b,_,s,m,hb,rfl,hι⟩))
 ·rintro k ⟨b',ob',s',m',g,ho,hi⟩
  rcases get g with⟨rfl,g2⟩|⟨hne,g2⟩
  ·subst g2;simp[NObj.owned] at ho
  ·exact .inl ⟨b',ob',s',m',g2,ho,hi⟩
theorem allBytes_spec:∀{l:List NVal} {ns:List UInt8},allBytes l=true→bytesVals l=some ns→l=ns.map fun b=>.int .u8 (b.toNat:Int)
 |[],ns,h1,h2=>by simp only[bytesVals,Option.some.injEq] at h2;subst h2;rfl
 |v::l,ns,h1,h2=>by
  unfold allBytes at h1
  split at h1
  ·rename_i heq;cases heq
  ·rename_i n l' heq
   simp only[List.cons.injEq] at heq
   obtain⟨rfl,rfl⟩:=heq
   simp only[Bool.and_eq_true,decide_eq_true_eq] at h1
   unfold bytesVals at h2
   simp only[byteVal] at h2
   cases hl:bytesVals l with
   |none=>rw[hl] at h2;cases h2
   |some r=>
    rw[hl] at h2
    simp only[Option.some.injEq] at h2
    subst h2
    rw[List.map_cons,←allBytes_spec h1.2 hl]
    congr 2
    have:n.toNat<256:=by omega
    rw[UInt8.toNat_ofNat_of_lt' this]
    omega
  ·cases h1
theorem freeze_other (w:World) (a:Addr) (n k:Nat) (hk:k≠a.block):(w.freeze a n).heap[k]? =w.heap[k]? :=by
 unfold World.freeze
 split
 ·rfl
 ·simp[Array.getElem?_modify,Ne.symm hk]
theorem freeze_size (w:World) (a:Addr) (n:Nat):(w.freeze a n).heap.size=w.heap.size:=by
 unfold World.freeze
 split<;>simp
theorem nstring_sound (I:Inv w0 ι h w) {pt it ty:TypeId} {p n v:NVal} {h':NHeap} (hn:nstring P pt p n h=some (v,h')) {rp rn:Value} (hp:VR ι p rp) (hnr:VR ι n rn):
  ∃ι' w' rv,(Builtin.unsafeString_ #[pt,it] ty #[rp,rn]).run P w=.ok rv w'∧VR ι' v rv∧Inv w0 ι' h' w'∧Step ι h w ι' h' w':=by
 unfold nstring at hn
 split at hn
 ·rename_i k
  cases hn
  cases hp
  cases hnr
  refine⟨ι,w,.string .empty,?_,.str .empty,I,Step.refl _ _ _⟩
  rfl
 ·rename_i b n
  split at hn
  ·rename_i v1 v2 cs T q e hg hu
   split at hn
   ·rename_i hc
    obtain⟨rfl,hc1,hc2,hc3,hc4,hc5⟩:=hc
    cases hb:bytesVals (cs.take n) with
    |none=>rw[hb] at hn;cases hn
    |some l=>
     rw[hb] at hn;cases hn
     obtain⟨rb,c,hι,hw,hk⟩:=I.typed b _ e _ hg
     obtain⟨rb',s',m',hι',rfl⟩:=hp.ptr_inv
     rw[hι] at hι';cases hι'
     cases hnr
     have hl:=allBytes_spec hc5 hb
     have hln:l.length=n:=by
      have:=congrArg List.length hl
      simp at this;omega
     have hsh:w.shape? rb=some (e,c.size):=by simp[World.shape?,hw]
     obtain⟨rb1,s1,m1,c1,e1,fz1,q1,q2,q3,q4,q5,q6,q7⟩:=I.cells b cs hg
     rw[hι] at q1;cases q1
     have hcell:∀j x,l[j]? =some x→w.cell? ((⟨rb,0,none⟩:Addr).add j)=some (.int .u8 x.toNat):=by
      intro j x hj
      have hjn:j<n:=by rw[←hln];exact(List.getElem?_eq_some_iff.1 hj).1
      have hcj:cs[j]? =some (.int .u8 (x.toNat:Int)):=by
       have h1:(cs.take n)[j]? =some (.int .u8 (x.toNat:Int)):=by rw[hl,List.getElem?_map,hj];rfl
       rwa[List.getElem?_take,if_pos hjn] at h1
      obtain⟨r,hr,hv⟩:=I.cell hg hι hcj
      cases hv
      rw[add_at];exact hr
     have hrun:=Lib.run_unsafeString_row w pt it ty e hu hc1 rb c.size hsh l (by intro h0;rw[h0] at hln;simp at hln;omega) (by rw[hln];omega) (by omega) hcell
     rw[hln] at hrun
     obtain⟨I',S'⟩:=I.give hg hι (w':=w.freeze ⟨rb,0,none⟩ n) (by unfold World.freeze;split<;>rfl) (by unfold World.freeze;split<;>rfl) (by unfold World.freeze;split<;>rfl) (freeze_size _ _ _) (fun k hk=>freeze_other _ _ _ _ hk)
     exact⟨ι,_,.string ⟨l.toArray⟩,hrun,by have:=VR.str (ι:=ι) ⟨l.toArray⟩;simpa using this,I',S'⟩
   ·cases hn
  ·cases hn
 ·cases hn
theorem eff_sound (I:Inv w0 ι h w) {o:Oper} {ρ:Operand→Option NVal} {re:Operand→Value} (hr:∀x∈o.op.operands,∀u,ρ x=some u→VR ι u (re x)) {v:NVal} {h':NHeap} (hv:effOp P ρ h o.op=some (v,h')):
  ∃ι' w' nx rv,(execOp re o).run P w=.ok nx w'∧(nx=.value rv∨(nx=.skip∧rv=undef))∧VR ι' v rv∧Inv w0 ι' h' w'∧Step ι h w ι' h' w':=by
 obtain⟨dst,op,ty,pos,after,guard⟩:=o
 simp only at hv hr
 have liftV:∀{s:Sem Value},(∃ι' w' rv,s.run P w=.ok rv w'∧VR ι' v rv∧Inv w0 ι' h' w'∧Step ι h w ι' h' w')→
   ∃ι' w' nx rv,(do pure (.value (←s)):Sem Next).run P w=.ok nx w'∧(nx=.value rv∨(nx=.skip∧rv=undef))∧VR ι' v rv∧Inv w0 ι' h' w'∧Step ι h w ι' h' w':=by
  rintro s ⟨ι',w',rv,h1,h2,h3,h4⟩
  exact⟨ι',w',.value rv,rv,by simp[h1],.inl rfl,h2,h3,h4⟩
 have liftU:∀{s:Sem Unit},v=nundef→(∃w',s.run P w=.ok () w'∧Inv w0 ι h' w'∧Step ι h w ι h' w')→
   ∃ι' w' nx rv,(do s;pure .skip:Sem Next).run P w=.ok nx w'∧(nx=.value rv∨(nx=.skip∧rv=undef))∧VR ι' v rv∧Inv w0 ι' h' w'∧Step ι h w ι' h' w':=by
  rintro s e ⟨w',h1,h3,h4⟩
  exact⟨ι,w',.skip,undef,by simp[h1],.inr ⟨rfl,rfl⟩,by subst e;exact .undef,h3,h4⟩
 have mapU:∀{t m k x},(∀y∈[m,k,x],∀u,ρ y=some u→VR ι u (re y))→(match ρ m,ρ k,ρ x with
   |some m,some k,some x=>(match nmapUpdate P t m k x h with|some h'=>some (nundef,h')|none=>none)
   |_,_,_=>none)=some (v,h')→v=nundef∧∃w',(Instr.mapUpdate t (re m) (re k) (re x)).run P w=.ok () w'∧Inv w0 ι h' w'∧Step ι h w ι h' w':=by
  intro t m k x hy hq
  cases hm:ρ m with
  |none=>rw[hm] at hq;cases hq
  |some m1=>cases hk:ρ k with
   |none=>rw[hm,hk] at hq;cases hq
   |some k1=>cases hx:ρ x with
    |none=>rw[hm,hk,hx] at hq;cases hq
    |some x1=>
     rw[hm,hk,hx] at hq;simp only at hq
     cases hn:nmapUpdate P t m1 k1 x1 h with
     |none=>rw[hn] at hq;cases hq
     |some h1=>
      rw[hn] at hq;cases hq
      exact⟨rfl,mapUpdate_sound I hn (hy m (by simp) _ hm) (hy k (by simp) _ hk) (hy x (by simp) _ hx)⟩
 cases op<;>simp only[effOp] at hv<;>try(cases hv;done)
 case insert t m k x=>
  obtain⟨e,r⟩:=mapU (fun y hy u hu=>hr y (by simp[Op.operands] at hy⊢;exact hy) u hu) hv
  exact liftU e r
 case store t x y=>
  cases hx:ρ x with
  |none=>rw[hx] at hv;cases hv
  |some u=>cases hy:ρ y with
   |none=>rw[hx,hy] at hv;cases u with
    |ptr a=>cases a<;>cases hv
    |_=>cases hv
   |some u'=>
    rw[hx,hy] at hv
    cases u with
    |ptr a=>cases a with
     |none=>cases hv
     |some a=>
      obtain⟨b,o⟩:=a
      simp only at hv
      cases hn:nstore P t (b,o) u' h with
      |none=>rw[hn] at hv;cases hv
      |some h1=>
       rw[hn] at hv;cases hv
       exact liftU rfl (store_sound I hn (hr x (by simp[Op.operands]) _ hx) (hr y (by simp[Op.operands]) _ hy))
    |_=>cases hv
 case convert s d x=>
  cases hx:ρ x with
  |none=>rw[hx] at hv;cases hv
  |some u=>
   rw[hx] at hv
   have other:(match nunsafe P s d u h with|some v=>some (v,h)|none=>none)=some (v,h')→
     ∃ι' w' nx rv,(execOp re {dst:=dst,op:=.convert s d x,type:=ty,pos:=pos,after:=after,guard:=guard}).run P w=.ok nx w'∧(nx=.value rv∨(nx=.skip∧rv=undef))∧VR ι' v rv∧Inv w0 ι' h' w'∧Step ι h w ι' h' w':=by
    intro hq
    cases hn:nunsafe P s d u h with
    |none=>rw[hn] at hq;cases hq
    |some v1=>
     rw[hn] at hq;cases hq
     obtain⟨rv,r1,r2⟩:=nunsafe_sound I hn (hr x (by simp[Op.operands]) _ hx)
     exact liftV ⟨ι,w,rv,r2,r1,I,Step.refl _ _ _⟩
   cases u with
   |str l=>
    simp only at hv
    cases hs:P.underlying s with
    |none=>rw[hs] at hv;cases hv
    |some sd=>cases hd:P.underlying d with
     |none=>rw[hs,hd] at hv;cases hv
     |some dd=>
      rw[hs,hd] at hv
      cases dd with
      |slice e=>
       simp only at hv
       cases he:P.underlying e with
       |none=>rw[he] at hv;cases hv
       |some ed=>
        rw[he] at hv
        have hed:ed=.int .u8:=by
         cases ed with
         |int k=>cases k<;>first|rfl|(cases hv;done)
         |_=>cases hv
        subst hed
        simp only at hv
        split at hv
        ·rename_i hle;cases hv
         obtain⟨bs,e1,rfl⟩:=(hr x (by simp[Op.operands]) _ hx).str_inv
         have h8:=bytes_slice I s d e bs hs hd he
         rw[←e1] at h8
         exact liftV h8
        ·cases hv
      |_=>cases hv
   |_=>exact other hv
 case mapUpdate t m k x=>
  obtain⟨e,r⟩:=mapU (fun y hy u hu=>hr y (by simp[Op.operands] at hy⊢;exact hy) u hu) hv
  exact liftU e r
 case call c=>
  obtain⟨callee,args,argTypes⟩:=c
  cases callee with
  |value f=>cases hv
  |invoke r m=>cases hv
  |builtin b=>
   have hargs:∀x∈args.toList,∀u,ρ x=some u→VR ι u (re x):=fun x hx u hu=>hr x (by simp[Op.operands,Call.operands];simpa using hx) u hu
   have exec:∀{s:Sem Value},(∀cs,builtin b argTypes ty cs (args.map re)=do pure (.value (←s)))→(∃ι' w' rv,s.run P w=.ok rv w'∧VR ι' v rv∧Inv w0 ι' h' w'∧Step ι h w ι' h' w')→
     ∃ι' w' nx rv,(execOp re {dst:=dst,op:=.call {callee:=.builtin b,args:=args,argTypes:=argTypes},type:=ty,pos:=pos,after:=after,guard:=guard}).run P w=.ok nx w'∧
      (nx=.value rv∨(nx=.skip∧rv=undef))∧VR ι' v rv∧Inv w0 ι' h' w'∧Step ι h w ι' h' w':=by
    rintro s hb ⟨ι',w',rv,h1,h2,h3,h4⟩
    refine⟨ι',w',.value rv,rv,?_,.inl rfl,h2,h3,h4⟩
    simp only[execOp,resolve,invoke,Sem.run_bind,Sem.run_pure,Result.andThen_ok]
    rw[hb];simp[h1]
   have two:∀{a c:Operand},args.toList=[a,c]→args.map re=#[re a,re c]:=by
    intro a c e
    have:args=#[a,c]:=by rw[←Array.toArray_toList (xs:=args),e]
    subst this;simp
   have onearg:∀{a:Operand},args.toList=[a]→args.map re=#[re a]:=by
    intro a e
    have:args=#[a]:=by rw[←Array.toArray_toList (xs:=args),e]
    subst this;simp
   have at0:∀{t ts},argTypes.toList=t::ts→argTypes[0]? =some t:=by
    intro t ts e;rw[←Array.getElem?_toList,e];rfl
   cases b<;>simp only at hv<;>try(cases hv;done)
   ·
    refine exec (fun _=>rfl) ?_
    cases hl:args.toList with
    |nil=>rw[hl] at hv;cases hv
    |cons a r1=>cases r1 with
     |nil=>rw[hl] at hv;cases hv
     |cons c r2=>cases r2 with
      |cons _ _=>rw[hl] at hv;cases hv
      |nil=>cases ht:argTypes.toList with
       |nil=>rw[hl,ht] at hv;cases hv
       |cons st t1=>cases t1 with
        |nil=>rw[hl,ht] at hv;cases hv
        |cons xt t2=>cases t2 with
         |cons _ _=>rw[hl,ht] at hv;cases hv
         |nil=>
          rw[hl,ht] at hv;simp only at hv
          cases ha:ρ a with
          |none=>rw[ha] at hv;cases hv
          |some u=>cases hc:ρ c with
           |none=>rw[ha,hc] at hv;cases hv
           |some u'=>
            rw[ha,hc] at hv
            have eat:argTypes=#[st,xt]:=by rw[←Array.toArray_toList (xs:=argTypes),ht]
            rw[two hl,eat]
            exact append_sound I hv (hargs a (by simp[hl]) _ ha) (hargs c (by simp[hl]) _ hc)
   ·
    refine exec (fun _=>rfl) ?_
    cases hl:args.toList with
    |nil=>rw[hl] at hv;cases hv
    |cons a r1=>cases r1 with
     |cons _ _=>rw[hl] at hv;cases hv
     |nil=>cases ht:argTypes.toList with
      |nil=>rw[hl,ht] at hv;cases hv
      |cons t ts=>
       rw[hl,ht] at hv;simp only at hv
       cases ha:ρ a with
       |none=>rw[ha] at hv;cases hv
       |some u=>rw[ha] at hv;rw[onearg hl];exact clear_sound I hv (hargs a (by simp[hl]) _ ha) (at0 ht)
   ·
    refine exec (fun _=>rfl) ?_
    cases hl:args.toList with
    |nil=>rw[hl] at hv;cases hv
    |cons a r1=>cases r1 with
     |nil=>rw[hl] at hv;cases hv
     |cons c r2=>cases r2 with
      |cons _ _=>rw[hl] at hv;cases hv
      |nil=>cases ht:argTypes.toList with
       |nil=>rw[hl,ht] at hv;cases hv
       |cons t ts=>
        rw[hl,ht] at hv;simp only at hv
        cases ha:ρ a with
        |none=>rw[ha] at hv;cases hv
        |some u=>cases hc:ρ c with
         |none=>rw[ha,hc] at hv;cases hv
         |some u'=>rw[ha,hc] at hv;rw[two hl];exact copy_sound (st':=0) (rest:=[]) I hv (hargs a (by simp[hl]) _ ha) (hargs c (by simp[hl]) _ hc) (at0 ht)
   ·
    refine exec (fun _=>rfl) ?_
    cases hl:args.toList with
    |nil=>rw[hl] at hv;cases hv
    |cons a r1=>cases r1 with
     |nil=>rw[hl] at hv;cases hv
     |cons c r2=>cases r2 with
      |cons _ _=>rw[hl] at hv;cases hv
      |nil=>cases ht:argTypes.toList with
       |nil=>rw[hl,ht] at hv;cases hv
       |cons t ts=>
        rw[hl,ht] at hv;simp only at hv
        cases ha:ρ a with
        |none=>rw[ha] at hv;cases hv
        |some u=>cases hc:ρ c with
         |none=>rw[ha,hc] at hv;cases hv
         |some u'=>rw[ha,hc] at hv;rw[two hl];exact delete_sound I hv (hargs a (by simp[hl]) _ ha) (hargs c (by simp[hl]) _ hc) (at0 ht)
   ·
    refine exec (fun _=>rfl) ?_
    cases hl:args.toList with
    |nil=>rw[hl] at hv;cases hv
    |cons a r1=>cases r1 with
     |cons _ _=>rw[hl] at hv;cases hv
     |nil=>
      rw[hl] at hv;simp only at hv
      rw[onearg hl]
      cases ha:ρ a with
      |none=>rw[ha] at hv;cases hv
      |some u=>
       rw[ha] at hv
       have hra:=hargs a (by simp[hl]) _ ha
       cases u with
       |slice bo len cap xx=>
        cases bo with
        |none=>
         cases hv
         generalize hrv:re a=ra at hra
         cases hra
         exact⟨ι,w,_,Lib.run_unsafeSliceData_nil w _ _ _ _,.ptrNil,I,Step.refl _ _ _⟩
        |some bo=>
         cases cap with
         |zero=>cases hv
         |succ cap=>
          cases hv
          generalize hrv:re a=ra at hra
          cases hra with
          |slice hι hl hc=>subst hc;exact⟨ι,w,_,Lib.run_unsafeSliceData_row w _ _ _ _ _ (by omega),.ptr hι,I,Step.refl _ _ _⟩
          |sliceMore hι hl hc hm=>exact⟨ι,w,_,Lib.run_unsafeSliceData_row w _ _ _ _ _ (by omega),.ptr hι,I,Step.refl _ _ _⟩
       |_=>cases hv
   ·
    refine exec (fun _=>rfl) ?_
    cases hl:args.toList with
    |nil=>rw[hl] at hv;cases hv
    |cons a r1=>cases r1 with
     |nil=>rw[hl] at hv;cases hv
     |cons c r2=>cases r2 with
      |cons _ _=>rw[hl] at hv;cases hv
      |nil=>cases ht:argTypes.toList with
       |nil=>rw[hl,ht] at hv;cases hv
       |cons st t1=>cases t1 with
        |nil=>rw[hl,ht] at hv;cases hv
        |cons xt t2=>cases t2 with
         |cons _ _=>rw[hl,ht] at hv;cases hv
         |nil=>
          rw[hl,ht] at hv;simp only at hv
          cases ha:ρ a with
          |none=>rw[ha] at hv;cases hv
          |some u=>cases hc:ρ c with
           |none=>rw[ha,hc] at hv;cases hv
           |some u'=>
            rw[ha,hc] at hv
            have eat:argTypes=#[st,xt]:=by rw[←Array.toArray_toList (xs:=argTypes),ht]
            rw[two hl,eat]
            exact nstring_sound I hv (hargs a (by simp[hl]) _ ha) (hargs c (by simp[hl]) _ hc)
end Go.Proofs.YtkjpldganajkkaaGreatDoor.NICE
namespace Go.Proofs.YtkjpldganajkkaaGreatDoor.NICE
open Go Go.RowKit
def SimF (P:Program) (f:FuncId) (args:List NVal) (h:NHeap) (v:NVal) (h':NHeap):Prop:=
 ∀(w0:World) (ι:Inj) (w:World) (ra:Array Value) (R:Ending→World→Prop),Inv w0 ι h w→VRs ι args ra.toList→
  (∀ι' w' rv,VR ι' v rv→Inv w0 ι' h' w'→Step ι h w ι' h' w'→R (.returned rv) w')→Calls P f ra w R
def RelOn (ι:Inj) (ρ:Operand→Option NVal) (re:Operand→Value) (l:Array Operand):Prop:=∀x∈l,∀u,ρ x=some u→VR ι u (re x)
def SimO (P:Program) (o:Oper) (ρ:Operand→Option NVal) (h:NHeap) (v:NVal) (h':NHeap):Prop:=
 ∀(w0:World) (ι:Inj) (w:World) (a:Act) (K:Act→World→Prop) (Q:Exit→Act→World→Prop),Inv w0 ι h w→RelOn ι ρ a.eval o.op.operands→
  (∀ι' w' rv,VR ι' v rv→Inv w0 ι' h' w'→Step ι h w ι' h' w'→K (a.put o.dst rv) w')→o.wp P a w K Q
def SimR (P:Program) (o:Oper) (ρ:Operand→Option NVal) (h:NHeap) (v:NVal):Prop:=
 ∀(w0:World) (ι:Inj) (w:World) (re:Operand→Value),Inv w0 ι h w→RelOn ι ρ re o.op.operands→∃rv,VR ι v rv∧(execOp re o).run P w=.ok (.value rv) w
variable {P:Program}
theorem SimR.of_pure {o:Oper} {ρ:Operand→Option NVal} {h:NHeap} {v:NVal} (e:pureOp P ρ o.op=some v):SimR P o ρ h v:=fun w0 ι w re I hr=>by
 obtain⟨rv,h1,h2⟩:=pure_sound hr e;exact⟨rv,h1,h2 w⟩
theorem SimR.of_read {o:Oper} {ρ:Operand→Option NVal} {h:NHeap} {v:NVal} (e:readOp P ρ h o.op=some v):SimR P o ρ h v:=fun w0 ι w re I hr=>read_sound I hr e
theorem SimR.simO {o:Oper} {ρ:Operand→Option NVal} {h:NHeap} {v:NVal} (s:SimR P o ρ h v):SimO P o ρ h v h:=fun w0 ι w a K Q I hr hK=>by
 obtain⟨rv,h1,h2⟩:=s w0 ι w a.eval I hr
 unfold Oper.wp
 rw[h2]
 exact hK ι w rv h1 I (Step.refl _ _ _)
theorem SimO.of_new {o:Oper} {ρ:Operand→Option NVal} {h:NHeap} {ob:NObj} {mk:Nat→NVal} (e:newOp P ρ o.op=some (ob,mk)):SimO P o ρ h (mk h.next) (h.alloc ob):=fun w0 ι w a K Q I hr hK=>by
 obtain⟨ι',w',rv,h1,h2,h3,h4,_⟩:=new_sound I hr e
 unfold Oper.wp
 rw[h1]
 exact hK ι' w' rv h2 h3 h4
theorem SimO.of_eff {o:Oper} {ρ:Operand→Option NVal} {h h':NHeap} {v:NVal} (e:effOp P ρ h o.op=some (v,h')):SimO P o ρ h v h':=fun w0 ι w a K Q I hr hK=>by
 obtain⟨ι',w',nx,rv,h1,hn,h2,h3,h4⟩:=eff_sound I hr e
 unfold Oper.wp
 rw[h1]
 rcases hn with rfl|⟨rfl,rfl⟩
 ·exact hK ι' w' rv h2 h3 h4
 ·exact hK ι' w' undef h2 h3 h4
def ncall (P:Program) (ρ:Operand→Option NVal) (h:NHeap) (c:Call):Option (FuncId×List NVal):=
 match c.callee with
 | .value f=>(match ρ f with
  |some (.func (.func g) first cap)=>(match evs ρ c.args.toList with|some asX=>some (g,first++asX++cap)|none=>none)
  |_=>none)
 | .invoke r name=>(match ρ r with
  |some (.iface t v)=>(match evs ρ c.args.toList,P.info? t with
   |some asX,some i=>(match i.methods.find? (·.name==name) with
    |some m=>if m.path.isEmpty then(match m.func,P.underlying t with
     |some (f,true),some (.pointer _)=>some (f,v::asX)
     |some (f,false),some (.pointer e)=>(match v with
      | .ptr (some a)=>(match nload P e a h with|some u=>some (f,u::asX)|none=>none)
      |_=>none)
     |_,_=>none) else none
    |none=>none)
   |_,_=>none)
  |_=>none)
 | .builtin _=>none
def Enters (P:Program) (f:FuncId):Prop:=∀args w,(callFunc f args).run P w=.ok (.enter f args) w
theorem run_nilchk (ts:Array TypeId) (t:TypeId) (a:Addr) (x y:ByteArray) (w:World):(Builtin.ssaWrapNilChk_ ts t #[.pointer (some a),.string x,.string y]).run P w=.ok (.pointer (some a)) w:=rfl
def Does (P:Program) (f:FuncId) (asX:List NVal) (h:NHeap) (v:NVal) (h':NHeap):Prop:=
 (Enters P f∧SimF P f asX h v h')∨(h'=h∧∀(w0:World) (ι:Inj) (w:World) (ra:Array Value),Inv w0 ι h w→VRs ι asX ra.toList→∃rv,VR ι v rv∧(callFunc f ra).run P w=.ok (.value rv) w)
theorem call_sound {o:Oper} {c:Call} (ho:o.op=.call c) {ρ:Operand→Option NVal} {h h':NHeap} {f:FuncId} {asX:List NVal} {v:NVal} (e:ncall P ρ h c=some (f,asX)) (hd:Does P f asX h v h'):SimO P o ρ h v h':=by
 intro w0 ι w a K Q I hr hK
 have enter:∀ra:Array Value,VRs ι asX ra.toList→(execOp a.eval o).run P w=(callFunc f ra).run P w→o.wp P a w K Q:=by
  intro ra hra hx
  unfold Oper.wp
  rw[hx]
  rcases hd with⟨hf,hs⟩|⟨rfl,hg⟩
  ·rw[hf ra w]
   exact hs w0 ι w ra _ I hra fun ι' w' rv h1 h2 h3=>hK ι' w' rv h1 h2 h3
  ·obtain⟨rv,h1,h2⟩:=hg w0 ι w ra I hra
   rw[h2]
   exact hK ι w rv h1 I (Step.refl _ _ _)
 obtain⟨callee,args,argTypes⟩:=c
 have hargs:∀l,evs ρ args.toList=some l→VRs ι l (args.map a.eval).toList:=by
  intro l hl
  have:=evs_sound (ι:=ι) (re:=a.eval) (fun x hx u hu=>hr x (by rw[ho];simp only[Op.operands,Call.operands];simp;exact .inr (by simpa using hx)) u hu) hl
  simpa using this
 unfold ncall at e
 cases callee with
 |builtin b=>cases e
 |value g=>
  simp only at e
  cases hg:ρ g with
  |none=>rw[hg] at e;cases e
  |some u=>
   rw[hg] at e
   cases u with
   |func fn first cap=>cases fn with
    |func g'=>
     simp only at e
     cases hl:evs ρ args.toList with
     |none=>rw[hl] at e;cases e
     |some l=>
      rw[hl] at e;cases e
      obtain⟨rf,rc,e1,r1,r2⟩:=(hr g (by rw[ho];simp[Op.operands,Call.operands]) _ hg).func_inv
      refine enter (rf++args.map a.eval++rc) ?_ ?_
      ·simp only[Array.toList_append];exact(r1.append (hargs l hl)).append r2
      ·obtain⟨dst,op,ty,pos,after,guard⟩:=o
       simp only at ho;subst ho
       simp only[execOp,resolve,e1,Deferred.ofValue,Sem.run_bind,Sem.run_pure,Result.andThen_ok,invoke]
    |_=>cases e
   |_=>cases e
 |invoke r name=>
  simp only at e
  cases hrr:ρ r with
  |none=>rw[hrr] at e;cases e
  |some u=>
   rw[hrr] at e
   cases u with
   |iface t x=>
    simp only at e
    cases hl:evs ρ args.toList with
    |none=>rw[hl] at e;cases e
    |some l=>cases hi:P.info? t with
     |none=>rw[hl,hi] at e;cases e
     |some i=>
      rw[hl,hi] at e;simp only at e
      cases hm:i.methods.find? (·.name==name) with
      |none=>rw[hm] at e;cases e
      |some m=>
       rw[hm] at e;simp only at e
       split at e
       ·rename_i hp
        have hpath:m.path.toList=[]:=by simpa using hp
        have hvx:=hr r (by rw[ho];simp[Op.operands,Call.operands]) _ hrr
        generalize hrv:a.eval r=rr at hvx
        cases hvx with
        |iface hx=>
         rename_i rx
         have go:∀f' pr recv,m.func=some (f',pr)→(receiverAt t (.val rx) pr (some ((name.splitOn ".").getLastD name))).run P w=.ok recv w→
           (execOp a.eval o).run P w=(callFunc f' (#[recv]++args.map a.eval)).run P w:=by
          intro f' pr recv hmf hrec
          obtain⟨dst,op,ty,pos,after,guard⟩:=o
          simp only at ho;subst ho
          have hmeth:∀n,(method (n+1) t rx name).run P w=.ok (f',recv) w:=by
           intro n
           unfold method
           simp only[Sem.run_bind,typeInfo,run_program,Result.andThen_ok,hi,Sem.run_pure,hm,hpath,follow]
           rw[hmf]
           simp only[hp,if_true,Sem.run_bind,Sem.run_pure]
           rw[hrec];rfl
          have hdep:P.types.size+Made.depth=(P.types.size+Made.depth-1)+1:=by
           have:0<Made.depth:=by decide
           omega
          simp only[execOp,resolve,invoke,Sem.run_bind,Sem.run_pure,Result.andThen_ok,hrv]
          have hext:(#[Value.iface t rx]++args.map a.eval).extract 1=args.map a.eval:=by
           apply Array.ext';simp;exact List.take_of_length_le (by simp)
          have h0:(#[Value.iface t rx]++args.map a.eval)[0]? =some (Value.iface t rx):=by rw[Array.getElem?_append_left (by simp)];rfl
          rw[h0,hext]
          simp only[callMethod,Sem.run_bind,run_program,Result.andThen_ok]
          rw[hdep,hmeth]
          rfl
         cases hmf:m.func with
         |none=>rw[hmf] at e;cases e
         |some fp=>
          obtain⟨f',pr⟩:=fp
          rw[hmf] at e
          cases hu:P.underlying t with
          |none=>rw[hu] at e;cases pr<;>cases e
          |some td=>
           rw[hu] at e
           cases pr with
           |true=>
            cases td with
            |pointer el=>
             cases e
             refine enter (#[rx]++args.map a.eval) ?_ (go _ _ rx hmf ?_)
             ·simp only[Array.toList_append];exact .cons hx (hargs l hl)
             ·simp[receiverAt,run_underlying hu,Place.get]
            |_=>cases e
           |false=>
            cases td with
            |pointer el=>
             simp only at e
             cases x with
             |ptr ap=>cases ap with
              |none=>cases e
              |some ap=>
               obtain⟨b,off⟩:=ap
               simp only at e
               cases hld:nload P el (b,off) h with
               |none=>rw[hld] at e;cases e
               |some u=>
                rw[hld] at e;cases e
                obtain⟨ru,hru,hrl⟩:=load_sound (P:=P) I hld hx
                obtain⟨rb,s,mm,hι,e2⟩:=hx.ptr_inv
                refine enter (#[ru]++args.map a.eval) ?_ (go _ _ ru hmf ?_)
                ·simp only[Array.toList_append];exact .cons hru (hargs l hl)
                ·subst e2
                 have hlv:(loadVar el ⟨rb,s+off,none⟩).run P w=.ok ru w:=by
                  simpa[Instr.loadAt,Instr.sureAddr] using hrl
                 simp only[receiverAt,Sem.run_bind,run_underlying hu,Result.andThen_ok,Place.get,Sem.run_pure,run_nilchk,asAddr,hlv,strVal]
             |_=>cases e
            |_=>cases e
       ·cases e
   |_=>cases e
end Go.Proofs.YtkjpldganajkkaaGreatDoor.NICE
namespace Go.Proofs.YtkjpldganajkkaaGreatDoor.NICE
open Go Go.RowKit
variable {P:Program}
def nput (ts:List NVal) (dst:Option Tmp) (v:NVal):List NVal:=match dst with|some d=>ts.set d v|none=>ts
theorem put_rel {ι:Inj} {ts:List NVal} {a:Act} (h:VRs ι ts a.tmps.toList) {v:NVal} {rv:Value} (hv:VR ι v rv) (dst:Option Tmp):VRs ι (nput ts dst v) (a.put dst rv).tmps.toList:=by
 cases dst with
 |none=>exact h
 |some d=>simp only[nput,Act.put,Array.toList_setIfInBounds];exact h.set hv
theorem put_defers (a:Act) (dst:Option Tmp) (v:Value):(a.put dst v).defers=a.defers:=by cases dst<;>rfl
def nwanted (ops:Array Oper) (o:Oper) (ts:List NVal):Option Bool:=
 match o.guard with
 |none=>some true
 |some (j,want)=>match(ops[j]?).bind (·.dst) with
  |none=>some false
  |some d=>match ts[d]? with
   |some (.bool b)=>some (b==want)
   |some .junk=>none
   |_=>some false
theorem wanted_sound {ops:Array Oper} {o:Oper} {ts:List NVal} {b:Bool} (h:nwanted ops o ts=some b) {tmps:Array Value}
  (hr:∀j want d,o.guard=some (j,want)→(ops[j]?).bind (·.dst)=some d→∀ι0:Unit,∃ι:Inj,(∀u,ts[d]? =some u→∃r,tmps[d]? =some r∧VR ι u r)∧(ts[d]? =none→tmps[d]? =none)):
  Region.wanted o (yielded ops tmps)=b:=by
 unfold nwanted at h
 unfold Region.wanted
 cases hg:o.guard with
 |none=>rw[hg] at h;cases h;rfl
 |some p=>
  obtain⟨j,want⟩:=p
  rw[hg] at h;simp only at h
  unfold yielded
  cases hd:(ops[j]?).bind (·.dst) with
  |none=>rw[hd] at h;cases h;simp[hd]
  |some d=>
   rw[hd] at h;simp only at h
   obtain⟨ι,h1,h2⟩:=hr j want d hg hd ()
   cases ht:ts[d]? with
   |none=>
    rw[ht] at h;cases h
    simp[hd,h2 ht]
   |some u=>
    rw[ht] at h
    obtain⟨r,hr1,hr2⟩:=h1 u ht
    simp only[hd,Option.bind_some,hr1]
    cases hr2<;>(try simp only at h)<;>cases h<;>first|rfl|simp
theorem wanted_of_VRs {ι:Inj} {ops:Array Oper} {o:Oper} {ts:List NVal} {b:Bool} (h:nwanted ops o ts=some b) {tmps:Array Value} (hr:VRs ι ts tmps.toList):Region.wanted o (yielded ops tmps)=b:=by
 refine wanted_sound h fun j want d _ _ _=>⟨ι,fun u hu=>?_,fun hn=>?_⟩
 ·obtain⟨r,h1,h2⟩:=hr.get hu;exact⟨r,by simpa using h1,h2⟩
 ·have:=hr.length
  rw[List.getElem?_eq_none_iff] at hn
  rw[Array.getElem?_eq_none_iff];simp at this;omega
theorem relOn_of_VRs {ι:Inj} {ts:List NVal} {a:Act} (h:VRs ι ts a.tmps.toList) (l:Array Operand):RelOn ι (ev ts) a.eval l:=fun x _ u hu=>ev_sound h hu
def upNew (op:Op) (ob:NObj):NObj:=match op with
 | .alloc t=>(match ob with| .cells cs (.own none)=>.cells cs (.own (some (t,cs.length)))|ob=>ob)
 |_=>ob
theorem SimO.of_new_up {o:Oper} {ρ:Operand→Option NVal} {h:NHeap} {ob:NObj} {mk:Nat→NVal} (e:newOp P ρ o.op=some (ob,mk)):SimO P o ρ h (mk h.next) (h.alloc (upNew o.op ob)):=by
 obtain⟨dst,op,ty,pos,after,guard⟩:=o
 simp only at e
 cases op
 case alloc t=>
  simp only[newOp] at e
  cases hz:zeroOf P t with
  |none=>rw[hz] at e;cases e
  |some z=>
   rw[hz] at e;cases e
   intro w0 ι w a K Q I hr hK
   obtain⟨i,rz,hi,hiz,hzr⟩:=zeroOf_sound (ι:=ι) hz
   have hlen:=hzr.cells.length
   obtain⟨I',S'⟩:=new_cells I (Pushed.alloc w (.cells rz.cells t)) hzr.cells (t:=some (t,z.cells.length)) (.inr (by rw[hlen];simp))
   unfold Oper.wp
   have hrun:(execOp a.eval {dst:=dst,op:=.alloc t,type:=ty,pos:=pos,after:=after,guard:=guard}).run P w=.ok (.value (.pointer (some ⟨w.heap.size,0,none⟩))) (w.alloc (.cells rz.cells t)):=by
    simp[execOp,Instr.alloc,run_zeroValue' hi hiz,newVar,newRow]
   rw[hrun]
   exact hK _ _ _ (.ptr (by simp;rfl)) I' S'
 all_goals exact SimO.of_new (o:={dst:=dst,op:=_,type:=ty,pos:=pos,after:=after,guard:=guard}) e
def stepOp (P:Program) (ρ:Operand→Option NVal) (o:Oper) (h:NHeap):Option (NVal×NHeap):=
 match pureOp P ρ o.op with
 |some v=>some (v,h)
 |none=>match readOp P ρ h o.op with
  |some v=>some (v,h)
  |none=>match newOp P ρ o.op with
   |some (ob,mk)=>some (mk h.next,h.alloc (upNew o.op ob))
   |none=>effOp P ρ h o.op
theorem stepOp_sound {ρ:Operand→Option NVal} {o:Oper} {h h':NHeap} {v:NVal} (e:stepOp P ρ o h=some (v,h')):SimO P o ρ h v h':=by
 unfold stepOp at e
 split at e
 ·rename_i u hu;cases e;exact(SimR.of_pure hu).simO
 ·split at e
  ·rename_i u hu;cases e;exact(SimR.of_read hu).simO
  ·split at e
   ·rename_i ob mk hu;cases e;exact .of_new_up hu
   ·exact .of_eff e
abbrev CallF:=FuncId→List NVal→NHeap→Option (NVal×NHeap)
def isGoCall:Op→Option Call
 | .call c=>(match c.callee with| .builtin _=>none|_=>some c)
 |_=>none
def doOp (P:Program) (F:CallF) (ρ:Operand→Option NVal) (o:Oper) (h:NHeap):Option (NVal×NHeap):=
 match isGoCall o.op with
 |some c=>(match ncall P ρ h c with|some (f,asX)=>F f asX h|none=>none)
 |none=>stepOp P ρ o h
def CallOk (P:Program) (F:CallF):Prop:=∀f asX h v h',F f asX h=some (v,h')→Does P f asX h v h'
theorem doOp_sound {F:CallF} (hF:CallOk P F) {ρ:Operand→Option NVal} {o:Oper} {h h':NHeap} {v:NVal} (e:doOp P F ρ o h=some (v,h')):SimO P o ρ h v h':=by
 unfold doOp at e
 split at e
 ·rename_i c hc
  have ho:o.op=.call c:=by
   unfold isGoCall at hc
   split at hc
   ·rename_i c' heq
    split at hc
    ·cases hc
    ·cases hc;exact heq
   ·cases hc
  split at e
  ·rename_i f asX hn
   exact call_sound ho hn (hF f asX h v h' e)
  ·cases e
 ·exact stepOp_sound e
def seqOps (P:Program) (F:CallF) (ops:Array Oper):List Oper→List NVal→NHeap→Option (List NVal×NHeap)
 |[],ts,h=>some (ts,h)
 |o::rest,ts,h=>match nwanted ops o ts with
  |none=>none
  |some false=>seqOps P F ops rest (nput ts o.dst nundef) h
  |some true=>match doOp P F (ev ts) o h with
   |none=>none
   |some (v,h')=>seqOps P F ops rest (nput ts o.dst v) h'
def SimC (P:Program) (c:Code) (ts:List NVal) (h:NHeap) (e:Exit) (ts':List NVal) (h':NHeap):Prop:=
 ∀(w0:World) (ι:Inj) (w:World) (a:Act) (Q:Exit→Act→World→Prop),Inv w0 ι h w→VRs ι ts a.tmps.toList→a.defers=[]→
  (∀ι' w' a',VRs ι' ts' a'.tmps.toList→a'.defers=[]→Inv w0 ι' h' w'→Step ι h w ι' h' w'→Q e a' w')→c.wp P Q a w
theorem seqOps_sound {F:CallF} (hF:CallOk P F) {ops:Array Oper}:∀{l:List Oper} {ts ts':List NVal} {h h':NHeap},seqOps P F ops l ts h=some (ts',h')→
  ∀(w0:World) (ι:Inj) (w:World) (a:Act) (Q:Exit→Act→World→Prop),Inv w0 ι h w→VRs ι ts a.tmps.toList→a.defers=[]→
   (∀ι' w' a',VRs ι' ts' a'.tmps.toList→a'.defers=[]→Inv w0 ι' h' w'→Step ι h w ι' h' w'→Q .normal a' w')→wpList P ops Q l a w
 |[],ts,ts',h,h',e=>by
  intro w0 ι w a Q I ht hd hQ
  cases e
  exact hQ ι w a ht hd I (Step.refl _ _ _)
 |o::rest,ts,ts',h,h',e=>by
  intro w0 ι w a Q I ht hd hQ
  unfold seqOps at e
  cases hw:nwanted ops o ts with
  |none=>rw[hw] at e;cases e
  |some b=>
   rw[hw] at e
   have hwant:=wanted_of_VRs hw ht
   cases b with
   |false=>
    simp only[wpList,hwant,Bool.false_eq_true,if_false]
    exact seqOps_sound hF e w0 ι w _ Q I (put_rel ht .undef o.dst) (by rw[put_defers];exact hd) hQ
   |true=>
    simp only at e
    cases hdo:doOp P F (ev ts) o h with
    |none=>rw[hdo] at e;cases e
    |some p=>
     obtain⟨v,h1⟩:=p
     rw[hdo] at e
     simp only[wpList,hwant,if_true]
     refine .inl (doOp_sound hF hdo w0 ι w a _ Q I (relOn_of_VRs ht _) fun ι' w' rv hv I' S'=>?_)
     exact seqOps_sound hF e w0 ι' w' _ Q I' (put_rel (ht.mono S'.ext) hv o.dst) (by rw[put_defers];exact hd) fun ι2 w2 a2 t2 d2 I2 S2=>hQ ι2 w2 a2 t2 d2 I2 (S'.trans S2)
theorem region_seq_sound {F:CallF} (hF:CallOk P F) {id:Nat} {ops:Array Oper} {ts ts':List NVal} {h h':NHeap} (e:seqOps P F ops ops.toList ts h=some (ts',h')):SimC P (.region id ops false) ts h .normal ts' h':=
 fun w0 ι w a Q I ht hd hQ=>wp_region_list (seqOps_sound hF e w0 ι w a Q I ht hd hQ)
end Go.Proofs.YtkjpldganajkkaaGreatDoor.NICE
namespace Go.Proofs.YtkjpldganajkkaaGreatDoor.NICE
open Go Go.RowKit
variable {P:Program}
abbrev DrawF:=CallF→Array Oper→List NVal→NHeap→Option (List NVal×NHeap)
def DrawOk (P:Program) (S:Array Oper→Bool) (D:DrawF):Prop:=∀F,CallOk P F→∀id ops,S ops=true→∀ts h ts' h',D F ops ts h=some (ts',h')→SimC P (.region id ops true) ts h .normal ts' h'
def codeStat (S:Array Oper→Bool):Code→Bool
 | .region _ ops true=>S ops
 | .seq a b=>codeStat S a&&codeStat S b
 | .cond _ a b=>codeStat S a&&codeStat S b
 | .block _ a=>codeStat S a
 | .loop a=>codeStat S a
 |_=>true
inductive Ex where
 |normal
 |exit (id:Nat)
 |ret
 deriving DecidableEq
def Ex.real:Ex→Exit
 | .normal=>.normal
 | .exit i=>.exit i
 | .ret=>.ret
abbrev Out:=Option (Ex×List NVal×NHeap)
def evC (P:Program) (D:DrawF) (F:CallF):Nat→Code→List NVal→NHeap→Out
 |0,_,_,_=>none
 |n+1,c,ts,h=>
  match c with
  | .skip=>some (.normal,ts,h)
  | .ret=>some (.ret,ts,h)
  | .exit i=>some (.exit i,ts,h)
  | .region _ ops draw=>(match(if draw then D F ops ts h else seqOps P F ops ops.toList ts h) with
   |some (ts',h')=>some (.normal,ts',h')
   |none=>none)
  | .seq a b=>(match evC P D F n a ts h with
   |some (.normal,ts',h')=>evC P D F n b ts' h'
   |r=>r)
  | .cond x a b=>(match ev ts x with
   |some (.bool true)=>evC P D F n a ts h
   |some (.bool false)=>evC P D F n b ts h
   |_=>none)
  | .block i a=>(match evC P D F n a ts h with
   |some (.exit j,ts',h')=>if j=i then some (.normal,ts',h') else some (.exit j,ts',h')
   |r=>r)
  | .loop a=>(match evC P D F n a ts h with
   |some (.normal,ts',h')=>evC P D F n (.loop a) ts' h'
   |r=>r)
  |_=>none
def RoundsOk (P:Program) (c:Code) (ts:List NVal) (h:NHeap) (e:Exit) (ts':List NVal) (h':NHeap):Prop:=
 ∃k,∀(w0:World) (ι:Inj) (w:World) (a:Act) (Q:Exit→Act→World→Prop),Inv w0 ι h w→VRs ι ts a.tmps.toList→a.defers=[]→
  (∀ι' w' a',VRs ι' ts' a'.tmps.toList→a'.defers=[]→Inv w0 ι' h' w'→Step ι h w ι' h' w'→Q e a' w')→Code.rounds P c Q k a w
theorem SimC.skip (ts:List NVal) (h:NHeap):SimC P .skip ts h .normal ts h:=fun w0 ι w a Q I ht hd hQ=>wp_skip (hQ ι w a ht hd I (Step.refl _ _ _))
theorem SimC.ret (ts:List NVal) (h:NHeap):SimC P .ret ts h .ret ts h:=fun w0 ι w a Q I ht hd hQ=>wp_ret (hQ ι w a ht hd I (Step.refl _ _ _))
theorem SimC.exit (i:Nat) (ts:List NVal) (h:NHeap):SimC P (.exit i) ts h (.exit i) ts h:=fun w0 ι w a Q I ht hd hQ=>wp_exit (hQ ι w a ht hd I (Step.refl _ _ _))
theorem SimC.seq {a b:Code} {ts ts1 ts2:List NVal} {h h1 h2:NHeap} {e:Exit} (ha:SimC P a ts h .normal ts1 h1) (hb:SimC P b ts1 h1 e ts2 h2):SimC P (.seq a b) ts h e ts2 h2:=
 fun w0 ι w x Q I ht hd hQ=>wp_seq (ha w0 ι w x _ I ht hd fun ι' w' a' t' d' I' S'=>
  hb w0 ι' w' a' Q I' t' d' fun ι2 w2 a2 t2 d2 I2 S2=>hQ ι2 w2 a2 t2 d2 I2 (S'.trans S2))
theorem SimC.seq_exit {a b:Code} {ts ts1:List NVal} {h h1:NHeap} {e:Exit} (ha:SimC P a ts h e ts1 h1) (he:e≠.normal):SimC P (.seq a b) ts h e ts1 h1:=
 fun w0 ι w x Q I ht hd hQ=>wp_seq (ha w0 ι w x _ I ht hd fun ι' w' a' t' d' I' S'=>by
  have:=hQ ι' w' a' t' d' I' S'
  cases e<;>first|exact absurd rfl he|exact this)
theorem SimC.cond {c:Operand} {t:Bool} {a b:Code} {ts ts1:List NVal} {h h1:NHeap} {e:Exit} (hc:ev ts c=some (.bool t)) (ha:SimC P (if t then a else b) ts h e ts1 h1):SimC P (.cond c a b) ts h e ts1 h1:=
 fun w0 ι w x Q I ht hd hQ=>wp_cond (t:=t) ((ev_sound ht hc).bool_inv) (ha w0 ι w x Q I ht hd hQ)
def outOf (i:Nat):Exit→Exit
 | .exit j=>if j=i then .normal else .exit j
 |e=>e
theorem SimC.block {i:Nat} {a:Code} {ts ts1:List NVal} {h h1:NHeap} {e:Exit} (ha:SimC P a ts h e ts1 h1):SimC P (.block i a) ts h (outOf i e) ts1 h1:=
 fun w0 ι w x Q I ht hd hQ=>wp_block (ha w0 ι w x _ I ht hd fun ι' w' a' t' d' I' S'=>by
  have:=hQ ι' w' a' t' d' I' S'
  cases e with
  |exit j=>
   simp only[Exit.inBlock,outOf] at this⊢
   by_cases hj:j=i
   ·rw[if_pos hj] at this⊢;exact this
   ·rw[if_neg hj] at this⊢;exact this
  |_=>exact this)
theorem RoundsOk.loop {a:Code} {ts ts1:List NVal} {h h1:NHeap} {e:Exit} (r:RoundsOk P a ts h e ts1 h1):SimC P (.loop a) ts h e ts1 h1:=by
 obtain⟨k,hk⟩:=r
 exact fun w0 ι w x Q I ht hd hQ=>wp_loop_rounds k (hk w0 ι w x Q I ht hd hQ)
theorem RoundsOk.last {a:Code} {ts ts1:List NVal} {h h1:NHeap} {e:Exit} (ha:SimC P a ts h e ts1 h1) (he:e≠.normal):RoundsOk P a ts h e ts1 h1:=
 ⟨1,fun w0 ι w x Q I ht hd hQ=>ha w0 ι w x _ I ht hd fun ι' w' a' t' d' I' S'=>by
  have:=hQ ι' w' a' t' d' I' S'
  cases e<;>first|exact absurd rfl he|exact this⟩
theorem RoundsOk.more {a:Code} {ts ts1 ts2:List NVal} {h h1 h2:NHeap} {e:Exit} (ha:SimC P a ts h .normal ts1 h1) (r:RoundsOk P a ts1 h1 e ts2 h2):RoundsOk P a ts h e ts2 h2:=by
 obtain⟨k,hk⟩:=r
 exact⟨k+1,fun w0 ι w x Q I ht hd hQ=>ha w0 ι w x _ I ht hd fun ι' w' a' t' d' I' S'=>hk w0 ι' w' a' Q I' t' d' fun ι2 w2 a2 t2 d2 I2 S2=>hQ ι2 w2 a2 t2 d2 I2 (S'.trans S2)⟩
theorem evC_sound {S:Array Oper→Bool} {D:DrawF} (hD:DrawOk P S D) {F:CallF} (hF:CallOk P F):∀(n:Nat) (c:Code),codeStat S c=true→∀(ts:List NVal) (h:NHeap) (e:Ex) (ts':List NVal) (h':NHeap),evC P D F n c ts h=some (e,ts',h')→
  SimC P c ts h e.real ts' h'∧∀a,c=.loop a→RoundsOk P a ts h e.real ts' h'
 |0,c,hs,ts,h,e,ts',h',q=>by cases q
 |n+1,c,hs,ts,h,e,ts',h',q=>by
  have ih:=evC_sound hD hF n
  cases c with
  |skip=>cases q;exact⟨.skip _ _,fun a ha=>by cases ha⟩
  |ret=>cases q;exact⟨.ret _ _,fun a ha=>by cases ha⟩
  |exit i=>cases q;exact⟨.exit _ _ _,fun a ha=>by cases ha⟩
  |region id ops draw=>
   refine⟨?_,fun a ha=>by cases ha⟩
   unfold evC at q
   cases draw with
   |true=>
    simp only[if_true] at q
    cases hx:D F ops ts h with
    |none=>rw[hx] at q;cases q
    |some p=>obtain⟨t1,h1⟩:=p;rw[hx] at q;cases q;exact hD F hF id ops hs ts h _ _ hx
   |false=>
    simp only[Bool.false_eq_true,if_false] at q
    cases hx:seqOps P F ops ops.toList ts h with
    |none=>rw[hx] at q;cases q
    |some p=>obtain⟨t1,h1⟩:=p;rw[hx] at q;cases q;exact region_seq_sound hF hx
  |seq a b=>
   refine⟨?_,fun a ha=>by cases ha⟩
   simp only[codeStat,Bool.and_eq_true] at hs
   unfold evC at q;simp only at q
   cases hx:evC P D F n a ts h with
   |none=>rw[hx] at q;cases q
   |some p=>
    obtain⟨e1,t1,h1⟩:=p
    rw[hx] at q
    cases e1 with
    |normal=>exact(ih _ hs.1 _ _ _ _ _ hx).1.seq (ih _ hs.2 _ _ _ _ _ q).1
    |exit j=>cases q;exact(ih _ hs.1 _ _ _ _ _ hx).1.seq_exit (by simp[Ex.real])
    |ret=>cases q;exact(ih _ hs.1 _ _ _ _ _ hx).1.seq_exit (by simp[Ex.real])
  |cond x a b=>
   refine⟨?_,fun a ha=>by cases ha⟩
   simp only[codeStat,Bool.and_eq_true] at hs
   unfold evC at q;simp only at q
   cases hx:ev ts x with
   |none=>rw[hx] at q;cases q
   |some u=>
    rw[hx] at q
    cases u with
    |bool t=>cases t with
     |true=>exact .cond hx (by simpa using(ih _ hs.1 _ _ _ _ _ q).1)
     |false=>exact .cond hx (by simpa using(ih _ hs.2 _ _ _ _ _ q).1)
    |_=>cases q
  |block i a=>
   refine⟨?_,fun a ha=>by cases ha⟩
   unfold evC at q;simp only at q
   cases hx:evC P D F n a ts h with
   |none=>rw[hx] at q;cases q
   |some p=>
    obtain⟨e1,t1,h1⟩:=p
    rw[hx] at q
    have:=(ih a hs _ _ _ _ _ hx).1.block (i:=i)
    cases e1 with
    |normal=>cases q;exact this
    |ret=>cases q;exact this
    |exit j=>
     simp only at q
     simp only[Ex.real,outOf] at this
     by_cases hj:j=i
     ·rw[if_pos hj] at q this;cases q;exact this
     ·rw[if_neg hj] at q this;cases q;exact this
  |loop a=>
   have key:RoundsOk P a ts h e.real ts' h':=by
    unfold evC at q;simp only at q
    cases hx:evC P D F n a ts h with
    |none=>rw[hx] at q;cases q
    |some p=>
     obtain⟨e1,t1,h1⟩:=p
     rw[hx] at q
     cases e1 with
     |normal=>exact .more (ih a hs _ _ _ _ _ hx).1 ((ih (.loop a) hs _ _ _ _ _ q).2 a rfl)
     |exit j=>cases q;exact .last (ih a hs _ _ _ _ _ hx).1 (by simp[Ex.real])
     |ret=>cases q;exact .last (ih a hs _ _ _ _ _ hx).1 (by simp[Ex.real])
   exact⟨key.loop,fun b hb=>by cases hb;exact key⟩
  |rangeFunc _ _ _ _=>cases q
  |scope _=>cases q
  |label _=>cases q
  |goto _=>cases q
  |refuse _=>cases q
def nresult (P:Program) (ts:List NVal) (h:NHeap):ResultVar→Option NVal
 | .tmp t=>some (ts.getD t nundef)
 | .cell a t=>(match ts.getD a nundef with
  | .ptr (some p)=>nload P t p h
  |_=>none)
def nresults (P:Program) (ts:List NVal) (h:NHeap):List ResultVar→Option (List NVal)
 |[]=>some []
 |r::rs=>match nresult P ts h r with
  |none=>none
  |some v=>match nresults P ts h rs with
   |none=>none
   |some vs=>some (v::vs)
def oneOr:List NVal→NVal
 |[v]=>v
 |vs=>.tuple vs
variable {w0 w:World} {ι:Inj} {h:NHeap}
def resSem (tmps:Array Value):ResultVar→Sem Value
 | .tmp t=>pure (tmps.getD t undef)
 | .cell a t=>do loadVar t (←asAddr (tmps.getD a undef))
theorem results_eq (fn:Func) (tmps:Array Value):results fn tmps=(fn.results.mapM (resSem tmps)>>=fun vs=>pure (if h:vs.size=1 then vs[0] else .tuple vs)):=by
 unfold results
 congr 2
theorem result_sound (I:Inv w0 ι h w) {ts:List NVal} {tmps:Array Value} (ht:VRs ι ts tmps.toList) {r:ResultVar} {v:NVal} (e:nresult P ts h r=some v):
  ∃rv,VR ι v rv∧(resSem tmps r).run P w=.ok rv w:=by
 cases r with
 |tmp t=>
  cases e
  have:=ht.getD VR.undef t
  exact⟨_,this,by simp[resSem]⟩
 |cell a t=>
  simp only[nresult] at e
  have hv:=ht.getD VR.undef a
  generalize hg:ts.getD a nundef=u at e hv
  cases u with
  |ptr p=>cases p with
   |none=>cases e
   |some p=>
    obtain⟨b,o⟩:=p
    simp only at e
    obtain⟨rv,h1,h2⟩:=load_sound (P:=P) I e hv
    obtain⟨rb,s,m,hι,e2⟩:=hv.ptr_inv
    refine⟨rv,h1,?_⟩
    have e3:tmps.getD a undef=.pointer (some ⟨rb,s+o,none⟩):=by rw[←e2];simp
    rw[e2] at h2
    simp only[resSem,Sem.run_bind,e3,asAddr,Sem.run_pure,Result.andThen_ok]
    simpa[Instr.loadAt,Instr.sureAddr] using h2
  |_=>cases e
theorem results_sound (I:Inv w0 ι h w) {ts:List NVal} {tmps:Array Value} (ht:VRs ι ts tmps.toList):∀{rs:List ResultVar} {vs:List NVal},nresults P ts h rs=some vs→
  ∃rvs,VRs ι vs rvs∧(rs.mapM (resSem tmps)).run P w=.ok rvs w
 |[],vs,e=>by simp only[nresults] at e;cases e;exact⟨[],.nil,by simp⟩
 |r::rs,vs,e=>by
  unfold nresults at e
  cases hr:nresult P ts h r with
  |none=>rw[hr] at e;cases e
  |some v=>cases hrs:nresults P ts h rs with
   |none=>rw[hr,hrs] at e;cases e
   |some vs'=>
    rw[hr,hrs] at e;cases e
    obtain⟨rv,h1,h2⟩:=result_sound I ht hr
    obtain⟨rvs,h3,h4⟩:=results_sound I ht hrs
    refine⟨rv::rvs,.cons h1 h3,?_⟩
    simp only[List.mapM_cons,Sem.run_bind,h2,Result.andThen_ok,h4,Sem.run_pure]
structure FnOk (P:Program) (f:FuncId) (c:Code) (nt:Nat) (rs:List ResultVar):Prop where
 fn:∃fn,P.funcs[f]? =some fn∧fn.body=some c∧fn.ntmps=nt∧fn.results.toList=rs
 enters:Enters P f
theorem oneOr_rel {vs:List NVal} {rvs:List Value} (hv:VRs ι vs rvs):VR ι (oneOr vs) (if h:rvs.toArray.size=1 then rvs.toArray[0] else .tuple rvs.toArray):=by
 cases hv with
 |nil=>exact .tuple' (by simpa using All2.nil)
 |cons a b=>
  cases b with
  |nil=>simpa[oneOr] using a
  |cons c d=>
   simp only[oneOr]
   rw[dif_neg (by simp)]
   exact .tuple' (by simpa using All2.cons a (All2.cons c d))
theorem fn_sound {f:FuncId} {c:Code} {nt:Nat} {rs:List ResultVar} (ok:FnOk P f c nt rs) {args ts':List NVal} {h':NHeap} {e:Exit} (he:e=.normal∨e=.ret) {vs:List NVal}
  (hc:SimC P c (args++List.replicate (nt-args.length) nundef) h e ts' h') (hr:nresults P ts' h' rs=some vs):SimF P f args h (oneOr vs) h':=by
 intro w0 ι w ra R I hra hR
 obtain⟨fn,h1,h2,h3,h4⟩:=ok.fn
 refine calls_of_wp h1 h2 (hc w0 ι w _ _ I ?_ rfl ?_)
 ·have hlen:=hra.length
  simp only[Array.toList_append,Array.toList_replicate]
  rw[h3,show ra.size=args.length by simpa using hlen.symm]
  exact hra.append (.replicate .undef _)
 ·intro ι' w' a' t' d' I' S'
  obtain⟨rvs,r1,r2⟩:=results_sound (P:=P) I' t' hr
  have fin:(results fn a'.tmps).run P w'=.ok (if h:rvs.toArray.size=1 then rvs.toArray[0] else .tuple rvs.toArray) w':=by
   rw[results_eq]
   simp only[Array.mapM_eq_mapM_toList,h4,Sem.run_bind,Sem.run_map,r2,Result.andThen_ok,Sem.run_pure]
  have:=hR ι' w' _ (oneOr_rel r1) I' S'
  rcases he with rfl|rfl<;>exact⟨d',_,fin,this⟩
structure Env (P:Program) (S:Array Oper→Bool) where
 get:FuncId→Option (Code×Nat×List ResultVar)
 ok:∀f c nt rs,get f=some (c,nt,rs)→FnOk P f c nt rs∧codeStat S c=true
 known:CallF
 knownOk:CallOk P known
def evF (P:Program) {S:Array Oper→Bool} (D:DrawF) (E:Env P S) (m:Nat):Nat→CallF
 |0=>fun _ _ _=>none
 |n+1=>fun f args h=>match E.known f args h with
  |some r=>some r
  |none=>match E.get f with
   |none=>none
   |some (c,nt,rs)=>match evC P D (evF P D E m n) m c (args++List.replicate (nt-args.length) nundef) h with
    |some (.exit _,_,_)=>none
    |none=>none
    |some (_,ts',h')=>match nresults P ts' h' rs with
     |none=>none
     |some vs=>some (oneOr vs,h')
theorem evF_step {S:Array Oper→Bool} {D:DrawF} (hD:DrawOk P S D) (E:Env P S) (m:Nat) {n:Nat} (ih:CallOk P (evF P D E m n)) {f:FuncId} {asX:List NVal} {h:NHeap} {v:NVal} {h':NHeap}
  (e:evF P D E m (n+1) f asX h=some (v,h')) (hk:E.known f asX h=none):Enters P f∧SimF P f asX h v h':=by
 unfold evF at e
 rw[hk] at e;simp only at e
 cases hg:E.get f with
 |none=>rw[hg] at e;cases e
 |some p=>
  obtain⟨c,nt,rs⟩:=p
  rw[hg] at e;simp only at e
  obtain⟨ok,st⟩:=E.ok f c nt rs hg
  refine⟨ok.enters,?_⟩
  cases hx:evC P D (evF P D E m n) m c (asX++List.replicate (nt-asX.length) nundef) h with
  |none=>rw[hx] at e;cases e
  |some q=>
   obtain⟨ex,ts',h1⟩:=q
   rw[hx] at e
   have hs:=(evC_sound hD ih m c st _ _ _ _ _ hx).1
   cases ex with
   |exit j=>cases e
   |normal=>
    simp only at e
    cases hr:nresults P ts' h1 rs with
    |none=>rw[hr] at e;cases e
    |some vs=>rw[hr] at e;cases e;exact fn_sound ok (.inl rfl) hs hr
   |ret=>
    simp only at e
    cases hr:nresults P ts' h1 rs with
    |none=>rw[hr] at e;cases e
    |some vs=>rw[hr] at e;cases e;exact fn_sound ok (.inr rfl) hs hr
theorem evF_sound {S:Array Oper→Bool} {D:DrawF} (hD:DrawOk P S D) (E:Env P S) (m:Nat):∀n,CallOk P (evF P D E m n)
 |0,f,asX,h,v,h',e=>by cases e
 |n+1,f,asX,h,v,h',e=>by
  cases hk:E.known f asX h with
  |some r=>unfold evF at e;rw[hk] at e;cases e;exact E.knownOk f asX h v h' hk
  |none=>exact .inl (evF_step hD E m (evF_sound hD E m n) e hk)
end Go.Proofs.YtkjpldganajkkaaGreatDoor.NICE
