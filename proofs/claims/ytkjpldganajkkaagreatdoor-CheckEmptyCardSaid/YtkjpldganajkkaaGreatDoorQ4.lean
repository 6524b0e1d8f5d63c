/-
  Nice24, Nice25, Nice26, as one text. Proved step by step; no conditions beside what is said.
-/
import Derived.JoinedOf
import Derived.Test.YtkjpldganajkkaaGreatDoorQ3
set_option linter.unusedSimpArgs false
set_option linter.unusedVariables false
set_option linter.unusedSectionVars false
set_option maxRecDepth 100000
namespace Go.Proofs.YtkjpldganajkkaaGreatDoor.NICE
open Go Go.RowKit
abbrev Rho:=Operand→Option NVal
def bind1 (a:Option NVal) (k:NVal→Option NVal):Option NVal:=match a with|some u=>k u|none=>none
def bind2 (a b:Option NVal) (k:NVal→NVal→Option NVal):Option NVal:=match a with|some u=>(match b with|some v=>k u v|none=>none)|none=>none
def kPick (c a b:Option NVal):Option NVal:=match c,a,b with|some (.bool t),some u,some v=>some (if t then u else v)|_,_,_=>none
def kBuild (P:Program) (t:TypeId) (ps:Option (List (Nat×NVal))):Option NVal:=match ps with|some ps=>nbuild P t ps|none=>none
def kNil (x:Option NVal):Option NVal:=match x with
  |some (.ptr (some a))=>some (.ptr (some a))
  |some (.func (.func f) a b)=>some (.func (.func f) a b)
  |_=>none
def kIface (P:Program) (t:TypeId) (x:Option NVal):Option NVal:=match x,P.underlying t with
  |some u,some (.interface _)=>none
  |some u,some _=>some (.iface t u)
  |_,_=>none
def kFunc (fn:Fn) (a b:Option (List NVal)):Option NVal:=match a,b with|some a,some b=>some (.func fn a b)|_,_=>none
def kSlice (P:Program) (t:TypeId) (mx:Option (Option NVal)) (x:Option NVal) (l h:Option (Option NVal)):Option NVal:=match mx,x,l,h with|some none,some u,some l,some h=>nslice P t u l h|some (some m),some u,some (some l),some (some h)=>nslice3 P t u l h m|_,_,_,_=>none
def kExtract (x:Option NVal) (i:Nat):Option NVal:=match x with|some (.tuple vs)=>vs[i]? |_=>none
def kLen (P:Program) (ρ:Rho) (args:Array Operand) (argTypes:Array TypeId):Option NVal:=match args.toList,argTypes.toList with
  |[x],t::_=>(match ρ x,P.underlying t with
   |some (.str s),some .string=>some (.int .i64 s.length)
   |some (.slice _ n _ _),some (.slice _)=>some (.int .i64 n)
   |_,_=>none)
  |_,_=>none
def kCap (P:Program) (ρ:Rho) (args:Array Operand) (argTypes:Array TypeId):Option NVal:=match args.toList,argTypes.toList with
  |[x],t::_=>(match ρ x,P.underlying t with
   |some (.slice _ _ c none),some (.slice _)=>some (.int .i64 c)
   |_,_=>none)
  |_,_=>none
def kMin (ρ:Rho) (args:Array Operand):Option NVal:=match evs ρ args.toList with|some (v::l)=>(match v with| .int _ _=>nmin v l|_=>none)|_=>none
def kMax (ρ:Rho) (args:Array Operand):Option NVal:=match evs ρ args.toList with|some (v::l)=>(match v with| .int _ _=>nmax v l|_=>none)|_=>none
def pureB (b:Builtin):Program→Rho→Array Operand→Array TypeId→Option NVal:=match b with
 | .len=>kLen
 | .cap=>kCap
 | .min=>fun _ ρ a _=>kMin ρ a
 | .max=>fun _ ρ a _=>kMax ρ a
 |_=>fun _ _ _ _=>none
def pureC (c:Callee):Program→Rho→Array Operand→Array TypeId→Option NVal:=match c with
 | .builtin b=>pureB b
 |_=>fun _ _ _ _=>none
def pureK (op:Op):Program→Rho→Option NVal:=match op with
 | .move x=>fun _ ρ=>ρ x
 | .assign x=>fun _ ρ=>ρ x
 | .pick c a b=>fun _ ρ=>kPick (ρ c) (ρ a) (ρ b)
 | .build t parts=>fun P ρ=>kBuild P t (evParts ρ parts.toList)
 | .nilCheck x=>fun _ ρ=>kNil (ρ x)
 | .binOp op t x y _=>fun P ρ=>bind2 (ρ x) (ρ y) (nbin P op t)
 | .unOp op _ x=>fun _ ρ=>bind1 (ρ x) (nun op)
 | .convert s d x=>fun P ρ=>bind1 (ρ x) (nconv P s d)
 | .makeInterface t x=>fun P ρ=>kIface P t (ρ x)
 | .makeFunc fn first captured=>fun _ ρ=>kFunc fn (evs ρ first.toList) (evs ρ captured.toList)
 | .slice t x lo hi mx=>fun P ρ=>kSlice P t (evOpt ρ mx) (ρ x) (evOpt ρ lo) (evOpt ρ hi)
 | .fieldAddr s x f=>fun P ρ=>bind1 (ρ x) fun u=>nfieldAddr P s u f
 | .field t x f=>fun P ρ=>bind1 (ρ x) fun u=>nfield P t u f
 | .indexAddr t x ix=>fun P ρ=>bind2 (ρ x) (ρ ix) (nindexAddr P t)
 | .index t x ix=>fun P ρ=>bind2 (ρ x) (ρ ix) (nindex P t)
 | .extract x i=>fun _ ρ=>kExtract (ρ x) i
 | .typeAssert x _ d ok=>fun P ρ=>bind1 (ρ x) fun u=>nassert P u d ok
 | .call c=>fun P ρ=>pureC c.callee P ρ c.args c.argTypes
 |_=>fun _ _=>none
theorem pureK_eq (op:Op) (P:Program) (ρ:Rho):pureK op P ρ=pureOp P ρ op:=by
 cases op<;>try rfl
 case binOp op t x y p=>simp only[pureK,pureOp,bind2];cases ρ x<;>cases ρ y<;>rfl
 case indexAddr t x ix=>simp only[pureK,pureOp,bind2];cases ρ x<;>cases ρ ix<;>rfl
 case index t x ix=>simp only[pureK,pureOp,bind2];cases ρ x<;>cases ρ ix<;>rfl
 case call c=>
  obtain⟨callee,args,argTypes⟩:=c
  cases callee<;>try rfl
  rename_i b
  cases b<;>rfl
def kLoad (P:Program) (h:NHeap) (t:TypeId) (x:Option NVal):Option NVal:=match x with|some (.ptr (some a))=>nload P t a h|_=>none
def kStr (P:Program) (h:NHeap) (s d:TypeId) (x:Option NVal):Option NVal:=match P.underlying s,P.underlying d,x with
  |some (.slice e),some .string,some (.slice a len _ _)=>(match P.underlying e with
   |some (.int .u8)=>(match a with
    |none=>some (.str [])
    |some (b,o)=>(match h.get b with
     |some (.cells cs _)=>if o+len≤cs.length then(match bytesVals ((cs.drop o).take len) with|some l=>some (.str l)|none=>none) else none
     |_=>none))
   |_=>none)
  |_,_,_=>none
def kLenM (P:Program) (ρ:Rho) (h:NHeap) (args:Array Operand) (argTypes:Array TypeId):Option NVal:=match args.toList,argTypes.toList with
  |[x],t::_=>(match ρ x,P.underlying t with
   |some (.map (some b)),some (.map _ _)=>(match h.get b with|some (.map es)=>some (.int .i64 es.length)|_=>none)
   |_,_=>none)
  |_,_=>none
def readB (b:Builtin):Program→Rho→NHeap→Array Operand→Array TypeId→Option NVal:=match b with
 | .len=>kLenM
 |_=>fun _ _ _ _ _=>none
def readC (c:Callee):Program→Rho→NHeap→Array Operand→Array TypeId→Option NVal:=match c with
 | .builtin b=>readB b
 |_=>fun _ _ _ _ _=>none
def readK (op:Op):Program→Rho→NHeap→Option NVal:=match op with
 | .load t x=>fun P ρ h=>kLoad P h t (ρ x)
 | .lookup t m k ok=>fun P ρ h=>bind2 (ρ m) (ρ k) fun u v=>nlookup P t u v ok h
 | .convert s d x=>fun P ρ h=>kStr P h s d (ρ x)
 | .call c=>fun P ρ h=>readC c.callee P ρ h c.args c.argTypes
 |_=>fun _ _ _=>none
theorem readK_eq (op:Op) (P:Program) (ρ:Rho) (h:NHeap):readK op P ρ h=readOp P ρ h op:=by
 cases op<;>try rfl
 case lookup t m k ok=>simp only[readK,readOp,bind2];cases ρ m<;>cases ρ k<;>rfl
 case call c=>
  obtain⟨callee,args,argTypes⟩:=c
  cases callee<;>try rfl
  rename_i b
  cases b<;>rfl
abbrev NewR:=Option (NObj×(Nat→NVal))
def kAlloc (P:Program) (t:TypeId):NewR:=match zeroOf P t with|some z=>some (.cells z.cells (.own none),fun b=>.ptr (some (b,0)))|none=>none
def kBox (x:Option NVal):NewR:=match x with|some v=>some (.cells v.cells (.own none),fun b=>.ptr (some (b,0)))|none=>none
def newK (op:Op):Program→Rho→NewR:=match op with
 | .alloc t=>fun P _=>kAlloc P t
 | .box _ x=>fun _ ρ=>kBox (ρ x)
 | .buildSlice t len parts=>fun P ρ=>newOp P ρ (.buildSlice t len parts)
 | .makeSlice t l c=>fun P ρ=>newOp P ρ (.makeSlice t l c)
 | .makeMap t r=>fun P ρ=>newOp P ρ (.makeMap t r)
 |_=>fun _ _=>none
theorem newK_eq (op:Op) (P:Program) (ρ:Rho):newK op P ρ=newOp P ρ op:=by cases op<;>rfl
def kStore (P:Program) (h:NHeap) (t:TypeId) (x y:Option NVal):Option (NVal×NHeap):=match x,y with
  |some (.ptr (some a)),some v=>(match nstore P t a v h with|some h'=>some (nundef,h')|none=>none)
  |_,_=>none
def effK (op:Op):Program→Rho→NHeap→Option (NVal×NHeap):=match op with
 | .store t x y=>fun P ρ h=>kStore P h t (ρ x) (ρ y)
 | .mapUpdate t m k v=>fun P ρ h=>effOp P ρ h (.mapUpdate t m k v)
 | .insert t m k v=>fun P ρ h=>effOp P ρ h (.insert t m k v)
 | .convert s d x=>fun P ρ h=>effOp P ρ h (.convert s d x)
 | .call c=>fun P ρ h=>effOp P ρ h (.call c)
 |_=>fun _ _ _=>none
theorem effK_eq (op:Op) (P:Program) (ρ:Rho) (h:NHeap):effK op P ρ h=effOp P ρ h op:=by
 cases op<;>rfl
def withH (r:Option NVal) (h:NHeap):Option (NVal×NHeap):=match r with|some v=>some (v,h)|none=>none
def allocH (r:NewR) (h:NHeap):Option (NVal×NHeap):=match r with|some (ob,mk)=>some (mk h.next,h.alloc ob)|none=>none
def orElseH (r:Option NVal) (h:NHeap) (k:Unit→Option (NVal×NHeap)):Option (NVal×NHeap):=match r with|some v=>some (v,h)|none=>k ()
def kAllocT (P:Program) (t:TypeId):NewR:=match zeroOf P t with|some z=>some (.cells z.cells (.own (some (t,z.cells.length))),fun b=>.ptr (some (b,0)))|none=>none
def newS (op:Op) (P:Program) (ρ:Rho):NewR:=match op with
 | .alloc t=>kAllocT P t
 |op=>newK op P ρ
def kindK (op:Op):Nat:=match op with
 | .load _ _=>1
 | .lookup _ _ _ _=>1
 | .alloc _=>2
 | .box _ _=>2
 | .buildSlice _ _ _=>2
 | .makeSlice _ _ _=>2
 | .makeMap _ _=>2
 | .store _ _ _=>3
 | .mapUpdate _ _ _ _=>3
 | .insert _ _ _ _=>3
 | .convert _ _ _=>4
 | .call _=>4
 |_=>0
def stepK (P:Program) (ρ:Rho) (op:Op) (h:NHeap):Option (NVal×NHeap):=
 match kindK op with
 |0=>withH (pureK op P ρ) h
 |1=>withH (readK op P ρ h) h
 |2=>allocH (newS op P ρ) h
 |3=>effK op P ρ h
 |_=>orElseH (pureK op P ρ) h fun _=>orElseH (readK op P ρ h) h fun _=>effK op P ρ h
theorem stepK_eq (P:Program) (ρ:Rho) (o:Oper) (h:NHeap):stepK P ρ o.op h=stepOp P ρ o h:=by
 obtain⟨dst,op,ty,pos,after,guard⟩:=o
 have pure0:∀{op:Op},kindK op=0→readOp P ρ h op=none→newOp P ρ op=none→effOp P ρ h op=none→stepK P ρ op h=stepOp P ρ ⟨dst,op,ty,pos,after,guard⟩ h:=by
  intro op e1 e2 e3 e4
  simp only[stepK,e1,stepOp,pureK_eq,e2,e3,e4,withH]
  rfl
 have read0:∀{op:Op},kindK op=1→pureOp P ρ op=none→newOp P ρ op=none→effOp P ρ h op=none→stepK P ρ op h=stepOp P ρ ⟨dst,op,ty,pos,after,guard⟩ h:=by
  intro op e1 e2 e3 e4
  simp only[stepK,e1,stepOp,readK_eq,e2,e3,e4,withH]
  rfl
 have new0:∀{op:Op},kindK op=2→pureOp P ρ op=none→readOp P ρ h op=none→effOp P ρ h op=none→stepK P ρ op h=stepOp P ρ ⟨dst,op,ty,pos,after,guard⟩ h:=by
  intro op e1 e2 e3 e4
  simp only[stepK,e1,stepOp,e2,e3,e4]
  cases op<;>(try cases e1)<;>simp only[newS,newK_eq]
  case alloc t=>
   unfold kAllocT
   simp only[newOp]
   cases zeroOf P t<;>rfl
  all_goals(simp only[allocH];split<;>rename_i hn<;>rw[hn]<;>rfl)
 have eff0:∀{op:Op},kindK op=3→pureOp P ρ op=none→readOp P ρ h op=none→newOp P ρ op=none→stepK P ρ op h=stepOp P ρ ⟨dst,op,ty,pos,after,guard⟩ h:=by
  intro op e1 e2 e3 e4
  simp only[stepK,e1,stepOp,effK_eq,e2,e3,e4]
 have all0:∀{op:Op},kindK op=4→newOp P ρ op=none→stepK P ρ op h=stepOp P ρ ⟨dst,op,ty,pos,after,guard⟩ h:=by
  intro op e1 e3
  simp only[stepK,e1,stepOp,effK_eq,pureK_eq,readK_eq,e3,orElseH]
  rfl
 cases op
 case load=>exact read0 rfl rfl rfl rfl
 case lookup=>exact read0 rfl rfl rfl rfl
 case alloc=>exact new0 rfl rfl rfl rfl
 case box=>exact new0 rfl rfl rfl rfl
 case buildSlice=>exact new0 rfl rfl rfl rfl
 case makeSlice=>exact new0 rfl rfl rfl rfl
 case makeMap=>exact new0 rfl rfl rfl rfl
 case store=>exact eff0 rfl rfl rfl rfl
 case mapUpdate=>exact eff0 rfl rfl rfl rfl
 case insert=>exact eff0 rfl rfl rfl rfl
 case convert=>exact all0 rfl rfl
 case call=>exact all0 rfl rfl
 all_goals exact pure0 rfl rfl rfl rfl
def callK (r:Option (FuncId×List NVal)) (F:CallF) (h:NHeap):Option (NVal×NHeap):=match r with|some (f,asX)=>F f asX h|none=>none
def doK (P:Program) (F:CallF) (ρ:Rho) (op:Op) (h:NHeap):Option (NVal×NHeap):=
 match isGoCall op with
 |some c=>callK (ncall P ρ h c) F h
 |none=>stepK P ρ op h
theorem doK_eq (P:Program) (F:CallF) (ρ:Rho) (o:Oper) (h:NHeap):doK P F ρ o.op h=doOp P F ρ o h:=by
 unfold doK doOp
 rw[stepK_eq]
 rfl
theorem nbeq (n m:Nat):Nat.beq n m=decide (n=m):=by
 by_cases h:n=m
 ·subst h;simp
 ·have:Nat.beq n m=false:=by
   cases e:Nat.beq n m with
   |false=>rfl
   |true=>exact absurd (Nat.eq_of_beq_eq_true e) h
  rw[this];simp[h]
noncomputable def ifR {α:Type} (b:Bool) (x y:α):α:=Bool.rec (motive:=fun _=>α) y x b
theorem ifR_eq {α:Type} (b:Bool) (x y:α):ifR b x y=if b=true then x else y:=by cases b<;>rfl
noncomputable def trGet (t:Tr):Nat→Option NObj:=
 Tr.rec (motive:=fun _=>Nat→Option NObj) (fun _=>none)
  (fun v _ _ gl gr n=>Bool.rec (motive:=fun _=>Option NObj) (Bool.rec (motive:=fun _=>Option NObj) (gr (Nat.div n 2)) (gl (Nat.div n 2)) (Nat.beq (Nat.mod n 2) 0)) v (Nat.beq n 0)) t
theorem trGet_eq:∀(t:Tr) (n:Nat),trGet t n=t.get n
 | .leaf,n=>rfl
 | .node v l r,n=>by
  show ifR (Nat.beq n 0) v (ifR (Nat.beq (n%2) 0) (trGet l (n/2)) (trGet r (n/2)))=_
  rw[ifR_eq,ifR_eq,nbeq,nbeq,trGet_eq l,trGet_eq r]
  simp only[decide_eq_true_eq,Tr.get]
noncomputable def trPut (f:Nat):Tr→Nat→NObj→Tr:=
 Nat.rec (motive:=fun _=>Tr→Nat→NObj→Tr) (fun t _ _=>t)
  (fun _ ih t n o=>Tr.rec (motive:=fun _=>Tr)
   (Bool.rec (motive:=fun _=>Tr) (Bool.rec (motive:=fun _=>Tr) (.node none .leaf (ih .leaf (Nat.div n 2) o)) (.node none (ih .leaf (Nat.div n 2) o) .leaf) (Nat.beq (Nat.mod n 2) 0)) (.node (some o) .leaf .leaf) (Nat.beq n 0))
   (fun v l r _ _=>Bool.rec (motive:=fun _=>Tr) (Bool.rec (motive:=fun _=>Tr) (.node v l (ih r (Nat.div n 2) o)) (.node v (ih l (Nat.div n 2) o) r) (Nat.beq (Nat.mod n 2) 0)) (.node (some o) l r) (Nat.beq n 0)) t) f
theorem trPut_eq (o:NObj):∀(f:Nat) (t:Tr) (n:Nat),trPut f t n o=Tr.put f t n o
 |0,t,n=>rfl
 |f+1,.leaf,n=>by
  show ifR (Nat.beq n 0) (Tr.node (some o) .leaf .leaf) (ifR (Nat.beq (n%2) 0) (Tr.node none (trPut f .leaf (n/2) o) .leaf) (Tr.node none .leaf (trPut f .leaf (n/2) o)))=_
  rw[ifR_eq,ifR_eq,nbeq,nbeq,trPut_eq o f]
  simp only[decide_eq_true_eq,Tr.put]
 |f+1,.node v l r,n=>by
  show ifR (Nat.beq n 0) (Tr.node (some o) l r) (ifR (Nat.beq (n%2) 0) (Tr.node v (trPut f l (n/2) o) r) (Tr.node v l (trPut f r (n/2) o)))=_
  rw[ifR_eq,ifR_eq,nbeq,nbeq,trPut_eq o f,trPut_eq o f]
  simp only[decide_eq_true_eq,Tr.put]
theorem nble (n m:Nat):Nat.ble n m=decide (n≤m):=by
 by_cases h:n≤m
 ·rw[Nat.ble_eq_true_of_le h];simp[h]
 ·have:Nat.ble n m=false:=by
   cases e:Nat.ble n m with
   |false=>rfl
   |true=>exact absurd (Nat.le_of_ble_eq_true e) h
  rw[this];simp[h]
noncomputable def hGet (h:NHeap) (b:Nat):Option NObj:=ifR (Nat.ble (Nat.succ b) h.next) (trGet h.tree b) none
theorem hGet_eq (h:NHeap) (b:Nat):hGet h b=h.get b:=by
 unfold hGet NHeap.get
 rw[ifR_eq,nble,trGet_eq]
 simp only[decide_eq_true_eq,Nat.succ_le_iff]
noncomputable def hSet (h:NHeap) (b:Nat) (o:NObj):NHeap:=⟨h.next,trPut (Nat.succ b) h.tree b o⟩
theorem hSet_eq (h:NHeap) (b:Nat) (o:NObj):hSet h b o=h.set b o:=by
 unfold hSet NHeap.set
 rw[trPut_eq]
noncomputable def forceN {α:Type} (n:Nat) (k:Nat→α):α:=Nat.rec (motive:=fun _=>α) (k 0) (fun m _=>k (Nat.succ m)) n
theorem forceN_eq {α:Type} (n:Nat) (k:Nat→α):forceN n k=k n:=by cases n<;>rfl
noncomputable def forceT {α:Type} (t:Tr) (k:Tr→α):α:=Tr.rec (motive:=fun _=>α) (k .leaf) (fun v l r _ _=>k (.node v l r)) t
theorem forceT_eq {α:Type} (t:Tr) (k:Tr→α):forceT t k=k t:=by cases t<;>rfl
noncomputable def forceH {α:Type} (h:NHeap) (k:NHeap→α):α:=NHeap.rec (motive:=fun _=>α) (fun n t=>forceN n fun n'=>forceT t fun t'=>k ⟨n',t'⟩) h
theorem forceH_eq {α:Type} (h:NHeap) (k:NHeap→α):forceH h k=k h:=by
 cases h with
 |mk n t=>
  show forceN n (fun n'=>forceT t fun t'=>k ⟨n',t'⟩)=_
  rw[forceN_eq,forceT_eq]
noncomputable def forceP (r:Option (NVal×NHeap)):Option (NVal×NHeap):=Option.rec (motive:=fun _=>Option (NVal×NHeap)) none (fun p=>Prod.rec (motive:=fun _=>Option (NVal×NHeap)) (fun v h=>forceH h fun h'=>some (v,h')) p) r
theorem forceP_eq (r:Option (NVal×NHeap)):forceP r=r:=by
 cases r with
 |none=>rfl
 |some p=>
  obtain⟨v,h⟩:=p
  show forceH h (fun h'=>some (v,h'))=_
  rw[forceH_eq]
noncomputable def hAlloc (h:NHeap) (o:NObj):NHeap:=⟨Nat.succ h.next,trPut (Nat.succ h.next) h.tree h.next o⟩
theorem hAlloc_eq (h:NHeap) (o:NObj):hAlloc h o=h.alloc o:=by unfold hAlloc NHeap.alloc;rw[trPut_eq]
noncomputable def allocR (r:NewR) (h:NHeap):Option (NVal×NHeap):=Option.rec (motive:=fun _=>Option (NVal×NHeap)) none (fun p=>Prod.rec (motive:=fun _=>Option (NVal×NHeap)) (fun o mk=>forceN h.next fun n=>forceH (hAlloc h o) fun h'=>some (mk n,h')) p) r
theorem allocR_eq (r:NewR) (h:NHeap):allocR r h=allocH r h:=by
 cases r with
 |none=>rfl
 |some p=>
  obtain⟨o,mk⟩:=p
  show forceN h.next (fun n=>forceH (hAlloc h o) fun h'=>some (mk n,h'))=_
  rw[forceN_eq,forceH_eq,hAlloc_eq]
  rfl
noncomputable def nthR {α:Type} (l:List α):Nat→Option α:=
 List.rec (motive:=fun _=>Nat→Option α) (fun _=>none) (fun x _ ih n=>Nat.rec (motive:=fun _=>Option α) (some x) (fun m _=>ih m) n) l
theorem nthR_eq {α:Type}:∀(l:List α) (n:Nat),nthR l n=l[n]?
 |[],n=>by simp[nthR]
 |x::l,0=>rfl
 |x::l,n+1=>by
  show nthR l n=_
  rw[nthR_eq l];simp
noncomputable def hasR {α:Type} (l:List α):Nat→Bool:=
 List.rec (motive:=fun _=>Nat→Bool) (fun n=>Nat.beq n 0) (fun _ _ ih n=>Nat.rec (motive:=fun _=>Bool) true (fun m _=>ih m) n) l
theorem hasR_eq {α:Type}:∀(l:List α) (n:Nat),hasR l n=decide (n≤l.length)
 |[],n=>by show Nat.beq n 0=_;rw[nbeq];simp
 |x::l,0=>by show true=_;simp
 |x::l,n+1=>by show hasR l n=_;rw[hasR_eq l];simp
noncomputable def setR {α:Type} (l:List α):Nat→α→List α:=
 List.rec (motive:=fun _=>Nat→α→List α) (fun _ _=>[]) (fun x xs ih n v=>Nat.rec (motive:=fun _=>List α) (v::xs) (fun m _=>x::ih m v) n) l
theorem setR_eq {α:Type}:∀(l:List α) (n:Nat) (v:α),setR l n v=l.set n v
 |[],n,v=>by cases n<;>rfl
 |x::l,0,v=>rfl
 |x::l,n+1,v=>by show x::setR l n v=_;rw[setR_eq l];rfl
theorem setRange_one {l:List NVal} {n:Nat} {v:NVal} (h:n+1≤l.length):setRange l n [v]=l.set n v:=by
 unfold setRange
 rw[List.set_eq_take_append_cons_drop,if_pos (by omega)]
 simp
noncomputable def asPtrR (u:NVal):Option (Nat×Nat):=
 NVal.rec (motive_1:=fun _=>Option (Nat×Nat)) (motive_2:=fun _=>Unit) (fun _=>none) (fun _ _=>none) (fun _=>none) (fun a=>a) (fun _ _ _ _=>none) (fun _=>none) (fun _ _ _ _ _=>none) none (fun _ _ _=>none) none (fun _ _=>none) (fun _ _=>none) none () (fun _ _ _ _=>()) u
noncomputable def asCellsR (o:NObj):Option (List NVal):=NObj.rec (motive:=fun _=>Option (List NVal)) (fun cs _=>some cs) (fun _=>none) none o
noncomputable def asMineR (o:NObj):Option (List NVal×Option (TypeId×Nat)):=NObj.rec (motive:=fun _=>Option (List NVal×Option (TypeId×Nat))) (fun cs m=>Own.rec (motive:=fun _=>Option (List NVal×Option (TypeId×Nat))) none (fun t=>some (cs,t)) m) (fun _=>none) none o
noncomputable def thenR {α β:Type} (a:Option α) (k:α→Option β):Option β:=Option.rec (motive:=fun _=>Option β) none (fun x=>k x) a
noncomputable def loadR (P:Program) (h:NHeap) (t:TypeId) (x:Option NVal):Option NVal:=
 thenR x fun u=>thenR (asPtrR u) fun a=>thenR (hGet h a.1) fun o=>thenR (asCellsR o) fun cs=>
  thenR (aggT P t) fun g=>ifR g (thenR (szOf P t) fun n=>ifR (hasR cs (Nat.add a.2 n)) (some (.agg ((cs.drop a.2).take n))) none) (nthR cs a.2)
theorem loadR_eq (P:Program) (h:NHeap) (t:TypeId) (x:Option NVal):loadR P h t x=kLoad P h t x:=by
 unfold loadR kLoad
 cases x with
 |none=>rfl
 |some u=>
  cases u<;>try rfl
  rename_i a
  cases a with
  |none=>rfl
  |some a=>
   show thenR (hGet h a.1) _=nload P t a h
   unfold nload
   rw[hGet_eq]
   cases h.get a.1 with
   |none=>rfl
   |some o=>
    cases o with
    |cells cs m=>
     show thenR (aggT P t) _=_
     simp only
     cases aggT P t with
     |none=>rfl
     |some g=>
      show ifR g _ _=_
      rw[ifR_eq]
      cases g with
      |true=>
       simp only[if_true]
       cases szOf P t with
       |none=>rfl
       |some n=>
        show ifR (hasR cs (a.2+n)) _ _=_
        rw[ifR_eq,hasR_eq]
        simp only[decide_eq_true_eq]
      |false=>exact nthR_eq cs a.2
    |map es=>rfl
    |dead=>rfl
noncomputable def plainR (u:NVal):Bool:=
 NVal.rec (motive_1:=fun _=>Bool) (motive_2:=fun _=>Unit) (fun _=>true) (fun _ _=>true) (fun _=>true) (fun _=>true) (fun _ _ _ _=>true) (fun _=>true) (fun _ _ _ _ _=>false) false (fun _ _ _=>false) false (fun _ _=>false) (fun _ _=>false) false () (fun _ _ _ _=>()) u
theorem plainR_eq {u:NVal} (h:plainR u=true):u.cells=[u]∧allOne [u]=true:=by
 cases u<;>first|exact⟨rfl,rfl⟩|cases h
noncomputable def storeR (P:Program) (h:NHeap) (t:TypeId) (x y:Option NVal):Option (NVal×NHeap):=
 thenR x fun u=>thenR y fun v=>ifR (plainR v)
  (thenR (asPtrR u) fun a=>thenR (szOf P t) fun n=>ifR (Nat.beq n 1) (thenR (hGet h a.1) fun o=>thenR (asMineR o) fun p=>ifR (hasR p.1 (Nat.succ a.2)) (forceH (hSet h a.1 (.cells (setR p.1 a.2 v) (.own p.2))) fun h'=>some (nundef,h')) none) none)
  (forceP (kStore P h t x y))
theorem storeR_eq (P:Program) (h:NHeap) (t:TypeId) (x y:Option NVal):storeR P h t x y=kStore P h t x y:=by
 unfold storeR
 cases x with
 |none=>rfl
 |some u=>
  cases y with
  |none=>
   show none=kStore P h t (some u) none
   unfold kStore
   cases u<;>try rfl
   rename_i a;cases a<;>rfl
  |some v=>
   show ifR (plainR v) _ _=_
   rw[ifR_eq]
   split
   ·rename_i hp
    obtain⟨e1,e2⟩:=plainR_eq hp
    cases u<;>try rfl
    rename_i a
    cases a with
    |none=>rfl
    |some a=>
     show thenR (szOf P t) _=(match nstore P t a v h with|some h'=>some (nundef,h')|none=>none)
     unfold nstore
     cases szOf P t with
     |none=>rfl
     |some n=>
      show ifR (Nat.beq n 1) _ _=_
      rw[ifR_eq,nbeq,hGet_eq]
      simp only[decide_eq_true_eq]
      split
      ·rename_i hn
       subst hn
       cases h.get a.1 with
       |none=>rfl
       |some o=>
        cases o with
        |cells cs m=>
         cases m with
         |own t=>
          show ifR (hasR cs (a.2+1)) _ _=_
          rw[ifR_eq,hasR_eq]
          simp only[decide_eq_true_eq,e1,e2,List.length_singleton,true_and,and_true]
          split
          ·rename_i hl
           rw[setRange_one hl,setR_eq,hSet_eq,forceH_eq]
          ·rfl
         |ro=>rfl
        |map es=>rfl
        |dead=>rfl
      ·rename_i hn
       cases h.get a.1 with
       |none=>rfl
       |some o=>
        cases o with
        |cells cs m=>
         cases m with
         |own t=>
          simp only[e1,List.length_singleton]
          rw[if_neg (by omega)]
         |ro=>rfl
        |map es=>rfl
        |dead=>rfl
   ·exact forceP_eq _
noncomputable def asIntR (u:NVal):Option (IntKind×Int):=
 NVal.rec (motive_1:=fun _=>Option (IntKind×Int)) (motive_2:=fun _=>Unit) (fun _=>none) (fun k n=>some (k,n)) (fun _=>none) (fun _=>none) (fun _ _ _ _=>none) (fun _=>none) (fun _ _ _ _ _=>none) none (fun _ _ _=>none) none (fun _ _=>none) (fun _ _=>none) none () (fun _ _ _ _=>()) u
theorem asIntR_some {u:NVal} {p:IntKind×Int} (h:asIntR u=some p):u=.int p.1 p.2:=by
 cases u<;>first|(cases h;rfl)|cases h
noncomputable def kindEqR (k j:IntKind):Bool:=IntKind.rec (motive:=fun _=>Bool) (IntKind.rec (motive:=fun _=>Bool) true false false false false false false false j) (IntKind.rec (motive:=fun _=>Bool) false true false false false false false false j) (IntKind.rec (motive:=fun _=>Bool) false false true false false false false false j) (IntKind.rec (motive:=fun _=>Bool) false false false true false false false false j) (IntKind.rec (motive:=fun _=>Bool) false false false false true false false false j) (IntKind.rec (motive:=fun _=>Bool) false false false false false true false false j) (IntKind.rec (motive:=fun _=>Bool) false false false false false false true false j) (IntKind.rec (motive:=fun _=>Bool) false false false false false false false true j) k
theorem kindEqR_eq (k j:IntKind):kindEqR k j=decide (k=j):=by cases k<;>cases j<;>rfl
noncomputable def kmaxR (k:IntKind):Nat:=IntKind.rec (motive:=fun _=>Nat) 127 32767 2147483647 9223372036854775807 255 65535 4294967295 18446744073709551615 k
noncomputable def wrapR (k:IntKind) (n:Int):Int:=Int.rec (motive:=fun _=>Int) (fun m=>ifR (Nat.ble m (kmaxR k)) (Int.ofNat m) (k.wrap (Int.ofNat m))) (fun m=>k.wrap (Int.negSucc m)) n
theorem wrapR_eq (k:IntKind) (n:Int):wrapR k n=k.wrap n:=by
 cases n with
 |ofNat m=>
  show ifR (Nat.ble m (kmaxR k)) _ _=_
  rw[ifR_eq,nble]
  simp only[decide_eq_true_eq]
  split
  ·rename_i h
   cases k
   case i8=>
    have hk:m≤127:=h
    simp only[IntKind.wrap,IntKind.signed,IntKind.bits,Int.ofNat_eq_natCast,Bool.true_and,Bool.false_and,Bool.false_eq_true,if_false,decide_eq_true_eq]
    split<;>rename_i q<;>simp at q<;>omega
   case i16=>
    have hk:m≤32767:=h
    simp only[IntKind.wrap,IntKind.signed,IntKind.bits,Int.ofNat_eq_natCast,Bool.true_and,Bool.false_and,Bool.false_eq_true,if_false,decide_eq_true_eq]
    split<;>rename_i q<;>simp at q<;>omega
   case i32=>
    have hk:m≤2147483647:=h
    simp only[IntKind.wrap,IntKind.signed,IntKind.bits,Int.ofNat_eq_natCast,Bool.true_and,Bool.false_and,Bool.false_eq_true,if_false,decide_eq_true_eq]
    split<;>rename_i q<;>simp at q<;>omega
   case i64=>
    have hk:m≤9223372036854775807:=h
    simp only[IntKind.wrap,IntKind.signed,IntKind.bits,Int.ofNat_eq_natCast,Bool.true_and,Bool.false_and,Bool.false_eq_true,if_false,decide_eq_true_eq]
    split<;>rename_i q<;>simp at q<;>omega
   case u8=>
    have hk:m≤255:=h
    simp only[IntKind.wrap,IntKind.signed,IntKind.bits,Int.ofNat_eq_natCast,Bool.true_and,Bool.false_and,Bool.false_eq_true,if_false,decide_eq_true_eq]
    omega
   case u16=>
    have hk:m≤65535:=h
    simp only[IntKind.wrap,IntKind.signed,IntKind.bits,Int.ofNat_eq_natCast,Bool.true_and,Bool.false_and,Bool.false_eq_true,if_false,decide_eq_true_eq]
    omega
   case u32=>
    have hk:m≤4294967295:=h
    simp only[IntKind.wrap,IntKind.signed,IntKind.bits,Int.ofNat_eq_natCast,Bool.true_and,Bool.false_and,Bool.false_eq_true,if_false,decide_eq_true_eq]
    omega
   case u64=>
    have hk:m≤18446744073709551615:=h
    simp only[IntKind.wrap,IntKind.signed,IntKind.bits,Int.ofNat_eq_natCast,Bool.true_and,Bool.false_and,Bool.false_eq_true,if_false,decide_eq_true_eq]
    omega
  ·rfl
 |negSucc m=>rfl
noncomputable def addR (x y:Int):Int:=Int.rec (motive:=fun _=>Int) (fun m=>Int.rec (motive:=fun _=>Int) (fun n=>Int.ofNat (Nat.add m n)) (fun _=>x+y) y) (fun _=>x+y) x
theorem addR_eq (x y:Int):addR x y=x+y:=by cases x<;>cases y<;>rfl
noncomputable def subR (x y:Int):Int:=Int.rec (motive:=fun _=>Int) (fun m=>Int.rec (motive:=fun _=>Int) (fun n=>ifR (Nat.ble n m) (Int.ofNat (Nat.sub m n)) (x-y)) (fun _=>x-y) y) (fun _=>x-y) x
theorem subR_eq (x y:Int):subR x y=x-y:=by
 cases x with
 |ofNat m=>cases y with
  |ofNat n=>
   show ifR (Nat.ble n m) (Int.ofNat (m-n)) _=_
   rw[ifR_eq,nble]
   simp only[decide_eq_true_eq]
   split
   ·rename_i h;simp only[Int.ofNat_eq_natCast];omega
   ·rfl
  |negSucc n=>rfl
 |negSucc m=>rfl
noncomputable def mulR (x y:Int):Int:=Int.rec (motive:=fun _=>Int) (fun m=>Int.rec (motive:=fun _=>Int) (fun n=>Int.ofNat (Nat.mul m n)) (fun _=>x*y) y) (fun _=>x*y) x
theorem mulR_eq (x y:Int):mulR x y=x*y:=by cases x<;>cases y<;>rfl
noncomputable def eqR (x y:Int):Bool:=Int.rec (motive:=fun _=>Bool) (fun m=>Int.rec (motive:=fun _=>Bool) (fun n=>Nat.beq m n) (fun _=>false) y) (fun m=>Int.rec (motive:=fun _=>Bool) (fun _=>false) (fun n=>Nat.beq m n) y) x
theorem eqR_eq (x y:Int):eqR x y=(x==y):=by
 cases x with
 |ofNat m=>cases y with
  |ofNat n=>
   show Nat.beq m n=_
   rw[nbeq]
   by_cases h:m=n
   ·simp[h]
   ·simp only[h,decide_false];symm;rw[beq_eq_false_iff_ne];intro q;injection q with q;exact h q
  |negSucc n=>show false=_;symm;rw[beq_eq_false_iff_ne];intro h;cases h
 |negSucc m=>cases y with
  |ofNat n=>show false=_;symm;rw[beq_eq_false_iff_ne];intro h;cases h
  |negSucc n=>
   show Nat.beq m n=_
   rw[nbeq]
   by_cases h:m=n
   ·simp[h]
   ·simp only[h,decide_false];symm;rw[beq_eq_false_iff_ne];intro q;injection q with q;exact h q
noncomputable def ltR (x y:Int):Bool:=Int.rec (motive:=fun _=>Bool) (fun m=>Int.rec (motive:=fun _=>Bool) (fun n=>Nat.ble (Nat.succ m) n) (fun _=>false) y) (fun m=>Int.rec (motive:=fun _=>Bool) (fun _=>true) (fun n=>Nat.ble (Nat.succ n) m) y) x
theorem ltR_eq (x y:Int):ltR x y=decide (x<y):=by
 cases x with
 |ofNat m=>cases y with
  |ofNat n=>show Nat.ble (m+1) n=_;rw[nble];congr 1;simp only[Int.ofNat_eq_natCast,eq_iff_iff];omega
  |negSucc n=>show false=_;symm;simp only[Int.ofNat_eq_natCast,decide_eq_false_iff_not];omega
 |negSucc m=>cases y with
  |ofNat n=>show true=_;symm;simp only[Int.ofNat_eq_natCast,decide_eq_true_eq];omega
  |negSucc n=>show Nat.ble (n+1) m=_;rw[nble];congr 1;simp only[eq_iff_iff];omega
noncomputable def leR (x y:Int):Bool:=Int.rec (motive:=fun _=>Bool) (fun m=>Int.rec (motive:=fun _=>Bool) (fun n=>Nat.ble m n) (fun _=>false) y) (fun m=>Int.rec (motive:=fun _=>Bool) (fun _=>true) (fun n=>Nat.ble n m) y) x
theorem leR_eq (x y:Int):leR x y=decide (x≤y):=by
 cases x with
 |ofNat m=>cases y with
  |ofNat n=>show Nat.ble m n=_;rw[nble];congr 1;simp only[Int.ofNat_eq_natCast,eq_iff_iff];omega
  |negSucc n=>show false=_;symm;simp only[Int.ofNat_eq_natCast,decide_eq_false_iff_not];omega
 |negSucc m=>cases y with
  |ofNat n=>show true=_;symm;simp only[Int.ofNat_eq_natCast,decide_eq_true_eq];omega
  |negSucc n=>show Nat.ble n m=_;rw[nble];congr 1;simp only[eq_iff_iff];omega
noncomputable def intsR (g:IntKind→Int→Int→Option NVal) (u v:NVal) (els:Option NVal):Option NVal:=
 Option.rec (motive:=fun _=>Option NVal) els (fun p=>Option.rec (motive:=fun _=>Option NVal) els (fun q=>ifR (kindEqR p.1 q.1) (g p.1 p.2 q.2) none) (asIntR v)) (asIntR u)
theorem intsR_eq (P:Program) (op:BinOp) (t:TypeId) (g:IntKind→Int→Int→Option NVal) (hop:op≠.shl) (hop':op≠.shr) (hg:∀k x y,g k x y=nIntOp op k x y) (u v:NVal):intsR g u v (nbin P op t u v)=nbin P op t u v:=by
 unfold intsR
 cases hu:asIntR u with
 |none=>rfl
 |some p=>
  cases hv:asIntR v with
  |none=>rfl
  |some q=>
   show ifR (kindEqR p.1 q.1) (g p.1 p.2 q.2) none=_
   rw[ifR_eq,kindEqR_eq,asIntR_some hu,asIntR_some hv,hg]
   simp only[decide_eq_true_eq]
   cases op<;>first|rfl|exact absurd rfl hop|exact absurd rfl hop'
noncomputable def binR (op:BinOp):Program→TypeId→Option NVal→Option NVal→Option NVal:=BinOp.rec (motive:=fun _=>Program→TypeId→Option NVal→Option NVal→Option NVal)
 (fun P t a b=>thenR a fun u=>thenR b fun v=>intsR (fun k x y=>some (.int k (wrapR k (addR x y)))) u v (nbin P .add t u v))
 (fun P t a b=>thenR a fun u=>thenR b fun v=>intsR (fun k x y=>some (.int k (wrapR k (subR x y)))) u v (nbin P .sub t u v))
 (fun P t a b=>thenR a fun u=>thenR b fun v=>intsR (fun k x y=>some (.int k (wrapR k (mulR x y)))) u v (nbin P .mul t u v))
 (fun P t a b=>thenR a fun u=>thenR b fun v=>nbin P .quo t u v)
 (fun P t a b=>thenR a fun u=>thenR b fun v=>nbin P .rem t u v)
 (fun P t a b=>thenR a fun u=>thenR b fun v=>nbin P .and t u v)
 (fun P t a b=>thenR a fun u=>thenR b fun v=>nbin P .or t u v)
 (fun P t a b=>thenR a fun u=>thenR b fun v=>nbin P .xor t u v)
 (fun P t a b=>thenR a fun u=>thenR b fun v=>nbin P .shl t u v)
 (fun P t a b=>thenR a fun u=>thenR b fun v=>nbin P .shr t u v)
 (fun P t a b=>thenR a fun u=>thenR b fun v=>nbin P .andNot t u v)
 (fun P t a b=>thenR a fun u=>thenR b fun v=>intsR (fun _ x y=>some (.bool (eqR x y))) u v (nbin P .eql t u v))
 (fun P t a b=>thenR a fun u=>thenR b fun v=>intsR (fun _ x y=>some (.bool (Bool.rec (motive:=fun _=>Bool) true false (eqR x y)))) u v (nbin P .neq t u v))
 (fun P t a b=>thenR a fun u=>thenR b fun v=>intsR (fun _ x y=>some (.bool (ltR x y))) u v (nbin P .lss t u v))
 (fun P t a b=>thenR a fun u=>thenR b fun v=>intsR (fun _ x y=>some (.bool (leR x y))) u v (nbin P .leq t u v))
 (fun P t a b=>thenR a fun u=>thenR b fun v=>intsR (fun _ x y=>some (.bool (ltR y x))) u v (nbin P .gtr t u v))
 (fun P t a b=>thenR a fun u=>thenR b fun v=>intsR (fun _ x y=>some (.bool (leR y x))) u v (nbin P .geq t u v)) op
theorem binR_eq (op:BinOp) (P:Program) (t:TypeId) (a b:Option NVal):binR op P t a b=bind2 a b (nbin P op t):=by
 cases a with
 |none=>cases op<;>rfl
 |some u=>
  cases b with
  |none=>cases op<;>rfl
  |some v=>
   have neg:∀x:Bool,Bool.rec (motive:=fun _=>Bool) true false x=!x:=fun x=>by cases x<;>rfl
   show _=nbin P op t u v
   cases op
   case add=>exact intsR_eq P .add t (fun k x y=>some (.int k (wrapR k (addR x y)))) (by decide) (by decide) (fun k x y=>by simp only[wrapR_eq,addR_eq,nIntOp]) u v
   case sub=>exact intsR_eq P .sub t (fun k x y=>some (.int k (wrapR k (subR x y)))) (by decide) (by decide) (fun k x y=>by simp only[wrapR_eq,subR_eq,nIntOp]) u v
   case mul=>exact intsR_eq P .mul t (fun k x y=>some (.int k (wrapR k (mulR x y)))) (by decide) (by decide) (fun k x y=>by simp only[wrapR_eq,mulR_eq,nIntOp]) u v
   case eql=>exact intsR_eq P .eql t (fun _ x y=>some (.bool (eqR x y))) (by decide) (by decide) (fun k x y=>by simp only[eqR_eq,nIntOp]) u v
   case neq=>exact intsR_eq P .neq t (fun _ x y=>some (.bool (Bool.rec (motive:=fun _=>Bool) true false (eqR x y)))) (by decide) (by decide) (fun k x y=>by rw[neg,eqR_eq];rfl) u v
   case lss=>exact intsR_eq P .lss t (fun _ x y=>some (.bool (ltR x y))) (by decide) (by decide) (fun k x y=>by simp only[ltR_eq,nIntOp]) u v
   case leq=>exact intsR_eq P .leq t (fun _ x y=>some (.bool (leR x y))) (by decide) (by decide) (fun k x y=>by simp only[leR_eq,nIntOp]) u v
   case gtr=>exact intsR_eq P .gtr t (fun _ x y=>some (.bool (ltR y x))) (by decide) (by decide) (fun k x y=>by simp only[ltR_eq,nIntOp]) u v
   case geq=>exact intsR_eq P .geq t (fun _ x y=>some (.bool (leR y x))) (by decide) (by decide) (fun k x y=>by simp only[leR_eq,nIntOp]) u v
   all_goals rfl
noncomputable def withR (r:Option NVal) (h:NHeap):Option (NVal×NHeap):=Option.rec (motive:=fun _=>Option (NVal×NHeap)) none (fun v=>some (v,h)) r
theorem withR_eq (r:Option NVal) (h:NHeap):withR r h=withH r h:=by cases r<;>rfl
noncomputable def builtR (c:Call) (P:Program) (ρ:Rho) (h:NHeap):Option (NVal×NHeap):=orElseH (pureC c.callee P ρ c.args c.argTypes) h fun _=>orElseH (readC c.callee P ρ h c.args c.argTypes) h fun _=>forceP (effOp P ρ h (.call c))
noncomputable def callR (c:Call) (P:Program) (F:CallF) (ρ:Rho) (h:NHeap):Option (NVal×NHeap):=
 Callee.rec (motive:=fun _=>Option (NVal×NHeap)) (fun _=>callK (ncall P ρ h c) F h) (fun _ _=>callK (ncall P ρ h c) F h) (fun _=>builtR c P ρ h) c.callee
noncomputable def doR (op:Op):Program→CallF→Rho→NHeap→Option (NVal×NHeap):=Op.rec (motive:=fun _=>Program→CallF→Rho→NHeap→Option (NVal×NHeap))
 (fun x=>fun P F ρ h=>withR (ρ x) h)
 (fun x=>fun P F ρ h=>withR (ρ x) h)
 (fun c a b=>fun P F ρ h=>withR (kPick (ρ c) (ρ a) (ρ b)) h)
 (fun t=>fun P F ρ h=>allocR (kAllocT P t) h)
 (fun t x=>fun P F ρ h=>allocR (kBox (ρ x)) h)
 (fun t parts=>fun P F ρ h=>withR (kBuild P t (evParts ρ parts.toList)) h)
 (fun t len parts=>fun P F ρ h=>allocR (newOp P ρ (.buildSlice t len parts)) h)
 (fun t m k v=>fun P F ρ h=>forceP (effOp P ρ h (.insert t m k v)))
 (fun t x=>fun P F ρ h=>withR (loadR P h t (ρ x)) h)
 (fun t x y=>fun P F ρ h=>storeR P h t (ρ x) (ρ y))
 (fun _=>fun _ _ _ _=>none)
 (fun _=>fun _ _ _ _=>none)
 (fun x=>fun P F ρ h=>withR (kNil (ρ x)) h)
 (fun op t x y p=>fun P F ρ h=>withR (binR op P t (ρ x) (ρ y)) h)
 (fun op t x=>fun P F ρ h=>withR (bind1 (ρ x) (nun op)) h)
 (fun s d x=>fun P F ρ h=>orElseH (bind1 (ρ x) (nconv P s d)) h fun _=>orElseH (kStr P h s d (ρ x)) h fun _=>forceP (effOp P ρ h (.convert s d x)))
 (fun _ _=>fun _ _ _ _=>none)
 (fun t x=>fun P F ρ h=>withR (kIface P t (ρ x)) h)
 (fun fn first captured=>fun P F ρ h=>withR (kFunc fn (evs ρ first.toList) (evs ρ captured.toList)) h)
 (fun t r=>fun P F ρ h=>allocR (newOp P ρ (.makeMap t r)) h)
 (fun _ _=>fun _ _ _ _=>none)
 (fun t l c=>fun P F ρ h=>allocR (newOp P ρ (.makeSlice t l c)) h)
 (fun t x lo hi mx=>fun P F ρ h=>withR (kSlice P t (evOpt ρ mx) (ρ x) (evOpt ρ lo) (evOpt ρ hi)) h)
 (fun t x f=>fun P F ρ h=>withR (bind1 (ρ x) fun u=>nfieldAddr P t u f) h)
 (fun t x f=>fun P F ρ h=>withR (bind1 (ρ x) fun u=>nfield P t u f) h)
 (fun t x ix=>fun P F ρ h=>withR (bind2 (ρ x) (ρ ix) (nindexAddr P t)) h)
 (fun t x ix=>fun P F ρ h=>withR (bind2 (ρ x) (ρ ix) (nindex P t)) h)
 (fun t m k ok=>fun P F ρ h=>withR (bind2 (ρ m) (ρ k) fun u v=>nlookup P t u v ok h) h)
 (fun t m k v=>fun P F ρ h=>forceP (effOp P ρ h (.mapUpdate t m k v)))
 (fun _ _ _=>fun _ _ _ _=>none)
 (fun _ _ _ _=>fun _ _ _ _=>none)
 (fun _ _=>fun _ _ _ _=>none)
 (fun _ _=>fun _ _ _ _=>none)
 (fun _=>fun _ _ _ _=>none)
 (fun x t d ok=>fun P F ρ h=>withR (bind1 (ρ x) fun u=>nassert P u d ok) h)
 (fun x i=>fun P F ρ h=>withR (kExtract (ρ x) i) h)
 (fun c=>fun P F ρ h=>callR c P F ρ h)
 (fun _=>fun _ _ _ _=>none)
 (fun _=>fun _ _ _ _=>none)
 (fun _=>fun _ _ _ _=>none)
 (fun _ _=>fun _ _ _ _=>none)
 (fun _ _ _=>fun _ _ _ _=>none)
 (fun _ _=>fun _ _ _ _=>none) op
theorem doR_eq (op:Op) (P:Program) (F:CallF) (ρ:Rho) (h:NHeap):doR op P F ρ h=doK P F ρ op h:=by
 cases op
 case binOp op t x y p=>
  show withR (binR op P t (ρ x) (ρ y)) h=withH (bind2 (ρ x) (ρ y) (nbin P op t)) h
  rw[withR_eq,binR_eq]
 case load t x=>
  show withR (loadR P h t (ρ x)) h=withH (kLoad P h t (ρ x)) h
  rw[withR_eq,loadR_eq]
 case store t x y=>exact storeR_eq P h t (ρ x) (ρ y)
 case call c=>
  obtain⟨callee,args,argTypes⟩:=c
  cases callee with
  |builtin b=>
   show builtR _ P ρ h=_
   unfold builtR
   simp only[forceP_eq]
   rfl
  |value f=>rfl
  |invoke r n=>rfl
 case convert s d x=>
  show orElseH (bind1 (ρ x) (nconv P s d)) h (fun _=>orElseH (kStr P h s d (ρ x)) h fun _=>forceP (effOp P ρ h (.convert s d x)))=_
  simp only[forceP_eq]
  rfl
 all_goals first|rfl|exact withR_eq _ _|exact allocR_eq _ _|exact forceP_eq _
end Go.Proofs.YtkjpldganajkkaaGreatDoor.NICE
namespace Go.Proofs.YtkjpldganajkkaaGreatDoor.NICE
open Go Go.RowKit
variable {P:Program}
inductive TT where
 |leaf
 |node (v:NVal) (l r:TT)
noncomputable def TT.get (t:TT):Nat→NVal:=
 TT.rec (motive:=fun _=>Nat→NVal) (fun _=>nundef)
  (fun v _ _ gl gr n=>Bool.rec (motive:=fun _=>NVal) (Bool.rec (motive:=fun _=>NVal) (gr (Nat.div n 2)) (gl (Nat.div n 2)) (Nat.beq (Nat.mod n 2) 0)) v (Nat.beq n 0)) t
noncomputable def TT.put (f:Nat):TT→Nat→NVal→TT:=
 Nat.rec (motive:=fun _=>TT→Nat→NVal→TT) (fun t _ _=>t)
  (fun _ ih t n o=>TT.rec (motive:=fun _=>TT)
   (Bool.rec (motive:=fun _=>TT) (Bool.rec (motive:=fun _=>TT) (.node nundef .leaf (ih .leaf (Nat.div n 2) o)) (.node nundef (ih .leaf (Nat.div n 2) o) .leaf) (Nat.beq (Nat.mod n 2) 0)) (.node o .leaf .leaf) (Nat.beq n 0))
   (fun v l r _ _=>Bool.rec (motive:=fun _=>TT) (Bool.rec (motive:=fun _=>TT) (.node v l (ih r (Nat.div n 2) o)) (.node v (ih l (Nat.div n 2) o) r) (Nat.beq (Nat.mod n 2) 0)) (.node o l r) (Nat.beq n 0)) t) f
theorem TT.put_leaf (f:Nat) (n:Nat) (o:NVal):TT.put (f+1) .leaf n o=bif Nat.beq n 0 then .node o .leaf .leaf else bif Nat.beq (n%2) 0 then .node nundef (TT.put f .leaf (n/2) o) .leaf else .node nundef .leaf (TT.put f .leaf (n/2) o):=by
 show Bool.rec (motive:=fun _=>TT) _ _ (Nat.beq n 0)=_
 cases Nat.beq n 0
 ·show Bool.rec (motive:=fun _=>TT) _ _ (Nat.beq (n%2) 0)=_
  cases Nat.beq (n%2) 0<;>rfl
 ·rfl
theorem TT.put_node (f:Nat) (v:NVal) (l r:TT) (n:Nat) (o:NVal):TT.put (f+1) (.node v l r) n o=bif Nat.beq n 0 then .node o l r else bif Nat.beq (n%2) 0 then .node v (TT.put f l (n/2) o) r else .node v l (TT.put f r (n/2) o):=by
 show Bool.rec (motive:=fun _=>TT) _ _ (Nat.beq n 0)=_
 cases Nat.beq n 0
 ·show Bool.rec (motive:=fun _=>TT) _ _ (Nat.beq (n%2) 0)=_
  cases Nat.beq (n%2) 0<;>rfl
 ·rfl
theorem cbeq {α:Type} (n m:Nat) (a b:α):(bif Nat.beq n m then a else b)=if n=m then a else b:=by
 by_cases h:n=m
 ·subst h;simp
 ·have:Nat.beq n m=false:=by
   cases e:Nat.beq n m with
   |false=>rfl
   |true=>exact absurd (Nat.eq_of_beq_eq_true e) h
  rw[this,if_neg h];rfl
theorem TT.get_leaf (n:Nat):TT.leaf.get n=nundef:=rfl
theorem TT.get_node (v:NVal) (l r:TT) (n:Nat):(TT.node v l r).get n=if n=0 then v else if n%2=0 then l.get (n/2) else r.get (n/2):=by
 show Bool.rec (motive:=fun _=>NVal) (Bool.rec (motive:=fun _=>NVal) (r.get (n/2)) (l.get (n/2)) (Nat.beq (n%2) 0)) v (Nat.beq n 0)=_
 rw[←cbeq,←cbeq]
 cases Nat.beq n 0
 ·cases Nat.beq (n%2) 0<;>rfl
 ·rfl
theorem TT.get_put (o:NVal):∀(f:Nat) (t:TT) (n m:Nat),n<f→(TT.put f t n o).get m=if m=n then o else t.get m
 |0,_,_,_,h=>by omega
 |f+1,.leaf,n,m,h=>by
  rw[TT.put_leaf]
  simp only[cbeq]
  by_cases hn:n=0
  ·subst hn;simp only[if_true,TT.get_node,TT.get_leaf]
   by_cases hm:m=0
   ·simp[hm]
   ·simp only[hm,if_false];split<;>rfl
  ·have ih:=TT.get_put o f .leaf (n/2) (m/2) (by omega)
   by_cases he:n%2=0
   ·simp only[hn,he,if_false,if_true,TT.get_node]
    by_cases hm:m=0
    ·subst hm;simp[Ne.symm hn,TT.get_leaf]
    ·simp only[hm,if_false]
     by_cases hme:m%2=0
     ·simp only[hme,if_true,ih];by_cases hmn:m=n
      ·subst hmn;simp
      ·rw[if_neg (by omega),if_neg hmn];rfl
     ·simp only[hme,if_false];rw[if_neg (by intro e;subst e;omega)];rfl
   ·simp only[hn,he,if_false,TT.get_node]
    by_cases hm:m=0
    ·subst hm;simp[Ne.symm hn,TT.get_leaf]
    ·simp only[hm,if_false]
     by_cases hme:m%2=0
     ·simp only[hme,if_true];rw[if_neg (by intro e;subst e;omega)];rfl
     ·simp only[hme,if_false,ih];by_cases hmn:m=n
      ·subst hmn;simp
      ·rw[if_neg (by omega),if_neg hmn];rfl
 |f+1,.node v l r,n,m,h=>by
  rw[TT.put_node]
  simp only[cbeq]
  by_cases hn:n=0
  ·subst hn;by_cases hm:m=0<;>simp[TT.get_node,hm]
  ·by_cases he:n%2=0
   ·have ih:=TT.get_put o f l (n/2) (m/2) (by omega)
    simp only[hn,he,if_false,if_true,TT.get_node]
    by_cases hm:m=0
    ·subst hm;simp[Ne.symm hn]
    ·simp only[hm,if_false]
     by_cases hme:m%2=0
     ·simp only[hme,if_true,ih];by_cases hmn:m=n
      ·subst hmn;simp
      ·rw[if_neg (by omega),if_neg hmn]
     ·simp only[hme,if_false];rw[if_neg (by intro e;subst e;omega)]
   ·have ih:=TT.get_put o f r (n/2) (m/2) (by omega)
    simp only[hn,he,if_false,TT.get_node]
    by_cases hm:m=0
    ·subst hm;simp[Ne.symm hn]
    ·simp only[hm,if_false]
     by_cases hme:m%2=0
     ·simp only[hme,if_true];rw[if_neg (by intro e;subst e;omega)]
     ·simp only[hme,if_false,ih];by_cases hmn:m=n
      ·subst hmn;simp
      ·rw[if_neg (by omega),if_neg hmn]
abbrev TS:=TT
structure Rep (n:Nat) (s:TS) (ts:List NVal):Prop where
 len:ts.length=n
 get:∀i,s.get i=ts.getD i nundef
noncomputable def TT.ev (s:TS):Operand→Option NVal
 | .tmp t=>some (s.get t)
 | .const v=>ofVal 4 v
 | .global _=>none
 | .func f=>some (.func (.func f) [] [])
variable {N:Nat}
theorem Rep.ev {s:TS} {ts:List NVal} (r:Rep N s ts):s.ev=NICE.ev ts:=by
 funext x
 cases x<;>simp[TT.ev,NICE.ev,r.get]
noncomputable def TT.putO (N:Nat) (s:TS) (dst:Option Tmp) (v:NVal):Option TS:=
 Option.rec (motive:=fun _=>Option TS) (some s) (fun d=>Bool.rec (motive:=fun _=>Option TS) none (some (TT.put (Nat.succ d) s d v)) (Nat.ble (Nat.succ d) N)) dst
theorem Rep.put {s s':TS} {ts:List NVal} (r:Rep N s ts) {dst:Option Tmp} {v:NVal} (h:s.putO N dst v=some s'):Rep N s' (nput ts dst v):=by
 cases dst with
 |none=>cases h;exact r
 |some d=>
  have h':Bool.rec (motive:=fun _=>Option TS) none (some (TT.put (d+1) s d v)) (Nat.ble (d+1) N)=some s':=h
  cases hb:Nat.ble (d+1) N with
  |false=>rw[hb] at h';cases h'
  |true=>
   rw[hb] at h';cases h'
   have hd:Nat.lt d N:=Nat.le_of_ble_eq_true hb
   have hd:d<N:=hd
   refine⟨by simp[nput,r.len],fun i=>?_⟩
   rw[TT.get_put v (d+1) s d i (by omega),r.get]
   simp only[nput,List.getD_eq_getElem?_getD,List.getElem?_set]
   by_cases hi:i=d
   ·subst hi
    rw[if_pos rfl,if_pos rfl,if_pos (by rw[r.len];exact hd)];rfl
   ·rw[if_neg hi,if_neg (Ne.symm hi)]
noncomputable def TT.ofList:List NVal→Nat→TT→TT
 |[],_,t=>t
 |v::l,i,t=>TT.ofList l (i+1) (TT.put (i+1) t i v)
theorem TT.get_ofList:∀(l:List NVal) (i:Nat) (t:TT) (j:Nat),(TT.ofList l i t).get j=if i≤j∧j<i+l.length then l.getD (j-i) nundef else t.get j
 |[],i,t,j=>by rw[if_neg (by simp)];rfl
 |v::l,i,t,j=>by
  unfold TT.ofList
  rw[TT.get_ofList l,TT.get_put v (i+1) t i j (by omega)]
  by_cases h1:j=i
  ·subst h1
   rw[if_neg (by omega),if_pos rfl,if_pos (by simp)];simp
  ·by_cases h2:i+1≤j∧j<i+1+l.length
   ·rw[if_pos h2,if_pos (by simp;omega),show j-i=(j-(i+1))+1 by omega];simp
   ·rw[if_neg h2,if_neg h1,if_neg (by simp;omega)]
noncomputable def TT.start (args:List NVal):TS:=TT.ofList args 0 .leaf
theorem Rep.start (args:List NVal) (nt:Nat):Rep (args.length+(nt-args.length)) (TT.start args) (args++List.replicate (nt-args.length) nundef):=by
 refine⟨by simp,fun i=>?_⟩
 show(TT.ofList args 0 .leaf).get i=_
 rw[TT.get_ofList]
 simp only[Nat.zero_le,true_and,Nat.zero_add,Nat.sub_zero,TT.get_leaf]
 by_cases h:i<args.length
 ·rw[if_pos h];simp[List.getD_eq_getElem?_getD,List.getElem?_append,h]
 ·rw[if_neg h]
  simp only[List.getD_eq_getElem?_getD,List.getElem?_append,h,if_false,List.getElem?_replicate]
  split<;>rfl
noncomputable def twanted (ops:Array Oper) (o:Oper) (s:TS):Option Bool:=
 match o.guard with
 |none=>some true
 |some (j,want)=>match(ops[j]?).bind (·.dst) with
  |none=>some false
  |some d=>match s.get d with
   | .bool b=>some (b==want)
   | .junk=>none
   |_=>some false
theorem Rep.wanted {s:TS} {ts:List NVal} (r:Rep N s ts) (ops:Array Oper) (o:Oper):twanted ops o s=nwanted ops o ts:=by
 unfold twanted nwanted
 cases o.guard with
 |none=>rfl
 |some p=>
  obtain⟨j,want⟩:=p
  simp only
  cases(ops[j]?).bind (·.dst) with
  |none=>rfl
  |some d=>
   simp only[r.get,List.getD_eq_getElem?_getD]
   cases ts[d]? with
   |none=>rfl
   |some u=>cases u<;>rfl
noncomputable def tseq (P:Program) (F:CallF) (N:Nat) (ops:Array Oper):List Oper→TS→NHeap→Option (TS×NHeap)
 |[],s,h=>some (s,h)
 |o::rest,s,h=>match twanted ops o s with
  |none=>none
  |some false=>(match s.putO N o.dst nundef with|some s'=>tseq P F N ops rest s' h|none=>none)
  |some true=>match doR o.op P F s.ev h with
   |none=>none
   |some (v,h')=>(match s.putO N o.dst v with|some s'=>tseq P F N ops rest s' h'|none=>none)
noncomputable def twantedR (ops:Array Oper) (o:Oper) (s:TS) (g:Option (Nat×Bool)):Option Bool:=Option.rec (motive:=fun _=>Option Bool) (some true) (fun _=>twanted ops o s) g
theorem twantedR_eq (ops:Array Oper) (o:Oper) (s:TS):twantedR ops o s o.guard=twanted ops o s:=by
 unfold twanted
 cases h:o.guard with
 |none=>rfl
 |some p=>show twanted ops o s=_;unfold twanted;rw[h]
noncomputable def tseqR (P:Program) (F:CallF) (N:Nat) (ops:Array Oper) (l:List Oper):TS→NHeap→Option (TS×NHeap):=
 List.rec (motive:=fun _=>TS→NHeap→Option (TS×NHeap)) (fun s h=>some (s,h))
  (fun o _ ih s h=>Oper.rec (motive:=fun _=>Option (TS×NHeap)) (fun dst op _ _ _ guard=>
   Option.rec (motive:=fun _=>Option (TS×NHeap)) none
    (fun w=>Bool.rec (motive:=fun _=>Option (TS×NHeap))
     (Option.rec (motive:=fun _=>Option (TS×NHeap)) none (fun s'=>ih s' h) (s.putO N dst nundef))
     (Option.rec (motive:=fun _=>Option (TS×NHeap)) none (fun p=>Prod.rec (motive:=fun _=>Option (TS×NHeap)) (fun v h'=>Option.rec (motive:=fun _=>Option (TS×NHeap)) none (fun s'=>ih s' h') (s.putO N dst v)) p) (doR op P F s.ev h)) w)
    (twantedR ops o s guard)) o) l
theorem tseqR_eq (P:Program) (F:CallF) (N:Nat) (ops:Array Oper):∀(l:List Oper) (s:TS) (h:NHeap),tseqR P F N ops l s h=tseq P F N ops l s h
 |[],s,h=>rfl
 |o::rest,s,h=>by
  have ih:=tseqR_eq P F N ops rest
  unfold tseq
  obtain⟨dst,op,ty,pos,after,guard⟩:=o
  show Option.rec (motive:=fun _=>Option (TS×NHeap)) none
    (fun w=>Bool.rec (motive:=fun _=>Option (TS×NHeap))
     (Option.rec (motive:=fun _=>Option (TS×NHeap)) none (fun s'=>tseqR P F N ops rest s' h) (s.putO N dst nundef))
     (Option.rec (motive:=fun _=>Option (TS×NHeap)) none (fun p=>Prod.rec (motive:=fun _=>Option (TS×NHeap)) (fun v h'=>Option.rec (motive:=fun _=>Option (TS×NHeap)) none (fun s'=>tseqR P F N ops rest s' h') (s.putO N dst v)) p) (doR op P F s.ev h)) w)
    (twantedR ops ⟨dst,op,ty,pos,after,guard⟩ s guard)=_
  have hw:=twantedR_eq ops ⟨dst,op,ty,pos,after,guard⟩ s
  simp only at hw
  rw[hw]
  cases twanted ops ⟨dst,op,ty,pos,after,guard⟩ s with
  |none=>rfl
  |some w=>
   cases w with
   |false=>
    simp only
    cases s.putO N dst nundef with
    |none=>rfl
    |some s'=>exact ih s' h
   |true=>
    simp only
    cases doR op P F s.ev h with
    |none=>rfl
    |some p=>
     obtain⟨v,h'⟩:=p
     simp only
     cases s.putO N dst v with
     |none=>rfl
     |some s'=>exact ih s' h'
theorem tseq_sound {F:CallF} {ops:Array Oper}:∀{l:List Oper} {s s':TS} {ts:List NVal} {h h':NHeap},Rep N s ts→tseq P F N ops l s h=some (s',h')→∃ts',Rep N s' ts'∧seqOps P F ops l ts h=some (ts',h')
 |[],s,s',ts,h,h',r,e=>by cases e;exact⟨ts,r,rfl⟩
 |o::rest,s,s',ts,h,h',r,e=>by
  unfold tseq at e
  unfold seqOps
  rw[r.wanted] at e
  cases hw:nwanted ops o ts with
  |none=>rw[hw] at e;cases e
  |some b=>
   rw[hw] at e
   cases b with
   |false=>
    simp only at e⊢
    cases hp:s.putO N o.dst nundef with
    |none=>rw[hp] at e;cases e
    |some s1=>rw[hp] at e;exact tseq_sound (r.put hp) e
   |true=>
    simp only at e⊢
    rw[r.ev,doR_eq,doK_eq] at e
    cases hd:doOp P F (ev ts) o h with
    |none=>rw[hd] at e;cases e
    |some p=>
     obtain⟨v,h1⟩:=p
     rw[hd] at e
     simp only at e⊢
     cases hp:s.putO N o.dst v with
     |none=>rw[hp] at e;cases e
     |some s1=>rw[hp] at e;exact tseq_sound (r.put hp) e
noncomputable def readRR (op:Op) (P:Program) (ρ:Rho) (h:NHeap):Option NVal:=match op with
 | .load t x=>loadR P h t (ρ x)
 |o=>readK o P ρ h
theorem readRR_eq (op:Op) (P:Program) (ρ:Rho) (h:NHeap):readRR op P ρ h=readOp P ρ h op:=by
 unfold readRR
 split
 ·rw[loadR_eq];rfl
 ·exact readK_eq _ P ρ h
structure Su where
 s:TS
 h:NHeap
 hs:List NHeap
 ls:List (List Float3)
 ei:List Nat
 pend:List Float3
 nid:Nat
 reads:List (Nat×Oper×TS×NVal)
noncomputable def tstep (P:Program) (F:CallF) (N:Nat) (ops:Array Oper) (M:List Nat) (i:Nat) (o:Oper) (st:Su):Option Su:=
 match st with
 |⟨s,h,hs,ls,ei,pend,nid,reads⟩=>
 match twanted ops o s with
 |none=>none
 |some false=>(match s.putO N o.dst nundef with|some s'=>some ⟨s',h,hs,ls,ei,pend,nid,reads⟩|none=>none)
 |some true=>
  match pureK o.op P s.ev with
  |some v=>(match s.putO N o.dst v with|some s'=>some ⟨s',h,hs,ls,ei,pend,nid,reads⟩|none=>none)
  |none=>match readRR o.op P s.ev h with
   |some v=>(match s.putO N o.dst v with|some s'=>some ⟨s',h,hs,ls,ei,pend,nid,reads++[(i,o,s,v)]⟩|none=>none)
   |none=>match newK o.op P s.ev with
    |some (.cells cs (.own none),mk)=>(match s.putO N o.dst (mk nid) with|some s'=>forceN (nid+1) fun nid'=>some ⟨s',h,hs,ls,ei,pend++[(i,nid,cs)],nid',reads⟩|none=>none)
    |_=>
     let tk:=pend.filter fun x=>(M.getD i 0).testBit x.1
     forceH (adoptAll h tk) fun pre=>
     match doR o.op P F s.ev pre with
     |none=>none
     |some (v,h')=>if ei.all (fun j=>(M.getD i 0).testBit j)&&decide (pre.next≤h'.next) then
       (match s.putO N o.dst v with
       |some s'=>some ⟨s',h',hs++[h'],ls++[tk],ei++[i],pend.filter fun x=>!(M.getD i 0).testBit x.1,nid,reads⟩
       |none=>none) else none
noncomputable def trun (P:Program) (F:CallF) (N:Nat) (ops:Array Oper) (M:List Nat):Nat→List Oper→Su→Option Su
 |_,[],st=>some st
 |i,o::rest,st=>match tstep P F N ops M i o st with
  |none=>none
  |some st'=>trun P F N ops M (i+1) rest st'
noncomputable def treadAgain (P:Program) (M:List Nat) (ei:List Nat) (r:Nat×Oper×TS×NVal):Nat→List NHeap→Bool
 |_,[]=>true
 |k,h::hs=>(!inWin M r.1 k 0 ei||(match readRR r.2.1.op P r.2.2.1.ev h with|some v=>veq 50 v r.2.2.2|none=>false))&&treadAgain P M ei r (k+1) hs
noncomputable def tdrawn (P:Program) (F:CallF) (N:Nat) (ops:Array Oper) (s:TS) (h:NHeap):Option (TS×NHeap):=
 let nf:=(ops.toList.filter fun o=>makesRow o.op).length
 let M:=masksOf ops.toList
 forceH (reserve nf h) fun g=>
 match trun P F N ops M 0 ops.toList {s:=s,h:=g,hs:=[g],ls:=[],ei:=[],pend:=[],nid:=h.next,reads:=[]} with
 |none=>none
 |some st=>if decide (st.nid≤h.next+nf)&&(st.ei.isEmpty||st.reads.all fun r=>treadAgain P M st.ei r 0 st.hs) then forceH (adoptAll st.h st.pend) fun h'=>some (st.s,h') else none
structure RepS (N:Nat) (u:Su) (st:St):Prop where
 s:Rep N u.s st.ts
 h:u.h=st.h
 hs:u.hs=st.hs
 ls:u.ls=st.ls
 ei:u.ei=st.ei
 pend:u.pend=st.pend
 nid:u.nid=st.nid
 reads:All2 (fun a b=>a.1=b.1∧a.2.1=b.2.1∧Rep N a.2.2.1 b.2.2.1∧a.2.2.2=b.2.2.2) u.reads st.reads
theorem tstep_sound {F:CallF} {ops:Array Oper} {M:List Nat} {i:Nat} {o:Oper} {u u':Su} {st:St} (r:RepS N u st) (e:tstep P F N ops M i o u=some u'):∃st',RepS N u' st'∧stepE P F ops M i o st=some st':=by
 obtain⟨s,h,hs,ls,ei,pend,nid,reads⟩:=u
 obtain⟨ts,h1,hs1,ls1,ei1,pend1,nid1,reads1,v1,c1⟩:=st
 obtain⟨r1,r2,r3,r4,r5,r6,r7,r8⟩:=r
 simp only at r1 r2 r3 r4 r5 r6 r7 r8
 subst r2 r3 r4 r5 r6 r7
 unfold tstep at e
 unfold stepE
 simp only at e⊢
 rw[r1.wanted] at e
 cases hw:nwanted ops o ts with
 |none=>rw[hw] at e;cases e
 |some b=>
  rw[hw] at e
  cases b with
  |false=>
   simp only at e⊢
   cases hp:s.putO N o.dst nundef with
   |none=>rw[hp] at e;cases e
   |some s1=>rw[hp] at e;cases e;exact⟨_,⟨r1.put hp,rfl,rfl,rfl,rfl,rfl,rfl,r8⟩,rfl⟩
  |true=>
   simp only at e⊢
   simp only[r1.ev,pureK_eq,readRR_eq,newK_eq,doR_eq,doK_eq,forceH_eq,forceN_eq] at e
   cases hpu:pureOp P (ev ts) o.op with
   |some v=>
    rw[hpu] at e
    simp only at e⊢
    cases hp:s.putO N o.dst v with
    |none=>rw[hp] at e;cases e
    |some s1=>rw[hp] at e;cases e;exact⟨_,⟨r1.put hp,rfl,rfl,rfl,rfl,rfl,rfl,r8⟩,rfl⟩
   |none=>
    rw[hpu] at e
    simp only at e⊢
    cases hre:readOp P (ev ts) h o.op with
    |some v=>
     rw[hre] at e
     simp only at e⊢
     cases hp:s.putO N o.dst v with
     |none=>rw[hp] at e;cases e
     |some s1=>
      rw[hp] at e;cases e
      exact⟨_,⟨r1.put hp,rfl,rfl,rfl,rfl,rfl,rfl,r8.append (.cons ⟨rfl,rfl,r1,rfl⟩ .nil)⟩,rfl⟩
    |none=>
     rw[hre] at e
     simp only at e⊢
     have efft:∀u',(match doOp P F (ev ts) o (adoptAll h (pend.filter fun x=>(M.getD i 0).testBit x.1)) with
       |none=>none
       |some (v,h')=>if ei.all (fun j=>(M.getD i 0).testBit j)&&decide ((adoptAll h (pend.filter fun x=>(M.getD i 0).testBit x.1)).next≤h'.next) then
         (match s.putO N o.dst v with
         |some s'=>some ({s:=s',h:=h',hs:=hs++[h'],ls:=ls++[pend.filter fun x=>(M.getD i 0).testBit x.1],ei:=ei++[i],pend:=pend.filter fun x=>!(M.getD i 0).testBit x.1,nid:=nid,reads:=reads}:Su)
         |none=>none) else none)=some u'→
       ∃st',RepS N u' st'∧(match doOp P F (ev ts) o (adoptAll h (pend.filter fun x=>(M.getD i 0).testBit x.1)) with
        |none=>none
        |some (v,h')=>if ei.all (fun j=>(M.getD i 0).testBit j)&&decide ((adoptAll h (pend.filter fun x=>(M.getD i 0).testBit x.1)).next≤h'.next) then
          some ({ts:=nput ts o.dst v,h:=h',hs:=hs++[h'],ls:=ls++[pend.filter fun x=>(M.getD i 0).testBit x.1],ei:=ei++[i],pend:=pend.filter fun x=>!(M.getD i 0).testBit x.1,nid:=nid,reads:=reads1,v:=v,c:=.eff (ei.length+1)}:St) else none)=some st':=by
      intro u' e
      cases hd:doOp P F (ev ts) o (adoptAll h (pend.filter fun x=>(M.getD i 0).testBit x.1)) with
      |none=>rw[hd] at e;cases e
      |some p=>
       obtain⟨v,h'⟩:=p
       rw[hd] at e
       simp only at e⊢
       split at e
       ·rename_i hc
        rw[if_pos hc]
        cases hp:s.putO N o.dst v with
        |none=>rw[hp] at e;cases e
        |some s1=>rw[hp] at e;cases e;exact⟨_,⟨r1.put hp,rfl,rfl,rfl,rfl,rfl,rfl,r8⟩,rfl⟩
       ·cases e
     cases hn:newOp P (ev ts) o.op with
     |none=>rw[hn] at e;exact efft _ e
     |some p=>
      obtain⟨ob,mk⟩:=p
      rw[hn] at e
      cases ob with
      |cells cs mine=>
       cases mine with
       |own q=>cases q with
        |none=>
         simp only at e⊢
         cases hp:s.putO N o.dst (mk nid) with
         |none=>rw[hp] at e;cases e
         |some s1=>rw[hp] at e;cases e;exact⟨_,⟨r1.put hp,rfl,rfl,rfl,rfl,rfl,rfl,r8⟩,rfl⟩
        |some q=>exact efft _ e
       |ro=>exact efft _ e
      |map es=>exact efft _ e
      |dead=>exact efft _ e
theorem trun_sound {F:CallF} {ops:Array Oper} {M:List Nat}:∀{l:List Oper} {i:Nat} {u u':Su} {st:St},RepS N u st→trun P F N ops M i l u=some u'→∃st',RepS N u' st'∧runE P F ops M i l st=some st'
 |[],i,u,u',st,r,e=>by cases e;exact⟨st,r,rfl⟩
 |o::l,i,u,u',st,r,e=>by
  unfold trun at e
  unfold runE
  cases hs:tstep P F N ops M i o u with
  |none=>rw[hs] at e;cases e
  |some u1=>
   rw[hs] at e
   obtain⟨st1,r1,e1⟩:=tstep_sound r hs
   rw[e1]
   exact trun_sound r1 e
theorem treadAgain_eq {M ei:List Nat} {a:Nat×Oper×TS×NVal} {b:Nat×Oper×List NVal×NVal} (h:a.1=b.1∧a.2.1=b.2.1∧Rep N a.2.2.1 b.2.2.1∧a.2.2.2=b.2.2.2):∀{k:Nat} {hs:List NHeap},treadAgain P M ei a k hs=readAgain P M ei b k hs
 |k,[]=>rfl
 |k,x::hs=>by
  unfold treadAgain readAgain
  rw[treadAgain_eq h,readRR_eq,h.1,h.2.1,h.2.2.1.ev,h.2.2.2]
  rfl
theorem tdrawn_sound {F:CallF} {ops:Array Oper} {s s':TS} {ts:List NVal} {h h':NHeap} (r:Rep N s ts) (e:tdrawn P F N ops s h=some (s',h')):∃ts',Rep N s' ts'∧drawnOps P F ops ts h=some (ts',h'):=by
 unfold tdrawn at e
 unfold drawnOps
 simp only[forceH_eq] at e⊢
 cases hr:trun P F N ops (masksOf ops.toList) 0 ops.toList {s:=s,h:=reserve (ops.toList.filter fun o=>makesRow o.op).length h,hs:=[reserve (ops.toList.filter fun o=>makesRow o.op).length h],ls:=[],ei:=[],pend:=[],nid:=h.next,reads:=[]} with
 |none=>rw[hr] at e;cases e
 |some u=>
  rw[hr] at e
  obtain⟨st,r1,e1⟩:=trun_sound (st:={ts:=ts,h:=_,hs:=_,ls:=[],ei:=[],pend:=[],nid:=h.next,reads:=[],v:=nundef,c:=.skip}) ⟨r,rfl,rfl,rfl,rfl,rfl,rfl,.nil⟩ hr
  rw[e1]
  simp only at e⊢
  split at e
  ·rename_i hc
   cases e
   have hall:(st.ei.isEmpty||st.reads.all fun r=>readAgain P (masksOf ops.toList) st.ei r 0 st.hs)=true:=by
    simp only[Bool.and_eq_true] at hc
    have:=hc.2
    rw[r1.ei] at this
    simp only[Bool.or_eq_true] at this⊢
    rcases this with q|q
    ·exact .inl q
    ·refine .inr ?_
     rw[r1.hs] at q
     have r8:=r1.reads
     revert q
     generalize u.reads=la at r8
     generalize st.reads=lb at r8
     intro q
     induction r8 with
     |nil=>rfl
     |cons a b ih=>
      simp only[List.all_cons,Bool.and_eq_true] at q⊢
      exact⟨by rw[←treadAgain_eq a];exact q.1,ih q.2⟩
   rw[if_pos (by rw[hall,←r1.nid];simp only[Bool.and_eq_true] at hc;simp only[hc.1,Bool.and_self])]
   exact⟨_,r1.s,by rw[r1.h,r1.pend]⟩
  ·cases e
noncomputable def tC (P:Program) (F:CallF) (N:Nat):Nat→Code→TS→NHeap→Option (Ex×TS×NHeap)
 |0,_,_,_=>none
 |n+1,c,ts,h=>
  match c with
  | .skip=>some (.normal,ts,h)
  | .ret=>some (.ret,ts,h)
  | .exit i=>some (.exit i,ts,h)
  | .region _ ops draw=>(match(if draw then tdrawn P F N ops ts h else tseq P F N ops ops.toList ts h) with
   |some (ts',h')=>some (.normal,ts',h')
   |none=>none)
  | .seq a b=>(match tC P F N n a ts h with
   |some (.normal,ts',h')=>tC P F N n b ts' h'
   |r=>r)
  | .cond x a b=>(match ts.ev x with
   |some (.bool true)=>tC P F N n a ts h
   |some (.bool false)=>tC P F N n b ts h
   |_=>none)
  | .block i a=>(match tC P F N n a ts h with
   |some (.exit j,ts',h')=>if j=i then some (.normal,ts',h') else some (.exit j,ts',h')
   |r=>r)
  | .loop a=>(match tC P F N n a ts h with
   |some (.normal,ts',h')=>tC P F N n (.loop a) ts' h'
   |r=>r)
  |_=>none
abbrev OutT:=Option (Ex×TS×NHeap)
noncomputable def exK (r:OutT) (n:TS→NHeap→OutT) (x:Nat→TS→NHeap→OutT):OutT:=
 Option.rec (motive:=fun _=>OutT) none (fun p=>Prod.rec (motive:=fun _=>OutT) (fun e q=>Prod.rec (motive:=fun _=>OutT) (fun s h=>Ex.rec (motive:=fun _=>OutT) (n s h) (fun i=>x i s h) (some (.ret,s,h)) e) q) p) r
noncomputable def normK (r:Option (TS×NHeap)):OutT:=Option.rec (motive:=fun _=>OutT) none (fun q=>Prod.rec (motive:=fun _=>OutT) (fun s h=>some (.normal,s,h)) q) r
noncomputable def boolK (u:NVal) (a b:OutT):OutT:=
 NVal.rec (motive_1:=fun _=>OutT) (motive_2:=fun _=>Unit) (fun t=>Bool.rec (motive:=fun _=>OutT) b a t) (fun _ _=>none) (fun _=>none) (fun _=>none) (fun _ _ _ _=>none) (fun _=>none) (fun _ _ _ _ _=>none) none (fun _ _ _=>none) none (fun _ _=>none) (fun _ _=>none) none () (fun _ _ _ _=>()) u
abbrev Self:=Code→TS→NHeap→OutT
noncomputable def codeR (c:Code):Self→Program→CallF→Nat→TS→NHeap→OutT:=Code.rec (motive:=fun _=>Self→Program→CallF→Nat→TS→NHeap→OutT)
 (fun _ _ _ _ s h=>some (.normal,s,h))
 (fun _ ops draw=>fun _ P F N s h=>normK (Bool.rec (motive:=fun _=>Option (TS×NHeap)) (tseqR P F N ops ops.toList s h) (tdrawn P F N ops s h) draw))
 (fun a b _ _=>fun self _ _ _ s h=>exK (self a s h) (fun s' h'=>self b s' h') (fun i s' h'=>some (.exit i,s',h')))
 (fun x a b _ _=>fun self _ _ _ s h=>Option.rec (motive:=fun _=>OutT) none (fun u=>boolK u (self a s h) (self b s h)) (s.ev x))
 (fun i a _=>fun self _ _ _ s h=>exK (self a s h) (fun s' h'=>some (.normal,s',h')) (fun j s' h'=>Bool.rec (motive:=fun _=>OutT) (some (.exit j,s',h')) (some (.normal,s',h')) (Nat.beq j i)))
 (fun a _=>fun self _ _ _ s h=>exK (self a s h) (fun s' h'=>self (.loop a) s' h') (fun i s' h'=>some (.exit i,s',h')))
 (fun _ _ _ _ _ _=>fun _ _ _ _ _ _=>none)
 (fun i=>fun _ _ _ _ s h=>some (.exit i,s,h))
 (fun _ _=>fun _ _ _ _ _ _=>none)
 (fun _=>fun _ _ _ _ _ _=>none)
 (fun _=>fun _ _ _ _ _ _=>none)
 (fun _ _ _ _ s h=>some (.ret,s,h))
 (fun _=>fun _ _ _ _ _ _=>none) c
noncomputable def tCR (P:Program) (F:CallF) (N:Nat) (n:Nat):Self:=
 Nat.rec (motive:=fun _=>Self) (fun _ _ _=>none) (fun _ ih c s h=>codeR c ih P F N s h) n
theorem tCR_eq (P:Program) (F:CallF) (N:Nat):∀(n:Nat) (c:Code) (s:TS) (h:NHeap),tCR P F N n c s h=tC P F N n c s h
 |0,c,s,h=>rfl
 |n+1,c,s,h=>by
  have ih:=tCR_eq P F N n
  show codeR c (tCR P F N n) P F N s h=_
  unfold tC
  cases c with
  |skip=>rfl
  |ret=>rfl
  |exit i=>rfl
  |region id ops draw=>
   cases draw with
   |true=>
    show normK (tdrawn P F N ops s h)=_
    simp only[if_true]
    cases tdrawn P F N ops s h with
    |none=>rfl
    |some p=>rfl
   |false=>
    show normK (tseqR P F N ops ops.toList s h)=_
    simp only[Bool.false_eq_true,if_false]
    rw[tseqR_eq]
    cases tseq P F N ops ops.toList s h with
    |none=>rfl
    |some p=>rfl
  |seq a b=>
   show exK (tCR P F N n a s h) (fun s' h'=>tCR P F N n b s' h') (fun i s' h'=>some (.exit i,s',h'))=_
   rw[ih]
   simp only
   cases tC P F N n a s h with
   |none=>rfl
   |some p=>
    obtain⟨e,s',h'⟩:=p
    cases e with
    |normal=>exact ih b s' h'
    |exit j=>rfl
    |ret=>rfl
  |cond x a b=>
   show Option.rec (motive:=fun _=>OutT) none (fun u=>boolK u (tCR P F N n a s h) (tCR P F N n b s h)) (s.ev x)=_
   rw[ih,ih]
   simp only
   cases s.ev x with
   |none=>rfl
   |some u=>
    cases u<;>try rfl
    rename_i t
    cases t<;>rfl
  |block i a=>
   show exK (tCR P F N n a s h) (fun s' h'=>some (.normal,s',h')) (fun j s' h'=>Bool.rec (motive:=fun _=>OutT) (some (.exit j,s',h')) (some (.normal,s',h')) (Nat.beq j i))=_
   rw[ih]
   simp only
   cases tC P F N n a s h with
   |none=>rfl
   |some p=>
    obtain⟨e,s',h'⟩:=p
    cases e with
    |normal=>rfl
    |exit j=>
     show Bool.rec (motive:=fun _=>OutT) (some (.exit j,s',h')) (some (.normal,s',h')) (Nat.beq j i)=_
     rw[nbeq]
     by_cases hj:j=i
     ·simp[hj]
     ·simp[hj]
    |ret=>rfl
  |loop a=>
   show exK (tCR P F N n a s h) (fun s' h'=>tCR P F N n (.loop a) s' h') (fun i s' h'=>some (.exit i,s',h'))=_
   rw[ih]
   simp only
   cases tC P F N n a s h with
   |none=>rfl
   |some p=>
    obtain⟨e,s',h'⟩:=p
    cases e with
    |normal=>exact ih _ s' h'
    |exit j=>rfl
    |ret=>rfl
  |rangeFunc _ _ _ _=>rfl
  |scope _=>rfl
  |label _=>rfl
  |goto _=>rfl
  |refuse _=>rfl
theorem tC_sound {F:CallF}:∀(n:Nat) (c:Code) (s:TS) (ts:List NVal) (h:NHeap) (e:Ex) (s':TS) (h':NHeap),Rep N s ts→tC P F N n c s h=some (e,s',h')→
  ∃ts',Rep N s' ts'∧evC P (drawnOps P) F n c ts h=some (e,ts',h')
 |0,c,s,ts,h,e,s',h',r,q=>by cases q
 |n+1,c,s,ts,h,e,s',h',r,q=>by
  have ih:=tC_sound (F:=F) n
  unfold tC at q
  unfold evC
  cases c with
  |skip=>cases q;exact⟨ts,r,rfl⟩
  |ret=>cases q;exact⟨ts,r,rfl⟩
  |exit i=>cases q;exact⟨ts,r,rfl⟩
  |region id ops draw=>
   simp only at q⊢
   cases draw with
   |true=>
    simp only[if_true] at q⊢
    cases hx:tdrawn P F N ops s h with
    |none=>rw[hx] at q;cases q
    |some p=>
     obtain⟨s1,h1⟩:=p
     rw[hx] at q;cases q
     obtain⟨ts1,r1,e1⟩:=tdrawn_sound r hx
     rw[e1];exact⟨ts1,r1,rfl⟩
   |false=>
    simp only[Bool.false_eq_true,if_false] at q⊢
    cases hx:tseq P F N ops ops.toList s h with
    |none=>rw[hx] at q;cases q
    |some p=>
     obtain⟨s1,h1⟩:=p
     rw[hx] at q;cases q
     obtain⟨ts1,r1,e1⟩:=tseq_sound r hx
     rw[e1];exact⟨ts1,r1,rfl⟩
  |seq a b=>
   simp only at q⊢
   cases hx:tC P F N n a s h with
   |none=>rw[hx] at q;cases q
   |some p=>
    obtain⟨e1,s1,h1⟩:=p
    rw[hx] at q
    obtain⟨ts1,r1,q1⟩:=ih _ _ _ _ _ _ _ r hx
    rw[q1]
    cases e1 with
    |normal=>exact ih _ _ _ _ _ _ _ r1 q
    |exit j=>cases q;exact⟨ts1,r1,rfl⟩
    |ret=>cases q;exact⟨ts1,r1,rfl⟩
  |cond x a b=>
   simp only at q⊢
   rw[r.ev] at q
   cases hx:ev ts x with
   |none=>rw[hx] at q;cases q
   |some u=>
    rw[hx] at q
    cases u with
    |bool t=>cases t with
     |true=>exact ih _ _ _ _ _ _ _ r q
     |false=>exact ih _ _ _ _ _ _ _ r q
    |_=>cases q
  |block i a=>
   simp only at q⊢
   cases hx:tC P F N n a s h with
   |none=>rw[hx] at q;cases q
   |some p=>
    obtain⟨e1,s1,h1⟩:=p
    rw[hx] at q
    obtain⟨ts1,r1,q1⟩:=ih _ _ _ _ _ _ _ r hx
    rw[q1]
    cases e1 with
    |normal=>cases q;exact⟨ts1,r1,rfl⟩
    |ret=>cases q;exact⟨ts1,r1,rfl⟩
    |exit j=>
     simp only at q⊢
     by_cases hj:j=i
     ·rw[if_pos hj] at q⊢;cases q;exact⟨ts1,r1,rfl⟩
     ·rw[if_neg hj] at q⊢;cases q;exact⟨ts1,r1,rfl⟩
  |loop a=>
   simp only at q⊢
   cases hx:tC P F N n a s h with
   |none=>rw[hx] at q;cases q
   |some p=>
    obtain⟨e1,s1,h1⟩:=p
    rw[hx] at q
    obtain⟨ts1,r1,q1⟩:=ih _ _ _ _ _ _ _ r hx
    rw[q1]
    cases e1 with
    |normal=>exact ih _ _ _ _ _ _ _ r1 q
    |exit j=>cases q;exact⟨ts1,r1,rfl⟩
    |ret=>cases q;exact⟨ts1,r1,rfl⟩
  |rangeFunc _ _ _ _=>cases q
  |scope _=>cases q
  |label _=>cases q
  |goto _=>cases q
  |refuse _=>cases q
noncomputable def tresult (P:Program) (s:TS) (h:NHeap):ResultVar→Option NVal
 | .tmp t=>some (s.get t)
 | .cell a t=>(match s.get a with
  | .ptr (some p)=>nload P t p h
  |_=>none)
noncomputable def tresults (P:Program) (s:TS) (h:NHeap):List ResultVar→Option (List NVal)
 |[]=>some []
 |r::rs=>match tresult P s h r with
  |none=>none
  |some v=>match tresults P s h rs with
   |none=>none
   |some vs=>some (v::vs)
theorem tresults_eq {s:TS} {ts:List NVal} (r:Rep N s ts) (h:NHeap):∀rs,tresults P s h rs=nresults P ts h rs
 |[]=>rfl
 |x::rs=>by
  unfold tresults nresults
  have:tresult P s h x=nresult P ts h x:=by
   cases x
   ·simp only[tresult,nresult,r.get]
   ·simp only[tresult,nresult,r.get];rfl
  rw[this,tresults_eq r h rs]
  rfl
noncomputable def tF (P:Program) {S:Array Oper→Bool} (E:Env P S) (m:Nat):Nat→CallF
 |0=>fun _ _ _=>none
 |n+1=>fun f args h=>match E.known f args h with
  |some r=>some r
  |none=>match E.get f with
   |none=>none
   |some (c,nt,rs)=>match tCR P (tF P E m n) (args.length+(nt-args.length)) m c (TT.start args) h with
    |some (.exit _,_,_)=>none
    |none=>none
    |some (_,s',h')=>match tresults P s' h' rs with
     |none=>none
     |some vs=>some (oneOr vs,h')
theorem tF_step (hm:P.follows .mixedOrders=true) (E:Env P drStatic) (m:Nat) {n:Nat} (ih:CallOk P (tF P E m n)) {f:FuncId} {asX:List NVal} {h:NHeap} {v:NVal} {h':NHeap}
  (e:tF P E m (n+1) f asX h=some (v,h')) (hk:E.known f asX h=none):Enters P f∧SimF P f asX h v h':=by
 unfold tF at e
 rw[hk] at e;simp only[tCR_eq] at e
 cases hg:E.get f with
 |none=>rw[hg] at e;cases e
 |some p=>
  obtain⟨c,nt,rs⟩:=p
  rw[hg] at e;simp only at e
  obtain⟨ok,st⟩:=E.ok f c nt rs hg
  refine⟨ok.enters,?_⟩
  cases hx:tC P (tF P E m n) (asX.length+(nt-asX.length)) m c (TT.start asX) h with
  |none=>rw[hx] at e;cases e
  |some q=>
   obtain⟨ex,s',h1⟩:=q
   rw[hx] at e
   obtain⟨ts',r1,e1⟩:=tC_sound m c _ _ _ _ _ _ (Rep.start asX nt) hx
   have hs:=(evC_sound (drawOk hm) ih m c st _ _ _ _ _ e1).1
   cases ex with
   |exit j=>cases e
   |normal=>
    simp only[tresults_eq r1] at e
    cases hr:nresults P ts' h1 rs with
    |none=>rw[hr] at e;cases e
    |some vs=>rw[hr] at e;cases e;exact fn_sound ok (.inl rfl) hs hr
   |ret=>
    simp only[tresults_eq r1] at e
    cases hr:nresults P ts' h1 rs with
    |none=>rw[hr] at e;cases e
    |some vs=>rw[hr] at e;cases e;exact fn_sound ok (.inr rfl) hs hr
theorem tF_sound (hm:P.follows .mixedOrders=true) (E:Env P drStatic) (m:Nat):∀n,CallOk P (tF P E m n)
 |0,f,asX,h,v,h',e=>by cases e
 |n+1,f,asX,h,v,h',e=>by
  cases hk:E.known f asX h with
  |some r=>unfold tF at e;rw[hk] at e;cases e;exact E.knownOk f asX h v h' hk
  |none=>exact .inl (tF_step hm E m (tF_sound hm E m n) e hk)
end Go.Proofs.YtkjpldganajkkaaGreatDoor.NICE
namespace Go.Proofs.YtkjpldganajkkaaGreatDoor.NICE
open Go Go.RowKit
theorem joined_mk {P:Program} {f:FuncId} {fn:Func} {s:ChangeSpec} {c:OpenClaim}
  (k1:c.wf (OpenSpec.ofChange s)=true) (k2:laidOutB P=true) (k3:mapsRowed P=true) (k4:fn.params.all (P.readableRec ·)=true) (k5:namedTie P c.named s.vars=true)
  (k6:(c.stops==[])=true) (k7:(P.stops==[])=true) (k8:(c.knobs==[])=true) (k9:(P.stopKnobs==[])=true)
  (k10:(c.inPlace==P.inPlace f)=true) (k11:(c.unfollowed==P.unfollowed f)=true) (k12:(c.recurses==P.recurses f)=true) (k13:(c.named==P.varsNamed f)=true)
  (k14:(c.maps==(fn.params.toList++s.plain.varTypes P).any (P.mapsRec ·))=true) (k15:(c.ifaces==(fn.params.toList++s.plain.varTypes P).any (P.ifacesRec ·))=true) (k16:(c.mapsOut==P.mapsAmong fn.resultTypes.toList)=true)
  (k17:(c.loops==(fn.params.toList++s.plain.varTypes P).any (P.loopsFrom ·))=true) (k18:(c.wideKeys==(fn.params.toList++s.plain.varTypes P++fn.resultTypes.toList).any (P.wideKeysFrom ·))=true)
  (k19:s.vars.all (P.varReadable ·)=true) (k20:fn.resultTypes.all (fun t=>P.readableRec t&&decide (t<P.types.size))=true) (k21:(c.ifacesOut==fn.resultTypes.toList.any (P.ifacesRec ·))=true) (k22:(c.loopsOut==fn.resultTypes.toList.any (P.loopsFrom ·))=true)
  (k23:(c.plainKeys==P.plainKeys)=true) (k24:c.shortTexts.isNone=true) (k25:P.stopsHeard=true) (k26:P.mayEnter=true) (k27:(c.lifted==P.liftsFinal)=true) (k28:(P.make==some c.make)=true)
  (k29:(c.kinds==(if c.domain.isEmpty then[] else fn.params.toList.map fun t=>match P.underlying t with|some (.int k)=>some k|_=>none))=true) (k30:(c.pinned==c.pinnedBy)=true)
  (k31:(c.veiled==(fn.params.toList++s.plain.varTypes P++fn.resultTypes.toList).any (P.veiledRec ·))=true) (k32:c.veiledFits P fn.params.toList (fn.params.toList++s.plain.varTypes P++fn.resultTypes.toList)=true):
  joinedFacts P f fn s c=true:=by
 unfold joinedFacts
 rw[k1,k2,k3,k4,k5,k6,k7,k8,k9,k10,k11,k12,k13,k14,k15,k16,k17,k18,k19,k20,k21,k22,k23,k24,k25,k26,k27,k28,k30,k31,k32]
 simp only[Bool.and_self,Bool.and_true,Bool.true_and]
 exact k29
end Go.Proofs.YtkjpldganajkkaaGreatDoor.NICE
