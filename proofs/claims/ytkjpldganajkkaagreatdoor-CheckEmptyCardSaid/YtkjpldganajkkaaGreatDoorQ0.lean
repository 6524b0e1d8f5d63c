/-
  Nice1 to Nice6, as one text. Proved step by step; no conditions beside what is said.
-/
import Derived.Below
import Derived.Laws.AppendOwn
import Derived.Laws.StructEq
import Derived.Lib.Builder
import Derived.Lib.UnsafeStr
import Derived.LoopN
import Derived.Orders
set_option linter.unusedSimpArgs false
set_option linter.unusedVariables false
set_option linter.unusedSectionVars false
set_option maxRecDepth 100000
namespace Go.Proofs.YtkjpldganajkkaaGreatDoor.NICE
open Go Go.RowKit
inductive NVal where
 |bool (b:Bool)
 |int (k:IntKind) (n:Int)
 |str (s:List UInt8)
 |ptr (a:Option (Nat×Nat))
 |slice (a:Option (Nat×Nat)) (len cap:Nat) (x:Option Nat)
 |map (r:Option Nat)
 |func (fn:Fn) (first captured:List NVal)
 |nilFunc
 |iface (t:TypeId) (v:NVal)
 |nilIface
 |agg (cells:List NVal)
 |tuple (vs:List NVal)
 |junk
 deriving Inhabited
def NVal.cells:NVal→List NVal
 | .agg cs=>cs
 |v=>[v]
def NVal.one:NVal→Bool
 | .agg _| .tuple _| .junk=>false
 |_=>true
def nundef:NVal:=.tuple []
inductive All2 {α β:Type} (R:α→β→Prop):List α→List β→Prop
 |nil:All2 R [] []
 |cons {a b l m}:R a b→All2 R l m→All2 R (a::l) (b::m)
namespace All2
variable {α β:Type} {R S:α→β→Prop}
theorem imp (h:∀a b,R a b→S a b):∀{l m},All2 R l m→All2 S l m
 |_,_,.nil=>.nil
 |_,_,.cons a b=>.cons (h _ _ a) (b.imp h)
theorem length:∀{l m},All2 R l m→l.length=m.length
 |_,_,.nil=>rfl
 |_,_,.cons _ b=>by simp[b.length]
theorem get:∀{l m},All2 R l m→∀{i:Nat} {a},l[i]? =some a→∃b,m[i]? =some b∧R a b
 |_,_,.nil,i,a,h=>by simp at h
 |_,_,.cons h t,0,a,e=>by simp at e;subst e;exact⟨_,rfl,h⟩
 |_,_,.cons h t,i+1,a,e=>by simp at e;obtain⟨b,e',r⟩:=t.get e;exact⟨b,by simpa using e',r⟩
theorem of_get:∀{l:List α} {m:List β},l.length=m.length→(∀(i:Nat) a b,l[i]? =some a→m[i]? =some b→R a b)→All2 R l m
 |[],[],_,_=>.nil
 |[],_::_,h,_=>by simp at h
 |_::_,[],h,_=>by simp at h
 |a::l,b::m,h,g=>.cons (g 0 a b rfl rfl) (of_get (by simpa using h) fun i x y hx hy=>g (i+1) x y (by simpa using hx) (by simpa using hy))
theorem append:∀{l m l' m'},All2 R l m→All2 R l' m'→All2 R (l++l') (m++m')
 |_,_,_,_,.nil,h=>h
 |_,_,_,_,.cons a b,h=>.cons a (b.append h)
theorem take {n:Nat}:∀{l m},All2 R l m→All2 R (l.take n) (m.take n):=by
 induction n with
 |zero=>intro l m _;simp;exact .nil
 |succ n ih=>intro l m h;cases h with
  |nil=>exact .nil
  |cons a b=>simp;exact .cons a (ih b)
theorem drop {n:Nat}:∀{l m},All2 R l m→All2 R (l.drop n) (m.drop n):=by
 induction n with
 |zero=>intro l m h;simpa using h
 |succ n ih=>intro l m h;cases h with
  |nil=>exact .nil
  |cons a b=>simp;exact ih b
theorem set {v:α} {u:β} (hv:R v u):∀{l m} {i:Nat},All2 R l m→All2 R (l.set i v) (m.set i u)
 |_,_,_,.nil=>.nil
 |_,_,0,.cons _ b=>.cons hv b
 |_,_,i+1,.cons a b=>.cons a (b.set hv)
theorem replicate {v:α} {u:β} (hv:R v u):∀n,All2 R (List.replicate n v) (List.replicate n u)
 |0=>.nil
 |n+1=>.cons hv (replicate hv n)
theorem getD {d:α} {e:β} (hd:R d e):∀{l m},All2 R l m→∀i,R (l.getD i d) (m.getD i e)
 |_,_,.nil,_=>hd
 |_,_,.cons a _,0=>a
 |_,_,.cons _ b,i+1=>by simpa using b.getD hd i
theorem map' {γ:Type} {f:γ→α} {g:γ→β} {l:List γ} (h:∀x∈l,R (f x) (g x)):All2 R (l.map f) (l.map g):=by
 induction l with
 |nil=>exact .nil
 |cons a l ih=>exact .cons (h a (by simp)) (ih fun x hx=>h x (by simp[hx]))
end All2
abbrev Inj:=Nat→Option (Nat×Nat×Nat)
def Inj.le (ι ι':Inj):Prop:=∀b x,ι b=some x→ι' b=some x
theorem Inj.le_refl (ι:Inj):ι.le ι:=fun _ _ h=>h
theorem Inj.le.trans {ι ι' ι'':Inj} (h:ι.le ι') (h':ι'.le ι''):ι.le ι'':=fun b x e=>h' b x (h b x e)
inductive VR (ι:Inj):NVal→Value→Prop
 |bool (b):VR ι (.bool b) (.bool b)
 |int (k n):VR ι (.int k n) (.int k n)
 |str (s:ByteArray):VR ι (.str s.data.toList) (.string s)
 |ptrNil:VR ι (.ptr none) (.pointer none)
 |ptr {b o rb s m} (h:ι b=some (rb,s,m)):VR ι (.ptr (some (b,o))) (.pointer (some ⟨rb,s+o,none⟩))
 |sliceNil:VR ι (.slice none 0 0 none) (.slice none 0 0)
 |slice {b o rb s m len cap rcap} (h:ι b=some (rb,s,m)) (hl:len≤cap) (hc:rcap=cap):
   VR ι (.slice (some (b,o)) len cap none) (.slice (some ⟨rb,s+o,none⟩) len rcap)
 |sliceMore {b o rb s m len cap rcap z} (h:ι b=some (rb,s,m)) (hl:len≤rcap) (hc:cap≤rcap) (hm:o+rcap*z≤m):
   VR ι (.slice (some (b,o)) len cap (some z)) (.slice (some ⟨rb,s+o,none⟩) len rcap)
 |sliceEmpty {b o a rcap z}:VR ι (.slice (some (b,o)) 0 0 (some z)) (.slice (some a) 0 rcap)
 |mapNil:VR ι (.map none) (.map none)
 |map {b rb s m} (h:ι b=some (rb,s,m)):VR ι (.map (some b)) (.map (some rb))
 |func {fn f c} {rf rc:Array Value} (hf:f.length=rf.size) (hc:c.length=rc.size)
   (h:∀(i:Nat) u v,f[i]? =some u→rf[i]? =some v→VR ι u v) (h':∀(i:Nat) u v,c[i]? =some u→rc[i]? =some v→VR ι u v):
   VR ι (.func fn f c) (.func fn rf rc)
 |nilFunc:VR ι .nilFunc .nilFunc
 |iface {t v r} (h:VR ι v r):VR ι (.iface t v) (.iface t r)
 |nilIface:VR ι .nilIface .nilIface
 |agg {cs} {ds:Array Value} (hl:cs.length=ds.size) (h:∀(i:Nat) u v,cs[i]? =some u→ds[i]? =some v→VR ι u v):VR ι (.agg cs) (.agg ds)
 |tuple {cs} {ds:Array Value} (hl:cs.length=ds.size) (h:∀(i:Nat) u v,cs[i]? =some u→ds[i]? =some v→VR ι u v):VR ι (.tuple cs) (.tuple ds)
 |junk {v} (h:v.oneCell'=true):VR ι .junk v
theorem VR.mono {ι ι':Inj} (hι:ι.le ι') {u v} (h:VR ι u v):VR ι' u v:=by
 induction h with
 |bool b=>exact .bool b
 |int k n=>exact .int k n
 |str s=>exact .str s
 |ptrNil=>exact .ptrNil
 |ptr h=>exact .ptr (hι _ _ h)
 |sliceNil=>exact .sliceNil
 |slice h hl hc=>exact .slice (hι _ _ h) hl hc
 |sliceMore h hl hc hm=>exact .sliceMore (hι _ _ h) hl hc hm
 |sliceEmpty=>exact .sliceEmpty
 |mapNil=>exact .mapNil
 |map h=>exact .map (hι _ _ h)
 |func hf hc _ _ ih ih'=>exact .func hf hc ih ih'
 |nilFunc=>exact .nilFunc
 |iface _ ih=>exact .iface ih
 |nilIface=>exact .nilIface
 |agg hl _ ih=>exact .agg hl ih
 |tuple hl _ ih=>exact .tuple hl ih
 |junk h=>exact .junk h
abbrev VRs (ι:Inj):List NVal→List Value→Prop:=All2 (VR ι)
theorem VRs.mono {ι ι':Inj} (hι:ι.le ι') {l m} (h:VRs ι l m):VRs ι' l m:=h.imp fun _ _=>VR.mono hι
theorem VR.agg' {ι:Inj} {cs:List NVal} {ds:Array Value} (h:VRs ι cs ds.toList):VR ι (.agg cs) (.agg ds):=
 .agg (by simpa using h.length) fun i u v hu hv=>by
  obtain⟨b,hb,r⟩:=h.get hu
  have:ds.toList[i]? =ds[i]? :=by simp
  rw[this,hv] at hb;cases hb;exact r
theorem VR.tuple' {ι:Inj} {cs:List NVal} {ds:Array Value} (h:VRs ι cs ds.toList):VR ι (.tuple cs) (.tuple ds):=
 .tuple (by simpa using h.length) fun i u v hu hv=>by
  obtain⟨b,hb,r⟩:=h.get hu
  have:ds.toList[i]? =ds[i]? :=by simp
  rw[this,hv] at hb;cases hb;exact r
theorem VR.func' {ι:Inj} {fn:Fn} {f c:List NVal} {rf rc:Array Value} (h:VRs ι f rf.toList) (h':VRs ι c rc.toList):VR ι (.func fn f c) (.func fn rf rc):=by
 have key:∀{l:List NVal} {m:Array Value},VRs ι l m.toList→∀(i:Nat) u v,l[i]? =some u→m[i]? =some v→VR ι u v:=fun h i u v hu hv=>by
  obtain⟨b,hb,r⟩:=h.get hu
  rw[Array.getElem?_toList,hv] at hb;cases hb;exact r
 exact .func (by simpa using h.length) (by simpa using h'.length) (key h) (key h')
theorem VR.agg_inv {ι:Inj} {cs:List NVal} {v:Value} (h:VR ι (.agg cs) v):∃ds:Array Value,v=.agg ds∧VRs ι cs ds.toList:=by
 cases h with
 |agg hl h=>exact⟨_,rfl,.of_get (by simpa using hl) fun i a b ha hb=>h i a b ha (by simpa using hb)⟩
theorem VR.tuple_inv {ι:Inj} {cs:List NVal} {v:Value} (h:VR ι (.tuple cs) v):∃ds:Array Value,v=.tuple ds∧VRs ι cs ds.toList:=by
 cases h with
 |tuple hl h=>exact⟨_,rfl,.of_get (by simpa using hl) fun i a b ha hb=>h i a b ha (by simpa using hb)⟩
theorem VR.func_inv {ι:Inj} {fn:Fn} {f c:List NVal} {v:Value} (h:VR ι (.func fn f c) v):
  ∃rf rc:Array Value,v=.func fn rf rc∧VRs ι f rf.toList∧VRs ι c rc.toList:=by
 cases h with
 |func hf hc h h'=>exact⟨_,_,rfl,.of_get (by simpa using hf) fun i a b ha hb=>h i a b ha (by simpa using hb),.of_get (by simpa using hc) fun i a b ha hb=>h' i a b ha (by simpa using hb)⟩
theorem VR.undef {ι:Inj}:VR ι nundef undef:=.tuple' (by simpa using All2.nil)
theorem VR.cells {ι:Inj} {u:NVal} {v:Value} (h:VR ι u v):VRs ι u.cells v.cells.toList:=by
 cases u with
 |agg cs=>obtain⟨ds,rfl,hd⟩:=h.agg_inv;exact hd
 |junk=>cases h with|junk h1=>cases v<;>first|exact .cons (.junk h1) .nil|(simp[Value.oneCell'] at h1)
 |_=>cases h<;>exact .cons (by first|constructor<;>assumption|assumption|exact .str _|exact .sliceEmpty) .nil
theorem VR.one {ι:Inj} {u:NVal} {v:Value} (h:VR ι u v) (h1:u.one=true):v.oneCell'=true:=by
 cases h<;>first|rfl|(simp[NVal.one] at h1)
inductive Own where
 |ro
 |own (t:Option (TypeId×Nat))
 deriving Inhabited,DecidableEq
def Own.mine:Own→Bool
 | .ro=>false
 | .own _=>true
inductive NObj where
 |cells (cs:List NVal) (mine:Own)
 |map (es:List (NVal×NVal))
 |dead
 deriving Inhabited
def NObj.owned:NObj→Bool
 | .cells _ m=>m.mine
 | .map _=>true
 | .dead=>false
inductive Tr where
 |leaf
 |node (v:Option NObj) (l r:Tr)
 deriving Inhabited
def Tr.get:Tr→Nat→Option NObj
 | .leaf,_=>none
 | .node v l r,n=>if n=0 then v else if n%2=0 then l.get (n/2) else r.get (n/2)
def Tr.put:Nat→Tr→Nat→NObj→Tr
 |0,t,_,_=>t
 |f+1,t,n,o=>
  match t with
  | .leaf=>if n=0 then .node (some o) .leaf .leaf else if n%2=0 then .node none (Tr.put f .leaf (n/2) o) .leaf else .node none .leaf (Tr.put f .leaf (n/2) o)
  | .node v l r=>if n=0 then .node (some o) l r else if n%2=0 then .node v (Tr.put f l (n/2) o) r else .node v l (Tr.put f r (n/2) o)
theorem Tr.get_put (o:NObj):∀(f:Nat) (t:Tr) (n m:Nat),n<f→(Tr.put f t n o).get m=if m=n then some o else t.get m
 |0,_,_,_,h=>by omega
 |f+1,.leaf,n,m,h=>by
  unfold Tr.put
  by_cases hn:n=0
  ·subst hn;by_cases hm:m=0<;>simp[Tr.get,hm]
  ·have ih:=Tr.get_put o f .leaf (n/2) (m/2) (by omega)
   by_cases he:n%2=0
   ·simp only[hn,he,if_false,if_true,Tr.get]
    by_cases hm:m=0
    ·subst hm;simp[Ne.symm hn,Tr.get]
    ·simp only[hm,if_false]
     by_cases hme:m%2=0
     ·simp only[hme,if_true,ih];by_cases hmn:m=n
      ·subst hmn;simp
      ·rw[if_neg (by omega),if_neg hmn];rfl
     ·simp only[hme,if_false];rw[if_neg (by intro e;subst e;omega)]
   ·simp only[hn,he,if_false,Tr.get]
    by_cases hm:m=0
    ·subst hm;simp[Ne.symm hn,Tr.get]
    ·simp only[hm,if_false]
     by_cases hme:m%2=0
     ·simp only[hme,if_true];rw[if_neg (by intro e;subst e;omega)]
     ·simp only[hme,if_false,ih];by_cases hmn:m=n
      ·subst hmn;simp
      ·rw[if_neg (by omega),if_neg hmn];rfl
 |f+1,.node v l r,n,m,h=>by
  unfold Tr.put
  by_cases hn:n=0
  ·subst hn;by_cases hm:m=0<;>simp[Tr.get,hm]
  ·by_cases he:n%2=0
   ·have ih:=Tr.get_put o f l (n/2) (m/2) (by omega)
    simp only[hn,he,if_false,if_true,Tr.get]
    by_cases hm:m=0
    ·subst hm;simp[Ne.symm hn,Tr.get]
    ·simp only[hm,if_false]
     by_cases hme:m%2=0
     ·simp only[hme,if_true,ih];by_cases hmn:m=n
      ·subst hmn;simp
      ·rw[if_neg (by omega),if_neg hmn]
     ·simp only[hme,if_false];rw[if_neg (by intro e;subst e;omega)]
   ·have ih:=Tr.get_put o f r (n/2) (m/2) (by omega)
    simp only[hn,he,if_false,Tr.get]
    by_cases hm:m=0
    ·subst hm;simp[Ne.symm hn,Tr.get]
    ·simp only[hm,if_false]
     by_cases hme:m%2=0
     ·simp only[hme,if_true];rw[if_neg (by intro e;subst e;omega)]
     ·simp only[hme,if_false,ih];by_cases hmn:m=n
      ·subst hmn;simp
      ·rw[if_neg (by omega),if_neg hmn]
structure NHeap where
 next:Nat
 tree:Tr
 deriving Inhabited
namespace NHeap
def empty:NHeap:=⟨0,.leaf⟩
def get (h:NHeap) (b:Nat):Option NObj:=if b<h.next then h.tree.get b else none
def set (h:NHeap) (b:Nat) (o:NObj):NHeap:={h with tree:=Tr.put (b+1) h.tree b o}
def alloc (h:NHeap) (o:NObj):NHeap:={next:=h.next+1,tree:=Tr.put (h.next+1) h.tree h.next o}
theorem get_lt {h:NHeap} {b:Nat} {o:NObj} (e:h.get b=some o):b<h.next:=by
 unfold get at e;split at e
 ·assumption
 ·cases e
@[simp] theorem next_set (h:NHeap) (b o):(h.set b o).next=h.next:=rfl
@[simp] theorem next_alloc (h:NHeap) (o):(h.alloc o).next=h.next+1:=rfl
theorem get_set (h:NHeap) (b c:Nat) (o:NObj):(h.set b o).get c=if c=b∧b<h.next then some o else h.get c:=by
 unfold get set
 simp only[Tr.get_put o (b+1) h.tree b c (by omega)]
 by_cases hc:c=b
 ·subst hc;by_cases hl:c<h.next<;>simp[hl]
 ·simp[hc]
theorem get_set_same {h:NHeap} {b:Nat} {o:NObj} (hb:b<h.next):(h.set b o).get b=some o:=by simp[get_set,hb]
theorem get_set_ne {h:NHeap} {b c:Nat} {o:NObj} (hb:c≠b):(h.set b o).get c=h.get c:=by simp[get_set,hb]
theorem get_alloc (h:NHeap) (c:Nat) (o:NObj):(h.alloc o).get c=if c=h.next then some o else h.get c:=by
 unfold get alloc
 simp only[Tr.get_put o (h.next+1) h.tree h.next c (by omega)]
 by_cases hc:c=h.next
 ·subst hc;simp
 ·by_cases hl:c<h.next
  ·simp[hc,hl,show c<h.next+1 by omega]
  ·simp[hc,hl,show¬c<h.next+1 by omega]
@[simp] theorem get_alloc_same (h:NHeap) (o:NObj):(h.alloc o).get h.next=some o:=by simp[get_alloc]
theorem get_alloc_lt {h:NHeap} {c:Nat} {o:NObj} (hc:c<h.next):(h.alloc o).get c=h.get c:=by
 rw[get_alloc,if_neg (by omega)]
theorem get_ge {h:NHeap} {b:Nat} (hb:h.next≤b):h.get b=none:=by unfold get;rw[if_neg (by omega)]
end NHeap
end Go.Proofs.YtkjpldganajkkaaGreatDoor.NICE
namespace Go.Proofs.YtkjpldganajkkaaGreatDoor.NICE
open Go Go.RowKit
def ofVals (g:Value→Option NVal):List Value→Option (List NVal)
 |[]=>some []
 |v::l=>match g v with
  |none=>none
  |some x=>match ofVals g l with
   |none=>none
   |some y=>some (x::y)
def ofVal:Nat→Value→Option NVal
 |_,.bool b=>some (.bool b)
 |_,.int k n=>some (.int k n)
 |_,.string s=>some (.str s.data.toList)
 |_,.pointer none=>some (.ptr none)
 |_,.slice none 0 0=>some (.slice none 0 0 none)
 |_,.map none=>some (.map none)
 |_,.nilFunc=>some .nilFunc
 |_,.nilIface=>some .nilIface
 |f+1,.agg cs=>(ofVals (ofVal f) cs.toList).map .agg
 |f+1,.tuple cs=>(ofVals (ofVal f) cs.toList).map .tuple
 |f+1,.iface t v=>(ofVal f v).map (.iface t)
 |_,_=>none
def ev (ts:List NVal):Operand→Option NVal
 | .tmp t=>some (ts.getD t nundef)
 | .const v=>ofVal 4 v
 | .global _=>none
 | .func f=>some (.func (.func f) [] [])
def szOf (P:Program) (t:TypeId):Option Nat:=match P.info? t with|some i=>some i.size|none=>none
def bytesOf (P:Program) (t:TypeId):Option Nat:=match P.info? t with|some i=>some i.bytes|none=>none
def zeroOf (P:Program) (t:TypeId):Option NVal:=match P.info? t with
 |some i=>(match i.zero with|some z=>ofVal 4 z|none=>none)
 |none=>none
def aggT (P:Program) (t:TypeId):Option Bool:=match P.underlying t with
 |some (.struct _)=>some true
 |some (.array _ _)=>some true
 |some _=>some false
 |none=>none
def npart (P:Program) (t:TypeId) (cs:List NVal) (off:Nat):Option NVal:=
 match aggT P t with
 |some true=>(match szOf P t with|some n=>some (.agg ((cs.drop off).take n))|none=>none)
 |some false=>cs[off]?
 |none=>none
def setRange (cs:List NVal) (off:Nat) (vs:List NVal):List NVal:=cs.take off++vs++cs.drop (off+vs.length)
def nfill (place:Nat→Option (Nat×Nat)) (cs:List NVal):List (Nat×NVal)→Option (List NVal)
 |[]=>some cs
 |(i,v)::rest=>match place i with
  |none=>none
  |some (off,size)=>if v.cells.length≠size∨off+v.cells.length>cs.length then none else nfill place (setRange cs off v.cells) rest
def evs (ρ:Operand→Option NVal):List Operand→Option (List NVal)
 |[]=>some []
 |x::l=>match ρ x with
  |none=>none
  |some v=>match evs ρ l with
   |none=>none
   |some r=>some (v::r)
def evParts (ρ:Operand→Option NVal):List (Nat×Operand)→Option (List (Nat×NVal))
 |[]=>some []
 |(i,x)::l=>match ρ x with
  |none=>none
  |some v=>match evParts ρ l with
   |none=>none
   |some r=>some ((i,v)::r)
def fieldPlaces (P:Program):List Field→Option (List (Nat×Nat))
 |[]=>some []
 |f::l=>match szOf P f.type with
  |none=>none
  |some n=>match fieldPlaces P l with
   |none=>none
   |some r=>some ((f.offset,n)::r)
def nIntOp (op:BinOp) (k:IntKind) (a b:Int):Option NVal:=
 match op with
 | .add=>some (.int k (k.wrap (a+b)))
 | .sub=>some (.int k (k.wrap (a-b)))
 | .mul=>some (.int k (k.wrap (a*b)))
 | .quo=>if b=0 then none else some (.int k (k.wrap (a.tdiv b)))
 | .rem=>if b=0 then none else some (.int k (a.tmod b))
 | .and=>some (.int k (k.wrap (BitVec.ofInt k.bits a&&&BitVec.ofInt k.bits b).toNat))
 | .or=>some (.int k (k.wrap (BitVec.ofInt k.bits a|||BitVec.ofInt k.bits b).toNat))
 | .xor=>some (.int k (k.wrap (BitVec.ofInt k.bits a^^^BitVec.ofInt k.bits b).toNat))
 | .andNot=>some (.int k (k.wrap (BitVec.ofInt k.bits a&&&~~~BitVec.ofInt k.bits b).toNat))
 | .eql=>some (.bool (a==b))
 | .neq=>some (.bool (a !=b))
 | .lss=>some (.bool (a<b))
 | .leq=>some (.bool (a≤b))
 | .gtr=>some (.bool (a>b))
 | .geq=>some (.bool (a≥b))
 |_=>none
def nShift (op:BinOp) (k:IntKind) (a b:Int):Option NVal:=
 if b<0 then none else
 match op with
 | .shl=>some (.int k (k.wrap (a*2^(min b.toNat k.bits))))
 | .shr=>some (.int k (a.fdiv (2^(min b.toNat k.bits))))
 |_=>none
def nStrOp (op:BinOp) (x y:List UInt8):Option NVal:=
 match op with
 | .add=>if((x.length+y.length:Nat):Int)>9223372036854775807 then none else some (.str (x++y))
 | .eql=>some (.bool (x==y))
 | .neq=>some (.bool !(x==y))
 | .lss=>some (.bool (Op.bytesLess x y))
 | .leq=>some (.bool (Op.bytesLess x y||x==y))
 | .gtr=>some (.bool !(Op.bytesLess x y||x==y))
 | .geq=>some (.bool !(Op.bytesLess x y))
 |_=>none
def nilP:NVal→Option Bool| .ptr none=>some true| .ptr (some _)=>some false|_=>none
def nilS:NVal→Option Bool| .slice none _ _ _=>some true| .slice (some _) _ _ _=>some false|_=>none
def nilF:NVal→Option Bool| .nilFunc=>some true| .func _ _ _=>some false|_=>none
def nilI:NVal→Option Bool| .nilIface=>some true| .iface _ _=>some false|_=>none
def neqFields (P:Program) (eq:TypeId→NVal→NVal→Option Bool) (xs ys:List NVal):List Field→Option Bool
 |[]=>some true
 |f::fs=>
  if f.name= "_" then neqFields P eq xs ys fs else
  match npart P f.type xs f.offset with
  |none=>none
  |some u=>match npart P f.type ys f.offset with
   |none=>none
   |some v=>match eq f.type u v with
    |none=>none
    |some false=>some false
    |some true=>neqFields P eq xs ys fs
def neq (P:Program):Nat→TypeId→NVal→NVal→Option Bool
 |0,_,_,_=>none
 |d+1,t,x,y=>
  match P.underlying t with
  |some .bool=>(match x,y with| .bool a,.bool b=>some (a==b)|_,_=>none)
  |some (.int _)=>(match x,y with| .int k a,.int k' b=>if k=k' then some (a==b) else none|_,_=>none)
  |some .string=>(match x,y with| .str a,.str b=>some (a==b)|_,_=>none)
  |some (.pointer _)=>(match nilP x,nilP y with|some true,some c=>some c|some false,some true=>some false|_,_=>none)
  |some (.slice _)=>(match nilS x,nilS y with|some true,some c=>some c|some false,some true=>some false|_,_=>none)
  |some (.func _ _ _)=>(match nilF x,nilF y with|some true,some c=>some c|some false,some true=>some false|_,_=>none)
  |some (.interface _)=>(match nilI x,nilI y with|some true,some false=>some false|some false,some true=>some false|_,_=>none)
  |some (.struct fs)=>(match x,y with
   | .agg xs,.agg ys=>if P.stoodInHeld t∨P.eqGuardType P.depth t then none else neqFields P (neq P d) xs ys fs.toList
   |_,_=>none)
  |_=>none
def nsame (P:Program) (t:TypeId) (x y:NVal) (b:Bool):Option NVal:=
 match P.underlying t,x,y with
 |some (.pointer e),.ptr (some a),.ptr (some c)=>(match P.info? e with|some _=>if a=c then some (.bool b) else none|none=>none)
 |_,_,_=>none
def nbin (P:Program) (op:BinOp) (t:TypeId) (x y:NVal):Option NVal:=
 match x,y with
 | .int k a,.int k' b=>(match op with
  | .shl=>nShift .shl k a b
  | .shr=>nShift .shr k a b
  |_=>if k=k' then nIntOp op k a b else none)
 | .str a,.str b=>nStrOp op a b
 |x,y=>(match op with
  | .eql=>(match neq P 6 t x y with|some b=>some (.bool b)|none=>nsame P t x y true)
  | .neq=>(match neq P 6 t x y with|some b=>some (.bool !b)|none=>nsame P t x y false)
  |_=>none)
def nun (op:UnOp) (x:NVal):Option NVal:=
 match op,x with
 | .not,.bool b=>some (.bool !b)
 | .neg,.int k n=>some (.int k (k.wrap (0-n)))
 |_,_=>none
def nconv (P:Program) (src dst:TypeId) (x:NVal):Option NVal:=
 match P.underlying src,P.underlying dst,x with
 |some _,some (.int k),.int _ n=>some (.int k (k.wrap n))
 |some _,some .string,.str s=>some (.str s)
 |_,_,_=>none
def nbound (y:Nat):Option NVal→Nat→Option Nat
 |none,d=>some d
 |some (.int _ i),_=>if 0≤i∧i≤(y:Int) then some i.toNat else none
 |some _,_=>none
def evOpt (ρ:Operand→Option NVal):Option Operand→Option (Option NVal)
 |none=>some none
 |some x=>match ρ x with|none=>none|some v=>some (some v)
def nslice (P:Program) (t:TypeId) (x:NVal) (lo hi:Option NVal):Option NVal:=
 match P.underlying t,x with
 |some .string,.str s=>(match nbound s.length hi s.length with
  |none=>none
  |some h=>match nbound h lo 0 with
   |none=>none
   |some l=>some (.str ((s.drop l).take (h-l))))
 |some (.slice e),.slice a len cap x=>(match nbound cap hi len with
  |none=>none
  |some h=>match nbound h lo 0 with
   |none=>none
   |some l=>match szOf P e with
    |none=>none
    |some sz=>match a with
     |none=>some (.slice none 0 0 none)
     |some (b,o)=>match x with
      |none=>some (.slice (some (b,if cap=l then o else o+l*sz)) (h-l) (cap-l) none)
      |some z=>if z=sz then
        (if l<max cap len then some (.slice (some (b,o+l*sz)) (h-l) (cap-l) (some z))
        else some (.slice (some (b,o+l*sz)) 0 0 (some z))) else none)
 |some (.array n e),.ptr (some (b,o))=>(match nbound n hi n with
  |none=>none
  |some h=>match nbound h lo 0 with
   |none=>none
   |some l=>match szOf P e with
    |none=>none
    |some sz=>some (.slice (some (b,if n=l then o else o+l*sz)) (h-l) (n-l) none))
 |_,_=>none
def nslice3 (P:Program) (t:TypeId) (x lo hi mx:NVal):Option NVal:=
 match P.underlying t,x,lo,hi,mx with
 |some (.slice e),.slice (some (b,o)) len cap _,.int _ l,.int _ h,.int _ m=>(match szOf P e with
  |some sz=>if 0≤l∧l≤h∧h≤m∧m≤(max cap len:Nat)∧0<max cap len then
    some (.slice (some (b,if m=l then o else o+l.toNat*sz)) (h-l).toNat (m-l).toNat none) else none
  |none=>none)
 |_,_,_,_,_=>none
def nindexAddr (P:Program) (t:TypeId) (x ix:NVal):Option NVal:=
 match ix with
 | .int _ i=>(match P.underlying t,x with
  |some (.slice e),.slice (some (b,o)) len _ _=>(match szOf P e with
   |some sz=>if 0≤i∧i<(len:Int) then some (.ptr (some (b,o+i.toNat*sz))) else none
   |none=>none)
  |some (.array n e),.ptr (some (b,o))=>(match szOf P e with
   |some sz=>if 0≤i∧i<(n:Int) then some (.ptr (some (b,o+i.toNat*sz))) else none
   |none=>none)
  |_,_=>none)
 |_=>none
def nindex (P:Program) (t:TypeId) (x ix:NVal):Option NVal:=
 match ix with
 | .int _ i=>(match P.underlying t,x with
  |some .string,.str s=>if 0≤i then(match s[i.toNat]? with|some b=>some (.int .u8 b.toNat)|none=>none) else none
  |some (.array n e),.agg cs=>(match szOf P e with
   |some sz=>if 0≤i∧i<(n:Int) then npart P e cs (i.toNat*sz) else none
   |none=>none)
  |_,_=>none)
 |_=>none
def nfieldAddr (P:Program) (s:TypeId) (x:NVal) (f:Nat):Option NVal:=
 match P.underlying s,x with
 |some (.struct fs),.ptr (some (b,o))=>(match fs[f]? with
  |some fd=>(match szOf P fd.type with
   |some n=>if n=0 then none else some (.ptr (some (b,o+fd.offset)))
   |none=>none)
  |none=>none)
 |_,_=>none
def nfield (P:Program) (t:TypeId) (x:NVal) (f:Nat):Option NVal:=
 match P.underlying t,x with
 |some (.struct fs),.agg cs=>(match fs[f]? with|some fd=>npart P fd.type cs fd.offset|none=>none)
 |_,_=>none
def nbuild (P:Program) (t:TypeId) (parts:List (Nat×NVal)):Option NVal:=
 match zeroOf P t with
 |none=>none
 |some z=>match P.underlying t with
  |some (.struct fs)=>(match fieldPlaces P fs.toList with
   |none=>none
   |some ps=>match nfill (fun i=>ps[i]?) z.cells parts with
    |none=>none
    |some cs=>some (.agg cs))
  |some (.array _ e)=>(match szOf P e with
   |none=>none
   |some n=>match nfill (fun i=>some (i*n,n)) z.cells parts with
    |none=>none
    |some cs=>some (.agg cs))
  |_=>none
def nassert' (P:Program) (x:NVal) (d:TypeId) (ok:Bool):Option NVal:=
 match x with
 | .iface t v=>if t=d then some (if ok then .tuple [v,.bool true] else v)
   else if ok then(match zeroOf P d with|some z=>some (.tuple [z,.bool false])|none=>none) else none
 | .nilIface=>if ok then(match zeroOf P d with|some z=>some (.tuple [z,.bool false])|none=>none) else none
 |_=>none
def nassert (P:Program) (x:NVal) (asserted:TypeId) (ok:Bool):Option NVal:=
 match P.underlying asserted with
 |some (.interface _)=>none
 |some _=>nassert' P x asserted ok
 |none=>none
def nmin:NVal→List NVal→Option NVal
 |v,[]=>some v
 | .int k a,.int _ b::l=>nmin (.int k (if b<a then b else a)) l
 |_,_=>none
def nmax:NVal→List NVal→Option NVal
 |v,[]=>some v
 | .int k a,.int _ b::l=>nmax (.int k (if b>a then b else a)) l
 |_,_=>none
def pureOp (P:Program) (ρ:Operand→Option NVal):Op→Option NVal
 | .move x=>ρ x
 | .assign x=>ρ x
 | .pick c a b=>(match ρ c,ρ a,ρ b with|some (.bool t),some u,some v=>some (if t then u else v)|_,_,_=>none)
 | .build t parts=>(match evParts ρ parts.toList with|some ps=>nbuild P t ps|none=>none)
 | .nilCheck x=>(match ρ x with
  |some (.ptr (some a))=>some (.ptr (some a))
  |some (.func (.func f) a b)=>some (.func (.func f) a b)
  |_=>none)
 | .binOp op t x y _=>(match ρ x,ρ y with|some u,some v=>nbin P op t u v|_,_=>none)
 | .unOp op _ x=>(match ρ x with|some u=>nun op u|none=>none)
 | .convert s d x=>(match ρ x with|some u=>nconv P s d u|none=>none)
 | .makeInterface t x=>(match ρ x,P.underlying t with
  |some u,some (.interface _)=>none
  |some u,some _=>some (.iface t u)
  |_,_=>none)
 | .makeFunc fn first captured=>(match evs ρ first.toList,evs ρ captured.toList with|some a,some b=>some (.func fn a b)|_,_=>none)
 | .slice t x lo hi mx=>(match evOpt ρ mx,ρ x,evOpt ρ lo,evOpt ρ hi with|some none,some u,some l,some h=>nslice P t u l h|some (some m),some u,some (some l),some (some h)=>nslice3 P t u l h m|_,_,_,_=>none)
 | .fieldAddr s x f=>(match ρ x with|some u=>nfieldAddr P s u f|none=>none)
 | .field t x f=>(match ρ x with|some u=>nfield P t u f|none=>none)
 | .indexAddr t x ix=>(match ρ x,ρ ix with|some u,some i=>nindexAddr P t u i|_,_=>none)
 | .index t x ix=>(match ρ x,ρ ix with|some u,some i=>nindex P t u i|_,_=>none)
 | .extract x i=>(match ρ x with|some (.tuple vs)=>vs[i]? |_=>none)
 | .typeAssert x _ d ok=>(match ρ x with|some u=>nassert P u d ok|none=>none)
 | .call {callee:=.builtin .len,args,argTypes}=>(match args.toList,argTypes.toList with
  |[x],t::_=>(match ρ x,P.underlying t with
   |some (.str s),some .string=>some (.int .i64 s.length)
   |some (.slice _ n _ _),some (.slice _)=>some (.int .i64 n)
   |_,_=>none)
  |_,_=>none)
 | .call {callee:=.builtin .cap,args,argTypes}=>(match args.toList,argTypes.toList with
  |[x],t::_=>(match ρ x,P.underlying t with
   |some (.slice _ _ c none),some (.slice _)=>some (.int .i64 c)
   |_,_=>none)
  |_,_=>none)
 | .call {callee:=.builtin .min,args,..}=>(match evs ρ args.toList with|some (v::l)=>(match v with| .int _ _=>nmin v l|_=>none)|_=>none)
 | .call {callee:=.builtin .max,args,..}=>(match evs ρ args.toList with|some (v::l)=>(match v with| .int _ _=>nmax v l|_=>none)|_=>none)
 |_=>none
def nload (P:Program) (t:TypeId) (a:Nat×Nat) (h:NHeap):Option NVal:=
 match h.get a.1 with
 |some (.cells cs _)=>(match aggT P t with
  |some true=>(match szOf P t with
   |some n=>if a.2+n≤cs.length then some (.agg ((cs.drop a.2).take n)) else none
   |none=>none)
  |some false=>cs[a.2]?
  |none=>none)
 |_=>none
def byteVal:NVal→Option UInt8
 | .int .u8 n=>some (UInt8.ofNat n.toNat)
 |_=>none
def bytesVals:List NVal→Option (List UInt8)
 |[]=>some []
 |v::l=>match byteVal v with
  |none=>none
  |some b=>match bytesVals l with
   |none=>none
   |some r=>some (b::r)
def bumpIx:Option (Option (Nat×NVal))→Option (Option (Nat×NVal))
 |some (some (i,u))=>some (some (i+1,u))
 |r=>r
def nkeyIn (k:NVal):List (NVal×NVal)→Option (Option (Nat×NVal))
 |[]=>some none
 |(e,v)::es=>match k,e with
  | .int a x,.int b y=>if a=b then(if x=y then some (some (0,v)) else bumpIx (nkeyIn k es)) else none
  | .str x,.str y=>if x=y then some (some (0,v)) else bumpIx (nkeyIn k es)
  |_,_=>none
def keyTypeOk (P:Program) (t:TypeId):NVal→Bool
 | .int _ _=>(match P.underlying t with|some (.int _)=>true|_=>false)
 | .str _=>(match P.underlying t with|some .string=>true|_=>false)
 |_=>false
def nlookup (P:Program) (t:TypeId) (m k:NVal) (ok:Bool) (h:NHeap):Option NVal:=
 match P.underlying t with
 |some (.map kt et)=>
  if keyTypeOk P kt k then
   match(match m with
    | .map none=>some none
    | .map (some b)=>(match h.get b with|some (.map es)=>nkeyIn k es|_=>none)
    |_=>none) with
   |some (some (_,v))=>some (if ok then .tuple [v,.bool true] else v)
   |some none=>(match zeroOf P et with|some z=>some (if ok then .tuple [z,.bool false] else z)|none=>none)
   |none=>none
  else none
 |_=>none
def readOp (P:Program) (ρ:Operand→Option NVal) (h:NHeap):Op→Option NVal
 | .load t x=>(match ρ x with|some (.ptr (some a))=>nload P t a h|_=>none)
 | .lookup t m k ok=>(match ρ m,ρ k with|some u,some v=>nlookup P t u v ok h|_,_=>none)
 | .convert s d x=>(match P.underlying s,P.underlying d,ρ x with
  |some (.slice e),some .string,some (.slice a len _ _)=>(match P.underlying e with
   |some (.int .u8)=>(match a with
    |none=>some (.str [])
    |some (b,o)=>(match h.get b with
     |some (.cells cs _)=>if o+len≤cs.length then(match bytesVals ((cs.drop o).take len) with|some l=>some (.str l)|none=>none) else none
     |_=>none))
   |_=>none)
  |_,_,_=>none)
 | .call {callee:=.builtin .len,args,argTypes}=>(match args.toList,argTypes.toList with
  |[x],t::_=>(match ρ x,P.underlying t with
   |some (.map (some b)),some (.map _ _)=>(match h.get b with|some (.map es)=>some (.int .i64 es.length)|_=>none)
   |_,_=>none)
  |_,_=>none)
 |_=>none
def repeatCells (z:List NVal):Nat→List NVal
 |0=>[]
 |n+1=>z++repeatCells z n
def newOp (P:Program) (ρ:Operand→Option NVal):Op→Option (NObj×(Nat→NVal))
 | .alloc t=>(match zeroOf P t with|some z=>some (.cells z.cells (.own none),fun b=>.ptr (some (b,0)))|none=>none)
 | .box _ x=>(match ρ x with|some v=>some (.cells v.cells (.own none),fun b=>.ptr (some (b,0)))|none=>none)
 | .buildSlice t len parts=>(match P.underlying t with
  |some (.slice e)=>(match szOf P e,evParts ρ parts.toList with
   |some n,some ps=>if len*n≤16777216∧0<n then(match zeroOf P e with
    |some z=>if z.cells.length=n then(match nfill (fun i=>some (i*n,n)) (repeatCells z.cells len) ps with
     |some cs=>some (.cells cs (.own none),fun b=>.slice (some (b,0)) len len none)
     |none=>none) else none
    |none=>none) else none
   |_,_=>none)
  |_=>none)
 | .makeSlice t l c=>(match P.underlying t,ρ l,ρ c with
  |some (.slice e),some (.int _ l),some (.int _ c)=>(match szOf P e,bytesOf P e,zeroOf P e with
   |some n,some by_,some z=>if 0≤l∧l≤c∧c*by_≤1099511627776∧c≤1099511627776∧z.cells.length=n∧0<n then
     some (.cells (repeatCells z.cells c.toNat) (.own none),fun b=>.slice (some (b,0)) l.toNat c.toNat none) else none
   |_,_,_=>none)
  |_,_,_=>none)
 | .makeMap _ none=>some (.map [],fun b=>.map (some b))
 |_=>none
def allOne:List NVal→Bool
 |[]=>true
 |v::l=>v.one&&allOne l
def nstore (P:Program) (t:TypeId) (a:Nat×Nat) (v:NVal) (h:NHeap):Option NHeap:=
 match szOf P t,h.get a.1 with
 |some n,some (.cells cs (.own q))=>if v.cells.length=n∧a.2+n≤cs.length∧allOne v.cells then some (h.set a.1 (.cells (setRange cs a.2 v.cells) (.own q))) else none
 |_,_=>none
def srcCells (sz n:Nat) (h:NHeap):NVal→Option (List NVal)
 | .slice none _ _ _=>if n=0 then some [] else none
 | .slice (some (b,o)) len _ _=>if n*sz=0 then some [] else(match h.get b with
  |some (.cells cs _)=>if n≤len∧o+n*sz≤cs.length then some ((cs.drop o).take (n*sz)) else none
  |_=>none)
 | .str s=>some ((s.take n).map fun b=>.int .u8 b.toNat)
 |_=>none
def nlenOf:NVal→Option Nat
 | .slice _ n _ _=>some n
 | .str s=>some s.length
 |_=>none
def appended (P:Program) (e:TypeId) (sz:Nat) (xt:TypeId) (x:NVal) (h:NHeap):Option (Nat×List NVal):=
 match P.underlying xt with
 |some (.int _)=>(match x,zeroOf P e with
  | .int _ l,some z=>if 0≤l∧l≤1099511627776∧z.cells.length=sz then some (l.toNat,repeatCells z.cells l.toNat) else none
  |_,_=>none)
 |some _=>(match nlenOf x with
  |some n=>(match srcCells sz n h x with|some cs=>some (n,cs)|none=>none)
  |none=>none)
 |none=>none
def regrown (o:Nat) (e:TypeId) (t:Option (TypeId×Nat)):Option (TypeId×Nat):=if o=0∧t=some (e,0) then t else none
def nappend (P:Program) (st xt:TypeId) (s x:NVal) (h:NHeap):Option (NVal×NHeap):=
 match P.underlying st,s with
 |some (.slice e),.slice base len cap x'=>(match szOf P e,bytesOf P e,zeroOf P e with
  |some sz,some by_,some z=>if z.cells.length=sz∧0<sz∧allOne z.cells=true then(match appended P e sz xt x h with
   |some (n,cs)=>
    if cs.length=n*sz∧allOne cs∧len+n≤1099511627776∧(len+n)*by_≤1099511627776 then
    (match base with
    |none=>if n=0 then some (.slice none 0 0 none,h) else some (.slice (some (h.next,0)) n n (some sz),h.alloc (.cells cs (.own (some (e,0)))))
    |some (b,o)=>
     if n=0 then some (s,h)
     else if len+n≤cap then
      (match h.get b with
      |some (.cells old (.own q))=>if o+(len+n)*sz≤old.length then some (.slice (some (b,o)) (len+n) cap x',h.set b (.cells (setRange old (o+len*sz) cs) (.own q))) else none
      |_=>none)
     else match x' with
      |none=>(match srcCells sz len h s with
       |some olds=>if allOne olds=true then some (.slice (some (h.next,0)) (len+n) (len+n) (some sz),h.alloc (.cells (olds++cs) (.own (some (e,0))))) else none
       |none=>none)
      |some q=>if q=sz∧0<len+cap then(match h.get b with
       |some (.cells old (.own t))=>if o+len*sz≤old.length then
         some (.slice (some (h.next,0)) (len+n) (len+n) (some sz),(h.set b .dead).alloc (.cells ((old.drop o).take (len*sz)++cs) (.own (regrown o e t)))) else none
       |_=>none) else none)
    else none
   |none=>none) else none
  |_,_,_=>none)
 |_,_=>none
def ncopy (P:Program) (dt:TypeId) (d s:NVal) (h:NHeap):Option (NVal×NHeap):=
 match P.underlying dt,d with
 |some (.slice e),.slice base dl _ _=>(match szOf P e,nlenOf s with
  |some sz,some sl=>(match srcCells sz (min sl dl) h s with
   |some cs=>if allOne cs then(match base with
    |none=>if cs.length=0 then some (.int .i64 (min sl dl:Nat),h) else none
    |some (b,o)=>if cs.length=0 then some (.int .i64 (min sl dl:Nat),h) else(match h.get b with
     |some (.cells old (.own q))=>if o+cs.length≤old.length then some (.int .i64 (min sl dl:Nat),h.set b (.cells (setRange old o cs) (.own q))) else none
     |_=>none)) else none
   |none=>none)
  |_,_=>none)
 |_,_=>none
def nclear (P:Program) (t:TypeId) (x:NVal) (h:NHeap):Option (NVal×NHeap):=
 match P.underlying t,x with
 |some (.slice e),.slice a n _ _=>(match a with
  |none=>some (.tuple [],h)
  |some (b,o)=>if n=0 then some (.tuple [],h) else(match zeroOf P e,h.get b with
   |some z,some (.cells old (.own q))=>if o+n*z.cells.length≤old.length∧allOne z.cells then some (.tuple [],h.set b (.cells (setRange old o (repeatCells z.cells n)) (.own q))) else none
   |_,_=>none))
 |_,_=>none
def nmapSet (es:List (NVal×NVal)) (k v:NVal):Option (List (NVal×NVal)):=
 match nkeyIn k es with
 |none=>none
 |some (some (i,_))=>some (es.set i (k,v))
 |some none=>some (es++[(k,v)])
def nmapUpdate (P:Program) (t:TypeId) (m k v:NVal) (h:NHeap):Option NHeap:=
 match P.underlying t,m with
 |some (.map kt _),.map (some b)=>if keyTypeOk P kt k then(match h.get b with
  |some (.map es)=>(match nmapSet es k v with|some es'=>some (h.set b (.map es'))|none=>none)
  |_=>none) else none
 |_,_=>none
def ndelete (P:Program) (t:TypeId) (m k:NVal) (h:NHeap):Option (NVal×NHeap):=
 match P.underlying t,m with
 |some (.map kt _),.map (some b)=>if keyTypeOk P kt k then(match h.get b with
  |some (.map es)=>(match nkeyIn k es with
   |some (some (i,_))=>some (.tuple [],h.set b (.map (es.eraseIdx i)))
   |some none=>some (.tuple [],h.set b (.map es))
   |none=>none)
  |_=>none) else none
 |_,_=>none
def nunsafe (P:Program) (s d:TypeId) (x:NVal) (h:NHeap):Option NVal:=
 match P.underlying s,P.underlying d,x with
 |some (.pointer t),some .unsafePointer,.ptr (some (b,0))=>(match h.get b,szOf P t with
  |some (.cells (_::_) (.own (some (T,_+1)))),some (_+1)=>some (.ptr (some (b,0)))
  |_,_=>none)
 |some .unsafePointer,some (.pointer u),.ptr (some (b,0))=>(match h.get b,szOf P u with
  |some (.cells (_::_) (.own (some (T,n+1)))),some (_+1)=>if liesAt P P.depth T ((n+1)/P.cellsOf T) 0 u 1 then some (.ptr (some (b,0))) else none
  |_,_=>none)
 |_,_,_=>none
def allBytes:List NVal→Bool
 |[]=>true
 | .int .u8 n::l=>decide (0≤n∧n<256)&&allBytes l
 |_::_=>false
def nstring (P:Program) (pt:TypeId) (p n:NVal) (h:NHeap):Option (NVal×NHeap):=
 match p,n with
 | .ptr none,.int _ 0=>some (.str [],h)
 | .ptr (some (b,0)),.int .i64 (.ofNat n)=>(match h.get b,P.underlying pt with
  |some (.cells cs (.own (some (T,_)))),some (.pointer e)=>if e=T∧P.cellsOf e=1∧0<n∧n≤cs.length∧n≤9223372036854775807∧allBytes (cs.take n) then
    (match bytesVals (cs.take n) with|some l=>some (.str l,h.set b .dead)|none=>none) else none
  |_,_=>none)
 |_,_=>none
def effOp (P:Program) (ρ:Operand→Option NVal) (h:NHeap):Op→Option (NVal×NHeap)
 | .store t x y=>(match ρ x,ρ y with
  |some (.ptr (some a)),some v=>(match nstore P t a v h with|some h'=>some (nundef,h')|none=>none)
  |_,_=>none)
 | .mapUpdate t m k v=>(match ρ m,ρ k,ρ v with
  |some m,some k,some v=>(match nmapUpdate P t m k v h with|some h'=>some (nundef,h')|none=>none)
  |_,_,_=>none)
 | .insert t m k v=>(match ρ m,ρ k,ρ v with
  |some m,some k,some v=>(match nmapUpdate P t m k v h with|some h'=>some (nundef,h')|none=>none)
  |_,_,_=>none)
 | .convert s d x=>(match ρ x with
  |some (.str l)=>(match P.underlying s,P.underlying d with
   |some _,some (.slice e)=>(match P.underlying e with
    |some (.int .u8)=>if l.length≤1099511627776 then some (.slice (some (h.next,0)) l.length l.length (some 1),h.alloc (.cells (l.map fun b=>.int .u8 b.toNat) (.own none))) else none
    |_=>none)
   |_,_=>none)
  |some u=>(match nunsafe P s d u h with|some v=>some (v,h)|none=>none)
  |none=>none)
 | .call {callee:=.builtin .unsafeSliceData,args,..}=>(match args.toList with
  |[x]=>(match ρ x with
   |some (.slice none _ _ _)=>some (.ptr none,h)
   |some (.slice (some a) _ (_+1) _)=>some (.ptr (some a),h)
   |_=>none)
  |_=>none)
 | .call {callee:=.builtin .unsafeString,args,argTypes}=>(match args.toList,argTypes.toList with
  |[p,n],[pt,_]=>(match ρ p,ρ n with|some p,some n=>nstring P pt p n h|_,_=>none)
  |_,_=>none)
 | .call {callee:=.builtin .append,args,argTypes}=>(match args.toList,argTypes.toList with
  |[s,x],[st,xt]=>(match ρ s,ρ x with|some s,some x=>nappend P st xt s x h|_,_=>none)
  |_,_=>none)
 | .call {callee:=.builtin .copy,args,argTypes}=>(match args.toList,argTypes.toList with
  |[d,s],dt::_=>(match ρ d,ρ s with|some d,some s=>ncopy P dt d s h|_,_=>none)
  |_,_=>none)
 | .call {callee:=.builtin .clear,args,argTypes}=>(match args.toList,argTypes.toList with
  |[x],t::_=>(match ρ x with|some v=>nclear P t v h|none=>none)
  |_,_=>none)
 | .call {callee:=.builtin .delete,args,argTypes}=>(match args.toList,argTypes.toList with
  |[m,k],t::_=>(match ρ m,ρ k with|some m,some k=>ndelete P t m k h|_,_=>none)
  |_,_=>none)
 |_=>none
end Go.Proofs.YtkjpldganajkkaaGreatDoor.NICE
namespace Go.Proofs.YtkjpldganajkkaaGreatDoor.NICE
open Go Go.RowKit
variable {P:Program} {ι:Inj}
theorem ofVals_sound {g:Value→Option NVal} (hg:∀v u,g v=some u→VR ι u v):∀{l:List Value} {m:List NVal},ofVals g l=some m→VRs ι m l
 |[],m,h=>by simp[ofVals] at h;subst h;exact .nil
 |v::l,m,h=>by
  unfold ofVals at h
  split at h
  ·cases h
  ·rename_i x hx
   split at h
   ·cases h
   ·rename_i y hy
    cases h
    exact .cons (hg _ _ hx) (ofVals_sound hg hy)
theorem ofVal_sound:∀(f:Nat) {v:Value} {u:NVal},ofVal f v=some u→VR ι u v
 |f,.bool b,u,h=>by cases f<;>(simp only[ofVal] at h;cases h;constructor)
 |f,.int k n,u,h=>by cases f<;>(simp only[ofVal] at h;cases h;constructor)
 |f,.string s,u,h=>by cases f<;>(simp only[ofVal] at h;cases h;constructor)
 |f,.pointer none,u,h=>by cases f<;>(simp only[ofVal] at h;cases h;constructor)
 |f,.pointer (some a),u,h=>by cases f<;>(simp only[ofVal] at h;cases h)
 |f,.slice none 0 0,u,h=>by cases f<;>(simp only[ofVal] at h;cases h;constructor)
 |f,.slice none (n+1) c,u,h=>by cases f<;>(simp only[ofVal] at h;cases h)
 |f,.slice none 0 (c+1),u,h=>by cases f<;>(simp only[ofVal] at h;cases h)
 |f,.slice (some a) n c,u,h=>by cases f<;>(simp only[ofVal] at h;cases h)
 |f,.map none,u,h=>by cases f<;>(simp only[ofVal] at h;cases h;constructor)
 |f,.map (some r),u,h=>by cases f<;>(simp only[ofVal] at h;cases h)
 |f,.nilFunc,u,h=>by cases f<;>(simp only[ofVal] at h;cases h;constructor)
 |f,.nilIface,u,h=>by cases f<;>(simp only[ofVal] at h;cases h;constructor)
 |f,.float k b,u,h=>by cases f<;>(simp only[ofVal] at h;cases h)
 |f,.complex k a b,u,h=>by cases f<;>(simp only[ofVal] at h;cases h)
 |f,.chan r,u,h=>by cases f<;>(simp only[ofVal] at h;cases h)
 |f,.func a b c,u,h=>by cases f<;>(simp only[ofVal] at h;cases h)
 |0,.agg cs,u,h=>by simp only[ofVal] at h;cases h
 |0,.tuple cs,u,h=>by simp only[ofVal] at h;cases h
 |0,.iface t v,u,h=>by simp only[ofVal] at h;cases h
 |f+1,.agg cs,u,h=>by
  simp only[ofVal] at h;obtain⟨m,hm,rfl⟩:=Option.map_eq_some_iff.1 h;exact .agg' (ofVals_sound (fun v u=>ofVal_sound f) hm)
 |f+1,.tuple cs,u,h=>by
  simp only[ofVal] at h;obtain⟨m,hm,rfl⟩:=Option.map_eq_some_iff.1 h;exact .tuple' (ofVals_sound (fun v u=>ofVal_sound f) hm)
 |f+1,.iface t v,u,h=>by
  simp only[ofVal] at h;obtain⟨m,hm,rfl⟩:=Option.map_eq_some_iff.1 h;exact .iface (ofVal_sound f hm)
theorem ev_sound {ts:List NVal} {a:Act} (h:VRs ι ts a.tmps.toList) {x:Operand} {u:NVal} (e:ev ts x=some u):VR ι u (a.eval x):=by
 cases x with
 |tmp t=>cases e;have:=h.getD VR.undef t;simpa[Act.eval] using this
 |const v=>exact ofVal_sound 4 e
 |global g=>cases e
 |func f=>cases e;exact .func' (by simpa using All2.nil) (by simpa using All2.nil)
theorem run_sizeOf' {t:TypeId} {n:Nat} (h:szOf P t=some n) (w:World):(sizeOf t).run P w=.ok n w:=by
 unfold szOf at h;split at h
 ·rename_i i hi;cases h;simp[sizeOf,typeInfo,hi]
 ·cases h
theorem run_isAgg' {t:TypeId} {b:Bool} (h:aggT P t=some b) (w:World):(isAgg t).run P w=.ok b w:=by
 unfold aggT at h
 split at h<;>cases h<;>rename_i hu<;>simp[isAgg,run_underlying hu]
 try(split<;>first|rfl|(rename_i h1 h2;simp_all))
theorem zeroOf_sound {t:TypeId} {z:NVal} (h:zeroOf P t=some z):∃i rz,P.info? t=some i∧i.zero=some rz∧VR ι z rz:=by
 unfold zeroOf at h;split at h
 ·rename_i i hi;split at h
  ·rename_i rz hz;exact⟨i,rz,hi,hz,ofVal_sound 4 h⟩
  ·cases h
 ·cases h
theorem part_sound {t:TypeId} {cs:List NVal} {off:Nat} {v:NVal} (h:npart P t cs off=some v) {ds:Array Value} (hd:VRs ι cs ds.toList):
  ∃rv,VR ι v rv∧∀w,(part t ds off).run P w=.ok rv w:=by
 unfold npart at h;split at h
 ·rename_i ha;split at h
  ·rename_i n hn;cases h
   refine⟨.agg (ds.extract off (off+n)),.agg' ?_,fun w=>?_⟩
   ·have:=(hd.drop (n:=off)).take (n:=n)
    simpa[List.drop_take,List.extract_eq_take_drop] using this
   ·simp[part,run_isAgg' ha,run_sizeOf' hn]
  ·cases h
 ·rename_i ha
  obtain⟨b,hb,r⟩:=hd.get h
  rw[Array.getElem?_toList] at hb
  exact⟨b,r,fun w=>by simp[part,run_isAgg' ha,hb]⟩
 ·cases h
theorem intOp_sound {op:BinOp} {k:IntKind} {x y:Int} {v:NVal} (h:nIntOp op k x y=some v) (t:TypeId) (w:World):
  ∃rv,VR ι v rv∧(binOp op t (.int k x) (.int k y)).run P w=.ok rv w:=by
 cases op<;>simp only[nIntOp] at h<;>first|(cases h;exact⟨_,by constructor,by simp[binOp,Op.intArith,Op.intBits,Op.intCmp]⟩)|(split at h;cases h;cases h;rename_i hy;exact⟨_,by constructor,by simp[binOp,Op.intDiv,hy]⟩)|cases h
theorem shift_sound {op:BinOp} {k k':IntKind} {x y:Int} {v:NVal} (ho:op=.shl∨op=.shr) (h:nShift op k x y=some v) (t:TypeId) (w:World):
  ∃rv,VR ι v rv∧(binOp op t (.int k x) (.int k' y)).run P w=.ok rv w:=by
 unfold nShift at h;split at h
 ·cases h
 ·rename_i hy
  rcases ho with rfl|rfl<;>(simp only at h;cases h;exact⟨_,by constructor,by simp[binOp,Op.shift,hy]⟩)
theorem toList_eq (s:ByteArray):s.toList=s.data.toList:=ByteArray.toList_eq s
theorem strOp_sound {op:BinOp} {x y:ByteArray} {v:NVal} (h:nStrOp op x.data.toList y.data.toList=some v) (t:TypeId) (w:World):
  ∃rv,VR ι v rv∧(binOp op t (.string x) (.string y)).run P w=.ok rv w:=by
 by_cases ha:op=.add
 ·subst ha
  simp only[nStrOp] at h
  by_cases hs:((x.data.toList.length+y.data.toList.length:Nat):Int)>9223372036854775807
  ·rw[if_pos hs] at h;cases h
  ·rw[if_neg hs] at h;cases h
   refine⟨.string (x++y),by have:=VR.str (ι:=ι) (x++y);simpa using this,?_⟩
   have hm:¬((x.size+y.size:Nat):Int)>IntKind.i64.max:=by
    have e1:x.data.toList.length=x.size:=by simp
    have e2:y.data.toList.length=y.size:=by simp
    rw[e1,e2] at hs;simpa[IntKind.max,IntKind.bits,IntKind.signed] using hs
   simp only[binOp,Op.stringOp]
   rw[if_neg hm];rfl
 ·cases op<;>simp only[nStrOp] at h<;>first
   |(cases h;exact⟨_,by constructor,by simp[binOp,Op.stringOp,toList_eq]⟩)
   |(exact absurd rfl ha)
   |cases h
section
variable (w:World) (D:Nat) {t:TypeId}
theorem eqIn_ptr_none {e:TypeId} (hu:P.underlying t=some (.pointer e)) (b:Option Addr):(Op.equalIn (D+1) t (.pointer none) (.pointer b)).run P w=.ok b.isNone w:=by
 unfold Op.equalIn;rw[Sem.run_bind,run_underlying hu];rfl
theorem eqIn_ptr_some {e:TypeId} (hu:P.underlying t=some (.pointer e)) (b:Addr):(Op.equalIn (D+1) t (.pointer (some b)) (.pointer none)).run P w=.ok false w:=by
 unfold Op.equalIn;rw[Sem.run_bind,run_underlying hu];rfl
theorem eqIn_slice_none {e:TypeId} (hu:P.underlying t=some (.slice e)) (n c:Nat) (b:Option Addr) (n' c':Nat):(Op.equalIn (D+1) t (.slice none n c) (.slice b n' c')).run P w=.ok b.isNone w:=by
 unfold Op.equalIn;rw[Sem.run_bind,run_underlying hu];rfl
theorem eqIn_slice_some {e:TypeId} (hu:P.underlying t=some (.slice e)) (n c:Nat) (b:Addr) (n' c':Nat):(Op.equalIn (D+1) t (.slice (some b) n c) (.slice none n' c')).run P w=.ok false w:=by
 unfold Op.equalIn;rw[Sem.run_bind,run_underlying hu];rfl
theorem eqIn_func_nil {a b c} (hu:P.underlying t=some (.func a b c)):(Op.equalIn (D+1) t .nilFunc .nilFunc).run P w=.ok true w:=by
 unfold Op.equalIn;rw[Sem.run_bind,run_underlying hu];rfl
theorem eqIn_func_left {a b c} (hu:P.underlying t=some (.func a b c)) (f x y):(Op.equalIn (D+1) t .nilFunc (.func f x y)).run P w=.ok false w:=by
 unfold Op.equalIn;rw[Sem.run_bind,run_underlying hu];rfl
theorem eqIn_func_right {a b c} (hu:P.underlying t=some (.func a b c)) (f x y):(Op.equalIn (D+1) t (.func f x y) .nilFunc).run P w=.ok false w:=by
 unfold Op.equalIn;rw[Sem.run_bind,run_underlying hu];rfl
theorem eqIn_iface_left {a} (hu:P.underlying t=some (.interface a)) (f x):(Op.equalIn (D+1) t .nilIface (.iface f x)).run P w=.ok false w:=by
 unfold Op.equalIn;rw[Sem.run_bind,run_underlying hu];rfl
theorem eqIn_iface_right {a} (hu:P.underlying t=some (.interface a)) (f x):(Op.equalIn (D+1) t (.iface f x) .nilIface).run P w=.ok false w:=by
 unfold Op.equalIn;rw[Sem.run_bind,run_underlying hu];rfl
end
theorem nilP_spec {x:NVal} {c:Bool} {rx:Value} (h:nilP x=some c) (hx:VR ι x rx):(c=true∧rx=.pointer none)∨(c=false∧∃a,rx=.pointer (some a)):=by
 cases hx<;>simp only[nilP] at h<;>cases h<;>first|exact .inl ⟨rfl,rfl⟩|exact .inr ⟨rfl,_,rfl⟩
theorem nilS_spec {x:NVal} {c:Bool} {rx:Value} (h:nilS x=some c) (hx:VR ι x rx):(c=true∧∃n k,rx=.slice none n k)∨(c=false∧∃a n k,rx=.slice (some a) n k):=by
 cases hx<;>simp only[nilS] at h<;>cases h<;>first|exact .inl ⟨rfl,_,_,rfl⟩|exact .inr ⟨rfl,_,_,_,rfl⟩
theorem nilF_spec {x:NVal} {c:Bool} {rx:Value} (h:nilF x=some c) (hx:VR ι x rx):(c=true∧rx=.nilFunc)∨(c=false∧∃f a b,rx=.func f a b):=by
 cases hx<;>simp only[nilF] at h<;>cases h<;>first|exact .inl ⟨rfl,rfl⟩|exact .inr ⟨rfl,_,_,_,rfl⟩
theorem nilI_spec {x:NVal} {c:Bool} {rx:Value} (h:nilI x=some c) (hx:VR ι x rx):(c=true∧rx=.nilIface)∨(c=false∧∃f a,rx=.iface f a):=by
 cases hx<;>simp only[nilI] at h<;>cases h<;>first|exact .inl ⟨rfl,rfl⟩|exact .inr ⟨rfl,_,_,rfl⟩
theorem neqFields_sound (d:Nat) (ih:∀{t:TypeId} {x y:NVal} {b:Bool},neq P d t x y=some b→∀(D:Nat),d≤D→∀(rx ry:Value),VR ι x rx→VR ι y ry→
  ∀w,(Op.equalIn D t rx ry).run P w=.ok b w):∀{xs ys:List NVal} {fs:List Field} {b:Bool},neqFields P (neq P d) xs ys fs=some b→∀(D:Nat),d≤D→
  ∀(ds es:Array Value),VRs ι xs ds.toList→VRs ι ys es.toList→∀w,(Op.eqFields D ds es fs).run P w=.ok b w
 |xs,ys,[],b,h=>by
  intro D hD ds es hds hes w
  simp only[neqFields] at h;cases h
  rfl
 |xs,ys,f::fs,b,h=>by
  intro D hD ds es hds hes w
  unfold neqFields at h
  by_cases hn:f.name= "_"
  ·rw[if_pos hn] at h
   simp only[Op.eqFields,hn,ne_eq,not_true,if_false]
   exact neqFields_sound d ih h D hD ds es hds hes w
  ·rw[if_neg hn] at h
   simp only[Op.eqFields,hn,ne_eq,not_false_eq_true,if_true,Sem.run_bind]
   cases hu:npart P f.type xs f.offset with
   |none=>rw[hu] at h;cases h
   |some u=>
    cases hv:npart P f.type ys f.offset with
    |none=>rw[hu,hv] at h;cases h
    |some v=>
     rw[hu,hv] at h
     simp only at h
     obtain⟨ru,hru,eu⟩:=part_sound hu hds
     obtain⟨rv,hrv,e'⟩:=part_sound hv hes
     simp only[eu,e',Result.andThen_ok]
     cases hq:neq P d f.type u v with
     |none=>rw[hq] at h;cases h
     |some c=>
      rw[hq] at h
      rw[ih hq D hD _ _ hru hrv w]
      cases c
      ·cases h;rfl
      ·exact neqFields_sound d ih h D hD ds es hds hes w
theorem neq_sound:∀(d:Nat) {t:TypeId} {x y:NVal} {b:Bool},neq P d t x y=some b→∀(D:Nat),d≤D→∀(rx ry:Value),VR ι x rx→VR ι y ry→
  ∀w,(Op.equalIn D t rx ry).run P w=.ok b w
 |0,t,x,y,b,h=>by simp[neq] at h
 |d+1,t,x,y,b,h=>by
  intro D hD rx ry hx hy w
  obtain⟨D,rfl⟩:∃D',D=D'+1:=⟨D-1,by omega⟩
  unfold neq at h
  cases hu:P.underlying t with
  |none=>rw[hu] at h;cases h
  |some ty=>
   rw[hu] at h
   cases ty with
   |bool=>
    cases x<;>first|(cases h;done)|skip
    cases y<;>first|(cases h;done)|skip
    cases h;cases hx;cases hy;exact run_equalIn_bool' w D t _ _ hu
   |int k=>
    cases x<;>first|(cases h;done)|skip
    cases y<;>first|(cases h;done)|skip
    rename_i k1 a1 k2 a2
    simp only at h
    by_cases hk:k1=k2
    ·rw[if_pos hk] at h;cases h;cases hx;cases hy;subst hk;exact run_equalIn_int w D t _ _ _ _ hu
    ·rw[if_neg hk] at h;cases h
   |string=>
    cases x<;>first|(cases h;done)|skip
    cases y<;>first|(cases h;done)|skip
    cases h;cases hx;cases hy;rw[run_equalIn_string w D t _ _ hu];simp[toList_eq]
   |pointer e=>
    simp only at h
    cases h1:nilP x with
    |none=>rw[h1] at h;cases h
    |some c=>cases h2:nilP y with
     |none=>rw[h1,h2] at h;cases c<;>cases h
     |some c'=>
      rw[h1,h2] at h
      rcases nilP_spec h1 hx with⟨rfl,rfl⟩|⟨rfl,a,rfl⟩<;>rcases nilP_spec h2 hy with⟨rfl,rfl⟩|⟨rfl,a',rfl⟩<;>cases h
      ·exact eqIn_ptr_none w D hu none
      ·exact eqIn_ptr_none w D hu _
      ·exact eqIn_ptr_some w D hu _
   |slice e=>
    simp only at h
    cases h1:nilS x with
    |none=>rw[h1] at h;cases h
    |some c=>cases h2:nilS y with
     |none=>rw[h1,h2] at h;cases c<;>cases h
     |some c'=>
      rw[h1,h2] at h
      rcases nilS_spec h1 hx with⟨rfl,n,k,rfl⟩|⟨rfl,a,n,k,rfl⟩<;>rcases nilS_spec h2 hy with⟨rfl,n',k',rfl⟩|⟨rfl,a',n',k',rfl⟩<;>cases h
      ·exact eqIn_slice_none w D hu _ _ none _ _
      ·exact eqIn_slice_none w D hu _ _ _ _ _
      ·exact eqIn_slice_some w D hu _ _ _ _ _
   |func a b c=>
    simp only at h
    cases h1:nilF x with
    |none=>rw[h1] at h;cases h
    |some c=>cases h2:nilF y with
     |none=>rw[h1,h2] at h;cases c<;>cases h
     |some c'=>
      rw[h1,h2] at h
      rcases nilF_spec h1 hx with⟨rfl,rfl⟩|⟨rfl,f,p,q,rfl⟩<;>rcases nilF_spec h2 hy with⟨rfl,rfl⟩|⟨rfl,f',p',q',rfl⟩<;>cases h
      ·exact eqIn_func_nil w D hu
      ·exact eqIn_func_left w D hu _ _ _
      ·exact eqIn_func_right w D hu _ _ _
   |interface ms=>
    simp only at h
    cases h1:nilI x with
    |none=>rw[h1] at h;cases h
    |some c=>cases h2:nilI y with
     |none=>rw[h1,h2] at h;cases c<;>cases h
     |some c'=>
      rw[h1,h2] at h
      rcases nilI_spec h1 hx with⟨rfl,rfl⟩|⟨rfl,f,p,rfl⟩<;>rcases nilI_spec h2 hy with⟨rfl,rfl⟩|⟨rfl,f',p',rfl⟩<;>cases h
      ·exact eqIn_iface_left w D hu _ _
      ·exact eqIn_iface_right w D hu _ _
   |struct fs=>
    cases x<;>first|(cases h;done)|skip
    cases y<;>first|(cases h;done)|skip
    simp only at h
    by_cases hs:P.stoodInHeld t=true∨P.eqGuardType P.depth t=true
    ·rw[if_pos hs] at h;cases h
    ·rw[if_neg hs] at h
     simp only[not_or,Bool.not_eq_true] at hs
     obtain⟨ds,rfl,hds⟩:=hx.agg_inv
     obtain⟨es,rfl,hes⟩:=hy.agg_inv
     have hf:P.fieldsOf t=fs:=by simp[Program.fieldsOf,hu]
     rw[run_equalIn_struct w D t ds es (by rw[hf];exact hu) hs.1,hf]
     exact neqFields_sound d (neq_sound d) h D (by omega) ds es hds hes w
   |_=>cases h
end Go.Proofs.YtkjpldganajkkaaGreatDoor.NICE
namespace Go.Proofs.YtkjpldganajkkaaGreatDoor.NICE
open Go Go.RowKit
variable {P:Program} {ι:Inj}
def vk:Value→Nat| .int _ _=>1| .string _=>2| .float _ _=>3| .complex _ _ _=>4| .agg _=>5| .nilIface=>6|_=>0
def nk:NVal→Nat| .int _ _=>1| .str _=>2| .agg _=>5| .nilIface=>6|_=>0
def NVal.isJunk:NVal→Bool| .junk=>true|_=>false
theorem VR.vk {x:NVal} {rx:Value} (h:VR ι x rx) (hj:x.isJunk=false):vk rx=nk x:=by cases h<;>first|rfl|(simp[NVal.isJunk] at hj)
theorem binOp_eql {t:TypeId} {x y:Value} (h:vk x=0∨vk x=5∨vk x=6∨vk y≠vk x):binOp .eql t x y=(Op.equal t x y>>=fun b=>pure (.bool b)):=by
 cases x<;>cases y<;>first|rfl|(simp[NICE.vk] at h)
theorem binOp_neq {t:TypeId} {x y:Value} (h:vk x=0∨vk x=5∨vk x=6∨vk y≠vk x):binOp .neq t x y=(Op.equal t x y>>=fun b=>pure (.bool (!b))):=by
 cases x<;>cases y<;>first|rfl|(simp[NICE.vk] at h)
theorem eqGuard_ok {op:BinOp} {t:TypeId} {xo yo:Operand} {x y:Value} (h:¬(vk x=6∧vk y=6)∧¬(vk x=5∧vk y=5)) (w:World):(eqGuard op t xo yo x y).run P w=.ok () w:=by
 unfold eqGuard
 cases x<;>cases y<;>first|(exfalso;simp[NICE.vk] at h;done)|(simp only[];split<;>rfl)
theorem neq_guard {d:Nat} {t:TypeId} {x y:NVal} {b:Bool} (h:neq P d t x y=some b):¬(nk x=6∧nk y=6)∧((nk x=5∧nk y=5)→P.eqGuardType P.depth t=false):=by
 cases d with
 |zero=>simp[neq] at h
 |succ d=>
  refine⟨fun⟨h1,h2⟩=>?_,fun⟨h1,h2⟩=>?_⟩
  ·cases x<;>simp[nk] at h1
   cases y<;>simp[nk] at h2
   unfold neq at h
   cases hu:P.underlying t with
   |none=>rw[hu] at h;cases h
   |some ty=>rw[hu] at h;cases ty<;>simp[nilP,nilS,nilF,nilI] at h
  ·cases x<;>simp[nk] at h1
   cases y<;>simp[nk] at h2
   unfold neq at h
   cases hu:P.underlying t with
   |none=>rw[hu] at h;cases h
   |some ty=>
    rw[hu] at h;cases ty<;>simp[nilP,nilS,nilF,nilI] at h
    exact h.1.2
theorem VR.str_inv {l:List UInt8} {r:Value} (h:VR ι (.str l) r):∃s:ByteArray,r=.string s∧s.data.toList=l:=by
 generalize hv:NVal.str l=v at h
 cases h<;>cases hv
 exact⟨_,rfl,rfl⟩
theorem VR.int_inv {k n} {r:Value} (h:VR ι (.int k n) r):r=.int k n:=by cases h;rfl
theorem VR.bool_inv {b} {r:Value} (h:VR ι (.bool b) r):r=.bool b:=by cases h;rfl
def NVal.plain:NVal→Bool| .bool _| .int _ _| .str _=>true|_=>false
theorem VR.det {v:NVal} (hp:v.plain=true) {r r':Value} (h:VR ι v r) (h':VR ι v r'):r=r':=by
 cases v<;>simp[NVal.plain] at hp
 ·rw[h.bool_inv,h'.bool_inv]
 ·rw[h.int_inv,h'.int_inv]
 ·obtain⟨s,rfl,e⟩:=h.str_inv
  obtain⟨s',rfl,e'⟩:=h'.str_inv
  congr 1;exact ByteArray.ext (Array.ext' (by rw[e,e']))
theorem nIntOp_plain {op:BinOp} {k:IntKind} {x y:Int} {v:NVal} (h:nIntOp op k x y=some v):v.plain=true:=by
 cases op<;>simp only[nIntOp] at h<;>first|(cases h;rfl)|(split at h<;>cases h;rfl)|cases h
theorem nShift_plain {op:BinOp} {k:IntKind} {x y:Int} {v:NVal} (h:nShift op k x y=some v):v.plain=true:=by
 unfold nShift at h;split at h
 ·cases h
 ·cases op<;>simp only at h<;>cases h<;>rfl
theorem nStrOp_plain {op:BinOp} {x y:List UInt8} {v:NVal} (h:nStrOp op x y=some v):v.plain=true:=by
 cases op<;>simp only[nStrOp] at h<;>first|(cases h;rfl)|(split at h<;>cases h;rfl)|cases h
theorem neq_nojunk {d:Nat} {t:TypeId} {x y:NVal} {b:Bool} (h:neq P d t x y=some b):x.isJunk=false∧y.isJunk=false:=by
 cases d with
 |zero=>simp[neq] at h
 |succ d=>
  unfold neq at h
  cases hu:P.underlying t with
  |none=>rw[hu] at h;cases h
  |some ty=>
   rw[hu] at h
   constructor
   ·cases x with
    |junk=>cases ty<;>cases y<;>simp[nilP,nilS,nilF,nilI] at h
    |_=>rfl
   ·cases y with
    |junk=>cases ty<;>simp[nilP,nilS,nilF,nilI] at h<;>(cases x<;>simp[nilP,nilS,nilF,nilI] at h)
    |_=>rfl
theorem nsame_spec {t:TypeId} {x y v:NVal} {b:Bool} (h:nsame P t x y b=some v) {rx ry:Value} (hx:VR ι x rx) (hy:VR ι y ry):
  ∃a e i,P.underlying t=some (.pointer e)∧P.info? e=some i∧rx=.pointer (some a)∧ry=.pointer (some a)∧v=.bool b:=by
 unfold nsame at h
 split at h
 ·rename_i u1 u2 u3 e a c hu
  cases hi:P.info? e with
  |none=>rw[hi] at h;cases h
  |some i=>
   rw[hi] at h;simp only at h
   split at h
   ·rename_i hac;subst hac;cases h
    obtain⟨b,o⟩:=a
    cases hx with|ptr hι=>cases hy with|ptr hι'=>
    rw[hι] at hι';cases hι'
    exact⟨_,e,i,hu,hi,rfl,rfl,rfl⟩
   ·cases h
 ·cases h
theorem run_eql_ptr_same (w:World) {tp te:TypeId} {j:TypeInfo} (a:Addr) (hp:P.underlying tp=some (.pointer te)) (hte:P.info? te=some j):
  (binOp .eql tp (.pointer (some a)) (.pointer (some a))).run P w=.ok (.bool true) w:=by
 have h:∀d:Nat,(Op.equalIn (d+1) tp (.pointer (some a)) (.pointer (some a))).run P w=.ok true w:=fun d=>by
  simp[Op.equalIn,run_underlying hp,sizeOf,typeInfo,hte,run_sameAddr_same]
 simp only[binOp]
 simp[Op.equal,Op.maxDepth,h 9999]
theorem bin_sound {op:BinOp} {t:TypeId} {x y v:NVal} (h:nbin P op t x y=some v) {rx ry:Value} (hx:VR ι x rx) (hy:VR ι y ry) (xo yo:Operand):
  ∃rv,VR ι v rv∧∀w,(eqGuard op t xo yo rx ry>>=fun _=>binOp op t rx ry).run P w=.ok rv w:=by
 have key:∀{rv},(vk rx≠5∨vk ry≠5)→¬(vk rx=6∧vk ry=6)→VR ι v rv→(∀w,(binOp op t rx ry).run P w=.ok rv w)→∃rv,VR ι v rv∧∀w,(eqGuard op t xo yo rx ry>>=fun _=>binOp op t rx ry).run P w=.ok rv w:=by
  intro rv h5 h6 hv hr
  exact⟨rv,hv,fun w=>by rw[Sem.run_bind,eqGuard_ok ⟨h6,by omega⟩ w];exact hr w⟩
 unfold nbin at h
 split at h
 ·rename_i k a k' b
  cases hx;cases hy
  have fin:∀{rv},VR ι v rv→(∀w,(binOp op t (.int k a) (.int k' b)).run P w=.ok rv w)→_:=fun{rv}=>key (rv:=rv) (by simp[NICE.vk]) (by simp[NICE.vk])
  have get:v.plain=true→(∀w:World,∃rv,VR ι v rv∧(binOp op t (.int k a) (.int k' b)).run P w=.ok rv w)→∃rv,VR ι v rv∧∀w,(binOp op t (.int k a) (.int k' b)).run P w=.ok rv w:=by
   intro hp hh
   obtain⟨rv,h1,h2⟩:=hh default
   refine⟨rv,h1,fun w=>?_⟩
   obtain⟨rv',h1',h2'⟩:=hh w
   rw[h2',VR.det hp h1 h1']
  split at h
  ·obtain⟨rv,h1,h2⟩:=get (nShift_plain h) fun w=>shift_sound (.inl rfl) h t w;exact fin h1 h2
  ·obtain⟨rv,h1,h2⟩:=get (nShift_plain h) fun w=>shift_sound (.inr rfl) h t w;exact fin h1 h2
  ·split at h
   ·rename_i hk;subst hk
    obtain⟨rv,h1,h2⟩:=get (nIntOp_plain h) fun w=>intOp_sound h t w;exact fin h1 h2
   ·cases h
 ·cases hx with|str a=>cases hy with|str b=>
  have hh:=fun w=>strOp_sound (ι:=ι) (P:=P) h t w
  obtain⟨rv,h1,h2⟩:=hh default
  refine key (by simp[NICE.vk]) (by simp[NICE.vk]) h1 fun w=>?_
  obtain⟨rv',h1',h2'⟩:=hh w
  rw[h2',VR.det (nStrOp_plain h) h1 h1']
 ·rename_i hn1 hn2
  have hv:x.isJunk=false→y.isJunk=false→(vk rx=0∨vk rx=5∨vk rx=6∨vk ry≠vk rx):=by
   intro j1 j2
   rw[hx.vk j1,hy.vk j2]
   cases x<;>simp[nk]
   ·cases y<;>simp[nk]
    rename_i k n k' n';exact hn1 k n k' n' rfl rfl
   ·cases y<;>simp[nk]
    rename_i a b;exact hn2 a b rfl rfl
  have main:∀b,neq P 6 t x y=some b→(∀w,(eqGuard op t xo yo rx ry).run P w=.ok () w)∧∀w,(Op.equal t rx ry).run P w=.ok b w:=by
   intro b hb
   refine⟨fun w=>?_,fun w=>neq_sound 6 hb Op.maxDepth (by decide) rx ry hx hy w⟩
   obtain⟨g1,g2⟩:=neq_guard hb
   obtain⟨j1,j2⟩:=neq_nojunk hb
   by_cases h5:vk rx=5∧vk ry=5
   ·have:=g2 (by rw[←hx.vk j1,←hy.vk j2];exact h5)
    obtain⟨h5,h5'⟩:=h5
    cases rx<;>simp[NICE.vk] at h5
    cases ry<;>simp[NICE.vk] at h5'
    exact run_eqGuard_agg w op t xo yo _ _ this
   ·exact eqGuard_ok ⟨by rw[hx.vk j1,hy.vk j2];exact g1,h5⟩ w
  split at h
  ·cases hb:neq P 6 t x y with
   |none=>
    rw[hb] at h
    obtain⟨a,e,i,hu,hi,rfl,rfl,rfl⟩:=nsame_spec h hx hy
    exact⟨_,.bool _,fun w=>by rw[Sem.run_bind,eqGuard_ok (by simp[NICE.vk]) w];simp only[Result.andThen_ok];exact run_eql_ptr_same w _ hu hi⟩
   |some b=>
    rw[hb] at h;cases h
    obtain⟨m1,m2⟩:=main b hb
    exact⟨.bool b,.bool b,fun w=>by rw[Sem.run_bind,m1 w];simp only[Result.andThen_ok];rw[binOp_eql (hv (neq_nojunk hb).1 (neq_nojunk hb).2)];simp[m2 w]⟩
  ·cases hb:neq P 6 t x y with
   |none=>
    rw[hb] at h
    obtain⟨a,e,i,hu,hi,rfl,rfl,rfl⟩:=nsame_spec h hx hy
    exact⟨_,.bool _,fun w=>by rw[Sem.run_bind,eqGuard_ok (by simp[NICE.vk]) w];simp only[Result.andThen_ok];exact Lib.run_neq_ptr_same w _ hu hi⟩
   |some b=>
    rw[hb] at h;cases h
    obtain⟨m1,m2⟩:=main b hb
    exact⟨.bool (!b),.bool _,fun w=>by rw[Sem.run_bind,m1 w];simp only[Result.andThen_ok];rw[binOp_neq (hv (neq_nojunk hb).1 (neq_nojunk hb).2)];simp[m2 w]⟩
  ·cases h
theorem un_sound {op:UnOp} {x v:NVal} (h:nun op x=some v) {rx:Value} (hx:VR ι x rx):∃rv,VR ι v rv∧∀w,(Op.unary op rx).run P w=.ok rv w:=by
 unfold nun at h
 split at h
 ·cases h;cases hx;exact⟨_,.bool _,fun w=>rfl⟩
 ·cases h;cases hx;exact⟨_,.int _ _,fun w=>rfl⟩
 ·cases h
theorem conv_sound {s d:TypeId} {x v:NVal} (h:nconv P s d x=some v) {rx:Value} (hx:VR ι x rx):∃rv,VR ι v rv∧∀w,(convert s d rx).run P w=.ok rv w:=by
 unfold nconv at h
 split at h
 ·rename_i u1 u2 u3 k n hs hd
  cases h;cases hx
  exact⟨_,.int _ _,fun w=>by simp[convert,run_underlying hs,run_underlying hd,Conv.intToInt]⟩
 ·rename_i u1 u2 l hs hd
  cases h;cases hx with|str b=>
  exact⟨_,.str b,fun w=>by
   simp only[convert,Sem.run_bind,run_underlying hs,run_underlying hd,Result.andThen_ok];rfl⟩
 ·cases h
end Go.Proofs.YtkjpldganajkkaaGreatDoor.NICE
namespace Go.Proofs.YtkjpldganajkkaaGreatDoor.NICE
open Go Go.RowKit
variable {P:Program} {ι:Inj}
inductive OptVR (ι:Inj):Option NVal→Option Value→Prop
 |none:OptVR ι none none
 |some {u r} (h:VR ι u r):OptVR ι (some u) (some r)
theorem add_at (rb o n:Nat):(⟨rb,o,none⟩:Addr).add n=⟨rb,o+n,none⟩:=by
 unfold Addr.add;split
 ·rename_i h;subst h;rfl
 ·rfl
theorem bound_sound {y y' d k:Nat} {u:NVal} {r:Value} (h:nbound y (some u) d=some k) (hr:VR ι u r) (hy:y≤y') (code:BoundsCode) (w:World):
  (Instr.sliceBound r y' code).run P w=.ok k w∧k≤y:=by
 cases u<;>simp only[nbound] at h<;>try(cases h;done)
 split at h
 ·rename_i hi;cases h
  rw[hr.int_inv]
  refine⟨?_,by omega⟩
  have h2:=hi.2
  simp[Instr.sliceBound,asIntOf,hi.1]
  omega
 ·cases h
theorem bounds_sound {isSlice:Bool} {len cap rcap h l:Nat} {hi lo:Option NVal} {rhi rlo:Option Value} (hh:nbound cap hi len=some h) (hl:nbound h lo 0=some l)
  (hhi:OptVR ι hi rhi) (hlo:OptVR ι lo rlo) (hc:cap≤rcap) (w:World):
  (Instr.sliceBounds isSlice len rcap rlo rhi none).run P w=.ok (l,h,rcap) w∧l≤h∧(h≤cap∨h=len):=by
 have h1:(match rhi with|some v=>Instr.sliceBound v rcap (if isSlice then .sliceAcap else .sliceAlen)|none=>(pure len:Sem Nat)).run P w=.ok h w∧(h≤cap∨h=len):=by
  cases hhi with
  |none=>simp only[nbound] at hh;cases hh;exact⟨rfl,.inr rfl⟩
  |some hr=>obtain⟨e,k⟩:=bound_sound (P:=P) hh hr hc (if isSlice then .sliceAcap else .sliceAlen) w;exact⟨e,.inl k⟩
 have h2:(match rlo with|some v=>Instr.sliceBound v h .sliceB|none=>(pure 0:Sem Nat)).run P w=.ok l w∧l≤h:=by
  cases hlo with
  |none=>simp only[nbound] at hl;cases hl;exact⟨rfl,Nat.zero_le _⟩
  |some hr=>obtain⟨e,k⟩:=bound_sound (P:=P) hl hr (Nat.le_refl _) .sliceB w;exact⟨e,k⟩
 refine⟨?_,h2.2,h1.2⟩
 unfold Instr.sliceBounds
 cases hhi with
 |none=>
  simp only[nbound] at hh;cases hh
  simp only[Sem.run_bind,Sem.run_pure,Result.andThen_ok,Option.isSome_none,Bool.false_eq_true,if_false]
  cases hlo with
  |none=>simp only[nbound] at hl;cases hl;rfl
  |some hr=>simp only at h2;simp only[Sem.run_bind,h2.1,Result.andThen_ok,Sem.run_pure]
 |some hr'=>
  simp only at h1
  simp only[Sem.run_bind,Sem.run_pure,Result.andThen_ok,Option.isSome_none,Bool.false_eq_true,if_false,h1.1]
  cases hlo with
  |none=>simp only[nbound] at hl;cases hl;rfl
  |some hr=>simp only at h2;simp only[Sem.run_bind,h2.1,Result.andThen_ok,Sem.run_pure]
theorem slice_sound {t:TypeId} {x v:NVal} {lo hi:Option NVal} (h:nslice P t x lo hi=some v) {rx:Value} (hx:VR ι x rx) {rlo rhi:Option Value} (hlo:OptVR ι lo rlo) (hhi:OptVR ι hi rhi):
  ∃rv,VR ι v rv∧∀w,(Instr.sliceAt t rx rlo rhi none).run P w=.ok rv w:=by
 unfold nslice at h
 split at h
 ·rename_i s hu
  obtain⟨b,rfl,rfl⟩:=hx.str_inv
  cases hh:nbound b.data.toList.length hi b.data.toList.length with
  |none=>rw[hh] at h;cases h
  |some k=>cases hl:nbound k lo 0 with
   |none=>rw[hh] at h;simp only at h;rw[hl] at h;cases h
   |some l=>
    rw[hh] at h;simp only at h;rw[hl] at h;cases h
    have hsz:b.data.toList.length=b.size:=by simp
    refine⟨.string (b.extract l k),?_,fun w=>?_⟩
    ·have:=VR.str (ι:=ι) (b.extract l k)
     have e:(b.extract l k).data.toList=(b.data.toList.drop l).take (k-l):=by
      simp[List.drop_take,List.extract_eq_take_drop]
     rw[e] at this;exact this
    ·rw[hsz] at hh
     obtain⟨e,hle,hor⟩:=bounds_sound (P:=P) (isSlice:=false) hh hl hhi hlo (Nat.le_refl _) w
     simp[Instr.sliceAt,Instr.slice,run_underlying hu,e]
 ·rename_i e a len cap xx hu
  cases hh:nbound cap hi len with
  |none=>rw[hh] at h;cases h
  |some k=>cases hl:nbound k lo 0 with
   |none=>rw[hh] at h;simp only at h;rw[hl] at h;cases h
   |some l=>cases hs:szOf P e with
    |none=>rw[hh] at h;simp only at h;rw[hl,hs] at h;cases h
    |some sz=>
     rw[hh] at h;simp only at h;rw[hl,hs] at h;simp only at h
     have run:∀{a' len' rcap},rx=.slice a' len' rcap→len'=len→cap≤rcap→
       (∀w,(Instr.sliceAt t rx rlo rhi none).run P w=.ok (.slice (if rcap=l then a' else a'.map (·.add (l*sz))) (k-l) (rcap-l)) w)∧l≤k∧(k≤cap∨k=len):=by
      intro a' len' rcap hrx hlen hc
      subst hrx;subst hlen
      have hb:=fun w=>bounds_sound (P:=P) (isSlice:=true) hh hl hhi hlo hc w
      refine⟨fun w=>?_,(hb default).2⟩
      simp[Instr.sliceAt,Instr.slice,run_underlying hu,(hb w).1,run_sizeOf' hs]
     cases hx with
     |sliceNil=>
      cases h
      obtain⟨r,h1,h2⟩:=run rfl rfl (Nat.le_refl _)
      refine⟨.slice none 0 0,.sliceNil,fun w=>?_⟩
      rw[r w]
      have hk:k=0:=by omega
      subst hk
      simp
     |slice hι hlen hc=>
      rename_i b o rb s m rcap
      subst hc
      cases h
      obtain⟨r,h1,h2⟩:=run rfl rfl (Nat.le_refl _)
      refine⟨_,?_,r⟩
      have e1:(if rcap=l then some (⟨rb,s+o,none⟩:Addr) else Option.map (fun x:Addr=>x.add (l*sz)) (some ⟨rb,s+o,none⟩))=some ⟨rb,s+(if rcap=l then o else o+l*sz),none⟩:=by
       split
       ·rfl
       ·simp[add_at,Nat.add_assoc]
      rw[e1]
      exact .slice hι (by omega) rfl
     |sliceMore hι hlen hc hm=>
      rename_i b o rb s m rcap z
      simp only at h
      obtain⟨r,h1,h2⟩:=run rfl rfl hc
      by_cases hz:z=sz
      ·rw[if_pos hz] at h
       subst hz
       by_cases hlt:l<max cap len
       ·rw[if_pos hlt] at h;cases h
        refine⟨_,?_,r⟩
        rw[if_neg (by omega)]
        simp only[Option.map_some,add_at]
        rw[show s+o+l*z=s+(o+l*z) by omega]
        refine .sliceMore hι (by omega) (by omega) ?_
        have:l*z+(rcap-l)*z=rcap*z:=by rw[←Nat.add_mul];congr 1;omega
        omega
       ·rw[if_neg hlt] at h;cases h
        refine⟨_,?_,r⟩
        have hk:k-l=0:=by omega
        rw[hk]
        split
        ·exact .sliceEmpty
        ·exact .sliceEmpty
      ·rw[if_neg hz] at h;cases h
     |sliceEmpty=>
      rename_i b o a' rcap z
      simp only at h
      obtain⟨r,h1,h2⟩:=run rfl rfl (Nat.zero_le _)
      by_cases hz:z=sz
      ·rw[if_pos hz,if_neg (by omega)] at h;cases h
       refine⟨_,?_,r⟩
       have hk:k-l=0:=by omega
       rw[hk]
       split
       ·exact .sliceEmpty
       ·exact .sliceEmpty
      ·rw[if_neg hz] at h;cases h
 ·rename_i n e b o hu
  cases hh:nbound n hi n with
  |none=>rw[hh] at h;cases h
  |some k=>cases hl:nbound k lo 0 with
   |none=>rw[hh] at h;simp only at h;rw[hl] at h;cases h
   |some l=>cases hs:szOf P e with
    |none=>rw[hh] at h;simp only at h;rw[hl,hs] at h;cases h
    |some sz=>
     rw[hh] at h;simp only at h;rw[hl,hs] at h;cases h
     cases hx with|ptr hι=>
     rename_i rb s m
     have hb:=fun w=>bounds_sound (P:=P) (isSlice:=false) hh hl hhi hlo (Nat.le_refl _) w
     obtain⟨h1,h2⟩:=(hb default).2
     refine⟨.slice (some ⟨rb,s+(if n=l then o else o+l*sz),none⟩) (k-l) (n-l),.slice hι (by omega) rfl,fun w=>?_⟩
     simp only[Instr.sliceAt,Sem.run_bind,run_underlying hu,Result.andThen_ok,Instr.sureAddr,Sem.run_pure,(hb w).1,run_sizeOf' hs]
     split
     ·rfl
     ·simp[add_at,Nat.add_assoc]
 ·cases h
theorem slice3_sound {t:TypeId} {x v lo hi mx:NVal} (h:nslice3 P t x lo hi mx=some v) {rx rlo rhi rmx:Value} (hx:VR ι x rx) (hlo:VR ι lo rlo) (hhi:VR ι hi rhi) (hmx:VR ι mx rmx):
  ∃rv,VR ι v rv∧∀w,(Instr.sliceAt t rx (some rlo) (some rhi) (some rmx)).run P w=.ok rv w:=by
 unfold nslice3 at h
 split at h
 ·rename_i e b o len cap xx k1 l k2 hh k3 m hu
  cases hs:szOf P e with
  |none=>rw[hs] at h;cases h
  |some sz=>
   rw[hs] at h;simp only at h
   split at h
   ·rename_i hc
    obtain⟨c0,c1,c2,c3,c4⟩:=hc
    cases h
    have el:=hlo.int_inv;subst el
    have eh:=hhi.int_inv;subst eh
    have em:=hmx.int_inv;subst em
    have bd:∀(k:IntKind) (i:Int) (y rc:Nat) (z:BoundsCode),0≤i→i≤(y:Int)→y≤rc→∀w,(Instr.sliceBound (.int k i) rc z).run P w=.ok i.toNat w:=fun k i y rc z i0 i1 hy w=>
     (bound_sound (P:=P) (y:=y) (u:=.int k i) (k:=i.toNat) (ι:=ι) (show nbound y (some (.int k i)) 0=some i.toNat by simp only[nbound];rw[if_pos ⟨i0,i1⟩]) (.int k i) hy z w).1
    have run:∀{a' rcap},rx=.slice (some a') len rcap→max cap len≤rcap→
      ∀w,(Instr.sliceAt t rx (some (.int k1 l)) (some (.int k2 hh)) (some (.int k3 m))).run P w=.ok (.slice (if m.toNat=l.toNat then some a' else some (a'.add (l.toNat*sz))) (hh.toNat-l.toNat) (m.toNat-l.toNat)) w:=by
     intro a' rcap hrx hcap w
     subst hrx
     have b1:=fun z=>bd k3 m (max cap len) rcap z (by omega) c3 hcap w
     have b2:=fun z=>bd k2 hh m.toNat m.toNat z (by omega) (by omega) (Nat.le_refl _) w
     have b3:=fun z=>bd k1 l hh.toNat hh.toNat z (by omega) (by omega) (Nat.le_refl _) w
     simp[Instr.sliceAt,Instr.slice,Instr.sliceBounds,run_underlying hu,run_sizeOf' hs,b1,b2,b3]
    have fin:∀{rb s mm:Nat},ι b=some (rb,s,mm)→VR ι (.slice (some (b,if m=l then o else o+l.toNat*sz)) (hh-l).toNat (m-l).toNat none) (.slice (if m.toNat=l.toNat then some ⟨rb,s+o,none⟩ else some ((⟨rb,s+o,none⟩:Addr).add (l.toNat*sz))) (hh.toNat-l.toNat) (m.toNat-l.toNat)):=by
     intro rb s mm hι
     have e1:(if m.toNat=l.toNat then some ⟨rb,s+o,none⟩ else some ((⟨rb,s+o,none⟩:Addr).add (l.toNat*sz)))=some ⟨rb,s+(if m=l then o else o+l.toNat*sz),none⟩:=by
      by_cases q:m=l
      ·subst q;simp
      ·rw[if_neg (by omega),if_neg q,add_at,Nat.add_assoc]
     rw[e1,show(hh-l).toNat=hh.toNat-l.toNat by omega,show(m-l).toNat=m.toNat-l.toNat by omega]
     exact .slice hι (by omega) rfl
    cases hx with
    |slice hι hl hcc=>subst hcc;exact⟨_,fin hι,run rfl (by omega)⟩
    |sliceMore hι hl hcc hm=>exact⟨_,fin hι,run rfl (by omega)⟩
    |sliceEmpty=>simp at c4
   ·cases h
 ·cases h
end Go.Proofs.YtkjpldganajkkaaGreatDoor.NICE
namespace Go.Proofs.YtkjpldganajkkaaGreatDoor.NICE
open Go Go.RowKit
variable {P:Program} {ι:Inj}
theorem VR.ptr_inv {b o:Nat} {r:Value} (h:VR ι (.ptr (some (b,o))) r):∃rb s m,ι b=some (rb,s,m)∧r=.pointer (some ⟨rb,s+o,none⟩):=by
 cases h with|ptr hh=>exact⟨_,_,_,hh,rfl⟩
theorem indexAddr_sound {t:TypeId} {x ix v:NVal} (h:nindexAddr P t x ix=some v) {rx rix:Value} (hx:VR ι x rx) (hi:VR ι ix rix):
  ∃rv,VR ι v rv∧∀w,(Instr.indexAt t rx rix).run P w=.ok rv w:=by
 unfold nindexAddr at h
 split at h
 ·rename_i k i
  have:=hi.int_inv;subst this
  split at h
  ·rename_i e b o len c xx hu
   cases hs:szOf P e with
   |none=>rw[hs] at h;cases h
   |some sz=>
    rw[hs] at h;simp only at h
    split at h
    ·rename_i hb;cases h
     have go:∀{rb s m rcap},ι b=some (rb,s,m)→∃rv,VR ι (.ptr (some (b,o+i.toNat*sz))) rv∧∀w,(Instr.indexAt t (.slice (some ⟨rb,s+o,none⟩) len rcap) (.int k i)).run P w=.ok rv w:=by
      intro rb s m rcap hι
      refine⟨.pointer (some ⟨rb,s+(o+i.toNat*sz),none⟩),.ptr hι,fun w=>?_⟩
      simp[Instr.indexAt,asIntOf,run_underlying hu,hb.1,hb.2,run_sizeOf' hs,add_at,Nat.add_assoc]
     cases hx with
     |slice hι=>exact go hι
     |sliceMore hι=>exact go hι
     |sliceEmpty=>exact absurd hb.2 (by have:=hb.1;simp;omega)
    ·cases h
  ·rename_i n e b o hu
   cases hs:szOf P e with
   |none=>rw[hs] at h;cases h
   |some sz=>
    rw[hs] at h;simp only at h
    split at h
    ·rename_i hb;cases h
     obtain⟨rb,s,m,hι,rfl⟩:=hx.ptr_inv
     refine⟨.pointer (some ⟨rb,s+(o+i.toNat*sz),none⟩),.ptr hι,fun w=>?_⟩
     simp[Instr.indexAt,Instr.sureAddr,asIntOf,run_underlying hu,hb.1,hb.2,run_sizeOf' hs,add_at,Nat.add_assoc]
    ·cases h
  ·cases h
 ·cases h
theorem index_sound {t:TypeId} {x ix v:NVal} (h:nindex P t x ix=some v) {rx rix:Value} (hx:VR ι x rx) (hi:VR ι ix rix):
  ∃rv,VR ι v rv∧∀w,(Instr.index t rx rix).run P w=.ok rv w:=by
 unfold nindex at h
 split at h
 ·rename_i k i
  have:=hi.int_inv;subst this
  split at h
  ·rename_i s hu
   obtain⟨b,rfl,rfl⟩:=hx.str_inv
   split at h
   ·rename_i h0
    cases hb:b.data.toList[i.toNat]? with
    |none=>rw[hb] at h;cases h
    |some c=>
     rw[hb] at h;cases h
     refine⟨_,.int _ _,fun w=>?_⟩
     have hb':b[i.toNat]? =some c:=by
      rw[Array.getElem?_toList] at hb
      have hlt:i.toNat<b.data.size:=(Array.getElem?_eq_some_iff.1 hb).1
      have hlt':i.toNat<b.size:=hlt
      rw[getElem?_pos b i.toNat hlt']
      rw[getElem?_pos b.data i.toNat hlt] at hb
      exact hb
     simp[Instr.index,asIntOf,run_underlying hu,h0,hb']
   ·cases h
  ·rename_i n e cs hu
   obtain⟨ds,rfl,hds⟩:=hx.agg_inv
   cases hs:szOf P e with
   |none=>rw[hs] at h;cases h
   |some sz=>
    rw[hs] at h;simp only at h
    split at h
    ·rename_i hb
     obtain⟨rv,h1,h2⟩:=part_sound h hds
     exact⟨rv,h1,fun w=>by simp[Instr.index,asIntOf,run_underlying hu,hb.1,hb.2,run_sizeOf' hs,h2]⟩
    ·cases h
  ·cases h
 ·cases h
theorem fieldAddr_sound {s:TypeId} {x v:NVal} {f:Nat} (h:nfieldAddr P s x f=some v) {rx:Value} (hx:VR ι x rx):
  ∃rv,VR ι v rv∧∀w,(Instr.fieldAt s rx f).run P w=.ok rv w:=by
 unfold nfieldAddr at h
 split at h
 ·rename_i fs b o hu
  cases hf:fs[f]? with
  |none=>rw[hf] at h;cases h
  |some fd=>cases hs:szOf P fd.type with
   |none=>rw[hf] at h;simp only at h;rw[hs] at h;cases h
   |some n=>
    rw[hf] at h;simp only at h;rw[hs] at h;simp only at h
    split at h
    ·cases h
    ·rename_i hn;cases h
     obtain⟨rb,st,m,hι,rfl⟩:=hx.ptr_inv
     refine⟨.pointer (some ⟨rb,st+(o+fd.offset),none⟩),.ptr hι,fun w=>?_⟩
     simp[Instr.fieldAt,run_underlying hu,hf,Instr.sureAddr,fieldPlace,run_sizeOf' hs,hn,add_at,Nat.add_assoc]
 ·cases h
theorem field_sound {t:TypeId} {x v:NVal} {f:Nat} (h:nfield P t x f=some v) {rx:Value} (hx:VR ι x rx):
  ∃rv,VR ι v rv∧∀w,(Instr.field t rx f).run P w=.ok rv w:=by
 unfold nfield at h
 split at h
 ·rename_i fs cs hu
  obtain⟨ds,rfl,hds⟩:=hx.agg_inv
  cases hf:fs[f]? with
  |none=>rw[hf] at h;cases h
  |some fd=>
   rw[hf] at h;simp only at h
   obtain⟨rv,h1,h2⟩:=part_sound h hds
   exact⟨rv,h1,fun w=>by simp[Instr.field,run_underlying hu,hf,asAgg,h2]⟩
 ·cases h
theorem foldl_setRange (ds:Array Value) (off:Nat):∀(vs:List Value) (k:Nat),off+k+vs.length≤ds.size→
  ((vs.zipIdx k).foldl (fun(cs:Array Value) (p:Value×Nat)=>cs.setIfInBounds (off+p.2) p.1) ds).toList=ds.toList.take (off+k)++vs++ds.toList.drop (off+k+vs.length)
 |[],k,h=>by simp
 |v::vs,k,h=>by
  simp only[List.zipIdx_cons,List.foldl_cons]
  have ih:=foldl_setRange (ds.setIfInBounds (off+k) v) off vs (k+1) (by simp at h⊢;omega)
  rw[ih]
  have:=list_seg_step ds.toList (off+k) v vs (by simp at h⊢;omega)
  simpa[Array.toList_setIfInBounds,Nat.add_assoc] using this
theorem setRange_sound {cs vs:List NVal} {ds us:List Value} {off:Nat} (hd:VRs ι cs ds) (hu:VRs ι vs us):VRs ι (setRange cs off vs) (ds.take off++us++ds.drop (off+us.length)):=by
 unfold setRange
 rw[hu.length]
 exact(hd.take.append hu).append hd.drop
theorem fill_sound {place:Nat→Option (Nat×Nat)}:∀{ps:List (Nat×NVal)} {rps:List (Nat×Value)} {cs cs':List NVal} {ds:Array Value},
  nfill place cs ps=some cs'→VRs ι cs ds.toList→All2 (fun a b=>a.1=b.1∧VR ι a.2 b.2) ps rps→∃ds':Array Value,Instr.fill place ds rps=some ds'∧VRs ι cs' ds'.toList
 |[],rps,cs,cs',ds,h,hd,hp=>by
  cases hp;simp only[nfill] at h;cases h;exact⟨ds,rfl,hd⟩
 |(i,v)::ps,rps,cs,cs',ds,h,hd,hp=>by
  cases hp with
  |cons hv hrest=>
   rename_i rp rps
   obtain⟨ri,rv⟩:=rp
   obtain⟨rfl,hv⟩:=hv
   unfold nfill at h
   cases hpl:place i with
   |none=>rw[hpl] at h;cases h
   |some p=>
    obtain⟨off,size⟩:=p
    rw[hpl] at h;simp only at h
    split at h
    ·cases h
    ·rename_i hsz
     have hc:=hv.cells
     have hlen:v.cells.length=rv.cells.size:=by simpa using hc.length
     have hdl:cs.length=ds.size:=by simpa using hd.length
     have hfold:=foldl_setRange ds off rv.cells.toList 0 (by simp only[Array.length_toList];omega)
     obtain⟨ds',h1,h2⟩:=fill_sound (ds:=(rv.cells.zipIdx.foldl (fun cs (c,j)=>cs.setIfInBounds (off+j) c) ds)) h (by
      have e:(rv.cells.zipIdx.foldl (fun(cs:Array Value) (p:Value×Nat)=>cs.setIfInBounds (off+p.2) p.1) ds).toList=ds.toList.take off++rv.cells.toList++ds.toList.drop (off+rv.cells.toList.length):=by
       rw[←Array.foldl_toList]
       simpa[Array.toList_zipIdx] using hfold
      show VRs ι _ (rv.cells.zipIdx.foldl (fun(cs:Array Value) (p:Value×Nat)=>cs.setIfInBounds (off+p.2) p.1) ds).toList
      rw[e];exact setRange_sound hd hc) hrest
     refine⟨ds',?_,h2⟩
     unfold Instr.fill
     rw[hpl];simp only
     rw[if_neg (by
      rw[Bool.or_eq_true,decide_eq_true_iff,decide_eq_true_iff]
      omega)]
     exact h1
theorem fieldPlaces_sound:∀{l:List Field} {ps:List (Nat×Nat)},fieldPlaces P l=some ps→∀w,(l.mapM (m:=Sem) fun(f:Field)=>do pure (f.offset,←sizeOf f.type)).run P w=.ok ps w
 |[],ps,h=>by intro w;simp only[fieldPlaces] at h;cases h;simp
 |f::l,ps,h=>by
  intro w
  unfold fieldPlaces at h
  cases hs:szOf P f.type with
  |none=>rw[hs] at h;cases h
  |some n=>cases hr:fieldPlaces P l with
   |none=>rw[hs,hr] at h;cases h
   |some r=>
    rw[hs,hr] at h;cases h
    have ih:=fieldPlaces_sound hr w
    simp only[List.mapM_cons,Sem.run_bind,run_sizeOf' hs,Result.andThen_ok,Sem.run_pure,ih]
theorem run_zeroValue' {t:TypeId} {i:TypeInfo} {z:Value} (hi:P.info? t=some i) (hz:i.zero=some z) (w:World):(zeroValue t).run P w=.ok z w:=by
 simp[zeroValue,typeInfo,hi,hz]
theorem build_sound {t:TypeId} {ps:List (Nat×NVal)} {v:NVal} (h:nbuild P t ps=some v) {rps:Array (Nat×Value)} (hp:All2 (fun a b=>a.1=b.1∧VR ι a.2 b.2) ps rps.toList):
  ∃rv,VR ι v rv∧∀w,(Instr.build t rps).run P w=.ok rv w:=by
 unfold nbuild at h
 cases hz:zeroOf P t with
 |none=>rw[hz] at h;cases h
 |some z=>
  rw[hz] at h;simp only at h
  obtain⟨i,rz,hi,hzz,hzr⟩:=zeroOf_sound (ι:=ι) hz
  have hzc:=hzr.cells
  split at h
  ·rename_i fs hu
   cases hf:fieldPlaces P fs.toList with
   |none=>rw[hf] at h;cases h
   |some pl=>cases hn:nfill (fun i=>pl[i]?) z.cells ps with
    |none=>rw[hf] at h;simp only at h;rw[hn] at h;cases h
    |some cs=>
     rw[hf] at h;simp only at h;rw[hn] at h;cases h
     obtain⟨ds',h1,h2⟩:=fill_sound hn hzc hp
     refine⟨.agg ds',.agg' h2,fun w=>?_⟩
     have hm:(fs.mapM (m:=Sem) fun(f:Field)=>do pure (f.offset,←sizeOf f.type)).run P w=.ok pl.toArray w:=by
      have:=fieldPlaces_sound hf w
      simp only[Array.mapM_eq_mapM_toList,Sem.run_map,this,Result.andThen_ok]
     simp only[Instr.build,Sem.run_bind,run_zeroValue' hi hzz,Result.andThen_ok,run_underlying hu,hm]
     simp[h1]
  ·rename_i n e hu
   cases hs:szOf P e with
   |none=>rw[hs] at h;cases h
   |some sz=>cases hn:nfill (fun i=>some (i*sz,sz)) z.cells ps with
    |none=>rw[hs] at h;simp only at h;rw[hn] at h;cases h
    |some cs=>
     rw[hs] at h;simp only at h;rw[hn] at h;cases h
     obtain⟨ds',h1,h2⟩:=fill_sound hn hzc hp
     exact⟨.agg ds',.agg' h2,fun w=>by simp[Instr.build,run_zeroValue' hi hzz,run_underlying hu,run_sizeOf' hs,h1]⟩
  ·cases h
end Go.Proofs.YtkjpldganajkkaaGreatDoor.NICE
