/- The engine of this claim's walks: what a piece of Go code owes, as one proposition over plain values and the world, and a proof that this is enough. -/
import Derived.OrdersHeld
import Derived.WalkKit
import Derived.RowKit3
import Derived.Laws.StructEq
import Derived.KernelRfl
set_option linter.unusedVariables false
set_option linter.unusedSimpArgs false
namespace Go.Proofs.YtijbcdiffjjefaaGreatDoor.Eng
theorem XQ {p:Prop} [Decidable p] (h:decide p=true):p:=of_decide_eq_true h
theorem XX {p:Prop} [Decidable p] (h:decide p=false):¬p:=of_decide_eq_false h
theorem XZ {p:Prop} [Decidable p] (h:¬p):decide p=false:=decide_eq_false h
theorem XJ {p:Prop} [Decidable p] (h:p):decide p=true:=decide_eq_true h
theorem XK {α:Type _} {l:List α} {i:Nat} (h:i<l.length):l[i]? =some l[i]:=List.getElem?_eq_getElem h
theorem XY {α:Type _} {xs:Array α} {i:Nat} {b:α}:xs[i]? =some b↔∃h:i<xs.size,xs[i]=b:=Array.getElem?_eq_some_iff
theorem XW {n m k:Nat} (h:n≤m) (g:m≤k):n≤k:=Nat.le_trans h g
theorem XV (n:Nat):n≤n:=Nat.le_refl n
open Go
inductive jS where
 |int (k:IntKind) |bool |str |ptr |slice |map |any
inductive Sh where
 |leaf (l:jS) |agg (ls:List jS)
inductive Rs where
 |one (s:Sh) |tup (ss:List Sh)
def KC:jS→(Value→Prop)→Prop
 | .int k,F=>∃n:Int,F (.int k n)
 | .bool,F=>∃b:Bool,F (.bool b)
 | .str,F=>∃s:ByteArray,F (.string s)
 | .ptr,F=>∃p:Option Addr,F (.pointer p)
 | .slice,F=>∃(a:Option Addr) (n c:Nat),F (.slice a n c)
 | .map,F=>∃r:Option Nat,F (.map r)
 | .any,F=>∃v:Value,F v
def Fu:List jS→(List Value→Prop)→Prop
 | [],F=>F []
 |l::r,F=>KC l fun v=>Fu r fun vs=>F (v::vs)
def Oa:Sh→(Value→Prop)→Prop
 | .leaf l,F=>KC l F
 | .agg ls,F=>Fu ls fun vs=>F (.agg vs.toArray)
def I3:List Sh→(List Value→Prop)→Prop
 | [],F=>F []
 |s::r,F=>Oa s fun v=>I3 r fun vs=>F (v::vs)
def Sx:Rs→(Value→Prop)→Prop
 | .one s,F=>Oa s F
 | .tup ss,F=>I3 ss fun vs=>F (.tuple vs.toArray)
theorem lV {l:jS} {F:Value→Prop} (h:KC l F):∃v,F v:=by
 cases l<;>simp only [KC]at h
 case slice=>obtain⟨a,n,c,h⟩:=h;exact⟨_,h⟩
 all_goals (obtain⟨x,h⟩:=h;exact⟨_,h⟩)
theorem lj:∀ {ls:List jS} {F:List Value→Prop},Fu ls F→∃vs,vs.length=ls.length∧F vs
 | [],_,h=>⟨[],rfl,h⟩
 |_::_,_,h=>by
  obtain⟨v,h⟩:=lV h;obtain⟨vs,hl,h⟩:=lj h;exact⟨_,by simp [hl],h⟩
theorem KF {ls:List jS} {F:List Value→Prop} (h:Fu ls F):∃vs,F vs:=by
 obtain⟨vs,_,h⟩:=lj h;exact⟨vs,h⟩
theorem Bh {s:Sh} {F:Value→Prop} (h:Oa s F):∃v,F v:=by
 cases s with
 |leaf l=>exact lV h
 |agg ls=>obtain⟨a,h⟩:=KF h;exact⟨_,h⟩
theorem u0:∀ {ss:List Sh} {F:List Value→Prop},I3 ss F→∃vs,F vs
 | [],_,h=>⟨[],h⟩
 |_::_,_,h=>by
  obtain⟨v,h⟩:=Bh h;obtain⟨vs,h⟩:=u0 h;exact⟨_,h⟩
theorem xh {r:Rs} {F:Value→Prop} (h:Sx r F):∃v,F v:=by
 cases r with
 |one s=>exact Bh h
 |tup ss=>obtain⟨a,h⟩:=u0 h;exact⟨_,h⟩
def K3:jS→(Value→Prop)→Prop
 | .int k,F=>∀n:Int,F (.int k n)
 | .bool,F=>∀b:Bool,F (.bool b)
 | .str,F=>∀s:ByteArray,F (.string s)
 | .ptr,F=>∀p:Option Addr,F (.pointer p)
 | .slice,F=>∀(a:Option Addr) (n c:Nat),F (.slice a n c)
 | .map,F=>∀r:Option Nat,F (.map r)
 | .any,F=>∀v:Value,F v
def Ik:List jS→(List Value→Prop)→Prop
 | [],F=>F []
 |l::r,F=>K3 l fun v=>Ik r fun vs=>F (v::vs)
def M7:Sh→(Value→Prop)→Prop
 | .leaf l,F=>K3 l F
 | .agg ls,F=>Ik ls fun vs=>F (.agg vs.toArray)
def xE:List Sh→(List Value→Prop)→Prop
 | [],F=>F []
 |s::r,F=>M7 s fun v=>xE r fun vs=>F (v::vs)
def H_:Value→jS
 | .int k _=>.int k
 | .bool _=>.bool
 | .string _=>.str
 | .pointer _=>.ptr
 | .slice .. =>.slice
 | .map _=>.map
 |_=>.any
def S8:Value→Sh
 | .agg cs=>.agg (cs.toList.map H_)
 |v=>.leaf (H_ v)
def Mj:jS→Value→Prop
 | .int k,v=>∃n:Int,v= .int k n
 | .bool,v=>∃b:Bool,v= .bool b
 | .str,v=>∃s:ByteArray,v= .string s
 | .ptr,v=>∃p:Option Addr,v= .pointer p
 | .slice,v=>∃(a:Option Addr) (n c:Nat),v= .slice a n c
 | .map,v=>∃r:Option Nat,v= .map r
 | .any,_=>True
def LI:List jS→List Value→Prop
 | [],vs=>vs= []
 |l::r,vs=>∃v t,vs=v::t∧Mj l v∧LI r t
def N7:Sh→Value→Prop
 | .leaf l,v=>Mj l v
 | .agg ls,v=>∃vs:List Value,v= .agg vs.toArray∧LI ls vs
def qG:List Sh→List Value→Prop
 | [],vs=>vs= []
 |s::r,vs=>∃v t,vs=v::t∧N7 s v∧qG r t
theorem FV {l:jS} {F:Value→Prop} (h:∀v,Mj l v→F v):K3 l F:=by
 cases l<;>simp only [K3]
 case slice=>exact fun a n c=>h _ ⟨a,n,c,rfl⟩
 case any=>exact fun v=>h v trivial
 all_goals exact fun x=>h _ ⟨x,rfl⟩
theorem zj:∀ {ls:List jS} {F:List Value→Prop},(∀vs,LI ls vs→F vs)→Ik ls F
 | [],_,h=>h [] rfl
 |_::_,_,h=>FV fun v hv=>zj fun vs hvs=>h _ ⟨v,vs,rfl,hv,hvs⟩
theorem Id {s:Sh} {F:Value→Prop} (h:∀v,N7 s v→F v):M7 s F:=by
 cases s with
 |leaf l=>exact FV h
 |agg ls=>exact zj fun b a=>h _ ⟨b,rfl,a⟩
theorem lZ:∀ {ss:List Sh} {F:List Value→Prop},(∀vs,qG ss vs→F vs)→xE ss F
 | [],_,h=>h [] rfl
 |_::_,_,h=>Id fun v hv=>lZ fun vs hvs=>h _ ⟨v,vs,rfl,hv,hvs⟩
def LD:jS→Value→Bool
 | .int k,.int k' _=>k==k'
 | .bool,.bool _=>true
 | .str,.string _=>true
 | .ptr,.pointer _=>true
 | .slice,.slice .. =>true
 | .map,.map _=>true
 | .any,_=>true
 |_,_=>false
def vn:List jS→List Value→Bool
 | [],[]=>true
 |l::r,v::t=>LD l v&&vn r t
 |_,_=>false
def IZ:Sh→Value→Bool
 | .leaf l,v=>LD l v
 | .agg ls,.agg cs=>vn ls cs.toList
 |_,_=>false
def pS:List Sh→List Value→Bool
 | [],[]=>true
 |s::r,v::t=>IZ s v&&pS r t
 |_,_=>false
theorem IY {l:jS} {v:Value} (h:LD l v=true):Mj l v:=by
 cases l<;>cases v<;>simp_all [LD,Mj]
theorem FT:∀ {ls:List jS} {vs:List Value},vn ls vs=true→LI ls vs
 | [],[],_=>rfl
 | [],_::_,h=>by simp [vn]at h
 |_::_,[],h=>by simp [vn]at h
 |_::_,v::t,h=>by
  simp only [vn,Bool.and_eq_true]at h;exact⟨v,t,rfl,IY h.1,FT h.2⟩
theorem Lb {s:Sh} {v:Value} (h:IZ s v=true):N7 s v:=by
 cases s with
 |leaf l=>exact IY h
 |agg ls=>
  cases v<;>simp only [IZ,Bool.false_eq_true]at h
  rename_i a;exact⟨a.toList,by simp,FT h⟩
theorem Ct:∀ {ss:List Sh} {vs:List Value},pS ss vs=true→qG ss vs
 | [],[],_=>rfl
 | [],_::_,h=>by simp [pS]at h
 |_::_,[],h=>by simp [pS]at h
 |_::_,v::t,h=>by
  simp only [pS,Bool.and_eq_true]at h;exact⟨v,t,rfl,Lb h.1,Ct h.2⟩
theorem Oo {l:jS} {F:Value→Prop} (h:KC l F):∃v,Mj l v∧F v:=by
 cases l<;>simp only [KC]at h
 case slice=>obtain⟨a,n,c,h⟩:=h;exact⟨_,⟨a,n,c,rfl⟩,h⟩
 case any=>obtain⟨x,h⟩:=h;exact⟨_,trivial,h⟩
 all_goals (obtain⟨x,h⟩:=h;exact⟨_,⟨x,rfl⟩,h⟩)
theorem NV {l:jS} {F:Value→Prop} {v:Value} (hv:Mj l v) (h:F v):KC l F:=by
 cases l<;>simp only [Mj]at hv
 case slice=>obtain⟨a,n,c,rfl⟩:=hv;exact⟨a,n,c,h⟩
 case any=>exact⟨v,h⟩
 all_goals (obtain⟨x,rfl⟩:=hv;exact⟨x,h⟩)
abbrev dl:=List (Nat×Value)
def dl.get:dl→Nat→Option Value
 | [],_=>none
 |(u,v)::r,t=>match Nat.beq u t with
  |true=>some v
  |false=>dl.get r t
def dl.put (e:dl) (d:Option Nat) (v:Value):dl:=match d with
 |none=>e
 |some d=>(d,v)::e
def ev (e:dl):Operand→Option Value
 | .tmp t=>e.get t
 | .const v=>some v
 | .global g=>some (.pointer (some ⟨g,0,none⟩))
 | .func f=>some (.func (.func f) #[] #[])
def KJ (e:dl):List Operand→Option (List Value)
 | []=>some []
 |x::r=>match ev e x with
  |none=>none
  |some v=>match KJ e r with
   |none=>none
   |some vs=>some (v::vs)
structure Sim (n:Nat) (a:Act) (e:dl):Prop where
 size:a.tmps.size=n
 defers:a.defers= []
 get:∀t v,e.get t=some v→a.tmps[t]? =some v
theorem Sim.ev {n:Nat} {a:Act} {e:dl} (h:Sim n a e) {x:Operand} {v:Value} (hx:Eng.ev e x=some v):a.eval x=v:=by
 cases x with
 |tmp t=>
  have:=h.get t v hx;simp only [Act.eval,Array.getD_eq_getD_getElem?,this,Option.getD_some]
 |const c=>simpa [Eng.ev,Act.eval]using hx
 |global g=>simpa [Eng.ev,Act.eval]using hx
 |func f=>simpa [Eng.ev,Act.eval]using hx
theorem Sim.evs {n:Nat} {a:Act} {e:dl} (h:Sim n a e):∀ {l:List Operand} {vs:List Value},Eng.KJ e l=some vs→l.map a.eval=vs
 | [],vs,hx=>by simp [Eng.KJ]at hx;simp [hx]
 |x::r,vs,hx=>by
  simp only [Eng.KJ]at hx;split at hx
  ·cases hx
  ·rename_i v hv;split at hx
   ·cases hx
   ·rename_i t ht;cases hx;simp [h.ev hv,h.evs ht]
theorem Sim.put {n:Nat} {a:Act} {e:dl} (h:Sim n a e) (d:Option Nat) (v:Value) (hd:∀t,d=some t→t<n):Sim n (a.put d v) (e.put d v):=by
 cases d with
 |none=>exact h
 |some d=>
  have f:=hd d rfl;refine⟨by simp [Act.put,h.size],h.defers,fun t u b=>?_⟩;simp only [dl.put,dl.get]at b;split at b
  ·rename_i c;have:d=t:=Nat.eq_of_beq_eq_true c;subst this;cases b;simp [Act.put,h.size,f]
  ·rename_i g;have:d≠t:=Nat.ne_of_beq_eq_false g;have:=h.get t u b;simp [Act.put,Array.getElem?_setIfInBounds_ne, *]
abbrev nb (w:World):Addr:=⟨w.heap.size,0,none⟩
def ac (b:Bool) (p q:Prop):Prop:=match b with
 |true=>p
 |false=>q
theorem ac.mk {b:Bool} {p q:Prop} (h:b=true→p) (k:b=false→q):ac b p q:=by
 cases b
 ·exact k rfl
 ·exact h rfl
theorem ac.yes {b:Bool} {p q:Prop} (hb:b=true) (h:p):ac b p q:=by subst hb;exact h
theorem ac.no {b:Bool} {p q:Prop} (hb:b=false) (h:q):ac b p q:=by subst hb;exact h
def ag (p:Option Addr) (k:Addr→Prop):Prop:=match p with
 |some a=>k a
 |none=>False
theorem ag.mk {p:Option Addr} {k:Addr→Prop} (a:Addr) (h:p=some a) (hk:k a):ag p k:=by subst h;exact hk
def Ar (k:IntKind) (z:Int) (F:Int→Prop):Prop:=F (k.wrap z)
def dM (s:ByteArray) (i:Int):Int:=((s.data[i.toNat]?).map (fun b=>(b.toNat:Int))).getD 0
def fY (w:World) (a:Addr):List Value→Nat→Prop
 | [],_=>True
 |v::r,i=>w.cell? (a.add i)=some v∧fY w a r (i+1)
def aI (w:World) (a:Addr) (k:World→Prop):List Value→Nat→Prop
 | [],_=>∀w',w'=w→k w'
 |v::r,i=>v.oneCell'=true∧(∃u,w.cell? (a.add i)=some u)∧w.frozen? (a.add i)=false∧aI (w.setCell (a.add i) v) a k r (i+1)
inductive K5 where
 |i
 |s
 |b
def SM:K5→Value→Value→Option Bool
 | .i,.int k a,.int k' b=>match k==k' with
  |true=>some (a==b)
  |false=>none
 | .s,.string a,.string b=>some (a.toList==b.toList)
 | .b,.bool a,.bool b=>some (a==b)
 |_,_,_=>none
def KX:List K5→List Value→List Value→Option Bool
 | [],[],[]=>some true
 |k::l,x::xs,y::ys=>match SM k x y,KX l xs ys with
  |some b,some c=>some (b&&c)
  |_,_=>none
 |_,_,_=>none
def yG (P:Program) (t:TypeId):K5→Bool
 | .i=>match P.underlying t with
  |some (.int _)=>true
  |_=>false
 | .s=>match P.underlying t with
  |some .string=>true
  |_=>false
 | .b=>match P.underlying t with
  |some .bool=>true
  |_=>false
def HN (P:Program):List Field→Nat→List K5→Bool
 | [],_,[]=>true
 |f::fs,k,e::l=>decide (f.name≠ "_")&&(Nat.beq f.offset k&&(yG P f.type e&&HN P fs (k+1) l))
 |_,_,_=>false
def tM (P:Program) (t:TypeId) (l:List K5):Bool:=(match P.underlying t with
 |some (.struct _)=>true
 |_=>false)&&(!P.stoodInHeld t&&(!P.eqGuardType P.depth t&&HN P (P.fieldsOf t).toList 0 l))
structure TI where
 size:Option Nat:=none
 agg:Option Bool:=none
 rs:Option Rs:=none
 zero:Option Value:=none
 offs:Option (List (Nat×Nat×Bool)):=none
 arr:Option (Nat×Nat):=none
 slc:Option (Nat×Nat):=none
 elemSh:Option Sh:=none
 isStr:Bool:=false
 intk:Option IntKind:=none
 conc:Bool:=false
 isPtr:Bool:=false
 isSlc:Bool:=false
 isMap:Bool:=false
 isBool:Bool:=false
 eqs:Option (List K5):=none
def ii:TypeDesc→Bool
 | .struct _ | .array _ _=>true
 |_=>false
structure aY (P:Program) (t:TypeId) (i:TI):Prop where
 size:∀n,i.size=some n→(P.info? t).map (·.size)=some n:=by first |exact jI rfl |exact ak 1 rfl (by kernel_rfl)
 agg:∀b,i.agg=some b→(P.underlying t).map ii=some b:=by first |exact jI rfl |exact ak false rfl (by kernel_rfl)
 zero:∀v,i.zero=some v→(P.info? t).map (·.zero)=some (some v):=by exact jI rfl
 offs:∀l,i.offs=some l→∃fs,P.underlying t=some (.struct fs)∧fs.toList.map (fun f=>(f.offset,(P.info? f.type).map (·.size),(P.underlying f.type).map ii))=l.map (fun x=>(x.1,some (x.2.1+1),some x.2.2)):=by exact jI rfl
 arr:∀n s,i.arr=some (n,s)→∃e,P.underlying t=some (.array n e)∧(P.info? e).map (·.size)=some s:=by exact vB rfl
 slc:∀e s,i.slc=some (e,s)→P.underlying t=some (.slice e)∧(P.info? e).map (·.size)=some s:=by exact vB rfl
 isStr:i.isStr=true→P.underlying t=some .string:=by exact pU rfl
 intk:∀k,i.intk=some k→P.underlying t=some (.int k):=by exact jI rfl
 conc:i.conc=true→∃d,P.underlying t=some d∧∀ms,d≠ .interface ms:=by exact pU rfl
 isPtr:i.isPtr=true→∃e,P.underlying t=some (.pointer e):=by exact pU rfl
 isSlc:i.isSlc=true→∃e,P.underlying t=some (.slice e):=by exact pU rfl
 isMap:i.isMap=true→∃k e,P.underlying t=some (.map k e):=by exact pU rfl
 isBool:i.isBool=true→P.underlying t=some .bool:=by exact pU rfl
 eqs:∀l,i.eqs=some l→tM P t l=true:=by exact jI rfl
theorem aY.nothing (P:Program) (t:TypeId):aY P t {}:=by
 constructor<;>intros<;>simp_all
theorem ak {α:Type} {o:Option α} {p:α→Prop} (a:α) (ho:o=some a) (hp:p a):∀x,o=some x→p x:=by
 intro x h;rw [ho]at h;cases h;exact hp
theorem jI {α:Type} {o:Option α} {p:α→Prop} (ho:o=none):∀x,o=some x→p x:=by
 intro x h;rw [ho]at h;cases h
theorem ce {α β:Type} {o:Option (α×β)} {p:α→β→Prop} (a:α) (b:β) (ho:o=some (a,b)) (hp:p a b):∀x y,o=some (x,y)→p x y:=by
 intro x y h;rw [ho]at h;cases h;exact hp
theorem vB {α β:Type} {o:Option (α×β)} {p:α→β→Prop} (ho:o=none):∀x y,o=some (x,y)→p x y:=by
 intro x y h;rw [ho]at h;cases h
theorem av {b:Bool} {p:Prop} (hp:p):b=true→p:=fun _=>hp
theorem pU {b:Bool} {p:Prop} (hb:b=false):b=true→p:=by
 intro h;rw [hb]at h;cases h
structure ig where
 P:Program
 tab:List (Nat×TI)
 fns:FuncId→Bool
 re:Bool:=false
def ig.ty (C:ig) (t:TypeId):TI:=match C.tab.lookup t with
 |some i=>i
 |none=>{}
structure ig.Ok (C:ig):Prop where
 ty:∀t,aY C.P t (C.ty t)
 fns:∀f,C.fns f=true→∃fn c,C.P.funcs[f]? =some fn∧(fn.name== "runtime.NumGoroutine")=false∧fn.body=some c
 mixed:C.P.follows .mixedOrders=true
theorem pV {P:Program}:∀p∈([]:List (Nat×TI)),aY P p.1 p.2:=fun _ h=>by cases h
theorem ax {P:Program} {t:Nat} {i:TI} {l:List (Nat×TI)} (h:aY P t i) (r:∀p∈l,aY P p.1 p.2):∀p∈(t,i)::l,aY P p.1 p.2:=by
 intro p a;rcases List.mem_cons.1 a with rfl |a
 ·exact h
 ·exact r p a
theorem tL {P:Program} {l r:List (Nat×TI)} (h:∀p∈l,aY P p.1 p.2) (k:∀p∈r,aY P p.1 p.2):∀p∈l++r,aY P p.1 p.2:=fun p hp=>(List.mem_append.1 hp).elim (h p) (k p)
theorem vE {P:Program}:∀ {tab:List (Nat×TI)},(∀p∈tab,aY P p.1 p.2)→∀t,aY P t (match tab.lookup t with |some i=>i |none=>{})
 | [],_,t=>by simpa using aY.nothing P t
 |(u,i)::r,h,t=>by
  simp only [List.lookup_cons];by_cases hu:t=u
  ·subst hu;simpa using h (t,i) (by simp)
  ·have:(t==u)=false:=by simpa using hu
   simp only [this];exact vE (fun p a=>h p (by simp [a])) t
theorem Im {C:ig} (htab:∀p∈C.tab,aY C.P p.1 p.2) (hf:∀f,C.fns f=true→∃fn c,C.P.funcs[f]? =some fn∧(fn.name== "runtime.NumGoroutine")=false∧fn.body=some c) (hm:C.P.follows .mixedOrders=true):C.Ok:=
 ⟨fun t=>vE htab t,hf,hm⟩
def pg (P:Program) (s:Sem Value) (rs:Option Rs) (w:World) (K:Value→World→Prop):Prop:=match rs with
 |none=>False
 |some r=>Sx r fun v=>∃w',s.run P w= .ok v w'∧K v w'
def LT (P:Program) (s:Sem Unit) (w:World) (K:Value→World→Prop):Prop:=∃w',s.run P w= .ok () w'∧K undef w'
def Df (P:Program) (t:TypeId) (w:World) (p q:Option Addr) (F:Bool→Prop):Prop:=match q with
 |none=>F p.isNone
 |some b=>match p with
  |none=>F false
  |some a=>∃r:Bool,(Op.equalIn (9999+1) t (.pointer (some a)) (.pointer (some b))).run P w= .ok r w∧F r
def H8:Value→Bool
 | .nilIface=>true
 | .nilFunc=>true
 |_=>false
def fr (C:ig) (op:BinOp) (t:TypeId) (cx cy:Operand) (x y:Value) (ot:TypeId) (w:World) (K:Value→World→Prop):Prop:=
 match x,y with
 | .int k a,.int k' b=>match op with
  | .shl=>0≤b∧K (.int k (k.wrap (a*2^(min b.toNat k.bits)))) w
  | .shr=>0≤b∧K (.int k (a.fdiv (2^(min b.toNat k.bits)))) w
  | .add=>match k==k' with |true=>Ar k (a+b) fun n=>K (.int k n) w |false=>False
  | .sub=>match k==k' with |true=>Ar k (a-b) fun n=>K (.int k n) w |false=>False
  | .mul=>match k==k' with |true=>Ar k (a*b) fun n=>K (.int k n) w |false=>False
  | .quo=>match k==k' with |true=>b≠0∧K (.int k (k.wrap (a.tdiv b))) w |false=>False
  | .rem=>match k==k' with |true=>b≠0∧K (.int k (a.tmod b)) w |false=>False
  | .and=>match k==k' with |true=>K (.int k (k.wrap (BitVec.ofInt k.bits a&&&BitVec.ofInt k.bits b).toNat)) w |false=>False
  | .or=>match k==k' with |true=>K (.int k (k.wrap (BitVec.ofInt k.bits a|||BitVec.ofInt k.bits b).toNat)) w |false=>False
  | .xor=>match k==k' with |true=>K (.int k (k.wrap (BitVec.ofInt k.bits a^^^BitVec.ofInt k.bits b).toNat)) w |false=>False
  | .andNot=>match k==k' with |true=>K (.int k (k.wrap (BitVec.ofInt k.bits a&&& ~~~ BitVec.ofInt k.bits b).toNat)) w |false=>False
  | .eql=>match k==k' with |true=>K (.bool (a==b)) w |false=>False
  | .neq=>match k==k' with |true=>K (.bool (a != b)) w |false=>False
  | .lss=>match k==k' with |true=>K (.bool (a<b)) w |false=>False
  | .leq=>match k==k' with |true=>K (.bool (a≤b)) w |false=>False
  | .gtr=>match k==k' with |true=>K (.bool (a>b)) w |false=>False
  | .geq=>match k==k' with |true=>K (.bool (a≥b)) w |false=>False
 | .string a,.string b=>match op with
  | .add=>((a.size+b.size:Nat):Int)≤IntKind.i64.max∧K (.string (a++b)) w
  | .eql=>K (.bool (a.toList==b.toList)) w
  | .neq=>K (.bool (!(a.toList==b.toList))) w
  | .lss=>K (.bool (Op.bytesLess a.toList b.toList)) w
  |_=>False
 | .bool a,.bool b=>match(C.ty t).isBool,op with
  |true,.eql=>K (.bool (a==b)) w
  |true,.neq=>K (.bool (!(a==b))) w
  |_,_=>False
 | .pointer p,.pointer q=>match(C.ty t).isPtr,op with
  |true,.eql=>Df C.P t w p q fun b=>K (.bool b) w
  |true,.neq=>Df C.P t w p q fun b=>K (.bool (!b)) w
  |_,_=>False
 | .slice p _ _,.slice none _ _=>match(C.ty t).isSlc,op with
  |true,.eql=>K (.bool p.isNone) w
  |true,.neq=>K (.bool (!p.isNone)) w
  |_,_=>False
 | .map p,.map none=>match(C.ty t).isMap,op with
  |true,.eql=>K (.bool p.isNone) w
  |true,.neq=>K (.bool (!p.isNone)) w
  |_,_=>False
 | .agg xs,.agg ys=>match(C.ty t).eqs with
  |none=>False
  |some l=>match KX l xs.toList ys.toList,op with
   |some b,.eql=>K (.bool b) w
   |some b,.neq=>K (.bool (!b)) w
   |_,_=>False
 |x,y=>pg C.P (do eqGuard op t cx cy x y;binOp op t x y) (C.ty ot).rs w K
def pF (C:ig) (op:BinOp) (t:TypeId) (cx cy:Operand) (x y:Value) (ot:TypeId) (w:World) (K:Value→World→Prop):Prop:=
 match H8 y with
 |true=>pg C.P (do eqGuard op t cx cy x y;binOp op t x y) (C.ty ot).rs w K
 |false=>fr C op t cx cy x y ot w K
theorem sF {P:Program} {s:Sem Value} {rs:Option Rs} {w:World} {K:Value→World→Prop} (h:pg P s rs w K):∃v w',s.run P w= .ok v w'∧K v w':=by
 unfold pg at h;split at h
 ·exact h.elim
 ·exact xh h
theorem oZ (P:Program) (d:Nat) (t:TypeId) (a b:Bool) (w:World) (h:P.underlying t=some .bool):(Op.equalIn (d+1) t (.bool a) (.bool b)).run P w= .ok (a==b) w:=by
 simp [Op.equalIn,run_underlying h,Result.andThen]
theorem AZ (P:Program) (d:Nat) (t e:TypeId) (p:Option Addr) (w:World) (h:P.underlying t=some (.pointer e)):(Op.equalIn (d+1) t (.pointer p) (.pointer none)).run P w= .ok p.isNone w:=by
 cases p<;>simp [Op.equalIn,run_underlying h,Result.andThen]
theorem qH (P:Program) (d:Nat) (t e:TypeId) (p:Option Addr) (n c n' c':Nat) (w:World) (h:P.underlying t=some (.slice e)):(Op.equalIn (d+1) t (.slice p n c) (.slice none n' c')).run P w= .ok p.isNone w:=by
 cases p<;>simp [Op.equalIn,run_underlying h,Result.andThen]
theorem qj (P:Program) (d:Nat) (t k e:TypeId) (p:Option Nat) (w:World) (h:P.underlying t=some (.map k e)):(Op.equalIn (d+1) t (.map p) (.map none)).run P w= .ok p.isNone w:=by
 cases p<;>simp [Op.equalIn,run_underlying h,Result.andThen]
theorem Fm (P:Program) (d:Nat) (t e:TypeId) (b:Addr) (w:World) (h:P.underlying t=some (.pointer e)):(Op.equalIn (d+1) t (.pointer none) (.pointer (some b))).run P w= .ok false w:=by
 simp [Op.equalIn,run_underlying h,Result.andThen]
theorem vt {P:Program} {t e:TypeId} {w:World} {p q:Option Addr} {F:Bool→Prop} (h:P.underlying t=some (.pointer e)) (hF:Df P t w p q F):
  ∃b,(Op.equalIn (9999+1) t (.pointer p) (.pointer q)).run P w= .ok b w∧F b:=by
 unfold Df at hF;split at hF
 ·exact⟨_,AZ _ _ _ e _ _ h,hF⟩
 ·split at hF
  ·exact⟨false,Fm _ _ _ e _ _ h,hF⟩
  ·obtain⟨r,a,hF⟩:=hF;exact⟨r,a,hF⟩
theorem rG {P:Program} {t:TypeId} {x y:Value} {w:World} {b:Bool} (cx cy:Operand) (hx:∀s:Sem Value,(do eqGuard .eql t cx cy x y;s:Sem Value).run P w=s.run P w)
  (hb:binOp .eql t x y=(do pure (.bool (←Op.equal t x y)))) (h:(Op.equalIn (9999+1) t x y).run P w= .ok b w):(do eqGuard .eql t cx cy x y;binOp .eql t x y:Sem Value).run P w= .ok (.bool b) w:=by
 rw [hx,hb];have:(Op.equal t x y).run P w= .ok b w:=h;rw [Sem.run_bind,this];rfl
theorem rE {P:Program} {t:TypeId} {x y:Value} {w:World} {b:Bool} (cx cy:Operand) (hx:∀s:Sem Value,(do eqGuard .neq t cx cy x y;s:Sem Value).run P w=s.run P w)
  (hb:binOp .neq t x y=(do pure (.bool (!(←Op.equal t x y))))) (h:(Op.equalIn (9999+1) t x y).run P w= .ok b w):(do eqGuard .neq t cx cy x y;binOp .neq t x y:Sem Value).run P w= .ok (.bool !b) w:=by
 rw [hx,hb];have:(Op.equal t x y).run P w= .ok b w:=h;rw [Sem.run_bind,this];rfl
theorem BF {P:Program} {t:TypeId} {w:World} {xs:Array Value} {k:Nat} {v:Value} (h:(P.underlying t).map ii=some false) (hv:xs[k]? =some v):(part t xs k).run P w= .ok v w:=by
 have a:(isAgg t).run P w= .ok false w:=by
  obtain⟨d,b,c⟩:=Option.map_eq_some_iff.1 h;cases d<;>simp [ii]at c<;>simp [isAgg,run_underlying b,Result.andThen]
 simp [part,a,hv,Result.andThen]
theorem LQ {P:Program} {t:TypeId} {e:K5} {x y:Value} {b:Bool} {w:World} (d:Nat) (hk:yG P t e=true) (h:SM e x y=some b):(Op.equalIn (d+1) t x y).run P w= .ok b w∧(P.underlying t).map ii=some false:=by
 unfold SM at h;split at h
 ·rename_i k a i g;split at h
  ·rename_i f;have f:k=i:=by simpa using f
   subst f;cases h;simp only [yG]at hk;split at hk
   ·rename_i q c;exact⟨run_equalIn_int w d t k q a g c,by rw [c];rfl⟩
   ·cases hk
  ·cases h
 ·cases h;simp only [yG]at hk;split at hk
  ·rename_i c;exact⟨run_equalIn_string w d t _ _ c,by rw [c];rfl⟩
  ·cases hk
 ·cases h;simp only [yG]at hk;split at hk
  ·rename_i c;exact⟨run_equalIn_bool w d t _ _ c,by rw [c];rfl⟩
  ·cases hk
 ·cases h
theorem oU {P:Program} {xs ys:Array Value} {w:World} (d:Nat):∀(fs:List Field) (k:Nat) (l:List K5) (b:Bool),HN P fs k l=true→KX l (xs.toList.drop k) (ys.toList.drop k)=some b→(Op.eqFields (d+1) xs ys fs).run P w= .ok b w
 | [],k,l,b,hf,h=>by
  cases l with
  |nil=>
   simp only [Op.eqFields];generalize xs.toList.drop k=p at h;generalize ys.toList.drop k=q at h;cases p<;>cases q<;>simp [KX]at h
   subst h;rfl
  |cons e l=>simp [HN]at hf
 |f::fs,k,[],b,hf,h=>by simp [HN]at hf
 |f::fs,k,e::l,b,hf,h=>by
  simp only [HN,Bool.and_eq_true,decide_eq_true_eq]at hf;obtain⟨h1,h2,h3,h4⟩:=hf;have h2:=Nat.eq_of_beq_eq_true h2;cases hx:xs.toList.drop k with
  |nil=>rw [hx]at h;simp [KX]at h
  |cons x xr=>
   cases hy:ys.toList.drop k with
   |nil=>rw [hx,hy]at h;simp [KX]at h
   |cons y yr=>
    rw [hx,hy]at h;simp only [KX]at h;split at h
    ·rename_i b1 b2 he hr;cases h;obtain⟨hrun,hagg⟩:=LQ (w:=w) d h3 he;have gx:xs[f.offset]? =some x:=by
      rw [h2];have:=congrArg (·[0]?) hx;simpa using this
     have gy:ys[f.offset]? =some y:=by
      rw [h2];have:=congrArg (·[0]?) hy;simpa using this
     have tx:xs.toList.drop (k+1)=xr:=by
      rw [←List.drop_drop,hx];rfl
     have ty:ys.toList.drop (k+1)=yr:=by
      rw [←List.drop_drop,hy];rfl
     have rest:=oU (xs:=xs) (ys:=ys) (w:=w) d fs (k+1) l b2 h4 (by rw [tx,ty];exact hr);simp only [Op.eqFields,h1,ne_eq,not_false_eq_true,if_true,Sem.run_bind,BF hagg gx,BF hagg gy,hrun,Result.andThen];cases b1
     ·rfl
     ·simpa using rest
    ·cases h
theorem mY {P:Program} {t:TypeId} {l:List K5} {xs ys:Array Value} {b:Bool} {w:World} (h:tM P t l=true) (he:KX l xs.toList ys.toList=some b):(Op.equalIn 10000 t (.agg xs) (.agg ys)).run P w= .ok b w∧P.eqGuardType P.depth t=false:=by
 simp only [tM,Bool.and_eq_true,Bool.not_eq_true']at h;obtain⟨a,c,d,e⟩:=h;refine⟨?_,d⟩;have f:P.underlying t=some (.struct (P.fieldsOf t)):=by
  unfold Program.fieldsOf;split at a
  ·rename_i g;rw [g]
  ·cases a
 rw [run_equalIn_struct w 9999 t xs ys f c];exact oU 9998 _ 0 l b e he
theorem Aa {C:ig} (hC:C.Ok) {op:BinOp} {t:TypeId} {cx cy:Operand} {x y:Value} {ot:TypeId} {w:World} {K:Value→World→Prop} (h:fr C op t cx cy x y ot w K):
  ∃v w',(do eqGuard op t cx cy x y;binOp op t x y:Sem Value).run C.P w= .ok v w'∧K v w':=by
 unfold fr at h;split at h
 ·rename_i k a n b;have g:∀(f:Sem Value),(do eqGuard op t cx cy (.int k a) (.int n b);f:Sem Value).run C.P w=f.run C.P w:=by
   intro f;cases op<;>simp [eqGuard,Result.andThen]
  rw [g];by_cases hk:k=n
  ·subst hk;cases op<;>simp only [beq_self_eq_true]at h<;>simp only [binOp,Op.shift,Op.intArith,Op.intDiv,Op.intBits,Op.intCmp,Ar,ne_eq,not_true_eq_false,if_false]at h⊢
   case shl=>rw [if_neg (by omega)];exact⟨_,_,rfl,h.2⟩
   case shr=>rw [if_neg (by omega)];exact⟨_,_,rfl,h.2⟩
   case quo=>rw [if_neg h.1];exact⟨_,_,rfl,h.2⟩
   case rem=>rw [if_neg h.1];exact⟨_,_,rfl,h.2⟩
   all_goals exact⟨_,_,rfl,h⟩
  ·have m:(k==n)=false:=by simpa using hk
   cases op<;>simp only [m]at h
   case shl=>simp only [binOp,Op.shift];rw [if_neg (by omega)];exact⟨_,_,rfl,h.2⟩
   case shr=>simp only [binOp,Op.shift];rw [if_neg (by omega)];exact⟨_,_,rfl,h.2⟩
 ·rename_i a b;have g:∀(f:Sem Value),(do eqGuard op t cx cy (.string a) (.string b);f:Sem Value).run C.P w=f.run C.P w:=by
   intro f;cases op<;>simp [eqGuard,Result.andThen]
  rw [g];cases op<;>simp only [binOp,Op.stringOp]at h⊢
  case add=>rw [if_neg (by omega)];exact⟨_,_,rfl,h.2⟩
  all_goals first |exact⟨_,_,rfl,h⟩ |exact h.elim
 ·rename_i a b;have c:=(hC.ty t).isBool;split at h
  ·rename_i d;exact⟨_,_,rG _ _ (fun _=>rfl) rfl (oZ _ _ _ _ _ _ (c d)),h⟩
  ·rename_i d;exact⟨_,_,rE _ _ (fun _=>rfl) rfl (oZ _ _ _ _ _ _ (c d)),h⟩
  ·exact h.elim
 ·rename_i p q;have c:=(hC.ty t).isPtr;split at h
  ·rename_i d;obtain⟨e,c⟩:=c d;obtain⟨b,i,j⟩:=vt c h;exact⟨_,_,rG _ _ (fun _=>rfl) (by cases p<;>cases q<;>rfl) i,j⟩
  ·rename_i d;obtain⟨e,c⟩:=c d;obtain⟨b,i,j⟩:=vt c h;exact⟨_,_,rE _ _ (fun _=>rfl) (by cases p<;>cases q<;>rfl) i,j⟩
  ·exact h.elim
 ·have c:=(hC.ty t).isSlc;split at h
  ·rename_i d;obtain⟨e,c⟩:=c d;exact⟨_,_,rG _ _ (fun _=>rfl) rfl (qH _ _ _ e _ _ _ _ _ _ c),h⟩
  ·rename_i d;obtain⟨e,c⟩:=c d;exact⟨_,_,rE _ _ (fun _=>rfl) rfl (qH _ _ _ e _ _ _ _ _ _ c),h⟩
  ·exact h.elim
 ·have c:=(hC.ty t).isMap;split at h
  ·rename_i d;obtain⟨k,e,c⟩:=c d;exact⟨_,_,rG _ _ (fun _=>rfl) rfl (qj _ _ _ k e _ _ c),h⟩
  ·rename_i d;obtain⟨k,e,c⟩:=c d;exact⟨_,_,rE _ _ (fun _=>rfl) rfl (qj _ _ _ k e _ _ c),h⟩
  ·exact h.elim
 ·rename_i s u;split at h
  ·exact h.elim
  ·rename_i l r;have o:=(hC.ty t).eqs l r;split at h
   ·rename_i b d;obtain⟨i,g⟩:=mY (w:=w) o d;refine⟨_,_,?_,h⟩;rw [Sem.run_bind,run_eqGuard_agg _ _ _ _ _ _ _ g];simp only [Result.andThen];rw [run_eql_struct,i];rfl
   ·rename_i b d;obtain⟨i,g⟩:=mY (w:=w) o d;refine⟨_,_,?_,h⟩;rw [Sem.run_bind,run_eqGuard_agg _ _ _ _ _ _ _ g];simp only [Result.andThen];rw [run_neq_struct,i];rfl
   ·exact h.elim
 ·exact sF h
theorem DY {C:ig} (hC:C.Ok) {op:BinOp} {t:TypeId} {cx cy:Operand} {x y:Value} {ot:TypeId} {w:World} {K:Value→World→Prop} (h:pF C op t cx cy x y ot w K):
  ∃v w',(do eqGuard op t cx cy x y;binOp op t x y:Sem Value).run C.P w= .ok v w'∧K v w':=by
 unfold pF at h;split at h
 ·exact sF h
 ·exact Aa hC h
def BU (e:dl):List (Nat×Operand)→Option (List (Nat×Value))
 | []=>some []
 |(i,x)::r=>match ev e x with
  |none=>none
  |some v=>match BU e r with
   |none=>none
   |some vs=>some ((i,v)::vs)
theorem Sim.evps {n:Nat} {a:Act} {e:dl} (h:Sim n a e):∀ {l:List (Nat×Operand)} {vs:List (Nat×Value)},Eng.BU e l=some vs→l.map (fun p=>(p.1,a.eval p.2))=vs
 | [],vs,hx=>by simp [Eng.BU]at hx;simp [hx]
 |(i,x)::r,vs,hx=>by
  simp only [Eng.BU]at hx;split at hx
  ·cases hx
  ·rename_i v hv;split at hx
   ·cases hx
   ·rename_i t ht;cases hx;simp [h.ev hv,h.evps ht]
def iQ (cells:List Value) (off:Nat) (vs:List Value):List Value:=cells.take off++vs++cells.drop (off+vs.length)
def m_ (place:Nat→Option (Nat×Nat)) (cells:List Value):List (Nat×Value)→Option (List Value)
 | []=>some cells
 |(i,v)::rest=>match place i with
  |none=>none
  |some (off,size)=>match Nat.beq v.cells.toList.length size&&Nat.ble (off+size) cells.length with
   |false=>none
   |true=>m_ place (iQ cells off v.cells.toList) rest
theorem vC (off:Nat):∀(vs:List Value) (k:Nat) (cs:Array Value),off+k+vs.length≤cs.size→
  (vs.zipIdx k).foldl (fun cs (p:Value×Nat)=>cs.setIfInBounds (off+p.2) p.1) cs=(iQ cs.toList (off+k) vs).toArray
 | [],k,cs,h=>by simp [iQ]
 |v::r,k,cs,h=>by
  simp only [List.length_cons]at h;rw [List.zipIdx_cons,List.foldl_cons,vC off r (k+1) _ (by simp;omega)];congr 1;have hi:off+k<cs.toList.length:=by simp;omega
  simp only [iQ,Array.toList_setIfInBounds,List.length_cons,List.set_eq_take_append_cons_drop,hi,if_true];have a:(cs.toList.take (off+k)).length=off+k:=by rw [List.length_take];omega
  rw [show off+(k+1)=(cs.toList.take (off+k)).length+1 from by omega,List.take_length_add_append,show(cs.toList.take (off+k)).length+1+r.length=(cs.toList.take (off+k)).length+(1+r.length)from by omega,List.drop_length_add_append];rw [Nat.add_comm 1 r.length];simp only [List.drop_succ_cons,List.drop_drop,List.take_succ_cons,List.take_zero,List.append_assoc,List.cons_append,List.nil_append];rw [show off+k+1+r.length=off+k+(r.length+1)from by omega]
theorem jo {place:Nat→Option (Nat×Nat)}:∀ {ps:List (Nat×Value)} {cells out:List Value},m_ place cells ps=some out→Instr.fill place cells.toArray ps=some out.toArray
 | [],cells,out,h=>by simp [m_]at h;simp [Instr.fill,h]
 |(i,v)::rest,cells,out,h=>by
  simp only [m_]at h;split at h
  ·cases h
  ·rename_i off size hp;split at h
   ·cases h
   ·rename_i hb;have hb1:v.cells.toList.length=size:=Nat.eq_of_beq_eq_true (Bool.and_eq_true_iff.1 hb).1;have hb2:off+size≤cells.length:=Nat.le_of_ble_eq_true (Bool.and_eq_true_iff.1 hb).2;have h1:v.cells.size=size:=by rw [←hb1];simp
    simp only [Instr.fill,hp];rw [if_neg (by simp [h1];omega)];have:=jo h;rw [←this];congr 1;have hf:=vC off v.cells.toList 0 cells.toArray (by simp [h1];omega);simp only [Nat.add_zero]at hf;rw [←hf, ←Array.foldl_toList];simp [Array.toList_zipIdx]
def mF (z:List Value):Nat→List Value
 |0=>[]
 |n+1=>z++mF z n
theorem vm (z:List Value) (hz:0<z.length):∀(n i:Nat),i<n*z.length→(mF z n)[i]? =z[i%z.length]?
 |0,i,h=>by simp at h
 |n+1,i,h=>by
  simp only [mF];rw [Nat.succ_mul]at h;by_cases hi:i<z.length
  ·rw [List.getElem?_append_left hi,Nat.mod_eq_of_lt hi]
  ·rw [List.getElem?_append_right (by omega),vm z hz n _ (by omega),Nat.mod_eq_sub_mod (a:=i) (by omega)]
theorem vF (z:List Value):∀n,(mF z n).length=n*z.length
 |0=>by simp [mF]
 |n+1=>by simp [mF,vF z n,Nat.succ_mul];omega
theorem DS (z:Array Value) (n:Nat) (hz:0<z.size):(Array.range (n*z.size)).map (z[·%z.size]!)=(mF z.toList n).toArray:=by
 apply Array.ext_getElem?;intro i;by_cases hi:i<n*z.size
 ·have a:i%z.size<z.size:=Nat.mod_lt _ hz;rw [Array.getElem?_map,Array.getElem?_range,if_pos hi];simp only [Option.map_some,List.getElem?_toArray];rw [vm _ (by simpa using hz) _ _ (by simpa using hi)];simp [getElem!_pos,a]
 ·rw [Array.getElem?_eq_none (by simp;omega),Array.getElem?_eq_none (by simp [vF];omega)]
def bB (p:Option Addr) (l m s:Nat):Option Addr:=if m=l then p else p.map (·.add (l*s))
def MS (e:dl) (x:Option Operand) (d:Nat):Option Int:=match x with
 |none=>some (d:Int)
 |some o=>match ev e o with
  |some (.int _ n)=>some n
  |_=>none
def On:Value→Bool
 | .func (.func _) _ _=>true
 | .iface _ _=>true
 |_=>false
def dS {α:Type}:List α→Nat→Option α
 | [],_=>none
 |x::_,0=>some x
 |_::r,n+1=>dS r n
theorem cX {α:Type}:∀(l:List α) (i:Nat),dS l i=l[i]?
 | [],_=>by simp [dS]
 |_::_,0=>by simp [dS]
 |_::r,n+1=>by simp [dS,cX r n]
def ow (l:List (Nat×Nat×Bool)) (i:Nat):Option (Nat×Nat):=match dS l i with
 |some x=>some (x.1,x.2.1+1)
 |none=>none
def lk (s i:Nat):Option (Nat×Nat):=some (i*s,s)
theorem zT (l:List (Nat×Nat×Bool)) (i:Nat):ow l i=(l.map fun x=>(x.1,x.2.1+1))[i]? :=by
 simp only [ow,cX,List.getElem?_map];cases l[i]? <;>rfl
def iJ (C:ig) (b:Builtin) (ats:List TypeId) (t:TypeId) (consts:Array Bool) (args:List Value) (w:World) (K:Value→World→Prop):Prop:=
 match b with
 | .len=>match ats,args with
  | [u],[.string s]=>match(C.ty u).isStr with |true=>K (.int .i64 s.size) w |false=>False
  | [u],[.slice _ n _]=>match(C.ty u).isSlc with |true=>K (.int .i64 n) w |false=>False
  |_,args=>pg C.P (Go.Builtin.len_ ats.toArray t args.toArray) (C.ty t).rs w K
 | .append=>pg C.P (Go.Builtin.append_ ats.toArray t args.toArray) (C.ty t).rs w K
 | .cap=>pg C.P (Go.Builtin.cap_ ats.toArray t args.toArray) (C.ty t).rs w K
 | .copy=>pg C.P (Go.Builtin.copy_ ats.toArray t args.toArray) (C.ty t).rs w K
 | .delete=>pg C.P (Go.Builtin.delete_ ats.toArray t args.toArray) (C.ty t).rs w K
 | .clear=>pg C.P (Go.Builtin.clear_ ats.toArray t args.toArray) (C.ty t).rs w K
 | .max=>pg C.P (Go.Builtin.max_ ats.toArray t args.toArray) (C.ty t).rs w K
 | .min=>pg C.P (Go.Builtin.min_ ats.toArray t args.toArray) (C.ty t).rs w K
 | .unsafeSliceData=>pg C.P (Go.Builtin.unsafeSliceData_ ats.toArray t args.toArray) (C.ty t).rs w K
 | .unsafeString=>pg C.P (Go.Builtin.unsafeString_ ats.toArray t args.toArray) (C.ty t).rs w K
 |_=>False
theorem sO {C:ig} (hC:C.Ok) {b:Builtin} {ats:List TypeId} {t:TypeId} {consts:Array Bool} {args:List Value} {w:World} {K:Value→World→Prop} (h:iJ C b ats t consts args w K):
  ∃v w',(builtin b ats.toArray t consts args.toArray).run C.P w= .ok (.value v) w'∧K v w':=by
 cases b<;>simp only [iJ]at h
 case len=>
  split at h
  ·rename_i u s;split at h
   ·rename_i a;exact⟨_,_,by simp [builtin,Go.Builtin.len_,run_underlying ((hC.ty u).isStr a),Result.andThen,goInt],h⟩
   ·exact h.elim
  ·rename_i u _ n _;split at h
   ·rename_i a;obtain⟨e,a⟩:=(hC.ty u).isSlc a;exact⟨_,_,by simp [builtin,Go.Builtin.len_,run_underlying a,Result.andThen,goInt],h⟩
   ·exact h.elim
  ·obtain⟨v,w',d,c⟩:=sF h;exact⟨v,w',by simp [builtin,d,Result.andThen],c⟩
 all_goals first
  |exact h.elim
  |(obtain⟨v,w',d,c⟩:=sF h;exact⟨v,w',by simp [builtin,d,Result.andThen],c⟩)
def fy (C:ig) (o:Oper) (e:dl) (w:World) (K:Value→World→Prop):Prop:=
 match o.op with
 | .move x=>match ev e x with |some v=>K v w |none=>False
 | .assign x=>match ev e x with |some v=>K v w |none=>False
 | .pick c a b=>match ev e c,ev e a,ev e b with
  |some (.bool t),some x,some y=>ac t (K x w) (K y w)
  |_,_,_=>False
 | .alloc t=>match(C.ty t).zero with
  |some z=>∀w',w'=w.alloc (.cells z.cells t)→K (.pointer (some ⟨w.heap.size,0,none⟩)) w'
  |none=>False
 | .box t x=>match ev e x with
  |some v=>∀w',w'=w.alloc (.cells v.cells t)→K (.pointer (some ⟨w.heap.size,0,none⟩)) w'
  |none=>False
 | .build t ps=>match(C.ty t).zero,BU e ps.toList,(C.ty t).offs,(C.ty t).arr with
  |some z,some vs,some l,_=>match m_ (ow l) z.cells.toList vs with
   |some out=>K (.agg out.toArray) w
   |none=>False
  |some z,some vs,none,some (_,s)=>match m_ (lk s) z.cells.toList vs with
   |some out=>K (.agg out.toArray) w
   |none=>False
  |_,_,_,_=>False
 | .buildSlice t n ps=>match(C.ty t).slc with
  |none=>False
  |some (u,s)=>match(C.ty u).zero,BU e ps.toList with
   |some z,some vs=>match Nat.ble (n*s) 16777216&&Nat.ble 1 s&&Nat.beq z.cells.toList.length s with
    |false=>False
    |true=>match m_ (lk s) (mF z.cells.toList n) vs with
     |some out=>∀w',w'=w.alloc (.cells out.toArray u)→K (.slice (some ⟨w.heap.size,0,none⟩) n n) w'
     |none=>False
   |_,_=>False
 | .load t x=>match ev e x with
  |some (.pointer p)=>ag p fun ad=>match(C.ty t).agg,(C.ty t).rs,(C.ty t).size with
   |some false,some (.one (.leaf l)),_=>KC l fun v=>w.cell? ad=some v∧K v w
   |some true,some (.one (.agg ls)),some n=>match Nat.beq n ls.length with
    |true=>Fu ls fun vs=>fY w ad vs 0∧K (.agg vs.toArray) w
    |false=>False
   |_,_,_=>False
  |_=>False
 | .store t x y=>match ev e x,ev e y,(C.ty t).agg,(C.ty t).size with
  |some (.pointer p),some v,some false,some 1=>ag p fun ad=>aI w ad (fun w'=>K undef w') [v] 0
  |some (.pointer p),some (.agg cs),some true,some n=>match Nat.beq cs.toList.length n with
   |true=>ag p fun ad=>aI w ad (fun w'=>K undef w') cs.toList 0
   |false=>False
  |_,_,_,_=>False
 | .nilCheck x=>match ev e x with
  |some (.pointer p)=>ag p fun ad=>K (.pointer (some ad)) w
  |some v=>On v=true∧K v w
  |none=>False
 | .binOp op t x y _=>match ev e x,ev e y with
  |some a,some b=>pF C op t x y a b o.type w K
  |_,_=>False
 | .unOp op _ x=>match op,ev e x with
  | .not,some (.bool b)=>K (.bool (!b)) w
  | .neg,some (.int k n)=>Ar k (0-n) fun m=>K (.int k m) w
  |_,_=>False
 | .convert s d x=>match ev e x,(C.ty d).intk,(C.ty s).intk with
  |some (.int _ n),some k',some _=>K (.int k' (k'.wrap n)) w
  |some v,_,_=>pg C.P (convert s d v) (C.ty d).rs w K
  |_,_,_=>False
 | .makeInterface t x=>match(C.ty t).conc,ev e x with
  |true,some v=>K (.iface t v) w
  |_,_=>False
 | .makeFunc fn first cap=>match KJ e first.toList,KJ e cap.toList with
  |some vs,some us=>K (.func fn vs.toArray us.toArray) w
  |_,_=>False
 | .makeMap t r=>match r with
  |none=>pg C.P (Instr.makeMap t none) (C.ty o.type).rs w K
  |some x=>match ev e x with
   |some v=>pg C.P (Instr.makeMap t (some v)) (C.ty o.type).rs w K
   |none=>False
 | .makeSlice t l c=>match ev e l,ev e c with
  |some a,some b=>pg C.P (Instr.makeSlice t a b) (C.ty o.type).rs w K
  |_,_=>False
 | .slice t x lo hi mx=>match ev e x with
  |some (.string s)=>match(C.ty t).isStr,MS e lo 0,MS e hi s.size,mx with
   |true,some l,some h,none=>0≤l∧l≤h∧h≤s.size∧K (.string (s.extract l.toNat h.toNat)) w
   |_,_,_,_=>False
  |some (.slice p n c)=>match(C.ty t).slc,MS e lo 0,MS e hi n,MS e mx c with
   |some (_,s),some l,some h,some m=>0≤l∧l≤h∧(match hi with |none=>True |some _=>h≤m)∧(match mx with |none=>True |some _=>m≤c)∧(match hi,mx with |none,some _=>False |_,_=>True)∧K (.slice (bB p l.toNat m.toNat s) (h.toNat-l.toNat) (m.toNat-l.toNat)) w
   |_,_,_,_=>False
  |_=>False
 | .fieldAddr t x f=>match ev e x,(C.ty t).offs with
  |some (.pointer p),some l=>ag p fun ad=>match dS l f with
   |some y=>K (.pointer (some (ad.add y.1))) w
   |none=>False
  |_,_=>False
 | .field t x f=>match ev e x,(C.ty t).offs with
  |some (.agg cs),some l=>match dS l f with
   |some (off,s,true)=>K (.agg ((cs.toList.drop off).take (s+1)).toArray) w
   |some (off,_,false)=>match dS cs.toList off with
    |some v=>K v w
    |none=>False
   |none=>False
  |_,_=>False
 | .indexAddr t x i=>match ev e x,ev e i with
  |some (.slice p n _),some (.int _ j)=>match(C.ty t).slc with
   |some (_,s)=>ag p fun ad=>0≤j∧j<n∧K (.pointer (some (ad.add (j.toNat*s)))) w
   |none=>False
  |some (.pointer p),some (.int _ j)=>match(C.ty t).arr with
   |some (n,s)=>ag p fun ad=>0≤j∧j<n∧K (.pointer (some (ad.add (j.toNat*s)))) w
   |none=>False
  |_,_=>False
 | .index t x i=>match ev e x,ev e i with
  |some (.string s),some (.int _ j)=>match(C.ty t).isStr with
   |true=>0≤j∧j<s.size∧K (.int .u8 (dM s j)) w
   |false=>False
  |some a,some b=>pg C.P (Instr.index t a b) (C.ty o.type).rs w K
  |_,_=>False
 | .lookup t m k ok=>match ev e m,ev e k with
  |some a,some b=>pg C.P (Instr.lookup t a b ok) (C.ty o.type).rs w K
  |_,_=>False
 | .mapUpdate t m k x=>match ev e m,ev e k,ev e x with
  |some a,some b,some c=>LT C.P (Instr.mapUpdate t a b c) w K
  |_,_,_=>False
 | .insert t m k x=>match ev e m,ev e k,ev e x with
  |some a,some b,some c=>LT C.P (Instr.mapUpdate t a b c) w K
  |_,_,_=>False
 | .mapEntry t m k=>match ev e m,ev e k with
  |some a,some b=>match(C.ty t).elemSh with
   |some sh=>pg C.P (Instr.mapEntry t a b) (some (.tup [sh,.leaf (.int .i64)])) w K
   |none=>False
  |_,_=>False
 | .entryStore t m s x=>match ev e m,ev e s,ev e x with
  |some a,some b,some c=>LT C.P (Instr.entryStore t a b c) w K
  |_,_,_=>False
 | .range t x=>match ev e x with
  |some a=>pg C.P (Instr.range t a) (some (.one (.leaf .ptr))) w K
  |none=>False
 | .next x s=>match ev e x with
  |some a=>match s with
   |true=>pg C.P (Instr.next a true o.type) (C.ty o.type).rs w K
   |false=>pg C.P (Instr.next a false o.type) (some (.tup [.leaf .bool])) w K∨pg C.P (Instr.next a false o.type) (some (.tup [.leaf .bool,.leaf .any,.leaf .any])) w K
  |none=>False
 | .entry x=>match ev e x with
  |some a=>pg C.P (Instr.entry a) (some (.tup [.leaf .any,.leaf .any])) w K
  |none=>False
 | .typeAssert x xt at_ ok=>match ev e x with
  |some a=>pg C.P (Instr.typeAssert a xt at_ ok) (C.ty o.type).rs w K
  |none=>False
 | .extract x i=>match ev e x with
  |some (.tuple vs)=>match dS vs.toList i with
   |some v=>match C.re with
    |false=>K v w
    |true=>match(C.ty o.type).rs with
     |some (.one (.leaf l))=>KC l fun u=>v=u∧K u w
     |_=>K v w
   |none=>False
  |_=>False
 | .call c=>match c.callee with
  | .builtin b=>match KJ e c.args.toList with
   |some vs=>iJ C b c.argTypes.toList o.type (c.args.map fun | .const _=>true |_=>false) vs w K
   |none=>False
  |_=>False
 |_=>False
theorem fN {P:Program} {t:TypeId} {b:Bool} (h:(P.underlying t).map ii=some b) (w:World):(isAgg t).run P w= .ok b w:=by
 obtain⟨d,a,rfl⟩:=Option.map_eq_some_iff.1 h;unfold isAgg;cases d<;>simp [run_underlying a,Result.andThen,ii]
theorem cD {P:Program} {t:TypeId} {n:Nat} (h:(P.info? t).map (·.size)=some n) (w:World):(sizeOf t).run P w= .ok n w:=by
 obtain⟨d,a,rfl⟩:=Option.map_eq_some_iff.1 h;simp [sizeOf,typeInfo,a,Result.andThen]
theorem gG {P:Program} {t:TypeId} {v:Value} (h:(P.info? t).map (·.zero)=some (some v)) (w:World):(zeroValue t).run P w= .ok v w:=by
 obtain⟨d,a,b⟩:=Option.map_eq_some_iff.1 h;simp [zeroValue,typeInfo,a,b,Result.andThen]
theorem eJ {P:Program} {w:World} {a:Addr}:∀(vs:List Value) (i:Nat) (acc:Array Value),fY w a vs i→(loadCellsFrom a i vs.length acc).run P w= .ok (acc++vs.toArray) w
 | [],i,acc,_=>by simp [loadCellsFrom]
 |v::r,i,acc,h=>by
  obtain⟨h1,h2⟩:=h;simp only [List.length_cons,loadCellsFrom,Sem.run_bind,run_load,h1,Result.andThen];rw [eJ r (i+1) (acc.push v) h2];simp
theorem g_ {P:Program} {a:Addr} {k:World→Prop}:∀(vs:List Value) (i:Nat) (w:World),aI w a k vs i→∃w',(storeCells a vs i).run P w= .ok () w'∧k w'
 | [],i,w,h=>⟨w,by simp [storeCells],h w rfl⟩
 |v::r,i,w,h=>by
  obtain⟨h1,⟨u,h2⟩,h3,h4⟩:=h;obtain⟨w',hr,hk⟩:=g_ r (i+1) _ h4;refine⟨w',?_,hk⟩;simp only [storeCells,Sem.run_bind,run_store P w _ v _ h1,h2,h3,Result.andThen];exact hr
theorem gw {p:Option Addr} {k:Addr→Prop} (h:ag p k):∃a,p=some a∧k a:=by
 cases p with
 |none=>exact h.elim
 |some a=>exact⟨a,rfl,h⟩
theorem nM {n:Nat} {a:Act} {e:dl} (hS:Sim n a e) {x:Option Operand} {d:Nat} {z:Int} (h:MS e x d=some z):(x=none∧z=d)∨(∃o k,x=some o∧a.eval o= .int k z):=by
 cases x with
 |none=>simp only [MS,Option.some.injEq]at h;exact .inl ⟨rfl,h.symm⟩
 |some o=>
  simp only [MS]at h;split at h
  ·rename_i k m b;cases h;exact .inr ⟨o,k,rfl,hS.ev b⟩
  ·cases h
theorem dr {P:Program} {k:IntKind} {i:Int} {y:Nat} {code:BoundsCode} (h0:0≤i) (h1:i≤y) (w:World):(Instr.sliceBound (.int k i) y code).run P w= .ok i.toNat w:=by
 simp [Instr.sliceBound,asIntOf,Result.andThen,h0,h1]
def tI:Op→Bool
 | .store .. =>true
 | .mapUpdate .. =>true
 | .insert .. =>true
 | .entryStore .. =>true
 |_=>false
def jT (P:Program) (o:Oper) (a:Act) (w:World) (K:Value→World→Prop):Prop:=
 (∃v w',(execOp a.eval o).run P w= .ok (.value v) w'∧K v w')∨(tI o.op=true∧∃w',(execOp a.eval o).run P w= .ok .skip w'∧K undef w')
theorem eX {P:Program} {o:Oper} {a:Act} {w:World} {K:Value→World→Prop} {rs:Option Rs} {s:Sem Value} (h:pg P s rs w K) (he:execOp a.eval o=(do pure (.value (←s)))):jT P o a w K:=by
 obtain⟨v,d,c,b⟩:=sF h;exact .inl ⟨v,d,by rw [he];simp [c,Result.andThen],b⟩
theorem sJ {P:Program} {o:Oper} {a:Act} {w:World} {K:Value→World→Prop} {s:Sem Unit} (h:LT P s w K) (hu:tI o.op=true) (he:execOp a.eval o=(do s;pure .skip)):jT P o a w K:=by
 obtain⟨d,c,b⟩:=h;exact .inr ⟨hu,d,by rw [he];simp [c,Result.andThen],b⟩
theorem tH {P:Program} (t:TypeId) (v:Value) (w:World):(newVar t v).run P w= .ok ⟨w.heap.size,0,none⟩ (w.alloc (.cells v.cells t)):=by
 simp only [newVar,newRow,Sem.run_bind,run_newObj,Result.andThen,Sem.run_pure];rfl
theorem tE {P:Program} (t:TypeId) (c:Array Value) (w:World):(newRow t c).run P w= .ok ⟨w.heap.size,0,none⟩ (w.alloc (.cells c t)):=by
 simp only [newRow,Sem.run_bind,run_newObj,Result.andThen,Sem.run_pure];rfl
section
variable {C:ig} {n:Nat} {a:Act} {e:dl} {w:World} {K:Value→World→Prop}
theorem E' (hC:C.Ok) (hS:Sim n a e) (o:Oper) {t:TypeId} {x:Operand} {f:Nat} (ho:o.op= .field t x f) (h:fy C o e w K):jT C.P o a w K:=by
 simp only [fy,ho]at h;split at h
 ·rename_i A l z D;obtain⟨B,u,E⟩:=(hC.ty t).offs _ D;have d:execOp a.eval o=(do pure (.value (←Instr.field t (a.eval x) f))):=by simp only [execOp,ho]
  rw [cX]at h;have r:∀y,l[f]? =some y→∃c,B[f]? =some c∧c.offset=y.1∧(C.P.info? c.type).map (·.size)=some (y.2.1+1)∧(C.P.underlying c.type).map ii=some y.2.2:=by
   intro y g;have:=congrArg (·[f]?) E;simp only [List.getElem?_map,g,Option.map_some]at this;obtain⟨c,b,j⟩:=Option.map_eq_some_iff.1 this;simp only [Prod.mk.injEq]at j;exact⟨c,by simpa using b,j.1,j.2.1,j.2.2⟩
  split at h
  ·rename_i i s g;obtain⟨c,b,k,q,m⟩:=r _ g;refine .inl ⟨_,_,?_,h⟩;rw [d];simp [Instr.field,run_underlying u,Result.andThen,b,hS.ev z,asAgg,part,fN m,cD q];rw [show c.offset=i from k];apply Array.toList_inj.1;simp [Array.toList_extract,List.extract_eq_take_drop]
  ·rename_i i s g;obtain⟨c,b,k,q,m⟩:=r _ g;rw [cX]at h;split at h
   ·rename_i v F;refine .inl ⟨_,_,?_,h⟩;rw [d];have p:A[c.offset]? =some v:=by rw [k];simpa using F
    simp [Instr.field,run_underlying u,Result.andThen,b,hS.ev z,asAgg,part,fN m,p]
   ·exact h.elim
  ·exact h.elim
 ·exact h.elim
theorem ul (hC:C.Ok) (hS:Sim n a e) (o:Oper) {t:TypeId} {x:Operand} {f:Nat} (ho:o.op= .fieldAddr t x f) (h:fy C o e w K):jT C.P o a w K:=by
 simp only [fy,ho]at h;split at h
 ·rename_i p l s m;obtain⟨v,rfl,h⟩:=gw h;obtain⟨i,r,q⟩:=(hC.ty t).offs _ m;rw [cX]at h;split at h
  ·rename_i y u;have:=congrArg (·[f]?) q;simp only [List.getElem?_map,u,Option.map_some]at this;obtain⟨g,c,d⟩:=Option.map_eq_some_iff.1 this;simp only [Prod.mk.injEq]at d;obtain⟨j,k,z⟩:=d;refine .inl ⟨_,_,?_,h⟩;have b:i[f]? =some g:=by simpa using c
   simp [execOp,ho,hS.ev s,Instr.fieldAt,run_underlying r,Result.andThen,b,Instr.sureAddr,fieldPlace,cD k,j]
  ·exact h.elim
 ·exact h.elim
theorem Dx (hC:C.Ok) (hS:Sim n a e) (o:Oper) {t:TypeId} {x:Operand} {lo hi mx:Option Operand} (ho:o.op= .slice t x lo hi mx) (h:fy C o e w K):jT C.P o a w K:=by
 simp only [fy,ho]at h;have v:execOp a.eval o=(do pure (.value (←Instr.sliceAt t (a.eval x) (lo.map a.eval) (hi.map a.eval) (mx.map a.eval)))):=by simp only [execOp,ho]
 split at h
 ·rename_i s G;split at h
  ·rename_i l f E B k;obtain⟨q,y,r,A⟩:=h;have g:=(hC.ty t).isStr E;refine .inl ⟨_,_,?_,A⟩;rw [v,hS.ev G];rcases nM hS B with⟨rfl,rfl⟩ |⟨O,L,rfl,d⟩<;>rcases nM hS k with⟨rfl,rfl⟩ |⟨N,J,rfl,c⟩
   ·simp [Instr.sliceAt,Instr.slice,run_underlying g,Result.andThen,Instr.sliceBounds]
   ·simp [Instr.sliceAt,Instr.slice,run_underlying g,Result.andThen,Instr.sliceBounds,c,dr (by omega:0≤f) r]
   ·simp [Instr.sliceAt,Instr.slice,run_underlying g,Result.andThen,Instr.sliceBounds,d,dr q y]
   ·have j:l≤((f.toNat:Nat):Int):=by omega
    simp [Instr.sliceAt,Instr.slice,run_underlying g,Result.andThen,Instr.sliceBounds,c,dr (by omega:0≤f) r,d,dr q j]
  ·exact h.elim
 ·rename_i p M H G;split at h
  ·rename_i Q P l f m E B k D;obtain⟨q,y,r,j,I,A⟩:=h;obtain⟨g,F⟩:=(hC.ty t).slc _ _ E;refine .inl ⟨_,_,?_,A⟩;rw [v,hS.ev G];have b:=cD F w;rcases nM hS D with⟨rfl,rfl⟩ |⟨S,R,rfl,u⟩<;>rcases nM hS k with⟨rfl,rfl⟩ |⟨N,J,rfl,c⟩<;>
    rcases nM hS B with⟨rfl,rfl⟩ |⟨O,L,rfl,d⟩<;>simp only at r j I
   ·simp [Instr.sliceAt,Instr.slice,run_underlying g,Result.andThen,Instr.sliceBounds,b,bB]
   ·simp [Instr.sliceAt,Instr.slice,run_underlying g,Result.andThen,Instr.sliceBounds,b,bB,d,dr q y]
   ·simp [Instr.sliceAt,Instr.slice,run_underlying g,Result.andThen,Instr.sliceBounds,b,bB,c,dr (by omega:0≤f) r]
   ·have j:l≤((f.toNat:Nat):Int):=by omega
    simp [Instr.sliceAt,Instr.slice,run_underlying g,Result.andThen,Instr.sliceBounds,b,bB,c,dr (by omega:0≤f) r,d,dr q j]
   ·have i:f≤((m.toNat:Nat):Int):=by omega
    simp [Instr.sliceAt,Instr.slice,run_underlying g,Result.andThen,Instr.sliceBounds,b,bB,u,dr (by omega:0≤m) j,c,dr (by omega:0≤f) i]
   ·have i:f≤((m.toNat:Nat):Int):=by omega
    have z:l≤((f.toNat:Nat):Int):=by omega
    simp [Instr.sliceAt,Instr.slice,run_underlying g,Result.andThen,Instr.sliceBounds,b,bB,u,dr (by omega:0≤m) j,c,dr (by omega:0≤f) i,d,dr q z]
  ·exact h.elim
 ·exact h.elim
theorem lw (hC:C.Ok) (hS:Sim n a e) (o:Oper) (h:fy C o e w K):jT C.P o a w K:=by
 cases ho:o.op;case field t x f=>exact E' hC hS o ho h
 case fieldAddr t x f=>exact ul hC hS o ho h
 case slice t x lo Z mx=>exact Dx hC hS o ho h
 all_goals simp only [fy,ho]at h
 case move x=>
  split at h
  ·rename_i v D;exact .inl ⟨v,w,by simp [execOp,ho,hS.ev D],h⟩
  ·exact h.elim
 case assign x=>
  split at h
  ·rename_i v D;exact .inl ⟨v,w,by simp [execOp,ho,hS.ev D],h⟩
  ·exact h.elim
 case pick c x y=>
  split at h
  ·rename_i b u v Y q F;cases b
   ·exact .inl ⟨v,w,by simp [execOp,ho,hS.ev Y,hS.ev F,asBool,Result.andThen],h⟩
   ·exact .inl ⟨u,w,by simp [execOp,ho,hS.ev Y,hS.ev q,asBool,Result.andThen],h⟩
  ·exact h.elim
 case alloc t=>
  split at h
  ·rename_i z L;exact .inl ⟨_,_,by simp [execOp,ho,Instr.alloc,gG ((hC.ty t).zero _ L),tH,Result.andThen],h _ rfl⟩
  ·exact h.elim
 case box t x=>
  split at h
  ·rename_i v D;exact .inl ⟨_,_,by simp [execOp,ho,Instr.box,hS.ev D,tH,Result.andThen],h _ rfl⟩
  ·exact h.elim
 case build t ps=>
  have Q:∀E,BU e ps.toList=some E→(ps.map fun(i,x)=>(i,a.eval x))=E.toArray:=fun E D=>by
   apply Array.toList_inj.1;simp [←hS.evps D]
  split at h
  ·rename_i arrv z E l L D hl;split at h
   ·rename_i out H;obtain⟨fs,J,hm⟩:=(hC.ty t).offs _ hl;have R:=gG ((hC.ty t).zero _ L) w;have O:∀(fl:List Field) (ll:List (Nat×Nat×Bool)),fl.map (fun f=>(f.offset,(C.P.info? f.type).map (·.size),(C.P.underlying f.type).map ii))=ll.map (fun x=>(x.1,some (x.2.1+1),some x.2.2))→
      (fl.mapM fun f=>do pure (f.offset, ←sizeOf f.type):Sem (List (Nat×Nat))).run C.P w= .ok (ll.map fun x=>(x.1,x.2.1+1)) w:=by
     intro fl;induction fl with
     |nil=>intro ll h;cases ll with |nil=>simp |cons _ _=>simp at h
     |cons f fl ih=>
      intro ll h;cases ll with
      |nil=>simp at h
      |cons y ll=>
       simp only [List.map_cons,List.cons.injEq,Prod.mk.injEq]at h;simp only [List.mapM_cons,Sem.run_bind,Sem.run_pure,Result.andThen,cD h.1.2.1,ih ll h.2,h.1.1,List.map_cons]
    have hpl:=O fs.toList l hm;have A:=jo H;refine .inl ⟨_,_,?_,h⟩;have hfs:(fs.mapM fun f=>do pure (f.offset, ←sizeOf f.type):Sem (Array (Nat×Nat))).run C.P w= .ok (l.map fun x=>(x.1,x.2.1+1)).toArray w:=by
     rw [Array.mapM_eq_mapM_toList];simp only [Sem.run_map,hpl,Result.andThen]
    have W:(fun i=>(l.map fun x=>(x.1,x.2.1+1)).toArray[i]?)=ow l:=by
     funext i;rw [zT];simp
    simp only [Array.toArray_toList]at A;simp only [execOp,ho,Instr.build,Sem.run_bind,R,Result.andThen,run_underlying J,hfs,Q E D];rw [W,A];rfl
   ·exact h.elim
  ·rename_i z E n s L D hoffs harr;split at h
   ·rename_i out H;obtain⟨el,J,B⟩:=(hC.ty t).arr _ _ harr;have R:=gG ((hC.ty t).zero _ L) w;have A:=jo H;refine .inl ⟨_,_,?_,h⟩;simp only [Array.toArray_toList]at A;simp only [execOp,ho,Instr.build,R,Result.andThen,run_underlying J,cD B,Q E D,Sem.run_bind];rw [show(fun i=>some (i*s,s))=lk s from rfl,A];rfl
   ·exact h.elim
  ·exact h.elim
 case buildSlice t m ps=>
  have Q:∀E,BU e ps.toList=some E→(ps.map fun(i,x)=>(i,a.eval x))=E.toArray:=fun E D=>by
   apply Array.toList_inj.1;simp [←hS.evps D]
  split at h
  ·exact h.elim
  ·rename_i u s X;split at h
   ·rename_i z E L D;split at h
    ·exact h.elim
    ·rename_i I;simp only [Bool.and_eq_true]at I;have hb1:m*s≤16777216:=Nat.le_of_ble_eq_true I.1.1;have hb2:1≤s:=Nat.le_of_ble_eq_true I.1.2;have hb3:z.cells.toList.length=s:=Nat.eq_of_beq_eq_true I.2;split at h
     ·rename_i out H;obtain⟨J,B⟩:=(hC.ty t).slc _ _ X;have R:=gG ((hC.ty u).zero _ L) w;have A:=jo H;have hzs:z.cells.size=s:=by simpa using hb3
      have S:=DS z.cells m (by omega);rw [hzs]at S;refine .inl ⟨_,_,?_,h _ rfl⟩;have a0:¬m*s>2^24:=by omega
      have U:((Array.range (m*s)).map (z.cells[·%z.cells.size]!))=(mF z.cells.toList m).toArray:=by rw [hzs];exact S
      by_cases T:m*s=0
      ·have hm0:m=0:=by rcases Nat.mul_eq_zero.1 T with h |h<;>omega
       subst hm0;simp only [mF]at A;have hnil:(Array.map (fun x=>(#[]:Array Value)[x%(#[]:Array Value).size]!) (Array.range (0*s)))=([]:List Value).toArray:=by simp
       simp only [execOp,ho,Instr.buildSlice,Sem.run_bind,run_underlying J,Result.andThen,cD B,if_neg a0,Sem.run_pure,if_pos T,Q E D];rw [show(fun i=>some (i*s,s))=lk s from rfl,hnil,A];simp [tE,Result.andThen]
      ·simp only [execOp,ho,Instr.buildSlice,Sem.run_bind,run_underlying J,Result.andThen,cD B,if_neg a0,Sem.run_pure,if_neg T,R,Q E D];rw [show(fun i=>some (i*s,s))=lk s from rfl,U,A];simp [tE,Result.andThen]
     ·exact h.elim
   ·exact h.elim
 case load t x=>
  split at h
  ·rename_i p q;obtain⟨ad,rfl,h⟩:=gw h;split at h
   ·rename_i l _ N _;obtain⟨v,D,G⟩:=lV h;exact .inl ⟨v,w,by simp [execOp,ho,hS.ev q,Instr.loadAt,Instr.sureAddr,loadVar,fN ((hC.ty t).agg _ N),D,Result.andThen],G⟩
   ·rename_i ls m N _ B;split at h
    ·rename_i I;have I:m=ls.length:=Nat.eq_of_beq_eq_true I;obtain⟨E,hl,Y,G⟩:=lj h;have hlc:=eJ (P:=C.P) E 0 #[] Y;rw [hl, ←I]at hlc;refine .inl ⟨_,w,?_,G⟩;simp [execOp,ho,hS.ev q,Instr.loadAt,Instr.sureAddr,loadVar,fN ((hC.ty t).agg _ N),cD ((hC.ty t).size _ B),loadCells,hlc,Result.andThen]
    ·exact h.elim
   ·exact h.elim
  ·exact h.elim
 case store t x y=>
  split at h
  ·rename_i p v q F N B;obtain⟨ad,rfl,h⟩:=gw h;have M:v.oneCell'=true:=h.1;obtain⟨w',S,G⟩:=g_ (P:=C.P) [v] 0 w h;have Y:v.cells= #[v]:=by cases v<;>first |rfl |simp [Value.oneCell']at M
   refine .inr ⟨by rw [ho];rfl,w',?_,G⟩;simp [execOp,ho,hS.ev q,hS.ev F,Instr.storeAt,Instr.sureAddr,storeVar,cD ((hC.ty t).size _ B),Y,S,Result.andThen]
  ·rename_i p cs m q F N B;split at h
   ·rename_i I;have I:cs.toList.length=m:=Nat.eq_of_beq_eq_true I;obtain⟨ad,rfl,h⟩:=gw h;obtain⟨w',S,G⟩:=g_ (P:=C.P) cs.toList 0 w h;refine .inr ⟨by rw [ho];rfl,w',?_,G⟩;have hb':cs.size=m:=by simpa using I
    simp [execOp,ho,hS.ev q,hS.ev F,Instr.storeAt,Instr.sureAddr,storeVar,cD ((hC.ty t).size _ B),Value.cells,hb',S,Result.andThen]
   ·exact h.elim
  ·exact h.elim
 case nilCheck x=>
  split at h
  ·rename_i p q;obtain⟨ad,rfl,h⟩:=gw h;exact .inl ⟨_,w,by simp [execOp,ho,hS.ev q],h⟩
  ·rename_i v _ q;obtain⟨M,h⟩:=h;refine .inl ⟨v,w,?_,h⟩;have D:=hS.ev q;cases v with
   |func fn f1 c1=>cases fn with
    |func g=>simp [execOp,ho,D]
    |_=>exact absurd M (by simp [On])
   |iface t u=>simp [execOp,ho,D]
   |_=>exact absurd M (by simp [On])
  ·exact h.elim
 case binOp op t x y yt=>
  split at h
  ·rename_i u v q F;obtain⟨r,w',S,G⟩:=DY hC h;exact .inl ⟨r,w',by simp only [execOp,ho,hS.ev q,hS.ev F];rw [Sem.run_bind,S];rfl,G⟩
  ·exact h.elim
 case unOp op t x=>
  split at h
  ·rename_i b q;exact .inl ⟨_,w,by simp [execOp,ho,hS.ev q,Op.unary,Result.andThen],h⟩
  ·rename_i k m q;exact .inl ⟨.int k (k.wrap (0-m)),w,by simp [execOp,ho,hS.ev q,Op.unary,Op.intArith,Result.andThen],h⟩
  ·exact h.elim
 case convert s d x=>
  split at h
  ·rename_i k m k' ks q hd X;exact .inl ⟨_,w,by simp [execOp,ho,hS.ev q,convert,run_underlying ((hC.ty d).intk _ hd),run_underlying ((hC.ty s).intk _ X),Conv.intToInt,Result.andThen],h⟩
  ·rename_i v _ _ q _;exact eX h (by simp only [execOp,ho,hS.ev q])
  ·exact h.elim
 case makeInterface t x=>
  split at h
  ·rename_i v Y q;obtain⟨d,J,hd⟩:=(hC.ty t).conc Y;refine .inl ⟨_,w,?_,h⟩;simp only [execOp,ho,hS.ev q,Instr.makeInterface,Sem.run_bind,run_underlying J,Result.andThen];cases d<;>first |rfl |exact absurd rfl (hd _)
  ·exact h.elim
 case makeFunc fn first cap=>
  split at h
  ·rename_i E us D J;refine .inl ⟨_,w,?_,h⟩;have M:first.map a.eval=E.toArray:=by apply Array.toList_inj.1;simp [←hS.evs D]
   have h2:cap.map a.eval=us.toArray:=by apply Array.toList_inj.1;simp [←hS.evs J]
   simp [execOp,ho,Instr.makeFunc,M,h2,Result.andThen]
  ·exact h.elim
 case makeMap t r=>
  split at h
  ·exact eX h (by simp only [execOp,ho,Option.map_none])
  ·rename_i x;split at h
   ·rename_i v q;exact eX h (by simp only [execOp,ho,Option.map_some,hS.ev q])
   ·exact h.elim
 case makeSlice t l c=>
  split at h
  ·rename_i u v q F;exact eX h (by simp only [execOp,ho,hS.ev q,hS.ev F])
  ·exact h.elim
 case indexAddr t x i=>
  split at h
  ·rename_i p len cap k j q Z;split at h
   ·rename_i et s X;obtain⟨ad,rfl,T,M,G⟩:=gw h;obtain⟨J,B⟩:=(hC.ty t).slc _ _ X;exact .inl ⟨_,w,by simp [execOp,ho,hS.ev q,hS.ev Z,Instr.indexAt,asIntOf,run_underlying J,Result.andThen,T,M,cD B],G⟩
   ·exact h.elim
  ·rename_i p k j q Z;split at h
   ·rename_i len s X;obtain⟨ad,rfl,T,M,G⟩:=gw h;obtain⟨el,J,B⟩:=(hC.ty t).arr _ _ X;exact .inl ⟨_,w,by simp [execOp,ho,hS.ev q,hS.ev Z,Instr.indexAt,Instr.sureAddr,asIntOf,run_underlying J,Result.andThen,T,M,cD B],G⟩
   ·exact h.elim
  ·exact h.elim
 case index t x i=>
  split at h
  ·rename_i s k j q Z;split at h
   ·rename_i X;obtain⟨T,M,G⟩:=h;refine .inl ⟨_,w,?_,G⟩;have V:j.toNat<s.size:=by omega
    have hlt':j.toNat<s.data.size:=V;have hg:s[j.toNat]? =some (s[j.toNat]'V):=by simp [V]
    have I:dM s j=((s[j.toNat]'V).toNat:Int):=by
     unfold dM;rw [Array.getElem?_eq_getElem hlt'];rfl
    simp [execOp,ho,hS.ev q,hS.ev Z,Instr.index,asIntOf,run_underlying ((hC.ty t).isStr X),Result.andThen,T,hg,I]
   ·exact h.elim
  ·rename_i u v _ q Z;exact eX h (by simp only [execOp,ho,hS.ev q,hS.ev Z])
  ·exact h.elim
 case lookup t m k ok=>
  split at h
  ·rename_i u v q F;exact eX h (by simp only [execOp,ho,hS.ev q,hS.ev F])
  ·exact h.elim
 case mapUpdate t m k x=>
  split at h
  ·rename_i u v z q F L;exact sJ h (by rw [ho];rfl) (by simp only [execOp,ho,hS.ev q,hS.ev F,hS.ev L])
  ·exact h.elim
 case insert t m k x=>
  split at h
  ·rename_i u v z q F L;exact sJ h (by rw [ho];rfl) (by simp only [execOp,ho,hS.ev q,hS.ev F,hS.ev L])
  ·exact h.elim
 case mapEntry t m k=>
  split at h
  ·rename_i u v q F;split at h
   ·exact eX h (by simp only [execOp,ho,hS.ev q,hS.ev F])
   ·exact h.elim
  ·exact h.elim
 case entryStore t m k x=>
  split at h
  ·rename_i u v z q F L;exact sJ h (by rw [ho];rfl) (by simp only [execOp,ho,hS.ev q,hS.ev F,hS.ev L])
  ·exact h.elim
 case range t x=>
  split at h
  ·rename_i u q;exact eX h (by simp only [execOp,ho,hS.ev q])
  ·exact h.elim
 case next x s=>
  split at h
  ·rename_i u q;cases s with
   |true=>exact eX h (by simp only [execOp,ho,hS.ev q])
   |false=>
    rcases h with h |h
    ·exact eX h (by simp only [execOp,ho,hS.ev q])
    ·exact eX h (by simp only [execOp,ho,hS.ev q])
  ·exact h.elim
 case entry x=>
  split at h
  ·rename_i u q;exact eX h (by simp only [execOp,ho,hS.ev q])
  ·exact h.elim
 case typeAssert x xt at_ ok=>
  split at h
  ·rename_i u q;exact eX h (by simp only [execOp,ho,hS.ev q])
  ·exact h.elim
 case extract x i=>
  split at h
  ·rename_i E q;rw [cX]at h;split at h
   ·rename_i v D;have hv':E[i]? =some v:=by simpa using D
    have h:K v w:=by
     split at h
     ·exact h
     ·split at h
      ·obtain⟨u,rfl,h⟩:=lV h;exact h
      ·exact h
    exact .inl ⟨_,w,by simp [execOp,ho,hS.ev q,Instr.extract,hv',Result.andThen],h⟩
   ·exact h.elim
  ·exact h.elim
 case call c=>
  split at h
  ·rename_i b I;split at h
   ·rename_i E D;obtain⟨v,w',S,G⟩:=sO hC h;refine .inl ⟨v,w',?_,G⟩;have hargs:c.args.map a.eval=E.toArray:=by apply Array.toList_inj.1;simp [←hS.evs D]
    have hat:c.argTypes=c.argTypes.toList.toArray:=by simp
    simp only [execOp,ho,resolve,I,hargs,Sem.run_bind,Sem.run_pure,Result.andThen,invoke];rw [hat];exact S
   ·exact h.elim
  ·exact h.elim
end
def M6 (C:ig) (g:FuncId) (args:Array Value) (rs:Rs) (w:World) (K:Value→World→Prop):Prop:=
 Calls C.P g args w fun e w'=>Sx rs fun v=>e= .returned v∧K v w'
def Gq (g:FuncId) (args:Array Value):Sem Value:=do
 match←callFunc g args with
 | .value v=>pure v
 |_=>stuck ""
def bM (C:ig) (f:Value) (args:List Value) (w:World) (R:Ending→World→Prop):Prop:=
 match f with
 | .func (.func g) first cap=>match C.fns g with
  |true=>Calls C.P g (first.toList++(args++cap.toList)).toArray w R
  |false=>∃v w',(Gq g (first.toList++(args++cap.toList)).toArray).run C.P w= .ok v w'∧R (.returned v) w'
 |_=>False
def Gj (C:ig) (f:Value) (args:List Value) (rs:Rs) (w:World) (K:Value→World→Prop):Prop:=
 bM C f args w fun e w'=>Sx rs fun v=>e= .returned v∧K v w'
def Gk (C:ig) (o:Oper) (e:dl) (w:World) (K:Value→World→Prop):Prop:=
 match o.op with
 | .call c=>match c.callee with
  | .builtin _=>fy C o e w K
  | .value f=>match ev e f,KJ e c.args.toList,(C.ty o.type).rs with
   |some fv,some vs,some rs=>Gj C fv vs rs w K
   |_,_,_=>False
  | .invoke r name=>match ev e r,KJ e c.args.toList,(C.ty o.type).rs with
   |some rv,some vs,some rs=>∃g as,(callMethod rv name vs.toArray).run C.P w= .ok (.enter g as) w∧M6 C g as rs w K
   |_,_,_=>False
 |_=>fy C o e w K
section
variable {C:ig} {n:Nat} {a:Act} {e:dl} {w:World} {K:Value→World→Prop} {next:Act→World→Prop} {Q:Exit→Act→World→Prop}
theorem rN {P:Program} {f:FuncId} {fn:Func} {c:Code} (hf:P.funcs[f]? =some fn) (hname:(fn.name== "runtime.NumGoroutine")=false) (hb:fn.body=some c) (args:Array Value) (w:World):
  (callFunc f args).run P w= .ok (.enter f args) w:=by
 have a:fn.name≠ "runtime.NumGoroutine" :=by simpa using hname
 simp [callFunc,hf,a,hb,Result.andThen]
theorem nl {o:Oper} (h:jT C.P o a w K) (hn:∀v w',K v w'→next (a.put o.dst v) w'):o.wp C.P a w next Q:=by
 rcases h with⟨v,w',c,b⟩ |⟨_,w',c,b⟩
 ·simp only [Oper.wp,c,Oper.upon_value];exact hn _ _ b
 ·simp only [Oper.wp,c,Oper.upon_skip];exact hn _ _ b
theorem qE {o:Oper} {g:FuncId} {as:Array Value} {rs:Rs} (hr:(execOp a.eval o).run C.P w= .ok (.enter g as) w) (h:M6 C g as rs w K)
  (hn:∀v w',K v w'→next (a.put o.dst v) w'):o.wp C.P a w next Q:=by
 simp only [Oper.wp,hr,Oper.upon_enter];refine Calls.mono h fun d w' c=>?_;obtain⟨v,rfl,b⟩:=xh c;exact hn _ _ b
theorem zC (hC:C.Ok) (hS:Sim n a e) (o:Oper) (h:Gk C o e w K) (hn:∀v w',K v w'→next (a.put o.dst v) w'):o.wp C.P a w next Q:=by
 unfold Gk at h;split at h
 ·rename_i c E;split at h
  ·exact nl (lw hC hS o h) hn
  ·rename_i f s;split at h
   ·rename_i S j L z k A;have b:c.args.map a.eval=j.toArray:=by apply Array.toList_inj.1;simp [←hS.evs k]
    unfold Gj bM at h;split at h
    ·rename_i g first d;have t:=hS.ev z;have l:first++j.toArray++d=(first.toList++(j++d.toList)).toArray:=by
      apply Array.toList_inj.1;simp
     have p:execOp a.eval o=callFunc g (first.toList++(j++d.toList)).toArray:=by
      rw [←l];simp only [execOp,E,resolve,s,b,t,Deferred.ofValue,pure_bind,invoke]
     split at h
     ·rename_i u;obtain⟨R,P,F,G,H⟩:=hC.fns g u;exact qE (by rw [p];exact rN F G H _ w) h hn
     ·obtain⟨N,w',i,D⟩:=h;obtain⟨v,I,J⟩:=xh D;cases I;refine nl (.inl ⟨N,w',?_,J⟩) hn;rw [p];unfold Gq at i;rw [Sem.run_bind]at i;generalize hq:(callFunc g (first.toList++(j++d.toList)).toArray).run C.P w=q at i⊢;cases q with
      |halt x y=>simp [Result.andThen]at i
      |ok nx y=>
       cases nx<;>simp [Result.andThen]at i
       obtain⟨rfl,rfl⟩:=i;rfl
    ·exact h.elim
   ·exact h.elim
  ·rename_i r m s;split at h
   ·rename_i M j L B k A;have b:c.args.map a.eval=j.toArray:=by apply Array.toList_inj.1;simp [←hS.evs k]
    obtain⟨g,O,i,h⟩:=h;refine qE ?_ h hn;rw [←i];have p:execOp a.eval o=callMethod M m j.toArray:=by
     simp only [execOp,E,resolve,s,b,hS.ev B,pure_bind,invoke];simp
    rw [p]
   ·exact h.elim
 ·exact nl (lw hC hS o h) hn
end
def tn (all:List Oper) (g:Option (Nat×Bool)) (e:dl) (yes no:dl→Prop):Prop:=match g with
 |none=>yes e
 |some (j,want)=>match dS all j with
  |none=>False
  |some oj=>match oj.dst with
   |none=>False
   |some d=>match e.get d with
    |some (.bool b)=>match want with
     |true=>ac b (yes ((d,.bool true)::e)) (no ((d,.bool false)::e))
     |false=>ac b (no ((d,.bool true)::e)) (yes ((d,.bool false)::e))
    |some (.tuple _)=>no e
    |_=>False
theorem Sim.again {n:Nat} {a:Act} {e:dl} (h:Sim n a e) {d:Nat} {v:Value} (hd:e.get d=some v):Sim n a ((d,v)::e):=by
 refine⟨h.size,h.defers,fun t u b=>?_⟩;simp only [dl.get]at b;split at b
 ·rename_i c;have:d=t:=Nat.eq_of_beq_eq_true c;subst this;cases b;exact h.get _ _ hd
 ·exact h.get _ _ b
structure jv (n:Nat) (ds:List Nat) (b:dl) (a:Act) (e:dl):Prop where
 sim:Sim n a e
 keep:∀t,t∉ds→e.get t=b.get t
theorem jv.again {n:Nat} {ds:List Nat} {b:dl} {a:Act} {e:dl} (h:jv n ds b a e) {d:Nat} {v:Value} (hd:e.get d=some v):jv n ds b a ((d,v)::e):=by
 refine⟨h.sim.again hd,fun t f=>?_⟩;simp only [dl.get];split
 ·rename_i c;have:d=t:=Nat.eq_of_beq_eq_true c;subst this;rw [←h.keep d f,hd]
 ·exact h.keep t f
theorem jv.put {n:Nat} {ds:List Nat} {b:dl} {a:Act} {e:dl} (h:jv n ds b a e) (d:Option Nat) (v:Value) (hd:∀t,d=some t→t<n∧t∈ds):jv n ds b (a.put d v) (e.put d v):=by
 refine⟨h.sim.put d v fun t c=>(hd t c).1,fun t c=>?_⟩;cases d with
 |none=>exact h.keep t c
 |some d=>
  simp only [dl.put,dl.get];split
  ·rename_i f;have:d=t:=Nat.eq_of_beq_eq_true f;subst this;exact absurd (hd d rfl).2 c
  ·exact h.keep t c
theorem pK {n:Nat} {ds:List Nat} {b0:dl} {a:Act} {e:dl} (hS:jv n ds b0 a e) {ops:Array Oper} {o:Oper} {yes no:dl→Prop} (h:tn ops.toList o.guard e yes no):
  (Region.wanted o (yielded ops a.tmps)=true∧∃e',jv n ds b0 a e'∧yes e')∨(Region.wanted o (yielded ops a.tmps)=false∧∃e',jv n ds b0 a e'∧no e'):=by
 unfold tn at h;split at h
 ·rename_i i;exact .inl ⟨by simp [Region.wanted,i],e,hS,h⟩
 ·rename_i j c i;rw [cX]at h;split at h
  ·exact h.elim
  ·rename_i q m;have g:ops[j]? =some q:=by simpa using m
   split at h
   ·exact h.elim
   ·rename_i d l;split at h
    ·rename_i b f;have k:yielded ops a.tmps j=some b:=by simp [yielded,g,l,hS.sim.get _ _ f]
     have p:Region.wanted o (yielded ops a.tmps)=(b==c):=by
      simp only [Region.wanted,i,k];cases b<;>cases c<;>rfl
     rw [p];cases c<;>cases b<;>simp only [ac]at h
     ·exact .inl ⟨rfl,_,hS.again f,h⟩
     ·exact .inr ⟨rfl,_,hS.again f,h⟩
     ·exact .inr ⟨rfl,_,hS.again f,h⟩
     ·exact .inl ⟨rfl,_,hS.again f,h⟩
    ·rename_i r f;have k:yielded ops a.tmps j=none:=by simp [yielded,g,l,hS.sim.get _ _ f]
     exact .inr ⟨by simp [Region.wanted,i,k],e,hS,h⟩
    ·exact h.elim
def pQ (C:ig) (all:List Oper):List Oper→dl→World→(dl→World→Prop)→Prop
 | [],e,w,K=>K e w
 |o::r,e,w,K=>tn all o.guard e (fun e'=>Gk C o e' w fun v w'=>pQ C all r (e'.put o.dst v) w' K) (fun e'=>pQ C all r (e'.put o.dst undef) w K)
def pT (n:Nat) (ops:List Oper):Bool:=ops.all fun o=>match o.dst with
 |some d=>Nat.blt d n
 |none=>true
theorem DJ {n:Nat} {ds:List Nat} {ops:List Oper} (h:pT n ops=true) (hds:∀o∈ops,∀d,o.dst=some d→d∈ds) {o:Oper} (ho:o∈ops):∀t,o.dst=some t→t<n∧t∈ds:=by
 intro t a;have:=List.all_eq_true.1 h o ho;simp only [a]at this;exact⟨Nat.lt_of_lt_of_le (Nat.lt_succ_self t) (Nat.le_of_ble_eq_true this),hds o ho t a⟩
theorem pC {C:ig} (hC:C.Ok) {n:Nat} {ds:List Nat} {b:dl} {ops:Array Oper} (hd:pT n ops.toList=true) (hds:∀o∈ops.toList,∀d,o.dst=some d→d∈ds) {K:dl→World→Prop} {Q:Exit→Act→World→Prop}
  (hQ:∀a e w,jv n ds b a e→K e w→Q .normal a w):∀(l:List Oper) (k:Nat) (a:Act) (e:dl) (w:World),ops.toList.drop k=l→jv n ds b a e→pQ C ops.toList l e w K→
  wpOps C.P ops Q (List.range' k l.length) a w
 | [],k,a,e,w,hl,hS,h=>hQ a e w hS h
 |o::r,k,a,e,w,hl,hS,h=>by
  have hk:ops[k]? =some o:=by
   have:=congrArg (·[0]?) hl;simpa using this
  have m:ops.toList.drop (k+1)=r:=by
   rw [←List.drop_drop,hl];rfl
  have g:o∈ops.toList:=by
   have:ops.toList[k]? =some o:=by simpa using hk
   exact List.mem_of_getElem? this
  have f:=DJ hd hds g;simp only [pQ]at h;simp only [List.length_cons,List.range'_succ,wpOps,hk];rcases pK hS h with⟨j,p,c,h⟩ |⟨j,p,c,h⟩
  ·rw [if_pos j];exact .inl (zC hC c.sim o h fun v q i=>pC hC hd hds hQ r (k+1) _ _ q m (c.put o.dst v f) i)
  ·rw [if_neg (by simp [j])];exact pC hC hd hds hQ r (k+1) _ _ w m (c.put o.dst undef f) h
theorem xD {C:ig} (hC:C.Ok) {n:Nat} {ds:List Nat} {b:dl} {id:Nat} {ops:Array Oper} (hd:pT n ops.toList=true) (hds:∀o∈ops.toList,∀d,o.dst=some d→d∈ds) {K:dl→World→Prop} {Q:Exit→Act→World→Prop}
  (hQ:∀a e w,jv n ds b a e→K e w→Q .normal a w) {a:Act} {e:dl} {w:World} (hS:jv n ds b a e) (h:pQ C ops.toList ops.toList e w K):(Code.region id ops false).wp C.P Q a w:=by
 refine wp_region ?_;have:=pC hC hd hds hQ ops.toList 0 a e w (by simp) hS h;rw [List.range_eq_range'];simpa using this
def ix (C:ig) (o:Oper):Bool:=match o.op with
 | .move _=>true
 | .assign _=>true
 | .pick .. =>true
 | .nilCheck _=>true
 | .fieldAddr .. =>true
 | .field .. =>true
 | .indexAddr .. =>true
 | .extract .. =>true
 | .slice .. =>true
 | .makeFunc .. =>true
 | .makeInterface .. =>true
 | .unOp .. =>true
 | .load .. =>true
 | .binOp .. =>true
 | .build .. =>true
 | .convert s d _=>match(C.ty d).intk,(C.ty s).intk with
  |some _,some _=>true
  |_,_=>false
 | .index t _ _=>(C.ty t).isStr
 | .call c=>match c.callee with
  | .builtin .len=>match c.argTypes.toList with
   | [u]=>(C.ty u).isStr||(C.ty u).isSlc
   |_=>false
  |_=>false
 |_=>false
def lp (x y:Value):Bool:=match x,y with
 | .int ..,.int .. =>true
 | .string _,.string _=>true
 | .bool _,.bool _=>true
 | .pointer _,.pointer none=>true
 | .slice ..,.slice none _ _=>true
 | .map _,.map none=>true
 | .agg _,.agg _=>true
 |_,_=>false
def oL (o:Oper) (e:dl):Bool:=match o.op with
 | .load .. =>false
 | .binOp _ _ x y _=>match ev e x,ev e y with
  |some a,some b=>lp a b
  |_,_=>false
 | .convert _ _ x=>match ev e x with
  |some (.int _ _)=>true
  |_=>false
 | .index _ x i=>match ev e x,ev e i with
  |some (.string _),some (.int _ _)=>true
  |_,_=>false
 | .call c=>match KJ e c.args.toList with
  |some [.string _]=>true
  |some [.slice ..]=>true
  |_=>false
 |_=>true
def vR (C:ig) (t:TypeId) (x:Operand) (e:dl) (w:World) (K:Addr→List Value→Value→Prop):Prop:=match ev e x with
 |some (.pointer p)=>ag p fun ad=>match(C.ty t).agg,(C.ty t).rs,(C.ty t).size with
  |some false,some (.one (.leaf l)),_=>KC l fun v=>w.cell? ad=some v∧K ad [v] v
  |some true,some (.one (.agg ls)),some n=>match Nat.beq n ls.length with
   |true=>Fu ls fun vs=>fY w ad vs 0∧K ad vs (.agg vs.toArray)
   |false=>False
  |_,_,_=>False
 |_=>False
section
variable {C:ig} {n:Nat} {a:Act} {e:dl} {w:World} {K:Value→World→Prop}
theorem uz {op:BinOp} {t:TypeId} {cx cy:Operand} {x y:Value} {ot:TypeId} (hp:lp x y=true) (h:fr C op t cx cy x y ot w K):
  ∃v,K v w∧∀w' (K':Value→World→Prop),K' v w'→fr C op t cx cy x y ot w' K':=by
 unfold lp at hp;split at hp
 ·rename_i k a f b;cases op<;>simp only [fr]at h⊢
  case shl=>exact⟨_,h.2,fun w' K' c=>⟨h.1,c⟩⟩
  case shr=>exact⟨_,h.2,fun w' K' c=>⟨h.1,c⟩⟩
  all_goals
   split at h
   ·first
     |exact⟨_,h.2,fun w' K' c=>⟨h.1,c⟩⟩
     |exact⟨_,h,fun w' K' c=>c⟩
   ·exact h.elim
 ·cases op<;>simp only [fr]at h⊢
  case add=>exact⟨_,h.2,fun w' K' c=>⟨h.1,c⟩⟩
  all_goals first |exact⟨_,h,fun w' K' c=>c⟩ |exact h.elim
 ·simp only [fr]at h⊢;split at h<;>first |exact⟨_,h,fun w' K' c=>c⟩ |exact h.elim
 ·simp only [fr,Df]at h⊢;split at h<;>first |exact⟨_,h,fun w' K' c=>c⟩ |exact h.elim
 ·simp only [fr]at h⊢;split at h<;>first |exact⟨_,h,fun w' K' c=>c⟩ |exact h.elim
 ·simp only [fr]at h⊢;split at h<;>first |exact⟨_,h,fun w' K' c=>c⟩ |exact h.elim
 ·simp only [fr]at h⊢;split at h
  ·exact h.elim
  ·rename_i l e;split at h
   ·rename_i b d;exact⟨_,h,fun w' K' c=>c⟩
   ·rename_i b d;exact⟨_,h,fun w' K' c=>c⟩
   ·exact h.elim
 ·simp at hp
theorem xM {op:BinOp} {t:TypeId} {cx cy:Operand} {x y:Value} {ot:TypeId} (hp:lp x y=true) (h:pF C op t cx cy x y ot w K):
  ∃v,K v w∧∀w' (K':Value→World→Prop),K' v w'→pF C op t cx cy x y ot w' K':=by
 have a:H8 y=false:=by
  cases y<;>first |rfl |(exfalso;cases x<;>simp [lp]at hp)
 simp only [pF,a]at h⊢;exact uz hp h
theorem G_ {o:Oper} (hq:ix C o=true) (hd:oL o e=true) (h:fy C o e w K):∃v,K v w∧∀w' (K':Value→World→Prop),K' v w'→fy C o e w' K':=by
 cases ho:o.op<;>simp only [ix,oL,ho,Bool.false_eq_true]at hq hd<;>simp only [fy,ho]at h⊢
 case move x=>split at h<;>first |exact h.elim |exact⟨_,h,fun w' K' a=>a⟩
 case assign x=>split at h<;>first |exact h.elim |exact⟨_,h,fun w' K' a=>a⟩
 case pick c x y=>
  split at h
  ·rename_i b u v _ _ _;cases b
   ·exact⟨_,h,fun w' K' a=>a⟩
   ·exact⟨_,h,fun w' K' a=>a⟩
  ·exact h.elim
 case nilCheck x=>
  split at h
  ·obtain⟨r,rfl,h⟩:=gw h;exact⟨_,h,fun w' K' a=>a⟩
  ·exact⟨_,h.2,fun w' K' a=>⟨h.1,a⟩⟩
  ·exact h.elim
 case fieldAddr t x f=>
  split at h
  ·obtain⟨r,rfl,h⟩:=gw h;split at h
   ·exact⟨_,h,fun w' K' a=>by simp only [ag, *]⟩
   ·exact h.elim
  ·exact h.elim
 case field t x f=>
  split at h
  ·split at h
   ·exact⟨_,h,fun w' K' a=>a⟩
   ·split at h
    ·exact⟨_,h,fun w' K' a=>a⟩
    ·exact h.elim
   ·exact h.elim
  ·exact h.elim
 case indexAddr t x i=>
  split at h
  ·split at h
   ·obtain⟨r,rfl,g,l,h⟩:=gw h;exact⟨_,h,fun w' K' a=>⟨g,l,a⟩⟩
   ·exact h.elim
  ·split at h
   ·obtain⟨r,rfl,g,l,h⟩:=gw h;exact⟨_,h,fun w' K' a=>⟨g,l,a⟩⟩
   ·exact h.elim
  ·exact h.elim
 case extract x i=>
  split at h
  ·split at h
   ·split at h
    ·exact⟨_,h,fun w' K' a=>a⟩
    ·split at h
     ·obtain⟨u,n,rfl,h⟩:=Oo h;exact⟨_,h,fun w' K' a=>NV n ⟨rfl,a⟩⟩
     ·rename_i H;exact⟨_,h,fun w' K' a=>a⟩
   ·exact h.elim
  ·exact h.elim
 case slice t x lo hi mx=>
  split at h
  ·split at h
   ·obtain⟨g,l,z,h⟩:=h;exact⟨_,h,fun w' K' a=>⟨g,l,z,a⟩⟩
   ·exact h.elim
  ·split at h
   ·obtain⟨g,l,z,B,D,h⟩:=h;exact⟨_,h,fun w' K' a=>⟨g,l,z,B,D,a⟩⟩
   ·exact h.elim
  ·exact h.elim
 case build t ps=>
  split at h
  ·split at h<;>first |exact h.elim |exact⟨_,h,fun w' K' a=>a⟩
  ·split at h<;>first |exact h.elim |exact⟨_,h,fun w' K' a=>a⟩
  ·exact h.elim
 case makeFunc fn f c=>split at h<;>first |exact h.elim |exact⟨_,h,fun w' K' a=>a⟩
 case makeInterface t x=>split at h<;>first |exact h.elim |exact⟨_,h,fun w' K' a=>a⟩
 case unOp op t x=>split at h<;>first |exact h.elim |exact⟨_,h,fun w' K' a=>a⟩
 case binOp op t x y yt=>
  split at h
  ·rename_i u v n I;simp only [n,I]at hd;exact xM hd h
  ·exact h.elim
 case convert s d x=>
  split at hq
  ·rename_i k L a A;split at hd
   ·rename_i M m G;simp only [G,a,A]at h⊢;exact⟨_,h,fun w' K' a=>a⟩
   ·simp at hd
  ·simp at hq
 case index t x i=>
  split at hd
  ·rename_i s k j q F;simp only [q,F,hq]at h⊢;obtain⟨g,l,h⟩:=h;exact⟨_,h,fun w' K' a=>⟨g,l,a⟩⟩
  ·simp at hd
 case call c=>
  split at hq
  ·rename_i E;split at hq
   ·rename_i u n;simp only [E]at h⊢;split at hd
    ·rename_i s q;simp only [q,iJ,n]at h⊢;split at h
     ·exact⟨_,h,fun w' K' a=>a⟩
     ·exact h.elim
    ·rename_i p m J q;simp only [q,iJ,n]at h⊢;split at h
     ·exact⟨_,h,fun w' K' a=>a⟩
     ·exact h.elim
    ·simp at hd
   ·simp at hq
  ·simp at hq
theorem FA (hC:C.Ok) (hS:Sim n a e) {o:Oper} (hq:ix C o=true) (hd:oL o e=true) (h:fy C o e w K):
  ∃v,K v w∧∀w',(execOp a.eval o).run C.P w'= .ok (.value v) w':=by
 obtain⟨v,f,b⟩:=G_ hq hd h;refine⟨v,f,fun w'=>?_⟩;rcases lw hC hS o (b w' (fun d c=>d=v∧c=w') ⟨rfl,rfl⟩)with⟨d,c,g,rfl,rfl⟩ |⟨i,_⟩
 ·exact g
 ·exfalso;cases ho:o.op<;>simp [ix,tI,ho]at hq i
end
def mz:List Nat→Nat→Bool
 | [],_=>false
 |x::r,k=>Nat.beq x k||mz r k
def Gl (ops:List Oper) (L:List Nat) (i:Nat):Bool:= !mz L i&&match dS ops i with
 |some o=>o.after.toList.all fun e=> !Region.binds .any e||mz L e.on
 |none=>false
def K7:Nat→List Nat
 |0=>[]
 |n+1=>K7 n++ [n]
def sv (ops:List Oper) (L:List Nat):List Nat:=(K7 ops.length).filter (Gl ops L)
def iW (C:ig) (ops:List Oper) (i:Nat):Bool:=match dS ops i with
 |some o=>ix C o
 |none=>false
def xQ (ops:List Oper):Nat→Nat→Nat→Bool
 |0,_,_=>false
 |f+1,i,j=>match dS ops j with
  |none=>false
  |some o=>o.after.toList.any fun e=>Region.binds .any e&&(Nat.beq e.on i||xQ ops f i e.on)
def xH (C:ig) (ops:List Oper) (i:Nat) (L:List Nat):Bool:=L.any fun j=> !iW C ops j&&xQ ops ops.length i j
def jD (C:ig) (ops:List Oper) (L:List Nat) (w:World):List (Nat×Addr×List Value)→Prop→Prop
 | [],p=>p
 |(i,ad,cs)::r,p=>match xH C ops i L with
  |true=>jD C ops L w r p
  |false=>fY w ad cs 0∧jD C ops L w r p
theorem kc {C:ig} {ops:List Oper} {L:List Nat} {w:World} {p:Prop}:∀ {pend:List (Nat×Addr×List Value)},jD C ops L w pend p→p∧∀x∈pend,xH C ops x.1 L=false→fY w x.2.1 x.2.2 0
 | [],h=>⟨h,fun _ hx=>by cases hx⟩
 |(i,ad,cs)::r,h=>by
  simp only [jD]at h;split at h
  ·rename_i hb;obtain⟨h1,h2⟩:=kc h;refine⟨h1,fun x hx hxb=>?_⟩;rcases List.mem_cons.1 hx with rfl |hx
   ·simp [hb]at hxb
   ·exact h2 x hx hxb
  ·obtain⟨h0,h⟩:=h;obtain⟨h1,h2⟩:=kc h;refine⟨h1,fun x hx hxb=>?_⟩;rcases List.mem_cons.1 hx with rfl |hx
   ·exact h0
   ·exact h2 x hx hxb
def Ix (p:Nat→Prop):Nat→List Nat→Prop
 |j,[]=>p j
 |j,k::r=>p j∧Ix p k r
theorem vf {p:Nat→Prop}:∀ {j:Nat} {js:List Nat},Ix p j js→∀i∈j::js,p i
 |j,[],h,i,hi=>by simp at hi;subst hi;exact h
 |j,k::r,h,i,hi=>by
  rcases List.mem_cons.1 hi with rfl |hi
  ·exact h.1
  ·exact vf h.2 i hi
def fP (C:ig) (ops:List Oper):Nat→List Nat→List (Nat×Addr×List Value)→dl→World→(dl→World→Prop)→Prop
 |0,L,_,e,w,K=>match sv ops L with
  | []=>K e w
  |_=>False
 |f+1,L,pend,e,w,K=>match(sv ops L).filter (iW C ops)with
  |i::_=>match dS ops i with
   |none=>False
   |some o=>tn ops o.guard e
    (fun e'=>match o.op with
     | .load t x=>vR C t x e' w fun ad cs v=>fP C ops f (i::L) ((i,ad,cs)::pend) (e'.put o.dst v) w K
     |_=>match oL o e' with
      |true=>fy C o e' w fun v _=>fP C ops f (i::L) pend (e'.put o.dst v) w K
      |false=>False)
    (fun e'=>fP C ops f (i::L) pend (e'.put o.dst undef) w K)
  | []=>match sv ops L with
   | []=>K e w
   |j::js=>Ix (fun j=>match dS ops j with
    |none=>False
    |some o=>tn ops o.guard e
     (fun e'=>Gk C o e' w fun v w'=>jD C ops (j::L) w' pend (fP C ops f (j::L) pend (e'.put o.dst v) w' K))
     (fun e'=>fP C ops f (j::L) pend (e'.put o.dst undef) w K)) j js
def wF (C:ig) (ops:Array Oper):Bool:=(List.range ops.size).all fun i=> !iW C ops.toList i||(List.range ops.size).all fun j=>Nat.beq i j||xQ ops.toList ops.size i j||xQ ops.toList ops.size j i||match ops[i]?,ops[j]? with
 |some x,some y=>x.apart ops y
 |_,_=>false
section
variable {P:Program} {ops:Array Oper} {Q:Exit→Act→World→Prop}
def lB (P:Program) (ops:Array Oper) (Q:Exit→Act→World→Prop) (S:Array Bool→World→Prop):Nat→Array Bool→Act→World→Prop
 |0,listed,a,w=>Region.ready .any ops listed= []∧Q .normal a w
 |fuel+1,listed,a,w=>
  (Region.ready .any ops listed= []→Q .normal a w)∧
  ∀i∈Region.ready .any ops listed,wpOp P ops Q i (fun a' w'=>S (listed.setIfInBounds i true) w'∧lB P ops Q S fuel (listed.setIfInBounds i true) a' w') a w
theorem sB {S:Array Bool→World→Prop}:∀(fuel:Nat) (listed:Array Bool) (a:Act) (w:World),lB P ops Q S fuel listed a w→wpAny P .any ops Q fuel listed a w
 |0,_,_,_,h=>h
 |fuel+1,_,_,_,h=>⟨h.1,fun i hi=>wpOp_mono (fun a' w' h'=>sB fuel _ a' w' h'.2) (h.2 i hi)⟩
theorem gU {S S':Array Bool→World→Prop} (hs:∀l w,S l w→S' l w):∀(fuel:Nat) (listed:Array Bool) (a:Act) (w:World),lB P ops Q S fuel listed a w→lB P ops Q S' fuel listed a w
 |0,_,_,_,h=>h
 |fuel+1,_,_,_,h=>⟨h.1,fun i hi=>wpOp_mono (fun a' w' h'=>⟨hs _ _ h'.1,gU hs fuel _ a' w' h'.2⟩) (h.2 i hi)⟩
def mX (ops:Array Oper) (listed:Array Bool):Prop:=∀j o,ops[j]? =some o→listed.getD j false=true→∀e∈o.after,Region.binds .any e=true→listed.getD e.on false=true
theorem nc {listed:Array Bool} (hc:mX ops listed) {i:Nat}:∀(f j:Nat),listed.getD j false=true→xQ ops.toList f i j=true→listed.getD i false=true
 |0,_,_,h=>by simp [xQ]at h
 |f+1,j,hj,h=>by
  simp only [xQ,cX]at h;split at h
  ·simp at h
  ·rename_i o ho;have ho':ops[j]? =some o:=by simpa using ho
   obtain⟨e,d,b⟩:=List.any_eq_true.1 h;rw [Bool.and_eq_true,Bool.or_eq_true]at b;have c:=hc j o ho' hj e (by simpa using d) b.1;rcases b.2 with a |a
   ·have:=Nat.eq_of_beq_eq_true a;exact this▸c
   ·exact nc hc f e.on c a
theorem j_ {listed:Array Bool} (hc:mX ops listed) {i:Nat} (hi:i∈Region.ready .any ops listed):mX ops (listed.setIfInBounds i true):=by
 intro j o g h e f d;by_cases hij:j=i
 ·subst hij;obtain⟨_,k,b,a⟩:=mem_ready.1 hi;rw [g]at b;cases b;exact getD_set_true (a e f d)
 ·have c:listed.getD j false=true:=by rw [←getD_set_ne false (Ne.symm hij)];exact h
  exact getD_set_true (hc j o g c e f d)
theorem vo {listed:Array Bool} (hc:mX ops listed) {i j:Nat} (hj:j∈Region.ready .any ops listed) (hi:listed.getD i false=false) (f:Nat):xQ ops.toList f i j=false:=by
 cases f with
 |zero=>rfl
 |succ f=>
  obtain⟨_,o,k,a⟩:=mem_ready.1 hj;have g:ops.toList[j]? =some o:=by simpa using k
  simp only [xQ,cX,g];rw [List.any_eq_false];intro e h d;rw [Bool.and_eq_true,Bool.or_eq_true]at d;have b:=a e (by simpa using h) d.1;rcases d.2 with c |c
  ·have:=Nat.eq_of_beq_eq_true c;rw [this,hi]at b;cases b
  ·have:=nc hc f e.on b c;rw [hi]at this;cases this
theorem tU {listed:Array Bool} {i:Nat} (h:listed.getD i true=false):listed.getD i false=false:=by
 rcases Nat.lt_or_ge i listed.size with a |a
 ·simp [a]at h⊢;exact h
 ·simp [Array.getElem?_eq_none a]at h
theorem wl (act:Nat→Bool) {i:Nat} {oi:Oper} {v:Value} {Si:World→Prop} {S:Array Bool→World→Prop} (hi:ops[i]? =some oi) (hsel:∀(j:Nat) (o:Oper) cs b,ops[j]? =some o→o.op≠ .select cs b)
  (hQ:∀c a w,Q (.panic c) (a.put oi.dst v) w→Q (.panic c) a w) (hact:act i=false) (hS:∀l w,S (l.setIfInBounds i true) w→S l w)
  (hfree:∀j oj,ops[j]? =some oj→j≠i→xQ ops.toList ops.size i j=false→xQ ops.toList ops.size j i=false→oi.apart ops oj=true):
  ∀(fuel:Nat) (listed:Array Bool) (a:Act) (w:World),mX ops listed→i∈Region.ready .any ops listed→YieldsIf P ops Si oi v a→Si w→S (listed.setIfInBounds i true) w→
   lB P ops Q (fun l w=>S l w∧((∀k,l.getD k false=true→act k=true→xQ ops.toList ops.size i k=false)→Si w)) fuel (listed.setIfInBounds i true) (a.put oi.dst v) w→lB P ops Q S (fuel+1) listed a w:=by
 intro fuel;induction fuel with
 |zero=>
  intro listed a w z e A D g H;refine⟨fun h=>(by rw [h]at e;cases e),fun j r=>?_⟩;by_cases hji:j=i
  ·subst hji;exact A.wpOp hi D ⟨g,H⟩
  ·have:=ready_mono r hji;rw [H.1]at this;cases this
 |succ fuel ih=>
  intro listed a w z e A D g H;refine⟨fun h=>(by rw [h]at e;cases e),fun j r=>?_⟩;by_cases hji:j=i
  ·subst hji;exact A.wpOp hi D ⟨g,gU (fun _ _ h=>h.1) _ _ _ _ H⟩
  ·have L:=H.2 j (ready_mono r hji);obtain⟨x,oj,p,G⟩:=mem_ready.1 r;have d:listed.getD i false=false:=tU (mem_ready.1 e).1;have n:listed.getD j false=false:=tU x;have t:xQ ops.toList ops.size i j=false:=vo z r d _;have m:xQ ops.toList ops.size j i=false:=vo z e n _;have M:=wpOp_putIf p (hfree j oj p hji t m) (fun cs b=>hsel i oi cs b hi) (fun cs b=>hsel j oj cs b p) hQ A L;refine wpOp_mono (fun K J N=>?_) M;obtain⟨F,⟨f,s⟩,q⟩:=N;rw [Array.setIfInBounds_comm _ _ (Ne.symm hji)]at f;have u:=j_ z r;have B:(listed.setIfInBounds j true).getD i false=false:=by rw [getD_set_ne false hji];exact d
   have E:Si J:=s fun k I y=>by
    by_cases hki:k=i
    ·subst hki;rw [hact]at y;cases y
    ·have C:(listed.setIfInBounds j true).getD k false=true:=by
      rw [Array.setIfInBounds_comm _ _ (Ne.symm hji),getD_set_ne false (Ne.symm hki)]at I;exact I
     cases hx:xQ ops.toList ops.size i k with
     |false=>rfl
     |true=>
      have:=nc u ops.size k C hx;rw [B]at this;cases this
   refine⟨hS _ _ f,ih (listed.setIfInBounds j true) K J u (ready_mono e (Ne.symm hji)) F E f ?_⟩;rw [Array.setIfInBounds_comm _ _ hji];exact q
end
theorem kO:∀(L:List Nat) (k:Nat),mz L k=true↔k∈L
 | [],k=>by simp [mz]
 |x::r,k=>by
  simp only [mz,Bool.or_eq_true,List.mem_cons,kO r k];constructor
  ·rintro(h |h)
   ·exact .inl (Nat.eq_of_beq_eq_true h).symm
   ·exact .inr h
  ·rintro(h |h)
   ·exact .inl (by subst h;exact Nat.beq_refl _)
   ·exact .inr h
theorem Gf:∀n,K7 n=List.range n
 |0=>rfl
 |n+1=>by rw [K7,Gf n,List.range_succ]
def vI (ops:Array Oper) (L:List Nat) (listed:Array Bool):Prop:=listed.size=ops.size∧∀k,listed.getD k false=mz L k
theorem oe {ops:Array Oper} {L:List Nat} {listed:Array Bool} (h:vI ops L listed):Region.ready .any ops listed=sv ops.toList L:=by
 unfold Region.ready sv;rw [Gf];simp only [Array.length_toList];refine List.filter_congr fun i c=>?_;have a:i<ops.size:=List.mem_range.1 c;have d:listed.getD i true=mz L i:=by
  rw [←h.2 i];simp [h.1,a]
 simp only [Gl,cX,d];have f:ops[i]? =some ops[i]:=by simp [a]
 have b:ops.toList[i]? =some ops[i]:=by simp [a]
 rw [f,b];simp only [Option.map_some,Option.getD_some];congr 1;rw [←Array.all_toList];congr 1;funext e;rw [h.2]
theorem lX {ops:Array Oper} {L:List Nat} {listed:Array Bool} (h:vI ops L listed) {i:Nat} (hi:i<ops.size):vI ops (i::L) (listed.setIfInBounds i true):=by
 refine⟨by simp [h.1],fun k=>?_⟩;by_cases hk:i=k
 ·subst hk;simp [mz,h.1,hi]
 ·rw [getD_set_ne false hk,h.2];have:Nat.beq i k=false:=by
   cases hb:Nat.beq i k with
   |false=>rfl
   |true=>exact absurd (Nat.eq_of_beq_eq_true hb) hk
  simp [mz,this]
def lh (C:ig) (ops:Array Oper) (pend:List (Nat×Addr×List Value)) (l:Array Bool) (w:World):Prop:=
 ∀x∈pend,(∀k,l.getD k false=true→(!iW C ops.toList k)=true→xQ ops.toList ops.size x.1 k=false)→fY w x.2.1 x.2.2 0
theorem pB {C:ig} {ops:Array Oper} {L:List Nat} {l:Array Bool} {w:World} {p:Prop} {pend:List (Nat×Addr×List Value)} (ht:vI ops L l) (h:jD C ops.toList L w pend p):p∧lh C ops pend l w:=by
 obtain⟨c,d⟩:=kc h;refine⟨c,fun x g e=>d x g ?_⟩;unfold xH;rw [List.any_eq_false];intro k b a;rw [Bool.and_eq_true]at a;have f:l.getD k false=true:=by rw [ht.2];exact(kO L k).2 b
 have:=e k f a.1;rw [Array.length_toList,this]at a;exact absurd a.2 (by simp)
theorem Hl {C:ig} {ops:Array Oper} {pend:List (Nat×Addr×List Value)} {i:Nat} (hq:iW C ops.toList i=true) (l:Array Bool) (w:World) (h:lh C ops pend (l.setIfInBounds i true) w):lh C ops pend l w:=by
 intro x d c;refine h x d fun k b a=>?_;by_cases hki:k=i
 ·subst hki;simp [hq]at a
 ·rw [getD_set_ne false (Ne.symm hki)]at b;exact c k b a
theorem fF {C:ig} {ops:Array Oper} {pend:List (Nat×Addr×List Value)} {i:Nat} (l:Array Bool) (w:World) (h:lh C ops pend l w):lh C ops pend (l.setIfInBounds i true) w:=by
 intro x d b;exact h x d fun k c a=>b k (getD_set_true c) a
theorem nv {α:Type} {p:α→Bool} {l r:List α} {x:α} (h:l.filter p=x::r):x∈l∧p x=true:=by
 have:x∈l.filter p:=by rw [h];simp
 exact List.mem_filter.1 this
theorem sA {C:ig} (hC:C.Ok) {n:Nat} {a:Act} {e:dl} (hS:Sim n a e) {o:Oper} {t:TypeId} {x:Operand} (ho:o.op= .load t x) {w:World} {K:Addr→List Value→Value→Prop}
  (h:vR C t x e w K):∃ad cs v,K ad cs v∧fY w ad cs 0∧∀w',fY w' ad cs 0→(execOp a.eval o).run C.P w'= .ok (.value v) w':=by
 unfold vR at h;split at h
 ·rename_i p k;obtain⟨ad,rfl,h⟩:=gw h;split at h
  ·rename_i l _ b _;obtain⟨v,u,g⟩:=lV h;refine⟨ad,[v],v,g,⟨u,trivial⟩,fun w' c=>?_⟩;have j:w'.cell? ad=some v:=c.1;simp [execOp,ho,hS.ev k,Instr.loadAt,Instr.sureAddr,loadVar,fN ((hC.ty t).agg _ b),j,Result.andThen]
  ·rename_i y m b _ i;split at h
   ·rename_i f;have f:m=y.length:=Nat.eq_of_beq_eq_true f;obtain⟨q,s,r,g⟩:=lj h;refine⟨ad,q,_,g,r,fun w' c=>?_⟩;have d:=eJ (P:=C.P) q 0 #[] c;rw [s, ←f]at d;simp [execOp,ho,hS.ev k,Instr.loadAt,Instr.sureAddr,loadVar,fN ((hC.ty t).agg _ b),cD ((hC.ty t).size _ i),loadCells,d,Result.andThen]
   ·exact h.elim
  ·exact h.elim
 ·exact h.elim
section
variable {C:ig} {n:Nat} {ds:List Nat} {b:dl} {ops:Array Oper} {K:dl→World→Prop} {Q:Exit→Act→World→Prop}
theorem iX (hC:C.Ok) (hd:pT n ops.toList=true) (hds:∀o∈ops.toList,∀d,o.dst=some d→d∈ds) (hsel:Region.noSelect ops=true) (hap:wF C ops=true)
  (hQ:∀a e w,jv n ds b a e→K e w→Q .normal a w) (hQp:∀c (d:Option Nat) v a w,Q (.panic c) (a.put d v) w→Q (.panic c) a w):
  ∀(f:Nat) (L:List Nat) (pend:List (Nat×Addr×List Value)) (e:dl) (w:World) (listed:Array Bool) (a:Act),vI ops L listed→mX ops listed→jv n ds b a e→lh C ops pend listed w→
   fP C ops.toList f L pend e w K→lB C.P ops Q (lh C ops pend) f listed a w
 |0,L,pend,e,w,listed,a,ht,hc,hS,hp,h=>by
  simp only [fP]at h;split at h
  ·rename_i hr;exact⟨by rw [oe ht,hr],hQ a e w hS h⟩
  ·exact h.elim
 |f+1,L,pend,e,w,listed,a,ht,hc,hS,hp,h=>by
  simp only [fP]at h;have hapart:∀i oi,ops[i]? =some oi→iW C ops.toList i=true→∀j oj,ops[j]? =some oj→j≠i→xQ ops.toList ops.size i j=false→xQ ops.toList ops.size j i=false→oi.apart ops oj=true:=by
   intro i oi D I j oj hj a2 h1 h2;have a1:i<ops.size:=by
    rcases Nat.lt_or_ge i ops.size with h |h
    ·exact h
    ·simp [Array.getElem?_eq_none h]at D
   have a3:j<ops.size:=by
    rcases Nat.lt_or_ge j ops.size with h |h
    ·exact h
    ·simp [Array.getElem?_eq_none h]at hj
   have h3:=List.all_eq_true.1 hap i (List.mem_range.2 a1);simp only [I,Bool.not_true,Bool.false_or]at h3;have h4:=List.all_eq_true.1 h3 j (List.mem_range.2 a3);have Z:Nat.beq i j=false:=by
    cases Z:Nat.beq i j with
    |false=>rfl
    |true=>exact absurd (Nat.eq_of_beq_eq_true Z).symm a2
   simpa only [Z,h1,h2,D,hj,Bool.false_or]using h4
  split at h
  ·rename_i i rest U;obtain⟨V,I⟩:=nv U;have q:i∈Region.ready .any ops listed:=by rw [oe ht];exact V
   rw [cX]at h;split at h
   ·exact h.elim
   ·rename_i o R;have r:ops[i]? =some o:=by simpa using R
    have z:i<ops.size:=by
     rcases Nat.lt_or_ge i ops.size with h |h
     ·exact h
     ·simp [Array.getElem?_eq_none h]at r
    have a5:ix C o=true:=by
     unfold iW at I;rw [cX,R]at I;exact I
    have B:=DJ hd hds (List.mem_of_getElem? R);have m:=fun(v:Value) (Si:World→Prop)=>wl (P:=C.P) (Q:=Q) (fun k=> !iW C ops.toList k) (v:=v) (Si:=Si) (S:=lh C ops pend) r (Region.noSelect_spec hsel) (fun c a w=>hQp c o.dst v a w) (by simp [I]) (Hl I) (hapart i o r I) f listed a w hc q;have A:=fun(N:List (Nat×Addr×List Value)) (u:dl) (v:Value) (g:jv n ds b a u) s a0=>iX hC hd hds hsel hap hQ hQp f (i::L) N (u.put o.dst v) w (listed.setIfInBounds i true) (a.put o.dst v) (lX ht z) (j_ hc q) (g.put o.dst v B) s a0;rcases pK hS h with⟨J,u,g,h⟩ |⟨J,u,g,h⟩
    ·have O:∀v,(∀G,(execOp a.eval o).run C.P G= .ok (.value v) G)→fP C ops.toList f (i::L) pend (u.put o.dst v) w K→lB C.P ops Q (lh C ops pend) (f+1) listed a w:=fun v p E=>
      m v (fun _=>True) (.inl ⟨J,fun G _=>p G⟩) trivial (fF _ _ hp) (gU (fun _ _ h=>⟨h,fun _=>trivial⟩) _ _ _ _ (A pend u v g (fF _ _ hp) E))
     split at h
     ·rename_i t x a4;obtain⟨X,Y,v,E,y,p⟩:=sA hC g.sim a4 h;refine m v (fun G=>fY G X Y 0) (.inl ⟨J,p⟩) y (fF _ _ hp) ?_;have s:lh C ops ((i,X,Y)::pend) (listed.setIfInBounds i true) w:=by
       intro x W M;rcases List.mem_cons.1 W with rfl |W
       ·exact y
       ·exact fF _ _ hp x W M
      refine gU (fun l G hl=>⟨fun x W=>hl x (List.mem_cons_of_mem _ W),fun M=>hl (i,X,Y) (by simp) M⟩) _ _ _ _ (A ((i,X,Y)::pend) u v g s E)
     ·split at h
      ·rename_i T;obtain⟨v,E,p⟩:=FA hC g.sim a5 T h;exact O v p E
      ·exact h.elim
    ·exact m undef (fun _=>True) (.inr ⟨J,rfl⟩) trivial (fF _ _ hp) (gU (fun _ _ h=>⟨h,fun _=>trivial⟩) _ _ _ _ (A pend u undef g (fF _ _ hp) h))
  ·split at h
   ·rename_i hr;have F:Region.ready .any ops listed= []:=by rw [oe ht,hr]
    exact⟨fun _=>hQ a e w hS h,fun i D=>by rw [F]at D;cases D⟩
   ·rename_i j js hr;have F:Region.ready .any ops listed=j::js:=by rw [oe ht,hr]
    refine⟨fun H=>(by rw [F]at H;cases H),fun i D=>?_⟩;have h:=vf h i (by rw [←F];exact D);rw [cX]at h;split at h
    ·exact h.elim
    ·rename_i o R;have r:ops[i]? =some o:=by simpa using R
     have z:i<ops.size:=by
      rcases Nat.lt_or_ge i ops.size with h |h
      ·exact h
      ·simp [Array.getElem?_eq_none h]at r
     have B:=DJ hd hds (List.mem_of_getElem? R);unfold wpOp;simp only [r];rcases pK hS h with⟨J,u,g,h⟩ |⟨J,u,g,h⟩
     ·rw [if_pos J];refine .inl (zC hC g.sim o h fun v G E=>?_);obtain⟨E,s⟩:=pB (lX ht z) E;exact⟨s,iX hC hd hds hsel hap hQ hQp f (i::L) pend (u.put o.dst v) G (listed.setIfInBounds i true) (a.put o.dst v) (lX ht z) (j_ hc D) (g.put o.dst v B) s E⟩
     ·rw [if_neg (by simp [J])];exact⟨fF _ _ hp,iX hC hd hds hsel hap hQ hQp f (i::L) pend (u.put o.dst undef) w (listed.setIfInBounds i true) (a.put o.dst undef) (lX ht z) (j_ hc D) (g.put o.dst undef B) (fF _ _ hp) h⟩
theorem D9 (hC:C.Ok) {id:Nat} (hd:pT n ops.toList=true) (hds:∀o∈ops.toList,∀d,o.dst=some d→d∈ds) (hsel:Region.noSelect ops=true) (hap:wF C ops=true)
  (hQ:∀a e w,jv n ds b a e→K e w→Q .normal a w) (hQp:∀c (d:Option Nat) v a w,Q (.panic c) (a.put d v) w→Q (.panic c) a w)
  {a:Act} {e:dl} {w:World} (hS:jv n ds b a e) (h:fP C ops.toList ops.toList.length [] [] e w.drew K):(Code.region id ops true).wp C.P Q a w:=by
 refine wp_region_any hC.mixed (sB (S:=lh C ops []) _ _ _ _ ?_);have i:vI ops [] (Array.replicate ops.size false):=by
  refine⟨by simp,fun k=>?_⟩;rcases Nat.lt_or_ge k ops.size with f |f
  ·simp [mz,f]
  ·simp [mz,Array.getElem?_eq_none,f]
 have l:mX ops (Array.replicate ops.size false):=by
  intro j o p g;rw [i.2]at g;simp [mz]at g
 have:=iX hC hd hds hsel hap hQ hQp ops.toList.length [] [] e w.drew (Array.replicate ops.size false) a i l hS (fun x m=>by cases m) h;simpa using this
end
inductive Ex where
 |normal |exit (id:Nat) |ret
def Ex.to:Ex→Exit
 | .normal=>.normal
 | .exit id=>.exit id
 | .ret=>.ret
def uc:List Oper→List Nat
 | []=>[]
 |o::r=>match o.dst with
  |some d=>d::uc r
  |none=>uc r
def dQ:Code→List Nat
 | .region _ ops _=>uc ops.toList
 | .seq x y=>dQ x++dQ y
 | .cond _ x y=>dQ x++dQ y
 | .block _ x=>dQ x
 | .loop x=>dQ x
 | .scope x=>dQ x
 |_=>[]
def oB:Code→Bool
 | .seq x y=>oB x&&oB y
 | .cond _ x y=>oB x||oB y
 | .block id x=>oB x||leavesTo id x
 | .loop _=>false
 | .scope x=>oB x
 | .exit _=>false
 | .ret=>false
 | .goto _=>false
 |_=>true
where leavesTo (id:Nat):Code→Bool
 | .seq x y=>leavesTo id x||leavesTo id y
 | .cond _ x y=>leavesTo id x||leavesTo id y
 | .block _ x=>leavesTo id x
 | .loop x=>leavesTo id x
 | .scope x=>leavesTo id x
 | .exit i=>Nat.beq i id
 |_=>false
def y_ (id:Nat):Code→Nat
 | .seq x y=>y_ id x+y_ id y
 | .cond _ x y=>y_ id x+y_ id y
 | .block _ x=>y_ id x
 | .loop x=>y_ id x
 | .scope x=>y_ id x
 | .exit i=>match Nat.beq i id with
  |true=>1
  |false=>0
 |_=>0
def rz:Code→Bool
 | .cond _ x y=>oB x&&oB y
 | .seq _ y=>rz y
 | .scope x=>rz x
 |_=>false
def JU (id:Nat) (x:Code):Bool:=Nat.ble 2 (y_ id x+match oB x with |true=>1 |false=>0)||rz x
def PH:Value→Bool
 | .tuple _=>true
 |_=>false
def dg (ds:List Nat):dl→List Nat→List (Nat×Value)
 | [],_=>[]
 |(t,v)::r,seen=>match mz seen t with
  |true=>dg ds r seen
  |false=>match mz ds t&& !PH v with
   |true=>(t,v)::dg ds r (t::seen)
   |false=>dg ds r (t::seen)
def eF (ds:List Nat):dl→dl
 | []=>[]
 |(t,v)::r=>match mz ds t with
  |true=>eF ds r
  |false=>(t,v)::eF ds r
def ew:List (Nat×Value)→List Nat
 | []=>[]
 |(t,_)::r=>t::ew r
def lT:List (Nat×Value)→List Sh
 | []=>[]
 |(_,v)::r=>S8 v::lT r
def ro:List Nat→List Value→dl→dl
 |t::r,v::vs,e=>(t,v)::ro r vs e
 |_,_,e=>e
def tG:List Nat→dl→Option (List Value)
 | [],_=>some []
 |t::r,e=>match e.get t with
  |none=>none
  |some v=>match tG r e with
   |none=>none
   |some vs=>some (v::vs)
def pr (slots:List Nat) (shs:List Sh) (J:List Value→World→Prop) (e:dl) (w:World):Prop:=match tG slots e with
 |some vs=>match pS shs vs with
  |true=>J vs w
  |false=>False
 |none=>False
def Mp (vars:List (Nat×Value)) (e0:dl) (rest:dl→World→Prop) (use:(dl→World→Prop)→Prop):Prop:=
 ∀J:List Value→World→Prop,(xE (lT vars) fun vs=>∀w,rest (ro (ew vars) vs e0) w→J vs w)→use (pr (ew vars) (lT vars) J)
def Qb (vars:List (Nat×Value)) (e0:dl) (e:dl) (w:World) (body:dl→World→(dl→World→Prop)→Prop):Prop:=
 ∀I:List Value→World→Prop,(xE (lT vars) fun vs=>∀w,body (ro (ew vars) vs e0) w (pr (ew vars) (lT vars) I)→I vs w)→pr (ew vars) (lT vars) I e w
def zn (k:dl→World→Prop) (K:Ex→dl→World→Prop):Ex→dl→World→Prop
 | .normal,e,w=>k e w
 | .exit id,e,w=>K (.exit id) e w
 | .ret,e,w=>K .ret e w
def xq (id:Nat) (k:dl→World→Prop) (K:Ex→dl→World→Prop):Ex→dl→World→Prop
 | .normal,e,w=>k e w
 | .exit i,e,w=>match Nat.beq i id with
  |true=>k e w
  |false=>K (.exit i) e w
 | .ret,e,w=>K .ret e w
def F1 (C:ig):Code→dl→World→(Ex→dl→World→Prop)→Prop
 | .skip=>fun e w K=>K .normal e w
 | .region _ ops draw=>fun e w K=>match draw with
  |false=>pQ C ops.toList ops.toList e w (K .normal)
  |true=>∀w',w'=w.drew→fP C ops.toList ops.toList.length [] [] e w' (K .normal)
 | .seq x y=>fun e w K=>match rz x with
  |true=>Mp (dg (dQ x) e []) (eF (dQ x) e) (fun e' w'=>F1 C y e' w' K) (fun k=>F1 C x e w (zn k K))
  |false=>F1 C x e w (zn (fun e' w'=>F1 C y e' w' K) K)
 | .cond c x y=>fun e w K=>match ev e c with
  |some (.bool b)=>ac b (F1 C x e w K) (F1 C y e w K)
  |_=>False
 | .block id x=>fun e w K=>match JU id x with
  |true=>Mp (dg (dQ x) e []) (eF (dQ x) e) (K .normal) (fun k=>F1 C x e w (xq id k K))
  |false=>F1 C x e w (xq id (K .normal) K)
 | .loop x=>fun e w K=>Qb (dg (dQ x) e []) (eF (dQ x) e) e w fun e' w' k=>F1 C x e' w' (zn k K)
 | .exit id=>fun e w K=>K (.exit id) e w
 | .ret=>fun e w K=>K .ret e w
 | .rangeFunc _ _ _ _=>fun _ _ _=>False
 | .scope _=>fun _ _ _=>False
 | .label _=>fun _ _ _=>False
 | .goto _=>fun _ _ _=>False
 | .refuse _=>fun _ _ _=>False
def wf (C:ig) (n:Nat):Code→Bool
 | .skip=>true
 | .region _ ops draw=>pT n ops.toList&&match draw with
  |false=>true
  |true=>Region.noSelect ops&&wF C ops
 | .seq x y=>wf C n x&&wf C n y
 | .cond _ x y=>wf C n x&&wf C n y
 | .block _ x=>wf C n x
 | .loop x=>wf C n x
 | .exit _=>true
 | .ret=>true
 | .rangeFunc _ _ _ _=>true
 | .scope _=>true
 | .label _=>true
 | .goto _=>true
 | .refuse _=>true
theorem mS:∀ {l:List Oper} {o:Oper},o∈l→∀d,o.dst=some d→d∈uc l
 | [],o,h,_,_=>by cases h
 |x::r,o,h,d,hd=>by
  simp only [uc];rcases List.mem_cons.1 h with rfl |h
  ·rw [hd];simp
  ·split
   ·exact List.mem_cons_of_mem _ (mS h d hd)
   ·exact mS h d hd
theorem ji {ds:List Nat}:∀(e:dl) (t:Nat),(eF ds e).get t=if t∈ds then none else e.get t
 | [],t=>by simp [eF,dl.get]
 |(u,v)::r,t=>by
  simp only [eF];split
  ·rename_i hu;rw [ji r t];simp only [dl.get];by_cases ht:t∈ds
   ·simp [ht]
   ·simp only [ht,if_false];have hne:u≠t:=fun h=>ht (h▸(kO ds u).1 hu);have:Nat.beq u t=false:=by
     cases hb:Nat.beq u t with
     |false=>rfl
     |true=>exact absurd (Nat.eq_of_beq_eq_true hb) hne
    rw [this]
  ·rename_i hu;simp only [dl.get,ji r t];split
   ·rename_i hb;have:u=t:=Nat.eq_of_beq_eq_true hb;subst this;have hn:u∉ds:=fun h=>by rw [(kO ds u).2 h]at hu;cases hu
    simp [hn]
   ·rfl
theorem nY {n:Nat} {a:Act} {e0:dl} (h0:Sim n a e0):∀ {slots:List Nat} {vs:List Value} {e:dl},Sim n a e→tG slots e=some vs→Sim n a (ro slots vs e0)
 | [],vs,e,h,hg=>by cases vs<;>exact h0
 |t::r,vs,e,h,hg=>by
  simp only [tG]at hg;split at hg
  ·cases hg
  ·rename_i v hv;split at hg
   ·cases hg
   ·rename_i us hus;cases hg;have ih:=nY h0 h hus;refine⟨h.size,h.defers,fun u x hx=>?_⟩;simp only [ro,dl.get]at hx;split at hx
    ·rename_i hb;have:t=u:=Nat.eq_of_beq_eq_true hb;subst this;cases hx;exact h.get _ _ hv
    ·exact ih.get _ _ hx
theorem og {slots:List Nat} {shs:List Sh} {J:List Value→World→Prop} {e:dl} {w:World} (h:pr slots shs J e w):∃vs,tG slots e=some vs∧qG shs vs∧J vs w:=by
 unfold pr at h;split at h
 ·rename_i vs b;split at h
  ·rename_i a;exact⟨vs,b,Ct a,h⟩
  ·exact h.elim
 ·exact h.elim
theorem iV {n:Nat} {ds ds':List Nat} {b:dl} {a:Act} {e e':dl} (h:jv n ds e a e'):Sim n a (eF ds e):=by
 refine⟨h.sim.size,h.sim.defers,fun t v c=>?_⟩;rw [ji]at c;split at c
 ·cases c
 ·rename_i d;rw [←h.keep t d]at c;exact h.sim.get t v c
def th (P:Program) (c:Code) (Q:Exit→Act→World→Prop) (a:Act) (w:World):Prop:=
 ∀(b:Frame) (k:List Item) (cs:List Frame),∃e a' w',Q e a' w'∧Arrives P (lone (b.at a (.inLoop c::k)) cs w) b k cs e a' w'
theorem mE {P:Program} {c:Code} {Q:Exit→Act→World→Prop} {a:Act} {w:World} (h:c.wp P (Exit.then (th P c Q) Q) a w) (b:Frame) (k:List Item) (cs:List Frame):
  ∃e a' w',Q e a' w'∧Arrives P (lone (b.at a (.code c:: .inLoop c::k)) cs w) b k cs e a' w':=by
 obtain⟨e,i,j,g,d⟩:=h b (.inLoop c::k) cs;cases e with
 |normal=>
  obtain⟨o,n,p,m,f⟩:=g b k cs;exact⟨o,n,p,m,.of_steps d f⟩
 |exit id=>exact⟨_,i,j,g,.pass (x:=.inLoop c) rfl (fun _ _=>.inl (by simp)) d⟩
 |goto l=>exact⟨_,i,j,g,.pass (x:=.inLoop c) rfl (fun _ _=>.inl (by simp)) d⟩
 |ret=>exact⟨_,i,j,g,.pass (x:=.inLoop c) rfl (fun _ _=>.inl (by simp)) d⟩
 |panic ch=>exact⟨_,i,j,g,.pass (x:=.inLoop c) rfl (fun _ _=>.inl (by simp)) d⟩
 |outgrown=>exact⟨_,i,j,g,.pass (x:=.inLoop c) rfl (fun _ _=>.inl (by simp)) d⟩
theorem vU {P:Program} {c:Code} {Q:Exit→Act→World→Prop} {a:Act} {w:World} (h:c.wp P (Exit.then (th P c Q) Q) a w):th P c Q a w:=fun b k cs=>by
 obtain⟨e,a',w',q,r⟩:=mE h b k cs;exact⟨e,a',w',q,.of_steps (.one step_inLoop) r⟩
theorem si {P:Program} {c:Code} {Q:Exit→Act→World→Prop} {a:Act} {w:World} (h:c.wp P (Exit.then (th P c Q) Q) a w):(Code.loop c).wp P Q a w:=fun b k cs=>by
 obtain⟨e,a',w',q,r⟩:=mE h b k cs;exact⟨e,a',w',q,.of_steps (.one step_loop) r⟩
theorem jp {ds:List Nat}:∀(e:dl) (seen:List Nat) (t:Nat),t∈ew (dg ds e seen)→t∈ds
 | [],_,t,h=>by simp [dg,ew]at h
 |(u,v)::r,seen,t,h=>by
  simp only [dg]at h;split at h
  ·exact jp r _ t h
  ·split at h
   ·rename_i hb;rw [Bool.and_eq_true]at hb;simp only [ew,List.mem_cons]at h;rcases h with rfl |h
    ·exact(kO ds t).1 hb.1
    ·exact jp r _ t h
   ·exact jp r _ t h
theorem Gi {e0:dl} {t:Nat}:∀ {slots:List Nat} {vs:List Value},t∉slots→(ro slots vs e0).get t=e0.get t
 | [],vs,_=>by cases vs<;>rfl
 |u::r,[],_=>rfl
 |u::r,v::vs,h=>by
  simp only [ro,dl.get];have hne:u≠t:=fun he=>h (by simp [he]);have:Nat.beq u t=false:=by
   cases hb:Nat.beq u t with
   |false=>rfl
   |true=>exact absurd (Nat.eq_of_beq_eq_true hb) hne
  rw [this];exact Gi (fun hm=>h (by simp [hm]))
theorem pH {ds:List Nat} {e:dl} {vs:List Value} {t:Nat} (ht:t∉ds):(ro (ew (dg ds e [])) vs (eF ds e)).get t=e.get t:=by
 rw [Gi (fun h=>ht (jp e [] t h)),ji,if_neg ht]
def Dq (C:ig) (n:Nat) (c:Code):Prop:=∀ {a:Act} {e:dl} {w:World} {K:Ex→dl→World→Prop} {Q:Exit→Act→World→Prop},Sim n a e→F1 C c e w K→
  (∀ex a' e' w',jv n (dQ c) e a' e'→K ex e' w'→Q ex.to a' w')→(∀c (d:Option Nat) v a w,Q (.panic c) (a.put d v) w→Q (.panic c) a w)→c.wp C.P Q a w
theorem I_ {C:ig} {n:Nat} {x y:Code} (ihx:Dq C n x) (ihy:Dq C n y):Dq C n (.seq x y):=by
 intro a e w K Q F h r k;simp only [F1]at h;refine wp_seq ?_;split at h
 ·have G:=h (fun z m=>qG (lT (dg (dQ x) e [])) z→∀j,Sim n j (ro (ew (dg (dQ x) e [])) z (eF (dQ x) e))→y.wp C.P Q j m) (by
   refine lZ fun z u m q _ j f=>?_;refine ihy f q (fun o A B E i p=>r o A B E ⟨i.sim,fun t g=>?_⟩ p) k;rw [i.keep t (fun h=>g (by simp [dQ,h])),pH (fun h=>g (by simp [dQ,h]))])
  refine ihx F G (fun o j s m f l=>?_) (fun c d v a w D=>k c d v a w D);cases o with
  |normal=>
   simp only [zn]at l;obtain⟨z,H,u,I⟩:=og l;exact I u j (nY (iV (ds':=[]) (b:=[]) f) f.sim H)
  |exit id=>exact r (.exit id) j s m ⟨f.sim,fun t g=>f.keep t (fun h=>g (by simp [dQ,h]))⟩ l
  |ret=>exact r .ret j s m ⟨f.sim,fun t g=>f.keep t (fun h=>g (by simp [dQ,h]))⟩ l
 ·refine ihx F h (fun o j s m f l=>?_) (fun c d v a w D=>k c d v a w D);cases o with
  |normal=>
   refine ihy f.sim l (fun o A B E i p=>r o A B E ⟨i.sim,fun t g=>?_⟩ p) k;rw [i.keep t (fun h=>g (by simp [dQ,h])),f.keep t (fun h=>g (by simp [dQ,h]))]
  |exit id=>exact r (.exit id) j s m ⟨f.sim,fun t g=>f.keep t (fun h=>g (by simp [dQ,h]))⟩ l
  |ret=>exact r .ret j s m ⟨f.sim,fun t g=>f.keep t (fun h=>g (by simp [dQ,h]))⟩ l
theorem Fw {C:ig} {n id:Nat} {x:Code} (ihx:Dq C n x):Dq C n (.block id x):=by
 intro a e w K Q A h m r;simp only [F1]at h;refine wp_block ?_;split at h
 ·have B:=h (fun q k=>qG (lT (dg (dQ x) e [])) q→∀g,Sim n g (ro (ew (dg (dQ x) e [])) q (eF (dQ x) e))→Q .normal g k) (by
   refine lZ fun q s k p _ g f=>?_;exact m .normal g _ k ⟨f,fun t F=>pH F⟩ p)
  refine ihx A B (fun y g l k f j=>?_) (fun c d v a w z=>r c d v a w z);have u:pr (ew (dg (dQ x) e [])) (lT (dg (dQ x) e [])) (fun q k=>qG (lT (dg (dQ x) e [])) q→∀g,Sim n g (ro (ew (dg (dQ x) e [])) q (eF (dQ x) e))→Q .normal g k) l k→Q .normal g k:=fun j=>by
   obtain⟨q,D,s,E⟩:=og j;exact E s g (nY (iV (ds':=[]) (b:=[]) f) f.sim D)
  cases y with
  |normal=>exact u j
  |exit i=>
   simp only [xq]at j;split at j
   ·rename_i o;have:i=id:=Nat.eq_of_beq_eq_true o;simp only [Ex.to,Exit.inBlock,this,if_true];exact u j
   ·rename_i o;have:i≠id:=Nat.ne_of_beq_eq_false o;simp only [Ex.to,Exit.inBlock,this,if_false];exact m (.exit i) g l k f j
  |ret=>exact m .ret g l k f j
 ·refine ihx A h (fun y g l k f j=>?_) (fun c d v a w z=>r c d v a w z);cases y with
  |normal=>exact m .normal g l k f j
  |exit i=>
   simp only [xq]at j;split at j
   ·rename_i o;have:i=id:=Nat.eq_of_beq_eq_true o;simp only [Ex.to,Exit.inBlock,this,if_true];exact m .normal g l k f j
   ·rename_i o;have:i≠id:=Nat.ne_of_beq_eq_false o;simp only [Ex.to,Exit.inBlock,this,if_false];exact m (.exit i) g l k f j
  |ret=>exact m .ret g l k f j
theorem Ht {C:ig} {n:Nat} {x:Code} (ihx:Dq C n x):Dq C n (.loop x):=by
 intro a e w K Q B h A s;have H:=h (fun o E=>qG (lT (dg (dQ x) e [])) o→∀p,Sim n p (ro (ew (dg (dQ x) e [])) o (eF (dQ x) e))→x.wp C.P (Exit.then (th C.P x Q) Q) p E) (by
  refine lZ fun o l E k _ p u=>?_;refine ihx u k (fun G q r F g j=>?_) (fun c d v a w I=>s c d v a w I);have f:∀t,t∉dQ x→r.get t=e.get t:=fun t D=>by rw [g.keep t D,pH D]
  cases G with
  |normal=>
   simp only [zn]at j;obtain⟨J,y,m,z⟩:=og j;exact vU (z m q (nY (iV (ds':=[]) (b:=[]) ⟨g.sim,f⟩) g.sim y))
  |exit i=>exact A (.exit i) q r F ⟨g.sim,f⟩ j
  |ret=>exact A .ret q r F ⟨g.sim,f⟩ j)
 obtain⟨o,y,l,z⟩:=og H;exact si (z l a (nY (iV (ds:=dQ x) (ds':=[]) (b:=[]) ⟨B,fun _ _=>rfl⟩) B y))
theorem Ea {C:ig} (hC:C.Ok) {n:Nat}:∀(c:Code),wf C n c=true→Dq C n c:=by
 intro c;induction c with
 |skip=>intro _ a e w K Q i h j _;exact wp_skip (j .normal a e w ⟨i,fun _ _=>rfl⟩ h)
 |region id ops draw=>
  intro g a e w K Q i h j k;simp only [wf,Bool.and_eq_true]at g;have u:∀o∈ops.toList,∀d,o.dst=some d→d∈dQ (.region id ops draw):=fun o D d B=>mS D d B;cases draw with
  |false=>exact xD hC g.1 u (fun l m r f p=>j .normal l m r f p) ⟨i,fun _ _=>rfl⟩ h
  |true=>
   have q:=g.2;simp only [Bool.and_eq_true]at q;exact D9 hC g.1 u q.1 q.2 (fun l m r f p=>j .normal l m r f p) k ⟨i,fun _ _=>rfl⟩ (h _ rfl)
 |seq x y ihx ihy=>intro g;simp only [wf,Bool.and_eq_true]at g;exact I_ (ihx g.1) (ihy g.2)
 |cond c x y ihx ihy=>
  intro g a e w K Q i h j k;simp only [wf,Bool.and_eq_true]at g;simp only [F1]at h;split at h
  ·rename_i b A;have s:=i.ev A;cases b
   ·exact wp_cond_false s (ihy g.2 i h (fun v l m r f p=>j v l m r ⟨f.sim,fun t z=>f.keep t (fun h=>z (by simp [dQ,h]))⟩ p) k)
   ·exact wp_cond_true s (ihx g.1 i h (fun v l m r f p=>j v l m r ⟨f.sim,fun t z=>f.keep t (fun h=>z (by simp [dQ,h]))⟩ p) k)
  ·exact h.elim
 |block id x ih=>intro g;exact Fw (ih g)
 |loop x ih=>intro g;exact Ht (ih g)
 |exit id=>intro _ a e w K Q i h j _;exact wp_exit (j (.exit id) a e w ⟨i,fun _ _=>rfl⟩ h)
 |ret=>intro _ a e w K Q i h j _;exact wp_ret (j .ret a e w ⟨i,fun _ _=>rfl⟩ h)
 |_=>intro _ a e w K Q i h j _;exact False.elim h
def nz:Nat→List Value→dl
 |_,[]=>[]
 |i,v::r=>(i,v)::nz (i+1) r
def ke (C:ig) (e:dl) (w:World):List ResultVar→(List Value→Prop)→Prop
 | [],F=>F []
 | .tmp t::r,F=>match e.get t with
  |some v=>ke C e w r fun vs=>F (v::vs)
  |none=>False
 | .cell t ty::r,F=>match e.get t with
  |some (.pointer p)=>ag p fun ad=>match(C.ty ty).agg,(C.ty ty).rs,(C.ty ty).size with
   |some false,some (.one (.leaf l)),_=>KC l fun v=>w.cell? ad=some v∧ke C e w r fun vs=>F (v::vs)
   |some true,some (.one (.agg ls)),some n=>match Nat.beq n ls.length with
    |true=>Fu ls fun us=>fY w ad us 0∧ke C e w r fun vs=>F (.agg us.toArray::vs)
    |false=>False
   |_,_,_=>False
  |_=>False
def mW:List Value→Value
 | [v]=>v
 |vs=>.tuple vs.toArray
def I9 (C:ig) (body:Code) (res:List ResultVar) (args:List Value) (w:World) (R:Value→World→Prop):Prop:=
 F1 C body (nz 0 args) w fun ex e' w'=>match ex with
  | .normal=>ke C e' w' res fun vs=>R (mW vs) w'
  | .ret=>ke C e' w' res fun vs=>R (mW vs) w'
  | .exit _=>False
theorem rZ:∀(vs:List Value) (i t:Nat) (v:Value),(nz i vs).get t=some v→i≤t∧vs[t-i]? =some v
 | [],_,_,_,h=>by simp [nz,dl.get]at h
 |u::r,i,t,v,h=>by
  simp only [nz,dl.get]at h;split at h
  ·rename_i hb;have:i=t:=Nat.eq_of_beq_eq_true hb;subst this;cases h;simp
  ·obtain⟨h1,h2⟩:=rZ r (i+1) t v h;refine⟨by omega,?_⟩;rw [show t-i=(t- (i+1))+1 from by omega];simpa using h2
def yd (tmps:Array Value):ResultVar→Sem Value
 | .tmp t=>pure (tmps.getD t undef)
 | .cell c t=>do loadVar t (←asAddr (tmps.getD c undef))
theorem jw {α β:Type} {P:Program} {f:α→Sem β} {x:α} {r:List α} {w:World} {v:β} {vs:List β} (h1:(f x).run P w= .ok v w) (h2:(r.mapM f).run P w= .ok vs w):((x::r).mapM f).run P w= .ok (v::vs) w:=by
 rw [List.mapM_cons,Sem.run_bind,h1];simp only [Result.andThen,Sem.run_bind];rw [h2];rfl
theorem ku {C:ig} (hC:C.Ok) {n:Nat} {a:Act} {e:dl} (hS:Sim n a e) {w:World}:∀ {res:List ResultVar} {F:List Value→Prop},ke C e w res F→
  ∃vs,F vs∧(res.mapM (yd a.tmps)).run C.P w= .ok vs w
 | [],F,h=>⟨[],h,by simp⟩
 | .tmp t::r,F,h=>by
  simp only [ke]at h;split at h
  ·rename_i v hv;obtain⟨vs,hF,hr⟩:=ku hC hS h;have hg:a.tmps.getD t undef=v:=by simp [Array.getD_eq_getD_getElem?,hS.get _ _ hv]
   exact⟨v::vs,hF,jw (by simp [yd,hg]) hr⟩
  ·exact h.elim
 | .cell t ty::r,F,h=>by
  simp only [ke]at h;split at h
  ·rename_i p hp;obtain⟨ad,rfl,h⟩:=gw h;have hg:a.tmps.getD t undef= .pointer (some ad):=by simp [Array.getD_eq_getD_getElem?,hS.get _ _ hp]
   split at h
   ·rename_i l _ hag _;obtain⟨v,hv,hk⟩:=lV h;obtain⟨vs,hF,hr⟩:=ku hC hS hk;refine⟨v::vs,hF,jw ?_ hr⟩;simp [yd,hg,asAddr,loadVar,fN ((hC.ty ty).agg _ hag),hv,Result.andThen]
   ·rename_i ls m hag _ hsz;split at h
    ·rename_i hb;have hb:m=ls.length:=Nat.eq_of_beq_eq_true hb;obtain⟨us,hl,hc,hk⟩:=lj h;obtain⟨vs,hF,hr⟩:=ku hC hS hk;have hlc:=eJ (P:=C.P) us 0 #[] hc;rw [hl, ←hb]at hlc;refine⟨_,hF,jw ?_ hr⟩;simp [yd,hg,asAddr,loadVar,fN ((hC.ty ty).agg _ hag),cD ((hC.ty ty).size _ hsz),loadCells,hlc,Result.andThen]
    ·exact h.elim
   ·exact h.elim
  ·exact h.elim
def Ic (P:Program) (f:FuncId):Bool:=match P.funcs[f]? with
 |some fn=>match fn.name== "runtime.NumGoroutine" with
  |true=>false
  |false=>match fn.body with
   |some _=>true
   |none=>false
 |none=>false
theorem Iz {P:Program} (f:FuncId) (h:Ic P f=true):∃fn c,P.funcs[f]? =some fn∧(fn.name== "runtime.NumGoroutine")=false∧fn.body=some c:=by
 unfold Ic at h;split at h
 ·rename_i fn b;split at h
  ·cases h
  ·rename_i d;split at h
   ·rename_i c a;exact⟨fn,c,b,d,a⟩
   ·cases h
 ·cases h
def H0 (P:Program) (tab:List (Nat×TI)):ig:={P:=P,tab:=tab,fns:=Ic P}
theorem IC (P:Program) (tab:List (Nat×TI)) (h:∀p∈tab,aY P p.1 p.2) (hm:P.follows .mixedOrders=true):(H0 P tab).Ok:=
 Im (C:=H0 P tab) h (fun f h=>Iz f h) hm
def D0 (f:Func):Code:=match f.body with
 |some c=>c
 |none=>.skip
def aO:Option TypeDesc→TypeDesc
 |some d=>d
 |none=>.tuple #[]
def br:Option TypeDesc→Array Field
 |some (.struct fs)=>fs
 |_=>#[]
def Lg:TypeDesc→Bool
 | .interface _=>true
 |_=>false
theorem aA {d:TypeDesc} (h:Lg d=false):∀ms,d≠ .interface ms:=by
 intro ms a;subst a;cases h
theorem EO (fn:Func) (tmps:Array Value):results fn tmps=(do let vs←fn.results.mapM (yd tmps);pure (if h:vs.size=1 then vs[0]else .tuple vs)):=by
 unfold results;congr 1
theorem wV {C:ig} (hC:C.Ok) {f:FuncId} {fn:Func} {body:Code} {args:List Value} {w:World} {R:Value→World→Prop} (hf:C.P.funcs[f]? =some fn) (hb:fn.body=some body)
  (hn:Nat.ble args.length fn.ntmps=true) (hw:wf C fn.ntmps body=true) (h:I9 C body fn.results.toList args w R):
  Calls C.P f args.toArray w fun e w'=>∃v,e= .returned v∧R v w':=by
 refine calls_of_wp hf hb ?_;have x:args.length≤fn.ntmps:=Nat.le_of_ble_eq_true hn;have s:Sim fn.ntmps {tmps:=args.toArray++Array.replicate (fn.ntmps-args.toArray.size) undef,defers:=[]} (nz 0 args):=by
  refine⟨by simp;omega,rfl,fun t v z=>?_⟩;obtain⟨_,n⟩:=rZ args 0 t v z;rw [Nat.sub_zero]at n;have o:t<args.length:=by
   rcases Nat.lt_or_ge t args.length with h |h
   ·exact h
   ·simp [List.getElem?_eq_none h]at n
  simp only [];rw [Array.getElem?_append_left (by simpa using o)];simpa using n
 have g:∀(m:Ex) (i:Act) (j:dl) (w':World),jv fn.ntmps (dQ body) (nz 0 args) i j→ke C j w' fn.results.toList (fun l=>R (mW l) w')→
   i.defers= []∧∃v,(results fn i.tmps).run C.P w'= .ok v w'∧∃u,Ending.returned v= .returned u∧R u w':=by
  intro m i j w' b k;obtain⟨l,q,y⟩:=ku hC b.sim k;refine⟨b.sim.defers,mW l,?_,_,rfl,q⟩;rw [EO,Sem.run_bind,Array.mapM_eq_mapM_toList];simp only [Sem.run_map];rw [y];simp only [Result.andThen,Sem.run_pure];congr 1
  match l with
  | []=>simp [mW]
  | [v]=>simp [mW]
  |u::v::r=>simp [mW]
 refine Ea hC body hw s h (fun m i j w' b k=>?_) (fun c d v a w p=>⟨?_,p.2⟩)
 ·cases m with
  |normal=>exact g .normal i j w' b k
  |ret=>exact g .ret i j w' b k
  |exit id=>exact k.elim
 ·have:=p.1;cases d<;>simpa [Act.put]using this
end Go.Proofs.YtijbcdiffjjefaaGreatDoor.Eng
