/- The engine of this claim's walks: what a piece of Go code owes, as one proposition over plain values and the world, and a proof that this is enough. -/
import Derived.OrdersHeld
import Derived.WalkKit
import Derived.RowKit3
import Derived.Laws.StructEq
import Derived.KernelRfl
set_option linter.unusedVariables false
set_option linter.unusedSimpArgs false
namespace Go.Proofs.YtijbcdiffjjefaaGreatDoor.Eng
open Go
inductive ju where
 |int (k:IntKind) |bool |str |ptr |slice |map |any
inductive Sh where
 |leaf (l:ju) |agg (ls:List ju)
inductive Rs where
 |one (s:Sh) |tup (ss:List Sh)
def II:ju→(Value→Prop)→Prop
 | .int k,F=>∃n:Int,F (.int k n)
 | .bool,F=>∃b:Bool,F (.bool b)
 | .str,F=>∃s:ByteArray,F (.string s)
 | .ptr,F=>∃p:Option Addr,F (.pointer p)
 | .slice,F=>∃(a:Option Addr) (n c:Nat),F (.slice a n c)
 | .map,F=>∃r:Option Nat,F (.map r)
 | .any,F=>∃v:Value,F v
def C7:List ju→(List Value→Prop)→Prop
 | [],F=>F []
 |l::r,F=>II l fun v=>C7 r fun vs=>F (v::vs)
def Mu:Sh→(Value→Prop)→Prop
 | .leaf l,F=>II l F
 | .agg ls,F=>C7 ls fun vs=>F (.agg vs.toArray)
def Gq:List Sh→(List Value→Prop)→Prop
 | [],F=>F []
 |s::r,F=>Mu s fun v=>Gq r fun vs=>F (v::vs)
def Qd:Rs→(Value→Prop)→Prop
 | .one s,F=>Mu s F
 | .tup ss,F=>Gq ss fun vs=>F (.tuple vs.toArray)
theorem mf {l:ju} {F:Value→Prop} (h:II l F):∃v,F v:=by
 cases l<;>simp only [II]at h
 case slice=>obtain⟨a,n,c,h⟩:=h;exact⟨_,h⟩
 all_goals (obtain⟨x,h⟩:=h;exact⟨_,h⟩)
theorem ld:∀ {ls:List ju} {F:List Value→Prop},C7 ls F→∃vs,vs.length=ls.length∧F vs
 | [],_,h=>⟨[],rfl,h⟩
 |_::_,_,h=>by
  obtain⟨v,h⟩:=mf h;obtain⟨vs,hl,h⟩:=ld h;exact⟨_,by simp [hl],h⟩
theorem Hf {ls:List ju} {F:List Value→Prop} (h:C7 ls F):∃vs,F vs:=by
 obtain⟨vs,_,h⟩:=ld h;exact⟨vs,h⟩
theorem xA {s:Sh} {F:Value→Prop} (h:Mu s F):∃v,F v:=by
 cases s with
 |leaf l=>exact mf h
 |agg ls=>obtain⟨vs,h⟩:=Hf h;exact⟨_,h⟩
theorem uX:∀ {ss:List Sh} {F:List Value→Prop},Gq ss F→∃vs,F vs
 | [],_,h=>⟨[],h⟩
 |_::_,_,h=>by
  obtain⟨v,h⟩:=xA h;obtain⟨vs,h⟩:=uX h;exact⟨_,h⟩
theorem vV {r:Rs} {F:Value→Prop} (h:Qd r F):∃v,F v:=by
 cases r with
 |one s=>exact xA h
 |tup ss=>obtain⟨vs,h⟩:=uX h;exact⟨_,h⟩
def JC:ju→(Value→Prop)→Prop
 | .int k,F=>∀n:Int,F (.int k n)
 | .bool,F=>∀b:Bool,F (.bool b)
 | .str,F=>∀s:ByteArray,F (.string s)
 | .ptr,F=>∀p:Option Addr,F (.pointer p)
 | .slice,F=>∀(a:Option Addr) (n c:Nat),F (.slice a n c)
 | .map,F=>∀r:Option Nat,F (.map r)
 | .any,F=>∀v:Value,F v
def Ik:List ju→(List Value→Prop)→Prop
 | [],F=>F []
 |l::r,F=>JC l fun v=>Ik r fun vs=>F (v::vs)
def Ls:Sh→(Value→Prop)→Prop
 | .leaf l,F=>JC l F
 | .agg ls,F=>Ik ls fun vs=>F (.agg vs.toArray)
def vw:List Sh→(List Value→Prop)→Prop
 | [],F=>F []
 |s::r,F=>Ls s fun v=>vw r fun vs=>F (v::vs)
def GZ:Value→ju
 | .int k _=>.int k
 | .bool _=>.bool
 | .string _=>.str
 | .pointer _=>.ptr
 | .slice .. =>.slice
 | .map _=>.map
 |_=>.any
def QQ:Value→Sh
 | .agg cs=>.agg (cs.toList.map GZ)
 |v=>.leaf (GZ v)
def LL:ju→Value→Prop
 | .int k,v=>∃n:Int,v= .int k n
 | .bool,v=>∃b:Bool,v= .bool b
 | .str,v=>∃s:ByteArray,v= .string s
 | .ptr,v=>∃p:Option Addr,v= .pointer p
 | .slice,v=>∃(a:Option Addr) (n c:Nat),v= .slice a n c
 | .map,v=>∃r:Option Nat,v= .map r
 | .any,_=>True
def JL:List ju→List Value→Prop
 | [],vs=>vs= []
 |l::r,vs=>∃v t,vs=v::t∧LL l v∧JL r t
def MF:Sh→Value→Prop
 | .leaf l,v=>LL l v
 | .agg ls,v=>∃vs:List Value,v= .agg vs.toArray∧JL ls vs
def pF:List Sh→List Value→Prop
 | [],vs=>vs= []
 |s::r,vs=>∃v t,vs=v::t∧MF s v∧pF r t
theorem E3 {l:ju} {F:Value→Prop} (h:∀v,LL l v→F v):JC l F:=by
 cases l<;>simp only [JC]
 case slice=>exact fun a n c=>h _ ⟨a,n,c,rfl⟩
 case any=>exact fun v=>h v trivial
 all_goals exact fun x=>h _ ⟨x,rfl⟩
theorem xo:∀ {ls:List ju} {F:List Value→Prop},(∀vs,JL ls vs→F vs)→Ik ls F
 | [],_,h=>h [] rfl
 |_::_,_,h=>E3 fun v hv=>xo fun vs hvs=>h _ ⟨v,vs,rfl,hv,hvs⟩
theorem HA {s:Sh} {F:Value→Prop} (h:∀v,MF s v→F v):Ls s F:=by
 cases s with
 |leaf l=>exact E3 h
 |agg ls=>exact xo fun vs hvs=>h _ ⟨vs,rfl,hvs⟩
theorem lR:∀ {ss:List Sh} {F:List Value→Prop},(∀vs,pF ss vs→F vs)→vw ss F
 | [],_,h=>h [] rfl
 |_::_,_,h=>HA fun v hv=>lR fun vs hvs=>h _ ⟨v,vs,rfl,hv,hvs⟩
def Jv:ju→Value→Bool
 | .int k,.int k' _=>k==k'
 | .bool,.bool _=>true
 | .str,.string _=>true
 | .ptr,.pointer _=>true
 | .slice,.slice .. =>true
 | .map,.map _=>true
 | .any,_=>true
 |_,_=>false
def vh:List ju→List Value→Bool
 | [],[]=>true
 |l::r,v::t=>Jv l v&&vh r t
 |_,_=>false
def He:Sh→Value→Bool
 | .leaf l,v=>Jv l v
 | .agg ls,.agg cs=>vh ls cs.toList
 |_,_=>false
def oT:List Sh→List Value→Bool
 | [],[]=>true
 |s::r,v::t=>He s v&&oT r t
 |_,_=>false
theorem I3 {l:ju} {v:Value} (h:Jv l v=true):LL l v:=by
 cases l<;>cases v<;>simp_all [Jv,LL]
theorem E2:∀ {ls:List ju} {vs:List Value},vh ls vs=true→JL ls vs
 | [],[],_=>rfl
 | [],_::_,h=>by simp [vh]at h
 |_::_,[],h=>by simp [vh]at h
 |_::_,v::t,h=>by
  simp only [vh,Bool.and_eq_true]at h;exact⟨v,t,rfl,I3 h.1,E2 h.2⟩
theorem Km {s:Sh} {v:Value} (h:He s v=true):MF s v:=by
 cases s with
 |leaf l=>exact I3 h
 |agg ls=>
  cases v<;>simp only [He,Bool.false_eq_true]at h
  rename_i cs;exact⟨cs.toList,by simp,E2 h⟩
theorem B4:∀ {ss:List Sh} {vs:List Value},oT ss vs=true→pF ss vs
 | [],[],_=>rfl
 | [],_::_,h=>by simp [oT]at h
 |_::_,[],h=>by simp [oT]at h
 |_::_,v::t,h=>by
  simp only [oT,Bool.and_eq_true]at h;exact⟨v,t,rfl,Km h.1,B4 h.2⟩
theorem MI {l:ju} {F:Value→Prop} (h:II l F):∃v,LL l v∧F v:=by
 cases l<;>simp only [II]at h
 case slice=>obtain⟨a,n,c,h⟩:=h;exact⟨_,⟨a,n,c,rfl⟩,h⟩
 case any=>obtain⟨x,h⟩:=h;exact⟨_,trivial,h⟩
 all_goals (obtain⟨x,h⟩:=h;exact⟨_,⟨x,rfl⟩,h⟩)
theorem Mt {l:ju} {F:Value→Prop} {v:Value} (hv:LL l v) (h:F v):II l F:=by
 cases l<;>simp only [LL]at hv
 case slice=>obtain⟨a,n,c,rfl⟩:=hv;exact⟨a,n,c,h⟩
 case any=>exact⟨v,h⟩
 all_goals (obtain⟨x,rfl⟩:=hv;exact⟨x,h⟩)
abbrev cW:=List (Nat×Value)
def cW.get:cW→Nat→Option Value
 | [],_=>none
 |(u,v)::r,t=>match Nat.beq u t with
  |true=>some v
  |false=>cW.get r t
def cW.put (e:cW) (d:Option Nat) (v:Value):cW:=match d with
 |none=>e
 |some d=>(d,v)::e
def ev (e:cW):Operand→Option Value
 | .tmp t=>e.get t
 | .const v=>some v
 | .global g=>some (.pointer (some ⟨g,0,none⟩))
 | .func f=>some (.func (.func f) #[] #[])
def Jd (e:cW):List Operand→Option (List Value)
 | []=>some []
 |x::r=>match ev e x with
  |none=>none
  |some v=>match Jd e r with
   |none=>none
   |some vs=>some (v::vs)
structure Sim (n:Nat) (a:Act) (e:cW):Prop where
 size:a.tmps.size=n
 defers:a.defers= []
 get:∀t v,e.get t=some v→a.tmps[t]? =some v
theorem Sim.ev {n:Nat} {a:Act} {e:cW} (h:Sim n a e) {x:Operand} {v:Value} (hx:Eng.ev e x=some v):a.eval x=v:=by
 cases x with
 |tmp t=>
  have:=h.get t v hx;simp only [Act.eval,Array.getD_eq_getD_getElem?,this,Option.getD_some]
 |const c=>simpa [Eng.ev,Act.eval]using hx
 |global g=>simpa [Eng.ev,Act.eval]using hx
 |func f=>simpa [Eng.ev,Act.eval]using hx
theorem Sim.evs {n:Nat} {a:Act} {e:cW} (h:Sim n a e):∀ {l:List Operand} {vs:List Value},Eng.Jd e l=some vs→l.map a.eval=vs
 | [],vs,hx=>by simp [Eng.Jd]at hx;simp [hx]
 |x::r,vs,hx=>by
  simp only [Eng.Jd]at hx;split at hx
  ·cases hx
  ·rename_i v hv;split at hx
   ·cases hx
   ·rename_i t ht;cases hx;simp [h.ev hv,h.evs ht]
theorem Sim.put {n:Nat} {a:Act} {e:cW} (h:Sim n a e) (d:Option Nat) (v:Value) (hd:∀t,d=some t→t<n):Sim n (a.put d v) (e.put d v):=by
 cases d with
 |none=>exact h
 |some d=>
  have hlt:=hd d rfl;refine⟨by simp [Act.put,h.size],h.defers,fun t u hu=>?_⟩;simp only [cW.put,cW.get]at hu;split at hu
  ·rename_i heq;have:d=t:=Nat.eq_of_beq_eq_true heq;subst this;cases hu;simp [Act.put,h.size,hlt]
  ·rename_i hne;have:d≠t:=Nat.ne_of_beq_eq_false hne;have:=h.get t u hu;simp [Act.put,Array.getElem?_setIfInBounds_ne, *]
abbrev nb (w:World):Addr:=⟨w.heap.size,0,none⟩
def ac (b:Bool) (p q:Prop):Prop:=match b with
 |true=>p
 |false=>q
theorem ac.mk {b:Bool} {p q:Prop} (h:b=true→p) (k:b=false→q):ac b p q:=by
 cases b
 ·exact k rfl
 ·exact h rfl
theorem ac.yes {b:Bool} {p q:Prop} (hb:b=true) (h:p):ac b p q:=by subst hb;exact h
theorem ac.no {b:Bool} {p q:Prop} (hb:b=false) (h:q):ac b p q:=by subst hb;exact h
def af (p:Option Addr) (k:Addr→Prop):Prop:=match p with
 |some a=>k a
 |none=>False
theorem af.mk {p:Option Addr} {k:Addr→Prop} (a:Addr) (h:p=some a) (hk:k a):af p k:=by subst h;exact hk
def Ar (k:IntKind) (z:Int) (F:Int→Prop):Prop:=F (k.wrap z)
def eu (s:ByteArray) (i:Int):Int:=((s.data[i.toNat]?).map (fun b=>(b.toNat:Int))).getD 0
def fT (w:World) (a:Addr):List Value→Nat→Prop
 | [],_=>True
 |v::r,i=>w.cell? (a.add i)=some v∧fT w a r (i+1)
def ax (w:World) (a:Addr) (k:World→Prop):List Value→Nat→Prop
 | [],_=>∀w',w'=w→k w'
 |v::r,i=>v.oneCell'=true∧(∃u,w.cell? (a.add i)=some u)∧w.frozen? (a.add i)=false∧ax (w.setCell (a.add i) v) a k r (i+1)
inductive Ka where
 |i
 |s
 |b
def QT:Ka→Value→Value→Option Bool
 | .i,.int k a,.int k' b=>match k==k' with
  |true=>some (a==b)
  |false=>none
 | .s,.string a,.string b=>some (a.toList==b.toList)
 | .b,.bool a,.bool b=>some (a==b)
 |_,_,_=>none
def JG:List Ka→List Value→List Value→Option Bool
 | [],[],[]=>some true
 |k::l,x::xs,y::ys=>match QT k x y,JG l xs ys with
  |some b,some c=>some (b&&c)
  |_,_=>none
 |_,_,_=>none
def xm (P:Program) (t:TypeId):Ka→Bool
 | .i=>match P.underlying t with
  |some (.int _)=>true
  |_=>false
 | .s=>match P.underlying t with
  |some .string=>true
  |_=>false
 | .b=>match P.underlying t with
  |some .bool=>true
  |_=>false
def FJ (P:Program):List Field→Nat→List Ka→Bool
 | [],_,[]=>true
 |f::fs,k,e::l=>decide (f.name≠ "_")&&(Nat.beq f.offset k&&(xm P f.type e&&FJ P fs (k+1) l))
 |_,_,_=>false
def r_ (P:Program) (t:TypeId) (l:List Ka):Bool:=(match P.underlying t with
 |some (.struct _)=>true
 |_=>false)&&(!P.stoodInHeld t&&(!P.eqGuardType P.depth t&&FJ P (P.fieldsOf t).toList 0 l))
structure TI where
 size:Option Nat:=none
 agg:Option Bool:=none
 rs:Option Rs:=none
 zero:Option Value:=none
 offs:Option (List (Nat×Nat×Bool)):=none
 arr:Option (Nat×Nat):=none
 slc:Option (Nat×Nat):=none
 elemSh:Option Sh:=none
 isStr:Bool:=false
 intk:Option IntKind:=none
 conc:Bool:=false
 isPtr:Bool:=false
 isSlc:Bool:=false
 isMap:Bool:=false
 isBool:Bool:=false
 eqs:Option (List Ka):=none
def h_:TypeDesc→Bool
 | .struct _ | .array _ _=>true
 |_=>false
structure aL (P:Program) (t:TypeId) (i:TI):Prop where
 size:∀n,i.size=some n→(P.info? t).map (·.size)=some n:=by first |exact jK rfl |exact ag 1 rfl (by kernel_rfl)
 agg:∀b,i.agg=some b→(P.underlying t).map h_=some b:=by first |exact jK rfl |exact ag false rfl (by kernel_rfl)
 zero:∀v,i.zero=some v→(P.info? t).map (·.zero)=some (some v):=by exact jK rfl
 offs:∀l,i.offs=some l→∃fs,P.underlying t=some (.struct fs)∧fs.toList.map (fun f=>(f.offset,(P.info? f.type).map (·.size),(P.underlying f.type).map h_))=l.map (fun x=>(x.1,some (x.2.1+1),some x.2.2)):=by exact jK rfl
 arr:∀n s,i.arr=some (n,s)→∃e,P.underlying t=some (.array n e)∧(P.info? e).map (·.size)=some s:=by exact uC rfl
 slc:∀e s,i.slc=some (e,s)→P.underlying t=some (.slice e)∧(P.info? e).map (·.size)=some s:=by exact uC rfl
 isStr:i.isStr=true→P.underlying t=some .string:=by exact pv rfl
 intk:∀k,i.intk=some k→P.underlying t=some (.int k):=by exact jK rfl
 conc:i.conc=true→∃d,P.underlying t=some d∧∀ms,d≠ .interface ms:=by exact pv rfl
 isPtr:i.isPtr=true→∃e,P.underlying t=some (.pointer e):=by exact pv rfl
 isSlc:i.isSlc=true→∃e,P.underlying t=some (.slice e):=by exact pv rfl
 isMap:i.isMap=true→∃k e,P.underlying t=some (.map k e):=by exact pv rfl
 isBool:i.isBool=true→P.underlying t=some .bool:=by exact pv rfl
 eqs:∀l,i.eqs=some l→r_ P t l=true:=by exact jK rfl
theorem aL.nothing (P:Program) (t:TypeId):aL P t {}:=by
 constructor<;>intros<;>simp_all
theorem ag {α:Type} {o:Option α} {p:α→Prop} (a:α) (ho:o=some a) (hp:p a):∀x,o=some x→p x:=by
 intro x h;rw [ho]at h;cases h;exact hp
theorem jK {α:Type} {o:Option α} {p:α→Prop} (ho:o=none):∀x,o=some x→p x:=by
 intro x h;rw [ho]at h;cases h
theorem bL {α β:Type} {o:Option (α×β)} {p:α→β→Prop} (a:α) (b:β) (ho:o=some (a,b)) (hp:p a b):∀x y,o=some (x,y)→p x y:=by
 intro x y h;rw [ho]at h;cases h;exact hp
theorem uC {α β:Type} {o:Option (α×β)} {p:α→β→Prop} (ho:o=none):∀x y,o=some (x,y)→p x y:=by
 intro x y h;rw [ho]at h;cases h
theorem am {b:Bool} {p:Prop} (hp:p):b=true→p:=fun _=>hp
theorem pv {b:Bool} {p:Prop} (hb:b=false):b=true→p:=by
 intro h;rw [hb]at h;cases h
structure gV where
 P:Program
 tab:List (Nat×TI)
 fns:FuncId→Bool
 re:Bool:=false
def gV.ty (C:gV) (t:TypeId):TI:=match C.tab.lookup t with
 |some i=>i
 |none=>{}
structure gV.Ok (C:gV):Prop where
 ty:∀t,aL C.P t (C.ty t)
 fns:∀f,C.fns f=true→∃fn c,C.P.funcs[f]? =some fn∧(fn.name== "runtime.NumGoroutine")=false∧fn.body=some c
 mixed:C.P.follows .mixedOrders=true
theorem oJ {P:Program}:∀p∈([]:List (Nat×TI)),aL P p.1 p.2:=fun _ h=>by cases h
theorem an {P:Program} {t:Nat} {i:TI} {l:List (Nat×TI)} (h:aL P t i) (r:∀p∈l,aL P p.1 p.2):∀p∈(t,i)::l,aL P p.1 p.2:=by
 intro p hp;rcases List.mem_cons.1 hp with rfl |hp
 ·exact h
 ·exact r p hp
theorem sX {P:Program} {l r:List (Nat×TI)} (h:∀p∈l,aL P p.1 p.2) (k:∀p∈r,aL P p.1 p.2):∀p∈l++r,aL P p.1 p.2:=fun p hp=>(List.mem_append.1 hp).elim (h p) (k p)
theorem uv {P:Program}:∀ {tab:List (Nat×TI)},(∀p∈tab,aL P p.1 p.2)→∀t,aL P t (match tab.lookup t with |some i=>i |none=>{})
 | [],_,t=>by simpa using aL.nothing P t
 |(u,i)::r,h,t=>by
  simp only [List.lookup_cons];by_cases hu:t=u
  ·subst hu;simpa using h (t,i) (by simp)
  ·have:(t==u)=false:=by simpa using hu
   simp only [this];exact uv (fun p hp=>h p (by simp [hp])) t
theorem I_ {C:gV} (htab:∀p∈C.tab,aL C.P p.1 p.2) (hf:∀f,C.fns f=true→∃fn c,C.P.funcs[f]? =some fn∧(fn.name== "runtime.NumGoroutine")=false∧fn.body=some c) (hm:C.P.follows .mixedOrders=true):C.Ok:=
 ⟨fun t=>uv htab t,hf,hm⟩
def oH (P:Program) (s:Sem Value) (rs:Option Rs) (w:World) (K:Value→World→Prop):Prop:=match rs with
 |none=>False
 |some r=>Qd r fun v=>∃w',s.run P w= .ok v w'∧K v w'
def Jl (P:Program) (s:Sem Unit) (w:World) (K:Value→World→Prop):Prop:=∃w',s.run P w= .ok () w'∧K undef w'
def wU (P:Program) (t:TypeId) (w:World) (p q:Option Addr) (F:Bool→Prop):Prop:=match q with
 |none=>F p.isNone
 |some b=>match p with
  |none=>F false
  |some a=>∃r:Bool,(Op.equalIn (9999+1) t (.pointer (some a)) (.pointer (some b))).run P w= .ok r w∧F r
def Ho:Value→Bool
 | .nilIface=>true
 | .nilFunc=>true
 |_=>false
def eW (C:gV) (op:BinOp) (t:TypeId) (cx cy:Operand) (x y:Value) (ot:TypeId) (w:World) (K:Value→World→Prop):Prop:=
 match x,y with
 | .int k a,.int k' b=>match op with
  | .shl=>0≤b∧K (.int k (k.wrap (a*2^(min b.toNat k.bits)))) w
  | .shr=>0≤b∧K (.int k (a.fdiv (2^(min b.toNat k.bits)))) w
  | .add=>match k==k' with |true=>Ar k (a+b) fun n=>K (.int k n) w |false=>False
  | .sub=>match k==k' with |true=>Ar k (a-b) fun n=>K (.int k n) w |false=>False
  | .mul=>match k==k' with |true=>Ar k (a*b) fun n=>K (.int k n) w |false=>False
  | .quo=>match k==k' with |true=>b≠0∧K (.int k (k.wrap (a.tdiv b))) w |false=>False
  | .rem=>match k==k' with |true=>b≠0∧K (.int k (a.tmod b)) w |false=>False
  | .and=>match k==k' with |true=>K (.int k (k.wrap (BitVec.ofInt k.bits a&&&BitVec.ofInt k.bits b).toNat)) w |false=>False
  | .or=>match k==k' with |true=>K (.int k (k.wrap (BitVec.ofInt k.bits a|||BitVec.ofInt k.bits b).toNat)) w |false=>False
  | .xor=>match k==k' with |true=>K (.int k (k.wrap (BitVec.ofInt k.bits a^^^BitVec.ofInt k.bits b).toNat)) w |false=>False
  | .andNot=>match k==k' with |true=>K (.int k (k.wrap (BitVec.ofInt k.bits a&&& ~~~ BitVec.ofInt k.bits b).toNat)) w |false=>False
  | .eql=>match k==k' with |true=>K (.bool (a==b)) w |false=>False
  | .neq=>match k==k' with |true=>K (.bool (a != b)) w |false=>False
  | .lss=>match k==k' with |true=>K (.bool (a<b)) w |false=>False
  | .leq=>match k==k' with |true=>K (.bool (a≤b)) w |false=>False
  | .gtr=>match k==k' with |true=>K (.bool (a>b)) w |false=>False
  | .geq=>match k==k' with |true=>K (.bool (a≥b)) w |false=>False
 | .string a,.string b=>match op with
  | .add=>((a.size+b.size:Nat):Int)≤IntKind.i64.max∧K (.string (a++b)) w
  | .eql=>K (.bool (a.toList==b.toList)) w
  | .neq=>K (.bool (!(a.toList==b.toList))) w
  | .lss=>K (.bool (Op.bytesLess a.toList b.toList)) w
  |_=>False
 | .bool a,.bool b=>match(C.ty t).isBool,op with
  |true,.eql=>K (.bool (a==b)) w
  |true,.neq=>K (.bool (!(a==b))) w
  |_,_=>False
 | .pointer p,.pointer q=>match(C.ty t).isPtr,op with
  |true,.eql=>wU C.P t w p q fun b=>K (.bool b) w
  |true,.neq=>wU C.P t w p q fun b=>K (.bool (!b)) w
  |_,_=>False
 | .slice p _ _,.slice none _ _=>match(C.ty t).isSlc,op with
  |true,.eql=>K (.bool p.isNone) w
  |true,.neq=>K (.bool (!p.isNone)) w
  |_,_=>False
 | .map p,.map none=>match(C.ty t).isMap,op with
  |true,.eql=>K (.bool p.isNone) w
  |true,.neq=>K (.bool (!p.isNone)) w
  |_,_=>False
 | .agg xs,.agg ys=>match(C.ty t).eqs with
  |none=>False
  |some l=>match JG l xs.toList ys.toList,op with
   |some b,.eql=>K (.bool b) w
   |some b,.neq=>K (.bool (!b)) w
   |_,_=>False
 |x,y=>oH C.P (do eqGuard op t cx cy x y;binOp op t x y) (C.ty ot).rs w K
def pg (C:gV) (op:BinOp) (t:TypeId) (cx cy:Operand) (x y:Value) (ot:TypeId) (w:World) (K:Value→World→Prop):Prop:=
 match Ho y with
 |true=>oH C.P (do eqGuard op t cx cy x y;binOp op t x y) (C.ty ot).rs w K
 |false=>eW C op t cx cy x y ot w K
theorem rB {P:Program} {s:Sem Value} {rs:Option Rs} {w:World} {K:Value→World→Prop} (h:oH P s rs w K):∃v w',s.run P w= .ok v w'∧K v w':=by
 unfold oH at h;split at h
 ·exact h.elim
 ·exact vV h
theorem nE (P:Program) (d:Nat) (t:TypeId) (a b:Bool) (w:World) (h:P.underlying t=some .bool):(Op.equalIn (d+1) t (.bool a) (.bool b)).run P w= .ok (a==b) w:=by
 simp [Op.equalIn,run_underlying h,Result.andThen]
theorem yH (P:Program) (d:Nat) (t e:TypeId) (p:Option Addr) (w:World) (h:P.underlying t=some (.pointer e)):(Op.equalIn (d+1) t (.pointer p) (.pointer none)).run P w= .ok p.isNone w:=by
 cases p<;>simp [Op.equalIn,run_underlying h,Result.andThen]
theorem qi (P:Program) (d:Nat) (t e:TypeId) (p:Option Addr) (n c n' c':Nat) (w:World) (h:P.underlying t=some (.slice e)):(Op.equalIn (d+1) t (.slice p n c) (.slice none n' c')).run P w= .ok p.isNone w:=by
 cases p<;>simp [Op.equalIn,run_underlying h,Result.andThen]
theorem pT (P:Program) (d:Nat) (t k e:TypeId) (p:Option Nat) (w:World) (h:P.underlying t=some (.map k e)):(Op.equalIn (d+1) t (.map p) (.map none)).run P w= .ok p.isNone w:=by
 cases p<;>simp [Op.equalIn,run_underlying h,Result.andThen]
theorem Es (P:Program) (d:Nat) (t e:TypeId) (b:Addr) (w:World) (h:P.underlying t=some (.pointer e)):(Op.equalIn (d+1) t (.pointer none) (.pointer (some b))).run P w= .ok false w:=by
 simp [Op.equalIn,run_underlying h,Result.andThen]
theorem ve {P:Program} {t e:TypeId} {w:World} {p q:Option Addr} {F:Bool→Prop} (h:P.underlying t=some (.pointer e)) (hF:wU P t w p q F):
  ∃b,(Op.equalIn (9999+1) t (.pointer p) (.pointer q)).run P w= .ok b w∧F b:=by
 unfold wU at hF;split at hF
 ·exact⟨_,yH _ _ _ e _ _ h,hF⟩
 ·split at hF
  ·exact⟨false,Es _ _ _ e _ _ h,hF⟩
  ·obtain⟨r,hr,hF⟩:=hF;exact⟨r,hr,hF⟩
theorem qQ {P:Program} {t:TypeId} {x y:Value} {w:World} {b:Bool} (cx cy:Operand) (hx:∀s:Sem Value,(do eqGuard .eql t cx cy x y;s:Sem Value).run P w=s.run P w)
  (hb:binOp .eql t x y=(do pure (.bool (←Op.equal t x y)))) (h:(Op.equalIn (9999+1) t x y).run P w= .ok b w):(do eqGuard .eql t cx cy x y;binOp .eql t x y:Sem Value).run P w= .ok (.bool b) w:=by
 rw [hx,hb];have:(Op.equal t x y).run P w= .ok b w:=h;rw [Sem.run_bind,this];rfl
theorem qD {P:Program} {t:TypeId} {x y:Value} {w:World} {b:Bool} (cx cy:Operand) (hx:∀s:Sem Value,(do eqGuard .neq t cx cy x y;s:Sem Value).run P w=s.run P w)
  (hb:binOp .neq t x y=(do pure (.bool (!(←Op.equal t x y))))) (h:(Op.equalIn (9999+1) t x y).run P w= .ok b w):(do eqGuard .neq t cx cy x y;binOp .neq t x y:Sem Value).run P w= .ok (.bool !b) w:=by
 rw [hx,hb];have:(Op.equal t x y).run P w= .ok b w:=h;rw [Sem.run_bind,this];rfl
theorem AU {P:Program} {t:TypeId} {w:World} {xs:Array Value} {k:Nat} {v:Value} (h:(P.underlying t).map h_=some false) (hv:xs[k]? =some v):(part t xs k).run P w= .ok v w:=by
 have ha:(isAgg t).run P w= .ok false w:=by
  obtain⟨d,hd,hf⟩:=Option.map_eq_some_iff.1 h;cases d<;>simp [h_]at hf<;>simp [isAgg,run_underlying hd,Result.andThen]
 simp [part,ha,hv,Result.andThen]
theorem JJ {P:Program} {t:TypeId} {e:Ka} {x y:Value} {b:Bool} {w:World} (d:Nat) (hk:xm P t e=true) (h:QT e x y=some b):(Op.equalIn (d+1) t x y).run P w= .ok b w∧(P.underlying t).map h_=some false:=by
 unfold QT at h;split at h
 ·rename_i k a k' b';split at h
  ·rename_i hkk;have hkk:k=k':=by simpa using hkk
   subst hkk;cases h;simp only [xm]at hk;split at hk
   ·rename_i q hq;exact⟨run_equalIn_int w d t k q a b' hq,by rw [hq];rfl⟩
   ·cases hk
  ·cases h
 ·cases h;simp only [xm]at hk;split at hk
  ·rename_i hq;exact⟨run_equalIn_string w d t _ _ hq,by rw [hq];rfl⟩
  ·cases hk
 ·cases h;simp only [xm]at hk;split at hk
  ·rename_i hq;exact⟨run_equalIn_bool w d t _ _ hq,by rw [hq];rfl⟩
  ·cases hk
 ·cases h
theorem nA {P:Program} {xs ys:Array Value} {w:World} (d:Nat):∀(fs:List Field) (k:Nat) (l:List Ka) (b:Bool),FJ P fs k l=true→JG l (xs.toList.drop k) (ys.toList.drop k)=some b→(Op.eqFields (d+1) xs ys fs).run P w= .ok b w
 | [],k,l,b,hf,h=>by
  cases l with
  |nil=>
   simp only [Op.eqFields];generalize xs.toList.drop k=p at h;generalize ys.toList.drop k=q at h;cases p<;>cases q<;>simp [JG]at h
   subst h;rfl
  |cons e l=>simp [FJ]at hf
 |f::fs,k,[],b,hf,h=>by simp [FJ]at hf
 |f::fs,k,e::l,b,hf,h=>by
  simp only [FJ,Bool.and_eq_true,decide_eq_true_eq]at hf;obtain⟨h1,h2,h3,h4⟩:=hf;have h2:=Nat.eq_of_beq_eq_true h2;cases hx:xs.toList.drop k with
  |nil=>rw [hx]at h;simp [JG]at h
  |cons x xr=>
   cases hy:ys.toList.drop k with
   |nil=>rw [hx,hy]at h;simp [JG]at h
   |cons y yr=>
    rw [hx,hy]at h;simp only [JG]at h;split at h
    ·rename_i b1 b2 he hr;cases h;obtain⟨hrun,hagg⟩:=JJ (w:=w) d h3 he;have gx:xs[f.offset]? =some x:=by
      rw [h2];have:=congrArg (·[0]?) hx;simpa using this
     have gy:ys[f.offset]? =some y:=by
      rw [h2];have:=congrArg (·[0]?) hy;simpa using this
     have tx:xs.toList.drop (k+1)=xr:=by
      rw [←List.drop_drop,hx];rfl
     have ty:ys.toList.drop (k+1)=yr:=by
      rw [←List.drop_drop,hy];rfl
     have rest:=nA (xs:=xs) (ys:=ys) (w:=w) d fs (k+1) l b2 h4 (by rw [tx,ty];exact hr);simp only [Op.eqFields,h1,ne_eq,not_false_eq_true,if_true,Sem.run_bind,AU hagg gx,AU hagg gy,hrun,Result.andThen];cases b1
     ·rfl
     ·simpa using rest
    ·cases h
theorem mN {P:Program} {t:TypeId} {l:List Ka} {xs ys:Array Value} {b:Bool} {w:World} (h:r_ P t l=true) (he:JG l xs.toList ys.toList=some b):(Op.equalIn 10000 t (.agg xs) (.agg ys)).run P w= .ok b w∧P.eqGuardType P.depth t=false:=by
 simp only [r_,Bool.and_eq_true,Bool.not_eq_true']at h;obtain⟨h1,h2,h3,h4⟩:=h;refine⟨?_,h3⟩;have hs:P.underlying t=some (.struct (P.fieldsOf t)):=by
  unfold Program.fieldsOf;split at h1
  ·rename_i hu;rw [hu]
  ·cases h1
 rw [run_equalIn_struct w 9999 t xs ys hs h2];exact nA 9998 _ 0 l b h4 he
theorem AF {C:gV} (hC:C.Ok) {op:BinOp} {t:TypeId} {cx cy:Operand} {x y:Value} {ot:TypeId} {w:World} {K:Value→World→Prop} (h:eW C op t cx cy x y ot w K):
  ∃v w',(do eqGuard op t cx cy x y;binOp op t x y:Sem Value).run C.P w= .ok v w'∧K v w':=by
 unfold eW at h;split at h
 ·rename_i k a k' b;have hg:∀(f:Sem Value),(do eqGuard op t cx cy (.int k a) (.int k' b);f:Sem Value).run C.P w=f.run C.P w:=by
   intro f;cases op<;>simp [eqGuard,Result.andThen]
  rw [hg];by_cases hk:k=k'
  ·subst hk;cases op<;>simp only [beq_self_eq_true]at h<;>simp only [binOp,Op.shift,Op.intArith,Op.intDiv,Op.intBits,Op.intCmp,Ar,ne_eq,not_true_eq_false,if_false]at h⊢
   case shl=>rw [if_neg (by omega)];exact⟨_,_,rfl,h.2⟩
   case shr=>rw [if_neg (by omega)];exact⟨_,_,rfl,h.2⟩
   case quo=>rw [if_neg h.1];exact⟨_,_,rfl,h.2⟩
   case rem=>rw [if_neg h.1];exact⟨_,_,rfl,h.2⟩
   all_goals exact⟨_,_,rfl,h⟩
  ·have hkf:(k==k')=false:=by simpa using hk
   cases op<;>simp only [hkf]at h
   case shl=>simp only [binOp,Op.shift];rw [if_neg (by omega)];exact⟨_,_,rfl,h.2⟩
   case shr=>simp only [binOp,Op.shift];rw [if_neg (by omega)];exact⟨_,_,rfl,h.2⟩
 ·rename_i a b;have hg:∀(f:Sem Value),(do eqGuard op t cx cy (.string a) (.string b);f:Sem Value).run C.P w=f.run C.P w:=by
   intro f;cases op<;>simp [eqGuard,Result.andThen]
  rw [hg];cases op<;>simp only [binOp,Op.stringOp]at h⊢
  case add=>rw [if_neg (by omega)];exact⟨_,_,rfl,h.2⟩
  all_goals first |exact⟨_,_,rfl,h⟩ |exact h.elim
 ·rename_i a b;have hu:=(hC.ty t).isBool;split at h
  ·rename_i hb;exact⟨_,_,qQ _ _ (fun _=>rfl) rfl (nE _ _ _ _ _ _ (hu hb)),h⟩
  ·rename_i hb;exact⟨_,_,qD _ _ (fun _=>rfl) rfl (nE _ _ _ _ _ _ (hu hb)),h⟩
  ·exact h.elim
 ·rename_i p q;have hu:=(hC.ty t).isPtr;split at h
  ·rename_i hb;obtain⟨e,hu⟩:=hu hb;obtain⟨b,hr,hF⟩:=ve hu h;exact⟨_,_,qQ _ _ (fun _=>rfl) (by cases p<;>cases q<;>rfl) hr,hF⟩
  ·rename_i hb;obtain⟨e,hu⟩:=hu hb;obtain⟨b,hr,hF⟩:=ve hu h;exact⟨_,_,qD _ _ (fun _=>rfl) (by cases p<;>cases q<;>rfl) hr,hF⟩
  ·exact h.elim
 ·have hu:=(hC.ty t).isSlc;split at h
  ·rename_i hb;obtain⟨e,hu⟩:=hu hb;exact⟨_,_,qQ _ _ (fun _=>rfl) rfl (qi _ _ _ e _ _ _ _ _ _ hu),h⟩
  ·rename_i hb;obtain⟨e,hu⟩:=hu hb;exact⟨_,_,qD _ _ (fun _=>rfl) rfl (qi _ _ _ e _ _ _ _ _ _ hu),h⟩
  ·exact h.elim
 ·have hu:=(hC.ty t).isMap;split at h
  ·rename_i hb;obtain⟨k,e,hu⟩:=hu hb;exact⟨_,_,qQ _ _ (fun _=>rfl) rfl (pT _ _ _ k e _ _ hu),h⟩
  ·rename_i hb;obtain⟨k,e,hu⟩:=hu hb;exact⟨_,_,qD _ _ (fun _=>rfl) rfl (pT _ _ _ k e _ _ hu),h⟩
  ·exact h.elim
 ·rename_i xs ys;split at h
  ·exact h.elim
  ·rename_i l hl;have hf:=(hC.ty t).eqs l hl;split at h
   ·rename_i b hb;obtain⟨hr,hg⟩:=mN (w:=w) hf hb;refine⟨_,_,?_,h⟩;rw [Sem.run_bind,run_eqGuard_agg _ _ _ _ _ _ _ hg];simp only [Result.andThen];rw [run_eql_struct,hr];rfl
   ·rename_i b hb;obtain⟨hr,hg⟩:=mN (w:=w) hf hb;refine⟨_,_,?_,h⟩;rw [Sem.run_bind,run_eqGuard_agg _ _ _ _ _ _ _ hg];simp only [Result.andThen];rw [run_neq_struct,hr];rfl
   ·exact h.elim
 ·exact rB h
theorem Ds {C:gV} (hC:C.Ok) {op:BinOp} {t:TypeId} {cx cy:Operand} {x y:Value} {ot:TypeId} {w:World} {K:Value→World→Prop} (h:pg C op t cx cy x y ot w K):
  ∃v w',(do eqGuard op t cx cy x y;binOp op t x y:Sem Value).run C.P w= .ok v w'∧K v w':=by
 unfold pg at h;split at h
 ·exact rB h
 ·exact AF hC h
def A0 (e:cW):List (Nat×Operand)→Option (List (Nat×Value))
 | []=>some []
 |(i,x)::r=>match ev e x with
  |none=>none
  |some v=>match A0 e r with
   |none=>none
   |some vs=>some ((i,v)::vs)
theorem Sim.evps {n:Nat} {a:Act} {e:cW} (h:Sim n a e):∀ {l:List (Nat×Operand)} {vs:List (Nat×Value)},Eng.A0 e l=some vs→l.map (fun p=>(p.1,a.eval p.2))=vs
 | [],vs,hx=>by simp [Eng.A0]at hx;simp [hx]
 |(i,x)::r,vs,hx=>by
  simp only [Eng.A0]at hx;split at hx
  ·cases hx
  ·rename_i v hv;split at hx
   ·cases hx
   ·rename_i t ht;cases hx;simp [h.ev hv,h.evps ht]
def ip (cells:List Value) (off:Nat) (vs:List Value):List Value:=cells.take off++vs++cells.drop (off+vs.length)
def nn (place:Nat→Option (Nat×Nat)) (cells:List Value):List (Nat×Value)→Option (List Value)
 | []=>some cells
 |(i,v)::rest=>match place i with
  |none=>none
  |some (off,size)=>match Nat.beq v.cells.toList.length size&&Nat.ble (off+size) cells.length with
   |false=>none
   |true=>nn place (ip cells off v.cells.toList) rest
theorem ux (off:Nat):∀(vs:List Value) (k:Nat) (cs:Array Value),off+k+vs.length≤cs.size→
  (vs.zipIdx k).foldl (fun cs (p:Value×Nat)=>cs.setIfInBounds (off+p.2) p.1) cs=(ip cs.toList (off+k) vs).toArray
 | [],k,cs,h=>by simp [ip]
 |v::r,k,cs,h=>by
  simp only [List.length_cons]at h;rw [List.zipIdx_cons,List.foldl_cons,ux off r (k+1) _ (by simp;omega)];congr 1;have hi:off+k<cs.toList.length:=by simp;omega
  simp only [ip,Array.toList_setIfInBounds,List.length_cons,List.set_eq_take_append_cons_drop,hi,if_true];have hlen:(cs.toList.take (off+k)).length=off+k:=by rw [List.length_take];omega
  rw [show off+(k+1)=(cs.toList.take (off+k)).length+1 from by omega,List.take_length_add_append,show(cs.toList.take (off+k)).length+1+r.length=(cs.toList.take (off+k)).length+(1+r.length)from by omega,List.drop_length_add_append];rw [Nat.add_comm 1 r.length];simp only [List.drop_succ_cons,List.drop_drop,List.take_succ_cons,List.take_zero,List.append_assoc,List.cons_append,List.nil_append];rw [show off+k+1+r.length=off+k+(r.length+1)from by omega]
theorem iP {place:Nat→Option (Nat×Nat)}:∀ {ps:List (Nat×Value)} {cells out:List Value},nn place cells ps=some out→Instr.fill place cells.toArray ps=some out.toArray
 | [],cells,out,h=>by simp [nn]at h;simp [Instr.fill,h]
 |(i,v)::rest,cells,out,h=>by
  simp only [nn]at h;split at h
  ·cases h
  ·rename_i off size hp;split at h
   ·cases h
   ·rename_i hb;have hb1:v.cells.toList.length=size:=Nat.eq_of_beq_eq_true (Bool.and_eq_true_iff.1 hb).1;have hb2:off+size≤cells.length:=Nat.le_of_ble_eq_true (Bool.and_eq_true_iff.1 hb).2;have h1:v.cells.size=size:=by rw [←hb1];simp
    simp only [Instr.fill,hp];rw [if_neg (by simp [h1];omega)];have:=iP h;rw [←this];congr 1;have hf:=ux off v.cells.toList 0 cells.toArray (by simp [h1];omega);simp only [Nat.add_zero]at hf;rw [←hf, ←Array.foldl_toList];simp [Array.toList_zipIdx]
def mq (z:List Value):Nat→List Value
 |0=>[]
 |n+1=>z++mq z n
theorem uz (z:List Value) (hz:0<z.length):∀(n i:Nat),i<n*z.length→(mq z n)[i]? =z[i%z.length]?
 |0,i,h=>by simp at h
 |n+1,i,h=>by
  simp only [mq];rw [Nat.succ_mul]at h;by_cases hi:i<z.length
  ·rw [List.getElem?_append_left hi,Nat.mod_eq_of_lt hi]
  ·rw [List.getElem?_append_right (by omega),uz z hz n _ (by omega),Nat.mod_eq_sub_mod (a:=i) (by omega)]
theorem up (z:List Value):∀n,(mq z n).length=n*z.length
 |0=>by simp [mq]
 |n+1=>by simp [mq,up z n,Nat.succ_mul];omega
theorem DS (z:Array Value) (n:Nat) (hz:0<z.size):(Array.range (n*z.size)).map (z[·%z.size]!)=(mq z.toList n).toArray:=by
 apply Array.ext_getElem?;intro i;by_cases hi:i<n*z.size
 ·have h1:i%z.size<z.size:=Nat.mod_lt _ hz;rw [Array.getElem?_map,Array.getElem?_range,if_pos hi];simp only [Option.map_some,List.getElem?_toArray];rw [uz _ (by simpa using hz) _ _ (by simpa using hi)];simp [getElem!_pos,h1]
 ·rw [Array.getElem?_eq_none (by simp;omega),Array.getElem?_eq_none (by simp [up];omega)]
def cd (p:Option Addr) (l m s:Nat):Option Addr:=if m=l then p else p.map (·.add (l*s))
def Ly (e:cW) (x:Option Operand) (d:Nat):Option Int:=match x with
 |none=>some (d:Int)
 |some o=>match ev e o with
  |some (.int _ n)=>some n
  |_=>none
def Mo:Value→Bool
 | .func (.func _) _ _=>true
 | .iface _ _=>true
 |_=>false
def dD {α:Type}:List α→Nat→Option α
 | [],_=>none
 |x::_,0=>some x
 |_::r,n+1=>dD r n
theorem cL {α:Type}:∀(l:List α) (i:Nat),dD l i=l[i]?
 | [],_=>by simp [dD]
 |_::_,0=>by simp [dD]
 |_::r,n+1=>by simp [dD,cL r n]
def oy (l:List (Nat×Nat×Bool)) (i:Nat):Option (Nat×Nat):=match dD l i with
 |some x=>some (x.1,x.2.1+1)
 |none=>none
def kQ (s i:Nat):Option (Nat×Nat):=some (i*s,s)
theorem B9 (l:List (Nat×Nat×Bool)) (i:Nat):oy l i=(l.map fun x=>(x.1,x.2.1+1))[i]? :=by
 simp only [oy,cL,List.getElem?_map];cases l[i]? <;>rfl
def iq (C:gV) (b:Builtin) (ats:List TypeId) (t:TypeId) (consts:Array Bool) (args:List Value) (w:World) (K:Value→World→Prop):Prop:=
 match b with
 | .len=>match ats,args with
  | [u],[.string s]=>match(C.ty u).isStr with |true=>K (.int .i64 s.size) w |false=>False
  | [u],[.slice _ n _]=>match(C.ty u).isSlc with |true=>K (.int .i64 n) w |false=>False
  |_,args=>oH C.P (Go.Builtin.len_ ats.toArray t args.toArray) (C.ty t).rs w K
 | .append=>oH C.P (Go.Builtin.append_ ats.toArray t args.toArray) (C.ty t).rs w K
 | .cap=>oH C.P (Go.Builtin.cap_ ats.toArray t args.toArray) (C.ty t).rs w K
 | .copy=>oH C.P (Go.Builtin.copy_ ats.toArray t args.toArray) (C.ty t).rs w K
 | .delete=>oH C.P (Go.Builtin.delete_ ats.toArray t args.toArray) (C.ty t).rs w K
 | .clear=>oH C.P (Go.Builtin.clear_ ats.toArray t args.toArray) (C.ty t).rs w K
 | .max=>oH C.P (Go.Builtin.max_ ats.toArray t args.toArray) (C.ty t).rs w K
 | .min=>oH C.P (Go.Builtin.min_ ats.toArray t args.toArray) (C.ty t).rs w K
 | .unsafeSliceData=>oH C.P (Go.Builtin.unsafeSliceData_ ats.toArray t args.toArray) (C.ty t).rs w K
 | .unsafeString=>oH C.P (Go.Builtin.unsafeString_ ats.toArray t args.toArray) (C.ty t).rs w K
 |_=>False
theorem sY {C:gV} (hC:C.Ok) {b:Builtin} {ats:List TypeId} {t:TypeId} {consts:Array Bool} {args:List Value} {w:World} {K:Value→World→Prop} (h:iq C b ats t consts args w K):
  ∃v w',(builtin b ats.toArray t consts args.toArray).run C.P w= .ok (.value v) w'∧K v w':=by
 cases b<;>simp only [iq]at h
 case len=>
  split at h
  ·rename_i u s;split at h
   ·rename_i hu;exact⟨_,_,by simp [builtin,Go.Builtin.len_,run_underlying ((hC.ty u).isStr hu),Result.andThen,goInt],h⟩
   ·exact h.elim
  ·rename_i u _ n _;split at h
   ·rename_i hu;obtain⟨e,hu⟩:=(hC.ty u).isSlc hu;exact⟨_,_,by simp [builtin,Go.Builtin.len_,run_underlying hu,Result.andThen,goInt],h⟩
   ·exact h.elim
  ·obtain⟨v,w',hr,hk⟩:=rB h;exact⟨v,w',by simp [builtin,hr,Result.andThen],hk⟩
 all_goals first
  |exact h.elim
  |(obtain⟨v,w',hr,hk⟩:=rB h;exact⟨v,w',by simp [builtin,hr,Result.andThen],hk⟩)
def ff (C:gV) (o:Oper) (e:cW) (w:World) (K:Value→World→Prop):Prop:=
 match o.op with
 | .move x=>match ev e x with |some v=>K v w |none=>False
 | .assign x=>match ev e x with |some v=>K v w |none=>False
 | .pick c a b=>match ev e c,ev e a,ev e b with
  |some (.bool t),some x,some y=>ac t (K x w) (K y w)
  |_,_,_=>False
 | .alloc t=>match(C.ty t).zero with
  |some z=>∀w',w'=w.alloc (.cells z.cells t)→K (.pointer (some ⟨w.heap.size,0,none⟩)) w'
  |none=>False
 | .box t x=>match ev e x with
  |some v=>∀w',w'=w.alloc (.cells v.cells t)→K (.pointer (some ⟨w.heap.size,0,none⟩)) w'
  |none=>False
 | .build t ps=>match(C.ty t).zero,A0 e ps.toList,(C.ty t).offs,(C.ty t).arr with
  |some z,some vs,some l,_=>match nn (oy l) z.cells.toList vs with
   |some out=>K (.agg out.toArray) w
   |none=>False
  |some z,some vs,none,some (_,s)=>match nn (kQ s) z.cells.toList vs with
   |some out=>K (.agg out.toArray) w
   |none=>False
  |_,_,_,_=>False
 | .buildSlice t n ps=>match(C.ty t).slc with
  |none=>False
  |some (u,s)=>match(C.ty u).zero,A0 e ps.toList with
   |some z,some vs=>match Nat.ble (n*s) 16777216&&Nat.ble 1 s&&Nat.beq z.cells.toList.length s with
    |false=>False
    |true=>match nn (kQ s) (mq z.cells.toList n) vs with
     |some out=>∀w',w'=w.alloc (.cells out.toArray u)→K (.slice (some ⟨w.heap.size,0,none⟩) n n) w'
     |none=>False
   |_,_=>False
 | .load t x=>match ev e x with
  |some (.pointer p)=>af p fun ad=>match(C.ty t).agg,(C.ty t).rs,(C.ty t).size with
   |some false,some (.one (.leaf l)),_=>II l fun v=>w.cell? ad=some v∧K v w
   |some true,some (.one (.agg ls)),some n=>match Nat.beq n ls.length with
    |true=>C7 ls fun vs=>fT w ad vs 0∧K (.agg vs.toArray) w
    |false=>False
   |_,_,_=>False
  |_=>False
 | .store t x y=>match ev e x,ev e y,(C.ty t).agg,(C.ty t).size with
  |some (.pointer p),some v,some false,some 1=>af p fun ad=>ax w ad (fun w'=>K undef w') [v] 0
  |some (.pointer p),some (.agg cs),some true,some n=>match Nat.beq cs.toList.length n with
   |true=>af p fun ad=>ax w ad (fun w'=>K undef w') cs.toList 0
   |false=>False
  |_,_,_,_=>False
 | .nilCheck x=>match ev e x with
  |some (.pointer p)=>af p fun ad=>K (.pointer (some ad)) w
  |some v=>Mo v=true∧K v w
  |none=>False
 | .binOp op t x y _=>match ev e x,ev e y with
  |some a,some b=>pg C op t x y a b o.type w K
  |_,_=>False
 | .unOp op _ x=>match op,ev e x with
  | .not,some (.bool b)=>K (.bool (!b)) w
  | .neg,some (.int k n)=>Ar k (0-n) fun m=>K (.int k m) w
  |_,_=>False
 | .convert s d x=>match ev e x,(C.ty d).intk,(C.ty s).intk with
  |some (.int _ n),some k',some _=>K (.int k' (k'.wrap n)) w
  |some v,_,_=>oH C.P (convert s d v) (C.ty d).rs w K
  |_,_,_=>False
 | .makeInterface t x=>match(C.ty t).conc,ev e x with
  |true,some v=>K (.iface t v) w
  |_,_=>False
 | .makeFunc fn first cap=>match Jd e first.toList,Jd e cap.toList with
  |some vs,some us=>K (.func fn vs.toArray us.toArray) w
  |_,_=>False
 | .makeMap t r=>match r with
  |none=>oH C.P (Instr.makeMap t none) (C.ty o.type).rs w K
  |some x=>match ev e x with
   |some v=>oH C.P (Instr.makeMap t (some v)) (C.ty o.type).rs w K
   |none=>False
 | .makeSlice t l c=>match ev e l,ev e c with
  |some a,some b=>oH C.P (Instr.makeSlice t a b) (C.ty o.type).rs w K
  |_,_=>False
 | .slice t x lo hi mx=>match ev e x with
  |some (.string s)=>match(C.ty t).isStr,Ly e lo 0,Ly e hi s.size,mx with
   |true,some l,some h,none=>0≤l∧l≤h∧h≤s.size∧K (.string (s.extract l.toNat h.toNat)) w
   |_,_,_,_=>False
  |some (.slice p n c)=>match(C.ty t).slc,Ly e lo 0,Ly e hi n,Ly e mx c with
   |some (_,s),some l,some h,some m=>0≤l∧l≤h∧(match hi with |none=>True |some _=>h≤m)∧(match mx with |none=>True |some _=>m≤c)∧(match hi,mx with |none,some _=>False |_,_=>True)∧K (.slice (cd p l.toNat m.toNat s) (h.toNat-l.toNat) (m.toNat-l.toNat)) w
   |_,_,_,_=>False
  |_=>False
 | .fieldAddr t x f=>match ev e x,(C.ty t).offs with
  |some (.pointer p),some l=>af p fun ad=>match dD l f with
   |some y=>K (.pointer (some (ad.add y.1))) w
   |none=>False
  |_,_=>False
 | .field t x f=>match ev e x,(C.ty t).offs with
  |some (.agg cs),some l=>match dD l f with
   |some (off,s,true)=>K (.agg ((cs.toList.drop off).take (s+1)).toArray) w
   |some (off,_,false)=>match dD cs.toList off with
    |some v=>K v w
    |none=>False
   |none=>False
  |_,_=>False
 | .indexAddr t x i=>match ev e x,ev e i with
  |some (.slice p n _),some (.int _ j)=>match(C.ty t).slc with
   |some (_,s)=>af p fun ad=>0≤j∧j<n∧K (.pointer (some (ad.add (j.toNat*s)))) w
   |none=>False
  |some (.pointer p),some (.int _ j)=>match(C.ty t).arr with
   |some (n,s)=>af p fun ad=>0≤j∧j<n∧K (.pointer (some (ad.add (j.toNat*s)))) w
   |none=>False
  |_,_=>False
 | .index t x i=>match ev e x,ev e i with
  |some (.string s),some (.int _ j)=>match(C.ty t).isStr with
   |true=>0≤j∧j<s.size∧K (.int .u8 (eu s j)) w
   |false=>False
  |some a,some b=>oH C.P (Instr.index t a b) (C.ty o.type).rs w K
  |_,_=>False
 | .lookup t m k ok=>match ev e m,ev e k with
  |some a,some b=>oH C.P (Instr.lookup t a b ok) (C.ty o.type).rs w K
  |_,_=>False
 | .mapUpdate t m k x=>match ev e m,ev e k,ev e x with
  |some a,some b,some c=>Jl C.P (Instr.mapUpdate t a b c) w K
  |_,_,_=>False
 | .insert t m k x=>match ev e m,ev e k,ev e x with
  |some a,some b,some c=>Jl C.P (Instr.mapUpdate t a b c) w K
  |_,_,_=>False
 | .mapEntry t m k=>match ev e m,ev e k with
  |some a,some b=>match(C.ty t).elemSh with
   |some sh=>oH C.P (Instr.mapEntry t a b) (some (.tup [sh,.leaf (.int .i64)])) w K
   |none=>False
  |_,_=>False
 | .entryStore t m s x=>match ev e m,ev e s,ev e x with
  |some a,some b,some c=>Jl C.P (Instr.entryStore t a b c) w K
  |_,_,_=>False
 | .range t x=>match ev e x with
  |some a=>oH C.P (Instr.range t a) (some (.one (.leaf .ptr))) w K
  |none=>False
 | .next x s=>match ev e x with
  |some a=>match s with
   |true=>oH C.P (Instr.next a true o.type) (C.ty o.type).rs w K
   |false=>oH C.P (Instr.next a false o.type) (some (.tup [.leaf .bool])) w K∨oH C.P (Instr.next a false o.type) (some (.tup [.leaf .bool,.leaf .any,.leaf .any])) w K
  |none=>False
 | .entry x=>match ev e x with
  |some a=>oH C.P (Instr.entry a) (some (.tup [.leaf .any,.leaf .any])) w K
  |none=>False
 | .typeAssert x xt at_ ok=>match ev e x with
  |some a=>oH C.P (Instr.typeAssert a xt at_ ok) (C.ty o.type).rs w K
  |none=>False
 | .extract x i=>match ev e x with
  |some (.tuple vs)=>match dD vs.toList i with
   |some v=>match C.re with
    |false=>K v w
    |true=>match(C.ty o.type).rs with
     |some (.one (.leaf l))=>II l fun u=>v=u∧K u w
     |_=>K v w
   |none=>False
  |_=>False
 | .call c=>match c.callee with
  | .builtin b=>match Jd e c.args.toList with
   |some vs=>iq C b c.argTypes.toList o.type (c.args.map fun | .const _=>true |_=>false) vs w K
   |none=>False
  |_=>False
 |_=>False
theorem fw {P:Program} {t:TypeId} {b:Bool} (h:(P.underlying t).map h_=some b) (w:World):(isAgg t).run P w= .ok b w:=by
 obtain⟨d,hd,rfl⟩:=Option.map_eq_some_iff.1 h;unfold isAgg;cases d<;>simp [run_underlying hd,Result.andThen,h_]
theorem co {P:Program} {t:TypeId} {n:Nat} (h:(P.info? t).map (·.size)=some n) (w:World):(sizeOf t).run P w= .ok n w:=by
 obtain⟨d,hd,rfl⟩:=Option.map_eq_some_iff.1 h;simp [sizeOf,typeInfo,hd,Result.andThen]
theorem gq {P:Program} {t:TypeId} {v:Value} (h:(P.info? t).map (·.zero)=some (some v)) (w:World):(zeroValue t).run P w= .ok v w:=by
 obtain⟨d,hd,hz⟩:=Option.map_eq_some_iff.1 h;simp [zeroValue,typeInfo,hd,hz,Result.andThen]
theorem ee {P:Program} {w:World} {a:Addr}:∀(vs:List Value) (i:Nat) (acc:Array Value),fT w a vs i→(loadCellsFrom a i vs.length acc).run P w= .ok (acc++vs.toArray) w
 | [],i,acc,_=>by simp [loadCellsFrom]
 |v::r,i,acc,h=>by
  obtain⟨h1,h2⟩:=h;simp only [List.length_cons,loadCellsFrom,Sem.run_bind,run_load,h1,Result.andThen];rw [ee r (i+1) (acc.push v) h2];simp
theorem gP {P:Program} {a:Addr} {k:World→Prop}:∀(vs:List Value) (i:Nat) (w:World),ax w a k vs i→∃w',(storeCells a vs i).run P w= .ok () w'∧k w'
 | [],i,w,h=>⟨w,by simp [storeCells],h w rfl⟩
 |v::r,i,w,h=>by
  obtain⟨h1,⟨u,h2⟩,h3,h4⟩:=h;obtain⟨w',hr,hk⟩:=gP r (i+1) _ h4;refine⟨w',?_,hk⟩;simp only [storeCells,Sem.run_bind,run_store P w _ v _ h1,h2,h3,Result.andThen];exact hr
theorem fZ {p:Option Addr} {k:Addr→Prop} (h:af p k):∃a,p=some a∧k a:=by
 cases p with
 |none=>exact h.elim
 |some a=>exact⟨a,rfl,h⟩
theorem nH {n:Nat} {a:Act} {e:cW} (hS:Sim n a e) {x:Option Operand} {d:Nat} {z:Int} (h:Ly e x d=some z):(x=none∧z=d)∨(∃o k,x=some o∧a.eval o= .int k z):=by
 cases x with
 |none=>simp only [Ly,Option.some.injEq]at h;exact .inl ⟨rfl,h.symm⟩
 |some o=>
  simp only [Ly]at h;split at h
  ·rename_i k m hm;cases h;exact .inr ⟨o,k,rfl,hS.ev hm⟩
  ·cases h
theorem de {P:Program} {k:IntKind} {i:Int} {y:Nat} {code:BoundsCode} (h0:0≤i) (h1:i≤y) (w:World):(Instr.sliceBound (.int k i) y code).run P w= .ok i.toNat w:=by
 simp [Instr.sliceBound,asIntOf,Result.andThen,h0,h1]
def rg:Op→Bool
 | .store .. =>true
 | .mapUpdate .. =>true
 | .insert .. =>true
 | .entryStore .. =>true
 |_=>false
def jO (P:Program) (o:Oper) (a:Act) (w:World) (K:Value→World→Prop):Prop:=
 (∃v w',(execOp a.eval o).run P w= .ok (.value v) w'∧K v w')∨(rg o.op=true∧∃w',(execOp a.eval o).run P w= .ok .skip w'∧K undef w')
theorem eJ {P:Program} {o:Oper} {a:Act} {w:World} {K:Value→World→Prop} {rs:Option Rs} {s:Sem Value} (h:oH P s rs w K) (he:execOp a.eval o=(do pure (.value (←s)))):jO P o a w K:=by
 obtain⟨v,w',hr,hk⟩:=rB h;exact .inl ⟨v,w',by rw [he];simp [hr,Result.andThen],hk⟩
theorem tD {P:Program} {o:Oper} {a:Act} {w:World} {K:Value→World→Prop} {s:Sem Unit} (h:Jl P s w K) (hu:rg o.op=true) (he:execOp a.eval o=(do s;pure .skip)):jO P o a w K:=by
 obtain⟨w',hr,hk⟩:=h;exact .inr ⟨hu,w',by rw [he];simp [hr,Result.andThen],hk⟩
theorem si {P:Program} (t:TypeId) (v:Value) (w:World):(newVar t v).run P w= .ok ⟨w.heap.size,0,none⟩ (w.alloc (.cells v.cells t)):=by
 simp only [newVar,newRow,Sem.run_bind,run_newObj,Result.andThen,Sem.run_pure];rfl
theorem tc {P:Program} (t:TypeId) (c:Array Value) (w:World):(newRow t c).run P w= .ok ⟨w.heap.size,0,none⟩ (w.alloc (.cells c t)):=by
 simp only [newRow,Sem.run_bind,run_newObj,Result.andThen,Sem.run_pure];rfl
section
variable {C:gV} {n:Nat} {a:Act} {e:cW} {w:World} {K:Value→World→Prop}
theorem D4 (hC:C.Ok) (hS:Sim n a e) (o:Oper) {t:TypeId} {x:Operand} {f:Nat} (ho:o.op= .field t x f) (h:ff C o e w K):jO C.P o a w K:=by
 simp only [ff,ho]at h;split at h
 ·rename_i cs l hx hl;obtain⟨fs,hu,hm⟩:=(hC.ty t).offs _ hl;have hex:execOp a.eval o=(do pure (.value (←Instr.field t (a.eval x) f))):=by simp only [execOp,ho]
  rw [cL]at h;have hg:∀y,l[f]? =some y→∃fd,fs[f]? =some fd∧fd.offset=y.1∧(C.P.info? fd.type).map (·.size)=some (y.2.1+1)∧(C.P.underlying fd.type).map h_=some y.2.2:=by
   intro y hy;have:=congrArg (·[f]?) hm;simp only [List.getElem?_map,hy,Option.map_some]at this;obtain⟨fd,hfd,he⟩:=Option.map_eq_some_iff.1 this;simp only [Prod.mk.injEq]at he;exact⟨fd,by simpa using hfd,he.1,he.2.1,he.2.2⟩
  split at h
  ·rename_i off s hy;obtain⟨fd,hfd,h1,h2,h3⟩:=hg _ hy;refine .inl ⟨_,_,?_,h⟩;rw [hex];simp [Instr.field,run_underlying hu,Result.andThen,hfd,hS.ev hx,asAgg,part,fw h3,co h2];rw [show fd.offset=off from h1];apply Array.toList_inj.1;simp [Array.toList_extract,List.extract_eq_take_drop]
  ·rename_i off s hy;obtain⟨fd,hfd,h1,h2,h3⟩:=hg _ hy;rw [cL]at h;split at h
   ·rename_i v hv;refine .inl ⟨_,_,?_,h⟩;rw [hex];have hv':cs[fd.offset]? =some v:=by rw [h1];simpa using hv
    simp [Instr.field,run_underlying hu,Result.andThen,hfd,hS.ev hx,asAgg,part,fw h3,hv']
   ·exact h.elim
  ·exact h.elim
 ·exact h.elim
theorem rJ (hC:C.Ok) (hS:Sim n a e) (o:Oper) {t:TypeId} {x:Operand} {f:Nat} (ho:o.op= .fieldAddr t x f) (h:ff C o e w K):jO C.P o a w K:=by
 simp only [ff,ho]at h;split at h
 ·rename_i p l hx hl;obtain⟨ad,rfl,h⟩:=fZ h;obtain⟨fs,hu,hm⟩:=(hC.ty t).offs _ hl;rw [cL]at h;split at h
  ·rename_i y hy;have:=congrArg (·[f]?) hm;simp only [List.getElem?_map,hy,Option.map_some]at this;obtain⟨fd,hfd,he⟩:=Option.map_eq_some_iff.1 this;simp only [Prod.mk.injEq]at he;obtain⟨h1,h2,h3⟩:=he;refine .inl ⟨_,_,?_,h⟩;have hfd':fs[f]? =some fd:=by simpa using hfd
   simp [execOp,ho,hS.ev hx,Instr.fieldAt,run_underlying hu,Result.andThen,hfd',Instr.sureAddr,fieldPlace,co h2,h1]
  ·exact h.elim
 ·exact h.elim
theorem D9 (hC:C.Ok) (hS:Sim n a e) (o:Oper) {t:TypeId} {x:Operand} {lo hi mx:Option Operand} (ho:o.op= .slice t x lo hi mx) (h:ff C o e w K):jO C.P o a w K:=by
 simp only [ff,ho]at h;have hex:execOp a.eval o=(do pure (.value (←Instr.sliceAt t (a.eval x) (lo.map a.eval) (hi.map a.eval) (mx.map a.eval)))):=by simp only [execOp,ho]
 split at h
 ·rename_i s hx;split at h
  ·rename_i l hh hs hl hhh;obtain⟨h0,h1,h2,hk⟩:=h;have hu:=(hC.ty t).isStr hs;refine .inl ⟨_,_,?_,hk⟩;rw [hex,hS.ev hx];rcases nH hS hl with⟨rfl,rfl⟩ |⟨ol,kl,rfl,hel⟩<;>rcases nH hS hhh with⟨rfl,rfl⟩ |⟨oh,kh,rfl,heh⟩
   ·simp [Instr.sliceAt,Instr.slice,run_underlying hu,Result.andThen,Instr.sliceBounds]
   ·simp [Instr.sliceAt,Instr.slice,run_underlying hu,Result.andThen,Instr.sliceBounds,heh,de (by omega:0≤hh) h2]
   ·simp [Instr.sliceAt,Instr.slice,run_underlying hu,Result.andThen,Instr.sliceBounds,hel,de h0 h1]
   ·have h3:l≤((hh.toNat:Nat):Int):=by omega
    simp [Instr.sliceAt,Instr.slice,run_underlying hu,Result.andThen,Instr.sliceBounds,heh,de (by omega:0≤hh) h2,hel,de h0 h3]
  ·exact h.elim
 ·rename_i p len cap hx;split at h
  ·rename_i et es l hh m hs hl hhh hmm;obtain⟨h0,h1,h2,h3,h4,hk⟩:=h;obtain⟨hu,hsz⟩:=(hC.ty t).slc _ _ hs;refine .inl ⟨_,_,?_,hk⟩;rw [hex,hS.ev hx];have hsz':=co hsz w;rcases nH hS hmm with⟨rfl,rfl⟩ |⟨om,km,rfl,hem⟩<;>rcases nH hS hhh with⟨rfl,rfl⟩ |⟨oh,kh,rfl,heh⟩<;>
    rcases nH hS hl with⟨rfl,rfl⟩ |⟨ol,kl,rfl,hel⟩<;>simp only at h2 h3 h4
   ·simp [Instr.sliceAt,Instr.slice,run_underlying hu,Result.andThen,Instr.sliceBounds,hsz',cd]
   ·simp [Instr.sliceAt,Instr.slice,run_underlying hu,Result.andThen,Instr.sliceBounds,hsz',cd,hel,de h0 h1]
   ·simp [Instr.sliceAt,Instr.slice,run_underlying hu,Result.andThen,Instr.sliceBounds,hsz',cd,heh,de (by omega:0≤hh) h2]
   ·have h3:l≤((hh.toNat:Nat):Int):=by omega
    simp [Instr.sliceAt,Instr.slice,run_underlying hu,Result.andThen,Instr.sliceBounds,hsz',cd,heh,de (by omega:0≤hh) h2,hel,de h0 h3]
   ·have h2':hh≤((m.toNat:Nat):Int):=by omega
    simp [Instr.sliceAt,Instr.slice,run_underlying hu,Result.andThen,Instr.sliceBounds,hsz',cd,hem,de (by omega:0≤m) h3,heh,de (by omega:0≤hh) h2']
   ·have h2':hh≤((m.toNat:Nat):Int):=by omega
    have h3':l≤((hh.toNat:Nat):Int):=by omega
    simp [Instr.sliceAt,Instr.slice,run_underlying hu,Result.andThen,Instr.sliceBounds,hsz',cd,hem,de (by omega:0≤m) h3,heh,de (by omega:0≤hh) h2',hel,de h0 h3']
  ·exact h.elim
 ·exact h.elim
theorem kP (hC:C.Ok) (hS:Sim n a e) (o:Oper) (h:ff C o e w K):jO C.P o a w K:=by
 cases ho:o.op;case field t x f=>exact D4 hC hS o ho h
 case fieldAddr t x f=>exact rJ hC hS o ho h
 case slice t x lo hi mx=>exact D9 hC hS o ho h
 all_goals simp only [ff,ho]at h
 case move x=>
  split at h
  ·rename_i v hv;exact .inl ⟨v,w,by simp [execOp,ho,hS.ev hv],h⟩
  ·exact h.elim
 case assign x=>
  split at h
  ·rename_i v hv;exact .inl ⟨v,w,by simp [execOp,ho,hS.ev hv],h⟩
  ·exact h.elim
 case pick c x y=>
  split at h
  ·rename_i b u v hc hx hy;cases b
   ·exact .inl ⟨v,w,by simp [execOp,ho,hS.ev hc,hS.ev hy,asBool,Result.andThen],h⟩
   ·exact .inl ⟨u,w,by simp [execOp,ho,hS.ev hc,hS.ev hx,asBool,Result.andThen],h⟩
  ·exact h.elim
 case alloc t=>
  split at h
  ·rename_i z hz;exact .inl ⟨_,_,by simp [execOp,ho,Instr.alloc,gq ((hC.ty t).zero _ hz),si,Result.andThen],h _ rfl⟩
  ·exact h.elim
 case box t x=>
  split at h
  ·rename_i v hv;exact .inl ⟨_,_,by simp [execOp,ho,Instr.box,hS.ev hv,si,Result.andThen],h _ rfl⟩
  ·exact h.elim
 case build t ps=>
  have hps:∀vs,A0 e ps.toList=some vs→(ps.map fun(i,x)=>(i,a.eval x))=vs.toArray:=fun vs hv=>by
   apply Array.toList_inj.1;simp [←hS.evps hv]
  split at h
  ·rename_i arrv z vs l hz hv hl;split at h
   ·rename_i out hout;obtain⟨fs,hu,hm⟩:=(hC.ty t).offs _ hl;have hz':=gq ((hC.ty t).zero _ hz) w;have hplaces:∀(fl:List Field) (ll:List (Nat×Nat×Bool)),fl.map (fun f=>(f.offset,(C.P.info? f.type).map (·.size),(C.P.underlying f.type).map h_))=ll.map (fun x=>(x.1,some (x.2.1+1),some x.2.2))→
      (fl.mapM fun f=>do pure (f.offset, ←sizeOf f.type):Sem (List (Nat×Nat))).run C.P w= .ok (ll.map fun x=>(x.1,x.2.1+1)) w:=by
     intro fl;induction fl with
     |nil=>intro ll h;cases ll with |nil=>simp |cons _ _=>simp at h
     |cons f fl ih=>
      intro ll h;cases ll with
      |nil=>simp at h
      |cons y ll=>
       simp only [List.map_cons,List.cons.injEq,Prod.mk.injEq]at h;simp only [List.mapM_cons,Sem.run_bind,Sem.run_pure,Result.andThen,co h.1.2.1,ih ll h.2,h.1.1,List.map_cons]
    have hpl:=hplaces fs.toList l hm;have hfill:=iP hout;refine .inl ⟨_,_,?_,h⟩;have hfs:(fs.mapM fun f=>do pure (f.offset, ←sizeOf f.type):Sem (Array (Nat×Nat))).run C.P w= .ok (l.map fun x=>(x.1,x.2.1+1)).toArray w:=by
     rw [Array.mapM_eq_mapM_toList];simp only [Sem.run_map,hpl,Result.andThen]
    have hplace:(fun i=>(l.map fun x=>(x.1,x.2.1+1)).toArray[i]?)=oy l:=by
     funext i;rw [B9];simp
    simp only [Array.toArray_toList]at hfill;simp only [execOp,ho,Instr.build,Sem.run_bind,hz',Result.andThen,run_underlying hu,hfs,hps vs hv];rw [hplace,hfill];rfl
   ·exact h.elim
  ·rename_i z vs n s hz hv hoffs harr;split at h
   ·rename_i out hout;obtain⟨el,hu,hsz⟩:=(hC.ty t).arr _ _ harr;have hz':=gq ((hC.ty t).zero _ hz) w;have hfill:=iP hout;refine .inl ⟨_,_,?_,h⟩;simp only [Array.toArray_toList]at hfill;simp only [execOp,ho,Instr.build,hz',Result.andThen,run_underlying hu,co hsz,hps vs hv,Sem.run_bind];rw [show(fun i=>some (i*s,s))=kQ s from rfl,hfill];rfl
   ·exact h.elim
  ·exact h.elim
 case buildSlice t m ps=>
  have hps:∀vs,A0 e ps.toList=some vs→(ps.map fun(i,x)=>(i,a.eval x))=vs.toArray:=fun vs hv=>by
   apply Array.toList_inj.1;simp [←hS.evps hv]
  split at h
  ·exact h.elim
  ·rename_i u s hs;split at h
   ·rename_i z vs hz hv;split at h
    ·exact h.elim
    ·rename_i hb;simp only [Bool.and_eq_true]at hb;have hb1:m*s≤16777216:=Nat.le_of_ble_eq_true hb.1.1;have hb2:1≤s:=Nat.le_of_ble_eq_true hb.1.2;have hb3:z.cells.toList.length=s:=Nat.eq_of_beq_eq_true hb.2;split at h
     ·rename_i out hout;obtain⟨hu,hsz⟩:=(hC.ty t).slc _ _ hs;have hz':=gq ((hC.ty u).zero _ hz) w;have hfill:=iP hout;have hzs:z.cells.size=s:=by simpa using hb3
      have hr:=DS z.cells m (by omega);rw [hzs]at hr;refine .inl ⟨_,_,?_,h _ rfl⟩;have hnot:¬m*s>2^24:=by omega
      have hcells:((Array.range (m*s)).map (z.cells[·%z.cells.size]!))=(mq z.cells.toList m).toArray:=by rw [hzs];exact hr
      by_cases h0:m*s=0
      ·have hm0:m=0:=by rcases Nat.mul_eq_zero.1 h0 with h |h<;>omega
       subst hm0;simp only [mq]at hfill;have hnil:(Array.map (fun x=>(#[]:Array Value)[x%(#[]:Array Value).size]!) (Array.range (0*s)))=([]:List Value).toArray:=by simp
       simp only [execOp,ho,Instr.buildSlice,Sem.run_bind,run_underlying hu,Result.andThen,co hsz,if_neg hnot,Sem.run_pure,if_pos h0,hps vs hv];rw [show(fun i=>some (i*s,s))=kQ s from rfl,hnil,hfill];simp [tc,Result.andThen]
      ·simp only [execOp,ho,Instr.buildSlice,Sem.run_bind,run_underlying hu,Result.andThen,co hsz,if_neg hnot,Sem.run_pure,if_neg h0,hz',hps vs hv];rw [show(fun i=>some (i*s,s))=kQ s from rfl,hcells,hfill];simp [tc,Result.andThen]
     ·exact h.elim
   ·exact h.elim
 case load t x=>
  split at h
  ·rename_i p hx;obtain⟨ad,rfl,h⟩:=fZ h;split at h
   ·rename_i l _ hag _;obtain⟨v,hv,hk⟩:=mf h;exact .inl ⟨v,w,by simp [execOp,ho,hS.ev hx,Instr.loadAt,Instr.sureAddr,loadVar,fw ((hC.ty t).agg _ hag),hv,Result.andThen],hk⟩
   ·rename_i ls m hag _ hsz;split at h
    ·rename_i hb;have hb:m=ls.length:=Nat.eq_of_beq_eq_true hb;obtain⟨vs,hl,hc,hk⟩:=ld h;have hlc:=ee (P:=C.P) vs 0 #[] hc;rw [hl, ←hb]at hlc;refine .inl ⟨_,w,?_,hk⟩;simp [execOp,ho,hS.ev hx,Instr.loadAt,Instr.sureAddr,loadVar,fw ((hC.ty t).agg _ hag),co ((hC.ty t).size _ hsz),loadCells,hlc,Result.andThen]
    ·exact h.elim
   ·exact h.elim
  ·exact h.elim
 case store t x y=>
  split at h
  ·rename_i p v hx hy hag hsz;obtain⟨ad,rfl,h⟩:=fZ h;have h1:v.oneCell'=true:=h.1;obtain⟨w',hr,hk⟩:=gP (P:=C.P) [v] 0 w h;have hc:v.cells= #[v]:=by cases v<;>first |rfl |simp [Value.oneCell']at h1
   refine .inr ⟨by rw [ho];rfl,w',?_,hk⟩;simp [execOp,ho,hS.ev hx,hS.ev hy,Instr.storeAt,Instr.sureAddr,storeVar,co ((hC.ty t).size _ hsz),hc,hr,Result.andThen]
  ·rename_i p cs m hx hy hag hsz;split at h
   ·rename_i hb;have hb:cs.toList.length=m:=Nat.eq_of_beq_eq_true hb;obtain⟨ad,rfl,h⟩:=fZ h;obtain⟨w',hr,hk⟩:=gP (P:=C.P) cs.toList 0 w h;refine .inr ⟨by rw [ho];rfl,w',?_,hk⟩;have hb':cs.size=m:=by simpa using hb
    simp [execOp,ho,hS.ev hx,hS.ev hy,Instr.storeAt,Instr.sureAddr,storeVar,co ((hC.ty t).size _ hsz),Value.cells,hb',hr,Result.andThen]
   ·exact h.elim
  ·exact h.elim
 case nilCheck x=>
  split at h
  ·rename_i p hx;obtain⟨ad,rfl,h⟩:=fZ h;exact .inl ⟨_,w,by simp [execOp,ho,hS.ev hx],h⟩
  ·rename_i v _ hx;obtain⟨h1,h⟩:=h;refine .inl ⟨v,w,?_,h⟩;have hv:=hS.ev hx;cases v with
   |func fn f1 c1=>cases fn with
    |func g=>simp [execOp,ho,hv]
    |_=>exact absurd h1 (by simp [Mo])
   |iface t u=>simp [execOp,ho,hv]
   |_=>exact absurd h1 (by simp [Mo])
  ·exact h.elim
 case binOp op t x y yt=>
  split at h
  ·rename_i u v hx hy;obtain⟨r,w',hr,hk⟩:=Ds hC h;exact .inl ⟨r,w',by simp only [execOp,ho,hS.ev hx,hS.ev hy];rw [Sem.run_bind,hr];rfl,hk⟩
  ·exact h.elim
 case unOp op t x=>
  split at h
  ·rename_i b hx;exact .inl ⟨_,w,by simp [execOp,ho,hS.ev hx,Op.unary,Result.andThen],h⟩
  ·rename_i k m hx;exact .inl ⟨.int k (k.wrap (0-m)),w,by simp [execOp,ho,hS.ev hx,Op.unary,Op.intArith,Result.andThen],h⟩
  ·exact h.elim
 case convert s d x=>
  split at h
  ·rename_i k m k' ks hx hd hs;exact .inl ⟨_,w,by simp [execOp,ho,hS.ev hx,convert,run_underlying ((hC.ty d).intk _ hd),run_underlying ((hC.ty s).intk _ hs),Conv.intToInt,Result.andThen],h⟩
  ·rename_i v _ _ hx _;exact eJ h (by simp only [execOp,ho,hS.ev hx])
  ·exact h.elim
 case makeInterface t x=>
  split at h
  ·rename_i v hc hx;obtain⟨d,hu,hd⟩:=(hC.ty t).conc hc;refine .inl ⟨_,w,?_,h⟩;simp only [execOp,ho,hS.ev hx,Instr.makeInterface,Sem.run_bind,run_underlying hu,Result.andThen];cases d<;>first |rfl |exact absurd rfl (hd _)
  ·exact h.elim
 case makeFunc fn first cap=>
  split at h
  ·rename_i vs us hv hu;refine .inl ⟨_,w,?_,h⟩;have h1:first.map a.eval=vs.toArray:=by apply Array.toList_inj.1;simp [←hS.evs hv]
   have h2:cap.map a.eval=us.toArray:=by apply Array.toList_inj.1;simp [←hS.evs hu]
   simp [execOp,ho,Instr.makeFunc,h1,h2,Result.andThen]
  ·exact h.elim
 case makeMap t r=>
  split at h
  ·exact eJ h (by simp only [execOp,ho,Option.map_none])
  ·rename_i x;split at h
   ·rename_i v hx;exact eJ h (by simp only [execOp,ho,Option.map_some,hS.ev hx])
   ·exact h.elim
 case makeSlice t l c=>
  split at h
  ·rename_i u v hx hy;exact eJ h (by simp only [execOp,ho,hS.ev hx,hS.ev hy])
  ·exact h.elim
 case indexAddr t x i=>
  split at h
  ·rename_i p len cap k j hx hi;split at h
   ·rename_i et s hs;obtain⟨ad,rfl,h0,h1,hk⟩:=fZ h;obtain⟨hu,hsz⟩:=(hC.ty t).slc _ _ hs;exact .inl ⟨_,w,by simp [execOp,ho,hS.ev hx,hS.ev hi,Instr.indexAt,asIntOf,run_underlying hu,Result.andThen,h0,h1,co hsz],hk⟩
   ·exact h.elim
  ·rename_i p k j hx hi;split at h
   ·rename_i len s hs;obtain⟨ad,rfl,h0,h1,hk⟩:=fZ h;obtain⟨el,hu,hsz⟩:=(hC.ty t).arr _ _ hs;exact .inl ⟨_,w,by simp [execOp,ho,hS.ev hx,hS.ev hi,Instr.indexAt,Instr.sureAddr,asIntOf,run_underlying hu,Result.andThen,h0,h1,co hsz],hk⟩
   ·exact h.elim
  ·exact h.elim
 case index t x i=>
  split at h
  ·rename_i s k j hx hi;split at h
   ·rename_i hs;obtain⟨h0,h1,hk⟩:=h;refine .inl ⟨_,w,?_,hk⟩;have hlt:j.toNat<s.size:=by omega
    have hlt':j.toNat<s.data.size:=hlt;have hg:s[j.toNat]? =some (s[j.toNat]'hlt):=by simp [hlt]
    have hb:eu s j=((s[j.toNat]'hlt).toNat:Int):=by
     unfold eu;rw [Array.getElem?_eq_getElem hlt'];rfl
    simp [execOp,ho,hS.ev hx,hS.ev hi,Instr.index,asIntOf,run_underlying ((hC.ty t).isStr hs),Result.andThen,h0,hg,hb]
   ·exact h.elim
  ·rename_i u v _ hx hi;exact eJ h (by simp only [execOp,ho,hS.ev hx,hS.ev hi])
  ·exact h.elim
 case lookup t m k ok=>
  split at h
  ·rename_i u v hx hy;exact eJ h (by simp only [execOp,ho,hS.ev hx,hS.ev hy])
  ·exact h.elim
 case mapUpdate t m k x=>
  split at h
  ·rename_i u v z hx hy hz;exact tD h (by rw [ho];rfl) (by simp only [execOp,ho,hS.ev hx,hS.ev hy,hS.ev hz])
  ·exact h.elim
 case insert t m k x=>
  split at h
  ·rename_i u v z hx hy hz;exact tD h (by rw [ho];rfl) (by simp only [execOp,ho,hS.ev hx,hS.ev hy,hS.ev hz])
  ·exact h.elim
 case mapEntry t m k=>
  split at h
  ·rename_i u v hx hy;split at h
   ·exact eJ h (by simp only [execOp,ho,hS.ev hx,hS.ev hy])
   ·exact h.elim
  ·exact h.elim
 case entryStore t m k x=>
  split at h
  ·rename_i u v z hx hy hz;exact tD h (by rw [ho];rfl) (by simp only [execOp,ho,hS.ev hx,hS.ev hy,hS.ev hz])
  ·exact h.elim
 case range t x=>
  split at h
  ·rename_i u hx;exact eJ h (by simp only [execOp,ho,hS.ev hx])
  ·exact h.elim
 case next x s=>
  split at h
  ·rename_i u hx;cases s with
   |true=>exact eJ h (by simp only [execOp,ho,hS.ev hx])
   |false=>
    rcases h with h |h
    ·exact eJ h (by simp only [execOp,ho,hS.ev hx])
    ·exact eJ h (by simp only [execOp,ho,hS.ev hx])
  ·exact h.elim
 case entry x=>
  split at h
  ·rename_i u hx;exact eJ h (by simp only [execOp,ho,hS.ev hx])
  ·exact h.elim
 case typeAssert x xt at_ ok=>
  split at h
  ·rename_i u hx;exact eJ h (by simp only [execOp,ho,hS.ev hx])
  ·exact h.elim
 case extract x i=>
  split at h
  ·rename_i vs hx;rw [cL]at h;split at h
   ·rename_i v hv;have hv':vs[i]? =some v:=by simpa using hv
    have h:K v w:=by
     split at h
     ·exact h
     ·split at h
      ·obtain⟨u,rfl,h⟩:=mf h;exact h
      ·exact h
    exact .inl ⟨_,w,by simp [execOp,ho,hS.ev hx,Instr.extract,hv',Result.andThen],h⟩
   ·exact h.elim
  ·exact h.elim
 case call c=>
  split at h
  ·rename_i b hb;split at h
   ·rename_i vs hv;obtain⟨v,w',hr,hk⟩:=sY hC h;refine .inl ⟨v,w',?_,hk⟩;have hargs:c.args.map a.eval=vs.toArray:=by apply Array.toList_inj.1;simp [←hS.evs hv]
    have hat:c.argTypes=c.argTypes.toList.toArray:=by simp
    simp only [execOp,ho,resolve,hb,hargs,Sem.run_bind,Sem.run_pure,Result.andThen,invoke];rw [hat];exact hr
   ·exact h.elim
  ·exact h.elim
end
def LQ (C:gV) (g:FuncId) (args:Array Value) (rs:Rs) (w:World) (K:Value→World→Prop):Prop:=
 Calls C.P g args w fun e w'=>Qd rs fun v=>e= .returned v∧K v w'
def ED (g:FuncId) (args:Array Value):Sem Value:=do
 match←callFunc g args with
 | .value v=>pure v
 |_=>stuck ""
def bE (C:gV) (f:Value) (args:List Value) (w:World) (R:Ending→World→Prop):Prop:=
 match f with
 | .func (.func g) first cap=>match C.fns g with
  |true=>Calls C.P g (first.toList++(args++cap.toList)).toArray w R
  |false=>∃v w',(ED g (first.toList++(args++cap.toList)).toArray).run C.P w= .ok v w'∧R (.returned v) w'
 |_=>False
def E_ (C:gV) (f:Value) (args:List Value) (rs:Rs) (w:World) (K:Value→World→Prop):Prop:=
 bE C f args w fun e w'=>Qd rs fun v=>e= .returned v∧K v w'
def ET (C:gV) (o:Oper) (e:cW) (w:World) (K:Value→World→Prop):Prop:=
 match o.op with
 | .call c=>match c.callee with
  | .builtin _=>ff C o e w K
  | .value f=>match ev e f,Jd e c.args.toList,(C.ty o.type).rs with
   |some fv,some vs,some rs=>E_ C fv vs rs w K
   |_,_,_=>False
  | .invoke r name=>match ev e r,Jd e c.args.toList,(C.ty o.type).rs with
   |some rv,some vs,some rs=>∃g as,(callMethod rv name vs.toArray).run C.P w= .ok (.enter g as) w∧LQ C g as rs w K
   |_,_,_=>False
 |_=>ff C o e w K
section
variable {C:gV} {n:Nat} {a:Act} {e:cW} {w:World} {K:Value→World→Prop} {next:Act→World→Prop} {Q:Exit→Act→World→Prop}
theorem sq {P:Program} {f:FuncId} {fn:Func} {c:Code} (hf:P.funcs[f]? =some fn) (hname:(fn.name== "runtime.NumGoroutine")=false) (hb:fn.body=some c) (args:Array Value) (w:World):
  (callFunc f args).run P w= .ok (.enter f args) w:=by
 have h1:fn.name≠ "runtime.NumGoroutine" :=by simpa using hname
 simp [callFunc,hf,h1,hb,Result.andThen]
theorem mQ {o:Oper} (h:jO C.P o a w K) (hn:∀v w',K v w'→next (a.put o.dst v) w'):o.wp C.P a w next Q:=by
 rcases h with⟨v,w',hr,hk⟩ |⟨_,w',hr,hk⟩
 ·simp only [Oper.wp,hr,Oper.upon_value];exact hn _ _ hk
 ·simp only [Oper.wp,hr,Oper.upon_skip];exact hn _ _ hk
theorem pA {o:Oper} {g:FuncId} {as:Array Value} {rs:Rs} (hr:(execOp a.eval o).run C.P w= .ok (.enter g as) w) (h:LQ C g as rs w K)
  (hn:∀v w',K v w'→next (a.put o.dst v) w'):o.wp C.P a w next Q:=by
 simp only [Oper.wp,hr,Oper.upon_enter];refine Calls.mono h fun e' w' hx=>?_;obtain⟨v,rfl,hk⟩:=vV hx;exact hn _ _ hk
theorem yJ (hC:C.Ok) (hS:Sim n a e) (o:Oper) (h:ET C o e w K) (hn:∀v w',K v w'→next (a.put o.dst v) w'):o.wp C.P a w next Q:=by
 unfold ET at h;split at h
 ·rename_i c ho;split at h
  ·exact mQ (kP hC hS o h) hn
  ·rename_i f hf;split at h
   ·rename_i fv vs rs hfv hvs hrs;have hargs:c.args.map a.eval=vs.toArray:=by apply Array.toList_inj.1;simp [←hS.evs hvs]
    unfold E_ bE at h;split at h
    ·rename_i g first cap;have hfe:=hS.ev hfv;have harr:first++vs.toArray++cap=(first.toList++(vs++cap.toList)).toArray:=by
      apply Array.toList_inj.1;simp
     have hx:execOp a.eval o=callFunc g (first.toList++(vs++cap.toList)).toArray:=by
      rw [←harr];simp only [execOp,ho,resolve,hf,hargs,hfe,Deferred.ofValue,pure_bind,invoke]
     split at h
     ·rename_i hfn;obtain⟨fn,c',h1,h2,h3⟩:=hC.fns g hfn;exact pA (by rw [hx];exact sq h1 h2 h3 _ w) h hn
     ·obtain⟨v0,w',hr,hx'⟩:=h;obtain⟨v,he,hk⟩:=vV hx';cases he;refine mQ (.inl ⟨v0,w',?_,hk⟩) hn;rw [hx];unfold ED at hr;rw [Sem.run_bind]at hr;generalize hq:(callFunc g (first.toList++(vs++cap.toList)).toArray).run C.P w=q at hr⊢;cases q with
      |halt x y=>simp [Result.andThen]at hr
      |ok nx y=>
       cases nx<;>simp [Result.andThen]at hr
       obtain⟨rfl,rfl⟩:=hr;rfl
    ·exact h.elim
   ·exact h.elim
  ·rename_i r name hf;split at h
   ·rename_i rv vs rs hrv hvs hrs;have hargs:c.args.map a.eval=vs.toArray:=by apply Array.toList_inj.1;simp [←hS.evs hvs]
    obtain⟨g,as,hr,h⟩:=h;refine pA ?_ h hn;rw [←hr];have hx:execOp a.eval o=callMethod rv name vs.toArray:=by
     simp only [execOp,ho,resolve,hf,hargs,hS.ev hrv,pure_bind,invoke];simp
    rw [hx]
   ·exact h.elim
 ·exact mQ (kP hC hS o h) hn
end
def qT (all:List Oper) (g:Option (Nat×Bool)) (e:cW) (yes no:cW→Prop):Prop:=match g with
 |none=>yes e
 |some (j,want)=>match dD all j with
  |none=>False
  |some oj=>match oj.dst with
   |none=>False
   |some d=>match e.get d with
    |some (.bool b)=>match want with
     |true=>ac b (yes ((d,.bool true)::e)) (no ((d,.bool false)::e))
     |false=>ac b (no ((d,.bool true)::e)) (yes ((d,.bool false)::e))
    |some (.tuple _)=>no e
    |_=>False
theorem Sim.again {n:Nat} {a:Act} {e:cW} (h:Sim n a e) {d:Nat} {v:Value} (hd:e.get d=some v):Sim n a ((d,v)::e):=by
 refine⟨h.size,h.defers,fun t u hu=>?_⟩;simp only [cW.get]at hu;split at hu
 ·rename_i heq;have:d=t:=Nat.eq_of_beq_eq_true heq;subst this;cases hu;exact h.get _ _ hd
 ·exact h.get _ _ hu
structure jc (n:Nat) (ds:List Nat) (b:cW) (a:Act) (e:cW):Prop where
 sim:Sim n a e
 keep:∀t,t∉ds→e.get t=b.get t
theorem jc.again {n:Nat} {ds:List Nat} {b:cW} {a:Act} {e:cW} (h:jc n ds b a e) {d:Nat} {v:Value} (hd:e.get d=some v):jc n ds b a ((d,v)::e):=by
 refine⟨h.sim.again hd,fun t ht=>?_⟩;simp only [cW.get];split
 ·rename_i heq;have:d=t:=Nat.eq_of_beq_eq_true heq;subst this;rw [←h.keep d ht,hd]
 ·exact h.keep t ht
theorem jc.put {n:Nat} {ds:List Nat} {b:cW} {a:Act} {e:cW} (h:jc n ds b a e) (d:Option Nat) (v:Value) (hd:∀t,d=some t→t<n∧t∈ds):jc n ds b (a.put d v) (e.put d v):=by
 refine⟨h.sim.put d v fun t ht=>(hd t ht).1,fun t ht=>?_⟩;cases d with
 |none=>exact h.keep t ht
 |some d=>
  simp only [cW.put,cW.get];split
  ·rename_i heq;have:d=t:=Nat.eq_of_beq_eq_true heq;subst this;exact absurd (hd d rfl).2 ht
  ·exact h.keep t ht
theorem ph {n:Nat} {ds:List Nat} {b0:cW} {a:Act} {e:cW} (hS:jc n ds b0 a e) {ops:Array Oper} {o:Oper} {yes no:cW→Prop} (h:qT ops.toList o.guard e yes no):
  (Region.wanted o (yielded ops a.tmps)=true∧∃e',jc n ds b0 a e'∧yes e')∨(Region.wanted o (yielded ops a.tmps)=false∧∃e',jc n ds b0 a e'∧no e'):=by
 unfold qT at h;split at h
 ·rename_i hg;exact .inl ⟨by simp [Region.wanted,hg],e,hS,h⟩
 ·rename_i j want hg;rw [cL]at h;split at h
  ·exact h.elim
  ·rename_i oj hj;have hj':ops[j]? =some oj:=by simpa using hj
   split at h
   ·exact h.elim
   ·rename_i d hd;split at h
    ·rename_i b hb;have hy:yielded ops a.tmps j=some b:=by simp [yielded,hj',hd,hS.sim.get _ _ hb]
     have hw:Region.wanted o (yielded ops a.tmps)=(b==want):=by
      simp only [Region.wanted,hg,hy];cases b<;>cases want<;>rfl
     rw [hw];cases want<;>cases b<;>simp only [ac]at h
     ·exact .inl ⟨rfl,_,hS.again hb,h⟩
     ·exact .inr ⟨rfl,_,hS.again hb,h⟩
     ·exact .inr ⟨rfl,_,hS.again hb,h⟩
     ·exact .inl ⟨rfl,_,hS.again hb,h⟩
    ·rename_i vs hb;have hy:yielded ops a.tmps j=none:=by simp [yielded,hj',hd,hS.sim.get _ _ hb]
     exact .inr ⟨by simp [Region.wanted,hg,hy],e,hS,h⟩
    ·exact h.elim
def pf (C:gV) (all:List Oper):List Oper→cW→World→(cW→World→Prop)→Prop
 | [],e,w,K=>K e w
 |o::r,e,w,K=>qT all o.guard e (fun e'=>ET C o e' w fun v w'=>pf C all r (e'.put o.dst v) w' K) (fun e'=>pf C all r (e'.put o.dst undef) w K)
def pd (n:Nat) (ops:List Oper):Bool:=ops.all fun o=>match o.dst with
 |some d=>Nat.blt d n
 |none=>true
theorem CV {n:Nat} {ds:List Nat} {ops:List Oper} (h:pd n ops=true) (hds:∀o∈ops,∀d,o.dst=some d→d∈ds) {o:Oper} (ho:o∈ops):∀t,o.dst=some t→t<n∧t∈ds:=by
 intro t ht;have:=List.all_eq_true.1 h o ho;simp only [ht]at this;exact⟨Nat.lt_of_lt_of_le (Nat.lt_succ_self t) (Nat.le_of_ble_eq_true this),hds o ho t ht⟩
theorem pr {C:gV} (hC:C.Ok) {n:Nat} {ds:List Nat} {b:cW} {ops:Array Oper} (hd:pd n ops.toList=true) (hds:∀o∈ops.toList,∀d,o.dst=some d→d∈ds) {K:cW→World→Prop} {Q:Exit→Act→World→Prop}
  (hQ:∀a e w,jc n ds b a e→K e w→Q .normal a w):∀(l:List Oper) (k:Nat) (a:Act) (e:cW) (w:World),ops.toList.drop k=l→jc n ds b a e→pf C ops.toList l e w K→
  wpOps C.P ops Q (List.range' k l.length) a w
 | [],k,a,e,w,hl,hS,h=>hQ a e w hS h
 |o::r,k,a,e,w,hl,hS,h=>by
  have hk:ops[k]? =some o:=by
   have:=congrArg (·[0]?) hl;simpa using this
  have hr:ops.toList.drop (k+1)=r:=by
   rw [←List.drop_drop,hl];rfl
  have hmem:o∈ops.toList:=by
   have:ops.toList[k]? =some o:=by simpa using hk
   exact List.mem_of_getElem? this
  have hdo:=CV hd hds hmem;simp only [pf]at h;simp only [List.length_cons,List.range'_succ,wpOps,hk];rcases ph hS h with⟨hw,e',hS',h⟩ |⟨hw,e',hS',h⟩
  ·rw [if_pos hw];exact .inl (yJ hC hS'.sim o h fun v w' hk'=>pr hC hd hds hQ r (k+1) _ _ w' hr (hS'.put o.dst v hdo) hk')
  ·rw [if_neg (by simp [hw])];exact pr hC hd hds hQ r (k+1) _ _ w hr (hS'.put o.dst undef hdo) h
theorem vN {C:gV} (hC:C.Ok) {n:Nat} {ds:List Nat} {b:cW} {id:Nat} {ops:Array Oper} (hd:pd n ops.toList=true) (hds:∀o∈ops.toList,∀d,o.dst=some d→d∈ds) {K:cW→World→Prop} {Q:Exit→Act→World→Prop}
  (hQ:∀a e w,jc n ds b a e→K e w→Q .normal a w) {a:Act} {e:cW} {w:World} (hS:jc n ds b a e) (h:pf C ops.toList ops.toList e w K):(Code.region id ops false).wp C.P Q a w:=by
 refine wp_region ?_;have:=pr hC hd hds hQ ops.toList 0 a e w (by simp) hS h;rw [List.range_eq_range'];simpa using this
def ik (C:gV) (o:Oper):Bool:=match o.op with
 | .move _=>true
 | .assign _=>true
 | .pick .. =>true
 | .nilCheck _=>true
 | .fieldAddr .. =>true
 | .field .. =>true
 | .indexAddr .. =>true
 | .extract .. =>true
 | .slice .. =>true
 | .makeFunc .. =>true
 | .makeInterface .. =>true
 | .unOp .. =>true
 | .load .. =>true
 | .binOp .. =>true
 | .build .. =>true
 | .convert s d _=>match(C.ty d).intk,(C.ty s).intk with
  |some _,some _=>true
  |_,_=>false
 | .index t _ _=>(C.ty t).isStr
 | .call c=>match c.callee with
  | .builtin .len=>match c.argTypes.toList with
   | [u]=>(C.ty u).isStr||(C.ty u).isSlc
   |_=>false
  |_=>false
 |_=>false
def lJ (x y:Value):Bool:=match x,y with
 | .int ..,.int .. =>true
 | .string _,.string _=>true
 | .bool _,.bool _=>true
 | .pointer _,.pointer none=>true
 | .slice ..,.slice none _ _=>true
 | .map _,.map none=>true
 | .agg _,.agg _=>true
 |_,_=>false
def nY (o:Oper) (e:cW):Bool:=match o.op with
 | .load .. =>false
 | .binOp _ _ x y _=>match ev e x,ev e y with
  |some a,some b=>lJ a b
  |_,_=>false
 | .convert _ _ x=>match ev e x with
  |some (.int _ _)=>true
  |_=>false
 | .index _ x i=>match ev e x,ev e i with
  |some (.string _),some (.int _ _)=>true
  |_,_=>false
 | .call c=>match Jd e c.args.toList with
  |some [.string _]=>true
  |some [.slice ..]=>true
  |_=>false
 |_=>true
def wD (C:gV) (t:TypeId) (x:Operand) (e:cW) (w:World) (K:Addr→List Value→Value→Prop):Prop:=match ev e x with
 |some (.pointer p)=>af p fun ad=>match(C.ty t).agg,(C.ty t).rs,(C.ty t).size with
  |some false,some (.one (.leaf l)),_=>II l fun v=>w.cell? ad=some v∧K ad [v] v
  |some true,some (.one (.agg ls)),some n=>match Nat.beq n ls.length with
   |true=>C7 ls fun vs=>fT w ad vs 0∧K ad vs (.agg vs.toArray)
   |false=>False
  |_,_,_=>False
 |_=>False
section
variable {C:gV} {n:Nat} {a:Act} {e:cW} {w:World} {K:Value→World→Prop}
theorem tJ {op:BinOp} {t:TypeId} {cx cy:Operand} {x y:Value} {ot:TypeId} (hp:lJ x y=true) (h:eW C op t cx cy x y ot w K):
  ∃v,K v w∧∀w' (K':Value→World→Prop),K' v w'→eW C op t cx cy x y ot w' K':=by
 unfold lJ at hp;split at hp
 ·rename_i k a k' b;cases op<;>simp only [eW]at h⊢
  case shl=>exact⟨_,h.2,fun w' K' hk=>⟨h.1,hk⟩⟩
  case shr=>exact⟨_,h.2,fun w' K' hk=>⟨h.1,hk⟩⟩
  all_goals
   split at h
   ·first
     |exact⟨_,h.2,fun w' K' hk=>⟨h.1,hk⟩⟩
     |exact⟨_,h,fun w' K' hk=>hk⟩
   ·exact h.elim
 ·cases op<;>simp only [eW]at h⊢
  case add=>exact⟨_,h.2,fun w' K' hk=>⟨h.1,hk⟩⟩
  all_goals first |exact⟨_,h,fun w' K' hk=>hk⟩ |exact h.elim
 ·simp only [eW]at h⊢;split at h<;>first |exact⟨_,h,fun w' K' hk=>hk⟩ |exact h.elim
 ·simp only [eW,wU]at h⊢;split at h<;>first |exact⟨_,h,fun w' K' hk=>hk⟩ |exact h.elim
 ·simp only [eW]at h⊢;split at h<;>first |exact⟨_,h,fun w' K' hk=>hk⟩ |exact h.elim
 ·simp only [eW]at h⊢;split at h<;>first |exact⟨_,h,fun w' K' hk=>hk⟩ |exact h.elim
 ·simp only [eW]at h⊢;split at h
  ·exact h.elim
  ·rename_i l hl;split at h
   ·rename_i b hb;exact⟨_,h,fun w' K' hk=>hk⟩
   ·rename_i b hb;exact⟨_,h,fun w' K' hk=>hk⟩
   ·exact h.elim
 ·simp at hp
theorem wz {op:BinOp} {t:TypeId} {cx cy:Operand} {x y:Value} {ot:TypeId} (hp:lJ x y=true) (h:pg C op t cx cy x y ot w K):
  ∃v,K v w∧∀w' (K':Value→World→Prop),K' v w'→pg C op t cx cy x y ot w' K':=by
 have hn:Ho y=false:=by
  cases y<;>first |rfl |(exfalso;cases x<;>simp [lJ]at hp)
 simp only [pg,hn]at h⊢;exact tJ hp h
theorem Gl {o:Oper} (hq:ik C o=true) (hd:nY o e=true) (h:ff C o e w K):∃v,K v w∧∀w' (K':Value→World→Prop),K' v w'→ff C o e w' K':=by
 cases ho:o.op<;>simp only [ik,nY,ho,Bool.false_eq_true]at hq hd<;>simp only [ff,ho]at h⊢
 case move x=>split at h<;>first |exact h.elim |exact⟨_,h,fun w' K' hk=>hk⟩
 case assign x=>split at h<;>first |exact h.elim |exact⟨_,h,fun w' K' hk=>hk⟩
 case pick c x y=>
  split at h
  ·rename_i b u v _ _ _;cases b
   ·exact⟨_,h,fun w' K' hk=>hk⟩
   ·exact⟨_,h,fun w' K' hk=>hk⟩
  ·exact h.elim
 case nilCheck x=>
  split at h
  ·obtain⟨ad,rfl,h⟩:=fZ h;exact⟨_,h,fun w' K' hk=>hk⟩
  ·exact⟨_,h.2,fun w' K' hk=>⟨h.1,hk⟩⟩
  ·exact h.elim
 case fieldAddr t x f=>
  split at h
  ·obtain⟨ad,rfl,h⟩:=fZ h;split at h
   ·exact⟨_,h,fun w' K' hk=>by simp only [af, *]⟩
   ·exact h.elim
  ·exact h.elim
 case field t x f=>
  split at h
  ·split at h
   ·exact⟨_,h,fun w' K' hk=>hk⟩
   ·split at h
    ·exact⟨_,h,fun w' K' hk=>hk⟩
    ·exact h.elim
   ·exact h.elim
  ·exact h.elim
 case indexAddr t x i=>
  split at h
  ·split at h
   ·obtain⟨ad,rfl,h0,h1,h⟩:=fZ h;exact⟨_,h,fun w' K' hk=>⟨h0,h1,hk⟩⟩
   ·exact h.elim
  ·split at h
   ·obtain⟨ad,rfl,h0,h1,h⟩:=fZ h;exact⟨_,h,fun w' K' hk=>⟨h0,h1,hk⟩⟩
   ·exact h.elim
  ·exact h.elim
 case extract x i=>
  split at h
  ·split at h
   ·split at h
    ·exact⟨_,h,fun w' K' hk=>hk⟩
    ·split at h
     ·obtain⟨u,hu,rfl,h⟩:=MI h;exact⟨_,h,fun w' K' hk=>Mt hu ⟨rfl,hk⟩⟩
     ·rename_i hne;exact⟨_,h,fun w' K' hk=>hk⟩
   ·exact h.elim
  ·exact h.elim
 case slice t x lo hi mx=>
  split at h
  ·split at h
   ·obtain⟨h0,h1,h2,h⟩:=h;exact⟨_,h,fun w' K' hk=>⟨h0,h1,h2,hk⟩⟩
   ·exact h.elim
  ·split at h
   ·obtain⟨h0,h1,h2,h3,h4,h⟩:=h;exact⟨_,h,fun w' K' hk=>⟨h0,h1,h2,h3,h4,hk⟩⟩
   ·exact h.elim
  ·exact h.elim
 case build t ps=>
  split at h
  ·split at h<;>first |exact h.elim |exact⟨_,h,fun w' K' hk=>hk⟩
  ·split at h<;>first |exact h.elim |exact⟨_,h,fun w' K' hk=>hk⟩
  ·exact h.elim
 case makeFunc fn f c=>split at h<;>first |exact h.elim |exact⟨_,h,fun w' K' hk=>hk⟩
 case makeInterface t x=>split at h<;>first |exact h.elim |exact⟨_,h,fun w' K' hk=>hk⟩
 case unOp op t x=>split at h<;>first |exact h.elim |exact⟨_,h,fun w' K' hk=>hk⟩
 case binOp op t x y yt=>
  split at h
  ·rename_i u v hu hv;simp only [hu,hv]at hd;exact wz hd h
  ·exact h.elim
 case convert s d x=>
  split at hq
  ·rename_i k k' hk hk';split at hd
   ·rename_i kk m hm;simp only [hm,hk,hk']at h⊢;exact⟨_,h,fun w' K' hk=>hk⟩
   ·simp at hd
  ·simp at hq
 case index t x i=>
  split at hd
  ·rename_i s k j hs hj;simp only [hs,hj,hq]at h⊢;obtain⟨h0,h1,h⟩:=h;exact⟨_,h,fun w' K' hk=>⟨h0,h1,hk⟩⟩
  ·simp at hd
 case call c=>
  split at hq
  ·rename_i hb;split at hq
   ·rename_i u hu;simp only [hb]at h⊢;split at hd
    ·rename_i s hs;simp only [hs,iq,hu]at h⊢;split at h
     ·exact⟨_,h,fun w' K' hk=>hk⟩
     ·exact h.elim
    ·rename_i p m cc hs;simp only [hs,iq,hu]at h⊢;split at h
     ·exact⟨_,h,fun w' K' hk=>hk⟩
     ·exact h.elim
    ·simp at hd
   ·simp at hq
  ·simp at hq
theorem DK (hC:C.Ok) (hS:Sim n a e) {o:Oper} (hq:ik C o=true) (hd:nY o e=true) (h:ff C o e w K):
  ∃v,K v w∧∀w',(execOp a.eval o).run C.P w'= .ok (.value v) w':=by
 obtain⟨v,hk,hall⟩:=Gl hq hd h;refine⟨v,hk,fun w'=>?_⟩;rcases kP hC hS o (hall w' (fun v' w''=>v'=v∧w''=w') ⟨rfl,rfl⟩)with⟨v',w'',hr,rfl,rfl⟩ |⟨hu,_⟩
 ·exact hr
 ·exfalso;cases ho:o.op<;>simp [ik,rg,ho]at hq hu
end
def mo:List Nat→Nat→Bool
 | [],_=>false
 |x::r,k=>Nat.beq x k||mo r k
def EX (ops:List Oper) (L:List Nat) (i:Nat):Bool:= !mo L i&&match dD ops i with
 |some o=>o.after.toList.all fun e=> !Region.binds .any e||mo L e.on
 |none=>false
def J4:Nat→List Nat
 |0=>[]
 |n+1=>J4 n++ [n]
def rj (ops:List Oper) (L:List Nat):List Nat:=(J4 ops.length).filter (EX ops L)
def iJ (C:gV) (ops:List Oper) (i:Nat):Bool:=match dD ops i with
 |some o=>ik C o
 |none=>false
def wR (ops:List Oper):Nat→Nat→Nat→Bool
 |0,_,_=>false
 |f+1,i,j=>match dD ops j with
  |none=>false
  |some o=>o.after.toList.any fun e=>Region.binds .any e&&(Nat.beq e.on i||wR ops f i e.on)
def wO (C:gV) (ops:List Oper) (i:Nat) (L:List Nat):Bool:=L.any fun j=> !iJ C ops j&&wR ops ops.length i j
def jw (C:gV) (ops:List Oper) (L:List Nat) (w:World):List (Nat×Addr×List Value)→Prop→Prop
 | [],p=>p
 |(i,ad,cs)::r,p=>match wO C ops i L with
  |true=>jw C ops L w r p
  |false=>fT w ad cs 0∧jw C ops L w r p
theorem jM {C:gV} {ops:List Oper} {L:List Nat} {w:World} {p:Prop}:∀ {pend:List (Nat×Addr×List Value)},jw C ops L w pend p→p∧∀x∈pend,wO C ops x.1 L=false→fT w x.2.1 x.2.2 0
 | [],h=>⟨h,fun _ hx=>by cases hx⟩
 |(i,ad,cs)::r,h=>by
  simp only [jw]at h;split at h
  ·rename_i hb;obtain⟨h1,h2⟩:=jM h;refine⟨h1,fun x hx hxb=>?_⟩;rcases List.mem_cons.1 hx with rfl |hx
   ·simp [hb]at hxb
   ·exact h2 x hx hxb
  ·obtain⟨h0,h⟩:=h;obtain⟨h1,h2⟩:=jM h;refine⟨h1,fun x hx hxb=>?_⟩;rcases List.mem_cons.1 hx with rfl |hx
   ·exact h0
   ·exact h2 x hx hxb
def HU (p:Nat→Prop):Nat→List Nat→Prop
 |j,[]=>p j
 |j,k::r=>p j∧HU p k r
theorem uQ {p:Nat→Prop}:∀ {j:Nat} {js:List Nat},HU p j js→∀i∈j::js,p i
 |j,[],h,i,hi=>by simp at hi;subst hi;exact h
 |j,k::r,h,i,hi=>by
  rcases List.mem_cons.1 hi with rfl |hi
  ·exact h.1
  ·exact uQ h.2 i hi
def fH (C:gV) (ops:List Oper):Nat→List Nat→List (Nat×Addr×List Value)→cW→World→(cW→World→Prop)→Prop
 |0,L,_,e,w,K=>match rj ops L with
  | []=>K e w
  |_=>False
 |f+1,L,pend,e,w,K=>match(rj ops L).filter (iJ C ops)with
  |i::_=>match dD ops i with
   |none=>False
   |some o=>qT ops o.guard e
    (fun e'=>match o.op with
     | .load t x=>wD C t x e' w fun ad cs v=>fH C ops f (i::L) ((i,ad,cs)::pend) (e'.put o.dst v) w K
     |_=>match nY o e' with
      |true=>ff C o e' w fun v _=>fH C ops f (i::L) pend (e'.put o.dst v) w K
      |false=>False)
    (fun e'=>fH C ops f (i::L) pend (e'.put o.dst undef) w K)
  | []=>match rj ops L with
   | []=>K e w
   |j::js=>HU (fun j=>match dD ops j with
    |none=>False
    |some o=>qT ops o.guard e
     (fun e'=>ET C o e' w fun v w'=>jw C ops (j::L) w' pend (fH C ops f (j::L) pend (e'.put o.dst v) w' K))
     (fun e'=>fH C ops f (j::L) pend (e'.put o.dst undef) w K)) j js
def vO (C:gV) (ops:Array Oper):Bool:=(List.range ops.size).all fun i=> !iJ C ops.toList i||(List.range ops.size).all fun j=>Nat.beq i j||wR ops.toList ops.size i j||wR ops.toList ops.size j i||match ops[i]?,ops[j]? with
 |some x,some y=>x.apart ops y
 |_,_=>false
section
variable {P:Program} {ops:Array Oper} {Q:Exit→Act→World→Prop}
def kS (P:Program) (ops:Array Oper) (Q:Exit→Act→World→Prop) (S:Array Bool→World→Prop):Nat→Array Bool→Act→World→Prop
 |0,listed,a,w=>Region.ready .any ops listed= []∧Q .normal a w
 |fuel+1,listed,a,w=>
  (Region.ready .any ops listed= []→Q .normal a w)∧
  ∀i∈Region.ready .any ops listed,wpOp P ops Q i (fun a' w'=>S (listed.setIfInBounds i true) w'∧kS P ops Q S fuel (listed.setIfInBounds i true) a' w') a w
theorem rO {S:Array Bool→World→Prop}:∀(fuel:Nat) (listed:Array Bool) (a:Act) (w:World),kS P ops Q S fuel listed a w→wpAny P .any ops Q fuel listed a w
 |0,_,_,_,h=>h
 |fuel+1,_,_,_,h=>⟨h.1,fun i hi=>wpOp_mono (fun a' w' h'=>rO fuel _ a' w' h'.2) (h.2 i hi)⟩
theorem gK {S S':Array Bool→World→Prop} (hs:∀l w,S l w→S' l w):∀(fuel:Nat) (listed:Array Bool) (a:Act) (w:World),kS P ops Q S fuel listed a w→kS P ops Q S' fuel listed a w
 |0,_,_,_,h=>h
 |fuel+1,_,_,_,h=>⟨h.1,fun i hi=>wpOp_mono (fun a' w' h'=>⟨hs _ _ h'.1,gK hs fuel _ a' w' h'.2⟩) (h.2 i hi)⟩
def nf (ops:Array Oper) (listed:Array Bool):Prop:=∀j o,ops[j]? =some o→listed.getD j false=true→∀e∈o.after,Region.binds .any e=true→listed.getD e.on false=true
theorem mR {listed:Array Bool} (hc:nf ops listed) {i:Nat}:∀(f j:Nat),listed.getD j false=true→wR ops.toList f i j=true→listed.getD i false=true
 |0,_,_,h=>by simp [wR]at h
 |f+1,j,hj,h=>by
  simp only [wR,cL]at h;split at h
  ·simp at h
  ·rename_i o ho;have ho':ops[j]? =some o:=by simpa using ho
   obtain⟨e,he,hb⟩:=List.any_eq_true.1 h;rw [Bool.and_eq_true,Bool.or_eq_true]at hb;have h1:=hc j o ho' hj e (by simpa using he) hb.1;rcases hb.2 with h2 |h2
   ·have:=Nat.eq_of_beq_eq_true h2;exact this▸h1
   ·exact mR hc f e.on h1 h2
theorem kr {listed:Array Bool} (hc:nf ops listed) {i:Nat} (hi:i∈Region.ready .any ops listed):nf ops (listed.setIfInBounds i true):=by
 intro j o ho hj e he hb;by_cases hij:j=i
 ·subst hij;obtain⟨_,o',ho',hall⟩:=mem_ready.1 hi;rw [ho]at ho';cases ho';exact getD_set_true (hall e he hb)
 ·have hj':listed.getD j false=true:=by rw [←getD_set_ne false (Ne.symm hij)];exact hj
  exact getD_set_true (hc j o ho hj' e he hb)
theorem uE {listed:Array Bool} (hc:nf ops listed) {i j:Nat} (hj:j∈Region.ready .any ops listed) (hi:listed.getD i false=false) (f:Nat):wR ops.toList f i j=false:=by
 cases f with
 |zero=>rfl
 |succ f=>
  obtain⟨_,o,ho,hall⟩:=mem_ready.1 hj;have ho':ops.toList[j]? =some o:=by simpa using ho
  simp only [wR,cL,ho'];rw [List.any_eq_false];intro e he hb;rw [Bool.and_eq_true,Bool.or_eq_true]at hb;have h1:=hall e (by simpa using he) hb.1;rcases hb.2 with h2 |h2
  ·have:=Nat.eq_of_beq_eq_true h2;rw [this,hi]at h1;cases h1
  ·have:=mR hc f e.on h1 h2;rw [hi]at this;cases this
theorem rq {listed:Array Bool} {i:Nat} (h:listed.getD i true=false):listed.getD i false=false:=by
 rcases Nat.lt_or_ge i listed.size with h' |h'
 ·simp [h']at h⊢;exact h
 ·simp [Array.getElem?_eq_none h']at h
theorem vo (act:Nat→Bool) {i:Nat} {oi:Oper} {v:Value} {Si:World→Prop} {S:Array Bool→World→Prop} (hi:ops[i]? =some oi) (hsel:∀(j:Nat) (o:Oper) cs b,ops[j]? =some o→o.op≠ .select cs b)
  (hQ:∀c a w,Q (.panic c) (a.put oi.dst v) w→Q (.panic c) a w) (hact:act i=false) (hS:∀l w,S (l.setIfInBounds i true) w→S l w)
  (hfree:∀j oj,ops[j]? =some oj→j≠i→wR ops.toList ops.size i j=false→wR ops.toList ops.size j i=false→oi.apart ops oj=true):
  ∀(fuel:Nat) (listed:Array Bool) (a:Act) (w:World),nf ops listed→i∈Region.ready .any ops listed→YieldsIf P ops Si oi v a→Si w→S (listed.setIfInBounds i true) w→
   kS P ops Q (fun l w=>S l w∧((∀k,l.getD k false=true→act k=true→wR ops.toList ops.size i k=false)→Si w)) fuel (listed.setIfInBounds i true) (a.put oi.dst v) w→kS P ops Q S (fuel+1) listed a w:=by
 intro fuel;induction fuel with
 |zero=>
  intro listed a w hc hr hy hs hSi H;refine⟨fun h=>(by rw [h]at hr;cases hr),fun j hj=>?_⟩;by_cases hji:j=i
  ·subst hji;exact hy.wpOp hi hs ⟨hSi,H⟩
  ·have:=ready_mono hj hji;rw [H.1]at this;cases this
 |succ fuel ih=>
  intro listed a w hc hr hy hs hSi H;refine⟨fun h=>(by rw [h]at hr;cases hr),fun j hj=>?_⟩;by_cases hji:j=i
  ·subst hji;exact hy.wpOp hi hs ⟨hSi,gK (fun _ _ h=>h.1) _ _ _ _ H⟩
  ·have h1:=H.2 j (ready_mono hj hji);obtain⟨hjun,oj,hoj,hall⟩:=mem_ready.1 hj;have hiun:listed.getD i false=false:=rq (mem_ready.1 hr).1;have hjun':listed.getD j false=false:=rq hjun;have hanc:wR ops.toList ops.size i j=false:=uE hc hj hiun _;have hanc':wR ops.toList ops.size j i=false:=uE hc hr hjun' _;have h2:=wpOp_putIf hoj (hfree j oj hoj hji hanc hanc') (fun cs b=>hsel i oi cs b hi) (fun cs b=>hsel j oj cs b hoj) hQ hy h1;refine wpOp_mono (fun a' w' h3=>?_) h2;obtain⟨hy',⟨hS',hSi'⟩,hrest⟩:=h3;rw [Array.setIfInBounds_comm _ _ (Ne.symm hji)]at hS';have hcj:=kr hc hj;have hij:(listed.setIfInBounds j true).getD i false=false:=by rw [getD_set_ne false hji];exact hiun
   have hsi:Si w':=hSi' fun k hk hka=>by
    by_cases hki:k=i
    ·subst hki;rw [hact]at hka;cases hka
    ·have hk':(listed.setIfInBounds j true).getD k false=true:=by
      rw [Array.setIfInBounds_comm _ _ (Ne.symm hji),getD_set_ne false (Ne.symm hki)]at hk;exact hk
     cases hx:wR ops.toList ops.size i k with
     |false=>rfl
     |true=>
      have:=mR hcj ops.size k hk' hx;rw [hij]at this;cases this
   refine⟨hS _ _ hS',ih (listed.setIfInBounds j true) a' w' hcj (ready_mono hr (Ne.symm hji)) hy' hsi hS' ?_⟩;rw [Array.setIfInBounds_comm _ _ hji];exact hrest
end
theorem lu:∀(L:List Nat) (k:Nat),mo L k=true↔k∈L
 | [],k=>by simp [mo]
 |x::r,k=>by
  simp only [mo,Bool.or_eq_true,List.mem_cons,lu r k];constructor
  ·rintro(h |h)
   ·exact .inl (Nat.eq_of_beq_eq_true h).symm
   ·exact .inr h
  ·rintro(h |h)
   ·exact .inl (by subst h;exact Nat.beq_refl _)
   ·exact .inr h
theorem E0:∀n,J4 n=List.range n
 |0=>rfl
 |n+1=>by rw [J4,E0 n,List.range_succ]
def uJ (ops:Array Oper) (L:List Nat) (listed:Array Bool):Prop:=listed.size=ops.size∧∀k,listed.getD k false=mo L k
theorem nX {ops:Array Oper} {L:List Nat} {listed:Array Bool} (h:uJ ops L listed):Region.ready .any ops listed=rj ops.toList L:=by
 unfold Region.ready rj;rw [E0];simp only [Array.length_toList];refine List.filter_congr fun i hi=>?_;have hlt:i<ops.size:=List.mem_range.1 hi;have hl:listed.getD i true=mo L i:=by
  rw [←h.2 i];simp [h.1,hlt]
 simp only [EX,cL,hl];have ho:ops[i]? =some ops[i]:=by simp [hlt]
 have ho':ops.toList[i]? =some ops[i]:=by simp [hlt]
 rw [ho,ho'];simp only [Option.map_some,Option.getD_some];congr 1;rw [←Array.all_toList];congr 1;funext e;rw [h.2]
theorem lM {ops:Array Oper} {L:List Nat} {listed:Array Bool} (h:uJ ops L listed) {i:Nat} (hi:i<ops.size):uJ ops (i::L) (listed.setIfInBounds i true):=by
 refine⟨by simp [h.1],fun k=>?_⟩;by_cases hk:i=k
 ·subst hk;simp [mo,h.1,hi]
 ·rw [getD_set_ne false hk,h.2];have:Nat.beq i k=false:=by
   cases hb:Nat.beq i k with
   |false=>rfl
   |true=>exact absurd (Nat.eq_of_beq_eq_true hb) hk
  simp [mo,this]
def kO (C:gV) (ops:Array Oper) (pend:List (Nat×Addr×List Value)) (l:Array Bool) (w:World):Prop:=
 ∀x∈pend,(∀k,l.getD k false=true→(!iJ C ops.toList k)=true→wR ops.toList ops.size x.1 k=false)→fT w x.2.1 x.2.2 0
theorem oM {C:gV} {ops:Array Oper} {L:List Nat} {l:Array Bool} {w:World} {p:Prop} {pend:List (Nat×Addr×List Value)} (ht:uJ ops L l) (h:jw C ops.toList L w pend p):p∧kO C ops pend l w:=by
 obtain⟨h1,h2⟩:=jM h;refine⟨h1,fun x hx hk=>h2 x hx ?_⟩;unfold wO;rw [List.any_eq_false];intro k hkL hb;rw [Bool.and_eq_true]at hb;have hl:l.getD k false=true:=by rw [ht.2];exact(lu L k).2 hkL
 have:=hk k hl hb.1;rw [Array.length_toList,this]at hb;exact absurd hb.2 (by simp)
theorem FM {C:gV} {ops:Array Oper} {pend:List (Nat×Addr×List Value)} {i:Nat} (hq:iJ C ops.toList i=true) (l:Array Bool) (w:World) (h:kO C ops pend (l.setIfInBounds i true) w):kO C ops pend l w:=by
 intro x hx hk;refine h x hx fun k hl ha=>?_;by_cases hki:k=i
 ·subst hki;simp [hq]at ha
 ·rw [getD_set_ne false (Ne.symm hki)]at hl;exact hk k hl ha
theorem fj {C:gV} {ops:Array Oper} {pend:List (Nat×Addr×List Value)} {i:Nat} (l:Array Bool) (w:World) (h:kO C ops pend l w):kO C ops pend (l.setIfInBounds i true) w:=by
 intro x hx hk;exact h x hx fun k hl ha=>hk k (getD_set_true hl) ha
theorem nh {α:Type} {p:α→Bool} {l r:List α} {x:α} (h:l.filter p=x::r):x∈l∧p x=true:=by
 have:x∈l.filter p:=by rw [h];simp
 exact List.mem_filter.1 this
theorem rh {C:gV} (hC:C.Ok) {n:Nat} {a:Act} {e:cW} (hS:Sim n a e) {o:Oper} {t:TypeId} {x:Operand} (ho:o.op= .load t x) {w:World} {K:Addr→List Value→Value→Prop}
  (h:wD C t x e w K):∃ad cs v,K ad cs v∧fT w ad cs 0∧∀w',fT w' ad cs 0→(execOp a.eval o).run C.P w'= .ok (.value v) w':=by
 unfold wD at h;split at h
 ·rename_i p hx;obtain⟨ad,rfl,h⟩:=fZ h;split at h
  ·rename_i l _ hag _;obtain⟨v,hv,hk⟩:=mf h;refine⟨ad,[v],v,hk,⟨hv,trivial⟩,fun w' hw'=>?_⟩;have hv':w'.cell? ad=some v:=hw'.1;simp [execOp,ho,hS.ev hx,Instr.loadAt,Instr.sureAddr,loadVar,fw ((hC.ty t).agg _ hag),hv',Result.andThen]
  ·rename_i ls m hag _ hsz;split at h
   ·rename_i hb;have hb:m=ls.length:=Nat.eq_of_beq_eq_true hb;obtain⟨vs,hl,hc,hk⟩:=ld h;refine⟨ad,vs,_,hk,hc,fun w' hw'=>?_⟩;have hlc:=ee (P:=C.P) vs 0 #[] hw';rw [hl, ←hb]at hlc;simp [execOp,ho,hS.ev hx,Instr.loadAt,Instr.sureAddr,loadVar,fw ((hC.ty t).agg _ hag),co ((hC.ty t).size _ hsz),loadCells,hlc,Result.andThen]
   ·exact h.elim
  ·exact h.elim
 ·exact h.elim
section
variable {C:gV} {n:Nat} {ds:List Nat} {b:cW} {ops:Array Oper} {K:cW→World→Prop} {Q:Exit→Act→World→Prop}
theorem iW (hC:C.Ok) (hd:pd n ops.toList=true) (hds:∀o∈ops.toList,∀d,o.dst=some d→d∈ds) (hsel:Region.noSelect ops=true) (hap:vO C ops=true)
  (hQ:∀a e w,jc n ds b a e→K e w→Q .normal a w) (hQp:∀c (d:Option Nat) v a w,Q (.panic c) (a.put d v) w→Q (.panic c) a w):
  ∀(f:Nat) (L:List Nat) (pend:List (Nat×Addr×List Value)) (e:cW) (w:World) (listed:Array Bool) (a:Act),uJ ops L listed→nf ops listed→jc n ds b a e→kO C ops pend listed w→
   fH C ops.toList f L pend e w K→kS C.P ops Q (kO C ops pend) f listed a w
 |0,L,pend,e,w,listed,a,ht,hc,hS,hp,h=>by
  simp only [fH]at h;split at h
  ·rename_i hr;exact⟨by rw [nX ht,hr],hQ a e w hS h⟩
  ·exact h.elim
 |f+1,L,pend,e,w,listed,a,ht,hc,hS,hp,h=>by
  simp only [fH]at h;have hapart:∀i oi,ops[i]? =some oi→iJ C ops.toList i=true→∀j oj,ops[j]? =some oj→j≠i→wR ops.toList ops.size i j=false→wR ops.toList ops.size j i=false→oi.apart ops oj=true:=by
   intro i oi hi hq j oj hj hji h1 h2;have hil:i<ops.size:=by
    rcases Nat.lt_or_ge i ops.size with h |h
    ·exact h
    ·simp [Array.getElem?_eq_none h]at hi
   have hjl:j<ops.size:=by
    rcases Nat.lt_or_ge j ops.size with h |h
    ·exact h
    ·simp [Array.getElem?_eq_none h]at hj
   have h3:=List.all_eq_true.1 hap i (List.mem_range.2 hil);simp only [hq,Bool.not_true,Bool.false_or]at h3;have h4:=List.all_eq_true.1 h3 j (List.mem_range.2 hjl);have hb:Nat.beq i j=false:=by
    cases hb:Nat.beq i j with
    |false=>rfl
    |true=>exact absurd (Nat.eq_of_beq_eq_true hb).symm hji
   simpa only [hb,h1,h2,hi,hj,Bool.false_or]using h4
  split at h
  ·rename_i i rest hfil;obtain⟨hmem,hq⟩:=nh hfil;have hready:i∈Region.ready .any ops listed:=by rw [nX ht];exact hmem
   rw [cL]at h;split at h
   ·exact h.elim
   ·rename_i o ho;have ho':ops[i]? =some o:=by simpa using ho
    have hlt:i<ops.size:=by
     rcases Nat.lt_or_ge i ops.size with h |h
     ·exact h
     ·simp [Array.getElem?_eq_none h]at ho'
    have hqk:ik C o=true:=by
     unfold iJ at hq;rw [cL,ho]at hq;exact hq
    have hdo:=CV hd hds (List.mem_of_getElem? ho);have hfirst:=fun(v:Value) (Si:World→Prop)=>vo (P:=C.P) (Q:=Q) (fun k=> !iJ C ops.toList k) (v:=v) (Si:=Si) (S:=kO C ops pend) ho' (Region.noSelect_spec hsel) (fun c a w=>hQp c o.dst v a w) (by simp [hq]) (FM hq) (hapart i o ho' hq) f listed a w hc hready;have hrec:=fun(pend':List (Nat×Addr×List Value)) (e':cW) (v:Value) (hS':jc n ds b a e') hp' hd'=>iW hC hd hds hsel hap hQ hQp f (i::L) pend' (e'.put o.dst v) w (listed.setIfInBounds i true) (a.put o.dst v) (lM ht hlt) (kr hc hready) (hS'.put o.dst v hdo) hp' hd';rcases ph hS h with⟨hw,e',hS',h⟩ |⟨hw,e',hS',h⟩
    ·have plain:∀v,(∀w',(execOp a.eval o).run C.P w'= .ok (.value v) w')→fH C ops.toList f (i::L) pend (e'.put o.dst v) w K→kS C.P ops Q (kO C ops pend) (f+1) listed a w:=fun v hrun hk=>
      hfirst v (fun _=>True) (.inl ⟨hw,fun w' _=>hrun w'⟩) trivial (fj _ _ hp) (gK (fun _ _ h=>⟨h,fun _=>trivial⟩) _ _ _ _ (hrec pend e' v hS' (fj _ _ hp) hk))
     split at h
     ·rename_i t x hop;obtain⟨ad,cs,v,hk,hcell,hrun⟩:=rh hC hS'.sim hop h;refine hfirst v (fun w'=>fT w' ad cs 0) (.inl ⟨hw,hrun⟩) hcell (fj _ _ hp) ?_;have hp':kO C ops ((i,ad,cs)::pend) (listed.setIfInBounds i true) w:=by
       intro x hx hkk;rcases List.mem_cons.1 hx with rfl |hx
       ·exact hcell
       ·exact fj _ _ hp x hx hkk
      refine gK (fun l w' hl=>⟨fun x hx=>hl x (List.mem_cons_of_mem _ hx),fun hkk=>hl (i,ad,cs) (by simp) hkk⟩) _ _ _ _ (hrec ((i,ad,cs)::pend) e' v hS' hp' hk)
     ·split at h
      ·rename_i hdyn;obtain⟨v,hk,hrun⟩:=DK hC hS'.sim hqk hdyn h;exact plain v hrun hk
      ·exact h.elim
    ·exact hfirst undef (fun _=>True) (.inr ⟨hw,rfl⟩) trivial (fj _ _ hp) (gK (fun _ _ h=>⟨h,fun _=>trivial⟩) _ _ _ _ (hrec pend e' undef hS' (fj _ _ hp) h))
  ·split at h
   ·rename_i hr;have hre:Region.ready .any ops listed= []:=by rw [nX ht,hr]
    exact⟨fun _=>hQ a e w hS h,fun i hi=>by rw [hre]at hi;cases hi⟩
   ·rename_i j js hr;have hre:Region.ready .any ops listed=j::js:=by rw [nX ht,hr]
    refine⟨fun hnil=>(by rw [hre]at hnil;cases hnil),fun i hi=>?_⟩;have h:=uQ h i (by rw [←hre];exact hi);rw [cL]at h;split at h
    ·exact h.elim
    ·rename_i o ho;have ho':ops[i]? =some o:=by simpa using ho
     have hlt:i<ops.size:=by
      rcases Nat.lt_or_ge i ops.size with h |h
      ·exact h
      ·simp [Array.getElem?_eq_none h]at ho'
     have hdo:=CV hd hds (List.mem_of_getElem? ho);unfold wpOp;simp only [ho'];rcases ph hS h with⟨hw,e',hS',h⟩ |⟨hw,e',hS',h⟩
     ·rw [if_pos hw];refine .inl (yJ hC hS'.sim o h fun v w' hk=>?_);obtain⟨hk,hp'⟩:=oM (lM ht hlt) hk;exact⟨hp',iW hC hd hds hsel hap hQ hQp f (i::L) pend (e'.put o.dst v) w' (listed.setIfInBounds i true) (a.put o.dst v) (lM ht hlt) (kr hc hi) (hS'.put o.dst v hdo) hp' hk⟩
     ·rw [if_neg (by simp [hw])];exact⟨fj _ _ hp,iW hC hd hds hsel hap hQ hQp f (i::L) pend (e'.put o.dst undef) w (listed.setIfInBounds i true) (a.put o.dst undef) (lM ht hlt) (kr hc hi) (hS'.put o.dst undef hdo) (fj _ _ hp) h⟩
theorem Cf (hC:C.Ok) {id:Nat} (hd:pd n ops.toList=true) (hds:∀o∈ops.toList,∀d,o.dst=some d→d∈ds) (hsel:Region.noSelect ops=true) (hap:vO C ops=true)
  (hQ:∀a e w,jc n ds b a e→K e w→Q .normal a w) (hQp:∀c (d:Option Nat) v a w,Q (.panic c) (a.put d v) w→Q (.panic c) a w)
  {a:Act} {e:cW} {w:World} (hS:jc n ds b a e) (h:fH C ops.toList ops.toList.length [] [] e w.drew K):(Code.region id ops true).wp C.P Q a w:=by
 refine wp_region_any hC.mixed (rO (S:=kO C ops []) _ _ _ _ ?_);have ht:uJ ops [] (Array.replicate ops.size false):=by
  refine⟨by simp,fun k=>?_⟩;rcases Nat.lt_or_ge k ops.size with hk |hk
  ·simp [mo,hk]
  ·simp [mo,Array.getElem?_eq_none,hk]
 have hc:nf ops (Array.replicate ops.size false):=by
  intro j o ho hj;rw [ht.2]at hj;simp [mo]at hj
 have:=iW hC hd hds hsel hap hQ hQp ops.toList.length [] [] e w.drew (Array.replicate ops.size false) a ht hc hS (fun x hx=>by cases hx) h;simpa using this
end
inductive Ex where
 |normal |exit (id:Nat) |ret
def Ex.to:Ex→Exit
 | .normal=>.normal
 | .exit id=>.exit id
 | .ret=>.ret
def sg:List Oper→List Nat
 | []=>[]
 |o::r=>match o.dst with
  |some d=>d::sg r
  |none=>sg r
def dB:Code→List Nat
 | .region _ ops _=>sg ops.toList
 | .seq x y=>dB x++dB y
 | .cond _ x y=>dB x++dB y
 | .block _ x=>dB x
 | .loop x=>dB x
 | .scope x=>dB x
 |_=>[]
def oG:Code→Bool
 | .seq x y=>oG x&&oG y
 | .cond _ x y=>oG x||oG y
 | .block id x=>oG x||leavesTo id x
 | .loop _=>false
 | .scope x=>oG x
 | .exit _=>false
 | .ret=>false
 | .goto _=>false
 |_=>true
where leavesTo (id:Nat):Code→Bool
 | .seq x y=>leavesTo id x||leavesTo id y
 | .cond _ x y=>leavesTo id x||leavesTo id y
 | .block _ x=>leavesTo id x
 | .loop x=>leavesTo id x
 | .scope x=>leavesTo id x
 | .exit i=>Nat.beq i id
 |_=>false
def Ak (id:Nat):Code→Nat
 | .seq x y=>Ak id x+Ak id y
 | .cond _ x y=>Ak id x+Ak id y
 | .block _ x=>Ak id x
 | .loop x=>Ak id x
 | .scope x=>Ak id x
 | .exit i=>match Nat.beq i id with
  |true=>1
  |false=>0
 |_=>0
def qP:Code→Bool
 | .cond _ x y=>oG x&&oG y
 | .seq _ y=>qP y
 | .scope x=>qP x
 |_=>false
def HI (id:Nat) (x:Code):Bool:=Nat.ble 2 (Ak id x+match oG x with |true=>1 |false=>0)||qP x
def OE:Value→Bool
 | .tuple _=>true
 |_=>false
def cU (ds:List Nat):cW→List Nat→List (Nat×Value)
 | [],_=>[]
 |(t,v)::r,seen=>match mo seen t with
  |true=>cU ds r seen
  |false=>match mo ds t&& !OE v with
   |true=>(t,v)::cU ds r (t::seen)
   |false=>cU ds r (t::seen)
def dY (ds:List Nat):cW→cW
 | []=>[]
 |(t,v)::r=>match mo ds t with
  |true=>dY ds r
  |false=>(t,v)::dY ds r
def dL:List (Nat×Value)→List Nat
 | []=>[]
 |(t,_)::r=>t::dL r
def lv:List (Nat×Value)→List Sh
 | []=>[]
 |(_,v)::r=>QQ v::lv r
def qx:List Nat→List Value→cW→cW
 |t::r,v::vs,e=>(t,v)::qx r vs e
 |_,_,e=>e
def rx:List Nat→cW→Option (List Value)
 | [],_=>some []
 |t::r,e=>match e.get t with
  |none=>none
  |some v=>match rx r e with
   |none=>none
   |some vs=>some (v::vs)
def pj (slots:List Nat) (shs:List Sh) (J:List Value→World→Prop) (e:cW) (w:World):Prop:=match rx slots e with
 |some vs=>match oT shs vs with
  |true=>J vs w
  |false=>False
 |none=>False
def LU (vars:List (Nat×Value)) (e0:cW) (rest:cW→World→Prop) (use:(cW→World→Prop)→Prop):Prop:=
 ∀J:List Value→World→Prop,(vw (lv vars) fun vs=>∀w,rest (qx (dL vars) vs e0) w→J vs w)→use (pj (dL vars) (lv vars) J)
def NK (vars:List (Nat×Value)) (e0:cW) (e:cW) (w:World) (body:cW→World→(cW→World→Prop)→Prop):Prop:=
 ∀I:List Value→World→Prop,(vw (lv vars) fun vs=>∀w,body (qx (dL vars) vs e0) w (pj (dL vars) (lv vars) I)→I vs w)→pj (dL vars) (lv vars) I e w
def AB (k:cW→World→Prop) (K:Ex→cW→World→Prop):Ex→cW→World→Prop
 | .normal,e,w=>k e w
 | .exit id,e,w=>K (.exit id) e w
 | .ret,e,w=>K .ret e w
def wK (id:Nat) (k:cW→World→Prop) (K:Ex→cW→World→Prop):Ex→cW→World→Prop
 | .normal,e,w=>k e w
 | .exit i,e,w=>match Nat.beq i id with
  |true=>k e w
  |false=>K (.exit i) e w
 | .ret,e,w=>K .ret e w
def E5 (C:gV):Code→cW→World→(Ex→cW→World→Prop)→Prop
 | .skip=>fun e w K=>K .normal e w
 | .region _ ops draw=>fun e w K=>match draw with
  |false=>pf C ops.toList ops.toList e w (K .normal)
  |true=>∀w',w'=w.drew→fH C ops.toList ops.toList.length [] [] e w' (K .normal)
 | .seq x y=>fun e w K=>match qP x with
  |true=>LU (cU (dB x) e []) (dY (dB x) e) (fun e' w'=>E5 C y e' w' K) (fun k=>E5 C x e w (AB k K))
  |false=>E5 C x e w (AB (fun e' w'=>E5 C y e' w' K) K)
 | .cond c x y=>fun e w K=>match ev e c with
  |some (.bool b)=>ac b (E5 C x e w K) (E5 C y e w K)
  |_=>False
 | .block id x=>fun e w K=>match HI id x with
  |true=>LU (cU (dB x) e []) (dY (dB x) e) (K .normal) (fun k=>E5 C x e w (wK id k K))
  |false=>E5 C x e w (wK id (K .normal) K)
 | .loop x=>fun e w K=>NK (cU (dB x) e []) (dY (dB x) e) e w fun e' w' k=>E5 C x e' w' (AB k K)
 | .exit id=>fun e w K=>K (.exit id) e w
 | .ret=>fun e w K=>K .ret e w
 | .rangeFunc _ _ _ _=>fun _ _ _=>False
 | .scope _=>fun _ _ _=>False
 | .label _=>fun _ _ _=>False
 | .goto _=>fun _ _ _=>False
 | .refuse _=>fun _ _ _=>False
def wf (C:gV) (n:Nat):Code→Bool
 | .skip=>true
 | .region _ ops draw=>pd n ops.toList&&match draw with
  |false=>true
  |true=>Region.noSelect ops&&vO C ops
 | .seq x y=>wf C n x&&wf C n y
 | .cond _ x y=>wf C n x&&wf C n y
 | .block _ x=>wf C n x
 | .loop x=>wf C n x
 | .exit _=>true
 | .ret=>true
 | .rangeFunc _ _ _ _=>true
 | .scope _=>true
 | .label _=>true
 | .goto _=>true
 | .refuse _=>true
theorem nk:∀ {l:List Oper} {o:Oper},o∈l→∀d,o.dst=some d→d∈sg l
 | [],o,h,_,_=>by cases h
 |x::r,o,h,d,hd=>by
  simp only [sg];rcases List.mem_cons.1 h with rfl |h
  ·rw [hd];simp
  ·split
   ·exact List.mem_cons_of_mem _ (nk h d hd)
   ·exact nk h d hd
theorem iI {ds:List Nat}:∀(e:cW) (t:Nat),(dY ds e).get t=if t∈ds then none else e.get t
 | [],t=>by simp [dY,cW.get]
 |(u,v)::r,t=>by
  simp only [dY];split
  ·rename_i hu;rw [iI r t];simp only [cW.get];by_cases ht:t∈ds
   ·simp [ht]
   ·simp only [ht,if_false];have hne:u≠t:=fun h=>ht (h▸(lu ds u).1 hu);have:Nat.beq u t=false:=by
     cases hb:Nat.beq u t with
     |false=>rfl
     |true=>exact absurd (Nat.eq_of_beq_eq_true hb) hne
    rw [this]
  ·rename_i hu;simp only [cW.get,iI r t];split
   ·rename_i hb;have:u=t:=Nat.eq_of_beq_eq_true hb;subst this;have hn:u∉ds:=fun h=>by rw [(lu ds u).2 h]at hu;cases hu
    simp [hn]
   ·rfl
theorem nz {n:Nat} {a:Act} {e0:cW} (h0:Sim n a e0):∀ {slots:List Nat} {vs:List Value} {e:cW},Sim n a e→rx slots e=some vs→Sim n a (qx slots vs e0)
 | [],vs,e,h,hg=>by cases vs<;>exact h0
 |t::r,vs,e,h,hg=>by
  simp only [rx]at hg;split at hg
  ·cases hg
  ·rename_i v hv;split at hg
   ·cases hg
   ·rename_i us hus;cases hg;have ih:=nz h0 h hus;refine⟨h.size,h.defers,fun u x hx=>?_⟩;simp only [qx,cW.get]at hx;split at hx
    ·rename_i hb;have:t=u:=Nat.eq_of_beq_eq_true hb;subst this;cases hx;exact h.get _ _ hv
    ·exact ih.get _ _ hx
theorem nR {slots:List Nat} {shs:List Sh} {J:List Value→World→Prop} {e:cW} {w:World} (h:pj slots shs J e w):∃vs,rx slots e=some vs∧pF shs vs∧J vs w:=by
 unfold pj at h;split at h
 ·rename_i vs hv;split at h
  ·rename_i hs;exact⟨vs,hv,B4 hs,h⟩
  ·exact h.elim
 ·exact h.elim
theorem iX {n:Nat} {ds ds':List Nat} {b:cW} {a:Act} {e e':cW} (h:jc n ds e a e'):Sim n a (dY ds e):=by
 refine⟨h.sim.size,h.sim.defers,fun t v hv=>?_⟩;rw [iI]at hv;split at hv
 ·cases hv
 ·rename_i ht;rw [←h.keep t ht]at hv;exact h.sim.get t v hv
def rM (P:Program) (c:Code) (Q:Exit→Act→World→Prop) (a:Act) (w:World):Prop:=
 ∀(b:Frame) (k:List Item) (cs:List Frame),∃e a' w',Q e a' w'∧Arrives P (lone (b.at a (.inLoop c::k)) cs w) b k cs e a' w'
theorem mE {P:Program} {c:Code} {Q:Exit→Act→World→Prop} {a:Act} {w:World} (h:c.wp P (Exit.then (rM P c Q) Q) a w) (b:Frame) (k:List Item) (cs:List Frame):
  ∃e a' w',Q e a' w'∧Arrives P (lone (b.at a (.code c:: .inLoop c::k)) cs w) b k cs e a' w':=by
 obtain⟨e,a₁,w₁,hq,harr⟩:=h b (.inLoop c::k) cs;cases e with
 |normal=>
  obtain⟨e₂,a₂,w₂,hq₂,harr₂⟩:=hq b k cs;exact⟨e₂,a₂,w₂,hq₂,.of_steps harr harr₂⟩
 |exit id=>exact⟨_,a₁,w₁,hq,.pass (x:=.inLoop c) rfl (fun _ _=>.inl (by simp)) harr⟩
 |goto l=>exact⟨_,a₁,w₁,hq,.pass (x:=.inLoop c) rfl (fun _ _=>.inl (by simp)) harr⟩
 |ret=>exact⟨_,a₁,w₁,hq,.pass (x:=.inLoop c) rfl (fun _ _=>.inl (by simp)) harr⟩
 |panic ch=>exact⟨_,a₁,w₁,hq,.pass (x:=.inLoop c) rfl (fun _ _=>.inl (by simp)) harr⟩
 |outgrown=>exact⟨_,a₁,w₁,hq,.pass (x:=.inLoop c) rfl (fun _ _=>.inl (by simp)) harr⟩
theorem vL {P:Program} {c:Code} {Q:Exit→Act→World→Prop} {a:Act} {w:World} (h:c.wp P (Exit.then (rM P c Q) Q) a w):rM P c Q a w:=fun b k cs=>by
 obtain⟨e,a',w',q,r⟩:=mE h b k cs;exact⟨e,a',w',q,.of_steps (.one step_inLoop) r⟩
theorem tn {P:Program} {c:Code} {Q:Exit→Act→World→Prop} {a:Act} {w:World} (h:c.wp P (Exit.then (rM P c Q) Q) a w):(Code.loop c).wp P Q a w:=fun b k cs=>by
 obtain⟨e,a',w',q,r⟩:=mE h b k cs;exact⟨e,a',w',q,.of_steps (.one step_loop) r⟩
theorem iH {ds:List Nat}:∀(e:cW) (seen:List Nat) (t:Nat),t∈dL (cU ds e seen)→t∈ds
 | [],_,t,h=>by simp [cU,dL]at h
 |(u,v)::r,seen,t,h=>by
  simp only [cU]at h;split at h
  ·exact iH r _ t h
  ·split at h
   ·rename_i hb;rw [Bool.and_eq_true]at hb;simp only [dL,List.mem_cons]at h;rcases h with rfl |h
    ·exact(lu ds t).1 hb.1
    ·exact iH r _ t h
   ·exact iH r _ t h
theorem EN {e0:cW} {t:Nat}:∀ {slots:List Nat} {vs:List Value},t∉slots→(qx slots vs e0).get t=e0.get t
 | [],vs,_=>by cases vs<;>rfl
 |u::r,[],_=>rfl
 |u::r,v::vs,h=>by
  simp only [qx,cW.get];have hne:u≠t:=fun he=>h (by simp [he]);have:Nat.beq u t=false:=by
   cases hb:Nat.beq u t with
   |false=>rfl
   |true=>exact absurd (Nat.eq_of_beq_eq_true hb) hne
  rw [this];exact EN (fun hm=>h (by simp [hm]))
theorem pu {ds:List Nat} {e:cW} {vs:List Value} {t:Nat} (ht:t∉ds):(qx (dL (cU ds e [])) vs (dY ds e)).get t=e.get t:=by
 rw [EN (fun h=>ht (iH e [] t h)),iI,if_neg ht]
def xS (C:gV) (n:Nat) (c:Code):Prop:=∀ {a:Act} {e:cW} {w:World} {K:Ex→cW→World→Prop} {Q:Exit→Act→World→Prop},Sim n a e→E5 C c e w K→
  (∀ex a' e' w',jc n (dB c) e a' e'→K ex e' w'→Q ex.to a' w')→(∀c (d:Option Nat) v a w,Q (.panic c) (a.put d v) w→Q (.panic c) a w)→c.wp C.P Q a w
theorem IR {C:gV} {n:Nat} {x y:Code} (ihx:xS C n x) (ihy:xS C n y):xS C n (.seq x y):=by
 intro a e w K Q hS h hQ hQp;simp only [E5]at h;refine wp_seq ?_;split at h
 ·have hJ:=h (fun vs w'=>pF (lv (cU (dB x) e [])) vs→∀a',Sim n a' (qx (dL (cU (dB x) e [])) vs (dY (dB x) e))→y.wp C.P Q a' w') (by
   refine lR fun vs hsh w' hrest _ a' hS'=>?_;refine ihy hS' hrest (fun ex a2 e2 w2 hS2 hk2=>hQ ex a2 e2 w2 ⟨hS2.sim,fun t ht=>?_⟩ hk2) hQp;rw [hS2.keep t (fun h=>ht (by simp [dB,h])),pu (fun h=>ht (by simp [dB,h]))])
  refine ihx hS hJ (fun ex a' e' w' hS' hk=>?_) (fun c d v a w hp=>hQp c d v a w hp);cases ex with
  |normal=>
   simp only [AB]at hk;obtain⟨vs,hg,hsh,hj⟩:=nR hk;exact hj hsh a' (nz (iX (ds':=[]) (b:=[]) hS') hS'.sim hg)
  |exit id=>exact hQ (.exit id) a' e' w' ⟨hS'.sim,fun t ht=>hS'.keep t (fun h=>ht (by simp [dB,h]))⟩ hk
  |ret=>exact hQ .ret a' e' w' ⟨hS'.sim,fun t ht=>hS'.keep t (fun h=>ht (by simp [dB,h]))⟩ hk
 ·refine ihx hS h (fun ex a' e' w' hS' hk=>?_) (fun c d v a w hp=>hQp c d v a w hp);cases ex with
  |normal=>
   refine ihy hS'.sim hk (fun ex a2 e2 w2 hS2 hk2=>hQ ex a2 e2 w2 ⟨hS2.sim,fun t ht=>?_⟩ hk2) hQp;rw [hS2.keep t (fun h=>ht (by simp [dB,h])),hS'.keep t (fun h=>ht (by simp [dB,h]))]
  |exit id=>exact hQ (.exit id) a' e' w' ⟨hS'.sim,fun t ht=>hS'.keep t (fun h=>ht (by simp [dB,h]))⟩ hk
  |ret=>exact hQ .ret a' e' w' ⟨hS'.sim,fun t ht=>hS'.keep t (fun h=>ht (by simp [dB,h]))⟩ hk
theorem CJ {C:gV} {n id:Nat} {x:Code} (ihx:xS C n x):xS C n (.block id x):=by
 intro a e w K Q hS h hQ hQp;simp only [E5]at h;refine wp_block ?_;split at h
 ·have hJ:=h (fun vs w'=>pF (lv (cU (dB x) e [])) vs→∀a',Sim n a' (qx (dL (cU (dB x) e [])) vs (dY (dB x) e))→Q .normal a' w') (by
   refine lR fun vs hsh w' hrest _ a' hS'=>?_;exact hQ .normal a' _ w' ⟨hS',fun t ht=>pu ht⟩ hrest)
  refine ihx hS hJ (fun ex a' e' w' hS' hk=>?_) (fun c d v a w hp=>hQp c d v a w hp);have key:pj (dL (cU (dB x) e [])) (lv (cU (dB x) e [])) (fun vs w'=>pF (lv (cU (dB x) e [])) vs→∀a',Sim n a' (qx (dL (cU (dB x) e [])) vs (dY (dB x) e))→Q .normal a' w') e' w'→Q .normal a' w':=fun hk=>by
   obtain⟨vs,hg,hsh,hj⟩:=nR hk;exact hj hsh a' (nz (iX (ds':=[]) (b:=[]) hS') hS'.sim hg)
  cases ex with
  |normal=>exact key hk
  |exit i=>
   simp only [wK]at hk;split at hk
   ·rename_i hb;have:i=id:=Nat.eq_of_beq_eq_true hb;simp only [Ex.to,Exit.inBlock,this,if_true];exact key hk
   ·rename_i hb;have:i≠id:=Nat.ne_of_beq_eq_false hb;simp only [Ex.to,Exit.inBlock,this,if_false];exact hQ (.exit i) a' e' w' hS' hk
  |ret=>exact hQ .ret a' e' w' hS' hk
 ·refine ihx hS h (fun ex a' e' w' hS' hk=>?_) (fun c d v a w hp=>hQp c d v a w hp);cases ex with
  |normal=>exact hQ .normal a' e' w' hS' hk
  |exit i=>
   simp only [wK]at hk;split at hk
   ·rename_i hb;have:i=id:=Nat.eq_of_beq_eq_true hb;simp only [Ex.to,Exit.inBlock,this,if_true];exact hQ .normal a' e' w' hS' hk
   ·rename_i hb;have:i≠id:=Nat.ne_of_beq_eq_false hb;simp only [Ex.to,Exit.inBlock,this,if_false];exact hQ (.exit i) a' e' w' hS' hk
  |ret=>exact hQ .ret a' e' w' hS' hk
theorem F0 {C:gV} {n:Nat} {x:Code} (ihx:xS C n x):xS C n (.loop x):=by
 intro a e w K Q hS h hQ hQp;have hI:=h (fun vs w'=>pF (lv (cU (dB x) e [])) vs→∀a',Sim n a' (qx (dL (cU (dB x) e [])) vs (dY (dB x) e))→x.wp C.P (Exit.then (rM C.P x Q) Q) a' w') (by
  refine lR fun vs hsh w' hbody _ a' hS'=>?_;refine ihx hS' hbody (fun ex a2 e2 w2 hS2 hk2=>?_) (fun c d v a w hp=>hQp c d v a w hp);have hkeep:∀t,t∉dB x→e2.get t=e.get t:=fun t ht=>by rw [hS2.keep t ht,pu ht]
  cases ex with
  |normal=>
   simp only [AB]at hk2;obtain⟨us,hg,hsh',hj⟩:=nR hk2;exact vL (hj hsh' a2 (nz (iX (ds':=[]) (b:=[]) ⟨hS2.sim,hkeep⟩) hS2.sim hg))
  |exit i=>exact hQ (.exit i) a2 e2 w2 ⟨hS2.sim,hkeep⟩ hk2
  |ret=>exact hQ .ret a2 e2 w2 ⟨hS2.sim,hkeep⟩ hk2)
 obtain⟨vs,hg,hsh,hj⟩:=nR hI;exact tn (hj hsh a (nz (iX (ds:=dB x) (ds':=[]) (b:=[]) ⟨hS,fun _ _=>rfl⟩) hS hg))
theorem C6 {C:gV} (hC:C.Ok) {n:Nat}:∀(c:Code),wf C n c=true→xS C n c:=by
 intro c;induction c with
 |skip=>intro _ a e w K Q hS h hQ _;exact wp_skip (hQ .normal a e w ⟨hS,fun _ _=>rfl⟩ h)
 |region id ops draw=>
  intro hw a e w K Q hS h hQ hQp;simp only [wf,Bool.and_eq_true]at hw;have hds:∀o∈ops.toList,∀d,o.dst=some d→d∈dB (.region id ops draw):=fun o ho d hd=>nk ho d hd;cases draw with
  |false=>exact vN hC hw.1 hds (fun a' e' w' hS' hk=>hQ .normal a' e' w' hS' hk) ⟨hS,fun _ _=>rfl⟩ h
  |true=>
   have hw2:=hw.2;simp only [Bool.and_eq_true]at hw2;exact Cf hC hw.1 hds hw2.1 hw2.2 (fun a' e' w' hS' hk=>hQ .normal a' e' w' hS' hk) hQp ⟨hS,fun _ _=>rfl⟩ (h _ rfl)
 |seq x y ihx ihy=>intro hw;simp only [wf,Bool.and_eq_true]at hw;exact IR (ihx hw.1) (ihy hw.2)
 |cond c x y ihx ihy=>
  intro hw a e w K Q hS h hQ hQp;simp only [wf,Bool.and_eq_true]at hw;simp only [E5]at h;split at h
  ·rename_i b hb;have hbe:=hS.ev hb;cases b
   ·exact wp_cond_false hbe (ihy hw.2 hS h (fun ex a' e' w' hS' hk=>hQ ex a' e' w' ⟨hS'.sim,fun t ht=>hS'.keep t (fun h=>ht (by simp [dB,h]))⟩ hk) hQp)
   ·exact wp_cond_true hbe (ihx hw.1 hS h (fun ex a' e' w' hS' hk=>hQ ex a' e' w' ⟨hS'.sim,fun t ht=>hS'.keep t (fun h=>ht (by simp [dB,h]))⟩ hk) hQp)
  ·exact h.elim
 |block id x ih=>intro hw;exact CJ (ih hw)
 |loop x ih=>intro hw;exact F0 (ih hw)
 |exit id=>intro _ a e w K Q hS h hQ _;exact wp_exit (hQ (.exit id) a e w ⟨hS,fun _ _=>rfl⟩ h)
 |ret=>intro _ a e w K Q hS h hQ _;exact wp_ret (hQ .ret a e w ⟨hS,fun _ _=>rfl⟩ h)
 |_=>intro _ a e w K Q hS h hQ _;exact False.elim h
def mX:Nat→List Value→cW
 |_,[]=>[]
 |i,v::r=>(i,v)::mX (i+1) r
def jQ (C:gV) (e:cW) (w:World):List ResultVar→(List Value→Prop)→Prop
 | [],F=>F []
 | .tmp t::r,F=>match e.get t with
  |some v=>jQ C e w r fun vs=>F (v::vs)
  |none=>False
 | .cell t ty::r,F=>match e.get t with
  |some (.pointer p)=>af p fun ad=>match(C.ty ty).agg,(C.ty ty).rs,(C.ty ty).size with
   |some false,some (.one (.leaf l)),_=>II l fun v=>w.cell? ad=some v∧jQ C e w r fun vs=>F (v::vs)
   |some true,some (.one (.agg ls)),some n=>match Nat.beq n ls.length with
    |true=>C7 ls fun us=>fT w ad us 0∧jQ C e w r fun vs=>F (.agg us.toArray::vs)
    |false=>False
   |_,_,_=>False
  |_=>False
def mW:List Value→Value
 | [v]=>v
 |vs=>.tuple vs.toArray
def GV (C:gV) (body:Code) (res:List ResultVar) (args:List Value) (w:World) (R:Value→World→Prop):Prop:=
 E5 C body (mX 0 args) w fun ex e' w'=>match ex with
  | .normal=>jQ C e' w' res fun vs=>R (mW vs) w'
  | .ret=>jQ C e' w' res fun vs=>R (mW vs) w'
  | .exit _=>False
theorem qU:∀(vs:List Value) (i t:Nat) (v:Value),(mX i vs).get t=some v→i≤t∧vs[t-i]? =some v
 | [],_,_,_,h=>by simp [mX,cW.get]at h
 |u::r,i,t,v,h=>by
  simp only [mX,cW.get]at h;split at h
  ·rename_i hb;have:i=t:=Nat.eq_of_beq_eq_true hb;subst this;cases h;simp
  ·obtain⟨h1,h2⟩:=qU r (i+1) t v h;refine⟨by omega,?_⟩;rw [show t-i=(t- (i+1))+1 from by omega];simpa using h2
def yx (tmps:Array Value):ResultVar→Sem Value
 | .tmp t=>pure (tmps.getD t undef)
 | .cell c t=>do loadVar t (←asAddr (tmps.getD c undef))
theorem je {α β:Type} {P:Program} {f:α→Sem β} {x:α} {r:List α} {w:World} {v:β} {vs:List β} (h1:(f x).run P w= .ok v w) (h2:(r.mapM f).run P w= .ok vs w):((x::r).mapM f).run P w= .ok (v::vs) w:=by
 rw [List.mapM_cons,Sem.run_bind,h1];simp only [Result.andThen,Sem.run_bind];rw [h2];rfl
theorem jY {C:gV} (hC:C.Ok) {n:Nat} {a:Act} {e:cW} (hS:Sim n a e) {w:World}:∀ {res:List ResultVar} {F:List Value→Prop},jQ C e w res F→
  ∃vs,F vs∧(res.mapM (yx a.tmps)).run C.P w= .ok vs w
 | [],F,h=>⟨[],h,by simp⟩
 | .tmp t::r,F,h=>by
  simp only [jQ]at h;split at h
  ·rename_i v hv;obtain⟨vs,hF,hr⟩:=jY hC hS h;have hg:a.tmps.getD t undef=v:=by simp [Array.getD_eq_getD_getElem?,hS.get _ _ hv]
   exact⟨v::vs,hF,je (by simp [yx,hg]) hr⟩
  ·exact h.elim
 | .cell t ty::r,F,h=>by
  simp only [jQ]at h;split at h
  ·rename_i p hp;obtain⟨ad,rfl,h⟩:=fZ h;have hg:a.tmps.getD t undef= .pointer (some ad):=by simp [Array.getD_eq_getD_getElem?,hS.get _ _ hp]
   split at h
   ·rename_i l _ hag _;obtain⟨v,hv,hk⟩:=mf h;obtain⟨vs,hF,hr⟩:=jY hC hS hk;refine⟨v::vs,hF,je ?_ hr⟩;simp [yx,hg,asAddr,loadVar,fw ((hC.ty ty).agg _ hag),hv,Result.andThen]
   ·rename_i ls m hag _ hsz;split at h
    ·rename_i hb;have hb:m=ls.length:=Nat.eq_of_beq_eq_true hb;obtain⟨us,hl,hc,hk⟩:=ld h;obtain⟨vs,hF,hr⟩:=jY hC hS hk;have hlc:=ee (P:=C.P) us 0 #[] hc;rw [hl, ←hb]at hlc;refine⟨_,hF,je ?_ hr⟩;simp [yx,hg,asAddr,loadVar,fw ((hC.ty ty).agg _ hag),co ((hC.ty ty).size _ hsz),loadCells,hlc,Result.andThen]
    ·exact h.elim
   ·exact h.elim
  ·exact h.elim
def GY (P:Program) (f:FuncId):Bool:=match P.funcs[f]? with
 |some fn=>match fn.name== "runtime.NumGoroutine" with
  |true=>false
  |false=>match fn.body with
   |some _=>true
   |none=>false
 |none=>false
theorem Ih {P:Program} (f:FuncId) (h:GY P f=true):∃fn c,P.funcs[f]? =some fn∧(fn.name== "runtime.NumGoroutine")=false∧fn.body=some c:=by
 unfold GY at h;split at h
 ·rename_i fn hf;split at h
  ·cases h
  ·rename_i hn;split at h
   ·rename_i c hc;exact⟨fn,c,hf,hn,hc⟩
   ·cases h
 ·cases h
def Hb (P:Program) (tab:List (Nat×TI)):gV:={P:=P,tab:=tab,fns:=GY P}
theorem Ja (P:Program) (tab:List (Nat×TI)) (h:∀p∈tab,aL P p.1 p.2) (hm:P.follows .mixedOrders=true):(Hb P tab).Ok:=
 I_ (C:=Hb P tab) h (fun f h=>Ih f h) hm
def Dl (f:Func):Code:=match f.body with
 |some c=>c
 |none=>.skip
def aG:Option TypeDesc→TypeDesc
 |some d=>d
 |none=>.tuple #[]
def bg:Option TypeDesc→Array Field
 |some (.struct fs)=>fs
 |_=>#[]
def Kj:TypeDesc→Bool
 | .interface _=>true
 |_=>false
theorem ar {d:TypeDesc} (h:Kj d=false):∀ms,d≠ .interface ms:=by
 intro ms he;subst he;cases h
theorem Ef (fn:Func) (tmps:Array Value):results fn tmps=(do let vs←fn.results.mapM (yx tmps);pure (if h:vs.size=1 then vs[0]else .tuple vs)):=by
 unfold results;congr 1
theorem ww {C:gV} (hC:C.Ok) {f:FuncId} {fn:Func} {body:Code} {args:List Value} {w:World} {R:Value→World→Prop} (hf:C.P.funcs[f]? =some fn) (hb:fn.body=some body)
  (hn:Nat.ble args.length fn.ntmps=true) (hw:wf C fn.ntmps body=true) (h:GV C body fn.results.toList args w R):
  Calls C.P f args.toArray w fun e w'=>∃v,e= .returned v∧R v w':=by
 refine calls_of_wp hf hb ?_;have hle:args.length≤fn.ntmps:=Nat.le_of_ble_eq_true hn;have hS:Sim fn.ntmps {tmps:=args.toArray++Array.replicate (fn.ntmps-args.toArray.size) undef,defers:=[]} (mX 0 args):=by
  refine⟨by simp;omega,rfl,fun t v hv=>?_⟩;obtain⟨_,h2⟩:=qU args 0 t v hv;rw [Nat.sub_zero]at h2;have hlt:t<args.length:=by
   rcases Nat.lt_or_ge t args.length with h |h
   ·exact h
   ·simp [List.getElem?_eq_none h]at h2
  simp only [];rw [Array.getElem?_append_left (by simpa using hlt)];simpa using h2
 have hres:∀(ex:Ex) (a':Act) (e':cW) (w':World),jc fn.ntmps (dB body) (mX 0 args) a' e'→jQ C e' w' fn.results.toList (fun vs=>R (mW vs) w')→
   a'.defers= []∧∃v,(results fn a'.tmps).run C.P w'= .ok v w'∧∃u,Ending.returned v= .returned u∧R u w':=by
  intro ex a' e' w' hS' hk;obtain⟨vs,hF,hr⟩:=jY hC hS'.sim hk;refine⟨hS'.sim.defers,mW vs,?_,_,rfl,hF⟩;rw [Ef,Sem.run_bind,Array.mapM_eq_mapM_toList];simp only [Sem.run_map];rw [hr];simp only [Result.andThen,Sem.run_pure];congr 1
  match vs with
  | []=>simp [mW]
  | [v]=>simp [mW]
  |u::v::r=>simp [mW]
 refine C6 hC body hw hS h (fun ex a' e' w' hS' hk=>?_) (fun c d v a w hp=>⟨?_,hp.2⟩)
 ·cases ex with
  |normal=>exact hres .normal a' e' w' hS' hk
  |ret=>exact hres .ret a' e' w' hS' hk
  |exit id=>exact hk.elim
 ·have:=hp.1;cases d<;>simpa [Act.put]using this
end Go.Proofs.YtijbcdiffjjefaaGreatDoor.Eng
