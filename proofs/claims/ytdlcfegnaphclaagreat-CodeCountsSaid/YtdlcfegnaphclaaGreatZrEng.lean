/- The engine of this claim's walks: what a piece of Go code owes, as one proposition over plain values and the world, and a proof that this is enough. -/
import Derived.OrdersHeld
import Derived.WalkKit
import Derived.RowKit3
import Derived.Laws.StructEq
import Derived.KernelRfl
set_option linter.unusedVariables false
set_option linter.unusedSimpArgs false
namespace Go.Proofs.YtdlcfegnaphclaaGreat.Eng
open Go
inductive jm where
 |int (k:IntKind) |bool |str |ptr |slice |map |any
inductive Sh where
 |leaf (l:jm) |agg (ls:List jm)
inductive Rs where
 |one (s:Sh) |tup (ss:List Sh)
def F5:jm→(Value→Prop)→Prop
 | .int k,F=>∃n:Int,F (.int k n)
 | .bool,F=>∃b:Bool,F (.bool b)
 | .str,F=>∃s:ByteArray,F (.string s)
 | .ptr,F=>∃p:Option Addr,F (.pointer p)
 | .slice,F=>∃(a:Option Addr) (n c:Nat),F (.slice a n c)
 | .map,F=>∃r:Option Nat,F (.map r)
 | .any,F=>∃v:Value,F v
def AJ:List jm→(List Value→Prop)→Prop
 | [],F=>F []
 |l::r,F=>F5 l fun v=>AJ r fun vs=>F (v::vs)
def KF:Sh→(Value→Prop)→Prop
 | .leaf l,F=>F5 l F
 | .agg ls,F=>AJ ls fun vs=>F (.agg vs.toArray)
def Fd:List Sh→(List Value→Prop)→Prop
 | [],F=>F []
 |s::r,F=>KF s fun v=>Fd r fun vs=>F (v::vs)
def Oi:Rs→(Value→Prop)→Prop
 | .one s,F=>KF s F
 | .tup ss,F=>Fd ss fun vs=>F (.tuple vs.toArray)
theorem kW {l:jm} {F:Value→Prop} (h:F5 l F):∃v,F v:=by
 cases l<;>simp only [F5]at h
 case slice=>obtain⟨a,n,c,h⟩:=h;exact⟨_,h⟩
 all_goals (obtain⟨x,h⟩:=h;exact⟨_,h⟩)
theorem kr:∀ {ls:List jm} {F:List Value→Prop},AJ ls F→∃vs,vs.length=ls.length∧F vs
 | [],_,h=>⟨[],rfl,h⟩
 |_::_,_,h=>by
  obtain⟨v,h⟩:=kW h;obtain⟨vs,hl,h⟩:=kr h;exact⟨_,by simp [hl],h⟩
theorem GV {ls:List jm} {F:List Value→Prop} (h:AJ ls F):∃vs,F vs:=by
 obtain⟨vs,_,h⟩:=kr h;exact⟨vs,h⟩
theorem zL {s:Sh} {F:Value→Prop} (h:KF s F):∃v,F v:=by
 cases s with
 |leaf l=>exact kW h
 |agg ls=>obtain⟨vs,h⟩:=GV h;exact⟨_,h⟩
theorem tu:∀ {ss:List Sh} {F:List Value→Prop},Fd ss F→∃vs,F vs
 | [],_,h=>⟨[],h⟩
 |_::_,_,h=>by
  obtain⟨v,h⟩:=zL h;obtain⟨vs,h⟩:=tu h;exact⟨_,h⟩
theorem uU {r:Rs} {F:Value→Prop} (h:Oi r F):∃v,F v:=by
 cases r with
 |one s=>exact zL h
 |tup ss=>obtain⟨vs,h⟩:=tu h;exact⟨_,h⟩
def Ig:jm→(Value→Prop)→Prop
 | .int k,F=>∀n:Int,F (.int k n)
 | .bool,F=>∀b:Bool,F (.bool b)
 | .str,F=>∀s:ByteArray,F (.string s)
 | .ptr,F=>∀p:Option Addr,F (.pointer p)
 | .slice,F=>∀(a:Option Addr) (n c:Nat),F (.slice a n c)
 | .map,F=>∀r:Option Nat,F (.map r)
 | .any,F=>∀v:Value,F v
def Gc:List jm→(List Value→Prop)→Prop
 | [],F=>F []
 |l::r,F=>Ig l fun v=>Gc r fun vs=>F (v::vs)
def Iu:Sh→(Value→Prop)→Prop
 | .leaf l,F=>Ig l F
 | .agg ls,F=>Gc ls fun vs=>F (.agg vs.toArray)
def tZ:List Sh→(List Value→Prop)→Prop
 | [],F=>F []
 |s::r,F=>Iu s fun v=>tZ r fun vs=>F (v::vs)
def FK:Value→jm
 | .int k _=>.int k
 | .bool _=>.bool
 | .string _=>.str
 | .pointer _=>.ptr
 | .slice .. =>.slice
 | .map _=>.map
 |_=>.any
def Oj:Value→Sh
 | .agg cs=>.agg (cs.toList.map FK)
 |v=>.leaf (FK v)
def JU:jm→Value→Prop
 | .int k,v=>∃n:Int,v= .int k n
 | .bool,v=>∃b:Bool,v= .bool b
 | .str,v=>∃s:ByteArray,v= .string s
 | .ptr,v=>∃p:Option Addr,v= .pointer p
 | .slice,v=>∃(a:Option Addr) (n c:Nat),v= .slice a n c
 | .map,v=>∃r:Option Nat,v= .map r
 | .any,_=>True
def Hw:List jm→List Value→Prop
 | [],vs=>vs= []
 |l::r,vs=>∃v t,vs=v::t∧JU l v∧Hw r t
def K3:Sh→Value→Prop
 | .leaf l,v=>JU l v
 | .agg ls,v=>∃vs:List Value,v= .agg vs.toArray∧Hw ls vs
def pp:List Sh→List Value→Prop
 | [],vs=>vs= []
 |s::r,vs=>∃v t,vs=v::t∧K3 s v∧pp r t
theorem De {l:jm} {F:Value→Prop} (h:∀v,JU l v→F v):Ig l F:=by
 cases l<;>simp only [Ig]
 case slice=>exact fun a n c=>h _ ⟨a,n,c,rfl⟩
 case any=>exact fun v=>h v trivial
 all_goals exact fun x=>h _ ⟨x,rfl⟩
theorem xT:∀ {ls:List jm} {F:List Value→Prop},(∀vs,Hw ls vs→F vs)→Gc ls F
 | [],_,h=>h [] rfl
 |_::_,_,h=>De fun v hv=>xT fun vs hvs=>h _ ⟨v,vs,rfl,hv,hvs⟩
theorem EG {s:Sh} {F:Value→Prop} (h:∀v,K3 s v→F v):Iu s F:=by
 cases s with
 |leaf l=>exact De h
 |agg ls=>exact xT fun vs hvs=>h _ ⟨vs,rfl,hvs⟩
theorem kY:∀ {ss:List Sh} {F:List Value→Prop},(∀vs,pp ss vs→F vs)→tZ ss F
 | [],_,h=>h [] rfl
 |_::_,_,h=>EG fun v hv=>kY fun vs hvs=>h _ ⟨v,vs,rfl,hv,hvs⟩
def Hd:jm→Value→Bool
 | .int k,.int k' _=>k==k'
 | .bool,.bool _=>true
 | .str,.string _=>true
 | .ptr,.pointer _=>true
 | .slice,.slice .. =>true
 | .map,.map _=>true
 | .any,_=>true
 |_,_=>false
def ta:List jm→List Value→Bool
 | [],[]=>true
 |l::r,v::t=>Hd l v&&ta r t
 |_,_=>false
def EU:Sh→Value→Bool
 | .leaf l,v=>Hd l v
 | .agg ls,.agg cs=>ta ls cs.toList
 |_,_=>false
def nC:List Sh→List Value→Bool
 | [],[]=>true
 |s::r,v::t=>EU s v&&nC r t
 |_,_=>false
theorem Gu {l:jm} {v:Value} (h:Hd l v=true):JU l v:=by
 cases l<;>cases v<;>simp_all [Hd,JU]
theorem CW:∀ {ls:List jm} {vs:List Value},ta ls vs=true→Hw ls vs
 | [],[],_=>rfl
 | [],_::_,h=>by simp [ta]at h
 |_::_,[],h=>by simp [ta]at h
 |_::_,v::t,h=>by
  simp only [ta,Bool.and_eq_true]at h;exact⟨v,t,rfl,Gu h.1,CW h.2⟩
theorem Hy {s:Sh} {v:Value} (h:EU s v=true):K3 s v:=by
 cases s with
 |leaf l=>exact Gu h
 |agg ls=>
  cases v<;>simp only [EU,Bool.false_eq_true]at h
  rename_i cs;exact⟨cs.toList,by simp,CW h⟩
theorem wM:∀ {ss:List Sh} {vs:List Value},nC ss vs=true→pp ss vs
 | [],[],_=>rfl
 | [],_::_,h=>by simp [nC]at h
 |_::_,[],h=>by simp [nC]at h
 |_::_,v::t,h=>by
  simp only [nC,Bool.and_eq_true]at h;exact⟨v,t,rfl,Hy h.1,wM h.2⟩
theorem KA {l:jm} {F:Value→Prop} (h:F5 l F):∃v,JU l v∧F v:=by
 cases l<;>simp only [F5]at h
 case slice=>obtain⟨a,n,c,h⟩:=h;exact⟨_,⟨a,n,c,rfl⟩,h⟩
 case any=>obtain⟨x,h⟩:=h;exact⟨_,trivial,h⟩
 all_goals (obtain⟨x,h⟩:=h;exact⟨_,⟨x,rfl⟩,h⟩)
theorem Kz {l:jm} {F:Value→Prop} {v:Value} (hv:JU l v) (h:F v):F5 l F:=by
 cases l<;>simp only [JU]at hv
 case slice=>obtain⟨a,n,c,rfl⟩:=hv;exact⟨a,n,c,h⟩
 case any=>exact⟨v,h⟩
 all_goals (obtain⟨x,rfl⟩:=hv;exact⟨x,h⟩)
abbrev cR:=List (Nat×Value)
def cR.get:cR→Nat→Option Value
 | [],_=>none
 |(u,v)::r,t=>match Nat.beq u t with
  |true=>some v
  |false=>cR.get r t
def cR.put (e:cR) (d:Option Nat) (v:Value):cR:=match d with
 |none=>e
 |some d=>(d,v)::e
def ev (e:cR):Operand→Option Value
 | .tmp t=>e.get t
 | .const v=>some v
 | .global g=>some (.pointer (some ⟨g,0,none⟩))
 | .func f=>some (.func (.func f) #[] #[])
def G' (e:cR):List Operand→Option (List Value)
 | []=>some []
 |x::r=>match ev e x with
  |none=>none
  |some v=>match G' e r with
   |none=>none
   |some vs=>some (v::vs)
structure Sim (n:Nat) (a:Act) (e:cR):Prop where
 size:a.tmps.size=n
 defers:a.defers= []
 get:∀t v,e.get t=some v→a.tmps[t]? =some v
theorem Sim.ev {n:Nat} {a:Act} {e:cR} (h:Sim n a e) {x:Operand} {v:Value} (hx:Eng.ev e x=some v):a.eval x=v:=by
 cases x with
 |tmp t=>
  have:=h.get t v hx;simp only [Act.eval,Array.getD_eq_getD_getElem?,this,Option.getD_some]
 |const c=>simpa [Eng.ev,Act.eval]using hx
 |global g=>simpa [Eng.ev,Act.eval]using hx
 |func f=>simpa [Eng.ev,Act.eval]using hx
theorem Sim.evs {n:Nat} {a:Act} {e:cR} (h:Sim n a e):∀ {l:List Operand} {vs:List Value},Eng.G' e l=some vs→l.map a.eval=vs
 | [],vs,hx=>by simp [Eng.G']at hx;simp [hx]
 |x::r,vs,hx=>by
  simp only [Eng.G']at hx;split at hx
  ·cases hx
  ·rename_i v hv;split at hx
   ·cases hx
   ·rename_i t ht;cases hx;simp [h.ev hv,h.evs ht]
theorem Sim.put {n:Nat} {a:Act} {e:cR} (h:Sim n a e) (d:Option Nat) (v:Value) (hd:∀t,d=some t→t<n):Sim n (a.put d v) (e.put d v):=by
 cases d with
 |none=>exact h
 |some d=>
  have hlt:=hd d rfl;refine⟨by simp [Act.put,h.size],h.defers,fun t u hu=>?_⟩;simp only [cR.put,cR.get]at hu;split at hu
  ·rename_i heq;have:d=t:=Nat.eq_of_beq_eq_true heq;subst this;cases hu;simp [Act.put,h.size,hlt]
  ·rename_i hne;have:d≠t:=Nat.ne_of_beq_eq_false hne;have:=h.get t u hu;simp [Act.put,Array.getElem?_setIfInBounds_ne, *]
abbrev nb (w:World):Addr:=⟨w.heap.size,0,none⟩
def ac (b:Bool) (p q:Prop):Prop:=match b with
 |true=>p
 |false=>q
theorem ac.mk {b:Bool} {p q:Prop} (h:b=true→p) (k:b=false→q):ac b p q:=by
 cases b
 ·exact k rfl
 ·exact h rfl
theorem ac.yes {b:Bool} {p q:Prop} (hb:b=true) (h:p):ac b p q:=by subst hb;exact h
theorem ac.no {b:Bool} {p q:Prop} (hb:b=false) (h:q):ac b p q:=by subst hb;exact h
def af (p:Option Addr) (k:Addr→Prop):Prop:=match p with
 |some a=>k a
 |none=>False
theorem af.mk {p:Option Addr} {k:Addr→Prop} (a:Addr) (h:p=some a) (hk:k a):af p k:=by subst h;exact hk
def Ar (k:IntKind) (z:Int) (F:Int→Prop):Prop:=F (k.wrap z)
def fJ (s:ByteArray) (i:Int):Int:=((s.data[i.toNat]?).map (fun b=>(b.toNat:Int))).getD 0
def fu (w:World) (a:Addr):List Value→Nat→Prop
 | [],_=>True
 |v::r,i=>w.cell? (a.add i)=some v∧fu w a r (i+1)
def aB (w:World) (a:Addr) (k:World→Prop):List Value→Nat→Prop
 | [],_=>∀w',w'=w→k w'
 |v::r,i=>v.oneCell'=true∧(∃u,w.cell? (a.add i)=some u)∧w.frozen? (a.add i)=false∧aB (w.setCell (a.add i) v) a k r (i+1)
inductive Hs where
 |i
 |s
 |b
def Ou:Hs→Value→Value→Option Bool
 | .i,.int k a,.int k' b=>match k==k' with
  |true=>some (a==b)
  |false=>none
 | .s,.string a,.string b=>some (a.toList==b.toList)
 | .b,.bool a,.bool b=>some (a==b)
 |_,_,_=>none
def HK:List Hs→List Value→List Value→Option Bool
 | [],[],[]=>some true
 |k::l,x::xs,y::ys=>match Ou k x y,HK l xs ys with
  |some b,some c=>some (b&&c)
  |_,_=>none
 |_,_,_=>none
def vO (P:Program) (t:TypeId):Hs→Bool
 | .i=>match P.underlying t with
  |some (.int _)=>true
  |_=>false
 | .s=>match P.underlying t with
  |some .string=>true
  |_=>false
 | .b=>match P.underlying t with
  |some .bool=>true
  |_=>false
def Dh (P:Program):List Field→Nat→List Hs→Bool
 | [],_,[]=>true
 |f::fs,k,e::l=>decide (f.name≠ "_")&&(Nat.beq f.offset k&&(vO P f.type e&&Dh P fs (k+1) l))
 |_,_,_=>false
def ri (P:Program) (t:TypeId) (l:List Hs):Bool:=(match P.underlying t with
 |some (.struct _)=>true
 |_=>false)&&(!P.stoodInHeld t&&(!P.eqGuardType P.depth t&&Dh P (P.fieldsOf t).toList 0 l))
structure TI where
 size:Option Nat:=none
 agg:Option Bool:=none
 rs:Option Rs:=none
 zero:Option Value:=none
 offs:Option (List (Nat×Nat×Bool)):=none
 arr:Option (Nat×Nat):=none
 slc:Option (Nat×Nat):=none
 elemSh:Option Sh:=none
 isStr:Bool:=false
 intk:Option IntKind:=none
 conc:Bool:=false
 isPtr:Bool:=false
 isSlc:Bool:=false
 isMap:Bool:=false
 isBool:Bool:=false
 eqs:Option (List Hs):=none
def gO:TypeDesc→Bool
 | .struct _ | .array _ _=>true
 |_=>false
structure aI (P:Program) (t:TypeId) (i:TI):Prop where
 size:∀n,i.size=some n→(P.info? t).map (·.size)=some n:=by first |exact jp rfl |exact ai 1 rfl (by kernel_rfl)
 agg:∀b,i.agg=some b→(P.underlying t).map gO=some b:=by first |exact jp rfl |exact ai false rfl (by kernel_rfl)
 zero:∀v,i.zero=some v→(P.info? t).map (·.zero)=some (some v):=by exact jp rfl
 offs:∀l,i.offs=some l→∃fs,P.underlying t=some (.struct fs)∧fs.toList.map (fun f=>(f.offset,(P.info? f.type).map (·.size),(P.underlying f.type).map gO))=l.map (fun x=>(x.1,some (x.2.1+1),some x.2.2)):=by exact jp rfl
 arr:∀n s,i.arr=some (n,s)→∃e,P.underlying t=some (.array n e)∧(P.info? e).map (·.size)=some s:=by exact tO rfl
 slc:∀e s,i.slc=some (e,s)→P.underlying t=some (.slice e)∧(P.info? e).map (·.size)=some s:=by exact tO rfl
 isStr:i.isStr=true→P.underlying t=some .string:=by exact nI rfl
 intk:∀k,i.intk=some k→P.underlying t=some (.int k):=by exact jp rfl
 conc:i.conc=true→∃d,P.underlying t=some d∧∀ms,d≠ .interface ms:=by exact nI rfl
 isPtr:i.isPtr=true→∃e,P.underlying t=some (.pointer e):=by exact nI rfl
 isSlc:i.isSlc=true→∃e,P.underlying t=some (.slice e):=by exact nI rfl
 isMap:i.isMap=true→∃k e,P.underlying t=some (.map k e):=by exact nI rfl
 isBool:i.isBool=true→P.underlying t=some .bool:=by exact nI rfl
 eqs:∀l,i.eqs=some l→ri P t l=true:=by exact jp rfl
theorem aI.nothing (P:Program) (t:TypeId):aI P t {}:=by
 constructor<;>intros<;>simp_all
theorem ai {α:Type} {o:Option α} {p:α→Prop} (a:α) (ho:o=some a) (hp:p a):∀x,o=some x→p x:=by
 intro x h;rw [ho]at h;cases h;exact hp
theorem jp {α:Type} {o:Option α} {p:α→Prop} (ho:o=none):∀x,o=some x→p x:=by
 intro x h;rw [ho]at h;cases h
theorem bj {α β:Type} {o:Option (α×β)} {p:α→β→Prop} (a:α) (b:β) (ho:o=some (a,b)) (hp:p a b):∀x y,o=some (x,y)→p x y:=by
 intro x y h;rw [ho]at h;cases h;exact hp
theorem tO {α β:Type} {o:Option (α×β)} {p:α→β→Prop} (ho:o=none):∀x y,o=some (x,y)→p x y:=by
 intro x y h;rw [ho]at h;cases h
theorem am {b:Bool} {p:Prop} (hp:p):b=true→p:=fun _=>hp
theorem nI {b:Bool} {p:Prop} (hb:b=false):b=true→p:=by
 intro h;rw [hb]at h;cases h
structure gf where
 P:Program
 tab:List (Nat×TI)
 fns:FuncId→Bool
 re:Bool:=false
def gf.ty (C:gf) (t:TypeId):TI:=match C.tab.lookup t with
 |some i=>i
 |none=>{}
structure gf.Ok (C:gf):Prop where
 ty:∀t,aI C.P t (C.ty t)
 fns:∀f,C.fns f=true→∃fn c,C.P.funcs[f]? =some fn∧(fn.name== "runtime.NumGoroutine")=false∧fn.body=some c
 mixed:C.P.follows .mixedOrders=true
theorem od {P:Program}:∀p∈([]:List (Nat×TI)),aI P p.1 p.2:=fun _ h=>by cases h
theorem an {P:Program} {t:Nat} {i:TI} {l:List (Nat×TI)} (h:aI P t i) (r:∀p∈l,aI P p.1 p.2):∀p∈(t,i)::l,aI P p.1 p.2:=by
 intro p hp;rcases List.mem_cons.1 hp with rfl |hp
 ·exact h
 ·exact r p hp
theorem qT {P:Program} {l r:List (Nat×TI)} (h:∀p∈l,aI P p.1 p.2) (k:∀p∈r,aI P p.1 p.2):∀p∈l++r,aI P p.1 p.2:=fun p hp=>(List.mem_append.1 hp).elim (h p) (k p)
theorem tc {P:Program}:∀ {tab:List (Nat×TI)},(∀p∈tab,aI P p.1 p.2)→∀t,aI P t (match tab.lookup t with |some i=>i |none=>{})
 | [],_,t=>by simpa using aI.nothing P t
 |(u,i)::r,h,t=>by
  simp only [List.lookup_cons];by_cases hu:t=u
  ·subst hu;simpa using h (t,i) (by simp)
  ·have:(t==u)=false:=by simpa using hu
   simp only [this];exact tc (fun p hp=>h p (by simp [hp])) t
theorem EC {C:gf} (htab:∀p∈C.tab,aI C.P p.1 p.2) (hf:∀f,C.fns f=true→∃fn c,C.P.funcs[f]? =some fn∧(fn.name== "runtime.NumGoroutine")=false∧fn.body=some c) (hm:C.P.follows .mixedOrders=true):C.Ok:=
 ⟨fun t=>tc htab t,hf,hm⟩
def nA (P:Program) (s:Sem Value) (rs:Option Rs) (w:World) (K:Value→World→Prop):Prop:=match rs with
 |none=>False
 |some r=>Oi r fun v=>∃w',s.run P w= .ok v w'∧K v w'
def HM (P:Program) (s:Sem Unit) (w:World) (K:Value→World→Prop):Prop:=∃w',s.run P w= .ok () w'∧K undef w'
def yN (P:Program) (t:TypeId) (w:World) (p q:Option Addr) (F:Bool→Prop):Prop:=match q with
 |none=>F p.isNone
 |some b=>match p with
  |none=>F false
  |some a=>∃r:Bool,(Op.equalIn (9999+1) t (.pointer (some a)) (.pointer (some b))).run P w= .ok r w∧F r
def F0:Value→Bool
 | .nilIface=>true
 | .nilFunc=>true
 |_=>false
def eM (C:gf) (op:BinOp) (t:TypeId) (cx cy:Operand) (x y:Value) (ot:TypeId) (w:World) (K:Value→World→Prop):Prop:=
 match x,y with
 | .int k a,.int k' b=>match op with
  | .shl=>0≤b∧K (.int k (k.wrap (a*2^(min b.toNat k.bits)))) w
  | .shr=>0≤b∧K (.int k (a.fdiv (2^(min b.toNat k.bits)))) w
  | .add=>match k==k' with |true=>Ar k (a+b) fun n=>K (.int k n) w |false=>False
  | .sub=>match k==k' with |true=>Ar k (a-b) fun n=>K (.int k n) w |false=>False
  | .mul=>match k==k' with |true=>Ar k (a*b) fun n=>K (.int k n) w |false=>False
  | .quo=>match k==k' with |true=>b≠0∧K (.int k (k.wrap (a.tdiv b))) w |false=>False
  | .rem=>match k==k' with |true=>b≠0∧K (.int k (a.tmod b)) w |false=>False
  | .and=>match k==k' with |true=>K (.int k (k.wrap (BitVec.ofInt k.bits a&&&BitVec.ofInt k.bits b).toNat)) w |false=>False
  | .or=>match k==k' with |true=>K (.int k (k.wrap (BitVec.ofInt k.bits a|||BitVec.ofInt k.bits b).toNat)) w |false=>False
  | .xor=>match k==k' with |true=>K (.int k (k.wrap (BitVec.ofInt k.bits a^^^BitVec.ofInt k.bits b).toNat)) w |false=>False
  | .andNot=>match k==k' with |true=>K (.int k (k.wrap (BitVec.ofInt k.bits a&&& ~~~ BitVec.ofInt k.bits b).toNat)) w |false=>False
  | .eql=>match k==k' with |true=>K (.bool (a==b)) w |false=>False
  | .neq=>match k==k' with |true=>K (.bool (a != b)) w |false=>False
  | .lss=>match k==k' with |true=>K (.bool (a<b)) w |false=>False
  | .leq=>match k==k' with |true=>K (.bool (a≤b)) w |false=>False
  | .gtr=>match k==k' with |true=>K (.bool (a>b)) w |false=>False
  | .geq=>match k==k' with |true=>K (.bool (a≥b)) w |false=>False
 | .string a,.string b=>match op with
  | .add=>((a.size+b.size:Nat):Int)≤IntKind.i64.max∧K (.string (a++b)) w
  | .eql=>K (.bool (a.toList==b.toList)) w
  | .neq=>K (.bool (!(a.toList==b.toList))) w
  | .lss=>K (.bool (Op.bytesLess a.toList b.toList)) w
  |_=>False
 | .bool a,.bool b=>match(C.ty t).isBool,op with
  |true,.eql=>K (.bool (a==b)) w
  |true,.neq=>K (.bool (!(a==b))) w
  |_,_=>False
 | .pointer p,.pointer q=>match(C.ty t).isPtr,op with
  |true,.eql=>yN C.P t w p q fun b=>K (.bool b) w
  |true,.neq=>yN C.P t w p q fun b=>K (.bool (!b)) w
  |_,_=>False
 | .slice p _ _,.slice none _ _=>match(C.ty t).isSlc,op with
  |true,.eql=>K (.bool p.isNone) w
  |true,.neq=>K (.bool (!p.isNone)) w
  |_,_=>False
 | .map p,.map none=>match(C.ty t).isMap,op with
  |true,.eql=>K (.bool p.isNone) w
  |true,.neq=>K (.bool (!p.isNone)) w
  |_,_=>False
 | .agg xs,.agg ys=>match(C.ty t).eqs with
  |none=>False
  |some l=>match HK l xs.toList ys.toList,op with
   |some b,.eql=>K (.bool b) w
   |some b,.neq=>K (.bool (!b)) w
   |_,_=>False
 |x,y=>nA C.P (do eqGuard op t cx cy x y;binOp op t x y) (C.ty ot).rs w K
def oe (C:gf) (op:BinOp) (t:TypeId) (cx cy:Operand) (x y:Value) (ot:TypeId) (w:World) (K:Value→World→Prop):Prop:=
 match F0 y with
 |true=>nA C.P (do eqGuard op t cx cy x y;binOp op t x y) (C.ty ot).rs w K
 |false=>eM C op t cx cy x y ot w K
theorem qL {P:Program} {s:Sem Value} {rs:Option Rs} {w:World} {K:Value→World→Prop} (h:nA P s rs w K):∃v w',s.run P w= .ok v w'∧K v w':=by
 unfold nA at h;split at h
 ·exact h.elim
 ·exact uU h
theorem mN (P:Program) (d:Nat) (t:TypeId) (a b:Bool) (w:World) (h:P.underlying t=some .bool):(Op.equalIn (d+1) t (.bool a) (.bool b)).run P w= .ok (a==b) w:=by
 simp [Op.equalIn,run_underlying h,Result.andThen]
theorem wX (P:Program) (d:Nat) (t e:TypeId) (p:Option Addr) (w:World) (h:P.underlying t=some (.pointer e)):(Op.equalIn (d+1) t (.pointer p) (.pointer none)).run P w= .ok p.isNone w:=by
 cases p<;>simp [Op.equalIn,run_underlying h,Result.andThen]
theorem oX (P:Program) (d:Nat) (t e:TypeId) (p:Option Addr) (n c n' c':Nat) (w:World) (h:P.underlying t=some (.slice e)):(Op.equalIn (d+1) t (.slice p n c) (.slice none n' c')).run P w= .ok p.isNone w:=by
 cases p<;>simp [Op.equalIn,run_underlying h,Result.andThen]
theorem pe (P:Program) (d:Nat) (t k e:TypeId) (p:Option Nat) (w:World) (h:P.underlying t=some (.map k e)):(Op.equalIn (d+1) t (.map p) (.map none)).run P w= .ok p.isNone w:=by
 cases p<;>simp [Op.equalIn,run_underlying h,Result.andThen]
theorem B_ (P:Program) (d:Nat) (t e:TypeId) (b:Addr) (w:World) (h:P.underlying t=some (.pointer e)):(Op.equalIn (d+1) t (.pointer none) (.pointer (some b))).run P w= .ok false w:=by
 simp [Op.equalIn,run_underlying h,Result.andThen]
theorem ti {P:Program} {t e:TypeId} {w:World} {p q:Option Addr} {F:Bool→Prop} (h:P.underlying t=some (.pointer e)) (hF:yN P t w p q F):
  ∃b,(Op.equalIn (9999+1) t (.pointer p) (.pointer q)).run P w= .ok b w∧F b:=by
 unfold yN at hF;split at hF
 ·exact⟨_,wX _ _ _ e _ _ h,hF⟩
 ·split at hF
  ·exact⟨false,B_ _ _ _ e _ _ h,hF⟩
  ·obtain⟨r,hr,hF⟩:=hF;exact⟨r,hr,hF⟩
theorem pL {P:Program} {t:TypeId} {x y:Value} {w:World} {b:Bool} (cx cy:Operand) (hx:∀s:Sem Value,(do eqGuard .eql t cx cy x y;s:Sem Value).run P w=s.run P w)
  (hb:binOp .eql t x y=(do pure (.bool (←Op.equal t x y)))) (h:(Op.equalIn (9999+1) t x y).run P w= .ok b w):(do eqGuard .eql t cx cy x y;binOp .eql t x y:Sem Value).run P w= .ok (.bool b) w:=by
 rw [hx,hb];have:(Op.equal t x y).run P w= .ok b w:=h;rw [Sem.run_bind,this];rfl
theorem pZ {P:Program} {t:TypeId} {x y:Value} {w:World} {b:Bool} (cx cy:Operand) (hx:∀s:Sem Value,(do eqGuard .neq t cx cy x y;s:Sem Value).run P w=s.run P w)
  (hb:binOp .neq t x y=(do pure (.bool (!(←Op.equal t x y))))) (h:(Op.equalIn (9999+1) t x y).run P w= .ok b w):(do eqGuard .neq t cx cy x y;binOp .neq t x y:Sem Value).run P w= .ok (.bool !b) w:=by
 rw [hx,hb];have:(Op.equal t x y).run P w= .ok b w:=h;rw [Sem.run_bind,this];rfl
theorem vR {P:Program} {t:TypeId} {w:World} {xs:Array Value} {k:Nat} {v:Value} (h:(P.underlying t).map gO=some false) (hv:xs[k]? =some v):(part t xs k).run P w= .ok v w:=by
 have ha:(isAgg t).run P w= .ok false w:=by
  obtain⟨d,hd,hf⟩:=Option.map_eq_some_iff.1 h;cases d<;>simp [gO]at hf<;>simp [isAgg,run_underlying hd,Result.andThen]
 simp [part,ha,hv,Result.andThen]
theorem H5 {P:Program} {t:TypeId} {e:Hs} {x y:Value} {b:Bool} {w:World} (d:Nat) (hk:vO P t e=true) (h:Ou e x y=some b):(Op.equalIn (d+1) t x y).run P w= .ok b w∧(P.underlying t).map gO=some false:=by
 unfold Ou at h;split at h
 ·rename_i k a k' b';split at h
  ·rename_i hkk;have hkk:k=k':=by simpa using hkk
   subst hkk;cases h;simp only [vO]at hk;split at hk
   ·rename_i q hq;exact⟨run_equalIn_int w d t k q a b' hq,by rw [hq];rfl⟩
   ·cases hk
  ·cases h
 ·cases h;simp only [vO]at hk;split at hk
  ·rename_i hq;exact⟨run_equalIn_string w d t _ _ hq,by rw [hq];rfl⟩
  ·cases hk
 ·cases h;simp only [vO]at hk;split at hk
  ·rename_i hq;exact⟨run_equalIn_bool w d t _ _ hq,by rw [hq];rfl⟩
  ·cases hk
 ·cases h
theorem nn {P:Program} {xs ys:Array Value} {w:World} (d:Nat):∀(fs:List Field) (k:Nat) (l:List Hs) (b:Bool),Dh P fs k l=true→HK l (xs.toList.drop k) (ys.toList.drop k)=some b→(Op.eqFields (d+1) xs ys fs).run P w= .ok b w
 | [],k,l,b,hf,h=>by
  cases l with
  |nil=>
   simp only [Op.eqFields];generalize xs.toList.drop k=p at h;generalize ys.toList.drop k=q at h;cases p<;>cases q<;>simp [HK]at h
   subst h;rfl
  |cons e l=>simp [Dh]at hf
 |f::fs,k,[],b,hf,h=>by simp [Dh]at hf
 |f::fs,k,e::l,b,hf,h=>by
  simp only [Dh,Bool.and_eq_true,decide_eq_true_eq]at hf;obtain⟨h1,h2,h3,h4⟩:=hf;have h2:=Nat.eq_of_beq_eq_true h2;cases hx:xs.toList.drop k with
  |nil=>rw [hx]at h;simp [HK]at h
  |cons x xr=>
   cases hy:ys.toList.drop k with
   |nil=>rw [hx,hy]at h;simp [HK]at h
   |cons y yr=>
    rw [hx,hy]at h;simp only [HK]at h;split at h
    ·rename_i b1 b2 he hr;cases h;obtain⟨hrun,hagg⟩:=H5 (w:=w) d h3 he;have gx:xs[f.offset]? =some x:=by
      rw [h2];have:=congrArg (·[0]?) hx;simpa using this
     have gy:ys[f.offset]? =some y:=by
      rw [h2];have:=congrArg (·[0]?) hy;simpa using this
     have tx:xs.toList.drop (k+1)=xr:=by
      rw [←List.drop_drop,hx];rfl
     have ty:ys.toList.drop (k+1)=yr:=by
      rw [←List.drop_drop,hy];rfl
     have rest:=nn (xs:=xs) (ys:=ys) (w:=w) d fs (k+1) l b2 h4 (by rw [tx,ty];exact hr);simp only [Op.eqFields,h1,ne_eq,not_false_eq_true,if_true,Sem.run_bind,vR hagg gx,vR hagg gy,hrun,Result.andThen];cases b1
     ·rfl
     ·simpa using rest
    ·cases h
theorem lY {P:Program} {t:TypeId} {l:List Hs} {xs ys:Array Value} {b:Bool} {w:World} (h:ri P t l=true) (he:HK l xs.toList ys.toList=some b):(Op.equalIn 10000 t (.agg xs) (.agg ys)).run P w= .ok b w∧P.eqGuardType P.depth t=false:=by
 simp only [ri,Bool.and_eq_true,Bool.not_eq_true']at h;obtain⟨h1,h2,h3,h4⟩:=h;refine⟨?_,h3⟩;have hs:P.underlying t=some (.struct (P.fieldsOf t)):=by
  unfold Program.fieldsOf;split at h1
  ·rename_i hu;rw [hu]
  ·cases h1
 rw [run_equalIn_struct w 9999 t xs ys hs h2];exact nn 9998 _ 0 l b h4 he
theorem yO {C:gf} (hC:C.Ok) {op:BinOp} {t:TypeId} {cx cy:Operand} {x y:Value} {ot:TypeId} {w:World} {K:Value→World→Prop} (h:eM C op t cx cy x y ot w K):
  ∃v w',(do eqGuard op t cx cy x y;binOp op t x y:Sem Value).run C.P w= .ok v w'∧K v w':=by
 unfold eM at h;split at h
 ·rename_i k a k' b;have hg:∀(f:Sem Value),(do eqGuard op t cx cy (.int k a) (.int k' b);f:Sem Value).run C.P w=f.run C.P w:=by
   intro f;cases op<;>simp [eqGuard,Result.andThen]
  rw [hg];by_cases hk:k=k'
  ·subst hk;cases op<;>simp only [beq_self_eq_true]at h<;>simp only [binOp,Op.shift,Op.intArith,Op.intDiv,Op.intBits,Op.intCmp,Ar,ne_eq,not_true_eq_false,if_false]at h⊢
   case shl=>rw [if_neg (by omega)];exact⟨_,_,rfl,h.2⟩
   case shr=>rw [if_neg (by omega)];exact⟨_,_,rfl,h.2⟩
   case quo=>rw [if_neg h.1];exact⟨_,_,rfl,h.2⟩
   case rem=>rw [if_neg h.1];exact⟨_,_,rfl,h.2⟩
   all_goals exact⟨_,_,rfl,h⟩
  ·have hkf:(k==k')=false:=by simpa using hk
   cases op<;>simp only [hkf]at h
   case shl=>simp only [binOp,Op.shift];rw [if_neg (by omega)];exact⟨_,_,rfl,h.2⟩
   case shr=>simp only [binOp,Op.shift];rw [if_neg (by omega)];exact⟨_,_,rfl,h.2⟩
 ·rename_i a b;have hg:∀(f:Sem Value),(do eqGuard op t cx cy (.string a) (.string b);f:Sem Value).run C.P w=f.run C.P w:=by
   intro f;cases op<;>simp [eqGuard,Result.andThen]
  rw [hg];cases op<;>simp only [binOp,Op.stringOp]at h⊢
  case add=>rw [if_neg (by omega)];exact⟨_,_,rfl,h.2⟩
  all_goals first |exact⟨_,_,rfl,h⟩ |exact h.elim
 ·rename_i a b;have hu:=(hC.ty t).isBool;split at h
  ·rename_i hb;exact⟨_,_,pL _ _ (fun _=>rfl) rfl (mN _ _ _ _ _ _ (hu hb)),h⟩
  ·rename_i hb;exact⟨_,_,pZ _ _ (fun _=>rfl) rfl (mN _ _ _ _ _ _ (hu hb)),h⟩
  ·exact h.elim
 ·rename_i p q;have hu:=(hC.ty t).isPtr;split at h
  ·rename_i hb;obtain⟨e,hu⟩:=hu hb;obtain⟨b,hr,hF⟩:=ti hu h;exact⟨_,_,pL _ _ (fun _=>rfl) (by cases p<;>cases q<;>rfl) hr,hF⟩
  ·rename_i hb;obtain⟨e,hu⟩:=hu hb;obtain⟨b,hr,hF⟩:=ti hu h;exact⟨_,_,pZ _ _ (fun _=>rfl) (by cases p<;>cases q<;>rfl) hr,hF⟩
  ·exact h.elim
 ·have hu:=(hC.ty t).isSlc;split at h
  ·rename_i hb;obtain⟨e,hu⟩:=hu hb;exact⟨_,_,pL _ _ (fun _=>rfl) rfl (oX _ _ _ e _ _ _ _ _ _ hu),h⟩
  ·rename_i hb;obtain⟨e,hu⟩:=hu hb;exact⟨_,_,pZ _ _ (fun _=>rfl) rfl (oX _ _ _ e _ _ _ _ _ _ hu),h⟩
  ·exact h.elim
 ·have hu:=(hC.ty t).isMap;split at h
  ·rename_i hb;obtain⟨k,e,hu⟩:=hu hb;exact⟨_,_,pL _ _ (fun _=>rfl) rfl (pe _ _ _ k e _ _ hu),h⟩
  ·rename_i hb;obtain⟨k,e,hu⟩:=hu hb;exact⟨_,_,pZ _ _ (fun _=>rfl) rfl (pe _ _ _ k e _ _ hu),h⟩
  ·exact h.elim
 ·rename_i xs ys;split at h
  ·exact h.elim
  ·rename_i l hl;have hf:=(hC.ty t).eqs l hl;split at h
   ·rename_i b hb;obtain⟨hr,hg⟩:=lY (w:=w) hf hb;refine⟨_,_,?_,h⟩;rw [Sem.run_bind,run_eqGuard_agg _ _ _ _ _ _ _ hg];simp only [Result.andThen];rw [run_eql_struct,hr];rfl
   ·rename_i b hb;obtain⟨hr,hg⟩:=lY (w:=w) hf hb;refine⟨_,_,?_,h⟩;rw [Sem.run_bind,run_eqGuard_agg _ _ _ _ _ _ _ hg];simp only [Result.andThen];rw [run_neq_struct,hr];rfl
   ·exact h.elim
 ·exact qL h
theorem AZ {C:gf} (hC:C.Ok) {op:BinOp} {t:TypeId} {cx cy:Operand} {x y:Value} {ot:TypeId} {w:World} {K:Value→World→Prop} (h:oe C op t cx cy x y ot w K):
  ∃v w',(do eqGuard op t cx cy x y;binOp op t x y:Sem Value).run C.P w= .ok v w'∧K v w':=by
 unfold oe at h;split at h
 ·exact qL h
 ·exact yO hC h
def xL (e:cR):List (Nat×Operand)→Option (List (Nat×Value))
 | []=>some []
 |(i,x)::r=>match ev e x with
  |none=>none
  |some v=>match xL e r with
   |none=>none
   |some vs=>some ((i,v)::vs)
theorem Sim.evps {n:Nat} {a:Act} {e:cR} (h:Sim n a e):∀ {l:List (Nat×Operand)} {vs:List (Nat×Value)},Eng.xL e l=some vs→l.map (fun p=>(p.1,a.eval p.2))=vs
 | [],vs,hx=>by simp [Eng.xL]at hx;simp [hx]
 |(i,x)::r,vs,hx=>by
  simp only [Eng.xL]at hx;split at hx
  ·cases hx
  ·rename_i v hv;split at hx
   ·cases hx
   ·rename_i t ht;cases hx;simp [h.ev hv,h.evps ht]
def ir (cells:List Value) (off:Nat) (vs:List Value):List Value:=cells.take off++vs++cells.drop (off+vs.length)
def mh (place:Nat→Option (Nat×Nat)) (cells:List Value):List (Nat×Value)→Option (List Value)
 | []=>some cells
 |(i,v)::rest=>match place i with
  |none=>none
  |some (off,size)=>match Nat.beq v.cells.toList.length size&&Nat.ble (off+size) cells.length with
   |false=>none
   |true=>mh place (ir cells off v.cells.toList) rest
theorem sR (off:Nat):∀(vs:List Value) (k:Nat) (cs:Array Value),off+k+vs.length≤cs.size→
  (vs.zipIdx k).foldl (fun cs (p:Value×Nat)=>cs.setIfInBounds (off+p.2) p.1) cs=(ir cs.toList (off+k) vs).toArray
 | [],k,cs,h=>by simp [ir]
 |v::r,k,cs,h=>by
  simp only [List.length_cons]at h;rw [List.zipIdx_cons,List.foldl_cons,sR off r (k+1) _ (by simp;omega)];congr 1;have hi:off+k<cs.toList.length:=by simp;omega
  simp only [ir,Array.toList_setIfInBounds,List.length_cons,List.set_eq_take_append_cons_drop,hi,if_true];have hlen:(cs.toList.take (off+k)).length=off+k:=by rw [List.length_take];omega
  rw [show off+(k+1)=(cs.toList.take (off+k)).length+1 from by omega,List.take_length_add_append,show(cs.toList.take (off+k)).length+1+r.length=(cs.toList.take (off+k)).length+(1+r.length)from by omega,List.drop_length_add_append];rw [Nat.add_comm 1 r.length];simp only [List.drop_succ_cons,List.drop_drop,List.take_succ_cons,List.take_zero,List.append_assoc,List.cons_append,List.nil_append];rw [show off+k+1+r.length=off+k+(r.length+1)from by omega]
theorem iq {place:Nat→Option (Nat×Nat)}:∀ {ps:List (Nat×Value)} {cells out:List Value},mh place cells ps=some out→Instr.fill place cells.toArray ps=some out.toArray
 | [],cells,out,h=>by simp [mh]at h;simp [Instr.fill,h]
 |(i,v)::rest,cells,out,h=>by
  simp only [mh]at h;split at h
  ·cases h
  ·rename_i off size hp;split at h
   ·cases h
   ·rename_i hb;have hb1:v.cells.toList.length=size:=Nat.eq_of_beq_eq_true (Bool.and_eq_true_iff.1 hb).1;have hb2:off+size≤cells.length:=Nat.le_of_ble_eq_true (Bool.and_eq_true_iff.1 hb).2;have h1:v.cells.size=size:=by rw [←hb1];simp
    simp only [Instr.fill,hp];rw [if_neg (by simp [h1];omega)];have:=iq h;rw [←this];congr 1;have hf:=sR off v.cells.toList 0 cells.toArray (by simp [h1];omega);simp only [Nat.add_zero]at hf;rw [←hf, ←Array.foldl_toList];simp [Array.toList_zipIdx]
def lr (z:List Value):Nat→List Value
 |0=>[]
 |n+1=>z++lr z n
theorem tv (z:List Value) (hz:0<z.length):∀(n i:Nat),i<n*z.length→(lr z n)[i]? =z[i%z.length]?
 |0,i,h=>by simp at h
 |n+1,i,h=>by
  simp only [lr];rw [Nat.succ_mul]at h;by_cases hi:i<z.length
  ·rw [List.getElem?_append_left hi,Nat.mod_eq_of_lt hi]
  ·rw [List.getElem?_append_right (by omega),tv z hz n _ (by omega),Nat.mod_eq_sub_mod (a:=i) (by omega)]
theorem tM (z:List Value):∀n,(lr z n).length=n*z.length
 |0=>by simp [lr]
 |n+1=>by simp [lr,tM z n,Nat.succ_mul];omega
theorem AF (z:Array Value) (n:Nat) (hz:0<z.size):(Array.range (n*z.size)).map (z[·%z.size]!)=(lr z.toList n).toArray:=by
 apply Array.ext_getElem?;intro i;by_cases hi:i<n*z.size
 ·have h1:i%z.size<z.size:=Nat.mod_lt _ hz;rw [Array.getElem?_map,Array.getElem?_range,if_pos hi];simp only [Option.map_some,List.getElem?_toArray];rw [tv _ (by simpa using hz) _ _ (by simpa using hi)];simp [getElem!_pos,h1]
 ·rw [Array.getElem?_eq_none (by simp;omega),Array.getElem?_eq_none (by simp [tM];omega)]
def bh (p:Option Addr) (l m s:Nat):Option Addr:=if m=l then p else p.map (·.add (l*s))
def JG (e:cR) (x:Option Operand) (d:Nat):Option Int:=match x with
 |none=>some (d:Int)
 |some o=>match ev e o with
  |some (.int _ n)=>some n
  |_=>none
def KT:Value→Bool
 | .func (.func _) _ _=>true
 | .iface _ _=>true
 |_=>false
def dA {α:Type}:List α→Nat→Option α
 | [],_=>none
 |x::_,0=>some x
 |_::r,n+1=>dA r n
theorem cI {α:Type}:∀(l:List α) (i:Nat),dA l i=l[i]?
 | [],_=>by simp [dA]
 |_::_,0=>by simp [dA]
 |_::r,n+1=>by simp [dA,cI r n]
def mM (l:List (Nat×Nat×Bool)) (i:Nat):Option (Nat×Nat):=match dA l i with
 |some x=>some (x.1,x.2.1+1)
 |none=>none
def ke (s i:Nat):Option (Nat×Nat):=some (i*s,s)
theorem vM (l:List (Nat×Nat×Bool)) (i:Nat):mM l i=(l.map fun x=>(x.1,x.2.1+1))[i]? :=by
 simp only [mM,cI,List.getElem?_map];cases l[i]? <;>rfl
def gZ (C:gf) (b:Builtin) (ats:List TypeId) (t:TypeId) (consts:Array Bool) (args:List Value) (w:World) (K:Value→World→Prop):Prop:=
 match b with
 | .len=>match ats,args with
  | [u],[.string s]=>match(C.ty u).isStr with |true=>K (.int .i64 s.size) w |false=>False
  | [u],[.slice _ n _]=>match(C.ty u).isSlc with |true=>K (.int .i64 n) w |false=>False
  |_,args=>nA C.P (Go.Builtin.len_ ats.toArray t args.toArray) (C.ty t).rs w K
 | .append=>nA C.P (Go.Builtin.append_ ats.toArray t args.toArray) (C.ty t).rs w K
 | .cap=>nA C.P (Go.Builtin.cap_ ats.toArray t args.toArray) (C.ty t).rs w K
 | .copy=>nA C.P (Go.Builtin.copy_ ats.toArray t args.toArray) (C.ty t).rs w K
 | .delete=>nA C.P (Go.Builtin.delete_ ats.toArray t args.toArray) (C.ty t).rs w K
 | .clear=>nA C.P (Go.Builtin.clear_ ats.toArray t args.toArray) (C.ty t).rs w K
 | .max=>nA C.P (Go.Builtin.max_ ats.toArray t args.toArray) (C.ty t).rs w K
 | .min=>nA C.P (Go.Builtin.min_ ats.toArray t args.toArray) (C.ty t).rs w K
 | .unsafeSliceData=>nA C.P (Go.Builtin.unsafeSliceData_ ats.toArray t args.toArray) (C.ty t).rs w K
 | .unsafeString=>nA C.P (Go.Builtin.unsafeString_ ats.toArray t args.toArray) (C.ty t).rs w K
 |_=>False
theorem qU {C:gf} (hC:C.Ok) {b:Builtin} {ats:List TypeId} {t:TypeId} {consts:Array Bool} {args:List Value} {w:World} {K:Value→World→Prop} (h:gZ C b ats t consts args w K):
  ∃v w',(builtin b ats.toArray t consts args.toArray).run C.P w= .ok (.value v) w'∧K v w':=by
 cases b<;>simp only [gZ]at h
 case len=>
  split at h
  ·rename_i u s;split at h
   ·rename_i hu;exact⟨_,_,by simp [builtin,Go.Builtin.len_,run_underlying ((hC.ty u).isStr hu),Result.andThen,goInt],h⟩
   ·exact h.elim
  ·rename_i u _ n _;split at h
   ·rename_i hu;obtain⟨e,hu⟩:=(hC.ty u).isSlc hu;exact⟨_,_,by simp [builtin,Go.Builtin.len_,run_underlying hu,Result.andThen,goInt],h⟩
   ·exact h.elim
  ·obtain⟨v,w',hr,hk⟩:=qL h;exact⟨v,w',by simp [builtin,hr,Result.andThen],hk⟩
 all_goals first
  |exact h.elim
  |(obtain⟨v,w',hr,hk⟩:=qL h;exact⟨v,w',by simp [builtin,hr,Result.andThen],hk⟩)
def eV (C:gf) (o:Oper) (e:cR) (w:World) (K:Value→World→Prop):Prop:=
 match o.op with
 | .move x=>match ev e x with |some v=>K v w |none=>False
 | .assign x=>match ev e x with |some v=>K v w |none=>False
 | .pick c a b=>match ev e c,ev e a,ev e b with
  |some (.bool t),some x,some y=>ac t (K x w) (K y w)
  |_,_,_=>False
 | .alloc t=>match(C.ty t).zero with
  |some z=>∀w',w'=w.alloc (.cells z.cells t)→K (.pointer (some ⟨w.heap.size,0,none⟩)) w'
  |none=>False
 | .box t x=>match ev e x with
  |some v=>∀w',w'=w.alloc (.cells v.cells t)→K (.pointer (some ⟨w.heap.size,0,none⟩)) w'
  |none=>False
 | .build t ps=>match(C.ty t).zero,xL e ps.toList,(C.ty t).offs,(C.ty t).arr with
  |some z,some vs,some l,_=>match mh (mM l) z.cells.toList vs with
   |some out=>K (.agg out.toArray) w
   |none=>False
  |some z,some vs,none,some (_,s)=>match mh (ke s) z.cells.toList vs with
   |some out=>K (.agg out.toArray) w
   |none=>False
  |_,_,_,_=>False
 | .buildSlice t n ps=>match(C.ty t).slc with
  |none=>False
  |some (u,s)=>match(C.ty u).zero,xL e ps.toList with
   |some z,some vs=>match Nat.ble (n*s) 16777216&&Nat.ble 1 s&&Nat.beq z.cells.toList.length s with
    |false=>False
    |true=>match mh (ke s) (lr z.cells.toList n) vs with
     |some out=>∀w',w'=w.alloc (.cells out.toArray u)→K (.slice (some ⟨w.heap.size,0,none⟩) n n) w'
     |none=>False
   |_,_=>False
 | .load t x=>match ev e x with
  |some (.pointer p)=>af p fun ad=>match(C.ty t).agg,(C.ty t).rs,(C.ty t).size with
   |some false,some (.one (.leaf l)),_=>F5 l fun v=>w.cell? ad=some v∧K v w
   |some true,some (.one (.agg ls)),some n=>match Nat.beq n ls.length with
    |true=>AJ ls fun vs=>fu w ad vs 0∧K (.agg vs.toArray) w
    |false=>False
   |_,_,_=>False
  |_=>False
 | .store t x y=>match ev e x,ev e y,(C.ty t).agg,(C.ty t).size with
  |some (.pointer p),some v,some false,some 1=>af p fun ad=>aB w ad (fun w'=>K undef w') [v] 0
  |some (.pointer p),some (.agg cs),some true,some n=>match Nat.beq cs.toList.length n with
   |true=>af p fun ad=>aB w ad (fun w'=>K undef w') cs.toList 0
   |false=>False
  |_,_,_,_=>False
 | .nilCheck x=>match ev e x with
  |some (.pointer p)=>af p fun ad=>K (.pointer (some ad)) w
  |some v=>KT v=true∧K v w
  |none=>False
 | .binOp op t x y _=>match ev e x,ev e y with
  |some a,some b=>oe C op t x y a b o.type w K
  |_,_=>False
 | .unOp op _ x=>match op,ev e x with
  | .not,some (.bool b)=>K (.bool (!b)) w
  | .neg,some (.int k n)=>Ar k (0-n) fun m=>K (.int k m) w
  |_,_=>False
 | .convert s d x=>match ev e x,(C.ty d).intk,(C.ty s).intk with
  |some (.int _ n),some k',some _=>K (.int k' (k'.wrap n)) w
  |some v,_,_=>nA C.P (convert s d v) (C.ty d).rs w K
  |_,_,_=>False
 | .makeInterface t x=>match(C.ty t).conc,ev e x with
  |true,some v=>K (.iface t v) w
  |_,_=>False
 | .makeFunc fn first cap=>match G' e first.toList,G' e cap.toList with
  |some vs,some us=>K (.func fn vs.toArray us.toArray) w
  |_,_=>False
 | .makeMap t r=>match r with
  |none=>nA C.P (Instr.makeMap t none) (C.ty o.type).rs w K
  |some x=>match ev e x with
   |some v=>nA C.P (Instr.makeMap t (some v)) (C.ty o.type).rs w K
   |none=>False
 | .makeSlice t l c=>match ev e l,ev e c with
  |some a,some b=>nA C.P (Instr.makeSlice t a b) (C.ty o.type).rs w K
  |_,_=>False
 | .slice t x lo hi mx=>match ev e x with
  |some (.string s)=>match(C.ty t).isStr,JG e lo 0,JG e hi s.size,mx with
   |true,some l,some h,none=>0≤l∧l≤h∧h≤s.size∧K (.string (s.extract l.toNat h.toNat)) w
   |_,_,_,_=>False
  |some (.slice p n c)=>match(C.ty t).slc,JG e lo 0,JG e hi n,JG e mx c with
   |some (_,s),some l,some h,some m=>0≤l∧l≤h∧(match hi with |none=>True |some _=>h≤m)∧(match mx with |none=>True |some _=>m≤c)∧(match hi,mx with |none,some _=>False |_,_=>True)∧K (.slice (bh p l.toNat m.toNat s) (h.toNat-l.toNat) (m.toNat-l.toNat)) w
   |_,_,_,_=>False
  |_=>False
 | .fieldAddr t x f=>match ev e x,(C.ty t).offs with
  |some (.pointer p),some l=>af p fun ad=>match dA l f with
   |some y=>K (.pointer (some (ad.add y.1))) w
   |none=>False
  |_,_=>False
 | .field t x f=>match ev e x,(C.ty t).offs with
  |some (.agg cs),some l=>match dA l f with
   |some (off,s,true)=>K (.agg ((cs.toList.drop off).take (s+1)).toArray) w
   |some (off,_,false)=>match dA cs.toList off with
    |some v=>K v w
    |none=>False
   |none=>False
  |_,_=>False
 | .indexAddr t x i=>match ev e x,ev e i with
  |some (.slice p n _),some (.int _ j)=>match(C.ty t).slc with
   |some (_,s)=>af p fun ad=>0≤j∧j<n∧K (.pointer (some (ad.add (j.toNat*s)))) w
   |none=>False
  |some (.pointer p),some (.int _ j)=>match(C.ty t).arr with
   |some (n,s)=>af p fun ad=>0≤j∧j<n∧K (.pointer (some (ad.add (j.toNat*s)))) w
   |none=>False
  |_,_=>False
 | .index t x i=>match ev e x,ev e i with
  |some (.string s),some (.int _ j)=>match(C.ty t).isStr with
   |true=>0≤j∧j<s.size∧K (.int .u8 (fJ s j)) w
   |false=>False
  |some a,some b=>nA C.P (Instr.index t a b) (C.ty o.type).rs w K
  |_,_=>False
 | .lookup t m k ok=>match ev e m,ev e k with
  |some a,some b=>nA C.P (Instr.lookup t a b ok) (C.ty o.type).rs w K
  |_,_=>False
 | .mapUpdate t m k x=>match ev e m,ev e k,ev e x with
  |some a,some b,some c=>HM C.P (Instr.mapUpdate t a b c) w K
  |_,_,_=>False
 | .insert t m k x=>match ev e m,ev e k,ev e x with
  |some a,some b,some c=>HM C.P (Instr.mapUpdate t a b c) w K
  |_,_,_=>False
 | .mapEntry t m k=>match ev e m,ev e k with
  |some a,some b=>match(C.ty t).elemSh with
   |some sh=>nA C.P (Instr.mapEntry t a b) (some (.tup [sh,.leaf (.int .i64)])) w K
   |none=>False
  |_,_=>False
 | .entryStore t m s x=>match ev e m,ev e s,ev e x with
  |some a,some b,some c=>HM C.P (Instr.entryStore t a b c) w K
  |_,_,_=>False
 | .range t x=>match ev e x with
  |some a=>nA C.P (Instr.range t a) (some (.one (.leaf .ptr))) w K
  |none=>False
 | .next x s=>match ev e x with
  |some a=>match s with
   |true=>nA C.P (Instr.next a true o.type) (C.ty o.type).rs w K
   |false=>nA C.P (Instr.next a false o.type) (some (.tup [.leaf .bool])) w K∨nA C.P (Instr.next a false o.type) (some (.tup [.leaf .bool,.leaf .any,.leaf .any])) w K
  |none=>False
 | .entry x=>match ev e x with
  |some a=>nA C.P (Instr.entry a) (some (.tup [.leaf .any,.leaf .any])) w K
  |none=>False
 | .typeAssert x xt at_ ok=>match ev e x with
  |some a=>nA C.P (Instr.typeAssert a xt at_ ok) (C.ty o.type).rs w K
  |none=>False
 | .extract x i=>match ev e x with
  |some (.tuple vs)=>match dA vs.toList i with
   |some v=>match C.re with
    |false=>K v w
    |true=>match(C.ty o.type).rs with
     |some (.one (.leaf l))=>F5 l fun u=>v=u∧K u w
     |_=>K v w
   |none=>False
  |_=>False
 | .call c=>match c.callee with
  | .builtin b=>match G' e c.args.toList with
   |some vs=>gZ C b c.argTypes.toList o.type (c.args.map fun | .const _=>true |_=>false) vs w K
   |none=>False
  |_=>False
 |_=>False
theorem eW {P:Program} {t:TypeId} {b:Bool} (h:(P.underlying t).map gO=some b) (w:World):(isAgg t).run P w= .ok b w:=by
 obtain⟨d,hd,rfl⟩:=Option.map_eq_some_iff.1 h;unfold isAgg;cases d<;>simp [run_underlying hd,Result.andThen,gO]
theorem bZ {P:Program} {t:TypeId} {n:Nat} (h:(P.info? t).map (·.size)=some n) (w:World):(sizeOf t).run P w= .ok n w:=by
 obtain⟨d,hd,rfl⟩:=Option.map_eq_some_iff.1 h;simp [sizeOf,typeInfo,hd,Result.andThen]
theorem fR {P:Program} {t:TypeId} {v:Value} (h:(P.info? t).map (·.zero)=some (some v)) (w:World):(zeroValue t).run P w= .ok v w:=by
 obtain⟨d,hd,hz⟩:=Option.map_eq_some_iff.1 h;simp [zeroValue,typeInfo,hd,hz,Result.andThen]
theorem dV {P:Program} {w:World} {a:Addr}:∀(vs:List Value) (i:Nat) (acc:Array Value),fu w a vs i→(loadCellsFrom a i vs.length acc).run P w= .ok (acc++vs.toArray) w
 | [],i,acc,_=>by simp [loadCellsFrom]
 |v::r,i,acc,h=>by
  obtain⟨h1,h2⟩:=h;simp only [List.length_cons,loadCellsFrom,Sem.run_bind,run_load,h1,Result.andThen];rw [dV r (i+1) (acc.push v) h2];simp
theorem gB {P:Program} {a:Addr} {k:World→Prop}:∀(vs:List Value) (i:Nat) (w:World),aB w a k vs i→∃w',(storeCells a vs i).run P w= .ok () w'∧k w'
 | [],i,w,h=>⟨w,by simp [storeCells],h w rfl⟩
 |v::r,i,w,h=>by
  obtain⟨h1,⟨u,h2⟩,h3,h4⟩:=h;obtain⟨w',hr,hk⟩:=gB r (i+1) _ h4;refine⟨w',?_,hk⟩;simp only [storeCells,Sem.run_bind,run_store P w _ v _ h1,h2,h3,Result.andThen];exact hr
theorem fU {p:Option Addr} {k:Addr→Prop} (h:af p k):∃a,p=some a∧k a:=by
 cases p with
 |none=>exact h.elim
 |some a=>exact⟨a,rfl,h⟩
theorem mE {n:Nat} {a:Act} {e:cR} (hS:Sim n a e) {x:Option Operand} {d:Nat} {z:Int} (h:JG e x d=some z):(x=none∧z=d)∨(∃o k,x=some o∧a.eval o= .int k z):=by
 cases x with
 |none=>simp only [JG,Option.some.injEq]at h;exact .inl ⟨rfl,h.symm⟩
 |some o=>
  simp only [JG]at h;split at h
  ·rename_i k m hm;cases h;exact .inr ⟨o,k,rfl,hS.ev hm⟩
  ·cases h
theorem cY {P:Program} {k:IntKind} {i:Int} {y:Nat} {code:BoundsCode} (h0:0≤i) (h1:i≤y) (w:World):(Instr.sliceBound (.int k i) y code).run P w= .ok i.toNat w:=by
 simp [Instr.sliceBound,asIntOf,Result.andThen,h0,h1]
def qS:Op→Bool
 | .store .. =>true
 | .mapUpdate .. =>true
 | .insert .. =>true
 | .entryStore .. =>true
 |_=>false
def jA (P:Program) (o:Oper) (a:Act) (w:World) (K:Value→World→Prop):Prop:=
 (∃v w',(execOp a.eval o).run P w= .ok (.value v) w'∧K v w')∨(qS o.op=true∧∃w',(execOp a.eval o).run P w= .ok .skip w'∧K undef w')
theorem eD {P:Program} {o:Oper} {a:Act} {w:World} {K:Value→World→Prop} {rs:Option Rs} {s:Sem Value} (h:nA P s rs w K) (he:execOp a.eval o=(do pure (.value (←s)))):jA P o a w K:=by
 obtain⟨v,w',hr,hk⟩:=qL h;exact .inl ⟨v,w',by rw [he];simp [hr,Result.andThen],hk⟩
theorem rq {P:Program} {o:Oper} {a:Act} {w:World} {K:Value→World→Prop} {s:Sem Unit} (h:HM P s w K) (hu:qS o.op=true) (he:execOp a.eval o=(do s;pure .skip)):jA P o a w K:=by
 obtain⟨w',hr,hk⟩:=h;exact .inr ⟨hu,w',by rw [he];simp [hr,Result.andThen],hk⟩
theorem rf {P:Program} (t:TypeId) (v:Value) (w:World):(newVar t v).run P w= .ok ⟨w.heap.size,0,none⟩ (w.alloc (.cells v.cells t)):=by
 simp only [newVar,newRow,Sem.run_bind,run_newObj,Result.andThen,Sem.run_pure];rfl
theorem rd {P:Program} (t:TypeId) (c:Array Value) (w:World):(newRow t c).run P w= .ok ⟨w.heap.size,0,none⟩ (w.alloc (.cells c t)):=by
 simp only [newRow,Sem.run_bind,run_newObj,Result.andThen,Sem.run_pure];rfl
section
variable {C:gf} {n:Nat} {a:Act} {e:cR} {w:World} {K:Value→World→Prop}
theorem A9 (hC:C.Ok) (hS:Sim n a e) (o:Oper) {t:TypeId} {x:Operand} {f:Nat} (ho:o.op= .field t x f) (h:eV C o e w K):jA C.P o a w K:=by
 simp only [eV,ho]at h;split at h
 ·rename_i cs l hx hl;obtain⟨fs,hu,hm⟩:=(hC.ty t).offs _ hl;have hex:execOp a.eval o=(do pure (.value (←Instr.field t (a.eval x) f))):=by simp only [execOp,ho]
  rw [cI]at h;have hg:∀y,l[f]? =some y→∃fd,fs[f]? =some fd∧fd.offset=y.1∧(C.P.info? fd.type).map (·.size)=some (y.2.1+1)∧(C.P.underlying fd.type).map gO=some y.2.2:=by
   intro y hy;have:=congrArg (·[f]?) hm;simp only [List.getElem?_map,hy,Option.map_some]at this;obtain⟨fd,hfd,he⟩:=Option.map_eq_some_iff.1 this;simp only [Prod.mk.injEq]at he;exact⟨fd,by simpa using hfd,he.1,he.2.1,he.2.2⟩
  split at h
  ·rename_i off s hy;obtain⟨fd,hfd,h1,h2,h3⟩:=hg _ hy;refine .inl ⟨_,_,?_,h⟩;rw [hex];simp [Instr.field,run_underlying hu,Result.andThen,hfd,hS.ev hx,asAgg,part,eW h3,bZ h2];rw [show fd.offset=off from h1];apply Array.toList_inj.1;simp [Array.toList_extract,List.extract_eq_take_drop]
  ·rename_i off s hy;obtain⟨fd,hfd,h1,h2,h3⟩:=hg _ hy;rw [cI]at h;split at h
   ·rename_i v hv;refine .inl ⟨_,_,?_,h⟩;rw [hex];have hv':cs[fd.offset]? =some v:=by rw [h1];simpa using hv
    simp [Instr.field,run_underlying hu,Result.andThen,hfd,hS.ev hx,asAgg,part,eW h3,hv']
   ·exact h.elim
  ·exact h.elim
 ·exact h.elim
theorem qu (hC:C.Ok) (hS:Sim n a e) (o:Oper) {t:TypeId} {x:Operand} {f:Nat} (ho:o.op= .fieldAddr t x f) (h:eV C o e w K):jA C.P o a w K:=by
 simp only [eV,ho]at h;split at h
 ·rename_i p l hx hl;obtain⟨ad,rfl,h⟩:=fU h;obtain⟨fs,hu,hm⟩:=(hC.ty t).offs _ hl;rw [cI]at h;split at h
  ·rename_i y hy;have:=congrArg (·[f]?) hm;simp only [List.getElem?_map,hy,Option.map_some]at this;obtain⟨fd,hfd,he⟩:=Option.map_eq_some_iff.1 this;simp only [Prod.mk.injEq]at he;obtain⟨h1,h2,h3⟩:=he;refine .inl ⟨_,_,?_,h⟩;have hfd':fs[f]? =some fd:=by simpa using hfd
   simp [execOp,ho,hS.ev hx,Instr.fieldAt,run_underlying hu,Result.andThen,hfd',Instr.sureAddr,fieldPlace,bZ h2,h1]
  ·exact h.elim
 ·exact h.elim
theorem A0 (hC:C.Ok) (hS:Sim n a e) (o:Oper) {t:TypeId} {x:Operand} {lo hi mx:Option Operand} (ho:o.op= .slice t x lo hi mx) (h:eV C o e w K):jA C.P o a w K:=by
 simp only [eV,ho]at h;have hex:execOp a.eval o=(do pure (.value (←Instr.sliceAt t (a.eval x) (lo.map a.eval) (hi.map a.eval) (mx.map a.eval)))):=by simp only [execOp,ho]
 split at h
 ·rename_i s hx;split at h
  ·rename_i l hh hs hl hhh;obtain⟨h0,h1,h2,hk⟩:=h;have hu:=(hC.ty t).isStr hs;refine .inl ⟨_,_,?_,hk⟩;rw [hex,hS.ev hx];rcases mE hS hl with⟨rfl,rfl⟩ |⟨ol,kl,rfl,hel⟩<;>rcases mE hS hhh with⟨rfl,rfl⟩ |⟨oh,kh,rfl,heh⟩
   ·simp [Instr.sliceAt,Instr.slice,run_underlying hu,Result.andThen,Instr.sliceBounds]
   ·simp [Instr.sliceAt,Instr.slice,run_underlying hu,Result.andThen,Instr.sliceBounds,heh,cY (by omega:0≤hh) h2]
   ·simp [Instr.sliceAt,Instr.slice,run_underlying hu,Result.andThen,Instr.sliceBounds,hel,cY h0 h1]
   ·have h3:l≤((hh.toNat:Nat):Int):=by omega
    simp [Instr.sliceAt,Instr.slice,run_underlying hu,Result.andThen,Instr.sliceBounds,heh,cY (by omega:0≤hh) h2,hel,cY h0 h3]
  ·exact h.elim
 ·rename_i p len cap hx;split at h
  ·rename_i et es l hh m hs hl hhh hmm;obtain⟨h0,h1,h2,h3,h4,hk⟩:=h;obtain⟨hu,hsz⟩:=(hC.ty t).slc _ _ hs;refine .inl ⟨_,_,?_,hk⟩;rw [hex,hS.ev hx];have hsz':=bZ hsz w;rcases mE hS hmm with⟨rfl,rfl⟩ |⟨om,km,rfl,hem⟩<;>rcases mE hS hhh with⟨rfl,rfl⟩ |⟨oh,kh,rfl,heh⟩<;>
    rcases mE hS hl with⟨rfl,rfl⟩ |⟨ol,kl,rfl,hel⟩<;>simp only at h2 h3 h4
   ·simp [Instr.sliceAt,Instr.slice,run_underlying hu,Result.andThen,Instr.sliceBounds,hsz',bh]
   ·simp [Instr.sliceAt,Instr.slice,run_underlying hu,Result.andThen,Instr.sliceBounds,hsz',bh,hel,cY h0 h1]
   ·simp [Instr.sliceAt,Instr.slice,run_underlying hu,Result.andThen,Instr.sliceBounds,hsz',bh,heh,cY (by omega:0≤hh) h2]
   ·have h3:l≤((hh.toNat:Nat):Int):=by omega
    simp [Instr.sliceAt,Instr.slice,run_underlying hu,Result.andThen,Instr.sliceBounds,hsz',bh,heh,cY (by omega:0≤hh) h2,hel,cY h0 h3]
   ·have h2':hh≤((m.toNat:Nat):Int):=by omega
    simp [Instr.sliceAt,Instr.slice,run_underlying hu,Result.andThen,Instr.sliceBounds,hsz',bh,hem,cY (by omega:0≤m) h3,heh,cY (by omega:0≤hh) h2']
   ·have h2':hh≤((m.toNat:Nat):Int):=by omega
    have h3':l≤((hh.toNat:Nat):Int):=by omega
    simp [Instr.sliceAt,Instr.slice,run_underlying hu,Result.andThen,Instr.sliceBounds,hsz',bh,hem,cY (by omega:0≤m) h3,heh,cY (by omega:0≤hh) h2',hel,cY h0 h3']
  ·exact h.elim
 ·exact h.elim
theorem kq (hC:C.Ok) (hS:Sim n a e) (o:Oper) (h:eV C o e w K):jA C.P o a w K:=by
 cases ho:o.op;case field t x f=>exact A9 hC hS o ho h
 case fieldAddr t x f=>exact qu hC hS o ho h
 case slice t x lo hi mx=>exact A0 hC hS o ho h
 all_goals simp only [eV,ho]at h
 case move x=>
  split at h
  ·rename_i v hv;exact .inl ⟨v,w,by simp [execOp,ho,hS.ev hv],h⟩
  ·exact h.elim
 case assign x=>
  split at h
  ·rename_i v hv;exact .inl ⟨v,w,by simp [execOp,ho,hS.ev hv],h⟩
  ·exact h.elim
 case pick c x y=>
  split at h
  ·rename_i b u v hc hx hy;cases b
   ·exact .inl ⟨v,w,by simp [execOp,ho,hS.ev hc,hS.ev hy,asBool,Result.andThen],h⟩
   ·exact .inl ⟨u,w,by simp [execOp,ho,hS.ev hc,hS.ev hx,asBool,Result.andThen],h⟩
  ·exact h.elim
 case alloc t=>
  split at h
  ·rename_i z hz;exact .inl ⟨_,_,by simp [execOp,ho,Instr.alloc,fR ((hC.ty t).zero _ hz),rf,Result.andThen],h _ rfl⟩
  ·exact h.elim
 case box t x=>
  split at h
  ·rename_i v hv;exact .inl ⟨_,_,by simp [execOp,ho,Instr.box,hS.ev hv,rf,Result.andThen],h _ rfl⟩
  ·exact h.elim
 case build t ps=>
  have hps:∀vs,xL e ps.toList=some vs→(ps.map fun(i,x)=>(i,a.eval x))=vs.toArray:=fun vs hv=>by
   apply Array.toList_inj.1;simp [←hS.evps hv]
  split at h
  ·rename_i arrv z vs l hz hv hl;split at h
   ·rename_i out hout;obtain⟨fs,hu,hm⟩:=(hC.ty t).offs _ hl;have hz':=fR ((hC.ty t).zero _ hz) w;have hplaces:∀(fl:List Field) (ll:List (Nat×Nat×Bool)),fl.map (fun f=>(f.offset,(C.P.info? f.type).map (·.size),(C.P.underlying f.type).map gO))=ll.map (fun x=>(x.1,some (x.2.1+1),some x.2.2))→
      (fl.mapM fun f=>do pure (f.offset, ←sizeOf f.type):Sem (List (Nat×Nat))).run C.P w= .ok (ll.map fun x=>(x.1,x.2.1+1)) w:=by
     intro fl;induction fl with
     |nil=>intro ll h;cases ll with |nil=>simp |cons _ _=>simp at h
     |cons f fl ih=>
      intro ll h;cases ll with
      |nil=>simp at h
      |cons y ll=>
       simp only [List.map_cons,List.cons.injEq,Prod.mk.injEq]at h;simp only [List.mapM_cons,Sem.run_bind,Sem.run_pure,Result.andThen,bZ h.1.2.1,ih ll h.2,h.1.1,List.map_cons]
    have hpl:=hplaces fs.toList l hm;have hfill:=iq hout;refine .inl ⟨_,_,?_,h⟩;have hfs:(fs.mapM fun f=>do pure (f.offset, ←sizeOf f.type):Sem (Array (Nat×Nat))).run C.P w= .ok (l.map fun x=>(x.1,x.2.1+1)).toArray w:=by
     rw [Array.mapM_eq_mapM_toList];simp only [Sem.run_map,hpl,Result.andThen]
    have hplace:(fun i=>(l.map fun x=>(x.1,x.2.1+1)).toArray[i]?)=mM l:=by
     funext i;rw [vM];simp
    simp only [Array.toArray_toList]at hfill;simp only [execOp,ho,Instr.build,Sem.run_bind,hz',Result.andThen,run_underlying hu,hfs,hps vs hv];rw [hplace,hfill];rfl
   ·exact h.elim
  ·rename_i z vs n s hz hv hoffs harr;split at h
   ·rename_i out hout;obtain⟨el,hu,hsz⟩:=(hC.ty t).arr _ _ harr;have hz':=fR ((hC.ty t).zero _ hz) w;have hfill:=iq hout;refine .inl ⟨_,_,?_,h⟩;simp only [Array.toArray_toList]at hfill;simp only [execOp,ho,Instr.build,hz',Result.andThen,run_underlying hu,bZ hsz,hps vs hv,Sem.run_bind];rw [show(fun i=>some (i*s,s))=ke s from rfl,hfill];rfl
   ·exact h.elim
  ·exact h.elim
 case buildSlice t m ps=>
  have hps:∀vs,xL e ps.toList=some vs→(ps.map fun(i,x)=>(i,a.eval x))=vs.toArray:=fun vs hv=>by
   apply Array.toList_inj.1;simp [←hS.evps hv]
  split at h
  ·exact h.elim
  ·rename_i u s hs;split at h
   ·rename_i z vs hz hv;split at h
    ·exact h.elim
    ·rename_i hb;simp only [Bool.and_eq_true]at hb;have hb1:m*s≤16777216:=Nat.le_of_ble_eq_true hb.1.1;have hb2:1≤s:=Nat.le_of_ble_eq_true hb.1.2;have hb3:z.cells.toList.length=s:=Nat.eq_of_beq_eq_true hb.2;split at h
     ·rename_i out hout;obtain⟨hu,hsz⟩:=(hC.ty t).slc _ _ hs;have hz':=fR ((hC.ty u).zero _ hz) w;have hfill:=iq hout;have hzs:z.cells.size=s:=by simpa using hb3
      have hr:=AF z.cells m (by omega);rw [hzs]at hr;refine .inl ⟨_,_,?_,h _ rfl⟩;have hnot:¬m*s>2^24:=by omega
      have hcells:((Array.range (m*s)).map (z.cells[·%z.cells.size]!))=(lr z.cells.toList m).toArray:=by rw [hzs];exact hr
      by_cases h0:m*s=0
      ·have hm0:m=0:=by rcases Nat.mul_eq_zero.1 h0 with h |h<;>omega
       subst hm0;simp only [lr]at hfill;have hnil:(Array.map (fun x=>(#[]:Array Value)[x%(#[]:Array Value).size]!) (Array.range (0*s)))=([]:List Value).toArray:=by simp
       simp only [execOp,ho,Instr.buildSlice,Sem.run_bind,run_underlying hu,Result.andThen,bZ hsz,if_neg hnot,Sem.run_pure,if_pos h0,hps vs hv];rw [show(fun i=>some (i*s,s))=ke s from rfl,hnil,hfill];simp [rd,Result.andThen]
      ·simp only [execOp,ho,Instr.buildSlice,Sem.run_bind,run_underlying hu,Result.andThen,bZ hsz,if_neg hnot,Sem.run_pure,if_neg h0,hz',hps vs hv];rw [show(fun i=>some (i*s,s))=ke s from rfl,hcells,hfill];simp [rd,Result.andThen]
     ·exact h.elim
   ·exact h.elim
 case load t x=>
  split at h
  ·rename_i p hx;obtain⟨ad,rfl,h⟩:=fU h;split at h
   ·rename_i l _ hag _;obtain⟨v,hv,hk⟩:=kW h;exact .inl ⟨v,w,by simp [execOp,ho,hS.ev hx,Instr.loadAt,Instr.sureAddr,loadVar,eW ((hC.ty t).agg _ hag),hv,Result.andThen],hk⟩
   ·rename_i ls m hag _ hsz;split at h
    ·rename_i hb;have hb:m=ls.length:=Nat.eq_of_beq_eq_true hb;obtain⟨vs,hl,hc,hk⟩:=kr h;have hlc:=dV (P:=C.P) vs 0 #[] hc;rw [hl, ←hb]at hlc;refine .inl ⟨_,w,?_,hk⟩;simp [execOp,ho,hS.ev hx,Instr.loadAt,Instr.sureAddr,loadVar,eW ((hC.ty t).agg _ hag),bZ ((hC.ty t).size _ hsz),loadCells,hlc,Result.andThen]
    ·exact h.elim
   ·exact h.elim
  ·exact h.elim
 case store t x y=>
  split at h
  ·rename_i p v hx hy hag hsz;obtain⟨ad,rfl,h⟩:=fU h;have h1:v.oneCell'=true:=h.1;obtain⟨w',hr,hk⟩:=gB (P:=C.P) [v] 0 w h;have hc:v.cells= #[v]:=by cases v<;>first |rfl |simp [Value.oneCell']at h1
   refine .inr ⟨by rw [ho];rfl,w',?_,hk⟩;simp [execOp,ho,hS.ev hx,hS.ev hy,Instr.storeAt,Instr.sureAddr,storeVar,bZ ((hC.ty t).size _ hsz),hc,hr,Result.andThen]
  ·rename_i p cs m hx hy hag hsz;split at h
   ·rename_i hb;have hb:cs.toList.length=m:=Nat.eq_of_beq_eq_true hb;obtain⟨ad,rfl,h⟩:=fU h;obtain⟨w',hr,hk⟩:=gB (P:=C.P) cs.toList 0 w h;refine .inr ⟨by rw [ho];rfl,w',?_,hk⟩;have hb':cs.size=m:=by simpa using hb
    simp [execOp,ho,hS.ev hx,hS.ev hy,Instr.storeAt,Instr.sureAddr,storeVar,bZ ((hC.ty t).size _ hsz),Value.cells,hb',hr,Result.andThen]
   ·exact h.elim
  ·exact h.elim
 case nilCheck x=>
  split at h
  ·rename_i p hx;obtain⟨ad,rfl,h⟩:=fU h;exact .inl ⟨_,w,by simp [execOp,ho,hS.ev hx],h⟩
  ·rename_i v _ hx;obtain⟨h1,h⟩:=h;refine .inl ⟨v,w,?_,h⟩;have hv:=hS.ev hx;cases v with
   |func fn f1 c1=>cases fn with
    |func g=>simp [execOp,ho,hv]
    |_=>exact absurd h1 (by simp [KT])
   |iface t u=>simp [execOp,ho,hv]
   |_=>exact absurd h1 (by simp [KT])
  ·exact h.elim
 case binOp op t x y yt=>
  split at h
  ·rename_i u v hx hy;obtain⟨r,w',hr,hk⟩:=AZ hC h;exact .inl ⟨r,w',by simp only [execOp,ho,hS.ev hx,hS.ev hy];rw [Sem.run_bind,hr];rfl,hk⟩
  ·exact h.elim
 case unOp op t x=>
  split at h
  ·rename_i b hx;exact .inl ⟨_,w,by simp [execOp,ho,hS.ev hx,Op.unary,Result.andThen],h⟩
  ·rename_i k m hx;exact .inl ⟨.int k (k.wrap (0-m)),w,by simp [execOp,ho,hS.ev hx,Op.unary,Op.intArith,Result.andThen],h⟩
  ·exact h.elim
 case convert s d x=>
  split at h
  ·rename_i k m k' ks hx hd hs;exact .inl ⟨_,w,by simp [execOp,ho,hS.ev hx,convert,run_underlying ((hC.ty d).intk _ hd),run_underlying ((hC.ty s).intk _ hs),Conv.intToInt,Result.andThen],h⟩
  ·rename_i v _ _ hx _;exact eD h (by simp only [execOp,ho,hS.ev hx])
  ·exact h.elim
 case makeInterface t x=>
  split at h
  ·rename_i v hc hx;obtain⟨d,hu,hd⟩:=(hC.ty t).conc hc;refine .inl ⟨_,w,?_,h⟩;simp only [execOp,ho,hS.ev hx,Instr.makeInterface,Sem.run_bind,run_underlying hu,Result.andThen];cases d<;>first |rfl |exact absurd rfl (hd _)
  ·exact h.elim
 case makeFunc fn first cap=>
  split at h
  ·rename_i vs us hv hu;refine .inl ⟨_,w,?_,h⟩;have h1:first.map a.eval=vs.toArray:=by apply Array.toList_inj.1;simp [←hS.evs hv]
   have h2:cap.map a.eval=us.toArray:=by apply Array.toList_inj.1;simp [←hS.evs hu]
   simp [execOp,ho,Instr.makeFunc,h1,h2,Result.andThen]
  ·exact h.elim
 case makeMap t r=>
  split at h
  ·exact eD h (by simp only [execOp,ho,Option.map_none])
  ·rename_i x;split at h
   ·rename_i v hx;exact eD h (by simp only [execOp,ho,Option.map_some,hS.ev hx])
   ·exact h.elim
 case makeSlice t l c=>
  split at h
  ·rename_i u v hx hy;exact eD h (by simp only [execOp,ho,hS.ev hx,hS.ev hy])
  ·exact h.elim
 case indexAddr t x i=>
  split at h
  ·rename_i p len cap k j hx hi;split at h
   ·rename_i et s hs;obtain⟨ad,rfl,h0,h1,hk⟩:=fU h;obtain⟨hu,hsz⟩:=(hC.ty t).slc _ _ hs;exact .inl ⟨_,w,by simp [execOp,ho,hS.ev hx,hS.ev hi,Instr.indexAt,asIntOf,run_underlying hu,Result.andThen,h0,h1,bZ hsz],hk⟩
   ·exact h.elim
  ·rename_i p k j hx hi;split at h
   ·rename_i len s hs;obtain⟨ad,rfl,h0,h1,hk⟩:=fU h;obtain⟨el,hu,hsz⟩:=(hC.ty t).arr _ _ hs;exact .inl ⟨_,w,by simp [execOp,ho,hS.ev hx,hS.ev hi,Instr.indexAt,Instr.sureAddr,asIntOf,run_underlying hu,Result.andThen,h0,h1,bZ hsz],hk⟩
   ·exact h.elim
  ·exact h.elim
 case index t x i=>
  split at h
  ·rename_i s k j hx hi;split at h
   ·rename_i hs;obtain⟨h0,h1,hk⟩:=h;refine .inl ⟨_,w,?_,hk⟩;have hlt:j.toNat<s.size:=by omega
    have hlt':j.toNat<s.data.size:=hlt;have hg:s[j.toNat]? =some (s[j.toNat]'hlt):=by simp [hlt]
    have hb:fJ s j=((s[j.toNat]'hlt).toNat:Int):=by
     unfold fJ;rw [Array.getElem?_eq_getElem hlt'];rfl
    simp [execOp,ho,hS.ev hx,hS.ev hi,Instr.index,asIntOf,run_underlying ((hC.ty t).isStr hs),Result.andThen,h0,hg,hb]
   ·exact h.elim
  ·rename_i u v _ hx hi;exact eD h (by simp only [execOp,ho,hS.ev hx,hS.ev hi])
  ·exact h.elim
 case lookup t m k ok=>
  split at h
  ·rename_i u v hx hy;exact eD h (by simp only [execOp,ho,hS.ev hx,hS.ev hy])
  ·exact h.elim
 case mapUpdate t m k x=>
  split at h
  ·rename_i u v z hx hy hz;exact rq h (by rw [ho];rfl) (by simp only [execOp,ho,hS.ev hx,hS.ev hy,hS.ev hz])
  ·exact h.elim
 case insert t m k x=>
  split at h
  ·rename_i u v z hx hy hz;exact rq h (by rw [ho];rfl) (by simp only [execOp,ho,hS.ev hx,hS.ev hy,hS.ev hz])
  ·exact h.elim
 case mapEntry t m k=>
  split at h
  ·rename_i u v hx hy;split at h
   ·exact eD h (by simp only [execOp,ho,hS.ev hx,hS.ev hy])
   ·exact h.elim
  ·exact h.elim
 case entryStore t m k x=>
  split at h
  ·rename_i u v z hx hy hz;exact rq h (by rw [ho];rfl) (by simp only [execOp,ho,hS.ev hx,hS.ev hy,hS.ev hz])
  ·exact h.elim
 case range t x=>
  split at h
  ·rename_i u hx;exact eD h (by simp only [execOp,ho,hS.ev hx])
  ·exact h.elim
 case next x s=>
  split at h
  ·rename_i u hx;cases s with
   |true=>exact eD h (by simp only [execOp,ho,hS.ev hx])
   |false=>
    rcases h with h |h
    ·exact eD h (by simp only [execOp,ho,hS.ev hx])
    ·exact eD h (by simp only [execOp,ho,hS.ev hx])
  ·exact h.elim
 case entry x=>
  split at h
  ·rename_i u hx;exact eD h (by simp only [execOp,ho,hS.ev hx])
  ·exact h.elim
 case typeAssert x xt at_ ok=>
  split at h
  ·rename_i u hx;exact eD h (by simp only [execOp,ho,hS.ev hx])
  ·exact h.elim
 case extract x i=>
  split at h
  ·rename_i vs hx;rw [cI]at h;split at h
   ·rename_i v hv;have hv':vs[i]? =some v:=by simpa using hv
    have h:K v w:=by
     split at h
     ·exact h
     ·split at h
      ·obtain⟨u,rfl,h⟩:=kW h;exact h
      ·exact h
    exact .inl ⟨_,w,by simp [execOp,ho,hS.ev hx,Instr.extract,hv',Result.andThen],h⟩
   ·exact h.elim
  ·exact h.elim
 case call c=>
  split at h
  ·rename_i b hb;split at h
   ·rename_i vs hv;obtain⟨v,w',hr,hk⟩:=qU hC h;refine .inl ⟨v,w',?_,hk⟩;have hargs:c.args.map a.eval=vs.toArray:=by apply Array.toList_inj.1;simp [←hS.evs hv]
    have hat:c.argTypes=c.argTypes.toList.toArray:=by simp
    simp only [execOp,ho,resolve,hb,hargs,Sem.run_bind,Sem.run_pure,Result.andThen,invoke];rw [hat];exact hr
   ·exact h.elim
  ·exact h.elim
end
def JC (C:gf) (g:FuncId) (args:Array Value) (rs:Rs) (w:World) (K:Value→World→Prop):Prop:=
 Calls C.P g args w fun e w'=>Oi rs fun v=>e= .returned v∧K v w'
def Cw (g:FuncId) (args:Array Value):Sem Value:=do
 match←callFunc g args with
 | .value v=>pure v
 |_=>stuck ""
def bH (C:gf) (f:Value) (args:List Value) (w:World) (R:Ending→World→Prop):Prop:=
 match f with
 | .func (.func g) first cap=>match C.fns g with
  |true=>Calls C.P g (first.toList++(args++cap.toList)).toArray w R
  |false=>∃v w',(Cw g (first.toList++(args++cap.toList)).toArray).run C.P w= .ok v w'∧R (.returned v) w'
 |_=>False
def CX (C:gf) (f:Value) (args:List Value) (rs:Rs) (w:World) (K:Value→World→Prop):Prop:=
 bH C f args w fun e w'=>Oi rs fun v=>e= .returned v∧K v w'
def C9 (C:gf) (o:Oper) (e:cR) (w:World) (K:Value→World→Prop):Prop:=
 match o.op with
 | .call c=>match c.callee with
  | .builtin _=>eV C o e w K
  | .value f=>match ev e f,G' e c.args.toList,(C.ty o.type).rs with
   |some fv,some vs,some rs=>CX C fv vs rs w K
   |_,_,_=>False
  | .invoke r name=>match ev e r,G' e c.args.toList,(C.ty o.type).rs with
   |some rv,some vs,some rs=>∃g as,(callMethod rv name vs.toArray).run C.P w= .ok (.enter g as) w∧JC C g as rs w K
   |_,_,_=>False
 |_=>eV C o e w K
section
variable {C:gf} {n:Nat} {a:Act} {e:cR} {w:World} {K:Value→World→Prop} {next:Act→World→Prop} {Q:Exit→Act→World→Prop}
theorem qx {P:Program} {f:FuncId} {fn:Func} {c:Code} (hf:P.funcs[f]? =some fn) (hname:(fn.name== "runtime.NumGoroutine")=false) (hb:fn.body=some c) (args:Array Value) (w:World):
  (callFunc f args).run P w= .ok (.enter f args) w:=by
 have h1:fn.name≠ "runtime.NumGoroutine" :=by simpa using hname
 simp [callFunc,hf,h1,hb,Result.andThen]
theorem lH {o:Oper} (h:jA C.P o a w K) (hn:∀v w',K v w'→next (a.put o.dst v) w'):o.wp C.P a w next Q:=by
 rcases h with⟨v,w',hr,hk⟩ |⟨_,w',hr,hk⟩
 ·simp only [Oper.wp,hr,Oper.upon_value];exact hn _ _ hk
 ·simp only [Oper.wp,hr,Oper.upon_skip];exact hn _ _ hk
theorem o_ {o:Oper} {g:FuncId} {as:Array Value} {rs:Rs} (hr:(execOp a.eval o).run C.P w= .ok (.enter g as) w) (h:JC C g as rs w K)
  (hn:∀v w',K v w'→next (a.put o.dst v) w'):o.wp C.P a w next Q:=by
 simp only [Oper.wp,hr,Oper.upon_enter];refine Calls.mono h fun e' w' hx=>?_;obtain⟨v,rfl,hk⟩:=uU hx;exact hn _ _ hk
theorem yd (hC:C.Ok) (hS:Sim n a e) (o:Oper) (h:C9 C o e w K) (hn:∀v w',K v w'→next (a.put o.dst v) w'):o.wp C.P a w next Q:=by
 unfold C9 at h;split at h
 ·rename_i c ho;split at h
  ·exact lH (kq hC hS o h) hn
  ·rename_i f hf;split at h
   ·rename_i fv vs rs hfv hvs hrs;have hargs:c.args.map a.eval=vs.toArray:=by apply Array.toList_inj.1;simp [←hS.evs hvs]
    unfold CX bH at h;split at h
    ·rename_i g first cap;have hfe:=hS.ev hfv;have harr:first++vs.toArray++cap=(first.toList++(vs++cap.toList)).toArray:=by
      apply Array.toList_inj.1;simp
     have hx:execOp a.eval o=callFunc g (first.toList++(vs++cap.toList)).toArray:=by
      rw [←harr];simp only [execOp,ho,resolve,hf,hargs,hfe,Deferred.ofValue,pure_bind,invoke]
     split at h
     ·rename_i hfn;obtain⟨fn,c',h1,h2,h3⟩:=hC.fns g hfn;exact o_ (by rw [hx];exact qx h1 h2 h3 _ w) h hn
     ·obtain⟨v0,w',hr,hx'⟩:=h;obtain⟨v,he,hk⟩:=uU hx';cases he;refine lH (.inl ⟨v0,w',?_,hk⟩) hn;rw [hx];unfold Cw at hr;rw [Sem.run_bind]at hr;generalize hq:(callFunc g (first.toList++(vs++cap.toList)).toArray).run C.P w=q at hr⊢;cases q with
      |halt x y=>simp [Result.andThen]at hr
      |ok nx y=>
       cases nx<;>simp [Result.andThen]at hr
       obtain⟨rfl,rfl⟩:=hr;rfl
    ·exact h.elim
   ·exact h.elim
  ·rename_i r name hf;split at h
   ·rename_i rv vs rs hrv hvs hrs;have hargs:c.args.map a.eval=vs.toArray:=by apply Array.toList_inj.1;simp [←hS.evs hvs]
    obtain⟨g,as,hr,h⟩:=h;refine o_ ?_ h hn;rw [←hr];have hx:execOp a.eval o=callMethod rv name vs.toArray:=by
     simp only [execOp,ho,resolve,hf,hargs,hS.ev hrv,pure_bind,invoke];simp
    rw [hx]
   ·exact h.elim
 ·exact lH (kq hC hS o h) hn
end
def qJ (all:List Oper) (g:Option (Nat×Bool)) (e:cR) (yes no:cR→Prop):Prop:=match g with
 |none=>yes e
 |some (j,want)=>match dA all j with
  |none=>False
  |some oj=>match oj.dst with
   |none=>False
   |some d=>match e.get d with
    |some (.bool b)=>match want with
     |true=>ac b (yes ((d,.bool true)::e)) (no ((d,.bool false)::e))
     |false=>ac b (no ((d,.bool true)::e)) (yes ((d,.bool false)::e))
    |some (.tuple _)=>no e
    |_=>False
theorem Sim.again {n:Nat} {a:Act} {e:cR} (h:Sim n a e) {d:Nat} {v:Value} (hd:e.get d=some v):Sim n a ((d,v)::e):=by
 refine⟨h.size,h.defers,fun t u hu=>?_⟩;simp only [cR.get]at hu;split at hu
 ·rename_i heq;have:d=t:=Nat.eq_of_beq_eq_true heq;subst this;cases hu;exact h.get _ _ hd
 ·exact h.get _ _ hu
structure iR (n:Nat) (ds:List Nat) (b:cR) (a:Act) (e:cR):Prop where
 sim:Sim n a e
 keep:∀t,t∉ds→e.get t=b.get t
theorem iR.again {n:Nat} {ds:List Nat} {b:cR} {a:Act} {e:cR} (h:iR n ds b a e) {d:Nat} {v:Value} (hd:e.get d=some v):iR n ds b a ((d,v)::e):=by
 refine⟨h.sim.again hd,fun t ht=>?_⟩;simp only [cR.get];split
 ·rename_i heq;have:d=t:=Nat.eq_of_beq_eq_true heq;subst this;rw [←h.keep d ht,hd]
 ·exact h.keep t ht
theorem iR.put {n:Nat} {ds:List Nat} {b:cR} {a:Act} {e:cR} (h:iR n ds b a e) (d:Option Nat) (v:Value) (hd:∀t,d=some t→t<n∧t∈ds):iR n ds b (a.put d v) (e.put d v):=by
 refine⟨h.sim.put d v fun t ht=>(hd t ht).1,fun t ht=>?_⟩;cases d with
 |none=>exact h.keep t ht
 |some d=>
  simp only [cR.put,cR.get];split
  ·rename_i heq;have:d=t:=Nat.eq_of_beq_eq_true heq;subst this;exact absurd (hd d rfl).2 ht
  ·exact h.keep t ht
theorem nB {n:Nat} {ds:List Nat} {b0:cR} {a:Act} {e:cR} (hS:iR n ds b0 a e) {ops:Array Oper} {o:Oper} {yes no:cR→Prop} (h:qJ ops.toList o.guard e yes no):
  (Region.wanted o (yielded ops a.tmps)=true∧∃e',iR n ds b0 a e'∧yes e')∨(Region.wanted o (yielded ops a.tmps)=false∧∃e',iR n ds b0 a e'∧no e'):=by
 unfold qJ at h;split at h
 ·rename_i hg;exact .inl ⟨by simp [Region.wanted,hg],e,hS,h⟩
 ·rename_i j want hg;rw [cI]at h;split at h
  ·exact h.elim
  ·rename_i oj hj;have hj':ops[j]? =some oj:=by simpa using hj
   split at h
   ·exact h.elim
   ·rename_i d hd;split at h
    ·rename_i b hb;have hy:yielded ops a.tmps j=some b:=by simp [yielded,hj',hd,hS.sim.get _ _ hb]
     have hw:Region.wanted o (yielded ops a.tmps)=(b==want):=by
      simp only [Region.wanted,hg,hy];cases b<;>cases want<;>rfl
     rw [hw];cases want<;>cases b<;>simp only [ac]at h
     ·exact .inl ⟨rfl,_,hS.again hb,h⟩
     ·exact .inr ⟨rfl,_,hS.again hb,h⟩
     ·exact .inr ⟨rfl,_,hS.again hb,h⟩
     ·exact .inl ⟨rfl,_,hS.again hb,h⟩
    ·rename_i vs hb;have hy:yielded ops a.tmps j=none:=by simp [yielded,hj',hd,hS.sim.get _ _ hb]
     exact .inr ⟨by simp [Region.wanted,hg,hy],e,hS,h⟩
    ·exact h.elim
def nV (C:gf) (all:List Oper):List Oper→cR→World→(cR→World→Prop)→Prop
 | [],e,w,K=>K e w
 |o::r,e,w,K=>qJ all o.guard e (fun e'=>C9 C o e' w fun v w'=>nV C all r (e'.put o.dst v) w' K) (fun e'=>nV C all r (e'.put o.dst undef) w K)
def nE (n:Nat) (ops:List Oper):Bool:=ops.all fun o=>match o.dst with
 |some d=>Nat.blt d n
 |none=>true
theorem Ap {n:Nat} {ds:List Nat} {ops:List Oper} (h:nE n ops=true) (hds:∀o∈ops,∀d,o.dst=some d→d∈ds) {o:Oper} (ho:o∈ops):∀t,o.dst=some t→t<n∧t∈ds:=by
 intro t ht;have:=List.all_eq_true.1 h o ho;simp only [ht]at this;exact⟨Nat.lt_of_lt_of_le (Nat.lt_succ_self t) (Nat.le_of_ble_eq_true this),hds o ho t ht⟩
theorem nH {C:gf} (hC:C.Ok) {n:Nat} {ds:List Nat} {b:cR} {ops:Array Oper} (hd:nE n ops.toList=true) (hds:∀o∈ops.toList,∀d,o.dst=some d→d∈ds) {K:cR→World→Prop} {Q:Exit→Act→World→Prop}
  (hQ:∀a e w,iR n ds b a e→K e w→Q .normal a w):∀(l:List Oper) (k:Nat) (a:Act) (e:cR) (w:World),ops.toList.drop k=l→iR n ds b a e→nV C ops.toList l e w K→
  wpOps C.P ops Q (List.range' k l.length) a w
 | [],k,a,e,w,hl,hS,h=>hQ a e w hS h
 |o::r,k,a,e,w,hl,hS,h=>by
  have hk:ops[k]? =some o:=by
   have:=congrArg (·[0]?) hl;simpa using this
  have hr:ops.toList.drop (k+1)=r:=by
   rw [←List.drop_drop,hl];rfl
  have hmem:o∈ops.toList:=by
   have:ops.toList[k]? =some o:=by simpa using hk
   exact List.mem_of_getElem? this
  have hdo:=Ap hd hds hmem;simp only [nV]at h;simp only [List.length_cons,List.range'_succ,wpOps,hk];rcases nB hS h with⟨hw,e',hS',h⟩ |⟨hw,e',hS',h⟩
  ·rw [if_pos hw];exact .inl (yd hC hS'.sim o h fun v w' hk'=>nH hC hd hds hQ r (k+1) _ _ w' hr (hS'.put o.dst v hdo) hk')
  ·rw [if_neg (by simp [hw])];exact nH hC hd hds hQ r (k+1) _ _ w hr (hS'.put o.dst undef hdo) h
theorem uv {C:gf} (hC:C.Ok) {n:Nat} {ds:List Nat} {b:cR} {id:Nat} {ops:Array Oper} (hd:nE n ops.toList=true) (hds:∀o∈ops.toList,∀d,o.dst=some d→d∈ds) {K:cR→World→Prop} {Q:Exit→Act→World→Prop}
  (hQ:∀a e w,iR n ds b a e→K e w→Q .normal a w) {a:Act} {e:cR} {w:World} (hS:iR n ds b a e) (h:nV C ops.toList ops.toList e w K):(Code.region id ops false).wp C.P Q a w:=by
 refine wp_region ?_;have:=nH hC hd hds hQ ops.toList 0 a e w (by simp) hS h;rw [List.range_eq_range'];simpa using this
def gQ (C:gf) (o:Oper):Bool:=match o.op with
 | .move _=>true
 | .assign _=>true
 | .pick .. =>true
 | .nilCheck _=>true
 | .fieldAddr .. =>true
 | .field .. =>true
 | .indexAddr .. =>true
 | .extract .. =>true
 | .slice .. =>true
 | .makeFunc .. =>true
 | .makeInterface .. =>true
 | .unOp .. =>true
 | .load .. =>true
 | .binOp .. =>true
 | .build .. =>true
 | .convert s d _=>match(C.ty d).intk,(C.ty s).intk with
  |some _,some _=>true
  |_,_=>false
 | .index t _ _=>(C.ty t).isStr
 | .call c=>match c.callee with
  | .builtin .len=>match c.argTypes.toList with
   | [u]=>(C.ty u).isStr||(C.ty u).isSlc
   |_=>false
  |_=>false
 |_=>false
def ku (x y:Value):Bool:=match x,y with
 | .int ..,.int .. =>true
 | .string _,.string _=>true
 | .bool _,.bool _=>true
 | .pointer _,.pointer none=>true
 | .slice ..,.slice none _ _=>true
 | .map _,.map none=>true
 | .agg _,.agg _=>true
 |_,_=>false
def mH (o:Oper) (e:cR):Bool:=match o.op with
 | .load .. =>false
 | .binOp _ _ x y _=>match ev e x,ev e y with
  |some a,some b=>ku a b
  |_,_=>false
 | .convert _ _ x=>match ev e x with
  |some (.int _ _)=>true
  |_=>false
 | .index _ x i=>match ev e x,ev e i with
  |some (.string _),some (.int _ _)=>true
  |_,_=>false
 | .call c=>match G' e c.args.toList with
  |some [.string _]=>true
  |some [.slice ..]=>true
  |_=>false
 |_=>true
def ui (C:gf) (t:TypeId) (x:Operand) (e:cR) (w:World) (K:Addr→List Value→Value→Prop):Prop:=match ev e x with
 |some (.pointer p)=>af p fun ad=>match(C.ty t).agg,(C.ty t).rs,(C.ty t).size with
  |some false,some (.one (.leaf l)),_=>F5 l fun v=>w.cell? ad=some v∧K ad [v] v
  |some true,some (.one (.agg ls)),some n=>match Nat.beq n ls.length with
   |true=>AJ ls fun vs=>fu w ad vs 0∧K ad vs (.agg vs.toArray)
   |false=>False
  |_,_,_=>False
 |_=>False
section
variable {C:gf} {n:Nat} {a:Act} {e:cR} {w:World} {K:Value→World→Prop}
theorem sF {op:BinOp} {t:TypeId} {cx cy:Operand} {x y:Value} {ot:TypeId} (hp:ku x y=true) (h:eM C op t cx cy x y ot w K):
  ∃v,K v w∧∀w' (K':Value→World→Prop),K' v w'→eM C op t cx cy x y ot w' K':=by
 unfold ku at hp;split at hp
 ·rename_i k a k' b;cases op<;>simp only [eM]at h⊢
  case shl=>exact⟨_,h.2,fun w' K' hk=>⟨h.1,hk⟩⟩
  case shr=>exact⟨_,h.2,fun w' K' hk=>⟨h.1,hk⟩⟩
  all_goals
   split at h
   ·first
     |exact⟨_,h.2,fun w' K' hk=>⟨h.1,hk⟩⟩
     |exact⟨_,h,fun w' K' hk=>hk⟩
   ·exact h.elim
 ·cases op<;>simp only [eM]at h⊢
  case add=>exact⟨_,h.2,fun w' K' hk=>⟨h.1,hk⟩⟩
  all_goals first |exact⟨_,h,fun w' K' hk=>hk⟩ |exact h.elim
 ·simp only [eM]at h⊢;split at h<;>first |exact⟨_,h,fun w' K' hk=>hk⟩ |exact h.elim
 ·simp only [eM,yN]at h⊢;split at h<;>first |exact⟨_,h,fun w' K' hk=>hk⟩ |exact h.elim
 ·simp only [eM]at h⊢;split at h<;>first |exact⟨_,h,fun w' K' hk=>hk⟩ |exact h.elim
 ·simp only [eM]at h⊢;split at h<;>first |exact⟨_,h,fun w' K' hk=>hk⟩ |exact h.elim
 ·simp only [eM]at h⊢;split at h
  ·exact h.elim
  ·rename_i l hl;split at h
   ·rename_i b hb;exact⟨_,h,fun w' K' hk=>hk⟩
   ·rename_i b hb;exact⟨_,h,fun w' K' hk=>hk⟩
   ·exact h.elim
 ·simp at hp
theorem uL {op:BinOp} {t:TypeId} {cx cy:Operand} {x y:Value} {ot:TypeId} (hp:ku x y=true) (h:oe C op t cx cy x y ot w K):
  ∃v,K v w∧∀w' (K':Value→World→Prop),K' v w'→oe C op t cx cy x y ot w' K':=by
 have hn:F0 y=false:=by
  cases y<;>first |rfl |(exfalso;cases x<;>simp [ku]at hp)
 simp only [oe,hn]at h⊢;exact sF hp h
theorem DO {o:Oper} (hq:gQ C o=true) (hd:mH o e=true) (h:eV C o e w K):∃v,K v w∧∀w' (K':Value→World→Prop),K' v w'→eV C o e w' K':=by
 cases ho:o.op<;>simp only [gQ,mH,ho,Bool.false_eq_true]at hq hd<;>simp only [eV,ho]at h⊢
 case move x=>split at h<;>first |exact h.elim |exact⟨_,h,fun w' K' hk=>hk⟩
 case assign x=>split at h<;>first |exact h.elim |exact⟨_,h,fun w' K' hk=>hk⟩
 case pick c x y=>
  split at h
  ·rename_i b u v _ _ _;cases b
   ·exact⟨_,h,fun w' K' hk=>hk⟩
   ·exact⟨_,h,fun w' K' hk=>hk⟩
  ·exact h.elim
 case nilCheck x=>
  split at h
  ·obtain⟨ad,rfl,h⟩:=fU h;exact⟨_,h,fun w' K' hk=>hk⟩
  ·exact⟨_,h.2,fun w' K' hk=>⟨h.1,hk⟩⟩
  ·exact h.elim
 case fieldAddr t x f=>
  split at h
  ·obtain⟨ad,rfl,h⟩:=fU h;split at h
   ·exact⟨_,h,fun w' K' hk=>by simp only [af, *]⟩
   ·exact h.elim
  ·exact h.elim
 case field t x f=>
  split at h
  ·split at h
   ·exact⟨_,h,fun w' K' hk=>hk⟩
   ·split at h
    ·exact⟨_,h,fun w' K' hk=>hk⟩
    ·exact h.elim
   ·exact h.elim
  ·exact h.elim
 case indexAddr t x i=>
  split at h
  ·split at h
   ·obtain⟨ad,rfl,h0,h1,h⟩:=fU h;exact⟨_,h,fun w' K' hk=>⟨h0,h1,hk⟩⟩
   ·exact h.elim
  ·split at h
   ·obtain⟨ad,rfl,h0,h1,h⟩:=fU h;exact⟨_,h,fun w' K' hk=>⟨h0,h1,hk⟩⟩
   ·exact h.elim
  ·exact h.elim
 case extract x i=>
  split at h
  ·split at h
   ·split at h
    ·exact⟨_,h,fun w' K' hk=>hk⟩
    ·split at h
     ·obtain⟨u,hu,rfl,h⟩:=KA h;exact⟨_,h,fun w' K' hk=>Kz hu ⟨rfl,hk⟩⟩
     ·rename_i hne;exact⟨_,h,fun w' K' hk=>hk⟩
   ·exact h.elim
  ·exact h.elim
 case slice t x lo hi mx=>
  split at h
  ·split at h
   ·obtain⟨h0,h1,h2,h⟩:=h;exact⟨_,h,fun w' K' hk=>⟨h0,h1,h2,hk⟩⟩
   ·exact h.elim
  ·split at h
   ·obtain⟨h0,h1,h2,h3,h4,h⟩:=h;exact⟨_,h,fun w' K' hk=>⟨h0,h1,h2,h3,h4,hk⟩⟩
   ·exact h.elim
  ·exact h.elim
 case build t ps=>
  split at h
  ·split at h<;>first |exact h.elim |exact⟨_,h,fun w' K' hk=>hk⟩
  ·split at h<;>first |exact h.elim |exact⟨_,h,fun w' K' hk=>hk⟩
  ·exact h.elim
 case makeFunc fn f c=>split at h<;>first |exact h.elim |exact⟨_,h,fun w' K' hk=>hk⟩
 case makeInterface t x=>split at h<;>first |exact h.elim |exact⟨_,h,fun w' K' hk=>hk⟩
 case unOp op t x=>split at h<;>first |exact h.elim |exact⟨_,h,fun w' K' hk=>hk⟩
 case binOp op t x y yt=>
  split at h
  ·rename_i u v hu hv;simp only [hu,hv]at hd;exact uL hd h
  ·exact h.elim
 case convert s d x=>
  split at hq
  ·rename_i k k' hk hk';split at hd
   ·rename_i kk m hm;simp only [hm,hk,hk']at h⊢;exact⟨_,h,fun w' K' hk=>hk⟩
   ·simp at hd
  ·simp at hq
 case index t x i=>
  split at hd
  ·rename_i s k j hs hj;simp only [hs,hj,hq]at h⊢;obtain⟨h0,h1,h⟩:=h;exact⟨_,h,fun w' K' hk=>⟨h0,h1,hk⟩⟩
  ·simp at hd
 case call c=>
  split at hq
  ·rename_i hb;split at hq
   ·rename_i u hu;simp only [hb]at h⊢;split at hd
    ·rename_i s hs;simp only [hs,gZ,hu]at h⊢;split at h
     ·exact⟨_,h,fun w' K' hk=>hk⟩
     ·exact h.elim
    ·rename_i p m cc hs;simp only [hs,gZ,hu]at h⊢;split at h
     ·exact⟨_,h,fun w' K' hk=>hk⟩
     ·exact h.elim
    ·simp at hd
   ·simp at hq
  ·simp at hq
theorem Cs (hC:C.Ok) (hS:Sim n a e) {o:Oper} (hq:gQ C o=true) (hd:mH o e=true) (h:eV C o e w K):
  ∃v,K v w∧∀w',(execOp a.eval o).run C.P w'= .ok (.value v) w':=by
 obtain⟨v,hk,hall⟩:=DO hq hd h;refine⟨v,hk,fun w'=>?_⟩;rcases kq hC hS o (hall w' (fun v' w''=>v'=v∧w''=w') ⟨rfl,rfl⟩)with⟨v',w'',hr,rfl,rfl⟩ |⟨hu,_⟩
 ·exact hr
 ·exfalso;cases ho:o.op<;>simp [gQ,qS,ho]at hq hu
end
def ld:List Nat→Nat→Bool
 | [],_=>false
 |x::r,k=>Nat.beq x k||ld r k
def CD (ops:List Oper) (L:List Nat) (i:Nat):Bool:= !ld L i&&match dA ops i with
 |some o=>o.after.toList.all fun e=> !Region.binds .any e||ld L e.on
 |none=>false
def Hk:Nat→List Nat
 |0=>[]
 |n+1=>Hk n++ [n]
def rc (ops:List Oper) (L:List Nat):List Nat:=(Hk ops.length).filter (CD ops L)
def iy (C:gf) (ops:List Oper) (i:Nat):Bool:=match dA ops i with
 |some o=>gQ C o
 |none=>false
def vh (ops:List Oper):Nat→Nat→Nat→Bool
 |0,_,_=>false
 |f+1,i,j=>match dA ops j with
  |none=>false
  |some o=>o.after.toList.any fun e=>Region.binds .any e&&(Nat.beq e.on i||vh ops f i e.on)
def t_ (C:gf) (ops:List Oper) (i:Nat) (L:List Nat):Bool:=L.any fun j=> !iy C ops j&&vh ops ops.length i j
def jg (C:gf) (ops:List Oper) (L:List Nat) (w:World):List (Nat×Addr×List Value)→Prop→Prop
 | [],p=>p
 |(i,ad,cs)::r,p=>match t_ C ops i L with
  |true=>jg C ops L w r p
  |false=>fu w ad cs 0∧jg C ops L w r p
theorem jL {C:gf} {ops:List Oper} {L:List Nat} {w:World} {p:Prop}:∀ {pend:List (Nat×Addr×List Value)},jg C ops L w pend p→p∧∀x∈pend,t_ C ops x.1 L=false→fu w x.2.1 x.2.2 0
 | [],h=>⟨h,fun _ hx=>by cases hx⟩
 |(i,ad,cs)::r,h=>by
  simp only [jg]at h;split at h
  ·rename_i hb;obtain⟨h1,h2⟩:=jL h;refine⟨h1,fun x hx hxb=>?_⟩;rcases List.mem_cons.1 hx with rfl |hx
   ·simp [hb]at hxb
   ·exact h2 x hx hxb
  ·obtain⟨h0,h⟩:=h;obtain⟨h1,h2⟩:=jL h;refine⟨h1,fun x hx hxb=>?_⟩;rcases List.mem_cons.1 hx with rfl |hx
   ·exact h0
   ·exact h2 x hx hxb
def G0 (p:Nat→Prop):Nat→List Nat→Prop
 |j,[]=>p j
 |j,k::r=>p j∧G0 p k r
theorem tP {p:Nat→Prop}:∀ {j:Nat} {js:List Nat},G0 p j js→∀i∈j::js,p i
 |j,[],h,i,hi=>by simp at hi;subst hi;exact h
 |j,k::r,h,i,hi=>by
  rcases List.mem_cons.1 hi with rfl |hi
  ·exact h.1
  ·exact tP h.2 i hi
def fr (C:gf) (ops:List Oper):Nat→List Nat→List (Nat×Addr×List Value)→cR→World→(cR→World→Prop)→Prop
 |0,L,_,e,w,K=>match rc ops L with
  | []=>K e w
  |_=>False
 |f+1,L,pend,e,w,K=>match(rc ops L).filter (iy C ops)with
  |i::_=>match dA ops i with
   |none=>False
   |some o=>qJ ops o.guard e
    (fun e'=>match o.op with
     | .load t x=>ui C t x e' w fun ad cs v=>fr C ops f (i::L) ((i,ad,cs)::pend) (e'.put o.dst v) w K
     |_=>match mH o e' with
      |true=>eV C o e' w fun v _=>fr C ops f (i::L) pend (e'.put o.dst v) w K
      |false=>False)
    (fun e'=>fr C ops f (i::L) pend (e'.put o.dst undef) w K)
  | []=>match rc ops L with
   | []=>K e w
   |j::js=>G0 (fun j=>match dA ops j with
    |none=>False
    |some o=>qJ ops o.guard e
     (fun e'=>C9 C o e' w fun v w'=>jg C ops (j::L) w' pend (fr C ops f (j::L) pend (e'.put o.dst v) w' K))
     (fun e'=>fr C ops f (j::L) pend (e'.put o.dst undef) w K)) j js
def uk (C:gf) (ops:Array Oper):Bool:=(List.range ops.size).all fun i=> !iy C ops.toList i||(List.range ops.size).all fun j=>Nat.beq i j||vh ops.toList ops.size i j||vh ops.toList ops.size j i||match ops[i]?,ops[j]? with
 |some x,some y=>x.apart ops y
 |_,_=>false
section
variable {P:Program} {ops:Array Oper} {Q:Exit→Act→World→Prop}
def jX (P:Program) (ops:Array Oper) (Q:Exit→Act→World→Prop) (S:Array Bool→World→Prop):Nat→Array Bool→Act→World→Prop
 |0,listed,a,w=>Region.ready .any ops listed= []∧Q .normal a w
 |fuel+1,listed,a,w=>
  (Region.ready .any ops listed= []→Q .normal a w)∧
  ∀i∈Region.ready .any ops listed,wpOp P ops Q i (fun a' w'=>S (listed.setIfInBounds i true) w'∧jX P ops Q S fuel (listed.setIfInBounds i true) a' w') a w
theorem qz {S:Array Bool→World→Prop}:∀(fuel:Nat) (listed:Array Bool) (a:Act) (w:World),jX P ops Q S fuel listed a w→wpAny P .any ops Q fuel listed a w
 |0,_,_,_,h=>h
 |fuel+1,_,_,_,h=>⟨h.1,fun i hi=>wpOp_mono (fun a' w' h'=>qz fuel _ a' w' h'.2) (h.2 i hi)⟩
theorem gm {S S':Array Bool→World→Prop} (hs:∀l w,S l w→S' l w):∀(fuel:Nat) (listed:Array Bool) (a:Act) (w:World),jX P ops Q S fuel listed a w→jX P ops Q S' fuel listed a w
 |0,_,_,_,h=>h
 |fuel+1,_,_,_,h=>⟨h.1,fun i hi=>wpOp_mono (fun a' w' h'=>⟨hs _ _ h'.1,gm hs fuel _ a' w' h'.2⟩) (h.2 i hi)⟩
def mc (ops:Array Oper) (listed:Array Bool):Prop:=∀j o,ops[j]? =some o→listed.getD j false=true→∀e∈o.after,Region.binds .any e=true→listed.getD e.on false=true
theorem mf {listed:Array Bool} (hc:mc ops listed) {i:Nat}:∀(f j:Nat),listed.getD j false=true→vh ops.toList f i j=true→listed.getD i false=true
 |0,_,_,h=>by simp [vh]at h
 |f+1,j,hj,h=>by
  simp only [vh,cI]at h;split at h
  ·simp at h
  ·rename_i o ho;have ho':ops[j]? =some o:=by simpa using ho
   obtain⟨e,he,hb⟩:=List.any_eq_true.1 h;rw [Bool.and_eq_true,Bool.or_eq_true]at hb;have h1:=hc j o ho' hj e (by simpa using he) hb.1;rcases hb.2 with h2 |h2
   ·have:=Nat.eq_of_beq_eq_true h2;exact this▸h1
   ·exact mf hc f e.on h1 h2
theorem jv {listed:Array Bool} (hc:mc ops listed) {i:Nat} (hi:i∈Region.ready .any ops listed):mc ops (listed.setIfInBounds i true):=by
 intro j o ho hj e he hb;by_cases hij:j=i
 ·subst hij;obtain⟨_,o',ho',hall⟩:=mem_ready.1 hi;rw [ho]at ho';cases ho';exact getD_set_true (hall e he hb)
 ·have hj':listed.getD j false=true:=by rw [←getD_set_ne false (Ne.symm hij)];exact hj
  exact getD_set_true (hc j o ho hj' e he hb)
theorem tk {listed:Array Bool} (hc:mc ops listed) {i j:Nat} (hj:j∈Region.ready .any ops listed) (hi:listed.getD i false=false) (f:Nat):vh ops.toList f i j=false:=by
 cases f with
 |zero=>rfl
 |succ f=>
  obtain⟨_,o,ho,hall⟩:=mem_ready.1 hj;have ho':ops.toList[j]? =some o:=by simpa using ho
  simp only [vh,cI,ho'];rw [List.any_eq_false];intro e he hb;rw [Bool.and_eq_true,Bool.or_eq_true]at hb;have h1:=hall e (by simpa using he) hb.1;rcases hb.2 with h2 |h2
  ·have:=Nat.eq_of_beq_eq_true h2;rw [this,hi]at h1;cases h1
  ·have:=mf hc f e.on h1 h2;rw [hi]at this;cases this
theorem rL {listed:Array Bool} {i:Nat} (h:listed.getD i true=false):listed.getD i false=false:=by
 rcases Nat.lt_or_ge i listed.size with h' |h'
 ·simp [h']at h⊢;exact h
 ·simp [Array.getElem?_eq_none h']at h
theorem u0 (act:Nat→Bool) {i:Nat} {oi:Oper} {v:Value} {Si:World→Prop} {S:Array Bool→World→Prop} (hi:ops[i]? =some oi) (hsel:∀(j:Nat) (o:Oper) cs b,ops[j]? =some o→o.op≠ .select cs b)
  (hQ:∀c a w,Q (.panic c) (a.put oi.dst v) w→Q (.panic c) a w) (hact:act i=false) (hS:∀l w,S (l.setIfInBounds i true) w→S l w)
  (hfree:∀j oj,ops[j]? =some oj→j≠i→vh ops.toList ops.size i j=false→vh ops.toList ops.size j i=false→oi.apart ops oj=true):
  ∀(fuel:Nat) (listed:Array Bool) (a:Act) (w:World),mc ops listed→i∈Region.ready .any ops listed→YieldsIf P ops Si oi v a→Si w→S (listed.setIfInBounds i true) w→
   jX P ops Q (fun l w=>S l w∧((∀k,l.getD k false=true→act k=true→vh ops.toList ops.size i k=false)→Si w)) fuel (listed.setIfInBounds i true) (a.put oi.dst v) w→jX P ops Q S (fuel+1) listed a w:=by
 intro fuel;induction fuel with
 |zero=>
  intro listed a w hc hr hy hs hSi H;refine⟨fun h=>(by rw [h]at hr;cases hr),fun j hj=>?_⟩;by_cases hji:j=i
  ·subst hji;exact hy.wpOp hi hs ⟨hSi,H⟩
  ·have:=ready_mono hj hji;rw [H.1]at this;cases this
 |succ fuel ih=>
  intro listed a w hc hr hy hs hSi H;refine⟨fun h=>(by rw [h]at hr;cases hr),fun j hj=>?_⟩;by_cases hji:j=i
  ·subst hji;exact hy.wpOp hi hs ⟨hSi,gm (fun _ _ h=>h.1) _ _ _ _ H⟩
  ·have h1:=H.2 j (ready_mono hj hji);obtain⟨hjun,oj,hoj,hall⟩:=mem_ready.1 hj;have hiun:listed.getD i false=false:=rL (mem_ready.1 hr).1;have hjun':listed.getD j false=false:=rL hjun;have hanc:vh ops.toList ops.size i j=false:=tk hc hj hiun _;have hanc':vh ops.toList ops.size j i=false:=tk hc hr hjun' _;have h2:=wpOp_putIf hoj (hfree j oj hoj hji hanc hanc') (fun cs b=>hsel i oi cs b hi) (fun cs b=>hsel j oj cs b hoj) hQ hy h1;refine wpOp_mono (fun a' w' h3=>?_) h2;obtain⟨hy',⟨hS',hSi'⟩,hrest⟩:=h3;rw [Array.setIfInBounds_comm _ _ (Ne.symm hji)]at hS';have hcj:=jv hc hj;have hij:(listed.setIfInBounds j true).getD i false=false:=by rw [getD_set_ne false hji];exact hiun
   have hsi:Si w':=hSi' fun k hk hka=>by
    by_cases hki:k=i
    ·subst hki;rw [hact]at hka;cases hka
    ·have hk':(listed.setIfInBounds j true).getD k false=true:=by
      rw [Array.setIfInBounds_comm _ _ (Ne.symm hji),getD_set_ne false (Ne.symm hki)]at hk;exact hk
     cases hx:vh ops.toList ops.size i k with
     |false=>rfl
     |true=>
      have:=mf hcj ops.size k hk' hx;rw [hij]at this;cases this
   refine⟨hS _ _ hS',ih (listed.setIfInBounds j true) a' w' hcj (ready_mono hr (Ne.symm hji)) hy' hsi hS' ?_⟩;rw [Array.setIfInBounds_comm _ _ hji];exact hrest
end
theorem kJ:∀(L:List Nat) (k:Nat),ld L k=true↔k∈L
 | [],k=>by simp [ld]
 |x::r,k=>by
  simp only [ld,Bool.or_eq_true,List.mem_cons,kJ r k];constructor
  ·rintro(h |h)
   ·exact .inl (Nat.eq_of_beq_eq_true h).symm
   ·exact .inr h
  ·rintro(h |h)
   ·exact .inl (by subst h;exact Nat.beq_refl _)
   ·exact .inr h
theorem CN:∀n,Hk n=List.range n
 |0=>rfl
 |n+1=>by rw [Hk,CN n,List.range_succ]
def te (ops:Array Oper) (L:List Nat) (listed:Array Bool):Prop:=listed.size=ops.size∧∀k,listed.getD k false=ld L k
theorem mA {ops:Array Oper} {L:List Nat} {listed:Array Bool} (h:te ops L listed):Region.ready .any ops listed=rc ops.toList L:=by
 unfold Region.ready rc;rw [CN];simp only [Array.length_toList];refine List.filter_congr fun i hi=>?_;have hlt:i<ops.size:=List.mem_range.1 hi;have hl:listed.getD i true=ld L i:=by
  rw [←h.2 i];simp [h.1,hlt]
 simp only [CD,cI,hl];have ho:ops[i]? =some ops[i]:=by simp [hlt]
 have ho':ops.toList[i]? =some ops[i]:=by simp [hlt]
 rw [ho,ho'];simp only [Option.map_some,Option.getD_some];congr 1;rw [←Array.all_toList];congr 1;funext e;rw [h.2]
theorem kU {ops:Array Oper} {L:List Nat} {listed:Array Bool} (h:te ops L listed) {i:Nat} (hi:i<ops.size):te ops (i::L) (listed.setIfInBounds i true):=by
 refine⟨by simp [h.1],fun k=>?_⟩;by_cases hk:i=k
 ·subst hk;simp [ld,h.1,hi]
 ·rw [getD_set_ne false hk,h.2];have:Nat.beq i k=false:=by
   cases hb:Nat.beq i k with
   |false=>rfl
   |true=>exact absurd (Nat.eq_of_beq_eq_true hb) hk
  simp [ld,this]
def kw (C:gf) (ops:Array Oper) (pend:List (Nat×Addr×List Value)) (l:Array Bool) (w:World):Prop:=
 ∀x∈pend,(∀k,l.getD k false=true→(!iy C ops.toList k)=true→vh ops.toList ops.size x.1 k=false)→fu w x.2.1 x.2.2 0
theorem nN {C:gf} {ops:Array Oper} {L:List Nat} {l:Array Bool} {w:World} {p:Prop} {pend:List (Nat×Addr×List Value)} (ht:te ops L l) (h:jg C ops.toList L w pend p):p∧kw C ops pend l w:=by
 obtain⟨h1,h2⟩:=jL h;refine⟨h1,fun x hx hk=>h2 x hx ?_⟩;unfold t_;rw [List.any_eq_false];intro k hkL hb;rw [Bool.and_eq_true]at hb;have hl:l.getD k false=true:=by rw [ht.2];exact(kJ L k).2 hkL
 have:=hk k hl hb.1;rw [Array.length_toList,this]at hb;exact absurd hb.2 (by simp)
theorem D1 {C:gf} {ops:Array Oper} {pend:List (Nat×Addr×List Value)} {i:Nat} (hq:iy C ops.toList i=true) (l:Array Bool) (w:World) (h:kw C ops pend (l.setIfInBounds i true) w):kw C ops pend l w:=by
 intro x hx hk;refine h x hx fun k hl ha=>?_;by_cases hki:k=i
 ·subst hki;simp [hq]at ha
 ·rw [getD_set_ne false (Ne.symm hki)]at hl;exact hk k hl ha
theorem eZ {C:gf} {ops:Array Oper} {pend:List (Nat×Addr×List Value)} {i:Nat} (l:Array Bool) (w:World) (h:kw C ops pend l w):kw C ops pend (l.setIfInBounds i true) w:=by
 intro x hx hk;exact h x hx fun k hl ha=>hk k (getD_set_true hl) ha
theorem lS {α:Type} {p:α→Bool} {l r:List α} {x:α} (h:l.filter p=x::r):x∈l∧p x=true:=by
 have:x∈l.filter p:=by rw [h];simp
 exact List.mem_filter.1 this
theorem rT {C:gf} (hC:C.Ok) {n:Nat} {a:Act} {e:cR} (hS:Sim n a e) {o:Oper} {t:TypeId} {x:Operand} (ho:o.op= .load t x) {w:World} {K:Addr→List Value→Value→Prop}
  (h:ui C t x e w K):∃ad cs v,K ad cs v∧fu w ad cs 0∧∀w',fu w' ad cs 0→(execOp a.eval o).run C.P w'= .ok (.value v) w':=by
 unfold ui at h;split at h
 ·rename_i p hx;obtain⟨ad,rfl,h⟩:=fU h;split at h
  ·rename_i l _ hag _;obtain⟨v,hv,hk⟩:=kW h;refine⟨ad,[v],v,hk,⟨hv,trivial⟩,fun w' hw'=>?_⟩;have hv':w'.cell? ad=some v:=hw'.1;simp [execOp,ho,hS.ev hx,Instr.loadAt,Instr.sureAddr,loadVar,eW ((hC.ty t).agg _ hag),hv',Result.andThen]
  ·rename_i ls m hag _ hsz;split at h
   ·rename_i hb;have hb:m=ls.length:=Nat.eq_of_beq_eq_true hb;obtain⟨vs,hl,hc,hk⟩:=kr h;refine⟨ad,vs,_,hk,hc,fun w' hw'=>?_⟩;have hlc:=dV (P:=C.P) vs 0 #[] hw';rw [hl, ←hb]at hlc;simp [execOp,ho,hS.ev hx,Instr.loadAt,Instr.sureAddr,loadVar,eW ((hC.ty t).agg _ hag),bZ ((hC.ty t).size _ hsz),loadCells,hlc,Result.andThen]
   ·exact h.elim
  ·exact h.elim
 ·exact h.elim
section
variable {C:gf} {n:Nat} {ds:List Nat} {b:cR} {ops:Array Oper} {K:cR→World→Prop} {Q:Exit→Act→World→Prop}
theorem iI (hC:C.Ok) (hd:nE n ops.toList=true) (hds:∀o∈ops.toList,∀d,o.dst=some d→d∈ds) (hsel:Region.noSelect ops=true) (hap:uk C ops=true)
  (hQ:∀a e w,iR n ds b a e→K e w→Q .normal a w) (hQp:∀c (d:Option Nat) v a w,Q (.panic c) (a.put d v) w→Q (.panic c) a w):
  ∀(f:Nat) (L:List Nat) (pend:List (Nat×Addr×List Value)) (e:cR) (w:World) (listed:Array Bool) (a:Act),te ops L listed→mc ops listed→iR n ds b a e→kw C ops pend listed w→
   fr C ops.toList f L pend e w K→jX C.P ops Q (kw C ops pend) f listed a w
 |0,L,pend,e,w,listed,a,ht,hc,hS,hp,h=>by
  simp only [fr]at h;split at h
  ·rename_i hr;exact⟨by rw [mA ht,hr],hQ a e w hS h⟩
  ·exact h.elim
 |f+1,L,pend,e,w,listed,a,ht,hc,hS,hp,h=>by
  simp only [fr]at h;have hapart:∀i oi,ops[i]? =some oi→iy C ops.toList i=true→∀j oj,ops[j]? =some oj→j≠i→vh ops.toList ops.size i j=false→vh ops.toList ops.size j i=false→oi.apart ops oj=true:=by
   intro i oi hi hq j oj hj hji h1 h2;have hil:i<ops.size:=by
    rcases Nat.lt_or_ge i ops.size with h |h
    ·exact h
    ·simp [Array.getElem?_eq_none h]at hi
   have hjl:j<ops.size:=by
    rcases Nat.lt_or_ge j ops.size with h |h
    ·exact h
    ·simp [Array.getElem?_eq_none h]at hj
   have h3:=List.all_eq_true.1 hap i (List.mem_range.2 hil);simp only [hq,Bool.not_true,Bool.false_or]at h3;have h4:=List.all_eq_true.1 h3 j (List.mem_range.2 hjl);have hb:Nat.beq i j=false:=by
    cases hb:Nat.beq i j with
    |false=>rfl
    |true=>exact absurd (Nat.eq_of_beq_eq_true hb).symm hji
   simpa only [hb,h1,h2,hi,hj,Bool.false_or]using h4
  split at h
  ·rename_i i rest hfil;obtain⟨hmem,hq⟩:=lS hfil;have hready:i∈Region.ready .any ops listed:=by rw [mA ht];exact hmem
   rw [cI]at h;split at h
   ·exact h.elim
   ·rename_i o ho;have ho':ops[i]? =some o:=by simpa using ho
    have hlt:i<ops.size:=by
     rcases Nat.lt_or_ge i ops.size with h |h
     ·exact h
     ·simp [Array.getElem?_eq_none h]at ho'
    have hqk:gQ C o=true:=by
     unfold iy at hq;rw [cI,ho]at hq;exact hq
    have hdo:=Ap hd hds (List.mem_of_getElem? ho);have hfirst:=fun(v:Value) (Si:World→Prop)=>u0 (P:=C.P) (Q:=Q) (fun k=> !iy C ops.toList k) (v:=v) (Si:=Si) (S:=kw C ops pend) ho' (Region.noSelect_spec hsel) (fun c a w=>hQp c o.dst v a w) (by simp [hq]) (D1 hq) (hapart i o ho' hq) f listed a w hc hready;have hrec:=fun(pend':List (Nat×Addr×List Value)) (e':cR) (v:Value) (hS':iR n ds b a e') hp' hd'=>iI hC hd hds hsel hap hQ hQp f (i::L) pend' (e'.put o.dst v) w (listed.setIfInBounds i true) (a.put o.dst v) (kU ht hlt) (jv hc hready) (hS'.put o.dst v hdo) hp' hd';rcases nB hS h with⟨hw,e',hS',h⟩ |⟨hw,e',hS',h⟩
    ·have plain:∀v,(∀w',(execOp a.eval o).run C.P w'= .ok (.value v) w')→fr C ops.toList f (i::L) pend (e'.put o.dst v) w K→jX C.P ops Q (kw C ops pend) (f+1) listed a w:=fun v hrun hk=>
      hfirst v (fun _=>True) (.inl ⟨hw,fun w' _=>hrun w'⟩) trivial (eZ _ _ hp) (gm (fun _ _ h=>⟨h,fun _=>trivial⟩) _ _ _ _ (hrec pend e' v hS' (eZ _ _ hp) hk))
     split at h
     ·rename_i t x hop;obtain⟨ad,cs,v,hk,hcell,hrun⟩:=rT hC hS'.sim hop h;refine hfirst v (fun w'=>fu w' ad cs 0) (.inl ⟨hw,hrun⟩) hcell (eZ _ _ hp) ?_;have hp':kw C ops ((i,ad,cs)::pend) (listed.setIfInBounds i true) w:=by
       intro x hx hkk;rcases List.mem_cons.1 hx with rfl |hx
       ·exact hcell
       ·exact eZ _ _ hp x hx hkk
      refine gm (fun l w' hl=>⟨fun x hx=>hl x (List.mem_cons_of_mem _ hx),fun hkk=>hl (i,ad,cs) (by simp) hkk⟩) _ _ _ _ (hrec ((i,ad,cs)::pend) e' v hS' hp' hk)
     ·split at h
      ·rename_i hdyn;obtain⟨v,hk,hrun⟩:=Cs hC hS'.sim hqk hdyn h;exact plain v hrun hk
      ·exact h.elim
    ·exact hfirst undef (fun _=>True) (.inr ⟨hw,rfl⟩) trivial (eZ _ _ hp) (gm (fun _ _ h=>⟨h,fun _=>trivial⟩) _ _ _ _ (hrec pend e' undef hS' (eZ _ _ hp) h))
  ·split at h
   ·rename_i hr;have hre:Region.ready .any ops listed= []:=by rw [mA ht,hr]
    exact⟨fun _=>hQ a e w hS h,fun i hi=>by rw [hre]at hi;cases hi⟩
   ·rename_i j js hr;have hre:Region.ready .any ops listed=j::js:=by rw [mA ht,hr]
    refine⟨fun hnil=>(by rw [hre]at hnil;cases hnil),fun i hi=>?_⟩;have h:=tP h i (by rw [←hre];exact hi);rw [cI]at h;split at h
    ·exact h.elim
    ·rename_i o ho;have ho':ops[i]? =some o:=by simpa using ho
     have hlt:i<ops.size:=by
      rcases Nat.lt_or_ge i ops.size with h |h
      ·exact h
      ·simp [Array.getElem?_eq_none h]at ho'
     have hdo:=Ap hd hds (List.mem_of_getElem? ho);unfold wpOp;simp only [ho'];rcases nB hS h with⟨hw,e',hS',h⟩ |⟨hw,e',hS',h⟩
     ·rw [if_pos hw];refine .inl (yd hC hS'.sim o h fun v w' hk=>?_);obtain⟨hk,hp'⟩:=nN (kU ht hlt) hk;exact⟨hp',iI hC hd hds hsel hap hQ hQp f (i::L) pend (e'.put o.dst v) w' (listed.setIfInBounds i true) (a.put o.dst v) (kU ht hlt) (jv hc hi) (hS'.put o.dst v hdo) hp' hk⟩
     ·rw [if_neg (by simp [hw])];exact⟨eZ _ _ hp,iI hC hd hds hsel hap hQ hQp f (i::L) pend (e'.put o.dst undef) w (listed.setIfInBounds i true) (a.put o.dst undef) (kU ht hlt) (jv hc hi) (hS'.put o.dst undef hdo) (eZ _ _ hp) h⟩
theorem BZ (hC:C.Ok) {id:Nat} (hd:nE n ops.toList=true) (hds:∀o∈ops.toList,∀d,o.dst=some d→d∈ds) (hsel:Region.noSelect ops=true) (hap:uk C ops=true)
  (hQ:∀a e w,iR n ds b a e→K e w→Q .normal a w) (hQp:∀c (d:Option Nat) v a w,Q (.panic c) (a.put d v) w→Q (.panic c) a w)
  {a:Act} {e:cR} {w:World} (hS:iR n ds b a e) (h:fr C ops.toList ops.toList.length [] [] e w.drew K):(Code.region id ops true).wp C.P Q a w:=by
 refine wp_region_any hC.mixed (qz (S:=kw C ops []) _ _ _ _ ?_);have ht:te ops [] (Array.replicate ops.size false):=by
  refine⟨by simp,fun k=>?_⟩;rcases Nat.lt_or_ge k ops.size with hk |hk
  ·simp [ld,hk]
  ·simp [ld,Array.getElem?_eq_none,hk]
 have hc:mc ops (Array.replicate ops.size false):=by
  intro j o ho hj;rw [ht.2]at hj;simp [ld]at hj
 have:=iI hC hd hds hsel hap hQ hQp ops.toList.length [] [] e w.drew (Array.replicate ops.size false) a ht hc hS (fun x hx=>by cases hx) h;simpa using this
end
inductive Ex where
 |normal |exit (id:Nat) |ret
def Ex.to:Ex→Exit
 | .normal=>.normal
 | .exit id=>.exit id
 | .ret=>.ret
def qM:List Oper→List Nat
 | []=>[]
 |o::r=>match o.dst with
  |some d=>d::qM r
  |none=>qM r
def dy:Code→List Nat
 | .region _ ops _=>qM ops.toList
 | .seq x y=>dy x++dy y
 | .cond _ x y=>dy x++dy y
 | .block _ x=>dy x
 | .loop x=>dy x
 | .scope x=>dy x
 |_=>[]
def nj:Code→Bool
 | .seq x y=>nj x&&nj y
 | .cond _ x y=>nj x||nj y
 | .block id x=>nj x||leavesTo id x
 | .loop _=>false
 | .scope x=>nj x
 | .exit _=>false
 | .ret=>false
 | .goto _=>false
 |_=>true
where leavesTo (id:Nat):Code→Bool
 | .seq x y=>leavesTo id x||leavesTo id y
 | .cond _ x y=>leavesTo id x||leavesTo id y
 | .block _ x=>leavesTo id x
 | .loop x=>leavesTo id x
 | .scope x=>leavesTo id x
 | .exit i=>Nat.beq i id
 |_=>false
def zS (id:Nat):Code→Nat
 | .seq x y=>zS id x+zS id y
 | .cond _ x y=>zS id x+zS id y
 | .block _ x=>zS id x
 | .loop x=>zS id x
 | .scope x=>zS id x
 | .exit i=>match Nat.beq i id with
  |true=>1
  |false=>0
 |_=>0
def pO:Code→Bool
 | .cond _ x y=>nj x&&nj y
 | .seq _ y=>pO y
 | .scope x=>pO x
 |_=>false
def EL (id:Nat) (x:Code):Bool:=Nat.ble 2 (zS id x+match nj x with |true=>1 |false=>0)||pO x
def MN:Value→Bool
 | .tuple _=>true
 |_=>false
def cO (ds:List Nat):cR→List Nat→List (Nat×Value)
 | [],_=>[]
 |(t,v)::r,seen=>match ld seen t with
  |true=>cO ds r seen
  |false=>match ld ds t&& !MN v with
   |true=>(t,v)::cO ds r (t::seen)
   |false=>cO ds r (t::seen)
def dR (ds:List Nat):cR→cR
 | []=>[]
 |(t,v)::r=>match ld ds t with
  |true=>dR ds r
  |false=>(t,v)::dR ds r
def dK:List (Nat×Value)→List Nat
 | []=>[]
 |(t,_)::r=>t::dK r
def jT:List (Nat×Value)→List Sh
 | []=>[]
 |(_,v)::r=>Oj v::jT r
def pJ:List Nat→List Value→cR→cR
 |t::r,v::vs,e=>(t,v)::pJ r vs e
 |_,_,e=>e
def ry:List Nat→cR→Option (List Value)
 | [],_=>some []
 |t::r,e=>match e.get t with
  |none=>none
  |some v=>match ry r e with
   |none=>none
   |some vs=>some (v::vs)
def oy (slots:List Nat) (shs:List Sh) (J:List Value→World→Prop) (e:cR) (w:World):Prop:=match ry slots e with
 |some vs=>match nC shs vs with
  |true=>J vs w
  |false=>False
 |none=>False
def II (vars:List (Nat×Value)) (e0:cR) (rest:cR→World→Prop) (use:(cR→World→Prop)→Prop):Prop:=
 ∀J:List Value→World→Prop,(tZ (jT vars) fun vs=>∀w,rest (pJ (dK vars) vs e0) w→J vs w)→use (oy (dK vars) (jT vars) J)
def NX (vars:List (Nat×Value)) (e0:cR) (e:cR) (w:World) (body:cR→World→(cR→World→Prop)→Prop):Prop:=
 ∀I:List Value→World→Prop,(tZ (jT vars) fun vs=>∀w,body (pJ (dK vars) vs e0) w (oy (dK vars) (jT vars) I)→I vs w)→oy (dK vars) (jT vars) I e w
def zx (k:cR→World→Prop) (K:Ex→cR→World→Prop):Ex→cR→World→Prop
 | .normal,e,w=>k e w
 | .exit id,e,w=>K (.exit id) e w
 | .ret,e,w=>K .ret e w
def tY (id:Nat) (k:cR→World→Prop) (K:Ex→cR→World→Prop):Ex→cR→World→Prop
 | .normal,e,w=>k e w
 | .exit i,e,w=>match Nat.beq i id with
  |true=>k e w
  |false=>K (.exit i) e w
 | .ret,e,w=>K .ret e w
def C7 (C:gf):Code→cR→World→(Ex→cR→World→Prop)→Prop
 | .skip=>fun e w K=>K .normal e w
 | .region _ ops draw=>fun e w K=>match draw with
  |false=>nV C ops.toList ops.toList e w (K .normal)
  |true=>∀w',w'=w.drew→fr C ops.toList ops.toList.length [] [] e w' (K .normal)
 | .seq x y=>fun e w K=>match pO x with
  |true=>II (cO (dy x) e []) (dR (dy x) e) (fun e' w'=>C7 C y e' w' K) (fun k=>C7 C x e w (zx k K))
  |false=>C7 C x e w (zx (fun e' w'=>C7 C y e' w' K) K)
 | .cond c x y=>fun e w K=>match ev e c with
  |some (.bool b)=>ac b (C7 C x e w K) (C7 C y e w K)
  |_=>False
 | .block id x=>fun e w K=>match EL id x with
  |true=>II (cO (dy x) e []) (dR (dy x) e) (K .normal) (fun k=>C7 C x e w (tY id k K))
  |false=>C7 C x e w (tY id (K .normal) K)
 | .loop x=>fun e w K=>NX (cO (dy x) e []) (dR (dy x) e) e w fun e' w' k=>C7 C x e' w' (zx k K)
 | .exit id=>fun e w K=>K (.exit id) e w
 | .ret=>fun e w K=>K .ret e w
 | .rangeFunc _ _ _ _=>fun _ _ _=>False
 | .scope _=>fun _ _ _=>False
 | .label _=>fun _ _ _=>False
 | .goto _=>fun _ _ _=>False
 | .refuse _=>fun _ _ _=>False
def wf (C:gf) (n:Nat):Code→Bool
 | .skip=>true
 | .region _ ops draw=>nE n ops.toList&&match draw with
  |false=>true
  |true=>Region.noSelect ops&&uk C ops
 | .seq x y=>wf C n x&&wf C n y
 | .cond _ x y=>wf C n x&&wf C n y
 | .block _ x=>wf C n x
 | .loop x=>wf C n x
 | .exit _=>true
 | .ret=>true
 | .rangeFunc _ _ _ _=>true
 | .scope _=>true
 | .label _=>true
 | .goto _=>true
 | .refuse _=>true
theorem lR:∀ {l:List Oper} {o:Oper},o∈l→∀d,o.dst=some d→d∈qM l
 | [],o,h,_,_=>by cases h
 |x::r,o,h,d,hd=>by
  simp only [qM];rcases List.mem_cons.1 h with rfl |h
  ·rw [hd];simp
  ·split
   ·exact List.mem_cons_of_mem _ (lR h d hd)
   ·exact lR h d hd
theorem ip {ds:List Nat}:∀(e:cR) (t:Nat),(dR ds e).get t=if t∈ds then none else e.get t
 | [],t=>by simp [dR,cR.get]
 |(u,v)::r,t=>by
  simp only [dR];split
  ·rename_i hu;rw [ip r t];simp only [cR.get];by_cases ht:t∈ds
   ·simp [ht]
   ·simp only [ht,if_false];have hne:u≠t:=fun h=>ht (h▸(kJ ds u).1 hu);have:Nat.beq u t=false:=by
     cases hb:Nat.beq u t with
     |false=>rfl
     |true=>exact absurd (Nat.eq_of_beq_eq_true hb) hne
    rw [this]
  ·rename_i hu;simp only [cR.get,ip r t];split
   ·rename_i hb;have:u=t:=Nat.eq_of_beq_eq_true hb;subst this;have hn:u∉ds:=fun h=>by rw [(kJ ds u).2 h]at hu;cases hu
    simp [hn]
   ·rfl
theorem mK {n:Nat} {a:Act} {e0:cR} (h0:Sim n a e0):∀ {slots:List Nat} {vs:List Value} {e:cR},Sim n a e→ry slots e=some vs→Sim n a (pJ slots vs e0)
 | [],vs,e,h,hg=>by cases vs<;>exact h0
 |t::r,vs,e,h,hg=>by
  simp only [ry]at hg;split at hg
  ·cases hg
  ·rename_i v hv;split at hg
   ·cases hg
   ·rename_i us hus;cases hg;have ih:=mK h0 h hus;refine⟨h.size,h.defers,fun u x hx=>?_⟩;simp only [pJ,cR.get]at hx;split at hx
    ·rename_i hb;have:t=u:=Nat.eq_of_beq_eq_true hb;subst this;cases hx;exact h.get _ _ hv
    ·exact ih.get _ _ hx
theorem mL {slots:List Nat} {shs:List Sh} {J:List Value→World→Prop} {e:cR} {w:World} (h:oy slots shs J e w):∃vs,ry slots e=some vs∧pp shs vs∧J vs w:=by
 unfold oy at h;split at h
 ·rename_i vs hv;split at h
  ·rename_i hs;exact⟨vs,hv,wM hs,h⟩
  ·exact h.elim
 ·exact h.elim
theorem iJ {n:Nat} {ds ds':List Nat} {b:cR} {a:Act} {e e':cR} (h:iR n ds e a e'):Sim n a (dR ds e):=by
 refine⟨h.sim.size,h.sim.defers,fun t v hv=>?_⟩;rw [ip]at hv;split at hv
 ·cases hv
 ·rename_i ht;rw [←h.keep t ht]at hv;exact h.sim.get t v hv
def qo (P:Program) (c:Code) (Q:Exit→Act→World→Prop) (a:Act) (w:World):Prop:=
 ∀(b:Frame) (k:List Item) (cs:List Frame),∃e a' w',Q e a' w'∧Arrives P (lone (b.at a (.inLoop c::k)) cs w) b k cs e a' w'
theorem lv {P:Program} {c:Code} {Q:Exit→Act→World→Prop} {a:Act} {w:World} (h:c.wp P (Exit.then (qo P c Q) Q) a w) (b:Frame) (k:List Item) (cs:List Frame):
  ∃e a' w',Q e a' w'∧Arrives P (lone (b.at a (.code c:: .inLoop c::k)) cs w) b k cs e a' w':=by
 obtain⟨e,a₁,w₁,hq,harr⟩:=h b (.inLoop c::k) cs;cases e with
 |normal=>
  obtain⟨e₂,a₂,w₂,hq₂,harr₂⟩:=hq b k cs;exact⟨e₂,a₂,w₂,hq₂,.of_steps harr harr₂⟩
 |exit id=>exact⟨_,a₁,w₁,hq,.pass (x:=.inLoop c) rfl (fun _ _=>.inl (by simp)) harr⟩
 |goto l=>exact⟨_,a₁,w₁,hq,.pass (x:=.inLoop c) rfl (fun _ _=>.inl (by simp)) harr⟩
 |ret=>exact⟨_,a₁,w₁,hq,.pass (x:=.inLoop c) rfl (fun _ _=>.inl (by simp)) harr⟩
 |panic ch=>exact⟨_,a₁,w₁,hq,.pass (x:=.inLoop c) rfl (fun _ _=>.inl (by simp)) harr⟩
 |outgrown=>exact⟨_,a₁,w₁,hq,.pass (x:=.inLoop c) rfl (fun _ _=>.inl (by simp)) harr⟩
theorem uH {P:Program} {c:Code} {Q:Exit→Act→World→Prop} {a:Act} {w:World} (h:c.wp P (Exit.then (qo P c Q) Q) a w):qo P c Q a w:=fun b k cs=>by
 obtain⟨e,a',w',q,r⟩:=lv h b k cs;exact⟨e,a',w',q,.of_steps (.one step_inLoop) r⟩
theorem qt {P:Program} {c:Code} {Q:Exit→Act→World→Prop} {a:Act} {w:World} (h:c.wp P (Exit.then (qo P c Q) Q) a w):(Code.loop c).wp P Q a w:=fun b k cs=>by
 obtain⟨e,a',w',q,r⟩:=lv h b k cs;exact⟨e,a',w',q,.of_steps (.one step_loop) r⟩
theorem il {ds:List Nat}:∀(e:cR) (seen:List Nat) (t:Nat),t∈dK (cO ds e seen)→t∈ds
 | [],_,t,h=>by simp [cO,dK]at h
 |(u,v)::r,seen,t,h=>by
  simp only [cO]at h;split at h
  ·exact il r _ t h
  ·split at h
   ·rename_i hb;rw [Bool.and_eq_true]at hb;simp only [dK,List.mem_cons]at h;rcases h with rfl |h
    ·exact(kJ ds t).1 hb.1
    ·exact il r _ t h
   ·exact il r _ t h
theorem CI {e0:cR} {t:Nat}:∀ {slots:List Nat} {vs:List Value},t∉slots→(pJ slots vs e0).get t=e0.get t
 | [],vs,_=>by cases vs<;>rfl
 |u::r,[],_=>rfl
 |u::r,v::vs,h=>by
  simp only [pJ,cR.get];have hne:u≠t:=fun he=>h (by simp [he]);have:Nat.beq u t=false:=by
   cases hb:Nat.beq u t with
   |false=>rfl
   |true=>exact absurd (Nat.eq_of_beq_eq_true hb) hne
  rw [this];exact CI (fun hm=>h (by simp [hm]))
theorem nG {ds:List Nat} {e:cR} {vs:List Value} {t:Nat} (ht:t∉ds):(pJ (dK (cO ds e [])) vs (dR ds e)).get t=e.get t:=by
 rw [CI (fun h=>ht (il e [] t h)),ip,if_neg ht]
def yE (C:gf) (n:Nat) (c:Code):Prop:=∀ {a:Act} {e:cR} {w:World} {K:Ex→cR→World→Prop} {Q:Exit→Act→World→Prop},Sim n a e→C7 C c e w K→
  (∀ex a' e' w',iR n (dy c) e a' e'→K ex e' w'→Q ex.to a' w')→(∀c (d:Option Nat) v a w,Q (.panic c) (a.put d v) w→Q (.panic c) a w)→c.wp C.P Q a w
theorem Gv {C:gf} {n:Nat} {x y:Code} (ihx:yE C n x) (ihy:yE C n y):yE C n (.seq x y):=by
 intro a e w K Q hS h hQ hQp;simp only [C7]at h;refine wp_seq ?_;split at h
 ·have hJ:=h (fun vs w'=>pp (jT (cO (dy x) e [])) vs→∀a',Sim n a' (pJ (dK (cO (dy x) e [])) vs (dR (dy x) e))→y.wp C.P Q a' w') (by
   refine kY fun vs hsh w' hrest _ a' hS'=>?_;refine ihy hS' hrest (fun ex a2 e2 w2 hS2 hk2=>hQ ex a2 e2 w2 ⟨hS2.sim,fun t ht=>?_⟩ hk2) hQp;rw [hS2.keep t (fun h=>ht (by simp [dy,h])),nG (fun h=>ht (by simp [dy,h]))])
  refine ihx hS hJ (fun ex a' e' w' hS' hk=>?_) (fun c d v a w hp=>hQp c d v a w hp);cases ex with
  |normal=>
   simp only [zx]at hk;obtain⟨vs,hg,hsh,hj⟩:=mL hk;exact hj hsh a' (mK (iJ (ds':=[]) (b:=[]) hS') hS'.sim hg)
  |exit id=>exact hQ (.exit id) a' e' w' ⟨hS'.sim,fun t ht=>hS'.keep t (fun h=>ht (by simp [dy,h]))⟩ hk
  |ret=>exact hQ .ret a' e' w' ⟨hS'.sim,fun t ht=>hS'.keep t (fun h=>ht (by simp [dy,h]))⟩ hk
 ·refine ihx hS h (fun ex a' e' w' hS' hk=>?_) (fun c d v a w hp=>hQp c d v a w hp);cases ex with
  |normal=>
   refine ihy hS'.sim hk (fun ex a2 e2 w2 hS2 hk2=>hQ ex a2 e2 w2 ⟨hS2.sim,fun t ht=>?_⟩ hk2) hQp;rw [hS2.keep t (fun h=>ht (by simp [dy,h])),hS'.keep t (fun h=>ht (by simp [dy,h]))]
  |exit id=>exact hQ (.exit id) a' e' w' ⟨hS'.sim,fun t ht=>hS'.keep t (fun h=>ht (by simp [dy,h]))⟩ hk
  |ret=>exact hQ .ret a' e' w' ⟨hS'.sim,fun t ht=>hS'.keep t (fun h=>ht (by simp [dy,h]))⟩ hk
theorem B1 {C:gf} {n id:Nat} {x:Code} (ihx:yE C n x):yE C n (.block id x):=by
 intro a e w K Q hS h hQ hQp;simp only [C7]at h;refine wp_block ?_;split at h
 ·have hJ:=h (fun vs w'=>pp (jT (cO (dy x) e [])) vs→∀a',Sim n a' (pJ (dK (cO (dy x) e [])) vs (dR (dy x) e))→Q .normal a' w') (by
   refine kY fun vs hsh w' hrest _ a' hS'=>?_;exact hQ .normal a' _ w' ⟨hS',fun t ht=>nG ht⟩ hrest)
  refine ihx hS hJ (fun ex a' e' w' hS' hk=>?_) (fun c d v a w hp=>hQp c d v a w hp);have key:oy (dK (cO (dy x) e [])) (jT (cO (dy x) e [])) (fun vs w'=>pp (jT (cO (dy x) e [])) vs→∀a',Sim n a' (pJ (dK (cO (dy x) e [])) vs (dR (dy x) e))→Q .normal a' w') e' w'→Q .normal a' w':=fun hk=>by
   obtain⟨vs,hg,hsh,hj⟩:=mL hk;exact hj hsh a' (mK (iJ (ds':=[]) (b:=[]) hS') hS'.sim hg)
  cases ex with
  |normal=>exact key hk
  |exit i=>
   simp only [tY]at hk;split at hk
   ·rename_i hb;have:i=id:=Nat.eq_of_beq_eq_true hb;simp only [Ex.to,Exit.inBlock,this,if_true];exact key hk
   ·rename_i hb;have:i≠id:=Nat.ne_of_beq_eq_false hb;simp only [Ex.to,Exit.inBlock,this,if_false];exact hQ (.exit i) a' e' w' hS' hk
  |ret=>exact hQ .ret a' e' w' hS' hk
 ·refine ihx hS h (fun ex a' e' w' hS' hk=>?_) (fun c d v a w hp=>hQp c d v a w hp);cases ex with
  |normal=>exact hQ .normal a' e' w' hS' hk
  |exit i=>
   simp only [tY]at hk;split at hk
   ·rename_i hb;have:i=id:=Nat.eq_of_beq_eq_true hb;simp only [Ex.to,Exit.inBlock,this,if_true];exact hQ .normal a' e' w' hS' hk
   ·rename_i hb;have:i≠id:=Nat.ne_of_beq_eq_false hb;simp only [Ex.to,Exit.inBlock,this,if_false];exact hQ (.exit i) a' e' w' hS' hk
  |ret=>exact hQ .ret a' e' w' hS' hk
theorem Ee {C:gf} {n:Nat} {x:Code} (ihx:yE C n x):yE C n (.loop x):=by
 intro a e w K Q hS h hQ hQp;have hI:=h (fun vs w'=>pp (jT (cO (dy x) e [])) vs→∀a',Sim n a' (pJ (dK (cO (dy x) e [])) vs (dR (dy x) e))→x.wp C.P (Exit.then (qo C.P x Q) Q) a' w') (by
  refine kY fun vs hsh w' hbody _ a' hS'=>?_;refine ihx hS' hbody (fun ex a2 e2 w2 hS2 hk2=>?_) (fun c d v a w hp=>hQp c d v a w hp);have hkeep:∀t,t∉dy x→e2.get t=e.get t:=fun t ht=>by rw [hS2.keep t ht,nG ht]
  cases ex with
  |normal=>
   simp only [zx]at hk2;obtain⟨us,hg,hsh',hj⟩:=mL hk2;exact uH (hj hsh' a2 (mK (iJ (ds':=[]) (b:=[]) ⟨hS2.sim,hkeep⟩) hS2.sim hg))
  |exit i=>exact hQ (.exit i) a2 e2 w2 ⟨hS2.sim,hkeep⟩ hk2
  |ret=>exact hQ .ret a2 e2 w2 ⟨hS2.sim,hkeep⟩ hk2)
 obtain⟨vs,hg,hsh,hj⟩:=mL hI;exact qt (hj hsh a (mK (iJ (ds:=dy x) (ds':=[]) (b:=[]) ⟨hS,fun _ _=>rfl⟩) hS hg))
theorem BC {C:gf} (hC:C.Ok) {n:Nat}:∀(c:Code),wf C n c=true→yE C n c:=by
 intro c;induction c with
 |skip=>intro _ a e w K Q hS h hQ _;exact wp_skip (hQ .normal a e w ⟨hS,fun _ _=>rfl⟩ h)
 |region id ops draw=>
  intro hw a e w K Q hS h hQ hQp;simp only [wf,Bool.and_eq_true]at hw;have hds:∀o∈ops.toList,∀d,o.dst=some d→d∈dy (.region id ops draw):=fun o ho d hd=>lR ho d hd;cases draw with
  |false=>exact uv hC hw.1 hds (fun a' e' w' hS' hk=>hQ .normal a' e' w' hS' hk) ⟨hS,fun _ _=>rfl⟩ h
  |true=>
   have hw2:=hw.2;simp only [Bool.and_eq_true]at hw2;exact BZ hC hw.1 hds hw2.1 hw2.2 (fun a' e' w' hS' hk=>hQ .normal a' e' w' hS' hk) hQp ⟨hS,fun _ _=>rfl⟩ (h _ rfl)
 |seq x y ihx ihy=>intro hw;simp only [wf,Bool.and_eq_true]at hw;exact Gv (ihx hw.1) (ihy hw.2)
 |cond c x y ihx ihy=>
  intro hw a e w K Q hS h hQ hQp;simp only [wf,Bool.and_eq_true]at hw;simp only [C7]at h;split at h
  ·rename_i b hb;have hbe:=hS.ev hb;cases b
   ·exact wp_cond_false hbe (ihy hw.2 hS h (fun ex a' e' w' hS' hk=>hQ ex a' e' w' ⟨hS'.sim,fun t ht=>hS'.keep t (fun h=>ht (by simp [dy,h]))⟩ hk) hQp)
   ·exact wp_cond_true hbe (ihx hw.1 hS h (fun ex a' e' w' hS' hk=>hQ ex a' e' w' ⟨hS'.sim,fun t ht=>hS'.keep t (fun h=>ht (by simp [dy,h]))⟩ hk) hQp)
  ·exact h.elim
 |block id x ih=>intro hw;exact B1 (ih hw)
 |loop x ih=>intro hw;exact Ee (ih hw)
 |exit id=>intro _ a e w K Q hS h hQ _;exact wp_exit (hQ (.exit id) a e w ⟨hS,fun _ _=>rfl⟩ h)
 |ret=>intro _ a e w K Q hS h hQ _;exact wp_ret (hQ .ret a e w ⟨hS,fun _ _=>rfl⟩ h)
 |_=>intro _ a e w K Q hS h hQ _;exact False.elim h
def lO:Nat→List Value→cR
 |_,[]=>[]
 |i,v::r=>(i,v)::lO (i+1) r
def jN (C:gf) (e:cR) (w:World):List ResultVar→(List Value→Prop)→Prop
 | [],F=>F []
 | .tmp t::r,F=>match e.get t with
  |some v=>jN C e w r fun vs=>F (v::vs)
  |none=>False
 | .cell t ty::r,F=>match e.get t with
  |some (.pointer p)=>af p fun ad=>match(C.ty ty).agg,(C.ty ty).rs,(C.ty ty).size with
   |some false,some (.one (.leaf l)),_=>F5 l fun v=>w.cell? ad=some v∧jN C e w r fun vs=>F (v::vs)
   |some true,some (.one (.agg ls)),some n=>match Nat.beq n ls.length with
    |true=>AJ ls fun us=>fu w ad us 0∧jN C e w r fun vs=>F (.agg us.toArray::vs)
    |false=>False
   |_,_,_=>False
  |_=>False
def lF:List Value→Value
 | [v]=>v
 |vs=>.tuple vs.toArray
def GO (C:gf) (body:Code) (res:List ResultVar) (args:List Value) (w:World) (R:Value→World→Prop):Prop:=
 C7 C body (lO 0 args) w fun ex e' w'=>match ex with
  | .normal=>jN C e' w' res fun vs=>R (lF vs) w'
  | .ret=>jN C e' w' res fun vs=>R (lF vs) w'
  | .exit _=>False
theorem rQ:∀(vs:List Value) (i t:Nat) (v:Value),(lO i vs).get t=some v→i≤t∧vs[t-i]? =some v
 | [],_,_,_,h=>by simp [lO,cR.get]at h
 |u::r,i,t,v,h=>by
  simp only [lO,cR.get]at h;split at h
  ·rename_i hb;have:i=t:=Nat.eq_of_beq_eq_true hb;subst this;cases h;simp
  ·obtain⟨h1,h2⟩:=rQ r (i+1) t v h;refine⟨by omega,?_⟩;rw [show t-i=(t- (i+1))+1 from by omega];simpa using h2
def zP (tmps:Array Value):ResultVar→Sem Value
 | .tmp t=>pure (tmps.getD t undef)
 | .cell c t=>do loadVar t (←asAddr (tmps.getD c undef))
theorem iS {α β:Type} {P:Program} {f:α→Sem β} {x:α} {r:List α} {w:World} {v:β} {vs:List β} (h1:(f x).run P w= .ok v w) (h2:(r.mapM f).run P w= .ok vs w):((x::r).mapM f).run P w= .ok (v::vs) w:=by
 rw [List.mapM_cons,Sem.run_bind,h1];simp only [Result.andThen,Sem.run_bind];rw [h2];rfl
theorem jJ {C:gf} (hC:C.Ok) {n:Nat} {a:Act} {e:cR} (hS:Sim n a e) {w:World}:∀ {res:List ResultVar} {F:List Value→Prop},jN C e w res F→
  ∃vs,F vs∧(res.mapM (zP a.tmps)).run C.P w= .ok vs w
 | [],F,h=>⟨[],h,by simp⟩
 | .tmp t::r,F,h=>by
  simp only [jN]at h;split at h
  ·rename_i v hv;obtain⟨vs,hF,hr⟩:=jJ hC hS h;have hg:a.tmps.getD t undef=v:=by simp [Array.getD_eq_getD_getElem?,hS.get _ _ hv]
   exact⟨v::vs,hF,iS (by simp [zP,hg]) hr⟩
  ·exact h.elim
 | .cell t ty::r,F,h=>by
  simp only [jN]at h;split at h
  ·rename_i p hp;obtain⟨ad,rfl,h⟩:=fU h;have hg:a.tmps.getD t undef= .pointer (some ad):=by simp [Array.getD_eq_getD_getElem?,hS.get _ _ hp]
   split at h
   ·rename_i l _ hag _;obtain⟨v,hv,hk⟩:=kW h;obtain⟨vs,hF,hr⟩:=jJ hC hS hk;refine⟨v::vs,hF,iS ?_ hr⟩;simp [zP,hg,asAddr,loadVar,eW ((hC.ty ty).agg _ hag),hv,Result.andThen]
   ·rename_i ls m hag _ hsz;split at h
    ·rename_i hb;have hb:m=ls.length:=Nat.eq_of_beq_eq_true hb;obtain⟨us,hl,hc,hk⟩:=kr h;obtain⟨vs,hF,hr⟩:=jJ hC hS hk;have hlc:=dV (P:=C.P) us 0 #[] hc;rw [hl, ←hb]at hlc;refine⟨_,hF,iS ?_ hr⟩;simp [zP,hg,asAddr,loadVar,eW ((hC.ty ty).agg _ hag),bZ ((hC.ty ty).size _ hsz),loadCells,hlc,Result.andThen]
    ·exact h.elim
   ·exact h.elim
  ·exact h.elim
def Fs (P:Program) (f:FuncId):Bool:=match P.funcs[f]? with
 |some fn=>match fn.name== "runtime.NumGoroutine" with
  |true=>false
  |false=>match fn.body with
   |some _=>true
   |none=>false
 |none=>false
theorem Fh {P:Program} (f:FuncId) (h:Fs P f=true):∃fn c,P.funcs[f]? =some fn∧(fn.name== "runtime.NumGoroutine")=false∧fn.body=some c:=by
 unfold Fs at h;split at h
 ·rename_i fn hf;split at h
  ·cases h
  ·rename_i hn;split at h
   ·rename_i c hc;exact⟨fn,c,hf,hn,hc⟩
   ·cases h
 ·cases h
def Ft (P:Program) (tab:List (Nat×TI)):gf:={P:=P,tab:=tab,fns:=Fs P}
theorem Gb (P:Program) (tab:List (Nat×TI)) (h:∀p∈tab,aI P p.1 p.2) (hm:P.follows .mixedOrders=true):(Ft P tab).Ok:=
 EC (C:=Ft P tab) h (fun f h=>Fh f h) hm
theorem gf.Ok.retype {C:gf} (h:C.Ok):gf.Ok {C with re:=true}:=⟨h.ty,h.fns,h.mixed⟩
def uw (f:Func):Code:=match f.body with
 |some c=>c
 |none=>.skip
def aA:Option TypeDesc→TypeDesc
 |some d=>d
 |none=>.tuple #[]
def a_:Option TypeDesc→Array Field
 |some (.struct fs)=>fs
 |_=>#[]
def He:TypeDesc→Bool
 | .interface _=>true
 |_=>false
theorem ao {d:TypeDesc} (h:He d=false):∀ms,d≠ .interface ms:=by
 intro ms he;subst he;cases h
theorem Ce (fn:Func) (tmps:Array Value):results fn tmps=(do let vs←fn.results.mapM (zP tmps);pure (if h:vs.size=1 then vs[0]else .tuple vs)):=by
 unfold results;congr 1
theorem np {C:gf} (hC:C.Ok) {f:FuncId} {fn:Func} {body:Code} {args:List Value} {w:World} {R:Value→World→Prop} (hf:C.P.funcs[f]? =some fn) (hb:fn.body=some body)
  (hn:Nat.ble args.length fn.ntmps=true) (hw:wf C fn.ntmps body=true) (h:GO C body fn.results.toList args w R):
  Calls C.P f args.toArray w fun e w'=>∃v,e= .returned v∧R v w':=by
 refine calls_of_wp hf hb ?_;have hle:args.length≤fn.ntmps:=Nat.le_of_ble_eq_true hn;have hS:Sim fn.ntmps {tmps:=args.toArray++Array.replicate (fn.ntmps-args.toArray.size) undef,defers:=[]} (lO 0 args):=by
  refine⟨by simp;omega,rfl,fun t v hv=>?_⟩;obtain⟨_,h2⟩:=rQ args 0 t v hv;rw [Nat.sub_zero]at h2;have hlt:t<args.length:=by
   rcases Nat.lt_or_ge t args.length with h |h
   ·exact h
   ·simp [List.getElem?_eq_none h]at h2
  simp only [];rw [Array.getElem?_append_left (by simpa using hlt)];simpa using h2
 have hres:∀(ex:Ex) (a':Act) (e':cR) (w':World),iR fn.ntmps (dy body) (lO 0 args) a' e'→jN C e' w' fn.results.toList (fun vs=>R (lF vs) w')→
   a'.defers= []∧∃v,(results fn a'.tmps).run C.P w'= .ok v w'∧∃u,Ending.returned v= .returned u∧R u w':=by
  intro ex a' e' w' hS' hk;obtain⟨vs,hF,hr⟩:=jJ hC hS'.sim hk;refine⟨hS'.sim.defers,lF vs,?_,_,rfl,hF⟩;rw [Ce,Sem.run_bind,Array.mapM_eq_mapM_toList];simp only [Sem.run_map];rw [hr];simp only [Result.andThen,Sem.run_pure];congr 1
  match vs with
  | []=>simp [lF]
  | [v]=>simp [lF]
  |u::v::r=>simp [lF]
 refine BC hC body hw hS h (fun ex a' e' w' hS' hk=>?_) (fun c d v a w hp=>⟨?_,hp.2⟩)
 ·cases ex with
  |normal=>exact hres .normal a' e' w' hS' hk
  |ret=>exact hres .ret a' e' w' hS' hk
  |exit id=>exact hk.elim
 ·have:=hp.1;cases d<;>simpa [Act.put]using this
end Go.Proofs.YtdlcfegnaphclaaGreat.Eng
