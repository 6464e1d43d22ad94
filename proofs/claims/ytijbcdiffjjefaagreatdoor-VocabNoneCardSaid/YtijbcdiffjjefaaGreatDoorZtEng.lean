/- The engine of this claim's walks: what a piece of Go code owes, as one proposition over plain values and the world, and a proof that this is enough. -/
import Derived.OrdersHeld
import Derived.WalkKit
import Derived.RowKit3
import Derived.Laws.StructEq
import Derived.KernelRfl
set_option linter.unusedVariables false
set_option linter.unusedSimpArgs false
namespace Go.Proofs.YtijbcdiffjjefaaGreatDoor.Eng
open Go
inductive eT where
 |int (k:IntKind) |bool |str |ptr |slice |map |any
inductive Sh where
 |leaf (l:eT) |agg (ls:List eT)
inductive Rs where
 |one (s:Sh) |tup (ss:List Sh)
def uT:eT→(Value→Prop)→Prop
 | .int k,F=>∃n:Int,F (.int k n)
 | .bool,F=>∃b:Bool,F (.bool b)
 | .str,F=>∃s:ByteArray,F (.string s)
 | .ptr,F=>∃p:Option Addr,F (.pointer p)
 | .slice,F=>∃(a:Option Addr) (n c:Nat),F (.slice a n c)
 | .map,F=>∃r:Option Nat,F (.map r)
 | .any,F=>∃v:Value,F v
def rA:List eT→(List Value→Prop)→Prop
 | [],F=>F []
 |l::r,F=>uT l fun v=>rA r fun vs=>F (v::vs)
def Ao:Sh→(Value→Prop)→Prop
 | .leaf l,F=>uT l F
 | .agg ls,F=>rA ls fun vs=>F (.agg vs.toArray)
def uf:List Sh→(List Value→Prop)→Prop
 | [],F=>F []
 |s::r,F=>Ao s fun v=>uf r fun vs=>F (v::vs)
def CV:Rs→(Value→Prop)→Prop
 | .one s,F=>Ao s F
 | .tup ss,F=>uf ss fun vs=>F (.tuple vs.toArray)
theorem gm {l:eT} {F:Value→Prop} (h:uT l F):∃v,F v:=by
 cases l<;>simp only [uT]at h
 case slice=>obtain⟨a,n,c,h⟩:=h;exact⟨_,h⟩
 all_goals (obtain⟨x,h⟩:=h;exact⟨_,h⟩)
theorem fr:∀ {ls:List eT} {F:List Value→Prop},rA ls F→∃vs,vs.length=ls.length∧F vs
 | [],_,h=>⟨[],rfl,h⟩
 |_::_,_,h=>by
  obtain⟨v,h⟩:=gm h;obtain⟨vs,hl,h⟩:=fr h;exact⟨_,by simp [hl],h⟩
theorem uo {ls:List eT} {F:List Value→Prop} (h:rA ls F):∃vs,F vs:=by
 obtain⟨vs,_,h⟩:=fr h;exact⟨vs,h⟩
theorem qH {s:Sh} {F:Value→Prop} (h:Ao s F):∃v,F v:=by
 cases s with
 |leaf l=>exact gm h
 |agg ls=>obtain⟨vs,h⟩:=uo h;exact⟨_,h⟩
theorem mo:∀ {ss:List Sh} {F:List Value→Prop},uf ss F→∃vs,F vs
 | [],_,h=>⟨[],h⟩
 |_::_,_,h=>by
  obtain⟨v,h⟩:=qH h;obtain⟨vs,h⟩:=mo h;exact⟨_,h⟩
theorem ni {r:Rs} {F:Value→Prop} (h:CV r F):∃v,F v:=by
 cases r with
 |one s=>exact qH h
 |tup ss=>obtain⟨vs,h⟩:=mo h;exact⟨_,h⟩
def xT:eT→(Value→Prop)→Prop
 | .int k,F=>∀n:Int,F (.int k n)
 | .bool,F=>∀b:Bool,F (.bool b)
 | .str,F=>∀s:ByteArray,F (.string s)
 | .ptr,F=>∀p:Option Addr,F (.pointer p)
 | .slice,F=>∀(a:Option Addr) (n c:Nat),F (.slice a n c)
 | .map,F=>∀r:Option Nat,F (.map r)
 | .any,F=>∀v:Value,F v
def wv:List eT→(List Value→Prop)→Prop
 | [],F=>F []
 |l::r,F=>xT l fun v=>wv r fun vs=>F (v::vs)
def yT:Sh→(Value→Prop)→Prop
 | .leaf l,F=>xT l F
 | .agg ls,F=>wv ls fun vs=>F (.agg vs.toArray)
def mV:List Sh→(List Value→Prop)→Prop
 | [],F=>F []
 |s::r,F=>yT s fun v=>mV r fun vs=>F (v::vs)
def vF:Value→eT
 | .int k _=>.int k
 | .bool _=>.bool
 | .string _=>.str
 | .pointer _=>.ptr
 | .slice .. =>.slice
 | .map _=>.map
 |_=>.any
def C1:Value→Sh
 | .agg cs=>.agg (cs.toList.map vF)
 |v=>.leaf (vF v)
def yF:eT→Value→Prop
 | .int k,v=>∃n:Int,v= .int k n
 | .bool,v=>∃b:Bool,v= .bool b
 | .str,v=>∃s:ByteArray,v= .string s
 | .ptr,v=>∃p:Option Addr,v= .pointer p
 | .slice,v=>∃(a:Option Addr) (n c:Nat),v= .slice a n c
 | .map,v=>∃r:Option Nat,v= .map r
 | .any,_=>True
def yk:List eT→List Value→Prop
 | [],vs=>vs= []
 |l::r,vs=>∃v t,vs=v::t∧yF l v∧yk r t
def Au:Sh→Value→Prop
 | .leaf l,v=>yF l v
 | .agg ls,v=>∃vs:List Value,v= .agg vs.toArray∧yk ls vs
def jd:List Sh→List Value→Prop
 | [],vs=>vs= []
 |s::r,vs=>∃v t,vs=v::t∧Au s v∧jd r t
theorem sO {l:eT} {F:Value→Prop} (h:∀v,yF l v→F v):xT l F:=by
 cases l<;>simp only [xT]
 case slice=>exact fun a n c=>h _ ⟨a,n,c,rfl⟩
 case any=>exact fun v=>h v trivial
 all_goals exact fun x=>h _ ⟨x,rfl⟩
theorem pN:∀ {ls:List eT} {F:List Value→Prop},(∀vs,yk ls vs→F vs)→wv ls F
 | [],_,h=>h [] rfl
 |_::_,_,h=>sO fun v hv=>pN fun vs hvs=>h _ ⟨v,vs,rfl,hv,hvs⟩
theorem wm {s:Sh} {F:Value→Prop} (h:∀v,Au s v→F v):yT s F:=by
 cases s with
 |leaf l=>exact sO h
 |agg ls=>exact pN fun vs hvs=>h _ ⟨vs,rfl,hvs⟩
theorem gn:∀ {ss:List Sh} {F:List Value→Prop},(∀vs,jd ss vs→F vs)→mV ss F
 | [],_,h=>h [] rfl
 |_::_,_,h=>wm fun v hv=>gn fun vs hvs=>h _ ⟨v,vs,rfl,hv,hvs⟩
def xN:eT→Value→Bool
 | .int k,.int k' _=>k==k'
 | .bool,.bool _=>true
 | .str,.string _=>true
 | .ptr,.pointer _=>true
 | .slice,.slice .. =>true
 | .map,.map _=>true
 | .any,_=>true
 |_,_=>false
def mA:List eT→List Value→Bool
 | [],[]=>true
 |l::r,v::t=>xN l v&&mA r t
 |_,_=>false
def wl:Sh→Value→Bool
 | .leaf l,v=>xN l v
 | .agg ls,.agg cs=>mA ls cs.toList
 |_,_=>false
def iX:List Sh→List Value→Bool
 | [],[]=>true
 |s::r,v::t=>wl s v&&iX r t
 |_,_=>false
theorem uO {l:eT} {v:Value} (h:xN l v=true):yF l v:=by
 cases l<;>cases v<;>simp_all [xN,yF]
theorem sY:∀ {ls:List eT} {vs:List Value},mA ls vs=true→yk ls vs
 | [],[],_=>rfl
 | [],_::_,h=>by simp [mA]at h
 |_::_,[],h=>by simp [mA]at h
 |_::_,v::t,h=>by
  simp only [mA,Bool.and_eq_true]at h;exact⟨v,t,rfl,uO h.1,sY h.2⟩
theorem xU {s:Sh} {v:Value} (h:wl s v=true):Au s v:=by
 cases s with
 |leaf l=>exact uO h
 |agg ls=>
  cases v<;>simp only [wl,Bool.false_eq_true]at h
  rename_i cs;exact⟨cs.toList,by simp,sY h⟩
theorem pz:∀ {ss:List Sh} {vs:List Value},iX ss vs=true→jd ss vs
 | [],[],_=>rfl
 | [],_::_,h=>by simp [iX]at h
 |_::_,[],h=>by simp [iX]at h
 |_::_,v::t,h=>by
  simp only [iX,Bool.and_eq_true]at h;exact⟨v,t,rfl,xU h.1,pz h.2⟩
theorem As {l:eT} {F:Value→Prop} (h:uT l F):∃v,yF l v∧F v:=by
 cases l<;>simp only [uT]at h
 case slice=>obtain⟨a,n,c,h⟩:=h;exact⟨_,⟨a,n,c,rfl⟩,h⟩
 case any=>obtain⟨x,h⟩:=h;exact⟨_,trivial,h⟩
 all_goals (obtain⟨x,h⟩:=h;exact⟨_,⟨x,rfl⟩,h⟩)
theorem At {l:eT} {F:Value→Prop} {v:Value} (hv:yF l v) (h:F v):uT l F:=by
 cases l<;>simp only [yF]at hv
 case slice=>obtain⟨a,n,c,rfl⟩:=hv;exact⟨a,n,c,h⟩
 case any=>exact⟨v,h⟩
 all_goals (obtain⟨x,rfl⟩:=hv;exact⟨x,h⟩)
abbrev be:=List (Nat×Value)
def be.get:be→Nat→Option Value
 | [],_=>none
 |(u,v)::r,t=>match Nat.beq u t with
  |true=>some v
  |false=>be.get r t
def be.put (e:be) (d:Option Nat) (v:Value):be:=match d with
 |none=>e
 |some d=>(d,v)::e
def ev (e:be):Operand→Option Value
 | .tmp t=>e.get t
 | .const v=>some v
 | .global g=>some (.pointer (some ⟨g,0,none⟩))
 | .func f=>some (.func (.func f) #[] #[])
def xe (e:be):List Operand→Option (List Value)
 | []=>some []
 |x::r=>match ev e x with
  |none=>none
  |some v=>match xe e r with
   |none=>none
   |some vs=>some (v::vs)
structure gG (n:Nat) (a:Act) (e:be):Prop where
 size:a.tmps.size=n
 defers:a.defers= []
 get:∀t v,e.get t=some v→a.tmps[t]? =some v
theorem gG.ev {n:Nat} {a:Act} {e:be} (h:gG n a e) {x:Operand} {v:Value} (hx:Eng.ev e x=some v):a.eval x=v:=by
 cases x with
 |tmp t=>
  have:=h.get t v hx;simp only [Act.eval,Array.getD_eq_getD_getElem?,this,Option.getD_some]
 |const c=>simpa [Eng.ev,Act.eval]using hx
 |global g=>simpa [Eng.ev,Act.eval]using hx
 |func f=>simpa [Eng.ev,Act.eval]using hx
theorem gG.evs {n:Nat} {a:Act} {e:be} (h:gG n a e):∀ {l:List Operand} {vs:List Value},Eng.xe e l=some vs→l.map a.eval=vs
 | [],vs,hx=>by simp [Eng.xe]at hx;simp [hx]
 |x::r,vs,hx=>by
  simp only [Eng.xe]at hx;split at hx
  ·cases hx
  ·rename_i v hv;split at hx
   ·cases hx
   ·rename_i t ht;cases hx;simp [h.ev hv,h.evs ht]
theorem gG.put {n:Nat} {a:Act} {e:be} (h:gG n a e) (d:Option Nat) (v:Value) (hd:∀t,d=some t→t<n):gG n (a.put d v) (e.put d v):=by
 cases d with
 |none=>exact h
 |some d=>
  have hlt:=hd d rfl;refine⟨by simp [Act.put,h.size],h.defers,fun t u hu=>?_⟩;simp only [be.put,be.get]at hu;split at hu
  ·rename_i heq;have:d=t:=Nat.eq_of_beq_eq_true heq;subst this;cases hu;simp [Act.put,h.size,hlt]
  ·rename_i hne;have:d≠t:=Nat.ne_of_beq_eq_false hne;have:=h.get t u hu;simp [Act.put,Array.getElem?_setIfInBounds_ne, *]
abbrev nb (w:World):Addr:=⟨w.heap.size,0,none⟩
def aa (b:Bool) (p q:Prop):Prop:=match b with
 |true=>p
 |false=>q
theorem aa.mk {b:Bool} {p q:Prop} (h:b=true→p) (k:b=false→q):aa b p q:=by
 cases b
 ·exact k rfl
 ·exact h rfl
theorem aa.yes {b:Bool} {p q:Prop} (hb:b=true) (h:p):aa b p q:=by subst hb;exact h
theorem aa.no {b:Bool} {p q:Prop} (hb:b=false) (h:q):aa b p q:=by subst hb;exact h
def ac (p:Option Addr) (k:Addr→Prop):Prop:=match p with
 |some a=>k a
 |none=>False
theorem ac.mk {p:Option Addr} {k:Addr→Prop} (a:Addr) (h:p=some a) (hk:k a):ac p k:=by subst h;exact hk
def Ar (k:IntKind) (z:Int) (F:Int→Prop):Prop:=F (k.wrap z)
def fI (s:ByteArray) (i:Int):Int:=((s.data[i.toNat]?).map (fun b=>(b.toNat:Int))).getD 0
def de (w:World) (a:Addr):List Value→Nat→Prop
 | [],_=>True
 |v::r,i=>w.cell? (a.add i)=some v∧de w a r (i+1)
def aG (w:World) (a:Addr) (k:World→Prop):List Value→Nat→Prop
 | [],_=>∀w',w'=w→k w'
 |v::r,i=>v.oneCell'=true∧(∃u,w.cell? (a.add i)=some u)∧w.frozen? (a.add i)=false∧aG (w.setCell (a.add i) v) a k r (i+1)
inductive xX where
 |i
 |s
 |b
def C7:xX→Value→Value→Option Bool
 | .i,.int k a,.int k' b=>match k==k' with
  |true=>some (a==b)
  |false=>none
 | .s,.string a,.string b=>some (a.toList==b.toList)
 | .b,.bool a,.bool b=>some (a==b)
 |_,_,_=>none
def xx:List xX→List Value→List Value→Option Bool
 | [],[],[]=>some true
 |k::l,x::xs,y::ys=>match C7 k x y,xx l xs ys with
  |some b,some c=>some (b&&c)
  |_,_=>none
 |_,_,_=>none
def qI (P:Program) (t:TypeId):xX→Bool
 | .i=>match P.underlying t with
  |some (.int _)=>true
  |_=>false
 | .s=>match P.underlying t with
  |some .string=>true
  |_=>false
 | .b=>match P.underlying t with
  |some .bool=>true
  |_=>false
def tt (P:Program):List Field→Nat→List xX→Bool
 | [],_,[]=>true
 |f::fs,k,e::l=>decide (f.name≠ "_")&&(Nat.beq f.offset k&&(qI P f.type e&&tt P fs (k+1) l))
 |_,_,_=>false
def kH (P:Program) (t:TypeId) (l:List xX):Bool:=(match P.underlying t with
 |some (.struct _)=>true
 |_=>false)&&(!P.stoodInHeld t&&(!P.eqGuardType P.depth t&&tt P (P.fieldsOf t).toList 0 l))
structure TI where
 size:Option Nat:=none
 agg:Option Bool:=none
 rs:Option Rs:=none
 zero:Option Value:=none
 offs:Option (List (Nat×Nat×Bool)):=none
 arr:Option (Nat×Nat):=none
 slc:Option (Nat×Nat):=none
 elemSh:Option Sh:=none
 isStr:Bool:=false
 intk:Option IntKind:=none
 conc:Bool:=false
 isPtr:Bool:=false
 isSlc:Bool:=false
 isMap:Bool:=false
 isBool:Bool:=false
 eqs:Option (List xX):=none
def dP:TypeDesc→Bool
 | .struct _ | .array _ _=>true
 |_=>false
structure aq (P:Program) (t:TypeId) (i:TI):Prop where
 size:∀n,i.size=some n→(P.info? t).map (·.size)=some n:=by first |exact eK rfl |exact ab 1 rfl (by kernel_rfl)
 agg:∀b,i.agg=some b→(P.underlying t).map dP=some b:=by first |exact eK rfl |exact ab false rfl (by kernel_rfl)
 zero:∀v,i.zero=some v→(P.info? t).map (·.zero)=some (some v):=by exact eK rfl
 offs:∀l,i.offs=some l→∃fs,P.underlying t=some (.struct fs)∧fs.toList.map (fun f=>(f.offset,(P.info? f.type).map (·.size),(P.underlying f.type).map dP))=l.map (fun x=>(x.1,some (x.2.1+1),some x.2.2)):=by exact eK rfl
 arr:∀n s,i.arr=some (n,s)→∃e,P.underlying t=some (.array n e)∧(P.info? e).map (·.size)=some s:=by exact mL rfl
 slc:∀e s,i.slc=some (e,s)→P.underlying t=some (.slice e)∧(P.info? e).map (·.size)=some s:=by exact mL rfl
 isStr:i.isStr=true→P.underlying t=some .string:=by exact iU rfl
 intk:∀k,i.intk=some k→P.underlying t=some (.int k):=by exact eK rfl
 conc:i.conc=true→∃d,P.underlying t=some d∧∀ms,d≠ .interface ms:=by exact iU rfl
 isPtr:i.isPtr=true→∃e,P.underlying t=some (.pointer e):=by exact iU rfl
 isSlc:i.isSlc=true→∃e,P.underlying t=some (.slice e):=by exact iU rfl
 isMap:i.isMap=true→∃k e,P.underlying t=some (.map k e):=by exact iU rfl
 isBool:i.isBool=true→P.underlying t=some .bool:=by exact iU rfl
 eqs:∀l,i.eqs=some l→kH P t l=true:=by exact eK rfl
theorem aq.nothing (P:Program) (t:TypeId):aq P t {}:=by
 constructor<;>intros<;>simp_all
theorem ab {α:Type} {o:Option α} {p:α→Prop} (a:α) (ho:o=some a) (hp:p a):∀x,o=some x→p x:=by
 intro x h;rw [ho]at h;cases h;exact hp
theorem eK {α:Type} {o:Option α} {p:α→Prop} (ho:o=none):∀x,o=some x→p x:=by
 intro x h;rw [ho]at h;cases h
theorem aJ {α β:Type} {o:Option (α×β)} {p:α→β→Prop} (a:α) (b:β) (ho:o=some (a,b)) (hp:p a b):∀x y,o=some (x,y)→p x y:=by
 intro x y h;rw [ho]at h;cases h;exact hp
theorem mL {α β:Type} {o:Option (α×β)} {p:α→β→Prop} (ho:o=none):∀x y,o=some (x,y)→p x y:=by
 intro x y h;rw [ho]at h;cases h
theorem ag {b:Bool} {p:Prop} (hp:p):b=true→p:=fun _=>hp
theorem iU {b:Bool} {p:Prop} (hb:b=false):b=true→p:=by
 intro h;rw [hb]at h;cases h
structure dL where
 P:Program
 tab:List (Nat×TI)
 fns:FuncId→Bool
 re:Bool:=false
def dL.ty (C:dL) (t:TypeId):TI:=match C.tab.lookup t with
 |some i=>i
 |none=>{}
structure dL.Ok (C:dL):Prop where
 ty:∀t,aq C.P t (C.ty t)
 fns:∀f,C.fns f=true→∃fn c,C.P.funcs[f]? =some fn∧(fn.name== "runtime.NumGoroutine")=false∧fn.body=some c
 mixed:C.P.follows .mixedOrders=true
theorem jV {P:Program}:∀p∈([]:List (Nat×TI)),aq P p.1 p.2:=fun _ h=>by cases h
theorem ah {P:Program} {t:Nat} {i:TI} {l:List (Nat×TI)} (h:aq P t i) (r:∀p∈l,aq P p.1 p.2):∀p∈(t,i)::l,aq P p.1 p.2:=by
 intro p hp;rcases List.mem_cons.1 hp with rfl |hp
 ·exact h
 ·exact r p hp
theorem ng {P:Program} {l r:List (Nat×TI)} (h:∀p∈l,aq P p.1 p.2) (k:∀p∈r,aq P p.1 p.2):∀p∈l++r,aq P p.1 p.2:=fun p hp=>(List.mem_append.1 hp).elim (h p) (k p)
theorem mI {P:Program}:∀ {tab:List (Nat×TI)},(∀p∈tab,aq P p.1 p.2)→∀t,aq P t (match tab.lookup t with |some i=>i |none=>{})
 | [],_,t=>by simpa using aq.nothing P t
 |(u,i)::r,h,t=>by
  simp only [List.lookup_cons];by_cases hu:t=u
  ·subst hu;simpa using h (t,i) (by simp)
  ·have:(t==u)=false:=by simpa using hu
   simp only [this];exact mI (fun p hp=>h p (by simp [hp])) t
theorem vB {C:dL} (htab:∀p∈C.tab,aq C.P p.1 p.2) (hf:∀f,C.fns f=true→∃fn c,C.P.funcs[f]? =some fn∧(fn.name== "runtime.NumGoroutine")=false∧fn.body=some c) (hm:C.P.follows .mixedOrders=true):C.Ok:=
 ⟨fun t=>mI htab t,hf,hm⟩
def iC (P:Program) (s:Sem Value) (rs:Option Rs) (w:World) (K:Value→World→Prop):Prop:=match rs with
 |none=>False
 |some r=>CV r fun v=>∃w',s.run P w= .ok v w'∧K v w'
def yl (P:Program) (s:Sem Unit) (w:World) (K:Value→World→Prop):Prop:=∃w',s.run P w= .ok () w'∧K undef w'
def qD (P:Program) (t:TypeId) (w:World) (p q:Option Addr) (F:Bool→Prop):Prop:=match q with
 |none=>F p.isNone
 |some b=>match p with
  |none=>F false
  |some a=>∃r:Bool,(Op.equalIn (9999+1) t (.pointer (some a)) (.pointer (some b))).run P w= .ok r w∧F r
def vc:Value→Bool
 | .nilIface=>true
 | .nilFunc=>true
 |_=>false
def cM (C:dL) (op:BinOp) (t:TypeId) (cx cy:Operand) (x y:Value) (ot:TypeId) (w:World) (K:Value→World→Prop):Prop:=
 match x,y with
 | .int k a,.int k' b=>match op with
  | .shl=>0≤b∧K (.int k (k.wrap (a*2^(min b.toNat k.bits)))) w
  | .shr=>0≤b∧K (.int k (a.fdiv (2^(min b.toNat k.bits)))) w
  | .add=>match k==k' with |true=>Ar k (a+b) fun n=>K (.int k n) w |false=>False
  | .sub=>match k==k' with |true=>Ar k (a-b) fun n=>K (.int k n) w |false=>False
  | .mul=>match k==k' with |true=>Ar k (a*b) fun n=>K (.int k n) w |false=>False
  | .quo=>match k==k' with |true=>b≠0∧K (.int k (k.wrap (a.tdiv b))) w |false=>False
  | .rem=>match k==k' with |true=>b≠0∧K (.int k (a.tmod b)) w |false=>False
  | .and=>match k==k' with |true=>K (.int k (k.wrap (BitVec.ofInt k.bits a&&&BitVec.ofInt k.bits b).toNat)) w |false=>False
  | .or=>match k==k' with |true=>K (.int k (k.wrap (BitVec.ofInt k.bits a|||BitVec.ofInt k.bits b).toNat)) w |false=>False
  | .xor=>match k==k' with |true=>K (.int k (k.wrap (BitVec.ofInt k.bits a^^^BitVec.ofInt k.bits b).toNat)) w |false=>False
  | .andNot=>match k==k' with |true=>K (.int k (k.wrap (BitVec.ofInt k.bits a&&& ~~~ BitVec.ofInt k.bits b).toNat)) w |false=>False
  | .eql=>match k==k' with |true=>K (.bool (a==b)) w |false=>False
  | .neq=>match k==k' with |true=>K (.bool (a != b)) w |false=>False
  | .lss=>match k==k' with |true=>K (.bool (a<b)) w |false=>False
  | .leq=>match k==k' with |true=>K (.bool (a≤b)) w |false=>False
  | .gtr=>match k==k' with |true=>K (.bool (a>b)) w |false=>False
  | .geq=>match k==k' with |true=>K (.bool (a≥b)) w |false=>False
 | .string a,.string b=>match op with
  | .add=>((a.size+b.size:Nat):Int)≤IntKind.i64.max∧K (.string (a++b)) w
  | .eql=>K (.bool (a.toList==b.toList)) w
  | .neq=>K (.bool (!(a.toList==b.toList))) w
  | .lss=>K (.bool (Op.bytesLess a.toList b.toList)) w
  |_=>False
 | .bool a,.bool b=>match(C.ty t).isBool,op with
  |true,.eql=>K (.bool (a==b)) w
  |true,.neq=>K (.bool (!(a==b))) w
  |_,_=>False
 | .pointer p,.pointer q=>match(C.ty t).isPtr,op with
  |true,.eql=>qD C.P t w p q fun b=>K (.bool b) w
  |true,.neq=>qD C.P t w p q fun b=>K (.bool (!b)) w
  |_,_=>False
 | .slice p _ _,.slice none _ _=>match(C.ty t).isSlc,op with
  |true,.eql=>K (.bool p.isNone) w
  |true,.neq=>K (.bool (!p.isNone)) w
  |_,_=>False
 | .map p,.map none=>match(C.ty t).isMap,op with
  |true,.eql=>K (.bool p.isNone) w
  |true,.neq=>K (.bool (!p.isNone)) w
  |_,_=>False
 | .agg xs,.agg ys=>match(C.ty t).eqs with
  |none=>False
  |some l=>match xx l xs.toList ys.toList,op with
   |some b,.eql=>K (.bool b) w
   |some b,.neq=>K (.bool (!b)) w
   |_,_=>False
 |x,y=>iC C.P (do eqGuard op t cx cy x y;binOp op t x y) (C.ty ot).rs w K
def iS (C:dL) (op:BinOp) (t:TypeId) (cx cy:Operand) (x y:Value) (ot:TypeId) (w:World) (K:Value→World→Prop):Prop:=
 match vc y with
 |true=>iC C.P (do eqGuard op t cx cy x y;binOp op t x y) (C.ty ot).rs w K
 |false=>cM C op t cx cy x y ot w K
theorem j9 {P:Program} {s:Sem Value} {rs:Option Rs} {w:World} {K:Value→World→Prop} (h:iC P s rs w K):∃v w',s.run P w= .ok v w'∧K v w':=by
 unfold iC at h;split at h
 ·exact h.elim
 ·exact ni h
theorem ic (P:Program) (d:Nat) (t:TypeId) (a b:Bool) (w:World) (h:P.underlying t=some .bool):(Op.equalIn (d+1) t (.bool a) (.bool b)).run P w= .ok (a==b) w:=by
 simp [Op.equalIn,run_underlying h,Result.andThen]
theorem oa (P:Program) (d:Nat) (t e:TypeId) (p:Option Addr) (w:World) (h:P.underlying t=some (.pointer e)):(Op.equalIn (d+1) t (.pointer p) (.pointer none)).run P w= .ok p.isNone w:=by
 cases p<;>simp [Op.equalIn,run_underlying h,Result.andThen]
theorem je (P:Program) (d:Nat) (t e:TypeId) (p:Option Addr) (n c n' c':Nat) (w:World) (h:P.underlying t=some (.slice e)):(Op.equalIn (d+1) t (.slice p n c) (.slice none n' c')).run P w= .ok p.isNone w:=by
 cases p<;>simp [Op.equalIn,run_underlying h,Result.andThen]
theorem jf (P:Program) (d:Nat) (t k e:TypeId) (p:Option Nat) (w:World) (h:P.underlying t=some (.map k e)):(Op.equalIn (d+1) t (.map p) (.map none)).run P w= .ok p.isNone w:=by
 cases p<;>simp [Op.equalIn,run_underlying h,Result.andThen]
theorem sA (P:Program) (d:Nat) (t e:TypeId) (b:Addr) (w:World) (h:P.underlying t=some (.pointer e)):(Op.equalIn (d+1) t (.pointer none) (.pointer (some b))).run P w= .ok false w:=by
 simp [Op.equalIn,run_underlying h,Result.andThen]
theorem ml {P:Program} {t e:TypeId} {w:World} {p q:Option Addr} {F:Bool→Prop} (h:P.underlying t=some (.pointer e)) (hF:qD P t w p q F):
  ∃b,(Op.equalIn (9999+1) t (.pointer p) (.pointer q)).run P w= .ok b w∧F b:=by
 unfold qD at hF;split at hF
 ·exact⟨_,oa _ _ _ e _ _ h,hF⟩
 ·split at hF
  ·exact⟨false,sA _ _ _ e _ _ h,hF⟩
  ·obtain⟨r,hr,hF⟩:=hF;exact⟨r,hr,hF⟩
theorem jE {P:Program} {t:TypeId} {x y:Value} {w:World} {b:Bool} (cx cy:Operand) (hx:∀s:Sem Value,(do eqGuard .eql t cx cy x y;s:Sem Value).run P w=s.run P w)
  (hb:binOp .eql t x y=(do pure (.bool (←Op.equal t x y)))) (h:(Op.equalIn (9999+1) t x y).run P w= .ok b w):(do eqGuard .eql t cx cy x y;binOp .eql t x y:Sem Value).run P w= .ok (.bool b) w:=by
 rw [hx,hb];have:(Op.equal t x y).run P w= .ok b w:=h;rw [Sem.run_bind,this];rfl
theorem jH {P:Program} {t:TypeId} {x y:Value} {w:World} {b:Bool} (cx cy:Operand) (hx:∀s:Sem Value,(do eqGuard .neq t cx cy x y;s:Sem Value).run P w=s.run P w)
  (hb:binOp .neq t x y=(do pure (.bool (!(←Op.equal t x y))))) (h:(Op.equalIn (9999+1) t x y).run P w= .ok b w):(do eqGuard .neq t cx cy x y;binOp .neq t x y:Sem Value).run P w= .ok (.bool !b) w:=by
 rw [hx,hb];have:(Op.equal t x y).run P w= .ok b w:=h;rw [Sem.run_bind,this];rfl
theorem n0 {P:Program} {t:TypeId} {w:World} {xs:Array Value} {k:Nat} {v:Value} (h:(P.underlying t).map dP=some false) (hv:xs[k]? =some v):(part t xs k).run P w= .ok v w:=by
 have ha:(isAgg t).run P w= .ok false w:=by
  obtain⟨d,hd,hf⟩:=Option.map_eq_some_iff.1 h;cases d<;>simp [dP]at hf<;>simp [isAgg,run_underlying hd,Result.andThen]
 simp [part,ha,hv,Result.andThen]
theorem xL {P:Program} {t:TypeId} {e:xX} {x y:Value} {b:Bool} {w:World} (d:Nat) (hk:qI P t e=true) (h:C7 e x y=some b):(Op.equalIn (d+1) t x y).run P w= .ok b w∧(P.underlying t).map dP=some false:=by
 unfold C7 at h;split at h
 ·rename_i k a k' b';split at h
  ·rename_i hkk;have hkk:k=k':=by simpa using hkk
   subst hkk;cases h;simp only [qI]at hk;split at hk
   ·rename_i q hq;exact⟨run_equalIn_int w d t k q a b' hq,by rw [hq];rfl⟩
   ·cases hk
  ·cases h
 ·cases h;simp only [qI]at hk;split at hk
  ·rename_i hq;exact⟨run_equalIn_string w d t _ _ hq,by rw [hq];rfl⟩
  ·cases hk
 ·cases h;simp only [qI]at hk;split at hk
  ·rename_i hq;exact⟨run_equalIn_bool w d t _ _ hq,by rw [hq];rfl⟩
  ·cases hk
 ·cases h
theorem hZ {P:Program} {xs ys:Array Value} {w:World} (d:Nat):∀(fs:List Field) (k:Nat) (l:List xX) (b:Bool),tt P fs k l=true→xx l (xs.toList.drop k) (ys.toList.drop k)=some b→(Op.eqFields (d+1) xs ys fs).run P w= .ok b w
 | [],k,l,b,hf,h=>by
  cases l with
  |nil=>
   simp only [Op.eqFields];generalize xs.toList.drop k=p at h;generalize ys.toList.drop k=q at h;cases p<;>cases q<;>simp [xx]at h
   subst h;rfl
  |cons e l=>simp [tt]at hf
 |f::fs,k,[],b,hf,h=>by simp [tt]at hf
 |f::fs,k,e::l,b,hf,h=>by
  simp only [tt,Bool.and_eq_true,decide_eq_true_eq]at hf;obtain⟨h1,h2,h3,h4⟩:=hf;have h2:=Nat.eq_of_beq_eq_true h2;cases hx:xs.toList.drop k with
  |nil=>rw [hx]at h;simp [xx]at h
  |cons x xr=>
   cases hy:ys.toList.drop k with
   |nil=>rw [hx,hy]at h;simp [xx]at h
   |cons y yr=>
    rw [hx,hy]at h;simp only [xx]at h;split at h
    ·rename_i b1 b2 he hr;cases h;obtain⟨hrun,hagg⟩:=xL (w:=w) d h3 he;have gx:xs[f.offset]? =some x:=by
      rw [h2];have:=congrArg (·[0]?) hx;simpa using this
     have gy:ys[f.offset]? =some y:=by
      rw [h2];have:=congrArg (·[0]?) hy;simpa using this
     have tx:xs.toList.drop (k+1)=xr:=by
      rw [←List.drop_drop,hx];rfl
     have ty:ys.toList.drop (k+1)=yr:=by
      rw [←List.drop_drop,hy];rfl
     have rest:=hZ (xs:=xs) (ys:=ys) (w:=w) d fs (k+1) l b2 h4 (by rw [tx,ty];exact hr);simp only [Op.eqFields,h1,ne_eq,not_false_eq_true,if_true,Sem.run_bind,n0 hagg gx,n0 hagg gy,hrun,Result.andThen];cases b1
     ·rfl
     ·simpa using rest
    ·cases h
theorem gH {P:Program} {t:TypeId} {l:List xX} {xs ys:Array Value} {b:Bool} {w:World} (h:kH P t l=true) (he:xx l xs.toList ys.toList=some b):(Op.equalIn 10000 t (.agg xs) (.agg ys)).run P w= .ok b w∧P.eqGuardType P.depth t=false:=by
 simp only [kH,Bool.and_eq_true,Bool.not_eq_true']at h;obtain⟨h1,h2,h3,h4⟩:=h;refine⟨?_,h3⟩;have hs:P.underlying t=some (.struct (P.fieldsOf t)):=by
  unfold Program.fieldsOf;split at h1
  ·rename_i hu;rw [hu]
  ·cases h1
 rw [run_equalIn_struct w 9999 t xs ys hs h2];exact hZ 9998 _ 0 l b h4 he
theorem ql {C:dL} (hC:C.Ok) {op:BinOp} {t:TypeId} {cx cy:Operand} {x y:Value} {ot:TypeId} {w:World} {K:Value→World→Prop} (h:cM C op t cx cy x y ot w K):
  ∃v w',(do eqGuard op t cx cy x y;binOp op t x y:Sem Value).run C.P w= .ok v w'∧K v w':=by
 unfold cM at h;split at h
 ·rename_i k a k' b;have hg:∀(f:Sem Value),(do eqGuard op t cx cy (.int k a) (.int k' b);f:Sem Value).run C.P w=f.run C.P w:=by
   intro f;cases op<;>simp [eqGuard,Result.andThen]
  rw [hg];by_cases hk:k=k'
  ·subst hk;cases op<;>simp only [beq_self_eq_true]at h<;>simp only [binOp,Op.shift,Op.intArith,Op.intDiv,Op.intBits,Op.intCmp,Ar,ne_eq,not_true_eq_false,if_false]at h⊢
   case shl=>rw [if_neg (by omega)];exact⟨_,_,rfl,h.2⟩
   case shr=>rw [if_neg (by omega)];exact⟨_,_,rfl,h.2⟩
   case quo=>rw [if_neg h.1];exact⟨_,_,rfl,h.2⟩
   case rem=>rw [if_neg h.1];exact⟨_,_,rfl,h.2⟩
   all_goals exact⟨_,_,rfl,h⟩
  ·have hkf:(k==k')=false:=by simpa using hk
   cases op<;>simp only [hkf]at h
   case shl=>simp only [binOp,Op.shift];rw [if_neg (by omega)];exact⟨_,_,rfl,h.2⟩
   case shr=>simp only [binOp,Op.shift];rw [if_neg (by omega)];exact⟨_,_,rfl,h.2⟩
 ·rename_i a b;have hg:∀(f:Sem Value),(do eqGuard op t cx cy (.string a) (.string b);f:Sem Value).run C.P w=f.run C.P w:=by
   intro f;cases op<;>simp [eqGuard,Result.andThen]
  rw [hg];cases op<;>simp only [binOp,Op.stringOp]at h⊢
  case add=>rw [if_neg (by omega)];exact⟨_,_,rfl,h.2⟩
  all_goals first |exact⟨_,_,rfl,h⟩ |exact h.elim
 ·rename_i a b;have hu:=(hC.ty t).isBool;split at h
  ·rename_i hb;exact⟨_,_,jE _ _ (fun _=>rfl) rfl (ic _ _ _ _ _ _ (hu hb)),h⟩
  ·rename_i hb;exact⟨_,_,jH _ _ (fun _=>rfl) rfl (ic _ _ _ _ _ _ (hu hb)),h⟩
  ·exact h.elim
 ·rename_i p q;have hu:=(hC.ty t).isPtr;split at h
  ·rename_i hb;obtain⟨e,hu⟩:=hu hb;obtain⟨b,hr,hF⟩:=ml hu h;exact⟨_,_,jE _ _ (fun _=>rfl) (by cases p<;>cases q<;>rfl) hr,hF⟩
  ·rename_i hb;obtain⟨e,hu⟩:=hu hb;obtain⟨b,hr,hF⟩:=ml hu h;exact⟨_,_,jH _ _ (fun _=>rfl) (by cases p<;>cases q<;>rfl) hr,hF⟩
  ·exact h.elim
 ·have hu:=(hC.ty t).isSlc;split at h
  ·rename_i hb;obtain⟨e,hu⟩:=hu hb;exact⟨_,_,jE _ _ (fun _=>rfl) rfl (je _ _ _ e _ _ _ _ _ _ hu),h⟩
  ·rename_i hb;obtain⟨e,hu⟩:=hu hb;exact⟨_,_,jH _ _ (fun _=>rfl) rfl (je _ _ _ e _ _ _ _ _ _ hu),h⟩
  ·exact h.elim
 ·have hu:=(hC.ty t).isMap;split at h
  ·rename_i hb;obtain⟨k,e,hu⟩:=hu hb;exact⟨_,_,jE _ _ (fun _=>rfl) rfl (jf _ _ _ k e _ _ hu),h⟩
  ·rename_i hb;obtain⟨k,e,hu⟩:=hu hb;exact⟨_,_,jH _ _ (fun _=>rfl) rfl (jf _ _ _ k e _ _ hu),h⟩
  ·exact h.elim
 ·rename_i xs ys;split at h
  ·exact h.elim
  ·rename_i l hl;have hf:=(hC.ty t).eqs l hl;split at h
   ·rename_i b hb;obtain⟨hr,hg⟩:=gH (w:=w) hf hb;refine⟨_,_,?_,h⟩;rw [Sem.run_bind,run_eqGuard_agg _ _ _ _ _ _ _ hg];simp only [Result.andThen];rw [run_eql_struct,hr];rfl
   ·rename_i b hb;obtain⟨hr,hg⟩:=gH (w:=w) hf hb;refine⟨_,_,?_,h⟩;rw [Sem.run_bind,run_eqGuard_agg _ _ _ _ _ _ _ hg];simp only [Result.andThen];rw [run_neq_struct,hr];rfl
   ·exact h.elim
 ·exact j9 h
theorem rP {C:dL} (hC:C.Ok) {op:BinOp} {t:TypeId} {cx cy:Operand} {x y:Value} {ot:TypeId} {w:World} {K:Value→World→Prop} (h:iS C op t cx cy x y ot w K):
  ∃v w',(do eqGuard op t cx cy x y;binOp op t x y:Sem Value).run C.P w= .ok v w'∧K v w':=by
 unfold iS at h;split at h
 ·exact j9 h
 ·exact ql hC h
def pi (e:be):List (Nat×Operand)→Option (List (Nat×Value))
 | []=>some []
 |(i,x)::r=>match ev e x with
  |none=>none
  |some v=>match pi e r with
   |none=>none
   |some vs=>some ((i,v)::vs)
theorem gG.evps {n:Nat} {a:Act} {e:be} (h:gG n a e):∀ {l:List (Nat×Operand)} {vs:List (Nat×Value)},Eng.pi e l=some vs→l.map (fun p=>(p.1,a.eval p.2))=vs
 | [],vs,hx=>by simp [Eng.pi]at hx;simp [hx]
 |(i,x)::r,vs,hx=>by
  simp only [Eng.pi]at hx;split at hx
  ·cases hx
  ·rename_i v hv;split at hx
   ·cases hx
   ·rename_i t ht;cases hx;simp [h.ev hv,h.evps ht]
def d7 (cells:List Value) (off:Nat) (vs:List Value):List Value:=cells.take off++vs++cells.drop (off+vs.length)
def gP (place:Nat→Option (Nat×Nat)) (cells:List Value):List (Nat×Value)→Option (List Value)
 | []=>some cells
 |(i,v)::rest=>match place i with
  |none=>none
  |some (off,size)=>match Nat.beq v.cells.toList.length size&&Nat.ble (off+size) cells.length with
   |false=>none
   |true=>gP place (d7 cells off v.cells.toList) rest
theorem mz (off:Nat):∀(vs:List Value) (k:Nat) (cs:Array Value),off+k+vs.length≤cs.size→
  (vs.zipIdx k).foldl (fun cs (p:Value×Nat)=>cs.setIfInBounds (off+p.2) p.1) cs=(d7 cs.toList (off+k) vs).toArray
 | [],k,cs,h=>by simp [d7]
 |v::r,k,cs,h=>by
  simp only [List.length_cons]at h;rw [List.zipIdx_cons,List.foldl_cons,mz off r (k+1) _ (by simp;omega)];congr 1;have hi:off+k<cs.toList.length:=by simp;omega
  simp only [d7,Array.toList_setIfInBounds,List.length_cons,List.set_eq_take_append_cons_drop,hi,if_true];have hlen:(cs.toList.take (off+k)).length=off+k:=by rw [List.length_take];omega
  rw [show off+(k+1)=(cs.toList.take (off+k)).length+1 from by omega,List.take_length_add_append,show(cs.toList.take (off+k)).length+1+r.length=(cs.toList.take (off+k)).length+(1+r.length)from by omega,List.drop_length_add_append];rw [Nat.add_comm 1 r.length];simp only [List.drop_succ_cons,List.drop_drop,List.take_succ_cons,List.take_zero,List.append_assoc,List.cons_append,List.nil_append];rw [show off+k+1+r.length=off+k+(r.length+1)from by omega]
theorem eb {place:Nat→Option (Nat×Nat)}:∀ {ps:List (Nat×Value)} {cells out:List Value},gP place cells ps=some out→Instr.fill place cells.toArray ps=some out.toArray
 | [],cells,out,h=>by simp [gP]at h;simp [Instr.fill,h]
 |(i,v)::rest,cells,out,h=>by
  simp only [gP]at h;split at h
  ·cases h
  ·rename_i off size hp;split at h
   ·cases h
   ·rename_i hb;have hb1:v.cells.toList.length=size:=Nat.eq_of_beq_eq_true (Bool.and_eq_true_iff.1 hb).1;have hb2:off+size≤cells.length:=Nat.le_of_ble_eq_true (Bool.and_eq_true_iff.1 hb).2;have h1:v.cells.size=size:=by rw [←hb1];simp
    simp only [Instr.fill,hp];rw [if_neg (by simp [h1];omega)];have:=eb h;rw [←this];congr 1;have hf:=mz off v.cells.toList 0 cells.toArray (by simp [h1];omega);simp only [Nat.add_zero]at hf;rw [←hf, ←Array.foldl_toList];simp [Array.toList_zipIdx]
def gz (z:List Value):Nat→List Value
 |0=>[]
 |n+1=>z++gz z n
theorem mf (z:List Value) (hz:0<z.length):∀(n i:Nat),i<n*z.length→(gz z n)[i]? =z[i%z.length]?
 |0,i,h=>by simp at h
 |n+1,i,h=>by
  simp only [gz];rw [Nat.succ_mul]at h;by_cases hi:i<z.length
  ·rw [List.getElem?_append_left hi,Nat.mod_eq_of_lt hi]
  ·rw [List.getElem?_append_right (by omega),mf z hz n _ (by omega),Nat.mod_eq_sub_mod (a:=i) (by omega)]
theorem lY (z:List Value):∀n,(gz z n).length=n*z.length
 |0=>by simp [gz]
 |n+1=>by simp [gz,lY z n,Nat.succ_mul];omega
theorem ry (z:Array Value) (n:Nat) (hz:0<z.size):(Array.range (n*z.size)).map (z[·%z.size]!)=(gz z.toList n).toArray:=by
 apply Array.ext_getElem?;intro i;by_cases hi:i<n*z.size
 ·have h1:i%z.size<z.size:=Nat.mod_lt _ hz;rw [Array.getElem?_map,Array.getElem?_range,if_pos hi];simp only [Option.map_some,List.getElem?_toArray];rw [mf _ (by simpa using hz) _ _ (by simpa using hi)];simp [getElem!_pos,h1]
 ·rw [Array.getElem?_eq_none (by simp;omega),Array.getElem?_eq_none (by simp [lY];omega)]
def ce (p:Option Addr) (l m s:Nat):Option Addr:=if m=l then p else p.map (·.add (l*s))
def zC (e:be) (x:Option Operand) (d:Nat):Option Int:=match x with
 |none=>some (d:Int)
 |some o=>match ev e o with
  |some (.int _ n)=>some n
  |_=>none
def Az:Value→Bool
 | .func (.func _) _ _=>true
 | .iface _ _=>true
 |_=>false
def bM {α:Type}:List α→Nat→Option α
 | [],_=>none
 |x::_,0=>some x
 |_::r,n+1=>bM r n
theorem aX {α:Type}:∀(l:List α) (i:Nat),bM l i=l[i]?
 | [],_=>by simp [bM]
 |_::_,0=>by simp [bM]
 |_::r,n+1=>by simp [bM,aX r n]
def iw (l:List (Nat×Nat×Bool)) (i:Nat):Option (Nat×Nat):=match bM l i with
 |some x=>some (x.1,x.2.1+1)
 |none=>none
def fy (s i:Nat):Option (Nat×Nat):=some (i*s,s)
theorem oJ (l:List (Nat×Nat×Bool)) (i:Nat):iw l i=(l.map fun x=>(x.1,x.2.1+1))[i]? :=by
 simp only [iw,aX,List.getElem?_map];cases l[i]? <;>rfl
def dY (C:dL) (b:Builtin) (ats:List TypeId) (t:TypeId) (consts:Array Bool) (args:List Value) (w:World) (K:Value→World→Prop):Prop:=
 match b with
 | .len=>match ats,args with
  | [u],[.string s]=>match(C.ty u).isStr with |true=>K (.int .i64 s.size) w |false=>False
  | [u],[.slice _ n _]=>match(C.ty u).isSlc with |true=>K (.int .i64 n) w |false=>False
  |_,args=>iC C.P (Go.Builtin.len_ ats.toArray t args.toArray) (C.ty t).rs w K
 | .append=>iC C.P (Go.Builtin.append_ ats.toArray t args.toArray) (C.ty t).rs w K
 | .cap=>iC C.P (Go.Builtin.cap_ ats.toArray t args.toArray) (C.ty t).rs w K
 | .copy=>iC C.P (Go.Builtin.copy_ ats.toArray t args.toArray) (C.ty t).rs w K
 | .delete=>iC C.P (Go.Builtin.delete_ ats.toArray t args.toArray) (C.ty t).rs w K
 | .clear=>iC C.P (Go.Builtin.clear_ ats.toArray t args.toArray) (C.ty t).rs w K
 | .max=>iC C.P (Go.Builtin.max_ ats.toArray t args.toArray) (C.ty t).rs w K
 | .min=>iC C.P (Go.Builtin.min_ ats.toArray t args.toArray) (C.ty t).rs w K
 | .unsafeSliceData=>iC C.P (Go.Builtin.unsafeSliceData_ ats.toArray t args.toArray) (C.ty t).rs w K
 | .unsafeString=>iC C.P (Go.Builtin.unsafeString_ ats.toArray t args.toArray) (C.ty t).rs w K
 |_=>False
theorem j7 {C:dL} (hC:C.Ok) {b:Builtin} {ats:List TypeId} {t:TypeId} {consts:Array Bool} {args:List Value} {w:World} {K:Value→World→Prop} (h:dY C b ats t consts args w K):
  ∃v w',(builtin b ats.toArray t consts args.toArray).run C.P w= .ok (.value v) w'∧K v w':=by
 cases b<;>simp only [dY]at h
 case len=>
  split at h
  ·rename_i u s;split at h
   ·rename_i hu;exact⟨_,_,by simp [builtin,Go.Builtin.len_,run_underlying ((hC.ty u).isStr hu),Result.andThen,goInt],h⟩
   ·exact h.elim
  ·rename_i u _ n _;split at h
   ·rename_i hu;obtain⟨e,hu⟩:=(hC.ty u).isSlc hu;exact⟨_,_,by simp [builtin,Go.Builtin.len_,run_underlying hu,Result.andThen,goInt],h⟩
   ·exact h.elim
  ·obtain⟨v,w',hr,hk⟩:=j9 h;exact⟨v,w',by simp [builtin,hr,Result.andThen],hk⟩
 all_goals first
  |exact h.elim
  |(obtain⟨v,w',hr,hk⟩:=j9 h;exact⟨v,w',by simp [builtin,hr,Result.andThen],hk⟩)
def cN (C:dL) (o:Oper) (e:be) (w:World) (K:Value→World→Prop):Prop:=
 match o.op with
 | .move x=>match ev e x with |some v=>K v w |none=>False
 | .assign x=>match ev e x with |some v=>K v w |none=>False
 | .pick c a b=>match ev e c,ev e a,ev e b with
  |some (.bool t),some x,some y=>aa t (K x w) (K y w)
  |_,_,_=>False
 | .alloc t=>match(C.ty t).zero with
  |some z=>∀w',w'=w.alloc (.cells z.cells t)→K (.pointer (some ⟨w.heap.size,0,none⟩)) w'
  |none=>False
 | .box t x=>match ev e x with
  |some v=>∀w',w'=w.alloc (.cells v.cells t)→K (.pointer (some ⟨w.heap.size,0,none⟩)) w'
  |none=>False
 | .build t ps=>match(C.ty t).zero,pi e ps.toList,(C.ty t).offs,(C.ty t).arr with
  |some z,some vs,some l,_=>match gP (iw l) z.cells.toList vs with
   |some out=>K (.agg out.toArray) w
   |none=>False
  |some z,some vs,none,some (_,s)=>match gP (fy s) z.cells.toList vs with
   |some out=>K (.agg out.toArray) w
   |none=>False
  |_,_,_,_=>False
 | .buildSlice t n ps=>match(C.ty t).slc with
  |none=>False
  |some (u,s)=>match(C.ty u).zero,pi e ps.toList with
   |some z,some vs=>match Nat.ble (n*s) 16777216&&Nat.ble 1 s&&Nat.beq z.cells.toList.length s with
    |false=>False
    |true=>match gP (fy s) (gz z.cells.toList n) vs with
     |some out=>∀w',w'=w.alloc (.cells out.toArray u)→K (.slice (some ⟨w.heap.size,0,none⟩) n n) w'
     |none=>False
   |_,_=>False
 | .load t x=>match ev e x with
  |some (.pointer p)=>ac p fun ad=>match(C.ty t).agg,(C.ty t).rs,(C.ty t).size with
   |some false,some (.one (.leaf l)),_=>uT l fun v=>w.cell? ad=some v∧K v w
   |some true,some (.one (.agg ls)),some n=>match Nat.beq n ls.length with
    |true=>rA ls fun vs=>de w ad vs 0∧K (.agg vs.toArray) w
    |false=>False
   |_,_,_=>False
  |_=>False
 | .store t x y=>match ev e x,ev e y,(C.ty t).agg,(C.ty t).size with
  |some (.pointer p),some v,some false,some 1=>ac p fun ad=>aG w ad (fun w'=>K undef w') [v] 0
  |some (.pointer p),some (.agg cs),some true,some n=>match Nat.beq cs.toList.length n with
   |true=>ac p fun ad=>aG w ad (fun w'=>K undef w') cs.toList 0
   |false=>False
  |_,_,_,_=>False
 | .nilCheck x=>match ev e x with
  |some (.pointer p)=>ac p fun ad=>K (.pointer (some ad)) w
  |some v=>Az v=true∧K v w
  |none=>False
 | .binOp op t x y _=>match ev e x,ev e y with
  |some a,some b=>iS C op t x y a b o.type w K
  |_,_=>False
 | .unOp op _ x=>match op,ev e x with
  | .not,some (.bool b)=>K (.bool (!b)) w
  | .neg,some (.int k n)=>Ar k (0-n) fun m=>K (.int k m) w
  |_,_=>False
 | .convert s d x=>match ev e x,(C.ty d).intk,(C.ty s).intk with
  |some (.int _ n),some k',some _=>K (.int k' (k'.wrap n)) w
  |some v,_,_=>iC C.P (convert s d v) (C.ty d).rs w K
  |_,_,_=>False
 | .makeInterface t x=>match(C.ty t).conc,ev e x with
  |true,some v=>K (.iface t v) w
  |_,_=>False
 | .makeFunc fn first cap=>match xe e first.toList,xe e cap.toList with
  |some vs,some us=>K (.func fn vs.toArray us.toArray) w
  |_,_=>False
 | .makeMap t r=>match r with
  |none=>iC C.P (Instr.makeMap t none) (C.ty o.type).rs w K
  |some x=>match ev e x with
   |some v=>iC C.P (Instr.makeMap t (some v)) (C.ty o.type).rs w K
   |none=>False
 | .makeSlice t l c=>match ev e l,ev e c with
  |some a,some b=>iC C.P (Instr.makeSlice t a b) (C.ty o.type).rs w K
  |_,_=>False
 | .slice t x lo hi mx=>match ev e x with
  |some (.string s)=>match(C.ty t).isStr,zC e lo 0,zC e hi s.size,mx with
   |true,some l,some h,none=>0≤l∧l≤h∧h≤s.size∧K (.string (s.extract l.toNat h.toNat)) w
   |_,_,_,_=>False
  |some (.slice p n c)=>match(C.ty t).slc,zC e lo 0,zC e hi n,zC e mx c with
   |some (_,s),some l,some h,some m=>0≤l∧l≤h∧(match hi with |none=>True |some _=>h≤m)∧(match mx with |none=>True |some _=>m≤c)∧(match hi,mx with |none,some _=>False |_,_=>True)∧K (.slice (ce p l.toNat m.toNat s) (h.toNat-l.toNat) (m.toNat-l.toNat)) w
   |_,_,_,_=>False
  |_=>False
 | .fieldAddr t x f=>match ev e x,(C.ty t).offs with
  |some (.pointer p),some l=>ac p fun ad=>match bM l f with
   |some y=>K (.pointer (some (ad.add y.1))) w
   |none=>False
  |_,_=>False
 | .field t x f=>match ev e x,(C.ty t).offs with
  |some (.agg cs),some l=>match bM l f with
   |some (off,s,true)=>K (.agg ((cs.toList.drop off).take (s+1)).toArray) w
   |some (off,_,false)=>match bM cs.toList off with
    |some v=>K v w
    |none=>False
   |none=>False
  |_,_=>False
 | .indexAddr t x i=>match ev e x,ev e i with
  |some (.slice p n _),some (.int _ j)=>match(C.ty t).slc with
   |some (_,s)=>ac p fun ad=>0≤j∧j<n∧K (.pointer (some (ad.add (j.toNat*s)))) w
   |none=>False
  |some (.pointer p),some (.int _ j)=>match(C.ty t).arr with
   |some (n,s)=>ac p fun ad=>0≤j∧j<n∧K (.pointer (some (ad.add (j.toNat*s)))) w
   |none=>False
  |_,_=>False
 | .index t x i=>match ev e x,ev e i with
  |some (.string s),some (.int _ j)=>match(C.ty t).isStr with
   |true=>0≤j∧j<s.size∧K (.int .u8 (fI s j)) w
   |false=>False
  |some a,some b=>iC C.P (Instr.index t a b) (C.ty o.type).rs w K
  |_,_=>False
 | .lookup t m k ok=>match ev e m,ev e k with
  |some a,some b=>iC C.P (Instr.lookup t a b ok) (C.ty o.type).rs w K
  |_,_=>False
 | .mapUpdate t m k x=>match ev e m,ev e k,ev e x with
  |some a,some b,some c=>yl C.P (Instr.mapUpdate t a b c) w K
  |_,_,_=>False
 | .insert t m k x=>match ev e m,ev e k,ev e x with
  |some a,some b,some c=>yl C.P (Instr.mapUpdate t a b c) w K
  |_,_,_=>False
 | .mapEntry t m k=>match ev e m,ev e k with
  |some a,some b=>match(C.ty t).elemSh with
   |some sh=>iC C.P (Instr.mapEntry t a b) (some (.tup [sh,.leaf (.int .i64)])) w K
   |none=>False
  |_,_=>False
 | .entryStore t m s x=>match ev e m,ev e s,ev e x with
  |some a,some b,some c=>yl C.P (Instr.entryStore t a b c) w K
  |_,_,_=>False
 | .range t x=>match ev e x with
  |some a=>iC C.P (Instr.range t a) (some (.one (.leaf .ptr))) w K
  |none=>False
 | .next x s=>match ev e x with
  |some a=>match s with
   |true=>iC C.P (Instr.next a true o.type) (C.ty o.type).rs w K
   |false=>iC C.P (Instr.next a false o.type) (some (.tup [.leaf .bool])) w K∨iC C.P (Instr.next a false o.type) (some (.tup [.leaf .bool,.leaf .any,.leaf .any])) w K
  |none=>False
 | .entry x=>match ev e x with
  |some a=>iC C.P (Instr.entry a) (some (.tup [.leaf .any,.leaf .any])) w K
  |none=>False
 | .typeAssert x xt at_ ok=>match ev e x with
  |some a=>iC C.P (Instr.typeAssert a xt at_ ok) (C.ty o.type).rs w K
  |none=>False
 | .extract x i=>match ev e x with
  |some (.tuple vs)=>match bM vs.toList i with
   |some v=>match C.re with
    |false=>K v w
    |true=>match(C.ty o.type).rs with
     |some (.one (.leaf l))=>uT l fun u=>v=u∧K u w
     |_=>K v w
   |none=>False
  |_=>False
 | .call c=>match c.callee with
  | .builtin b=>match xe e c.args.toList with
   |some vs=>dY C b c.argTypes.toList o.type (c.args.map fun | .const _=>true |_=>false) vs w K
   |none=>False
  |_=>False
 |_=>False
theorem cV {P:Program} {t:TypeId} {b:Bool} (h:(P.underlying t).map dP=some b) (w:World):(isAgg t).run P w= .ok b w:=by
 obtain⟨d,hd,rfl⟩:=Option.map_eq_some_iff.1 h;unfold isAgg;cases d<;>simp [run_underlying hd,Result.andThen,dP]
theorem aP {P:Program} {t:TypeId} {n:Nat} (h:(P.info? t).map (·.size)=some n) (w:World):(sizeOf t).run P w= .ok n w:=by
 obtain⟨d,hd,rfl⟩:=Option.map_eq_some_iff.1 h;simp [sizeOf,typeInfo,hd,Result.andThen]
theorem dT {P:Program} {t:TypeId} {v:Value} (h:(P.info? t).map (·.zero)=some (some v)) (w:World):(zeroValue t).run P w= .ok v w:=by
 obtain⟨d,hd,hz⟩:=Option.map_eq_some_iff.1 h;simp [zeroValue,typeInfo,hd,hz,Result.andThen]
theorem cm {P:Program} {w:World} {a:Addr}:∀(vs:List Value) (i:Nat) (acc:Array Value),de w a vs i→(loadCellsFrom a i vs.length acc).run P w= .ok (acc++vs.toArray) w
 | [],i,acc,_=>by simp [loadCellsFrom]
 |v::r,i,acc,h=>by
  obtain⟨h1,h2⟩:=h;simp only [List.length_cons,loadCellsFrom,Sem.run_bind,run_load,h1,Result.andThen];rw [cm r (i+1) (acc.push v) h2];simp
theorem dJ {P:Program} {a:Addr} {k:World→Prop}:∀(vs:List Value) (i:Nat) (w:World),aG w a k vs i→∃w',(storeCells a vs i).run P w= .ok () w'∧k w'
 | [],i,w,h=>⟨w,by simp [storeCells],h w rfl⟩
 |v::r,i,w,h=>by
  obtain⟨h1,⟨u,h2⟩,h3,h4⟩:=h;obtain⟨w',hr,hk⟩:=dJ r (i+1) _ h4;refine⟨w',?_,hk⟩;simp only [storeCells,Sem.run_bind,run_store P w _ v _ h1,h2,h3,Result.andThen];exact hr
theorem dt {p:Option Addr} {k:Addr→Prop} (h:ac p k):∃a,p=some a∧k a:=by
 cases p with
 |none=>exact h.elim
 |some a=>exact⟨a,rfl,h⟩
theorem ix {n:Nat} {a:Act} {e:be} (hS:gG n a e) {x:Option Operand} {d:Nat} {z:Int} (h:zC e x d=some z):(x=none∧z=d)∨(∃o k,x=some o∧a.eval o= .int k z):=by
 cases x with
 |none=>simp only [zC,Option.some.injEq]at h;exact .inl ⟨rfl,h.symm⟩
 |some o=>
  simp only [zC]at h;split at h
  ·rename_i k m hm;cases h;exact .inr ⟨o,k,rfl,hS.ev hm⟩
  ·cases h
theorem bj {P:Program} {k:IntKind} {i:Int} {y:Nat} {code:BoundsCode} (h0:0≤i) (h1:i≤y) (w:World):(Instr.sliceBound (.int k i) y code).run P w= .ok i.toNat w:=by
 simp [Instr.sliceBound,asIntOf,Result.andThen,h0,h1]
def ku:Op→Bool
 | .store .. =>true
 | .mapUpdate .. =>true
 | .insert .. =>true
 | .entryStore .. =>true
 |_=>false
def fj (P:Program) (o:Oper) (a:Act) (w:World) (K:Value→World→Prop):Prop:=
 (∃v w',(execOp a.eval o).run P w= .ok (.value v) w'∧K v w')∨(ku o.op=true∧∃w',(execOp a.eval o).run P w= .ok .skip w'∧K undef w')
theorem cC {P:Program} {o:Oper} {a:Act} {w:World} {K:Value→World→Prop} {rs:Option Rs} {s:Sem Value} (h:iC P s rs w K) (he:execOp a.eval o=(do pure (.value (←s)))):fj P o a w K:=by
 obtain⟨v,w',hr,hk⟩:=j9 h;exact .inl ⟨v,w',by rw [he];simp [hr,Result.andThen],hk⟩
theorem lD {P:Program} {o:Oper} {a:Act} {w:World} {K:Value→World→Prop} {s:Sem Unit} (h:yl P s w K) (hu:ku o.op=true) (he:execOp a.eval o=(do s;pure .skip)):fj P o a w K:=by
 obtain⟨w',hr,hk⟩:=h;exact .inr ⟨hu,w',by rw [he];simp [hr,Result.andThen],hk⟩
theorem j8 {P:Program} (t:TypeId) (v:Value) (w:World):(newVar t v).run P w= .ok ⟨w.heap.size,0,none⟩ (w.alloc (.cells v.cells t)):=by
 simp only [newVar,newRow,Sem.run_bind,run_newObj,Result.andThen,Sem.run_pure];rfl
theorem jX {P:Program} (t:TypeId) (c:Array Value) (w:World):(newRow t c).run P w= .ok ⟨w.heap.size,0,none⟩ (w.alloc (.cells c t)):=by
 simp only [newRow,Sem.run_bind,run_newObj,Result.andThen,Sem.run_pure];rfl
section
variable {C:dL} {n:Nat} {a:Act} {e:be} {w:World} {K:Value→World→Prop}
theorem sF (hC:C.Ok) (hS:gG n a e) (o:Oper) {t:TypeId} {x:Operand} {f:Nat} (ho:o.op= .field t x f) (h:cN C o e w K):fj C.P o a w K:=by
 simp only [cN,ho]at h;split at h
 ·rename_i cs l hx hl;obtain⟨fs,hu,hm⟩:=(hC.ty t).offs _ hl;have hex:execOp a.eval o=(do pure (.value (←Instr.field t (a.eval x) f))):=by simp only [execOp,ho]
  rw [aX]at h;have hg:∀y,l[f]? =some y→∃fd,fs[f]? =some fd∧fd.offset=y.1∧(C.P.info? fd.type).map (·.size)=some (y.2.1+1)∧(C.P.underlying fd.type).map dP=some y.2.2:=by
   intro y hy;have:=congrArg (·[f]?) hm;simp only [List.getElem?_map,hy,Option.map_some]at this;obtain⟨fd,hfd,he⟩:=Option.map_eq_some_iff.1 this;simp only [Prod.mk.injEq]at he;exact⟨fd,by simpa using hfd,he.1,he.2.1,he.2.2⟩
  split at h
  ·rename_i off s hy;obtain⟨fd,hfd,h1,h2,h3⟩:=hg _ hy;refine .inl ⟨_,_,?_,h⟩;rw [hex];simp [Instr.field,run_underlying hu,Result.andThen,hfd,hS.ev hx,asAgg,part,cV h3,aP h2];rw [show fd.offset=off from h1];apply Array.toList_inj.1;simp [Array.toList_extract,List.extract_eq_take_drop]
  ·rename_i off s hy;obtain⟨fd,hfd,h1,h2,h3⟩:=hg _ hy;rw [aX]at h;split at h
   ·rename_i v hv;refine .inl ⟨_,_,?_,h⟩;rw [hex];have hv':cs[fd.offset]? =some v:=by rw [h1];simpa using hv
    simp [Instr.field,run_underlying hu,Result.andThen,hfd,hS.ev hx,asAgg,part,cV h3,hv']
   ·exact h.elim
  ·exact h.elim
 ·exact h.elim
theorem ld (hC:C.Ok) (hS:gG n a e) (o:Oper) {t:TypeId} {x:Operand} {f:Nat} (ho:o.op= .fieldAddr t x f) (h:cN C o e w K):fj C.P o a w K:=by
 simp only [cN,ho]at h;split at h
 ·rename_i p l hx hl;obtain⟨ad,rfl,h⟩:=dt h;obtain⟨fs,hu,hm⟩:=(hC.ty t).offs _ hl;rw [aX]at h;split at h
  ·rename_i y hy;have:=congrArg (·[f]?) hm;simp only [List.getElem?_map,hy,Option.map_some]at this;obtain⟨fd,hfd,he⟩:=Option.map_eq_some_iff.1 this;simp only [Prod.mk.injEq]at he;obtain⟨h1,h2,h3⟩:=he;refine .inl ⟨_,_,?_,h⟩;have hfd':fs[f]? =some fd:=by simpa using hfd
   simp [execOp,ho,hS.ev hx,Instr.fieldAt,run_underlying hu,Result.andThen,hfd',Instr.sureAddr,fieldPlace,aP h2,h1]
  ·exact h.elim
 ·exact h.elim
theorem sm (hC:C.Ok) (hS:gG n a e) (o:Oper) {t:TypeId} {x:Operand} {lo hi mx:Option Operand} (ho:o.op= .slice t x lo hi mx) (h:cN C o e w K):fj C.P o a w K:=by
 simp only [cN,ho]at h;have hex:execOp a.eval o=(do pure (.value (←Instr.sliceAt t (a.eval x) (lo.map a.eval) (hi.map a.eval) (mx.map a.eval)))):=by simp only [execOp,ho]
 split at h
 ·rename_i s hx;split at h
  ·rename_i l hh hs hl hhh;obtain⟨h0,h1,h2,hk⟩:=h;have hu:=(hC.ty t).isStr hs;refine .inl ⟨_,_,?_,hk⟩;rw [hex,hS.ev hx];rcases ix hS hl with⟨rfl,rfl⟩ |⟨ol,kl,rfl,hel⟩<;>rcases ix hS hhh with⟨rfl,rfl⟩ |⟨oh,kh,rfl,heh⟩
   ·simp [Instr.sliceAt,Instr.slice,run_underlying hu,Result.andThen,Instr.sliceBounds]
   ·simp [Instr.sliceAt,Instr.slice,run_underlying hu,Result.andThen,Instr.sliceBounds,heh,bj (by omega:0≤hh) h2]
   ·simp [Instr.sliceAt,Instr.slice,run_underlying hu,Result.andThen,Instr.sliceBounds,hel,bj h0 h1]
   ·have h3:l≤((hh.toNat:Nat):Int):=by omega
    simp [Instr.sliceAt,Instr.slice,run_underlying hu,Result.andThen,Instr.sliceBounds,heh,bj (by omega:0≤hh) h2,hel,bj h0 h3]
  ·exact h.elim
 ·rename_i p len cap hx;split at h
  ·rename_i et es l hh m hs hl hhh hmm;obtain⟨h0,h1,h2,h3,h4,hk⟩:=h;obtain⟨hu,hsz⟩:=(hC.ty t).slc _ _ hs;refine .inl ⟨_,_,?_,hk⟩;rw [hex,hS.ev hx];have hsz':=aP hsz w;rcases ix hS hmm with⟨rfl,rfl⟩ |⟨om,km,rfl,hem⟩<;>rcases ix hS hhh with⟨rfl,rfl⟩ |⟨oh,kh,rfl,heh⟩<;>
    rcases ix hS hl with⟨rfl,rfl⟩ |⟨ol,kl,rfl,hel⟩<;>simp only at h2 h3 h4
   ·simp [Instr.sliceAt,Instr.slice,run_underlying hu,Result.andThen,Instr.sliceBounds,hsz',ce]
   ·simp [Instr.sliceAt,Instr.slice,run_underlying hu,Result.andThen,Instr.sliceBounds,hsz',ce,hel,bj h0 h1]
   ·simp [Instr.sliceAt,Instr.slice,run_underlying hu,Result.andThen,Instr.sliceBounds,hsz',ce,heh,bj (by omega:0≤hh) h2]
   ·have h3:l≤((hh.toNat:Nat):Int):=by omega
    simp [Instr.sliceAt,Instr.slice,run_underlying hu,Result.andThen,Instr.sliceBounds,hsz',ce,heh,bj (by omega:0≤hh) h2,hel,bj h0 h3]
   ·have h2':hh≤((m.toNat:Nat):Int):=by omega
    simp [Instr.sliceAt,Instr.slice,run_underlying hu,Result.andThen,Instr.sliceBounds,hsz',ce,hem,bj (by omega:0≤m) h3,heh,bj (by omega:0≤hh) h2']
   ·have h2':hh≤((m.toNat:Nat):Int):=by omega
    have h3':l≤((hh.toNat:Nat):Int):=by omega
    simp [Instr.sliceAt,Instr.slice,run_underlying hu,Result.andThen,Instr.sliceBounds,hsz',ce,hem,bj (by omega:0≤m) h3,heh,bj (by omega:0≤hh) h2',hel,bj h0 h3']
  ·exact h.elim
 ·exact h.elim
theorem ft (hC:C.Ok) (hS:gG n a e) (o:Oper) (h:cN C o e w K):fj C.P o a w K:=by
 cases ho:o.op;case field t x f=>exact sF hC hS o ho h
 case fieldAddr t x f=>exact ld hC hS o ho h
 case slice t x lo hi mx=>exact sm hC hS o ho h
 all_goals simp only [cN,ho]at h
 case move x=>
  split at h
  ·rename_i v hv;exact .inl ⟨v,w,by simp [execOp,ho,hS.ev hv],h⟩
  ·exact h.elim
 case assign x=>
  split at h
  ·rename_i v hv;exact .inl ⟨v,w,by simp [execOp,ho,hS.ev hv],h⟩
  ·exact h.elim
 case pick c x y=>
  split at h
  ·rename_i b u v hc hx hy;cases b
   ·exact .inl ⟨v,w,by simp [execOp,ho,hS.ev hc,hS.ev hy,asBool,Result.andThen],h⟩
   ·exact .inl ⟨u,w,by simp [execOp,ho,hS.ev hc,hS.ev hx,asBool,Result.andThen],h⟩
  ·exact h.elim
 case alloc t=>
  split at h
  ·rename_i z hz;exact .inl ⟨_,_,by simp [execOp,ho,Instr.alloc,dT ((hC.ty t).zero _ hz),j8,Result.andThen],h _ rfl⟩
  ·exact h.elim
 case box t x=>
  split at h
  ·rename_i v hv;exact .inl ⟨_,_,by simp [execOp,ho,Instr.box,hS.ev hv,j8,Result.andThen],h _ rfl⟩
  ·exact h.elim
 case build t ps=>
  have hps:∀vs,pi e ps.toList=some vs→(ps.map fun(i,x)=>(i,a.eval x))=vs.toArray:=fun vs hv=>by
   apply Array.toList_inj.1;simp [←hS.evps hv]
  split at h
  ·rename_i arrv z vs l hz hv hl;split at h
   ·rename_i out hout;obtain⟨fs,hu,hm⟩:=(hC.ty t).offs _ hl;have hz':=dT ((hC.ty t).zero _ hz) w;have hplaces:∀(fl:List Field) (ll:List (Nat×Nat×Bool)),fl.map (fun f=>(f.offset,(C.P.info? f.type).map (·.size),(C.P.underlying f.type).map dP))=ll.map (fun x=>(x.1,some (x.2.1+1),some x.2.2))→
      (fl.mapM fun f=>do pure (f.offset, ←sizeOf f.type):Sem (List (Nat×Nat))).run C.P w= .ok (ll.map fun x=>(x.1,x.2.1+1)) w:=by
     intro fl;induction fl with
     |nil=>intro ll h;cases ll with |nil=>simp |cons _ _=>simp at h
     |cons f fl ih=>
      intro ll h;cases ll with
      |nil=>simp at h
      |cons y ll=>
       simp only [List.map_cons,List.cons.injEq,Prod.mk.injEq]at h;simp only [List.mapM_cons,Sem.run_bind,Sem.run_pure,Result.andThen,aP h.1.2.1,ih ll h.2,h.1.1,List.map_cons]
    have hpl:=hplaces fs.toList l hm;have hfill:=eb hout;refine .inl ⟨_,_,?_,h⟩;have hfs:(fs.mapM fun f=>do pure (f.offset, ←sizeOf f.type):Sem (Array (Nat×Nat))).run C.P w= .ok (l.map fun x=>(x.1,x.2.1+1)).toArray w:=by
     rw [Array.mapM_eq_mapM_toList];simp only [Sem.run_map,hpl,Result.andThen]
    have hplace:(fun i=>(l.map fun x=>(x.1,x.2.1+1)).toArray[i]?)=iw l:=by
     funext i;rw [oJ];simp
    simp only [Array.toArray_toList]at hfill;simp only [execOp,ho,Instr.build,Sem.run_bind,hz',Result.andThen,run_underlying hu,hfs,hps vs hv];rw [hplace,hfill];rfl
   ·exact h.elim
  ·rename_i z vs n s hz hv hoffs harr;split at h
   ·rename_i out hout;obtain⟨el,hu,hsz⟩:=(hC.ty t).arr _ _ harr;have hz':=dT ((hC.ty t).zero _ hz) w;have hfill:=eb hout;refine .inl ⟨_,_,?_,h⟩;simp only [Array.toArray_toList]at hfill;simp only [execOp,ho,Instr.build,hz',Result.andThen,run_underlying hu,aP hsz,hps vs hv,Sem.run_bind];rw [show(fun i=>some (i*s,s))=fy s from rfl,hfill];rfl
   ·exact h.elim
  ·exact h.elim
 case buildSlice t m ps=>
  have hps:∀vs,pi e ps.toList=some vs→(ps.map fun(i,x)=>(i,a.eval x))=vs.toArray:=fun vs hv=>by
   apply Array.toList_inj.1;simp [←hS.evps hv]
  split at h
  ·exact h.elim
  ·rename_i u s hs;split at h
   ·rename_i z vs hz hv;split at h
    ·exact h.elim
    ·rename_i hb;simp only [Bool.and_eq_true]at hb;have hb1:m*s≤16777216:=Nat.le_of_ble_eq_true hb.1.1;have hb2:1≤s:=Nat.le_of_ble_eq_true hb.1.2;have hb3:z.cells.toList.length=s:=Nat.eq_of_beq_eq_true hb.2;split at h
     ·rename_i out hout;obtain⟨hu,hsz⟩:=(hC.ty t).slc _ _ hs;have hz':=dT ((hC.ty u).zero _ hz) w;have hfill:=eb hout;have hzs:z.cells.size=s:=by simpa using hb3
      have hr:=ry z.cells m (by omega);rw [hzs]at hr;refine .inl ⟨_,_,?_,h _ rfl⟩;have hnot:¬m*s>2^24:=by omega
      have hcells:((Array.range (m*s)).map (z.cells[·%z.cells.size]!))=(gz z.cells.toList m).toArray:=by rw [hzs];exact hr
      by_cases h0:m*s=0
      ·have hm0:m=0:=by rcases Nat.mul_eq_zero.1 h0 with h |h<;>omega
       subst hm0;simp only [gz]at hfill;have hnil:(Array.map (fun x=>(#[]:Array Value)[x%(#[]:Array Value).size]!) (Array.range (0*s)))=([]:List Value).toArray:=by simp
       simp only [execOp,ho,Instr.buildSlice,Sem.run_bind,run_underlying hu,Result.andThen,aP hsz,if_neg hnot,Sem.run_pure,if_pos h0,hps vs hv];rw [show(fun i=>some (i*s,s))=fy s from rfl,hnil,hfill];simp [jX,Result.andThen]
      ·simp only [execOp,ho,Instr.buildSlice,Sem.run_bind,run_underlying hu,Result.andThen,aP hsz,if_neg hnot,Sem.run_pure,if_neg h0,hz',hps vs hv];rw [show(fun i=>some (i*s,s))=fy s from rfl,hcells,hfill];simp [jX,Result.andThen]
     ·exact h.elim
   ·exact h.elim
 case load t x=>
  split at h
  ·rename_i p hx;obtain⟨ad,rfl,h⟩:=dt h;split at h
   ·rename_i l _ hag _;obtain⟨v,hv,hk⟩:=gm h;exact .inl ⟨v,w,by simp [execOp,ho,hS.ev hx,Instr.loadAt,Instr.sureAddr,loadVar,cV ((hC.ty t).agg _ hag),hv,Result.andThen],hk⟩
   ·rename_i ls m hag _ hsz;split at h
    ·rename_i hb;have hb:m=ls.length:=Nat.eq_of_beq_eq_true hb;obtain⟨vs,hl,hc,hk⟩:=fr h;have hlc:=cm (P:=C.P) vs 0 #[] hc;rw [hl, ←hb]at hlc;refine .inl ⟨_,w,?_,hk⟩;simp [execOp,ho,hS.ev hx,Instr.loadAt,Instr.sureAddr,loadVar,cV ((hC.ty t).agg _ hag),aP ((hC.ty t).size _ hsz),loadCells,hlc,Result.andThen]
    ·exact h.elim
   ·exact h.elim
  ·exact h.elim
 case store t x y=>
  split at h
  ·rename_i p v hx hy hag hsz;obtain⟨ad,rfl,h⟩:=dt h;have h1:v.oneCell'=true:=h.1;obtain⟨w',hr,hk⟩:=dJ (P:=C.P) [v] 0 w h;have hc:v.cells= #[v]:=by cases v<;>first |rfl |simp [Value.oneCell']at h1
   refine .inr ⟨by rw [ho];rfl,w',?_,hk⟩;simp [execOp,ho,hS.ev hx,hS.ev hy,Instr.storeAt,Instr.sureAddr,storeVar,aP ((hC.ty t).size _ hsz),hc,hr,Result.andThen]
  ·rename_i p cs m hx hy hag hsz;split at h
   ·rename_i hb;have hb:cs.toList.length=m:=Nat.eq_of_beq_eq_true hb;obtain⟨ad,rfl,h⟩:=dt h;obtain⟨w',hr,hk⟩:=dJ (P:=C.P) cs.toList 0 w h;refine .inr ⟨by rw [ho];rfl,w',?_,hk⟩;have hb':cs.size=m:=by simpa using hb
    simp [execOp,ho,hS.ev hx,hS.ev hy,Instr.storeAt,Instr.sureAddr,storeVar,aP ((hC.ty t).size _ hsz),Value.cells,hb',hr,Result.andThen]
   ·exact h.elim
  ·exact h.elim
 case nilCheck x=>
  split at h
  ·rename_i p hx;obtain⟨ad,rfl,h⟩:=dt h;exact .inl ⟨_,w,by simp [execOp,ho,hS.ev hx],h⟩
  ·rename_i v _ hx;obtain⟨h1,h⟩:=h;refine .inl ⟨v,w,?_,h⟩;have hv:=hS.ev hx;cases v with
   |func fn f1 c1=>cases fn with
    |func g=>simp [execOp,ho,hv]
    |_=>exact absurd h1 (by simp [Az])
   |iface t u=>simp [execOp,ho,hv]
   |_=>exact absurd h1 (by simp [Az])
  ·exact h.elim
 case binOp op t x y yt=>
  split at h
  ·rename_i u v hx hy;obtain⟨r,w',hr,hk⟩:=rP hC h;exact .inl ⟨r,w',by simp only [execOp,ho,hS.ev hx,hS.ev hy];rw [Sem.run_bind,hr];rfl,hk⟩
  ·exact h.elim
 case unOp op t x=>
  split at h
  ·rename_i b hx;exact .inl ⟨_,w,by simp [execOp,ho,hS.ev hx,Op.unary,Result.andThen],h⟩
  ·rename_i k m hx;exact .inl ⟨.int k (k.wrap (0-m)),w,by simp [execOp,ho,hS.ev hx,Op.unary,Op.intArith,Result.andThen],h⟩
  ·exact h.elim
 case convert s d x=>
  split at h
  ·rename_i k m k' ks hx hd hs;exact .inl ⟨_,w,by simp [execOp,ho,hS.ev hx,convert,run_underlying ((hC.ty d).intk _ hd),run_underlying ((hC.ty s).intk _ hs),Conv.intToInt,Result.andThen],h⟩
  ·rename_i v _ _ hx _;exact cC h (by simp only [execOp,ho,hS.ev hx])
  ·exact h.elim
 case makeInterface t x=>
  split at h
  ·rename_i v hc hx;obtain⟨d,hu,hd⟩:=(hC.ty t).conc hc;refine .inl ⟨_,w,?_,h⟩;simp only [execOp,ho,hS.ev hx,Instr.makeInterface,Sem.run_bind,run_underlying hu,Result.andThen];cases d<;>first |rfl |exact absurd rfl (hd _)
  ·exact h.elim
 case makeFunc fn first cap=>
  split at h
  ·rename_i vs us hv hu;refine .inl ⟨_,w,?_,h⟩;have h1:first.map a.eval=vs.toArray:=by apply Array.toList_inj.1;simp [←hS.evs hv]
   have h2:cap.map a.eval=us.toArray:=by apply Array.toList_inj.1;simp [←hS.evs hu]
   simp [execOp,ho,Instr.makeFunc,h1,h2,Result.andThen]
  ·exact h.elim
 case makeMap t r=>
  split at h
  ·exact cC h (by simp only [execOp,ho,Option.map_none])
  ·rename_i x;split at h
   ·rename_i v hx;exact cC h (by simp only [execOp,ho,Option.map_some,hS.ev hx])
   ·exact h.elim
 case makeSlice t l c=>
  split at h
  ·rename_i u v hx hy;exact cC h (by simp only [execOp,ho,hS.ev hx,hS.ev hy])
  ·exact h.elim
 case indexAddr t x i=>
  split at h
  ·rename_i p len cap k j hx hi;split at h
   ·rename_i et s hs;obtain⟨ad,rfl,h0,h1,hk⟩:=dt h;obtain⟨hu,hsz⟩:=(hC.ty t).slc _ _ hs;exact .inl ⟨_,w,by simp [execOp,ho,hS.ev hx,hS.ev hi,Instr.indexAt,asIntOf,run_underlying hu,Result.andThen,h0,h1,aP hsz],hk⟩
   ·exact h.elim
  ·rename_i p k j hx hi;split at h
   ·rename_i len s hs;obtain⟨ad,rfl,h0,h1,hk⟩:=dt h;obtain⟨el,hu,hsz⟩:=(hC.ty t).arr _ _ hs;exact .inl ⟨_,w,by simp [execOp,ho,hS.ev hx,hS.ev hi,Instr.indexAt,Instr.sureAddr,asIntOf,run_underlying hu,Result.andThen,h0,h1,aP hsz],hk⟩
   ·exact h.elim
  ·exact h.elim
 case index t x i=>
  split at h
  ·rename_i s k j hx hi;split at h
   ·rename_i hs;obtain⟨h0,h1,hk⟩:=h;refine .inl ⟨_,w,?_,hk⟩;have hlt:j.toNat<s.size:=by omega
    have hlt':j.toNat<s.data.size:=hlt;have hg:s[j.toNat]? =some (s[j.toNat]'hlt):=by simp [hlt]
    have hb:fI s j=((s[j.toNat]'hlt).toNat:Int):=by
     unfold fI;rw [Array.getElem?_eq_getElem hlt'];rfl
    simp [execOp,ho,hS.ev hx,hS.ev hi,Instr.index,asIntOf,run_underlying ((hC.ty t).isStr hs),Result.andThen,h0,hg,hb]
   ·exact h.elim
  ·rename_i u v _ hx hi;exact cC h (by simp only [execOp,ho,hS.ev hx,hS.ev hi])
  ·exact h.elim
 case lookup t m k ok=>
  split at h
  ·rename_i u v hx hy;exact cC h (by simp only [execOp,ho,hS.ev hx,hS.ev hy])
  ·exact h.elim
 case mapUpdate t m k x=>
  split at h
  ·rename_i u v z hx hy hz;exact lD h (by rw [ho];rfl) (by simp only [execOp,ho,hS.ev hx,hS.ev hy,hS.ev hz])
  ·exact h.elim
 case insert t m k x=>
  split at h
  ·rename_i u v z hx hy hz;exact lD h (by rw [ho];rfl) (by simp only [execOp,ho,hS.ev hx,hS.ev hy,hS.ev hz])
  ·exact h.elim
 case mapEntry t m k=>
  split at h
  ·rename_i u v hx hy;split at h
   ·exact cC h (by simp only [execOp,ho,hS.ev hx,hS.ev hy])
   ·exact h.elim
  ·exact h.elim
 case entryStore t m k x=>
  split at h
  ·rename_i u v z hx hy hz;exact lD h (by rw [ho];rfl) (by simp only [execOp,ho,hS.ev hx,hS.ev hy,hS.ev hz])
  ·exact h.elim
 case range t x=>
  split at h
  ·rename_i u hx;exact cC h (by simp only [execOp,ho,hS.ev hx])
  ·exact h.elim
 case next x s=>
  split at h
  ·rename_i u hx;cases s with
   |true=>exact cC h (by simp only [execOp,ho,hS.ev hx])
   |false=>
    rcases h with h |h
    ·exact cC h (by simp only [execOp,ho,hS.ev hx])
    ·exact cC h (by simp only [execOp,ho,hS.ev hx])
  ·exact h.elim
 case entry x=>
  split at h
  ·rename_i u hx;exact cC h (by simp only [execOp,ho,hS.ev hx])
  ·exact h.elim
 case typeAssert x xt at_ ok=>
  split at h
  ·rename_i u hx;exact cC h (by simp only [execOp,ho,hS.ev hx])
  ·exact h.elim
 case extract x i=>
  split at h
  ·rename_i vs hx;rw [aX]at h;split at h
   ·rename_i v hv;have hv':vs[i]? =some v:=by simpa using hv
    have h:K v w:=by
     split at h
     ·exact h
     ·split at h
      ·obtain⟨u,rfl,h⟩:=gm h;exact h
      ·exact h
    exact .inl ⟨_,w,by simp [execOp,ho,hS.ev hx,Instr.extract,hv',Result.andThen],h⟩
   ·exact h.elim
  ·exact h.elim
 case call c=>
  split at h
  ·rename_i b hb;split at h
   ·rename_i vs hv;obtain⟨v,w',hr,hk⟩:=j7 hC h;refine .inl ⟨v,w',?_,hk⟩;have hargs:c.args.map a.eval=vs.toArray:=by apply Array.toList_inj.1;simp [←hS.evs hv]
    have hat:c.argTypes=c.argTypes.toList.toArray:=by simp
    simp only [execOp,ho,resolve,hb,hargs,Sem.run_bind,Sem.run_pure,Result.andThen,invoke];rw [hat];exact hr
   ·exact h.elim
  ·exact h.elim
end
def yX (C:dL) (g:FuncId) (args:Array Value) (rs:Rs) (w:World) (K:Value→World→Prop):Prop:=
 Calls C.P g args w fun e w'=>CV rs fun v=>e= .returned v∧K v w'
def sS (g:FuncId) (args:Array Value):Sem Value:=do
 match←callFunc g args with
 | .value v=>pure v
 |_=>stuck ""
def bf (C:dL) (f:Value) (args:List Value) (w:World) (R:Ending→World→Prop):Prop:=
 match f with
 | .func (.func g) first cap=>match C.fns g with
  |true=>Calls C.P g (first.toList++(args++cap.toList)).toArray w R
  |false=>∃v w',(sS g (first.toList++(args++cap.toList)).toArray).run C.P w= .ok v w'∧R (.returned v) w'
 |_=>False
def sL (C:dL) (f:Value) (args:List Value) (rs:Rs) (w:World) (K:Value→World→Prop):Prop:=
 bf C f args w fun e w'=>CV rs fun v=>e= .returned v∧K v w'
def sR (C:dL) (o:Oper) (e:be) (w:World) (K:Value→World→Prop):Prop:=
 match o.op with
 | .call c=>match c.callee with
  | .builtin _=>cN C o e w K
  | .value f=>match ev e f,xe e c.args.toList,(C.ty o.type).rs with
   |some fv,some vs,some rs=>sL C fv vs rs w K
   |_,_,_=>False
  | .invoke r name=>match ev e r,xe e c.args.toList,(C.ty o.type).rs with
   |some rv,some vs,some rs=>∃g as,(callMethod rv name vs.toArray).run C.P w= .ok (.enter g as) w∧yX C g as rs w K
   |_,_,_=>False
 |_=>cN C o e w K
section
variable {C:dL} {n:Nat} {a:Act} {e:be} {w:World} {K:Value→World→Prop} {next:Act→World→Prop} {Q:Exit→Act→World→Prop}
theorem kM {P:Program} {f:FuncId} {fn:Func} {c:Code} (hf:P.funcs[f]? =some fn) (hname:(fn.name== "runtime.NumGoroutine")=false) (hb:fn.body=some c) (args:Array Value) (w:World):
  (callFunc f args).run P w= .ok (.enter f args) w:=by
 have h1:fn.name≠ "runtime.NumGoroutine" :=by simpa using hname
 simp [callFunc,hf,h1,hb,Result.andThen]
theorem gK {o:Oper} (h:fj C.P o a w K) (hn:∀v w',K v w'→next (a.put o.dst v) w'):o.wp C.P a w next Q:=by
 rcases h with⟨v,w',hr,hk⟩ |⟨_,w',hr,hk⟩
 ·simp only [Oper.wp,hr,Oper.upon_value];exact hn _ _ hk
 ·simp only [Oper.wp,hr,Oper.upon_skip];exact hn _ _ hk
theorem jg {o:Oper} {g:FuncId} {as:Array Value} {rs:Rs} (hr:(execOp a.eval o).run C.P w= .ok (.enter g as) w) (h:yX C g as rs w K)
  (hn:∀v w',K v w'→next (a.put o.dst v) w'):o.wp C.P a w next Q:=by
 simp only [Oper.wp,hr,Oper.upon_enter];refine Calls.mono h fun e' w' hx=>?_;obtain⟨v,rfl,hk⟩:=ni hx;exact hn _ _ hk
theorem qd (hC:C.Ok) (hS:gG n a e) (o:Oper) (h:sR C o e w K) (hn:∀v w',K v w'→next (a.put o.dst v) w'):o.wp C.P a w next Q:=by
 unfold sR at h;split at h
 ·rename_i c ho;split at h
  ·exact gK (ft hC hS o h) hn
  ·rename_i f hf;split at h
   ·rename_i fv vs rs hfv hvs hrs;have hargs:c.args.map a.eval=vs.toArray:=by apply Array.toList_inj.1;simp [←hS.evs hvs]
    unfold sL bf at h;split at h
    ·rename_i g first cap;have hfe:=hS.ev hfv;have harr:first++vs.toArray++cap=(first.toList++(vs++cap.toList)).toArray:=by
      apply Array.toList_inj.1;simp
     have hx:execOp a.eval o=callFunc g (first.toList++(vs++cap.toList)).toArray:=by
      rw [←harr];simp only [execOp,ho,resolve,hf,hargs,hfe,Deferred.ofValue,pure_bind,invoke]
     split at h
     ·rename_i hfn;obtain⟨fn,c',h1,h2,h3⟩:=hC.fns g hfn;exact jg (by rw [hx];exact kM h1 h2 h3 _ w) h hn
     ·obtain⟨v0,w',hr,hx'⟩:=h;obtain⟨v,he,hk⟩:=ni hx';cases he;refine gK (.inl ⟨v0,w',?_,hk⟩) hn;rw [hx];unfold sS at hr;rw [Sem.run_bind]at hr;generalize hq:(callFunc g (first.toList++(vs++cap.toList)).toArray).run C.P w=q at hr⊢;cases q with
      |halt x y=>simp [Result.andThen]at hr
      |ok nx y=>
       cases nx<;>simp [Result.andThen]at hr
       obtain⟨rfl,rfl⟩:=hr;rfl
    ·exact h.elim
   ·exact h.elim
  ·rename_i r name hf;split at h
   ·rename_i rv vs rs hrv hvs hrs;have hargs:c.args.map a.eval=vs.toArray:=by apply Array.toList_inj.1;simp [←hS.evs hvs]
    obtain⟨g,as,hr,h⟩:=h;refine jg ?_ h hn;rw [←hr];have hx:execOp a.eval o=callMethod rv name vs.toArray:=by
     simp only [execOp,ho,resolve,hf,hargs,hS.ev hrv,pure_bind,invoke];simp
    rw [hx]
   ·exact h.elim
 ·exact gK (ft hC hS o h) hn
end
def kL (all:List Oper) (g:Option (Nat×Bool)) (e:be) (yes no:be→Prop):Prop:=match g with
 |none=>yes e
 |some (j,want)=>match bM all j with
  |none=>False
  |some oj=>match oj.dst with
   |none=>False
   |some d=>match e.get d with
    |some (.bool b)=>match want with
     |true=>aa b (yes ((d,.bool true)::e)) (no ((d,.bool false)::e))
     |false=>aa b (no ((d,.bool true)::e)) (yes ((d,.bool false)::e))
    |some (.tuple _)=>no e
    |_=>False
theorem gG.again {n:Nat} {a:Act} {e:be} (h:gG n a e) {d:Nat} {v:Value} (hd:e.get d=some v):gG n a ((d,v)::e):=by
 refine⟨h.size,h.defers,fun t u hu=>?_⟩;simp only [be.get]at hu;split at hu
 ·rename_i heq;have:d=t:=Nat.eq_of_beq_eq_true heq;subst this;cases hu;exact h.get _ _ hd
 ·exact h.get _ _ hu
structure eA (n:Nat) (ds:List Nat) (b:be) (a:Act) (e:be):Prop where
 sim:gG n a e
 keep:∀t,t∉ds→e.get t=b.get t
theorem eA.again {n:Nat} {ds:List Nat} {b:be} {a:Act} {e:be} (h:eA n ds b a e) {d:Nat} {v:Value} (hd:e.get d=some v):eA n ds b a ((d,v)::e):=by
 refine⟨h.sim.again hd,fun t ht=>?_⟩;simp only [be.get];split
 ·rename_i heq;have:d=t:=Nat.eq_of_beq_eq_true heq;subst this;rw [←h.keep d ht,hd]
 ·exact h.keep t ht
theorem eA.put {n:Nat} {ds:List Nat} {b:be} {a:Act} {e:be} (h:eA n ds b a e) (d:Option Nat) (v:Value) (hd:∀t,d=some t→t<n∧t∈ds):eA n ds b (a.put d v) (e.put d v):=by
 refine⟨h.sim.put d v fun t ht=>(hd t ht).1,fun t ht=>?_⟩;cases d with
 |none=>exact h.keep t ht
 |some d=>
  simp only [be.put,be.get];split
  ·rename_i heq;have:d=t:=Nat.eq_of_beq_eq_true heq;subst this;exact absurd (hd d rfl).2 ht
  ·exact h.keep t ht
theorem iE {n:Nat} {ds:List Nat} {b0:be} {a:Act} {e:be} (hS:eA n ds b0 a e) {ops:Array Oper} {o:Oper} {yes no:be→Prop} (h:kL ops.toList o.guard e yes no):
  (Region.wanted o (yielded ops a.tmps)=true∧∃e',eA n ds b0 a e'∧yes e')∨(Region.wanted o (yielded ops a.tmps)=false∧∃e',eA n ds b0 a e'∧no e'):=by
 unfold kL at h;split at h
 ·rename_i hg;exact .inl ⟨by simp [Region.wanted,hg],e,hS,h⟩
 ·rename_i j want hg;rw [aX]at h;split at h
  ·exact h.elim
  ·rename_i oj hj;have hj':ops[j]? =some oj:=by simpa using hj
   split at h
   ·exact h.elim
   ·rename_i d hd;split at h
    ·rename_i b hb;have hy:yielded ops a.tmps j=some b:=by simp [yielded,hj',hd,hS.sim.get _ _ hb]
     have hw:Region.wanted o (yielded ops a.tmps)=(b==want):=by
      simp only [Region.wanted,hg,hy];cases b<;>cases want<;>rfl
     rw [hw];cases want<;>cases b<;>simp only [aa]at h
     ·exact .inl ⟨rfl,_,hS.again hb,h⟩
     ·exact .inr ⟨rfl,_,hS.again hb,h⟩
     ·exact .inr ⟨rfl,_,hS.again hb,h⟩
     ·exact .inl ⟨rfl,_,hS.again hb,h⟩
    ·rename_i vs hb;have hy:yielded ops a.tmps j=none:=by simp [yielded,hj',hd,hS.sim.get _ _ hb]
     exact .inr ⟨by simp [Region.wanted,hg,hy],e,hS,h⟩
    ·exact h.elim
def iH (C:dL) (all:List Oper):List Oper→be→World→(be→World→Prop)→Prop
 | [],e,w,K=>K e w
 |o::r,e,w,K=>kL all o.guard e (fun e'=>sR C o e' w fun v w'=>iH C all r (e'.put o.dst v) w' K) (fun e'=>iH C all r (e'.put o.dst undef) w K)
def iK (n:Nat) (ops:List Oper):Bool:=ops.all fun o=>match o.dst with
 |some d=>Nat.blt d n
 |none=>true
theorem rW {n:Nat} {ds:List Nat} {ops:List Oper} (h:iK n ops=true) (hds:∀o∈ops,∀d,o.dst=some d→d∈ds) {o:Oper} (ho:o∈ops):∀t,o.dst=some t→t<n∧t∈ds:=by
 intro t ht;have:=List.all_eq_true.1 h o ho;simp only [ht]at this;exact⟨Nat.lt_of_lt_of_le (Nat.lt_succ_self t) (Nat.le_of_ble_eq_true this),hds o ho t ht⟩
theorem iW {C:dL} (hC:C.Ok) {n:Nat} {ds:List Nat} {b:be} {ops:Array Oper} (hd:iK n ops.toList=true) (hds:∀o∈ops.toList,∀d,o.dst=some d→d∈ds) {K:be→World→Prop} {Q:Exit→Act→World→Prop}
  (hQ:∀a e w,eA n ds b a e→K e w→Q .normal a w):∀(l:List Oper) (k:Nat) (a:Act) (e:be) (w:World),ops.toList.drop k=l→eA n ds b a e→iH C ops.toList l e w K→
  wpOps C.P ops Q (List.range' k l.length) a w
 | [],k,a,e,w,hl,hS,h=>hQ a e w hS h
 |o::r,k,a,e,w,hl,hS,h=>by
  have hk:ops[k]? =some o:=by
   have:=congrArg (·[0]?) hl;simpa using this
  have hr:ops.toList.drop (k+1)=r:=by
   rw [←List.drop_drop,hl];rfl
  have hmem:o∈ops.toList:=by
   have:ops.toList[k]? =some o:=by simpa using hk
   exact List.mem_of_getElem? this
  have hdo:=rW hd hds hmem;simp only [iH]at h;simp only [List.length_cons,List.range'_succ,wpOps,hk];rcases iE hS h with⟨hw,e',hS',h⟩ |⟨hw,e',hS',h⟩
  ·rw [if_pos hw];exact .inl (qd hC hS'.sim o h fun v w' hk'=>iW hC hd hds hQ r (k+1) _ _ w' hr (hS'.put o.dst v hdo) hk')
  ·rw [if_neg (by simp [hw])];exact iW hC hd hds hQ r (k+1) _ _ w hr (hS'.put o.dst undef hdo) h
theorem nH {C:dL} (hC:C.Ok) {n:Nat} {ds:List Nat} {b:be} {id:Nat} {ops:Array Oper} (hd:iK n ops.toList=true) (hds:∀o∈ops.toList,∀d,o.dst=some d→d∈ds) {K:be→World→Prop} {Q:Exit→Act→World→Prop}
  (hQ:∀a e w,eA n ds b a e→K e w→Q .normal a w) {a:Act} {e:be} {w:World} (hS:eA n ds b a e) (h:iH C ops.toList ops.toList e w K):(Code.region id ops false).wp C.P Q a w:=by
 refine wp_region ?_;have:=iW hC hd hds hQ ops.toList 0 a e w (by simp) hS h;rw [List.range_eq_range'];simpa using this
def dV (C:dL) (o:Oper):Bool:=match o.op with
 | .move _=>true
 | .assign _=>true
 | .pick .. =>true
 | .nilCheck _=>true
 | .fieldAddr .. =>true
 | .field .. =>true
 | .indexAddr .. =>true
 | .extract .. =>true
 | .slice .. =>true
 | .makeFunc .. =>true
 | .makeInterface .. =>true
 | .unOp .. =>true
 | .load .. =>true
 | .binOp .. =>true
 | .build .. =>true
 | .convert s d _=>match(C.ty d).intk,(C.ty s).intk with
  |some _,some _=>true
  |_,_=>false
 | .index t _ _=>(C.ty t).isStr
 | .call c=>match c.callee with
  | .builtin .len=>match c.argTypes.toList with
   | [u]=>(C.ty u).isStr||(C.ty u).isSlc
   |_=>false
  |_=>false
 |_=>false
def fC (x y:Value):Bool:=match x,y with
 | .int ..,.int .. =>true
 | .string _,.string _=>true
 | .bool _,.bool _=>true
 | .pointer _,.pointer none=>true
 | .slice ..,.slice none _ _=>true
 | .map _,.map none=>true
 | .agg _,.agg _=>true
 |_,_=>false
def ij (o:Oper) (e:be):Bool:=match o.op with
 | .load .. =>false
 | .binOp _ _ x y _=>match ev e x,ev e y with
  |some a,some b=>fC a b
  |_,_=>false
 | .convert _ _ x=>match ev e x with
  |some (.int _ _)=>true
  |_=>false
 | .index _ x i=>match ev e x,ev e i with
  |some (.string _),some (.int _ _)=>true
  |_,_=>false
 | .call c=>match xe e c.args.toList with
  |some [.string _]=>true
  |some [.slice ..]=>true
  |_=>false
 |_=>true
def nJ (C:dL) (t:TypeId) (x:Operand) (e:be) (w:World) (K:Addr→List Value→Value→Prop):Prop:=match ev e x with
 |some (.pointer p)=>ac p fun ad=>match(C.ty t).agg,(C.ty t).rs,(C.ty t).size with
  |some false,some (.one (.leaf l)),_=>uT l fun v=>w.cell? ad=some v∧K ad [v] v
  |some true,some (.one (.agg ls)),some n=>match Nat.beq n ls.length with
   |true=>rA ls fun vs=>de w ad vs 0∧K ad vs (.agg vs.toArray)
   |false=>False
  |_,_,_=>False
 |_=>False
section
variable {C:dL} {n:Nat} {a:Act} {e:be} {w:World} {K:Value→World→Prop}
theorem lS {op:BinOp} {t:TypeId} {cx cy:Operand} {x y:Value} {ot:TypeId} (hp:fC x y=true) (h:cM C op t cx cy x y ot w K):
  ∃v,K v w∧∀w' (K':Value→World→Prop),K' v w'→cM C op t cx cy x y ot w' K':=by
 unfold fC at hp;split at hp
 ·rename_i k a k' b;cases op<;>simp only [cM]at h⊢
  case shl=>exact⟨_,h.2,fun w' K' hk=>⟨h.1,hk⟩⟩
  case shr=>exact⟨_,h.2,fun w' K' hk=>⟨h.1,hk⟩⟩
  all_goals
   split at h
   ·first
     |exact⟨_,h.2,fun w' K' hk=>⟨h.1,hk⟩⟩
     |exact⟨_,h,fun w' K' hk=>hk⟩
   ·exact h.elim
 ·cases op<;>simp only [cM]at h⊢
  case add=>exact⟨_,h.2,fun w' K' hk=>⟨h.1,hk⟩⟩
  all_goals first |exact⟨_,h,fun w' K' hk=>hk⟩ |exact h.elim
 ·simp only [cM]at h⊢;split at h<;>first |exact⟨_,h,fun w' K' hk=>hk⟩ |exact h.elim
 ·simp only [cM,qD]at h⊢;split at h<;>first |exact⟨_,h,fun w' K' hk=>hk⟩ |exact h.elim
 ·simp only [cM]at h⊢;split at h<;>first |exact⟨_,h,fun w' K' hk=>hk⟩ |exact h.elim
 ·simp only [cM]at h⊢;split at h<;>first |exact⟨_,h,fun w' K' hk=>hk⟩ |exact h.elim
 ·simp only [cM]at h⊢;split at h
  ·exact h.elim
  ·rename_i l hl;split at h
   ·rename_i b hb;exact⟨_,h,fun w' K' hk=>hk⟩
   ·rename_i b hb;exact⟨_,h,fun w' K' hk=>hk⟩
   ·exact h.elim
 ·simp at hp
theorem m0 {op:BinOp} {t:TypeId} {cx cy:Operand} {x y:Value} {ot:TypeId} (hp:fC x y=true) (h:iS C op t cx cy x y ot w K):
  ∃v,K v w∧∀w' (K':Value→World→Prop),K' v w'→iS C op t cx cy x y ot w' K':=by
 have hn:vc y=false:=by
  cases y<;>first |rfl |(exfalso;cases x<;>simp [fC]at hp)
 simp only [iS,hn]at h⊢;exact lS hp h
theorem tJ {o:Oper} (hq:dV C o=true) (hd:ij o e=true) (h:cN C o e w K):∃v,K v w∧∀w' (K':Value→World→Prop),K' v w'→cN C o e w' K':=by
 cases ho:o.op<;>simp only [dV,ij,ho,Bool.false_eq_true]at hq hd<;>simp only [cN,ho]at h⊢
 case move x=>split at h<;>first |exact h.elim |exact⟨_,h,fun w' K' hk=>hk⟩
 case assign x=>split at h<;>first |exact h.elim |exact⟨_,h,fun w' K' hk=>hk⟩
 case pick c x y=>
  split at h
  ·rename_i b u v _ _ _;cases b
   ·exact⟨_,h,fun w' K' hk=>hk⟩
   ·exact⟨_,h,fun w' K' hk=>hk⟩
  ·exact h.elim
 case nilCheck x=>
  split at h
  ·obtain⟨ad,rfl,h⟩:=dt h;exact⟨_,h,fun w' K' hk=>hk⟩
  ·exact⟨_,h.2,fun w' K' hk=>⟨h.1,hk⟩⟩
  ·exact h.elim
 case fieldAddr t x f=>
  split at h
  ·obtain⟨ad,rfl,h⟩:=dt h;split at h
   ·exact⟨_,h,fun w' K' hk=>by simp only [ac, *]⟩
   ·exact h.elim
  ·exact h.elim
 case field t x f=>
  split at h
  ·split at h
   ·exact⟨_,h,fun w' K' hk=>hk⟩
   ·split at h
    ·exact⟨_,h,fun w' K' hk=>hk⟩
    ·exact h.elim
   ·exact h.elim
  ·exact h.elim
 case indexAddr t x i=>
  split at h
  ·split at h
   ·obtain⟨ad,rfl,h0,h1,h⟩:=dt h;exact⟨_,h,fun w' K' hk=>⟨h0,h1,hk⟩⟩
   ·exact h.elim
  ·split at h
   ·obtain⟨ad,rfl,h0,h1,h⟩:=dt h;exact⟨_,h,fun w' K' hk=>⟨h0,h1,hk⟩⟩
   ·exact h.elim
  ·exact h.elim
 case extract x i=>
  split at h
  ·split at h
   ·split at h
    ·exact⟨_,h,fun w' K' hk=>hk⟩
    ·split at h
     ·obtain⟨u,hu,rfl,h⟩:=As h;exact⟨_,h,fun w' K' hk=>At hu ⟨rfl,hk⟩⟩
     ·rename_i hne;exact⟨_,h,fun w' K' hk=>hk⟩
   ·exact h.elim
  ·exact h.elim
 case slice t x lo hi mx=>
  split at h
  ·split at h
   ·obtain⟨h0,h1,h2,h⟩:=h;exact⟨_,h,fun w' K' hk=>⟨h0,h1,h2,hk⟩⟩
   ·exact h.elim
  ·split at h
   ·obtain⟨h0,h1,h2,h3,h4,h⟩:=h;exact⟨_,h,fun w' K' hk=>⟨h0,h1,h2,h3,h4,hk⟩⟩
   ·exact h.elim
  ·exact h.elim
 case build t ps=>
  split at h
  ·split at h<;>first |exact h.elim |exact⟨_,h,fun w' K' hk=>hk⟩
  ·split at h<;>first |exact h.elim |exact⟨_,h,fun w' K' hk=>hk⟩
  ·exact h.elim
 case makeFunc fn f c=>split at h<;>first |exact h.elim |exact⟨_,h,fun w' K' hk=>hk⟩
 case makeInterface t x=>split at h<;>first |exact h.elim |exact⟨_,h,fun w' K' hk=>hk⟩
 case unOp op t x=>split at h<;>first |exact h.elim |exact⟨_,h,fun w' K' hk=>hk⟩
 case binOp op t x y yt=>
  split at h
  ·rename_i u v hu hv;simp only [hu,hv]at hd;exact m0 hd h
  ·exact h.elim
 case convert s d x=>
  split at hq
  ·rename_i k k' hk hk';split at hd
   ·rename_i kk m hm;simp only [hm,hk,hk']at h⊢;exact⟨_,h,fun w' K' hk=>hk⟩
   ·simp at hd
  ·simp at hq
 case index t x i=>
  split at hd
  ·rename_i s k j hs hj;simp only [hs,hj,hq]at h⊢;obtain⟨h0,h1,h⟩:=h;exact⟨_,h,fun w' K' hk=>⟨h0,h1,hk⟩⟩
  ·simp at hd
 case call c=>
  split at hq
  ·rename_i hb;split at hq
   ·rename_i u hu;simp only [hb]at h⊢;split at hd
    ·rename_i s hs;simp only [hs,dY,hu]at h⊢;split at h
     ·exact⟨_,h,fun w' K' hk=>hk⟩
     ·exact h.elim
    ·rename_i p m cc hs;simp only [hs,dY,hu]at h⊢;split at h
     ·exact⟨_,h,fun w' K' hk=>hk⟩
     ·exact h.elim
    ·simp at hd
   ·simp at hq
  ·simp at hq
theorem su (hC:C.Ok) (hS:gG n a e) {o:Oper} (hq:dV C o=true) (hd:ij o e=true) (h:cN C o e w K):
  ∃v,K v w∧∀w',(execOp a.eval o).run C.P w'= .ok (.value v) w':=by
 obtain⟨v,hk,hall⟩:=tJ hq hd h;refine⟨v,hk,fun w'=>?_⟩;rcases ft hC hS o (hall w' (fun v' w''=>v'=v∧w''=w') ⟨rfl,rfl⟩)with⟨v',w'',hr,rfl,rfl⟩ |⟨hu,_⟩
 ·exact hr
 ·exfalso;cases ho:o.op<;>simp [dV,ku,ho]at hq hu
end
def gq:List Nat→Nat→Bool
 | [],_=>false
 |x::r,k=>Nat.beq x k||gq r k
def sK (ops:List Oper) (L:List Nat) (i:Nat):Bool:= !gq L i&&match bM ops i with
 |some o=>o.after.toList.all fun e=> !Region.binds .any e||gq L e.on
 |none=>false
def xq:Nat→List Nat
 |0=>[]
 |n+1=>xq n++ [n]
def lm (ops:List Oper) (L:List Nat):List Nat:=(xq ops.length).filter (sK ops L)
def eu (C:dL) (ops:List Oper) (i:Nat):Bool:=match bM ops i with
 |some o=>dV C o
 |none=>false
def nL (ops:List Oper):Nat→Nat→Nat→Bool
 |0,_,_=>false
 |f+1,i,j=>match bM ops j with
  |none=>false
  |some o=>o.after.toList.any fun e=>Region.binds .any e&&(Nat.beq e.on i||nL ops f i e.on)
def m_ (C:dL) (ops:List Oper) (i:Nat) (L:List Nat):Bool:=L.any fun j=> !eu C ops j&&nL ops ops.length i j
def eO (C:dL) (ops:List Oper) (L:List Nat) (w:World):List (Nat×Addr×List Value)→Prop→Prop
 | [],p=>p
 |(i,ad,cs)::r,p=>match m_ C ops i L with
  |true=>eO C ops L w r p
  |false=>de w ad cs 0∧eO C ops L w r p
theorem eY {C:dL} {ops:List Oper} {L:List Nat} {w:World} {p:Prop}:∀ {pend:List (Nat×Addr×List Value)},eO C ops L w pend p→p∧∀x∈pend,m_ C ops x.1 L=false→de w x.2.1 x.2.2 0
 | [],h=>⟨h,fun _ hx=>by cases hx⟩
 |(i,ad,cs)::r,h=>by
  simp only [eO]at h;split at h
  ·rename_i hb;obtain⟨h1,h2⟩:=eY h;refine⟨h1,fun x hx hxb=>?_⟩;rcases List.mem_cons.1 hx with rfl |hx
   ·simp [hb]at hxb
   ·exact h2 x hx hxb
  ·obtain⟨h0,h⟩:=h;obtain⟨h1,h2⟩:=eY h;refine⟨h1,fun x hx hxb=>?_⟩;rcases List.mem_cons.1 hx with rfl |hx
   ·exact h0
   ·exact h2 x hx hxb
def u_ (p:Nat→Prop):Nat→List Nat→Prop
 |j,[]=>p j
 |j,k::r=>p j∧u_ p k r
theorem mq {p:Nat→Prop}:∀ {j:Nat} {js:List Nat},u_ p j js→∀i∈j::js,p i
 |j,[],h,i,hi=>by simp at hi;subst hi;exact h
 |j,k::r,h,i,hi=>by
  rcases List.mem_cons.1 hi with rfl |hi
  ·exact h.1
  ·exact mq h.2 i hi
def cY (C:dL) (ops:List Oper):Nat→List Nat→List (Nat×Addr×List Value)→be→World→(be→World→Prop)→Prop
 |0,L,_,e,w,K=>match lm ops L with
  | []=>K e w
  |_=>False
 |f+1,L,pend,e,w,K=>match(lm ops L).filter (eu C ops)with
  |i::_=>match bM ops i with
   |none=>False
   |some o=>kL ops o.guard e
    (fun e'=>match o.op with
     | .load t x=>nJ C t x e' w fun ad cs v=>cY C ops f (i::L) ((i,ad,cs)::pend) (e'.put o.dst v) w K
     |_=>match ij o e' with
      |true=>cN C o e' w fun v _=>cY C ops f (i::L) pend (e'.put o.dst v) w K
      |false=>False)
    (fun e'=>cY C ops f (i::L) pend (e'.put o.dst undef) w K)
  | []=>match lm ops L with
   | []=>K e w
   |j::js=>u_ (fun j=>match bM ops j with
    |none=>False
    |some o=>kL ops o.guard e
     (fun e'=>sR C o e' w fun v w'=>eO C ops (j::L) w' pend (cY C ops f (j::L) pend (e'.put o.dst v) w' K))
     (fun e'=>cY C ops f (j::L) pend (e'.put o.dst undef) w K)) j js
def ny (C:dL) (ops:Array Oper):Bool:=(List.range ops.size).all fun i=> !eu C ops.toList i||(List.range ops.size).all fun j=>Nat.beq i j||nL ops.toList ops.size i j||nL ops.toList ops.size j i||match ops[i]?,ops[j]? with
 |some x,some y=>x.apart ops y
 |_,_=>false
section
variable {P:Program} {ops:Array Oper} {Q:Exit→Act→World→Prop}
def fp (P:Program) (ops:Array Oper) (Q:Exit→Act→World→Prop) (S:Array Bool→World→Prop):Nat→Array Bool→Act→World→Prop
 |0,listed,a,w=>Region.ready .any ops listed= []∧Q .normal a w
 |fuel+1,listed,a,w=>
  (Region.ready .any ops listed= []→Q .normal a w)∧
  ∀i∈Region.ready .any ops listed,wpOp P ops Q i (fun a' w'=>S (listed.setIfInBounds i true) w'∧fp P ops Q S fuel (listed.setIfInBounds i true) a' w') a w
theorem kd {S:Array Bool→World→Prop}:∀(fuel:Nat) (listed:Array Bool) (a:Act) (w:World),fp P ops Q S fuel listed a w→wpAny P .any ops Q fuel listed a w
 |0,_,_,_,h=>h
 |fuel+1,_,_,_,h=>⟨h.1,fun i hi=>wpOp_mono (fun a' w' h'=>kd fuel _ a' w' h'.2) (h.2 i hi)⟩
theorem dD {S S':Array Bool→World→Prop} (hs:∀l w,S l w→S' l w):∀(fuel:Nat) (listed:Array Bool) (a:Act) (w:World),fp P ops Q S fuel listed a w→fp P ops Q S' fuel listed a w
 |0,_,_,_,h=>h
 |fuel+1,_,_,_,h=>⟨h.1,fun i hi=>wpOp_mono (fun a' w' h'=>⟨hs _ _ h'.1,dD hs fuel _ a' w' h'.2⟩) (h.2 i hi)⟩
def gO (ops:Array Oper) (listed:Array Bool):Prop:=∀j o,ops[j]? =some o→listed.getD j false=true→∀e∈o.after,Region.binds .any e=true→listed.getD e.on false=true
theorem gI {listed:Array Bool} (hc:gO ops listed) {i:Nat}:∀(f j:Nat),listed.getD j false=true→nL ops.toList f i j=true→listed.getD i false=true
 |0,_,_,h=>by simp [nL]at h
 |f+1,j,hj,h=>by
  simp only [nL,aX]at h;split at h
  ·simp at h
  ·rename_i o ho;have ho':ops[j]? =some o:=by simpa using ho
   obtain⟨e,he,hb⟩:=List.any_eq_true.1 h;rw [Bool.and_eq_true,Bool.or_eq_true]at hb;have h1:=hc j o ho' hj e (by simpa using he) hb.1;rcases hb.2 with h2 |h2
   ·have:=Nat.eq_of_beq_eq_true h2;exact this▸h1
   ·exact gI hc f e.on h1 h2
theorem ff {listed:Array Bool} (hc:gO ops listed) {i:Nat} (hi:i∈Region.ready .any ops listed):gO ops (listed.setIfInBounds i true):=by
 intro j o ho hj e he hb;by_cases hij:j=i
 ·subst hij;obtain⟨_,o',ho',hall⟩:=mem_ready.1 hi;rw [ho]at ho';cases ho';exact getD_set_true (hall e he hb)
 ·have hj':listed.getD j false=true:=by rw [←getD_set_ne false (Ne.symm hij)];exact hj
  exact getD_set_true (hc j o ho hj' e he hb)
theorem l_ {listed:Array Bool} (hc:gO ops listed) {i j:Nat} (hj:j∈Region.ready .any ops listed) (hi:listed.getD i false=false) (f:Nat):nL ops.toList f i j=false:=by
 cases f with
 |zero=>rfl
 |succ f=>
  obtain⟨_,o,ho,hall⟩:=mem_ready.1 hj;have ho':ops.toList[j]? =some o:=by simpa using ho
  simp only [nL,aX,ho'];rw [List.any_eq_false];intro e he hb;rw [Bool.and_eq_true,Bool.or_eq_true]at hb;have h1:=hall e (by simpa using he) hb.1;rcases hb.2 with h2 |h2
  ·have:=Nat.eq_of_beq_eq_true h2;rw [this,hi]at h1;cases h1
  ·have:=gI hc f e.on h1 h2;rw [hi]at this;cases this
theorem jY {listed:Array Bool} {i:Nat} (h:listed.getD i true=false):listed.getD i false=false:=by
 rcases Nat.lt_or_ge i listed.size with h' |h'
 ·simp [h']at h⊢;exact h
 ·simp [Array.getElem?_eq_none h']at h
theorem nj (act:Nat→Bool) {i:Nat} {oi:Oper} {v:Value} {Si:World→Prop} {S:Array Bool→World→Prop} (hi:ops[i]? =some oi) (hsel:∀(j:Nat) (o:Oper) cs b,ops[j]? =some o→o.op≠ .select cs b)
  (hQ:∀c a w,Q (.panic c) (a.put oi.dst v) w→Q (.panic c) a w) (hact:act i=false) (hS:∀l w,S (l.setIfInBounds i true) w→S l w)
  (hfree:∀j oj,ops[j]? =some oj→j≠i→nL ops.toList ops.size i j=false→nL ops.toList ops.size j i=false→oi.apart ops oj=true):
  ∀(fuel:Nat) (listed:Array Bool) (a:Act) (w:World),gO ops listed→i∈Region.ready .any ops listed→YieldsIf P ops Si oi v a→Si w→S (listed.setIfInBounds i true) w→
   fp P ops Q (fun l w=>S l w∧((∀k,l.getD k false=true→act k=true→nL ops.toList ops.size i k=false)→Si w)) fuel (listed.setIfInBounds i true) (a.put oi.dst v) w→fp P ops Q S (fuel+1) listed a w:=by
 intro fuel;induction fuel with
 |zero=>
  intro listed a w hc hr hy hs hSi H;refine⟨fun h=>(by rw [h]at hr;cases hr),fun j hj=>?_⟩;by_cases hji:j=i
  ·subst hji;exact hy.wpOp hi hs ⟨hSi,H⟩
  ·have:=ready_mono hj hji;rw [H.1]at this;cases this
 |succ fuel ih=>
  intro listed a w hc hr hy hs hSi H;refine⟨fun h=>(by rw [h]at hr;cases hr),fun j hj=>?_⟩;by_cases hji:j=i
  ·subst hji;exact hy.wpOp hi hs ⟨hSi,dD (fun _ _ h=>h.1) _ _ _ _ H⟩
  ·have h1:=H.2 j (ready_mono hj hji);obtain⟨hjun,oj,hoj,hall⟩:=mem_ready.1 hj;have hiun:listed.getD i false=false:=jY (mem_ready.1 hr).1;have hjun':listed.getD j false=false:=jY hjun;have hanc:nL ops.toList ops.size i j=false:=l_ hc hj hiun _;have hanc':nL ops.toList ops.size j i=false:=l_ hc hr hjun' _;have h2:=wpOp_putIf hoj (hfree j oj hoj hji hanc hanc') (fun cs b=>hsel i oi cs b hi) (fun cs b=>hsel j oj cs b hoj) hQ hy h1;refine wpOp_mono (fun a' w' h3=>?_) h2;obtain⟨hy',⟨hS',hSi'⟩,hrest⟩:=h3;rw [Array.setIfInBounds_comm _ _ (Ne.symm hji)]at hS';have hcj:=ff hc hj;have hij:(listed.setIfInBounds j true).getD i false=false:=by rw [getD_set_ne false hji];exact hiun
   have hsi:Si w':=hSi' fun k hk hka=>by
    by_cases hki:k=i
    ·subst hki;rw [hact]at hka;cases hka
    ·have hk':(listed.setIfInBounds j true).getD k false=true:=by
      rw [Array.setIfInBounds_comm _ _ (Ne.symm hji),getD_set_ne false (Ne.symm hki)]at hk;exact hk
     cases hx:nL ops.toList ops.size i k with
     |false=>rfl
     |true=>
      have:=gI hcj ops.size k hk' hx;rw [hij]at this;cases this
   refine⟨hS _ _ hS',ih (listed.setIfInBounds j true) a' w' hcj (ready_mono hr (Ne.symm hji)) hy' hsi hS' ?_⟩;rw [Array.setIfInBounds_comm _ _ hji];exact hrest
end
theorem fO:∀(L:List Nat) (k:Nat),gq L k=true↔k∈L
 | [],k=>by simp [gq]
 |x::r,k=>by
  simp only [gq,Bool.or_eq_true,List.mem_cons,fO r k];constructor
  ·rintro(h |h)
   ·exact .inl (Nat.eq_of_beq_eq_true h).symm
   ·exact .inr h
  ·rintro(h |h)
   ·exact .inl (by subst h;exact Nat.beq_refl _)
   ·exact .inr h
theorem s_:∀n,xq n=List.range n
 |0=>rfl
 |n+1=>by rw [xq,s_ n,List.range_succ]
def mg (ops:Array Oper) (L:List Nat) (listed:Array Bool):Prop:=listed.size=ops.size∧∀k,listed.getD k false=gq L k
theorem iA {ops:Array Oper} {L:List Nat} {listed:Array Bool} (h:mg ops L listed):Region.ready .any ops listed=lm ops.toList L:=by
 unfold Region.ready lm;rw [s_];simp only [Array.length_toList];refine List.filter_congr fun i hi=>?_;have hlt:i<ops.size:=List.mem_range.1 hi;have hl:listed.getD i true=gq L i:=by
  rw [←h.2 i];simp [h.1,hlt]
 simp only [sK,aX,hl];have ho:ops[i]? =some ops[i]:=by simp [hlt]
 have ho':ops.toList[i]? =some ops[i]:=by simp [hlt]
 rw [ho,ho'];simp only [Option.map_some,Option.getD_some];congr 1;rw [←Array.all_toList];congr 1;funext e;rw [h.2]
theorem gc {ops:Array Oper} {L:List Nat} {listed:Array Bool} (h:mg ops L listed) {i:Nat} (hi:i<ops.size):mg ops (i::L) (listed.setIfInBounds i true):=by
 refine⟨by simp [h.1],fun k=>?_⟩;by_cases hk:i=k
 ·subst hk;simp [gq,h.1,hi]
 ·rw [getD_set_ne false hk,h.2];have:Nat.beq i k=false:=by
   cases hb:Nat.beq i k with
   |false=>rfl
   |true=>exact absurd (Nat.eq_of_beq_eq_true hb) hk
  simp [gq,this]
def fV (C:dL) (ops:Array Oper) (pend:List (Nat×Addr×List Value)) (l:Array Bool) (w:World):Prop:=
 ∀x∈pend,(∀k,l.getD k false=true→(!eu C ops.toList k)=true→nL ops.toList ops.size x.1 k=false)→de w x.2.1 x.2.2 0
theorem iQ {C:dL} {ops:Array Oper} {L:List Nat} {l:Array Bool} {w:World} {p:Prop} {pend:List (Nat×Addr×List Value)} (ht:mg ops L l) (h:eO C ops.toList L w pend p):p∧fV C ops pend l w:=by
 obtain⟨h1,h2⟩:=eY h;refine⟨h1,fun x hx hk=>h2 x hx ?_⟩;unfold m_;rw [List.any_eq_false];intro k hkL hb;rw [Bool.and_eq_true]at hb;have hl:l.getD k false=true:=by rw [ht.2];exact(fO L k).2 hkL
 have:=hk k hl hb.1;rw [Array.length_toList,this]at hb;exact absurd hb.2 (by simp)
theorem tK {C:dL} {ops:Array Oper} {pend:List (Nat×Addr×List Value)} {i:Nat} (hq:eu C ops.toList i=true) (l:Array Bool) (w:World) (h:fV C ops pend (l.setIfInBounds i true) w):fV C ops pend l w:=by
 intro x hx hk;refine h x hx fun k hl ha=>?_;by_cases hki:k=i
 ·subst hki;simp [hq]at ha
 ·rw [getD_set_ne false (Ne.symm hki)]at hl;exact hk k hl ha
theorem cW {C:dL} {ops:Array Oper} {pend:List (Nat×Addr×List Value)} {i:Nat} (l:Array Bool) (w:World) (h:fV C ops pend l w):fV C ops pend (l.setIfInBounds i true) w:=by
 intro x hx hk;exact h x hx fun k hl ha=>hk k (getD_set_true hl) ha
theorem hK {α:Type} {p:α→Bool} {l r:List α} {x:α} (h:l.filter p=x::r):x∈l∧p x=true:=by
 have:x∈l.filter p:=by rw [h];simp
 exact List.mem_filter.1 this
theorem lx {C:dL} (hC:C.Ok) {n:Nat} {a:Act} {e:be} (hS:gG n a e) {o:Oper} {t:TypeId} {x:Operand} (ho:o.op= .load t x) {w:World} {K:Addr→List Value→Value→Prop}
  (h:nJ C t x e w K):∃ad cs v,K ad cs v∧de w ad cs 0∧∀w',de w' ad cs 0→(execOp a.eval o).run C.P w'= .ok (.value v) w':=by
 unfold nJ at h;split at h
 ·rename_i p hx;obtain⟨ad,rfl,h⟩:=dt h;split at h
  ·rename_i l _ hag _;obtain⟨v,hv,hk⟩:=gm h;refine⟨ad,[v],v,hk,⟨hv,trivial⟩,fun w' hw'=>?_⟩;have hv':w'.cell? ad=some v:=hw'.1;simp [execOp,ho,hS.ev hx,Instr.loadAt,Instr.sureAddr,loadVar,cV ((hC.ty t).agg _ hag),hv',Result.andThen]
  ·rename_i ls m hag _ hsz;split at h
   ·rename_i hb;have hb:m=ls.length:=Nat.eq_of_beq_eq_true hb;obtain⟨vs,hl,hc,hk⟩:=fr h;refine⟨ad,vs,_,hk,hc,fun w' hw'=>?_⟩;have hlc:=cm (P:=C.P) vs 0 #[] hw';rw [hl, ←hb]at hlc;simp [execOp,ho,hS.ev hx,Instr.loadAt,Instr.sureAddr,loadVar,cV ((hC.ty t).agg _ hag),aP ((hC.ty t).size _ hsz),loadCells,hlc,Result.andThen]
   ·exact h.elim
  ·exact h.elim
 ·exact h.elim
section
variable {C:dL} {n:Nat} {ds:List Nat} {b:be} {ops:Array Oper} {K:be→World→Prop} {Q:Exit→Act→World→Prop}
theorem ec (hC:C.Ok) (hd:iK n ops.toList=true) (hds:∀o∈ops.toList,∀d,o.dst=some d→d∈ds) (hsel:Region.noSelect ops=true) (hap:ny C ops=true)
  (hQ:∀a e w,eA n ds b a e→K e w→Q .normal a w) (hQp:∀c (d:Option Nat) v a w,Q (.panic c) (a.put d v) w→Q (.panic c) a w):
  ∀(f:Nat) (L:List Nat) (pend:List (Nat×Addr×List Value)) (e:be) (w:World) (listed:Array Bool) (a:Act),mg ops L listed→gO ops listed→eA n ds b a e→fV C ops pend listed w→
   cY C ops.toList f L pend e w K→fp C.P ops Q (fV C ops pend) f listed a w
 |0,L,pend,e,w,listed,a,ht,hc,hS,hp,h=>by
  simp only [cY]at h;split at h
  ·rename_i hr;exact⟨by rw [iA ht,hr],hQ a e w hS h⟩
  ·exact h.elim
 |f+1,L,pend,e,w,listed,a,ht,hc,hS,hp,h=>by
  simp only [cY]at h;have hapart:∀i oi,ops[i]? =some oi→eu C ops.toList i=true→∀j oj,ops[j]? =some oj→j≠i→nL ops.toList ops.size i j=false→nL ops.toList ops.size j i=false→oi.apart ops oj=true:=by
   intro i oi hi hq j oj hj hji h1 h2;have hil:i<ops.size:=by
    rcases Nat.lt_or_ge i ops.size with h |h
    ·exact h
    ·simp [Array.getElem?_eq_none h]at hi
   have hjl:j<ops.size:=by
    rcases Nat.lt_or_ge j ops.size with h |h
    ·exact h
    ·simp [Array.getElem?_eq_none h]at hj
   have h3:=List.all_eq_true.1 hap i (List.mem_range.2 hil);simp only [hq,Bool.not_true,Bool.false_or]at h3;have h4:=List.all_eq_true.1 h3 j (List.mem_range.2 hjl);have hb:Nat.beq i j=false:=by
    cases hb:Nat.beq i j with
    |false=>rfl
    |true=>exact absurd (Nat.eq_of_beq_eq_true hb).symm hji
   simpa only [hb,h1,h2,hi,hj,Bool.false_or]using h4
  split at h
  ·rename_i i rest hfil;obtain⟨hmem,hq⟩:=hK hfil;have hready:i∈Region.ready .any ops listed:=by rw [iA ht];exact hmem
   rw [aX]at h;split at h
   ·exact h.elim
   ·rename_i o ho;have ho':ops[i]? =some o:=by simpa using ho
    have hlt:i<ops.size:=by
     rcases Nat.lt_or_ge i ops.size with h |h
     ·exact h
     ·simp [Array.getElem?_eq_none h]at ho'
    have hqk:dV C o=true:=by
     unfold eu at hq;rw [aX,ho]at hq;exact hq
    have hdo:=rW hd hds (List.mem_of_getElem? ho);have hfirst:=fun(v:Value) (Si:World→Prop)=>nj (P:=C.P) (Q:=Q) (fun k=> !eu C ops.toList k) (v:=v) (Si:=Si) (S:=fV C ops pend) ho' (Region.noSelect_spec hsel) (fun c a w=>hQp c o.dst v a w) (by simp [hq]) (tK hq) (hapart i o ho' hq) f listed a w hc hready;have hrec:=fun(pend':List (Nat×Addr×List Value)) (e':be) (v:Value) (hS':eA n ds b a e') hp' hd'=>ec hC hd hds hsel hap hQ hQp f (i::L) pend' (e'.put o.dst v) w (listed.setIfInBounds i true) (a.put o.dst v) (gc ht hlt) (ff hc hready) (hS'.put o.dst v hdo) hp' hd';rcases iE hS h with⟨hw,e',hS',h⟩ |⟨hw,e',hS',h⟩
    ·have plain:∀v,(∀w',(execOp a.eval o).run C.P w'= .ok (.value v) w')→cY C ops.toList f (i::L) pend (e'.put o.dst v) w K→fp C.P ops Q (fV C ops pend) (f+1) listed a w:=fun v hrun hk=>
      hfirst v (fun _=>True) (.inl ⟨hw,fun w' _=>hrun w'⟩) trivial (cW _ _ hp) (dD (fun _ _ h=>⟨h,fun _=>trivial⟩) _ _ _ _ (hrec pend e' v hS' (cW _ _ hp) hk))
     split at h
     ·rename_i t x hop;obtain⟨ad,cs,v,hk,hcell,hrun⟩:=lx hC hS'.sim hop h;refine hfirst v (fun w'=>de w' ad cs 0) (.inl ⟨hw,hrun⟩) hcell (cW _ _ hp) ?_;have hp':fV C ops ((i,ad,cs)::pend) (listed.setIfInBounds i true) w:=by
       intro x hx hkk;rcases List.mem_cons.1 hx with rfl |hx
       ·exact hcell
       ·exact cW _ _ hp x hx hkk
      refine dD (fun l w' hl=>⟨fun x hx=>hl x (List.mem_cons_of_mem _ hx),fun hkk=>hl (i,ad,cs) (by simp) hkk⟩) _ _ _ _ (hrec ((i,ad,cs)::pend) e' v hS' hp' hk)
     ·split at h
      ·rename_i hdyn;obtain⟨v,hk,hrun⟩:=su hC hS'.sim hqk hdyn h;exact plain v hrun hk
      ·exact h.elim
    ·exact hfirst undef (fun _=>True) (.inr ⟨hw,rfl⟩) trivial (cW _ _ hp) (dD (fun _ _ h=>⟨h,fun _=>trivial⟩) _ _ _ _ (hrec pend e' undef hS' (cW _ _ hp) h))
  ·split at h
   ·rename_i hr;have hre:Region.ready .any ops listed= []:=by rw [iA ht,hr]
    exact⟨fun _=>hQ a e w hS h,fun i hi=>by rw [hre]at hi;cases hi⟩
   ·rename_i j js hr;have hre:Region.ready .any ops listed=j::js:=by rw [iA ht,hr]
    refine⟨fun hnil=>(by rw [hre]at hnil;cases hnil),fun i hi=>?_⟩;have h:=mq h i (by rw [←hre];exact hi);rw [aX]at h;split at h
    ·exact h.elim
    ·rename_i o ho;have ho':ops[i]? =some o:=by simpa using ho
     have hlt:i<ops.size:=by
      rcases Nat.lt_or_ge i ops.size with h |h
      ·exact h
      ·simp [Array.getElem?_eq_none h]at ho'
     have hdo:=rW hd hds (List.mem_of_getElem? ho);unfold wpOp;simp only [ho'];rcases iE hS h with⟨hw,e',hS',h⟩ |⟨hw,e',hS',h⟩
     ·rw [if_pos hw];refine .inl (qd hC hS'.sim o h fun v w' hk=>?_);obtain⟨hk,hp'⟩:=iQ (gc ht hlt) hk;exact⟨hp',ec hC hd hds hsel hap hQ hQp f (i::L) pend (e'.put o.dst v) w' (listed.setIfInBounds i true) (a.put o.dst v) (gc ht hlt) (ff hc hi) (hS'.put o.dst v hdo) hp' hk⟩
     ·rw [if_neg (by simp [hw])];exact⟨cW _ _ hp,ec hC hd hds hsel hap hQ hQp f (i::L) pend (e'.put o.dst undef) w (listed.setIfInBounds i true) (a.put o.dst undef) (gc ht hlt) (ff hc hi) (hS'.put o.dst undef hdo) (cW _ _ hp) h⟩
theorem sq (hC:C.Ok) {id:Nat} (hd:iK n ops.toList=true) (hds:∀o∈ops.toList,∀d,o.dst=some d→d∈ds) (hsel:Region.noSelect ops=true) (hap:ny C ops=true)
  (hQ:∀a e w,eA n ds b a e→K e w→Q .normal a w) (hQp:∀c (d:Option Nat) v a w,Q (.panic c) (a.put d v) w→Q (.panic c) a w)
  {a:Act} {e:be} {w:World} (hS:eA n ds b a e) (h:cY C ops.toList ops.toList.length [] [] e w.drew K):(Code.region id ops true).wp C.P Q a w:=by
 refine wp_region_any hC.mixed (kd (S:=fV C ops []) _ _ _ _ ?_);have ht:mg ops [] (Array.replicate ops.size false):=by
  refine⟨by simp,fun k=>?_⟩;rcases Nat.lt_or_ge k ops.size with hk |hk
  ·simp [gq,hk]
  ·simp [gq,Array.getElem?_eq_none,hk]
 have hc:gO ops (Array.replicate ops.size false):=by
  intro j o ho hj;rw [ht.2]at hj;simp [gq]at hj
 have:=ec hC hd hds hsel hap hQ hQp ops.toList.length [] [] e w.drew (Array.replicate ops.size false) a ht hc hS (fun x hx=>by cases hx) h;simpa using this
end
inductive Ex where
 |normal |exit (id:Nat) |ret
def Ex.to:Ex→Exit
 | .normal=>.normal
 | .exit id=>.exit id
 | .ret=>.ret
def kX:List Oper→List Nat
 | []=>[]
 |o::r=>match o.dst with
  |some d=>d::kX r
  |none=>kX r
def bI:Code→List Nat
 | .region _ ops _=>kX ops.toList
 | .seq x y=>bI x++bI y
 | .cond _ x y=>bI x++bI y
 | .block _ x=>bI x
 | .loop x=>bI x
 | .scope x=>bI x
 |_=>[]
def ig:Code→Bool
 | .seq x y=>ig x&&ig y
 | .cond _ x y=>ig x||ig y
 | .block id x=>ig x||leavesTo id x
 | .loop _=>false
 | .scope x=>ig x
 | .exit _=>false
 | .ret=>false
 | .goto _=>false
 |_=>true
where leavesTo (id:Nat):Code→Bool
 | .seq x y=>leavesTo id x||leavesTo id y
 | .cond _ x y=>leavesTo id x||leavesTo id y
 | .block _ x=>leavesTo id x
 | .loop x=>leavesTo id x
 | .scope x=>leavesTo id x
 | .exit i=>Nat.beq i id
 |_=>false
def qk (id:Nat):Code→Nat
 | .seq x y=>qk id x+qk id y
 | .cond _ x y=>qk id x+qk id y
 | .block _ x=>qk id x
 | .loop x=>qk id x
 | .scope x=>qk id x
 | .exit i=>match Nat.beq i id with
  |true=>1
  |false=>0
 |_=>0
def jG:Code→Bool
 | .cond _ x y=>ig x&&ig y
 | .seq _ y=>jG y
 | .scope x=>jG x
 |_=>false
def wR (id:Nat) (x:Code):Bool:=Nat.ble 2 (qk id x+match ig x with |true=>1 |false=>0)||jG x
def AO:Value→Bool
 | .tuple _=>true
 |_=>false
def ba (ds:List Nat):be→List Nat→List (Nat×Value)
 | [],_=>[]
 |(t,v)::r,seen=>match gq seen t with
  |true=>ba ds r seen
  |false=>match gq ds t&& !AO v with
   |true=>(t,v)::ba ds r (t::seen)
   |false=>ba ds r (t::seen)
def cn (ds:List Nat):be→be
 | []=>[]
 |(t,v)::r=>match gq ds t with
  |true=>cn ds r
  |false=>(t,v)::cn ds r
def bX:List (Nat×Value)→List Nat
 | []=>[]
 |(t,_)::r=>t::bX r
def fL:List (Nat×Value)→List Sh
 | []=>[]
 |(_,v)::r=>C1 v::fL r
def jA:List Nat→List Value→be→be
 |t::r,v::vs,e=>(t,v)::jA r vs e
 |_,_,e=>e
def ko:List Nat→be→Option (List Value)
 | [],_=>some []
 |t::r,e=>match e.get t with
  |none=>none
  |some v=>match ko r e with
   |none=>none
   |some vs=>some (v::vs)
def iP (slots:List Nat) (shs:List Sh) (J:List Value→World→Prop) (e:be) (w:World):Prop:=match ko slots e with
 |some vs=>match iX shs vs with
  |true=>J vs w
  |false=>False
 |none=>False
def y6 (vars:List (Nat×Value)) (e0:be) (rest:be→World→Prop) (use:(be→World→Prop)→Prop):Prop:=
 ∀J:List Value→World→Prop,(mV (fL vars) fun vs=>∀w,rest (jA (bX vars) vs e0) w→J vs w)→use (iP (bX vars) (fL vars) J)
def AX (vars:List (Nat×Value)) (e0:be) (e:be) (w:World) (body:be→World→(be→World→Prop)→Prop):Prop:=
 ∀I:List Value→World→Prop,(mV (fL vars) fun vs=>∀w,body (jA (bX vars) vs e0) w (iP (bX vars) (fL vars) I)→I vs w)→iP (bX vars) (fL vars) I e w
def qn (k:be→World→Prop) (K:Ex→be→World→Prop):Ex→be→World→Prop
 | .normal,e,w=>k e w
 | .exit id,e,w=>K (.exit id) e w
 | .ret,e,w=>K .ret e w
def mS (id:Nat) (k:be→World→Prop) (K:Ex→be→World→Prop):Ex→be→World→Prop
 | .normal,e,w=>k e w
 | .exit i,e,w=>match Nat.beq i id with
  |true=>k e w
  |false=>K (.exit i) e w
 | .ret,e,w=>K .ret e w
def sV (C:dL):Code→be→World→(Ex→be→World→Prop)→Prop
 | .skip=>fun e w K=>K .normal e w
 | .region _ ops draw=>fun e w K=>match draw with
  |false=>iH C ops.toList ops.toList e w (K .normal)
  |true=>∀w',w'=w.drew→cY C ops.toList ops.toList.length [] [] e w' (K .normal)
 | .seq x y=>fun e w K=>match jG x with
  |true=>y6 (ba (bI x) e []) (cn (bI x) e) (fun e' w'=>sV C y e' w' K) (fun k=>sV C x e w (qn k K))
  |false=>sV C x e w (qn (fun e' w'=>sV C y e' w' K) K)
 | .cond c x y=>fun e w K=>match ev e c with
  |some (.bool b)=>aa b (sV C x e w K) (sV C y e w K)
  |_=>False
 | .block id x=>fun e w K=>match wR id x with
  |true=>y6 (ba (bI x) e []) (cn (bI x) e) (K .normal) (fun k=>sV C x e w (mS id k K))
  |false=>sV C x e w (mS id (K .normal) K)
 | .loop x=>fun e w K=>AX (ba (bI x) e []) (cn (bI x) e) e w fun e' w' k=>sV C x e' w' (qn k K)
 | .exit id=>fun e w K=>K (.exit id) e w
 | .ret=>fun e w K=>K .ret e w
 | .rangeFunc _ _ _ _=>fun _ _ _=>False
 | .scope _=>fun _ _ _=>False
 | .label _=>fun _ _ _=>False
 | .goto _=>fun _ _ _=>False
 | .refuse _=>fun _ _ _=>False
def wf (C:dL) (n:Nat):Code→Bool
 | .skip=>true
 | .region _ ops draw=>iK n ops.toList&&match draw with
  |false=>true
  |true=>Region.noSelect ops&&ny C ops
 | .seq x y=>wf C n x&&wf C n y
 | .cond _ x y=>wf C n x&&wf C n y
 | .block _ x=>wf C n x
 | .loop x=>wf C n x
 | .exit _=>true
 | .ret=>true
 | .rangeFunc _ _ _ _=>true
 | .scope _=>true
 | .label _=>true
 | .goto _=>true
 | .refuse _=>true
theorem gN:∀ {l:List Oper} {o:Oper},o∈l→∀d,o.dst=some d→d∈kX l
 | [],o,h,_,_=>by cases h
 |x::r,o,h,d,hd=>by
  simp only [kX];rcases List.mem_cons.1 h with rfl |h
  ·rw [hd];simp
  ·split
   ·exact List.mem_cons_of_mem _ (gN h d hd)
   ·exact gN h d hd
theorem ek {ds:List Nat}:∀(e:be) (t:Nat),(cn ds e).get t=if t∈ds then none else e.get t
 | [],t=>by simp [cn,be.get]
 |(u,v)::r,t=>by
  simp only [cn];split
  ·rename_i hu;rw [ek r t];simp only [be.get];by_cases ht:t∈ds
   ·simp [ht]
   ·simp only [ht,if_false];have hne:u≠t:=fun h=>ht (h▸(fO ds u).1 hu);have:Nat.beq u t=false:=by
     cases hb:Nat.beq u t with
     |false=>rfl
     |true=>exact absurd (Nat.eq_of_beq_eq_true hb) hne
    rw [this]
  ·rename_i hu;simp only [be.get,ek r t];split
   ·rename_i hb;have:u=t:=Nat.eq_of_beq_eq_true hb;subst this;have hn:u∉ds:=fun h=>by rw [(fO ds u).2 h]at hu;cases hu
    simp [hn]
   ·rfl
theorem hU {n:Nat} {a:Act} {e0:be} (h0:gG n a e0):∀ {slots:List Nat} {vs:List Value} {e:be},gG n a e→ko slots e=some vs→gG n a (jA slots vs e0)
 | [],vs,e,h,hg=>by cases vs<;>exact h0
 |t::r,vs,e,h,hg=>by
  simp only [ko]at hg;split at hg
  ·cases hg
  ·rename_i v hv;split at hg
   ·cases hg
   ·rename_i us hus;cases hg;have ih:=hU h0 h hus;refine⟨h.size,h.defers,fun u x hx=>?_⟩;simp only [jA,be.get]at hx;split at hx
    ·rename_i hb;have:t=u:=Nat.eq_of_beq_eq_true hb;subst this;cases hx;exact h.get _ _ hv
    ·exact ih.get _ _ hx
theorem iz {slots:List Nat} {shs:List Sh} {J:List Value→World→Prop} {e:be} {w:World} (h:iP slots shs J e w):∃vs,ko slots e=some vs∧jd shs vs∧J vs w:=by
 unfold iP at h;split at h
 ·rename_i vs hv;split at h
  ·rename_i hs;exact⟨vs,hv,pz hs,h⟩
  ·exact h.elim
 ·exact h.elim
theorem er {n:Nat} {ds ds':List Nat} {b:be} {a:Act} {e e':be} (h:eA n ds e a e'):gG n a (cn ds e):=by
 refine⟨h.sim.size,h.sim.defers,fun t v hv=>?_⟩;rw [ek]at hv;split at hv
 ·cases hv
 ·rename_i ht;rw [←h.keep t ht]at hv;exact h.sim.get t v hv
def kZ (P:Program) (c:Code) (Q:Exit→Act→World→Prop) (a:Act) (w:World):Prop:=
 ∀(b:Frame) (k:List Item) (cs:List Frame),∃e a' w',Q e a' w'∧Arrives P (lone (b.at a (.inLoop c::k)) cs w) b k cs e a' w'
theorem gw {P:Program} {c:Code} {Q:Exit→Act→World→Prop} {a:Act} {w:World} (h:c.wp P (Exit.then (kZ P c Q) Q) a w) (b:Frame) (k:List Item) (cs:List Frame):
  ∃e a' w',Q e a' w'∧Arrives P (lone (b.at a (.code c:: .inLoop c::k)) cs w) b k cs e a' w':=by
 obtain⟨e,a₁,w₁,hq,harr⟩:=h b (.inLoop c::k) cs;cases e with
 |normal=>
  obtain⟨e₂,a₂,w₂,hq₂,harr₂⟩:=hq b k cs;exact⟨e₂,a₂,w₂,hq₂,.of_steps harr harr₂⟩
 |exit id=>exact⟨_,a₁,w₁,hq,.pass (x:=.inLoop c) rfl (fun _ _=>.inl (by simp)) harr⟩
 |goto l=>exact⟨_,a₁,w₁,hq,.pass (x:=.inLoop c) rfl (fun _ _=>.inl (by simp)) harr⟩
 |ret=>exact⟨_,a₁,w₁,hq,.pass (x:=.inLoop c) rfl (fun _ _=>.inl (by simp)) harr⟩
 |panic ch=>exact⟨_,a₁,w₁,hq,.pass (x:=.inLoop c) rfl (fun _ _=>.inl (by simp)) harr⟩
 |outgrown=>exact⟨_,a₁,w₁,hq,.pass (x:=.inLoop c) rfl (fun _ _=>.inl (by simp)) harr⟩
theorem nz {P:Program} {c:Code} {Q:Exit→Act→World→Prop} {a:Act} {w:World} (h:c.wp P (Exit.then (kZ P c Q) Q) a w):kZ P c Q a w:=fun b k cs=>by
 obtain⟨e,a',w',q,r⟩:=gw h b k cs;exact⟨e,a',w',q,.of_steps (.one step_inLoop) r⟩
theorem kb {P:Program} {c:Code} {Q:Exit→Act→World→Prop} {a:Act} {w:World} (h:c.wp P (Exit.then (kZ P c Q) Q) a w):(Code.loop c).wp P Q a w:=fun b k cs=>by
 obtain⟨e,a',w',q,r⟩:=gw h b k cs;exact⟨e,a',w',q,.of_steps (.one step_loop) r⟩
theorem ed {ds:List Nat}:∀(e:be) (seen:List Nat) (t:Nat),t∈bX (ba ds e seen)→t∈ds
 | [],_,t,h=>by simp [ba,bX]at h
 |(u,v)::r,seen,t,h=>by
  simp only [ba]at h;split at h
  ·exact ed r _ t h
  ·split at h
   ·rename_i hb;rw [Bool.and_eq_true]at hb;simp only [bX,List.mem_cons]at h;rcases h with rfl |h
    ·exact(fO ds t).1 hb.1
    ·exact ed r _ t h
   ·exact ed r _ t h
theorem s6 {e0:be} {t:Nat}:∀ {slots:List Nat} {vs:List Value},t∉slots→(jA slots vs e0).get t=e0.get t
 | [],vs,_=>by cases vs<;>rfl
 |u::r,[],_=>rfl
 |u::r,v::vs,h=>by
  simp only [jA,be.get];have hne:u≠t:=fun he=>h (by simp [he]);have:Nat.beq u t=false:=by
   cases hb:Nat.beq u t with
   |false=>rfl
   |true=>exact absurd (Nat.eq_of_beq_eq_true hb) hne
  rw [this];exact s6 (fun hm=>h (by simp [hm]))
theorem iM {ds:List Nat} {e:be} {vs:List Value} {t:Nat} (ht:t∉ds):(jA (bX (ba ds e [])) vs (cn ds e)).get t=e.get t:=by
 rw [s6 (fun h=>ht (ed e [] t h)),ek,if_neg ht]
def nP (C:dL) (n:Nat) (c:Code):Prop:=∀ {a:Act} {e:be} {w:World} {K:Ex→be→World→Prop} {Q:Exit→Act→World→Prop},gG n a e→sV C c e w K→
  (∀ex a' e' w',eA n (bI c) e a' e'→K ex e' w'→Q ex.to a' w')→(∀c (d:Option Nat) v a w,Q (.panic c) (a.put d v) w→Q (.panic c) a w)→c.wp C.P Q a w
theorem vx {C:dL} {n:Nat} {x y:Code} (ihx:nP C n x) (ihy:nP C n y):nP C n (.seq x y):=by
 intro a e w K Q hS h hQ hQp;simp only [sV]at h;refine wp_seq ?_;split at h
 ·have hJ:=h (fun vs w'=>jd (fL (ba (bI x) e [])) vs→∀a',gG n a' (jA (bX (ba (bI x) e [])) vs (cn (bI x) e))→y.wp C.P Q a' w') (by
   refine gn fun vs hsh w' hrest _ a' hS'=>?_;refine ihy hS' hrest (fun ex a2 e2 w2 hS2 hk2=>hQ ex a2 e2 w2 ⟨hS2.sim,fun t ht=>?_⟩ hk2) hQp;rw [hS2.keep t (fun h=>ht (by simp [bI,h])),iM (fun h=>ht (by simp [bI,h]))])
  refine ihx hS hJ (fun ex a' e' w' hS' hk=>?_) (fun c d v a w hp=>hQp c d v a w hp);cases ex with
  |normal=>
   simp only [qn]at hk;obtain⟨vs,hg,hsh,hj⟩:=iz hk;exact hj hsh a' (hU (er (ds':=[]) (b:=[]) hS') hS'.sim hg)
  |exit id=>exact hQ (.exit id) a' e' w' ⟨hS'.sim,fun t ht=>hS'.keep t (fun h=>ht (by simp [bI,h]))⟩ hk
  |ret=>exact hQ .ret a' e' w' ⟨hS'.sim,fun t ht=>hS'.keep t (fun h=>ht (by simp [bI,h]))⟩ hk
 ·refine ihx hS h (fun ex a' e' w' hS' hk=>?_) (fun c d v a w hp=>hQp c d v a w hp);cases ex with
  |normal=>
   refine ihy hS'.sim hk (fun ex a2 e2 w2 hS2 hk2=>hQ ex a2 e2 w2 ⟨hS2.sim,fun t ht=>?_⟩ hk2) hQp;rw [hS2.keep t (fun h=>ht (by simp [bI,h])),hS'.keep t (fun h=>ht (by simp [bI,h]))]
  |exit id=>exact hQ (.exit id) a' e' w' ⟨hS'.sim,fun t ht=>hS'.keep t (fun h=>ht (by simp [bI,h]))⟩ hk
  |ret=>exact hQ .ret a' e' w' ⟨hS'.sim,fun t ht=>hS'.keep t (fun h=>ht (by simp [bI,h]))⟩ hk
theorem rE {C:dL} {n id:Nat} {x:Code} (ihx:nP C n x):nP C n (.block id x):=by
 intro a e w K Q hS h hQ hQp;simp only [sV]at h;refine wp_block ?_;split at h
 ·have hJ:=h (fun vs w'=>jd (fL (ba (bI x) e [])) vs→∀a',gG n a' (jA (bX (ba (bI x) e [])) vs (cn (bI x) e))→Q .normal a' w') (by
   refine gn fun vs hsh w' hrest _ a' hS'=>?_;exact hQ .normal a' _ w' ⟨hS',fun t ht=>iM ht⟩ hrest)
  refine ihx hS hJ (fun ex a' e' w' hS' hk=>?_) (fun c d v a w hp=>hQp c d v a w hp);have key:iP (bX (ba (bI x) e [])) (fL (ba (bI x) e [])) (fun vs w'=>jd (fL (ba (bI x) e [])) vs→∀a',gG n a' (jA (bX (ba (bI x) e [])) vs (cn (bI x) e))→Q .normal a' w') e' w'→Q .normal a' w':=fun hk=>by
   obtain⟨vs,hg,hsh,hj⟩:=iz hk;exact hj hsh a' (hU (er (ds':=[]) (b:=[]) hS') hS'.sim hg)
  cases ex with
  |normal=>exact key hk
  |exit i=>
   simp only [mS]at hk;split at hk
   ·rename_i hb;have:i=id:=Nat.eq_of_beq_eq_true hb;simp only [Ex.to,Exit.inBlock,this,if_true];exact key hk
   ·rename_i hb;have:i≠id:=Nat.ne_of_beq_eq_false hb;simp only [Ex.to,Exit.inBlock,this,if_false];exact hQ (.exit i) a' e' w' hS' hk
  |ret=>exact hQ .ret a' e' w' hS' hk
 ·refine ihx hS h (fun ex a' e' w' hS' hk=>?_) (fun c d v a w hp=>hQp c d v a w hp);cases ex with
  |normal=>exact hQ .normal a' e' w' hS' hk
  |exit i=>
   simp only [mS]at hk;split at hk
   ·rename_i hb;have:i=id:=Nat.eq_of_beq_eq_true hb;simp only [Ex.to,Exit.inBlock,this,if_true];exact hQ .normal a' e' w' hS' hk
   ·rename_i hb;have:i≠id:=Nat.ne_of_beq_eq_false hb;simp only [Ex.to,Exit.inBlock,this,if_false];exact hQ (.exit i) a' e' w' hS' hk
  |ret=>exact hQ .ret a' e' w' hS' hk
theorem tD {C:dL} {n:Nat} {x:Code} (ihx:nP C n x):nP C n (.loop x):=by
 intro a e w K Q hS h hQ hQp;have hI:=h (fun vs w'=>jd (fL (ba (bI x) e [])) vs→∀a',gG n a' (jA (bX (ba (bI x) e [])) vs (cn (bI x) e))→x.wp C.P (Exit.then (kZ C.P x Q) Q) a' w') (by
  refine gn fun vs hsh w' hbody _ a' hS'=>?_;refine ihx hS' hbody (fun ex a2 e2 w2 hS2 hk2=>?_) (fun c d v a w hp=>hQp c d v a w hp);have hkeep:∀t,t∉bI x→e2.get t=e.get t:=fun t ht=>by rw [hS2.keep t ht,iM ht]
  cases ex with
  |normal=>
   simp only [qn]at hk2;obtain⟨us,hg,hsh',hj⟩:=iz hk2;exact nz (hj hsh' a2 (hU (er (ds':=[]) (b:=[]) ⟨hS2.sim,hkeep⟩) hS2.sim hg))
  |exit i=>exact hQ (.exit i) a2 e2 w2 ⟨hS2.sim,hkeep⟩ hk2
  |ret=>exact hQ .ret a2 e2 w2 ⟨hS2.sim,hkeep⟩ hk2)
 obtain⟨vs,hg,hsh,hj⟩:=iz hI;exact kb (hj hsh a (hU (er (ds:=bI x) (ds':=[]) (b:=[]) ⟨hS,fun _ _=>rfl⟩) hS hg))
theorem rX {C:dL} (hC:C.Ok) {n:Nat}:∀(c:Code),wf C n c=true→nP C n c:=by
 intro c;induction c with
 |skip=>intro _ a e w K Q hS h hQ _;exact wp_skip (hQ .normal a e w ⟨hS,fun _ _=>rfl⟩ h)
 |region id ops draw=>
  intro hw a e w K Q hS h hQ hQp;simp only [wf,Bool.and_eq_true]at hw;have hds:∀o∈ops.toList,∀d,o.dst=some d→d∈bI (.region id ops draw):=fun o ho d hd=>gN ho d hd;cases draw with
  |false=>exact nH hC hw.1 hds (fun a' e' w' hS' hk=>hQ .normal a' e' w' hS' hk) ⟨hS,fun _ _=>rfl⟩ h
  |true=>
   have hw2:=hw.2;simp only [Bool.and_eq_true]at hw2;exact sq hC hw.1 hds hw2.1 hw2.2 (fun a' e' w' hS' hk=>hQ .normal a' e' w' hS' hk) hQp ⟨hS,fun _ _=>rfl⟩ (h _ rfl)
 |seq x y ihx ihy=>intro hw;simp only [wf,Bool.and_eq_true]at hw;exact vx (ihx hw.1) (ihy hw.2)
 |cond c x y ihx ihy=>
  intro hw a e w K Q hS h hQ hQp;simp only [wf,Bool.and_eq_true]at hw;simp only [sV]at h;split at h
  ·rename_i b hb;have hbe:=hS.ev hb;cases b
   ·exact wp_cond_false hbe (ihy hw.2 hS h (fun ex a' e' w' hS' hk=>hQ ex a' e' w' ⟨hS'.sim,fun t ht=>hS'.keep t (fun h=>ht (by simp [bI,h]))⟩ hk) hQp)
   ·exact wp_cond_true hbe (ihx hw.1 hS h (fun ex a' e' w' hS' hk=>hQ ex a' e' w' ⟨hS'.sim,fun t ht=>hS'.keep t (fun h=>ht (by simp [bI,h]))⟩ hk) hQp)
  ·exact h.elim
 |block id x ih=>intro hw;exact rE (ih hw)
 |loop x ih=>intro hw;exact tD (ih hw)
 |exit id=>intro _ a e w K Q hS h hQ _;exact wp_exit (hQ (.exit id) a e w ⟨hS,fun _ _=>rfl⟩ h)
 |ret=>intro _ a e w K Q hS h hQ _;exact wp_ret (hQ .ret a e w ⟨hS,fun _ _=>rfl⟩ h)
 |_=>intro _ a e w K Q hS h hQ _;exact False.elim h
def g7:Nat→List Value→be
 |_,[]=>[]
 |i,v::r=>(i,v)::g7 (i+1) r
def eX (C:dL) (e:be) (w:World):List ResultVar→(List Value→Prop)→Prop
 | [],F=>F []
 | .tmp t::r,F=>match e.get t with
  |some v=>eX C e w r fun vs=>F (v::vs)
  |none=>False
 | .cell t ty::r,F=>match e.get t with
  |some (.pointer p)=>ac p fun ad=>match(C.ty ty).agg,(C.ty ty).rs,(C.ty ty).size with
   |some false,some (.one (.leaf l)),_=>uT l fun v=>w.cell? ad=some v∧eX C e w r fun vs=>F (v::vs)
   |some true,some (.one (.agg ls)),some n=>match Nat.beq n ls.length with
    |true=>rA ls fun us=>de w ad us 0∧eX C e w r fun vs=>F (.agg us.toArray::vs)
    |false=>False
   |_,_,_=>False
  |_=>False
def gM:List Value→Value
 | [v]=>v
 |vs=>.tuple vs.toArray
def wq (C:dL) (body:Code) (res:List ResultVar) (args:List Value) (w:World) (R:Value→World→Prop):Prop:=
 sV C body (g7 0 args) w fun ex e' w'=>match ex with
  | .normal=>eX C e' w' res fun vs=>R (gM vs) w'
  | .ret=>eX C e' w' res fun vs=>R (gM vs) w'
  | .exit _=>False
theorem jW:∀(vs:List Value) (i t:Nat) (v:Value),(g7 i vs).get t=some v→i≤t∧vs[t-i]? =some v
 | [],_,_,_,h=>by simp [g7,be.get]at h
 |u::r,i,t,v,h=>by
  simp only [g7,be.get]at h;split at h
  ·rename_i hb;have:i=t:=Nat.eq_of_beq_eq_true hb;subst this;cases h;simp
  ·obtain⟨h1,h2⟩:=jW r (i+1) t v h;refine⟨by omega,?_⟩;rw [show t-i=(t- (i+1))+1 from by omega];simpa using h2
def qP (tmps:Array Value):ResultVar→Sem Value
 | .tmp t=>pure (tmps.getD t undef)
 | .cell c t=>do loadVar t (←asAddr (tmps.getD c undef))
theorem eC {α β:Type} {P:Program} {f:α→Sem β} {x:α} {r:List α} {w:World} {v:β} {vs:List β} (h1:(f x).run P w= .ok v w) (h2:(r.mapM f).run P w= .ok vs w):((x::r).mapM f).run P w= .ok (v::vs) w:=by
 rw [List.mapM_cons,Sem.run_bind,h1];simp only [Result.andThen,Sem.run_bind];rw [h2];rfl
theorem fb {C:dL} (hC:C.Ok) {n:Nat} {a:Act} {e:be} (hS:gG n a e) {w:World}:∀ {res:List ResultVar} {F:List Value→Prop},eX C e w res F→
  ∃vs,F vs∧(res.mapM (qP a.tmps)).run C.P w= .ok vs w
 | [],F,h=>⟨[],h,by simp⟩
 | .tmp t::r,F,h=>by
  simp only [eX]at h;split at h
  ·rename_i v hv;obtain⟨vs,hF,hr⟩:=fb hC hS h;have hg:a.tmps.getD t undef=v:=by simp [Array.getD_eq_getD_getElem?,hS.get _ _ hv]
   exact⟨v::vs,hF,eC (by simp [qP,hg]) hr⟩
  ·exact h.elim
 | .cell t ty::r,F,h=>by
  simp only [eX]at h;split at h
  ·rename_i p hp;obtain⟨ad,rfl,h⟩:=dt h;have hg:a.tmps.getD t undef= .pointer (some ad):=by simp [Array.getD_eq_getD_getElem?,hS.get _ _ hp]
   split at h
   ·rename_i l _ hag _;obtain⟨v,hv,hk⟩:=gm h;obtain⟨vs,hF,hr⟩:=fb hC hS hk;refine⟨v::vs,hF,eC ?_ hr⟩;simp [qP,hg,asAddr,loadVar,cV ((hC.ty ty).agg _ hag),hv,Result.andThen]
   ·rename_i ls m hag _ hsz;split at h
    ·rename_i hb;have hb:m=ls.length:=Nat.eq_of_beq_eq_true hb;obtain⟨us,hl,hc,hk⟩:=fr h;obtain⟨vs,hF,hr⟩:=fb hC hS hk;have hlc:=cm (P:=C.P) us 0 #[] hc;rw [hl, ←hb]at hlc;refine⟨_,hF,eC ?_ hr⟩;simp [qP,hg,asAddr,loadVar,cV ((hC.ty ty).agg _ hag),aP ((hC.ty ty).size _ hsz),loadCells,hlc,Result.andThen]
    ·exact h.elim
   ·exact h.elim
  ·exact h.elim
def uF (P:Program) (f:FuncId):Bool:=match P.funcs[f]? with
 |some fn=>match fn.name== "runtime.NumGoroutine" with
  |true=>false
  |false=>match fn.body with
   |some _=>true
   |none=>false
 |none=>false
theorem vt {P:Program} (f:FuncId) (h:uF P f=true):∃fn c,P.funcs[f]? =some fn∧(fn.name== "runtime.NumGoroutine")=false∧fn.body=some c:=by
 unfold uF at h;split at h
 ·rename_i fn hf;split at h
  ·cases h
  ·rename_i hn;split at h
   ·rename_i c hc;exact⟨fn,c,hf,hn,hc⟩
   ·cases h
 ·cases h
def wB (P:Program) (tab:List (Nat×TI)):dL:={P:=P,tab:=tab,fns:=uF P}
theorem wP (P:Program) (tab:List (Nat×TI)) (h:∀p∈tab,aq P p.1 p.2) (hm:P.follows .mixedOrders=true):(wB P tab).Ok:=
 vB (C:=wB P tab) h (fun f h=>vt f h) hm
def fW (f:Func):Code:=match f.body with
 |some c=>c
 |none=>.skip
def am:Option TypeDesc→TypeDesc
 |some d=>d
 |none=>.tuple #[]
def aA:Option TypeDesc→Array Field
 |some (.struct fs)=>fs
 |_=>#[]
def xZ:TypeDesc→Bool
 | .interface _=>true
 |_=>false
theorem ai {d:TypeDesc} (h:xZ d=false):∀ms,d≠ .interface ms:=by
 intro ms he;subst he;cases h
theorem sy (fn:Func) (tmps:Array Value):results fn tmps=(do let vs←fn.results.mapM (qP tmps);pure (if h:vs.size=1 then vs[0]else .tuple vs)):=by
 unfold results;congr 1
theorem cD {C:dL} (hC:C.Ok) {f:FuncId} {fn:Func} {body:Code} {args:List Value} {w:World} {R:Value→World→Prop} (hf:C.P.funcs[f]? =some fn) (hb:fn.body=some body)
  (hn:Nat.ble args.length fn.ntmps=true) (hw:wf C fn.ntmps body=true) (h:wq C body fn.results.toList args w R):
  Calls C.P f args.toArray w fun e w'=>∃v,e= .returned v∧R v w':=by
 refine calls_of_wp hf hb ?_;have hle:args.length≤fn.ntmps:=Nat.le_of_ble_eq_true hn;have hS:gG fn.ntmps {tmps:=args.toArray++Array.replicate (fn.ntmps-args.toArray.size) undef,defers:=[]} (g7 0 args):=by
  refine⟨by simp;omega,rfl,fun t v hv=>?_⟩;obtain⟨_,h2⟩:=jW args 0 t v hv;rw [Nat.sub_zero]at h2;have hlt:t<args.length:=by
   rcases Nat.lt_or_ge t args.length with h |h
   ·exact h
   ·simp [List.getElem?_eq_none h]at h2
  simp only [];rw [Array.getElem?_append_left (by simpa using hlt)];simpa using h2
 have hres:∀(ex:Ex) (a':Act) (e':be) (w':World),eA fn.ntmps (bI body) (g7 0 args) a' e'→eX C e' w' fn.results.toList (fun vs=>R (gM vs) w')→
   a'.defers= []∧∃v,(results fn a'.tmps).run C.P w'= .ok v w'∧∃u,Ending.returned v= .returned u∧R u w':=by
  intro ex a' e' w' hS' hk;obtain⟨vs,hF,hr⟩:=fb hC hS'.sim hk;refine⟨hS'.sim.defers,gM vs,?_,_,rfl,hF⟩;rw [sy,Sem.run_bind,Array.mapM_eq_mapM_toList];simp only [Sem.run_map];rw [hr];simp only [Result.andThen,Sem.run_pure];congr 1
  match vs with
  | []=>simp [gM]
  | [v]=>simp [gM]
  |u::v::r=>simp [gM]
 refine rX hC body hw hS h (fun ex a' e' w' hS' hk=>?_) (fun c d v a w hp=>⟨?_,hp.2⟩)
 ·cases ex with
  |normal=>exact hres .normal a' e' w' hS' hk
  |ret=>exact hres .ret a' e' w' hS' hk
  |exit id=>exact hk.elim
 ·have:=hp.1;cases d<;>simpa [Act.put]using this
end Go.Proofs.YtijbcdiffjjefaaGreatDoor.Eng
