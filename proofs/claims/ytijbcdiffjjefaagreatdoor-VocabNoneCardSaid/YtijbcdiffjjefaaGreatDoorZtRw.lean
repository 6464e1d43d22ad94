/- Sifted out of this repo's own templates by tool/sift.py. -/
import Derived.Test.YtijbcdiffjjefaaGreatDoorZtVc
import Derived.Below
import Derived.Lib.SplitLaws
import Derived.Lib.CountLaws
import Derived.Lib.Split
import Derived.Lib.Join
import Derived.Lib.ItoaNum
import Derived.Lib.AtoiAll
import Derived.Lib.ItoaMem
import Derived.Laws.MakeOwn
import Derived.Lib.AppendIntMem
import Derived.Lib.AtoiErrMem
import Derived.Lib.AppendStr
import Derived.Shelf.Strings.Builder1
import Derived.WideShapes
import Derived.ChangeSame
import Derived.Test.YtijbcdiffjjefaaGreatDoorZtTab
set_option linter.unusedVariables false
set_option linter.unusedSimpArgs false
set_option maxRecDepth 100000
namespace Go.Proofs.YtijbcdiffjjefaaGreatDoor.Eng
open Go Go.RowKit Go.ChangeShapes Go.WideShapes
def wA:List UInt8:=[48,49,50,51,52,53,54,55,56,57,97,98,99,100,101,102]
def hx (n:Nat):UInt8:=wA.getD n 0
def cL:List UInt8→List UInt8
 | []=>[]
 |b::l=>hx (b.toNat/16)::hx (b.toNat%16)::cL l
def fR (l:List UInt8):List UInt8:=if l= []then [45]else cL l
def step (n:Nat) (b:UInt8):Nat:=10*n+(b.toNat-48)
abbrev Bs:=List UInt8
structure aj where
 ranked:Bool:=false
 merges:List (Int×Int):=[]
 tokens:List Bs:=[]
 specials:List (Int×Bs):=[]
 classes:List (Int×Int×Int):=[]
 joins:List (Int×Int):=[]
 deriving DecidableEq
def cF (m:Int×Int):Bool:=decide (0≤m.1∧m.1≤999∧0≤m.2∧m.2≤999)
def cZ (s:Bs):Bool:=decide (2≤s.length∧s.length≤64)
def aH (x:Int×Bs):Bool:=decide (0≤x.1∧x.1≤1073741824∧1≤x.2.length∧x.2.length≤64)
def aS (c:Int×Int×Int):Bool:=decide (0≤c.1∧c.1≤c.2.1∧c.2.1≤255∧0≤c.2.2∧c.2.2≤15)
def cQ (j:Int×Int):Bool:=decide (0≤j.1∧j.1≤15∧0≤j.2∧j.2≤15)
def aQ {α:Type} (l:List α) (most:Nat) (may:α→Bool):Bool:=decide (l.length≤most)&&l.all may
def aj.right (s:aj):Bool:=
 (if s.ranked then s.merges.isEmpty else s.tokens.isEmpty)&&aQ s.merges 744 cF&&aQ s.tokens 744 cZ&&aQ s.specials 32 aH&&aQ s.classes 64 aS&&aQ s.joins 64 cQ
def cP:Bs:=[118,111,99,97,98]
def dz:Bs:=[109,101,114,103,101,115]
def eZ:Bs:=[114,97,110,107,115]
def wMerge:Bs:=[109,101,114,103,101]
def wToken:Bs:=[116,111,107,101,110]
def wSpecial:Bs:=[115,112,101,99,105,97,108]
def wClass:Bs:=[99,108,97,115,115]
def wJoin:Bs:=[106,111,105,110]
def aZ (ws:List Bs):Bs:=Lib.join ws [32]
def dW (r:Bool):Bs:=aZ [cP,if r then eZ else dz]
def dg (m:Int×Int):Bs:=aZ [wMerge,Lib.itoa m.1,Lib.itoa m.2]
def dG (t:Bs):Bs:=aZ [wToken,fR t]
def bP (x:Int×Bs):Bs:=aZ [wSpecial,Lib.itoa x.1,fR x.2]
def ez (c:Int×Int×Int):Bs:=aZ [wClass,Lib.itoa c.1,Lib.itoa c.2.1,Lib.itoa c.2.2]
def iy (j:Int×Int):Bs:=aZ [wJoin,Lib.itoa j.1,Lib.itoa j.2]
def aj.tail (s:aj):List Bs:=s.merges.map dg++(s.tokens.map dG++(s.specials.map bP++(s.classes.map ez++s.joins.map iy)))
def aj.lines (s:aj):List Bs:=dW s.ranked::s.tail
def fS (ls:List Bs):Bs:=(ls.map (·++ [10])).flatten
def aj.text (s:aj):Bs:=fS s.lines
theorem bv {s:aj} (h:s.right=true):(if s.ranked then s.merges.isEmpty else s.tokens.isEmpty)=true∧aQ s.merges 744 cF=true∧aQ s.tokens 744 cZ=true∧aQ s.specials 32 aH=true∧aQ s.classes 64 aS=true∧aQ s.joins 64 cQ=true:=by
 unfold aj.right at h;simp only [Bool.and_eq_true]at h;obtain⟨⟨⟨⟨⟨h1,h2⟩,h3⟩,h4⟩,h5⟩,h6⟩:=h;exact⟨h1,h2,h3,h4,h5,h6⟩
abbrev AD:TypeId:=5
abbrev so:TypeId:=57
theorem uw:(Tryz.prog.info? AD).map (fun i=>(i.zero,i.size,i.bytes))=some (some (.int .u8 0),1,1):=by kernel_rfl
theorem lg:Tryz.prog.underlying so=some (.slice AD):=by kernel_rfl
abbrev g_:TypeId:=9
theorem Ax:Tryz.prog.underlying g_=some .string:=by kernel_rfl
theorem CJ:Tryz.prog.underlying AD=some (.int .u8):=by kernel_rfl
abbrev eI:TypeId:=32
theorem mU:Tryz.prog.underlying eI=some (.slice g_):=by kernel_rfl
theorem nn:(Tryz.prog.info? g_).map (fun i=>(i.zero,i.size,i.bytes))=some (some (.string ⟨#[]⟩),1,16):=by kernel_rfl
def C6 (n:Int):Prop:= -9223372036854775808≤n∧n≤9223372036854775807
def dd (xs:List (List UInt8)):List Value:=xs.map fun x=>.string (str x)
def wu (w:World) (a:Option Addr) (ns:List Int):Prop:=∀(j:Nat) (n:Int),ns[j]? =some n→∃x,a=some x∧x.block<w.heap.size∧w.cell? (x.add j)=some (.int .i64 n)
def bc (w:World) (a:Option Addr) (xs:List (List UInt8)):Prop:=∀(j:Nat) (s:List UInt8),xs[j]? =some s→∃x,a=some x∧x.block<w.heap.size∧w.cell? (x.add j)=some (.string (str s))
theorem bc.on {w w':World} {a:Option Addr} {xs:List (List UInt8)} (h:bc w a xs) (hb:Below w.heap.size w w'):bc w' a xs:=by
 intro j s hj;obtain⟨x,rfl,hx,hc⟩:=h j s hj;exact⟨x,rfl,Nat.lt_of_lt_of_le hx hb.size,by rw [hb.cell (by rwa [ap])];exact hc⟩
theorem bc.of_own {w:World} {base:Nat} {a:Option Addr} {n c:Nat} {xs:List (List UInt8)} (h:w.ownsRow base g_ 1 (.slice a n c) n (dd xs)):bc w a xs∧n=xs.length∧n≤c:=by
 have hn:=h.1;rw [show(dd xs).length=xs.length by simp [dd]]at hn;refine⟨?_,by omega,?_⟩
 ·intro j s hj;have hjl:=(List.getElem?_eq_some_iff.1 hj).1;rcases h.2 with⟨h1,h2⟩ |⟨g,cap,cur,h1,h2,h3,h4,h5,h6,h7⟩
  ·omega
  ·cases h1;refine⟨_,rfl,(Array.getElem?_eq_some_iff.1 h3).1,?_⟩;rw [au,Nat.zero_add,du h3];have h8:(dd xs)[j]? =some (.string (str s)):=by simp [dd,hj]
   rw [←h7,List.getElem?_take_of_lt (by omega)]at h8;simpa using h8
 ·obtain⟨a',c',e,hc⟩:=fX h;cases e;exact hc
def Rw {α:Type} (enc:α→List Value) (sz:Nat) (w:World) (a:Option Addr) (xs:List α):Prop:=∀(j:Nat) (x:α),xs[j]? =some x→∃p,a=some p∧p.block<w.heap.size∧∀(k:Nat) (v:Value),(enc x)[k]? =some v→w.cell? ((p.add (j*sz)).add k)=some v
theorem Rw.on {α:Type} {enc:α→List Value} {sz:Nat} {w w':World} {a:Option Addr} {xs:List α} (h:Rw enc sz w a xs) (hb:Below w.heap.size w w'):Rw enc sz w' a xs:=by
 intro j x hj;obtain⟨p,rfl,hp,hc⟩:=h j x hj;refine⟨p,rfl,Nat.lt_of_lt_of_le hp hb.size,fun k v hk=>?_⟩;rw [hb.cell (by rw [ap,ap];exact hp)];exact hc k v hk
theorem al (a:Addr):a.add 0=a:=by simp [Addr.add]
def aF (m:Int×Int):List Value:=[.int .i64 m.1,.int .i64 m.2]
def cq (s:Bs):List Value:=[.string (str s)]
def aD (x:Int×Bs):List Value:=[.int .i64 x.1,.string (str x.2)]
def a_ (c:Int×Int×Int):List Value:=[.int .i64 c.1,.int .i64 c.2.1,.int .i64 c.2.2]
theorem Rw.str {w:World} {a:Option Addr} {xs:List Bs} (h:Rw cq 1 w a xs):bc w a xs:=by
 intro j x hj;obtain⟨p,rfl,hp,hc⟩:=h j x hj;have:=hc 0 _ rfl;rw [Nat.mul_one,al]at this;exact⟨p,rfl,hp,this⟩
theorem bB (n lo hi:Int) (w:World):CP 196 #[.int .i64 n,.int .i64 lo,.int .i64 hi] w fun e w'=>e= .returned (.bool (decide (lo≤n∧n≤hi)))∧Below w.heap.size w w':=by
 refine az (qx n lo hi w (fun v w'=>v= .bool (decide (lo≤n∧n≤hi))∧Below w.heap.size w w') ?_) (by rintro v w' ⟨rfl,h⟩;exact⟨rfl,h⟩);refine aa.mk ?_ ?_
 ·intro h;have h:=of_decide_eq_true h;refine⟨?_,Below.refl _ _⟩;congr 1;exact decide_eq_decide.2 ⟨fun e=>⟨by omega,e⟩,fun e=>e.2⟩
 ·intro h;have h:=of_decide_eq_false h;refine⟨?_,Below.refl _ _⟩;rw [decide_eq_false (by omega)]
theorem jx (m:Int×Int) (w:World):CP 148 #[.agg #[.int .i64 m.1,.int .i64 m.2]] w fun e w'=>e= .returned (.bool (cF m))∧Below w.heap.size w w':=by
 refine az (nO m.1 m.2 w (fun v w'=>v= .bool (cF m)∧Below w.heap.size w w') ?_) (by rintro v w' ⟨rfl,h⟩;exact⟨rfl,h⟩);rintro w1 rfl;have hb:=ak w (.cells #[Value.int .i64 m.1,Value.int .i64 m.2] 85);refine⟨m.1,by rw [au,ay];rfl,?_⟩;refine(bB m.1 0 999 _).mono ?_;rintro e w2 ⟨rfl,h2⟩;refine⟨_,rfl,aa.mk ?_ ?_⟩
 ·intro h;have h:=of_decide_eq_true h;refine⟨m.2,by rw [au,h2.cell (by rw [ao];exact Nat.lt_succ_self _),ay];rfl,?_⟩;refine(bB m.2 0 999 w2).mono ?_;rintro e w3 ⟨rfl,h3⟩;refine⟨_,rfl,?_,ae hb (ae h2 h3)⟩;congr 1;unfold cF;exact decide_eq_decide.2 (by omega)
 ·intro h;have h:=of_decide_eq_false h;refine⟨?_,ae hb h2⟩;congr 1;unfold cF;exact(decide_eq_false (by omega)).symm
theorem kW (m:Int×Int) (w:World):CP 156 #[.agg #[.int .i64 m.1,.int .i64 m.2]] w fun e w'=>e= .returned (.bool (cQ m))∧Below w.heap.size w w':=by
 refine az (qr m.1 m.2 w (fun v w'=>v= .bool (cQ m)∧Below w.heap.size w w') ?_) (by rintro v w' ⟨rfl,h⟩;exact⟨rfl,h⟩);rintro w1 rfl;have hb:=ak w (.cells #[Value.int .i64 m.1,Value.int .i64 m.2] 170);refine⟨m.1,by rw [au,ay];rfl,?_⟩;refine(bB m.1 0 15 _).mono ?_;rintro e w2 ⟨rfl,h2⟩;refine⟨_,rfl,aa.mk ?_ ?_⟩
 ·intro h;have h:=of_decide_eq_true h;refine⟨m.2,by rw [au,h2.cell (by rw [ao];exact Nat.lt_succ_self _),ay];rfl,?_⟩;refine(bB m.2 0 15 w2).mono ?_;rintro e w3 ⟨rfl,h3⟩;refine⟨_,rfl,?_,ae hb (ae h2 h3)⟩;congr 1;unfold cQ;exact decide_eq_decide.2 (by omega)
 ·intro h;have h:=of_decide_eq_false h;refine⟨?_,ae hb h2⟩;congr 1;unfold cQ;exact(decide_eq_false (by omega)).symm
theorem jw (s:Bs) (w:World):CP 150 #[.string (str s)] w fun e w'=>e= .returned (.bool (cZ s))∧Below w.heap.size w w':=by
 refine az (o_ (str s) w (fun v w'=>v= .bool (cZ s)∧Below w.heap.size w w') ?_) (by rintro v w' ⟨rfl,h⟩;exact⟨rfl,h⟩);refine(bB _ 2 64 w).mono ?_;rintro e w2 ⟨rfl,h2⟩;refine⟨_,rfl,?_,h2⟩;congr 1;unfold cZ;rw [aR];exact decide_eq_decide.2 (by omega)
theorem ip (x:Int×Bs) (w:World):CP 152 #[.agg #[.int .i64 x.1,.string (str x.2)]] w fun e w'=>e= .returned (.bool (aH x))∧Below w.heap.size w w':=by
 refine az (oW x.1 (str x.2) w (fun v w'=>v= .bool (aH x)∧Below w.heap.size w w') ?_) (by rintro v w' ⟨rfl,h⟩;exact⟨rfl,h⟩);rintro w1 rfl;have hb:=ak w (.cells #[Value.int .i64 x.1,Value.string (str x.2)] 87);refine⟨x.1,by rw [au,ay];rfl,?_⟩;refine(bB x.1 0 1073741824 _).mono ?_;rintro e w2 ⟨rfl,h2⟩;refine⟨_,rfl,aa.mk ?_ ?_⟩
 ·intro h;have h:=of_decide_eq_true h;refine⟨str x.2,by rw [au,h2.cell (by rw [ao];exact Nat.lt_succ_self _),ay];rfl,?_⟩;refine(bB _ 1 64 w2).mono ?_;rintro e w3 ⟨rfl,h3⟩;refine⟨_,rfl,?_,ae hb (ae h2 h3)⟩;congr 1;unfold aH;rw [aR];exact decide_eq_decide.2 (by omega)
 ·intro h;have h:=of_decide_eq_false h;refine⟨?_,ae hb h2⟩;congr 1;unfold aH;exact(decide_eq_false (by omega)).symm
theorem ju (c:Int×Int×Int) (w:World):CP 154 #[.agg #[.int .i64 c.1,.int .i64 c.2.1,.int .i64 c.2.2]] w fun e w'=>e= .returned (.bool (aS c))∧Below w.heap.size w w':=by
 refine az (nN c.1 c.2.1 c.2.2 w (fun v w'=>v= .bool (aS c)∧Below w.heap.size w w') ?_) (by rintro v w' ⟨rfl,h⟩;exact⟨rfl,h⟩);rintro w1 rfl;have hb:=ak w (.cells #[Value.int .i64 c.1,Value.int .i64 c.2.1,Value.int .i64 c.2.2] 89);refine⟨c.1,by rw [au,ay];rfl,c.2.1,by rw [au,ay];rfl,?_⟩;refine(bB c.1 0 c.2.1 _).mono ?_;rintro e w2 ⟨rfl,h2⟩;refine⟨_,rfl,aa.mk ?_ ?_⟩
 ·intro h;have h:=of_decide_eq_true h;refine⟨c.2.1,by rw [au,h2.cell (by rw [ao];exact Nat.lt_succ_self _),ay];rfl,aa.mk ?_ ?_⟩
  ·intro h5;have h5:=of_decide_eq_true h5;refine⟨c.2.2,by rw [au,h2.cell (by rw [ao];exact Nat.lt_succ_self _),ay];rfl,?_⟩;refine(bB c.2.2 0 15 w2).mono ?_;rintro e w3 ⟨rfl,h3⟩;refine⟨_,rfl,?_,ae hb (ae h2 h3)⟩;congr 1;unfold aS;exact decide_eq_decide.2 (by omega)
  ·intro h5;have h5:=of_decide_eq_false h5;refine⟨?_,ae hb h2⟩;congr 1;unfold aS;exact(decide_eq_false (by omega)).symm
 ·intro h;have h:=of_decide_eq_false h;refine⟨?_,ae hb h2⟩;congr 1;unfold aS;exact(decide_eq_false (by omega)).symm
theorem bf.mono {C:dL} {f:Value} {args:List Value} {w:World} {R R':Ending→World→Prop} (h:bf C f args w R) (hr:∀e w',R e w'→R' e w'):bf C f args w R':=by
 unfold bf at h⊢;split at h
 ·split at h
  ·exact h.mono hr
  ·obtain⟨v,w',h1,h2⟩:=h;exact⟨v,w',h1,hr _ _ h2⟩
 ·exact h.elim
theorem cv {g:FuncId} {cap:Array Value} {args:List Value} {w:World} {R:Ending→World→Prop} (hg:hO.fns g=true) (h:CP g (args++cap.toList).toArray w R):bf hO (.func (.func g) #[] cap) args w R:=by
 unfold bf;simp only [hg];exact h
def ub {α:Type} (p:α→Bool) (xs:List α):Int:=match xs.findIdx? p with
 |some i=>(i:Int)
 |none=> -1
theorem ie {α:Type} (p:α→Bool) (xs:List α):decide (ub p xs≥0)=xs.any p:=by
 unfold ub;cases h:xs.findIdx? p with
 |none=>
  rw [List.findIdx?_eq_none_iff]at h;have:xs.any p=false:=by
   rw [List.any_eq_false];intro x hx;simpa using h x hx
  rw [this];rfl
 |some i=>
  have hi:=List.findIdx?_eq_some_iff_getElem.1 h;have:xs.any p=true:=List.any_eq_true.2 ⟨xs[i]'hi.1,List.getElem_mem hi.1,hi.2.1⟩;rw [this];exact decide_eq_true (by simp)
theorem fB {α:Type} {p:α→Bool} {xs:List α} {i:Nat} (h:i<xs.length) (hp:p xs[i]=true) (hb:∀j (hj:j<i),p (xs[j]'(by omega))=false):ub p xs=i:=by
 have:xs.findIdx? p=some i:=List.findIdx?_eq_some_iff_getElem.2 ⟨h,hp,fun j hj=>by simpa using hb j hj⟩;unfold ub;rw [this]
theorem fF {α:Type} {p:α→Bool} {xs:List α} (hb:∀j (hj:j<xs.length),p (xs[j])=false):ub p xs= -1:=by
 have:xs.findIdx? p=none:=by
  rw [List.findIdx?_eq_none_iff];intro x hx;obtain⟨j,hj,rfl⟩:=List.getElem_of_mem hx;exact hb j hj
 unfold ub;rw [this]
theorem ib {α:Type} (p:α→Bool) (xs:List α):(!xs.any fun x=> !p x)=xs.all p:=by
 induction xs with
 |nil=>rfl
 |cons x xs ih=>simp only [List.any_cons,List.all_cons,Bool.not_or,Bool.not_not,ih]
theorem oF (a:Option Addr) (c:Nat) (xs:List (Int×Int)) (f:Value) (p:Int×Int→Bool) (w:World) (hr:Rw aF 2 w a xs) (hl:xs.length≤1000000000000000)
  (hf:∀x∈xs,∀w1,Below w.heap.size w w1→bf hO f [.agg #[.int .i64 x.1,.int .i64 x.2]] w1 (fun e w2=>e= .returned (.bool (p x))∧Below w1.heap.size w1 w2)):
  CP 243 #[.slice a xs.length c,f] w fun e w'=>e= .returned (.int .i64 (ub p xs))∧Below w.heap.size w w':=by
 refine aK (qc a xs.length c f w) ?_;intro I hI;have key:=jl (α:=Int×World) xs.length (fun i x=>(∀j (hj:j<xs.length),j<i→p xs[j]=false)∧Below w.heap.size w x.2) (fun i x=>I [.int .i64 (i:Int),.int .i64 x.1] x.2) ?_ ?_ 0 (Nat.zero_le _) (0,w)
 ·exact key ⟨fun j _ hj=>absurd hj (Nat.not_lt_zero j),Below.refl _ _⟩
 ·rintro⟨y,w1⟩ ⟨hb,hB⟩;exact hI _ _ _ (aa.no (by simp) ⟨by rw [fF fun j hj=>hb j hj hj],hB⟩)
 ·rintro i hi ih ⟨y,w1⟩ ⟨hb,hB⟩;obtain⟨q,hq,_,hcx⟩:=(hr.on hB) i _ (List.getElem?_eq_getElem hi);refine hI _ _ _ (aa.yes (by simp;omega) (ac.mk q hq ⟨by omega,by omega,xs[i].1,xs[i].2,⟨by have:=hcx 0 _ rfl;simpa [al]using this,by have:=hcx 1 _ rfl;simpa using this,trivial⟩,?_⟩));refine(hf xs[i] (List.getElem_mem hi) w1 hB).mono ?_;rintro e w2 ⟨rfl,h2⟩;refine⟨_,rfl,aa.mk ?_ ?_⟩
  ·intro hp;exact⟨by rw [fB hi hp fun j hj=>hb j (by omega) hj],ae hB h2⟩
  ·intro hp;refine Ar.ok64 (by omega) (by omega) (ih (y,w2) ⟨?_,ae hB h2⟩);intro j hj hji;by_cases he:j=i
   ·subst he;exact hp
   ·exact hb j hj (by omega)
theorem jR (a:Option Addr) (c:Nat) (xs:List (Int×Int)) (f:Value) (p:Int×Int→Bool) (w:World) (hr:Rw aF 2 w a xs) (hl:xs.length≤1000000000000000)
  (hf:∀x∈xs,∀w1,Below w.heap.size w w1→bf hO f [.agg #[.int .i64 x.1,.int .i64 x.2]] w1 (fun e w2=>e= .returned (.bool (p x))∧Below w1.heap.size w1 w2)):
  CP 194 #[.slice a xs.length c,f] w fun e w'=>e= .returned (.bool (xs.any p))∧Below w.heap.size w w':=by
 refine aK (oU a xs.length c f w) ?_;refine(oF a c xs f p w hr hl hf).mono ?_;rintro e w1 ⟨rfl,h1⟩;exact⟨_,rfl,by rw [ie],h1⟩
theorem tX (x:Int×Int) (cb:Nat) (may:Value) (p:Int×Int→Bool) (w:World) (hcb:cb<w.heap.size) (hc:w.cell? ⟨cb,0,none⟩=some may) (hm:∀w1,bf hO may [.agg #[.int .i64 x.1,.int .i64 x.2]] w1 (fun e w2=>e= .returned (.bool (p x))∧Below w1.heap.size w1 w2)):
  CP 195 #[.agg #[.int .i64 x.1,.int .i64 x.2],.pointer (some ⟨cb,0,none⟩)] w fun e w'=>e= .returned (.bool (!p x))∧Below w.heap.size w w':=by
 refine aK (qo (x.1) (x.2) (some ⟨cb,0,none⟩) w) ?_;rintro w1 rfl;have hb:=ak w (.cells #[Value.int .i64 x.1,Value.int .i64 x.2] 85);refine⟨may,by rw [hb.cell hcb];exact hc,x.1,x.2,⟨by rw [ay];rfl,by rw [au,ay];rfl,trivial⟩,?_⟩;refine(hm _).mono ?_;rintro e w2 ⟨rfl,h2⟩;exact⟨_,rfl,rfl,ae hb h2⟩
theorem md (a:Option Addr) (c most:Nat) (xs:List (Int×Int)) (w:World) (hr:Rw aF 2 w a xs) (hm:most≤1000000):
  CP 147 #[.slice a xs.length c,.int .i64 most,.func (.func 148) #[] #[]] w fun e w'=>e= .returned (.bool (aQ xs most cF))∧Below w.heap.size w w':=by
 refine aK (qY a xs.length c most (.func (.func 148) #[] #[]) w) ?_;rintro w1 rfl;refine aa.mk ?_ ?_
 ·intro h;have h:=of_decide_eq_true h;have hb:=ak w (.cells (Value.cells (.func (.func 148) #[] #[])) 234);refine(jR a c xs _ (fun x=> !cF x) _ (hr.on hb) (by omega) ?_).mono ?_
  ·intro x hx w1 hB;refine cv (by kernel_rfl) ?_;refine tX x w.heap.size (.func (.func 148) #[] #[]) cF w1 (Nat.lt_of_lt_of_le (by rw [ao];exact Nat.lt_succ_self _) hB.size) (by rw [hB.cell (by rw [ao];exact Nat.lt_succ_self _),ay];rfl) ?_;intro w2;exact cv (by kernel_rfl) (jx x w2)
  ·rintro e w2 ⟨rfl,h2⟩;refine⟨_,rfl,?_,ae hb h2⟩;rw [ib,aQ,decide_eq_true (show xs.length≤most by omega)];rfl
 ·intro h;have h:=of_decide_eq_false h;refine⟨?_,ak _ _⟩;rw [aQ,decide_eq_false (show ¬xs.length≤most by omega)];rfl
theorem pQ (a:Option Addr) (c:Nat) (xs:List (Bs)) (f:Value) (p:Bs→Bool) (w:World) (hr:Rw cq 1 w a xs) (hl:xs.length≤1000000000000000)
  (hf:∀x∈xs,∀w1,Below w.heap.size w w1→bf hO f [.string (str x)] w1 (fun e w2=>e= .returned (.bool (p x))∧Below w1.heap.size w1 w2)):
  CP 244 #[.slice a xs.length c,f] w fun e w'=>e= .returned (.int .i64 (ub p xs))∧Below w.heap.size w w':=by
 refine aK (ow a xs.length c f w) ?_;intro I hI;have key:=jl (α:=Int×World) xs.length (fun i x=>(∀j (hj:j<xs.length),j<i→p xs[j]=false)∧Below w.heap.size w x.2) (fun i x=>I [.int .i64 (i:Int),.int .i64 x.1] x.2) ?_ ?_ 0 (Nat.zero_le _) (0,w)
 ·exact key ⟨fun j _ hj=>absurd hj (Nat.not_lt_zero j),Below.refl _ _⟩
 ·rintro⟨y,w1⟩ ⟨hb,hB⟩;exact hI _ _ _ (aa.no (by simp) ⟨by rw [fF fun j hj=>hb j hj hj],hB⟩)
 ·rintro i hi ih ⟨y,w1⟩ ⟨hb,hB⟩;obtain⟨q,hq,_,hcx⟩:=(hr.on hB) i _ (List.getElem?_eq_getElem hi);refine hI _ _ _ (aa.yes (by simp;omega) (ac.mk q hq ⟨by omega,by omega,str xs[i],by have:=hcx 0 _ rfl;simpa [al]using this,?_⟩));refine(hf xs[i] (List.getElem_mem hi) w1 hB).mono ?_;rintro e w2 ⟨rfl,h2⟩;refine⟨_,rfl,aa.mk ?_ ?_⟩
  ·intro hp;exact⟨by rw [fB hi hp fun j hj=>hb j (by omega) hj],ae hB h2⟩
  ·intro hp;refine Ar.ok64 (by omega) (by omega) (ih (y,w2) ⟨?_,ae hB h2⟩);intro j hj hji;by_cases he:j=i
   ·subst he;exact hp
   ·exact hb j hj (by omega)
theorem kU (a:Option Addr) (c:Nat) (xs:List (Bs)) (f:Value) (p:Bs→Bool) (w:World) (hr:Rw cq 1 w a xs) (hl:xs.length≤1000000000000000)
  (hf:∀x∈xs,∀w1,Below w.heap.size w w1→bf hO f [.string (str x)] w1 (fun e w2=>e= .returned (.bool (p x))∧Below w1.heap.size w1 w2)):
  CP 197 #[.slice a xs.length c,f] w fun e w'=>e= .returned (.bool (xs.any p))∧Below w.heap.size w w':=by
 refine aK (pP a xs.length c f w) ?_;refine(pQ a c xs f p w hr hl hf).mono ?_;rintro e w1 ⟨rfl,h1⟩;exact⟨_,rfl,by rw [ie],h1⟩
theorem t6 (x:Bs) (cb:Nat) (may:Value) (p:Bs→Bool) (w:World) (hcb:cb<w.heap.size) (hc:w.cell? ⟨cb,0,none⟩=some may) (hm:∀w1,bf hO may [.string (str x)] w1 (fun e w2=>e= .returned (.bool (p x))∧Below w1.heap.size w1 w2)):
  CP 198 #[.string (str x),.pointer (some ⟨cb,0,none⟩)] w fun e w'=>e= .returned (.bool (!p x))∧Below w.heap.size w w':=by
 refine aK (qq (str x) (some ⟨cb,0,none⟩) w) ?_;refine⟨may,hc,?_⟩;refine(hm w).mono ?_;rintro e w2 ⟨rfl,h2⟩;exact⟨_,rfl,rfl,h2⟩
theorem tO (a:Option Addr) (c most:Nat) (xs:List (Bs)) (w:World) (hr:Rw cq 1 w a xs) (hm:most≤1000000):
  CP 149 #[.slice a xs.length c,.int .i64 most,.func (.func 150) #[] #[]] w fun e w'=>e= .returned (.bool (aQ xs most cZ))∧Below w.heap.size w w':=by
 refine aK (qg a xs.length c most (.func (.func 150) #[] #[]) w) ?_;rintro w1 rfl;refine aa.mk ?_ ?_
 ·intro h;have h:=of_decide_eq_true h;have hb:=ak w (.cells (Value.cells (.func (.func 150) #[] #[])) 78);refine(kU a c xs _ (fun x=> !cZ x) _ (hr.on hb) (by omega) ?_).mono ?_
  ·intro x hx w1 hB;refine cv (by kernel_rfl) ?_;refine t6 x w.heap.size (.func (.func 150) #[] #[]) cZ w1 (Nat.lt_of_lt_of_le (by rw [ao];exact Nat.lt_succ_self _) hB.size) (by rw [hB.cell (by rw [ao];exact Nat.lt_succ_self _),ay];rfl) ?_;intro w2;exact cv (by kernel_rfl) (jw x w2)
  ·rintro e w2 ⟨rfl,h2⟩;refine⟨_,rfl,?_,ae hb h2⟩;rw [ib,aQ,decide_eq_true (show xs.length≤most by omega)];rfl
 ·intro h;have h:=of_decide_eq_false h;refine⟨?_,ak _ _⟩;rw [aQ,decide_eq_false (show ¬xs.length≤most by omega)];rfl
theorem jn (a:Option Addr) (c:Nat) (xs:List (Int×Bs)) (f:Value) (p:Int×Bs→Bool) (w:World) (hr:Rw aD 2 w a xs) (hl:xs.length≤1000000000000000)
  (hf:∀x∈xs,∀w1,Below w.heap.size w w1→bf hO f [.agg #[.int .i64 x.1,.string (str x.2)]] w1 (fun e w2=>e= .returned (.bool (p x))∧Below w1.heap.size w1 w2)):
  CP 132 #[.slice a xs.length c,f] w fun e w'=>e= .returned (.int .i64 (ub p xs))∧Below w.heap.size w w':=by
 refine aK (pZ a xs.length c f w) ?_;intro I hI;have key:=jl (α:=Int×World) xs.length (fun i x=>(∀j (hj:j<xs.length),j<i→p xs[j]=false)∧Below w.heap.size w x.2) (fun i x=>I [.int .i64 (i:Int),.int .i64 x.1] x.2) ?_ ?_ 0 (Nat.zero_le _) (0,w)
 ·exact key ⟨fun j _ hj=>absurd hj (Nat.not_lt_zero j),Below.refl _ _⟩
 ·rintro⟨y,w1⟩ ⟨hb,hB⟩;exact hI _ _ _ (aa.no (by simp) ⟨by rw [fF fun j hj=>hb j hj hj],hB⟩)
 ·rintro i hi ih ⟨y,w1⟩ ⟨hb,hB⟩;obtain⟨q,hq,_,hcx⟩:=(hr.on hB) i _ (List.getElem?_eq_getElem hi);refine hI _ _ _ (aa.yes (by simp;omega) (ac.mk q hq ⟨by omega,by omega,xs[i].1,str xs[i].2,⟨by have:=hcx 0 _ rfl;simpa [al]using this,by have:=hcx 1 _ rfl;simpa using this,trivial⟩,?_⟩));refine(hf xs[i] (List.getElem_mem hi) w1 hB).mono ?_;rintro e w2 ⟨rfl,h2⟩;refine⟨_,rfl,aa.mk ?_ ?_⟩
  ·intro hp;exact⟨by rw [fB hi hp fun j hj=>hb j (by omega) hj],ae hB h2⟩
  ·intro hp;refine Ar.ok64 (by omega) (by omega) (ih (y,w2) ⟨?_,ae hB h2⟩);intro j hj hji;by_cases he:j=i
   ·subst he;exact hp
   ·exact hb j hj (by omega)
theorem kY (a:Option Addr) (c:Nat) (xs:List (Int×Bs)) (f:Value) (p:Int×Bs→Bool) (w:World) (hr:Rw aD 2 w a xs) (hl:xs.length≤1000000000000000)
  (hf:∀x∈xs,∀w1,Below w.heap.size w w1→bf hO f [.agg #[.int .i64 x.1,.string (str x.2)]] w1 (fun e w2=>e= .returned (.bool (p x))∧Below w1.heap.size w1 w2)):
  CP 199 #[.slice a xs.length c,f] w fun e w'=>e= .returned (.bool (xs.any p))∧Below w.heap.size w w':=by
 refine aK (pr a xs.length c f w) ?_;refine(jn a c xs f p w hr hl hf).mono ?_;rintro e w1 ⟨rfl,h1⟩;exact⟨_,rfl,by rw [ie],h1⟩
theorem tB (x:Int×Bs) (cb:Nat) (may:Value) (p:Int×Bs→Bool) (w:World) (hcb:cb<w.heap.size) (hc:w.cell? ⟨cb,0,none⟩=some may) (hm:∀w1,bf hO may [.agg #[.int .i64 x.1,.string (str x.2)]] w1 (fun e w2=>e= .returned (.bool (p x))∧Below w1.heap.size w1 w2)):
  CP 200 #[.agg #[.int .i64 x.1,.string (str x.2)],.pointer (some ⟨cb,0,none⟩)] w fun e w'=>e= .returned (.bool (!p x))∧Below w.heap.size w w':=by
 refine aK (nQ (x.1) (str x.2) (some ⟨cb,0,none⟩) w) ?_;rintro w1 rfl;have hb:=ak w (.cells #[Value.int .i64 x.1,Value.string (str x.2)] 87);refine⟨may,by rw [hb.cell hcb];exact hc,x.1,str x.2,⟨by rw [ay];rfl,by rw [au,ay];rfl,trivial⟩,?_⟩;refine(hm _).mono ?_;rintro e w2 ⟨rfl,h2⟩;exact⟨_,rfl,rfl,ae hb h2⟩
theorem tF (a:Option Addr) (c most:Nat) (xs:List (Int×Bs)) (w:World) (hr:Rw aD 2 w a xs) (hm:most≤1000000):
  CP 151 #[.slice a xs.length c,.int .i64 most,.func (.func 152) #[] #[]] w fun e w'=>e= .returned (.bool (aQ xs most aH))∧Below w.heap.size w w':=by
 refine aK (o6 a xs.length c most (.func (.func 152) #[] #[]) w) ?_;rintro w1 rfl;refine aa.mk ?_ ?_
 ·intro h;have h:=of_decide_eq_true h;have hb:=ak w (.cells (Value.cells (.func (.func 152) #[] #[])) 218);refine(kY a c xs _ (fun x=> !aH x) _ (hr.on hb) (by omega) ?_).mono ?_
  ·intro x hx w1 hB;refine cv (by kernel_rfl) ?_;refine tB x w.heap.size (.func (.func 152) #[] #[]) aH w1 (Nat.lt_of_lt_of_le (by rw [ao];exact Nat.lt_succ_self _) hB.size) (by rw [hB.cell (by rw [ao];exact Nat.lt_succ_self _),ay];rfl) ?_;intro w2;exact cv (by kernel_rfl) (ip x w2)
  ·rintro e w2 ⟨rfl,h2⟩;refine⟨_,rfl,?_,ae hb h2⟩;rw [ib,aQ,decide_eq_true (show xs.length≤most by omega)];rfl
 ·intro h;have h:=of_decide_eq_false h;refine⟨?_,ak _ _⟩;rw [aQ,decide_eq_false (show ¬xs.length≤most by omega)];rfl
theorem qV (a:Option Addr) (c:Nat) (xs:List (Int×Int×Int)) (f:Value) (p:Int×Int×Int→Bool) (w:World) (hr:Rw a_ 3 w a xs) (hl:xs.length≤1000000000000000)
  (hf:∀x∈xs,∀w1,Below w.heap.size w w1→bf hO f [.agg #[.int .i64 x.1,.int .i64 x.2.1,.int .i64 x.2.2]] w1 (fun e w2=>e= .returned (.bool (p x))∧Below w1.heap.size w1 w2)):
  CP 245 #[.slice a xs.length c,f] w fun e w'=>e= .returned (.int .i64 (ub p xs))∧Below w.heap.size w w':=by
 refine aK (pR a xs.length c f w) ?_;intro I hI;have key:=jl (α:=Int×World) xs.length (fun i x=>(∀j (hj:j<xs.length),j<i→p xs[j]=false)∧Below w.heap.size w x.2) (fun i x=>I [.int .i64 (i:Int),.int .i64 x.1] x.2) ?_ ?_ 0 (Nat.zero_le _) (0,w)
 ·exact key ⟨fun j _ hj=>absurd hj (Nat.not_lt_zero j),Below.refl _ _⟩
 ·rintro⟨y,w1⟩ ⟨hb,hB⟩;exact hI _ _ _ (aa.no (by simp) ⟨by rw [fF fun j hj=>hb j hj hj],hB⟩)
 ·rintro i hi ih ⟨y,w1⟩ ⟨hb,hB⟩;obtain⟨q,hq,_,hcx⟩:=(hr.on hB) i _ (List.getElem?_eq_getElem hi);refine hI _ _ _ (aa.yes (by simp;omega) (ac.mk q hq ⟨by omega,by omega,xs[i].1,xs[i].2.1,xs[i].2.2,⟨by have:=hcx 0 _ rfl;simpa [al]using this,by have:=hcx 1 _ rfl;simpa using this,by have:=hcx 2 _ rfl;simpa using this,trivial⟩,?_⟩));refine(hf xs[i] (List.getElem_mem hi) w1 hB).mono ?_;rintro e w2 ⟨rfl,h2⟩;refine⟨_,rfl,aa.mk ?_ ?_⟩
  ·intro hp;exact⟨by rw [fB hi hp fun j hj=>hb j (by omega) hj],ae hB h2⟩
  ·intro hp;refine Ar.ok64 (by omega) (by omega) (ih (y,w2) ⟨?_,ae hB h2⟩);intro j hj hji;by_cases he:j=i
   ·subst he;exact hp
   ·exact hb j hj (by omega)
theorem kQ (a:Option Addr) (c:Nat) (xs:List (Int×Int×Int)) (f:Value) (p:Int×Int×Int→Bool) (w:World) (hr:Rw a_ 3 w a xs) (hl:xs.length≤1000000000000000)
  (hf:∀x∈xs,∀w1,Below w.heap.size w w1→bf hO f [.agg #[.int .i64 x.1,.int .i64 x.2.1,.int .i64 x.2.2]] w1 (fun e w2=>e= .returned (.bool (p x))∧Below w1.heap.size w1 w2)):
  CP 201 #[.slice a xs.length c,f] w fun e w'=>e= .returned (.bool (xs.any p))∧Below w.heap.size w w':=by
 refine aK (qF a xs.length c f w) ?_;refine(qV a c xs f p w hr hl hf).mono ?_;rintro e w1 ⟨rfl,h1⟩;exact⟨_,rfl,by rw [ie],h1⟩
theorem tU (x:Int×Int×Int) (cb:Nat) (may:Value) (p:Int×Int×Int→Bool) (w:World) (hcb:cb<w.heap.size) (hc:w.cell? ⟨cb,0,none⟩=some may) (hm:∀w1,bf hO may [.agg #[.int .i64 x.1,.int .i64 x.2.1,.int .i64 x.2.2]] w1 (fun e w2=>e= .returned (.bool (p x))∧Below w1.heap.size w1 w2)):
  CP 202 #[.agg #[.int .i64 x.1,.int .i64 x.2.1,.int .i64 x.2.2],.pointer (some ⟨cb,0,none⟩)] w fun e w'=>e= .returned (.bool (!p x))∧Below w.heap.size w w':=by
 refine aK (pC (x.1) (x.2.1) (x.2.2) (some ⟨cb,0,none⟩) w) ?_;rintro w1 rfl;have hb:=ak w (.cells #[Value.int .i64 x.1,Value.int .i64 x.2.1,Value.int .i64 x.2.2] 89);refine⟨may,by rw [hb.cell hcb];exact hc,x.1,x.2.1,x.2.2,⟨by rw [ay];rfl,by rw [au,ay];rfl,by rw [au,ay];rfl,trivial⟩,?_⟩;refine(hm _).mono ?_;rintro e w2 ⟨rfl,h2⟩;exact⟨_,rfl,rfl,ae hb h2⟩
theorem tw (a:Option Addr) (c most:Nat) (xs:List (Int×Int×Int)) (w:World) (hr:Rw a_ 3 w a xs) (hm:most≤1000000):
  CP 153 #[.slice a xs.length c,.int .i64 most,.func (.func 154) #[] #[]] w fun e w'=>e= .returned (.bool (aQ xs most aS))∧Below w.heap.size w w':=by
 refine aK (pn a xs.length c most (.func (.func 154) #[] #[]) w) ?_;rintro w1 rfl;refine aa.mk ?_ ?_
 ·intro h;have h:=of_decide_eq_true h;have hb:=ak w (.cells (Value.cells (.func (.func 154) #[] #[])) 238);refine(kQ a c xs _ (fun x=> !aS x) _ (hr.on hb) (by omega) ?_).mono ?_
  ·intro x hx w1 hB;refine cv (by kernel_rfl) ?_;refine tU x w.heap.size (.func (.func 154) #[] #[]) aS w1 (Nat.lt_of_lt_of_le (by rw [ao];exact Nat.lt_succ_self _) hB.size) (by rw [hB.cell (by rw [ao];exact Nat.lt_succ_self _),ay];rfl) ?_;intro w2;exact cv (by kernel_rfl) (ju x w2)
  ·rintro e w2 ⟨rfl,h2⟩;refine⟨_,rfl,?_,ae hb h2⟩;rw [ib,aQ,decide_eq_true (show xs.length≤most by omega)];rfl
 ·intro h;have h:=of_decide_eq_false h;refine⟨?_,ak _ _⟩;rw [aQ,decide_eq_false (show ¬xs.length≤most by omega)];rfl
theorem oD (a:Option Addr) (c:Nat) (xs:List (Int×Int)) (f:Value) (p:Int×Int→Bool) (w:World) (hr:Rw aF 2 w a xs) (hl:xs.length≤1000000000000000)
  (hf:∀x∈xs,∀w1,Below w.heap.size w w1→bf hO f [.agg #[.int .i64 x.1,.int .i64 x.2]] w1 (fun e w2=>e= .returned (.bool (p x))∧Below w1.heap.size w1 w2)):
  CP 246 #[.slice a xs.length c,f] w fun e w'=>e= .returned (.int .i64 (ub p xs))∧Below w.heap.size w w':=by
 refine aK (pv a xs.length c f w) ?_;intro I hI;have key:=jl (α:=Int×World) xs.length (fun i x=>(∀j (hj:j<xs.length),j<i→p xs[j]=false)∧Below w.heap.size w x.2) (fun i x=>I [.int .i64 (i:Int),.int .i64 x.1] x.2) ?_ ?_ 0 (Nat.zero_le _) (0,w)
 ·exact key ⟨fun j _ hj=>absurd hj (Nat.not_lt_zero j),Below.refl _ _⟩
 ·rintro⟨y,w1⟩ ⟨hb,hB⟩;exact hI _ _ _ (aa.no (by simp) ⟨by rw [fF fun j hj=>hb j hj hj],hB⟩)
 ·rintro i hi ih ⟨y,w1⟩ ⟨hb,hB⟩;obtain⟨q,hq,_,hcx⟩:=(hr.on hB) i _ (List.getElem?_eq_getElem hi);refine hI _ _ _ (aa.yes (by simp;omega) (ac.mk q hq ⟨by omega,by omega,xs[i].1,xs[i].2,⟨by have:=hcx 0 _ rfl;simpa [al]using this,by have:=hcx 1 _ rfl;simpa using this,trivial⟩,?_⟩));refine(hf xs[i] (List.getElem_mem hi) w1 hB).mono ?_;rintro e w2 ⟨rfl,h2⟩;refine⟨_,rfl,aa.mk ?_ ?_⟩
  ·intro hp;exact⟨by rw [fB hi hp fun j hj=>hb j (by omega) hj],ae hB h2⟩
  ·intro hp;refine Ar.ok64 (by omega) (by omega) (ih (y,w2) ⟨?_,ae hB h2⟩);intro j hj hji;by_cases he:j=i
   ·subst he;exact hp
   ·exact hb j hj (by omega)
theorem kw (a:Option Addr) (c:Nat) (xs:List (Int×Int)) (f:Value) (p:Int×Int→Bool) (w:World) (hr:Rw aF 2 w a xs) (hl:xs.length≤1000000000000000)
  (hf:∀x∈xs,∀w1,Below w.heap.size w w1→bf hO f [.agg #[.int .i64 x.1,.int .i64 x.2]] w1 (fun e w2=>e= .returned (.bool (p x))∧Below w1.heap.size w1 w2)):
  CP 203 #[.slice a xs.length c,f] w fun e w'=>e= .returned (.bool (xs.any p))∧Below w.heap.size w w':=by
 refine aK (oo a xs.length c f w) ?_;refine(oD a c xs f p w hr hl hf).mono ?_;rintro e w1 ⟨rfl,h1⟩;exact⟨_,rfl,by rw [ie],h1⟩
theorem tE (x:Int×Int) (cb:Nat) (may:Value) (p:Int×Int→Bool) (w:World) (hcb:cb<w.heap.size) (hc:w.cell? ⟨cb,0,none⟩=some may) (hm:∀w1,bf hO may [.agg #[.int .i64 x.1,.int .i64 x.2]] w1 (fun e w2=>e= .returned (.bool (p x))∧Below w1.heap.size w1 w2)):
  CP 204 #[.agg #[.int .i64 x.1,.int .i64 x.2],.pointer (some ⟨cb,0,none⟩)] w fun e w'=>e= .returned (.bool (!p x))∧Below w.heap.size w w':=by
 refine aK (oS (x.1) (x.2) (some ⟨cb,0,none⟩) w) ?_;rintro w1 rfl;have hb:=ak w (.cells #[Value.int .i64 x.1,Value.int .i64 x.2] 170);refine⟨may,by rw [hb.cell hcb];exact hc,x.1,x.2,⟨by rw [ay];rfl,by rw [au,ay];rfl,trivial⟩,?_⟩;refine(hm _).mono ?_;rintro e w2 ⟨rfl,h2⟩;exact⟨_,rfl,rfl,ae hb h2⟩
theorem tG (a:Option Addr) (c most:Nat) (xs:List (Int×Int)) (w:World) (hr:Rw aF 2 w a xs) (hm:most≤1000000):
  CP 155 #[.slice a xs.length c,.int .i64 most,.func (.func 156) #[] #[]] w fun e w'=>e= .returned (.bool (aQ xs most cQ))∧Below w.heap.size w w':=by
 refine aK (pV a xs.length c most (.func (.func 156) #[] #[]) w) ?_;rintro w1 rfl;refine aa.mk ?_ ?_
 ·intro h;have h:=of_decide_eq_true h;have hb:=ak w (.cells (Value.cells (.func (.func 156) #[] #[])) 240);refine(kw a c xs _ (fun x=> !cQ x) _ (hr.on hb) (by omega) ?_).mono ?_
  ·intro x hx w1 hB;refine cv (by kernel_rfl) ?_;refine tE x w.heap.size (.func (.func 156) #[] #[]) cQ w1 (Nat.lt_of_lt_of_le (by rw [ao];exact Nat.lt_succ_self _) hB.size) (by rw [hB.cell (by rw [ao];exact Nat.lt_succ_self _),ay];rfl) ?_;intro w2;exact cv (by kernel_rfl) (kW x w2)
  ·rintro e w2 ⟨rfl,h2⟩;refine⟨_,rfl,?_,ae hb h2⟩;rw [ib,aQ,decide_eq_true (show xs.length≤most by omega)];rfl
 ·intro h;have h:=of_decide_eq_false h;refine⟨?_,ak _ _⟩;rw [aQ,decide_eq_false (show ¬xs.length≤most by omega)];rfl
structure aI where
 ranked:Bool
 s1:Sl
 s2:Sl
 s3:Sl
 s4:Sl
 s5:Sl
abbrev aI.cells (x:aI):Array Value:=#[.bool x.ranked,x.s1.v,x.s2.v,x.s3.v,x.s4.v,x.s5.v]
abbrev aI.v (x:aI):Value:=.agg x.cells
structure bF (w:World) (x:aI) (s:aj):Prop where
 ranked:x.ranked=s.ranked
 n1:x.s1.n=s.merges.length
 r1:Rw aF 2 w x.s1.a s.merges
 n2:x.s2.n=s.tokens.length
 r2:Rw cq 1 w x.s2.a s.tokens
 n3:x.s3.n=s.specials.length
 r3:Rw aD 2 w x.s3.a s.specials
 n4:x.s4.n=s.classes.length
 r4:Rw a_ 3 w x.s4.a s.classes
 n5:x.s5.n=s.joins.length
 r5:Rw aF 2 w x.s5.a s.joins
theorem bF.on {w w':World} {x:aI} {s:aj} (h:bF w x s) (hb:Below w.heap.size w w'):bF w' x s:=
 ⟨h.ranked,h.n1,h.r1.on hb,h.n2,h.r2.on hb,h.n3,h.r3.on hb,h.n4,h.r4.on hb,h.n5,h.r5.on hb⟩
theorem iN {w w1:World} {c:Array Value} {e:TypeId} {j:Nat} (h:Below (w.alloc (.cells c e)).heap.size (w.alloc (.cells c e)) w1):w1.cell? ⟨w.heap.size,j,none⟩=c[j]? :=by
 rw [h.cell (by rw [ao];exact Nat.lt_succ_self _),ay]
theorem rj (x:aI) (s:aj) (w:World) (h:bF w x s):
  CP 101 #[x.v] w fun e w'=>e= .returned (.bool s.right)∧Below w.heap.size w w':=by
 refine az (qm x.ranked x.s1.a x.s1.n x.s1.c x.s2.a x.s2.n x.s2.c x.s3.a x.s3.n x.s3.c x.s4.a x.s4.n x.s4.c x.s5.a x.s5.n x.s5.c w (fun v w'=>v= .bool s.right∧Below w.heap.size w w') ?_) (by rintro v w' ⟨rfl,h⟩;exact⟨rfl,h⟩);rintro w1 rfl;have hb:=ak w (.cells x.cells 71);have h1:=h.on hb;have c0:∀j,(w.alloc (.cells x.cells 71)).cell? ((nb w).add j)=x.cells[j]? :=fun j=>by rw [au,Nat.zero_add,ay]
 have rest:(if s.ranked then s.merges.isEmpty else s.tokens.isEmpty)=true→∀(b1:Bool),b1=aQ s.merges 744 cF→∀w2,Below (w.alloc (.cells x.cells 71)).heap.size (w.alloc (.cells x.cells 71)) w2→
   aa b1
    (∃lA:Option Addr,∃lN:Nat,∃lC:Nat,w2.cell? ((nb w).add 2)=some (Value.slice lA lN lC)∧
     CP 149 #[Value.slice lA lN lC,Value.int .i64 744,Value.func (.func 150) #[] #[]] w2 (fun e3 w3=>
      ∃b_12:Bool,e3= .returned (Value.bool b_12)∧
      aa b_12
       (∃lA:Option Addr,∃lN:Nat,∃lC:Nat,w3.cell? ((nb w).add 3)=some (Value.slice lA lN lC)∧
        CP 151 #[Value.slice lA lN lC,Value.int .i64 32,Value.func (.func 152) #[] #[]] w3 (fun e4 w4=>
         ∃b_16:Bool,e4= .returned (Value.bool b_16)∧
         aa b_16
          (∃lA:Option Addr,∃lN:Nat,∃lC:Nat,w4.cell? ((nb w).add 4)=some (Value.slice lA lN lC)∧
           CP 153 #[Value.slice lA lN lC,Value.int .i64 64,Value.func (.func 154) #[] #[]] w4 (fun e5 w5=>
            ∃b_20:Bool,e5= .returned (Value.bool b_20)∧
            aa b_20
             (∃lA:Option Addr,∃lN:Nat,∃lC:Nat,w5.cell? ((nb w).add 5)=some (Value.slice lA lN lC)∧
              CP 155 #[Value.slice lA lN lC,Value.int .i64 64,Value.func (.func 156) #[] #[]] w5 (fun e6 w6=>
               ∃b_24:Bool,e6= .returned (Value.bool b_24)∧(Value.bool b_24= .bool s.right∧Below w.heap.size w w6)))
             (Value.bool false= .bool s.right∧Below w.heap.size w w5)))
          (Value.bool false= .bool s.right∧Below w.heap.size w w4)))
       (Value.bool false= .bool s.right∧Below w.heap.size w w3)))
    (Value.bool false= .bool s.right∧Below w.heap.size w w2):=by
  intro hr0 b1 hb1 w2 hB;have c2:∀ {w3:World} (j:Nat),Below (w.alloc (.cells x.cells 71)).heap.size (w.alloc (.cells x.cells 71)) w3→w3.cell? ((nb w).add j)=x.cells[j]? :=fun j hB=>by rw [au,Nat.zero_add,iN hB]
  have off:∀ {w3:World},s.right=false→Below (w.alloc (.cells x.cells 71)).heap.size (w.alloc (.cells x.cells 71)) w3→(Value.bool false= .bool s.right∧Below w.heap.size w w3):=fun e hB=>⟨by rw [e],ae hb hB⟩;refine aa.mk ?_ fun e=>off (by unfold aj.right;rw [←hb1,e];simp) hB;intro e1;refine⟨_,_,_,c2 2 hB,?_⟩;rw [h.n2];refine(tO x.s2.a x.s2.c 744 s.tokens w2 (h1.r2.on hB) (by omega)).mono ?_;rintro e w3 ⟨rfl,h3⟩;have hB3:=ae hB h3;refine⟨_,rfl,aa.mk ?_ fun e=>off (by unfold aj.right;rw [e];simp) hB3⟩;intro e2;refine⟨_,_,_,c2 3 hB3,?_⟩;rw [h.n3];refine(tF x.s3.a x.s3.c 32 s.specials w3 (h1.r3.on hB3) (by omega)).mono ?_;rintro e w4 ⟨rfl,h4⟩;have hB4:=ae hB3 h4;refine⟨_,rfl,aa.mk ?_ fun e=>off (by unfold aj.right;rw [e];simp) hB4⟩;intro e3;refine⟨_,_,_,c2 4 hB4,?_⟩;rw [h.n4];refine(tw x.s4.a x.s4.c 64 s.classes w4 (h1.r4.on hB4) (by omega)).mono ?_;rintro e w5 ⟨rfl,h5⟩;have hB5:=ae hB4 h5;refine⟨_,rfl,aa.mk ?_ fun e=>off (by unfold aj.right;rw [e];simp) hB5⟩;intro e4;refine⟨_,_,_,c2 5 hB5,?_⟩;rw [h.n5];refine(tG x.s5.a x.s5.c 64 s.joins w5 (h1.r5.on hB5) (by omega)).mono ?_;rintro e w6 ⟨rfl,h6⟩;refine⟨_,rfl,?_,ae hb (ae hB5 h6)⟩;congr 1;unfold aj.right;rw [hr0, ←hb1,e1,e2,e3,e4];rfl
 refine⟨_,c0 0,aa.mk ?_ ?_⟩
 ·intro hrk;have hrk:s.ranked=true:=by rw [←h.ranked];exact hrk
  refine⟨_,_,_,c0 1,aa.mk ?_ ?_⟩
  ·intro hm;have hm:=of_decide_eq_true hm;refine⟨?_,hb⟩;congr 1;unfold aj.right;have:s.merges.isEmpty=false:=by cases hh:s.merges with |nil=>rw [h.n1,hh]at hm;simp at hm |cons _ _=>rfl
   rw [if_pos hrk,this];rfl
  ·intro hm;have hm:=of_decide_eq_false hm;have hme:s.merges= []:=List.eq_nil_of_length_eq_zero (by rw [h.n1]at hm;omega);refine⟨_,c0 0,aa.no (by rw [h.ranked,hrk];rfl) ?_⟩;refine⟨_,_,_,c0 1,?_⟩;have hall:=md x.s1.a x.s1.c 744 s.merges _ h1.r1 (by omega);rw [←h.n1]at hall;refine hall.mono ?_;rintro e w2 ⟨rfl,h2⟩;exact⟨_,rfl,rest (by rw [if_pos hrk,hme];rfl) _ rfl w2 h2⟩
 ·intro hrk;have hrk:s.ranked=false:=by rw [←h.ranked];exact hrk
  refine⟨_,c0 0,aa.yes (by rw [h.ranked,hrk];rfl) ?_⟩;refine⟨_,_,_,c0 2,aa.mk ?_ ?_⟩
  ·intro hm;have hm:=of_decide_eq_true hm;refine⟨?_,hb⟩;congr 1;unfold aj.right;have:s.tokens.isEmpty=false:=by cases hh:s.tokens with |nil=>rw [h.n2,hh]at hm;simp at hm |cons _ _=>rfl
   rw [if_neg (by rw [hrk];simp),this];rfl
  ·intro hm;have hm:=of_decide_eq_false hm;have hme:s.tokens= []:=List.eq_nil_of_length_eq_zero (by rw [h.n2]at hm;omega);refine⟨_,_,_,c0 1,?_⟩;have hall:=md x.s1.a x.s1.c 744 s.merges _ h1.r1 (by omega);rw [←h.n1]at hall;refine hall.mono ?_;rintro e w2 ⟨rfl,h2⟩;exact⟨_,rfl,rest (by rw [if_neg (by rw [hrk];simp),hme];rfl) _ rfl w2 h2⟩
theorem cz {α:Type} (n:Nat) (Inv G:Nat→α→Prop) (x0:α) (h0:Inv 0 x0) (step:∀i,i<n→(∀x,Inv (i+1) x→G (i+1) x)→∀x,Inv i x→G i x) (last:∀x,Inv n x→G n x):G 0 x0:=
 jl n Inv G last step 0 (Nat.zero_le _) x0 h0
theorem aV {w:World} {b j:Nat} {c:Array Value} {e:TypeId} (h:w.heap[b]? =some (.cells c e (0,0))) (v:Value):(w.setCell ((⟨b,0,none⟩:Addr).add j) v).heap[b]? =some (.cells (c.setIfInBounds j v) e (0,0)):=by
 rw [au,Nat.zero_add];exact iq h v
theorem aE {w:World} {b j:Nat} {c:Array Value} {e:TypeId} (h:w.heap[b]? =some (.cells c e (0,0))):w.cell? ((⟨b,0,none⟩:Addr).add j)=c[j]? :=by
 rw [au,Nat.zero_add];exact du h
theorem aM {w:World} {b j:Nat} {c:Array Value} {e:TypeId} (h:w.heap[b]? =some (.cells c e (0,0))):w.frozen? ((⟨b,0,none⟩:Addr).add j)=false:=by
 rw [au,Nat.zero_add];exact fN h
theorem aN {B:Nat} {w w':World} {b j:Nat} (h:Below B w w') (hb:B≤b) (v:Value):Below B w (w'.setCell ((⟨b,0,none⟩:Addr).add j) v):=by
 rw [au,Nat.zero_add];exact h.setCell (p:=⟨b,0+j,none⟩) hb v |> (by simpa using ·)
theorem eN {α:Type} {l:List α} {most:Nat} {may:α→Bool} (h:aQ l most may=true):l.length≤most:=by
 unfold aQ at h;rw [Bool.and_eq_true]at h;exact of_decide_eq_true h.1
theorem fw {α:Type} {enc:α→List Value} {sz:Nat} (hsz:∀x,(enc x).length=sz):∀(xs:List α) (j:Nat) (x:α),xs[j]? =some x→∀k,k<sz→(xs.flatMap enc)[j*sz+k]? =(enc x)[k]?
 | [],j,x,h,k,hk=>by simp at h
 |y::ys,0,x,h,k,hk=>by
  simp at h;subst h;rw [List.flatMap_cons,List.getElem?_append_left (by rw [hsz];omega)];congr 1;omega
 |y::ys,j+1,x,h,k,hk=>by
  simp at h;rw [List.flatMap_cons,List.getElem?_append_right (by rw [hsz,Nat.succ_mul];omega),hsz, ←fw hsz ys j x h k hk];congr 1;rw [Nat.succ_mul];omega
theorem aU {α:Type} {enc:α→List Value} {sz:Nat} (hsz:∀x,(enc x).length=sz) (xs:List α):(xs.flatMap enc).length=xs.length*sz:=by
 induction xs with
 |nil=>simp
 |cons x xs ih=>rw [List.flatMap_cons,List.length_append,ih,hsz,List.length_cons,Nat.succ_mul];omega
theorem Rw.of_own {α:Type} {enc:α→List Value} {sz:Nat} {w:World} {B:Nat} {e:TypeId} {s:Sl} {xs:List α} (h:w.ownsRow B e sz s.v s.n (xs.flatMap enc)) (hsz:∀x,(enc x).length=sz) (h0:0<sz):Rw enc sz w s.a xs∧s.n=xs.length:=by
 have hn:=h.1;rw [aU hsz]at hn;have hn:s.n=xs.length:=(Nat.eq_of_mul_eq_mul_right h0 hn).symm;refine⟨?_,hn⟩;intro j x hj;have hjl:=(List.getElem?_eq_some_iff.1 hj).1;rcases h.2 with⟨h1,h2⟩ |⟨g,cap,cur,h1,h2,h3,h4,h5,h6,h7⟩
 ·omega
 ·obtain⟨sa,sn,sc⟩:=s;cases h1;refine⟨_,rfl,(Array.getElem?_eq_some_iff.1 h3).1,?_⟩;intro k v hk;have hkl:k<sz:=by rw [←hsz x];exact(List.getElem?_eq_some_iff.1 hk).1
  rw [au,au,Nat.zero_add,du h3];have h8:=fw hsz xs j x hj k hkl;have hb:j*sz+k<sn*sz:=by
   have:(j+1)*sz≤sn*sz:=Nat.mul_le_mul_right _ (by simp at hn;omega);rw [Nat.succ_mul]at this;omega
  rw [hk, ←h7,List.getElem?_take_of_lt hb]at h8;simpa using h8
def eF (n:Int):List Value:=[.int .i64 n]
theorem Rw.ints {w:World} {a:Option Addr} {ns:List Int} (h:Rw eF 1 w a ns):wu w a ns:=by
 intro j n hj;obtain⟨p,rfl,hp,hc⟩:=h j n hj;have:=hc 0 _ rfl;rw [Nat.mul_one,al]at this;exact⟨p,rfl,hp,this⟩
theorem fP {P:Program} {B b:Nat} {c:Array Value} {T:TypeId} {w1:World} {pre post:List dR} {r:dR} (jj:Nat) (hblk:w1.heap[b]? =some (.cells c T (0,0))) (hjj:jj<c.size) (hrows:bE w1 B (pre++r::post)) (hoff:∀x∈pre++r::post,x.blk≠some b) (hBb:B≤b)
  (t:TypeId) {z:Value} {bytes:Nat} (ht:P.underlying t=some (.slice r.e)) (hi:(P.info? r.e).map (fun i=>(i.zero,i.size,i.bytes))=some (some z,r.sz,bytes)) (hzs:z.cells.size=r.sz) (hsz:0<r.sz)
  (news:List Value) (hl:news.length=r.sz) (h1:∀u∈news,u.oneCell'=true) (hbytes:(r.sl.n+1)*bytes≤140737488355328) (h63:r.sl.n+1≤140737488355328):
  ∃a' c' w3,(Builtin.append_ #[t,t] t #[r.sl.v,.slice (some (nb w1)) 1 1]).run P (w1.alloc (.cells news.toArray r.e))= .ok (.slice a' (r.sl.n+1) c') w3∧
   (∃u,w3.cell? ((⟨b,0,none⟩:Addr).add jj)=some u)∧w3.frozen? ((⟨b,0,none⟩:Addr).add jj)=false∧
   ∀w4,w4=w3.setCell ((⟨b,0,none⟩:Addr).add jj) (.slice a' (r.sl.n+1) c')→
    w4.heap[b]? =some (.cells (c.setIfInBounds jj (.slice a' (r.sl.n+1) c')) T (0,0))∧bE w4 B (pre++⟨⟨a',r.sl.n+1,c'⟩,r.e,r.sz,r.xs++news⟩::post)∧
    (∀x∈pre++(⟨⟨a',r.sl.n+1,c'⟩,r.e,r.sz,r.xs++news⟩:dR)::post,x.blk≠some b)∧(∀w0,Below B w0 w1→Below B w0 w4):=by
 have hlt:b<w1.heap.size:=(Array.getElem?_eq_some_iff.1 hblk).1;obtain⟨a',c',w3,hr,hrows',hkeep,hnew,hB,hsize⟩:=hrows.push (P:=P) t ht hi hzs hsz news hl h1 hbytes h63 (by omega);have hblk3:w3.heap[b]? =some (.cells c T (0,0)):=by rw [hkeep b hlt (hoff r (by simp))];exact hblk
 have hoff':∀x∈pre++(⟨⟨a',r.sl.n+1,c'⟩,r.e,r.sz,r.xs++news⟩:dR)::post,x.blk≠some b:=by
  intro x hx;rcases List.mem_append.1 hx with hx |hx
  ·exact hoff x (by simp [hx])
  ·rcases List.mem_cons.1 hx with rfl |hx
   ·intro e;rcases hnew b e with h |h
    ·exact hoff r (by simp) h
    ·omega
   ·exact hoff x (by simp [hx])
 refine⟨a',c',w3,hr,⟨c[jj],?_⟩,aM hblk3,?_⟩
 ·rw [aE hblk3];simp [hjj]
 ·rintro w4 rfl;refine⟨aV hblk3 _,hrows'.setCell _ _ (by rw [ap];exact hoff'),hoff',fun w0 hb=>?_⟩;exact aN (hB w0 hb) hBb _
abbrev gQ:TypeId:=3
abbrev vn:TypeId:=28
theorem s0:Tryz.prog.underlying vn=some (.slice gQ):=by kernel_rfl
theorem sP:(Tryz.prog.info? gQ).map (fun i=>(i.zero,i.size,i.bytes))=some (some (.int .i64 0),1,8):=by kernel_rfl
abbrev sZ:TypeId:=85
abbrev rq:TypeId:=87
abbrev vT:TypeId:=89
abbrev xR:TypeId:=170
theorem uP:Tryz.prog.underlying 33=some (.slice sZ):=by kernel_rfl
theorem rI:Tryz.prog.underlying 25=some (.slice rq):=by kernel_rfl
theorem uI:Tryz.prog.underlying 23=some (.slice vT):=by kernel_rfl
theorem vm:Tryz.prog.underlying 24=some (.slice xR):=by kernel_rfl
theorem vr:(Tryz.prog.info? sZ).map (fun i=>(i.zero,i.size,i.bytes))=some (some (.agg #[.int .i64 0,.int .i64 0]),2,16):=by kernel_rfl
theorem sw:(Tryz.prog.info? rq).map (fun i=>(i.zero,i.size,i.bytes))=some (some (.agg #[.int .i64 0,.string ⟨#[]⟩]),2,24):=by kernel_rfl
theorem wz:(Tryz.prog.info? vT).map (fun i=>(i.zero,i.size,i.bytes))=some (some (.agg #[.int .i64 0,.int .i64 0,.int .i64 0]),3,24):=by kernel_rfl
theorem vA:(Tryz.prog.info? xR).map (fun i=>(i.zero,i.size,i.bytes))=some (some (.agg #[.int .i64 0,.int .i64 0]),2,16):=by kernel_rfl
def cH (s:aj):Prop:=s.merges.length≤1000000∧s.tokens.length≤1000000∧s.specials.length≤1000000∧s.classes.length≤1000000∧s.joins.length≤1000000
theorem ej {s:aj} (h:s.right=true):cH s:=by
 obtain⟨_,p1,p2,p3,p4,p5⟩:=bv h;have l1:=eN p1;have l2:=eN p2;have l3:=eN p3;have l4:=eN p4;have l5:=eN p5;exact⟨by omega,by omega,by omega,by omega,by omega⟩
abbrev bO:TypeId:=71
abbrev BK:Sl:=⟨none,0,0⟩
abbrev cj:aI:=⟨false,BK,BK,BK,BK,BK⟩
theorem Rw.off {α:Type} {enc:α→List Value} {sz:Nat} {w w7:World} {b:Nat} {a:Option Addr} {xs:List α} (h:Rw enc sz w a xs) (hne:∀j,j≠b→w7.heap[j]? =w.heap[j]?) (hs:w.heap.size≤w7.heap.size) (ha:∀p,a=some p→p.block≠b):Rw enc sz w7 a xs:=by
 intro j x hj;obtain⟨p,hp,hlt,hc⟩:=h j x hj;refine⟨p,hp,by omega,fun k v hk=>?_⟩;rw [←hc k v hk];unfold World.cell?;rw [hne _ (by rw [ap,ap];exact ha p hp)]
theorem gd {P:Nat→Prop} {i:Nat} (h:∀j,j<i→P j) (k:P i):∀j,j<i+1→P j:=by
 intro j hj;rcases Nat.lt_succ_iff_lt_or_eq.1 hj with e |e
 ·exact h j e
 ·subst e;exact k
theorem eW {α:Type} {l m:List α} (hl:l.length=m.length) (h:∀j,j<l.length→∀(hj:j<l.length) (hj':j<m.length),l[j]=m[j]):l=m:=
 List.ext_getElem hl fun j hj hj'=>h j hj hj hj'
theorem Rw.at {α:Type} {enc:α→List Value} {sz:Nat} {w:World} {a:Option Addr} {xs:List α} (h:Rw enc sz w a xs) {p:Addr} (hp:a=some p) {j:Nat} {x:α} (hj:xs[j]? =some x) (k:Nat) (v:Value) (hk:(enc x)[k]? =some v):w.cell? ((p.add (j*sz)).add k)=some v:=by
 obtain⟨q,hq,_,hc⟩:=h j x hj;rw [hp]at hq;cases hq;exact hc k v hk
theorem mc {w w6:World} {c:Array Value} {T:TypeId} (K:aI→World→Prop) (x:aI) (hblk:w6.heap[w.heap.size]? =some (.cells c T (0,0))) (hc:c.size=6)
  (hR:∀w7,(∀w0,Below w.heap.size w0 w6→Below w.heap.size w0 w7)→(∀j,j≠w.heap.size→w7.heap[j]? =w6.heap[j]?)→K x w7):
  aG w6 (nb w) (fun w7=>
   ∃res0:Bool,∃res1A:Option Addr,∃res1N:Nat,∃res1C:Nat,∃res2A:Option Addr,∃res2N:Nat,∃res2C:Nat,∃res3A:Option Addr,∃res3N:Nat,∃res3C:Nat,∃res4A:Option Addr,∃res4N:Nat,∃res4C:Nat,∃res5A:Option Addr,∃res5N:Nat,∃res5C:Nat,(w7.cell? (nb w)=some (Value.bool res0)∧w7.cell? ((nb w).add 1)=some (Value.slice res1A res1N res1C)∧w7.cell? ((nb w).add 2)=some (Value.slice res2A res2N res2C)∧w7.cell? ((nb w).add 3)=some (Value.slice res3A res3N res3C)∧w7.cell? ((nb w).add 4)=some (Value.slice res4A res4N res4C)∧w7.cell? ((nb w).add 5)=some (Value.slice res5A res5N res5C)∧True)∧
   K ⟨res0,⟨res1A,res1N,res1C⟩,⟨res2A,res2N,res2C⟩,⟨res3A,res3N,res3C⟩,⟨res4A,res4N,res4C⟩,⟨res5A,res5N,res5C⟩⟩ w7)
   [Value.bool x.ranked,Value.slice x.s1.a x.s1.n x.s1.c,Value.slice x.s2.a x.s2.n x.s2.c,Value.slice x.s3.a x.s3.n x.s3.c,Value.slice x.s4.a x.s4.n x.s4.c,Value.slice x.s5.a x.s5.n x.s5.c] 0:=by
 refine cE _ 0 w6 c 0 hblk (by simp [hc]) (by intro v hv;simp at hv;rcases hv with rfl |rfl |rfl |rfl |rfl |rfl<;>rfl) ?_
 intro w7 h7 hne hsz hB;have h7':w7.heap[w.heap.size]? =some (.cells x.cells T (0,0)):=by
  rw [h7];congr 2;simp [d7,hc]
 have c0:w7.cell? (nb w)=some (Value.bool x.ranked):=by have:=aE (j:=0) h7';rw [al]at this;exact this.trans rfl
 exact⟨x.ranked,_,_,_,_,_,_,_,_,_,_,_,_,_,_,_,⟨c0,(aE (j:=1) h7').trans rfl,(aE (j:=2) h7').trans rfl,(aE (j:=3) h7').trans rfl,(aE (j:=4) h7').trans rfl,(aE (j:=5) h7').trans rfl,trivial⟩,hR w7 (fun w0 h=>hB _ w0 (Nat.le_refl _) h) hne⟩
theorem Rw.flat {α:Type} {enc:α→List Value} {sz:Nat} {w:World} {p:Addr} {xs:List α} (h:Rw enc sz w (some p) xs) (hsz:∀x,(enc x).length=sz) (h0:0<sz) (i:Nat) (u:Value) (hi:(xs.flatMap enc)[i]? =some u):w.cell? (p.add i)=some u:=by
 have hlt:=(List.getElem?_eq_some_iff.1 hi).1;rw [aU hsz]at hlt;have hj:i/sz<xs.length:=Nat.div_lt_of_lt_mul (by rw [Nat.mul_comm];exact hlt);have hk:i%sz<sz:=Nat.mod_lt _ h0;have hsplit:i/sz*sz+i%sz=i:=by rw [Nat.mul_comm];exact Nat.div_add_mod i sz
 have hg:=fw hsz xs (i/sz) _ (List.getElem?_eq_getElem hj) (i%sz) hk;rw [hsplit,hi]at hg;have:=h.at rfl (List.getElem?_eq_getElem hj) (i%sz) u hg.symm;rw [Addr.add_add,hsplit]at this;exact this
theorem fY {α:Type} {enc:α→List Value} {sz:Nat} (hsz:∀x,(enc x).length=sz) (h0:0<sz) (h1:∀x,∀u∈enc x,u.oneCell'=true) (t e:TypeId) {z:Value} {bytes:Nat} (ht:Tryz.prog.underlying t=some (.slice e)) (hi:(Tryz.prog.info? e).map (fun i=>(i.zero,i.size,i.bytes))=some (some z,sz,bytes)) (hzs:z.cells.size=sz)
  (w8:World) (src:Sl) (xs:List α) (hsrc:Ah src) (hr:Rw enc sz w8 src.a xs) (hn:src.n=xs.length) (hb:src.n*bytes≤140737488355328) (hN:src.n≤140737488355328):∀w18,w18=w8.alloc (.cells #[] e)→
  ∃A C w19,(Builtin.append_ #[t,t] t #[.slice (some (nb w8)) 0 0,src.v]).run Tryz.prog w18= .ok (.slice A src.n C) w19∧w19.ownsRow w8.heap.size e sz (.slice A src.n C) src.n (xs.flatMap enc)∧Below w8.heap.size w8 w19:=by
 rintro w18 rfl;have hB:=ak w8 (.cells #[] e);have hown:(w8.alloc (.cells #[] e)).ownsRow w8.heap.size e sz (.slice (some (nb w8)) 0 0) 0 []:=⟨by simp,.inr ⟨w8.heap.size,0,_,rfl,Nat.le_refl _,aC w8 _,Nat.le_refl _,by decide,by simp,by simp⟩⟩;obtain⟨A,C,w19,h2,h3,h4,_⟩:=rH (P:=Tryz.prog) t e ht hi hzs h0 hown src hsrc (xs.flatMap enc) (by rw [aU hsz,hn]) (by
  intro a ha j u hj;have hr':=hr.on hB;rw [ha]at hr';exact hr'.flat hsz h0 j u hj) (by
  intro u hu;obtain⟨x,_,hx⟩:=List.mem_flatMap.1 hu;exact h1 x u hx) (by rw [Nat.zero_add];exact hb) (by rw [Nat.zero_add];exact hN) hB.size
 rw [Nat.zero_add]at h2 h3;exact⟨A,C,w19,h2,h3,h4 w8 hB⟩
theorem rJ {w2:World} {k:World→Prop} (x:aI) (w3:World) (hw3:w3=w2.alloc (.cells cj.cells bO)) (hk:∀w4,w4.heap[w2.heap.size]? =some (.cells x.cells bO (0,0))→Below w2.heap.size w2 w4→k w4):
  aG w3 (nb w2) k [Value.bool x.ranked,Value.slice x.s1.a x.s1.n x.s1.c,Value.slice x.s2.a x.s2.n x.s2.c,Value.slice x.s3.a x.s3.n x.s3.c,Value.slice x.s4.a x.s4.n x.s4.c,Value.slice x.s5.a x.s5.n x.s5.c] 0:=by
 refine bd [.bool false,.slice none 0 0,.slice none 0 0,.slice none 0 0,.slice none 0 0,.slice none 0 0] [.bool x.ranked,x.s1.v,x.s2.v,x.s3.v,x.s4.v,x.s5.v] rfl (by intro v hv;simp at hv;rcases hv with rfl |rfl |rfl |rfl |rfl |rfl<;>rfl) w3 hw3 ?_
 intro w4 h4 _ hB;exact hk w4 h4 hB
theorem f7 {w:World} {b:Nat} {x:aI} {T:TypeId} {fz:Nat×Nat} (h:w.heap[b]? =some (.cells x.cells T fz)):
  w.cell? ⟨b,0,none⟩=some (Value.bool x.ranked)∧w.cell? ((⟨b,0,none⟩:Addr).add 1)=some x.s1.v∧w.cell? ((⟨b,0,none⟩:Addr).add 2)=some x.s2.v∧w.cell? ((⟨b,0,none⟩:Addr).add 3)=some x.s3.v∧w.cell? ((⟨b,0,none⟩:Addr).add 4)=some x.s4.v∧w.cell? ((⟨b,0,none⟩:Addr).add 5)=some x.s5.v∧True:=by
 have hc:∀j,w.cell? ((⟨b,0,none⟩:Addr).add j)=x.cells[j]? :=fun j=>by rw [au,Nat.zero_add,du h]
 exact⟨by have:=hc 0;rw [al]at this;exact this,hc 1,hc 2,hc 3,hc 4,hc 5,trivial⟩
theorem av {w w':World} (h:Below w.heap.size w w') {b:Nat} {o:Obj} (ho:w.heap[b]? =some o):w'.heap[b]? =some o:=by rw [h.block b (Array.getElem?_eq_some_iff.1 ho).1,ho]
section
variable {H:Type} {enc0:TypeId×Value→H} {w:World} {base:Nat} {spare:Nat→Bool} {held:Bool}
end
open Go Go.Value
def Dd (a:Bool) (b:OA) (c d:Nat) (f:OA) (g h:Nat) (i:OA) (j k:Nat) (l:OA) (m n:Nat) (o:OA) (p q:Nat) (r:Bool) (s:OA) (t u:Nat) (x:OA) (y z:Nat) (a1:OA) (b1 c1:Nat) (d1:OA) (e1 f1:Nat) (g1:OA) (h1 i1:Nat) (w:World) (R:RW):Prop:=
 ∀j1,j1=w.alloc (.cells #[bool a,slice b c d,slice f g h,slice i j k,slice l m n,slice o p q] 71)→
 ∀k1,k1=j1.alloc (.cells #[bool r,slice s t u,slice x y z,slice a1 b1 c1,slice d1 e1 f1,slice g1 h1 i1] 71)→
 ∃l1,k1.cell? ((nb w).add 0)=some (bool l1)∧
 ∃m1,k1.cell? ((nb j1).add 0)=some (bool m1)∧
 aa (!(l1==m1))
 (R (bool false) k1)
 (∃n1 o1 p1,k1.cell? ((nb w).add 1)=some (slice n1 o1 p1)∧
 ∃q1 r1 s1,k1.cell? ((nb j1).add 1)=some (slice q1 r1 s1)∧
 aa ((o1:Int) != (r1:Int))
 (R (bool false) k1)
 (∃t1 u1 v1,k1.cell? ((nb w).add 2)=some (slice t1 u1 v1)∧
 ∃x1 y1 z1,k1.cell? ((nb j1).add 2)=some (slice x1 y1 z1)∧
 CP 99 #[slice t1 u1 v1,slice x1 y1 z1] k1 (fun a2 b2=>
 ∃c2,a2= .returned (bool c2)∧
 aa (!c2)
 (R (bool false) b2)
 (∃d2 e2 f2,b2.cell? ((nb w).add 3)=some (slice d2 e2 f2)∧
 ∃g2 h2 i2,b2.cell? ((nb j1).add 3)=some (slice g2 h2 i2)∧
 aa ((e2:Int) != (h2:Int))
 (R (bool false) b2)
 (∃j2 k2 l2,b2.cell? ((nb w).add 4)=some (slice j2 k2 l2)∧
 ∃m2 n2 o2,b2.cell? ((nb j1).add 4)=some (slice m2 n2 o2)∧
 aa ((k2:Int) != (n2:Int))
 (R (bool false) b2)
 (∃p2 q2 r2,b2.cell? ((nb w).add 5)=some (slice p2 q2 r2)∧
 ∃s2 t2 u2,b2.cell? ((nb j1).add 5)=some (slice s2 t2 u2)∧
 aa ((q2:Int) != (t2:Int))
 (R (bool false) b2)
 (∀v2:KW,(∀(x2:Int) (y2:Bool) (z2:World),(∃a3 b3 c3,z2.cell? ((nb w).add 1)=some (slice a3 b3 c3)∧
 aa (decide (x2< (b3:Int)))
 (∀d3,d3=z2.drew→
 ∃e3 f3 g3,d3.cell? ((nb w).add 1)=some (slice e3 f3 g3)∧
 ac e3 (fun h3=>
 (0:Int)≤x2∧x2< (f3:Int)∧
 ∃i3 j3,(d3.cell? (h3.add (x2.toNat*2))=some (int .i64 i3)∧d3.cell? ((h3.add (x2.toNat*2)).add 1)=some (int .i64 j3)∧True)∧
 ∃k3 l3 m3,d3.cell? ((nb j1).add 1)=some (slice k3 l3 m3)∧
 ac k3 (fun n3=>
 (0:Int)≤x2∧x2< (l3:Int)∧
 ∃o3 p3,(d3.cell? (n3.add (x2.toNat*2))=some (int .i64 o3)∧d3.cell? ((n3.add (x2.toNat*2)).add 1)=some (int .i64 p3)∧True)∧
 aa (!((i3==o3)&&((j3==p3)&&(true))))
 (R (bool false) d3)
 (Ar .i64 (x2+1) (fun q3=>
 v2 [int .i64 q3,bool y2] d3)))))
 (∀r3:KW,(∀(s3:Int) (t3:Bool) (u3:World),(∃v3 x3 y3,u3.cell? ((nb w).add 3)=some (slice v3 x3 y3)∧
 aa (decide (s3< (x3:Int)))
 (∀z3,z3=u3.drew→
 ∃a4 b4 c4,z3.cell? ((nb w).add 3)=some (slice a4 b4 c4)∧
 ac a4 (fun d4=>
 (0:Int)≤s3∧s3< (b4:Int)∧
 ∃e4 f4,(z3.cell? (d4.add (s3.toNat*2))=some (int .i64 e4)∧z3.cell? ((d4.add (s3.toNat*2)).add 1)=some (string f4)∧True)∧
 ∃g4 h4 i4,z3.cell? ((nb j1).add 3)=some (slice g4 h4 i4)∧
 ac g4 (fun j4=>
 (0:Int)≤s3∧s3< (h4:Int)∧
 ∃k4 l4,(z3.cell? (j4.add (s3.toNat*2))=some (int .i64 k4)∧z3.cell? ((j4.add (s3.toNat*2)).add 1)=some (string l4)∧True)∧
 aa (!((e4==k4)&&((f4.toList==l4.toList)&&(true))))
 (R (bool false) z3)
 (Ar .i64 (s3+1) (fun m4=>
 r3 [int .i64 m4,bool t3] z3)))))
 (∀n4:KW,(∀(o4:Int) (p4:Bool) (q4:World),(∃r4 s4 t4,q4.cell? ((nb w).add 4)=some (slice r4 s4 t4)∧
 aa (decide (o4< (s4:Int)))
 (∀u4,u4=q4.drew→
 ∃v4 x4 y4,u4.cell? ((nb w).add 4)=some (slice v4 x4 y4)∧
 ac v4 (fun z4=>
 (0:Int)≤o4∧o4< (x4:Int)∧
 ∃a5 b5 c5,(u4.cell? (z4.add (o4.toNat*3))=some (int .i64 a5)∧u4.cell? ((z4.add (o4.toNat*3)).add 1)=some (int .i64 b5)∧u4.cell? ((z4.add (o4.toNat*3)).add 2)=some (int .i64 c5)∧True)∧
 ∃d5 e5 f5,u4.cell? ((nb j1).add 4)=some (slice d5 e5 f5)∧
 ac d5 (fun g5=>
 (0:Int)≤o4∧o4< (e5:Int)∧
 ∃h5 i5 j5,(u4.cell? (g5.add (o4.toNat*3))=some (int .i64 h5)∧u4.cell? ((g5.add (o4.toNat*3)).add 1)=some (int .i64 i5)∧u4.cell? ((g5.add (o4.toNat*3)).add 2)=some (int .i64 j5)∧True)∧
 aa (!((a5==h5)&&((b5==i5)&&((c5==j5)&&(true)))))
 (R (bool false) u4)
 (Ar .i64 (o4+1) (fun k5=>
 n4 [int .i64 k5,bool p4] u4)))))
 (∀l5:KW,(∀(m5:Int) (n5:Bool) (o5:World),(∃p5 q5 r5,o5.cell? ((nb w).add 5)=some (slice p5 q5 r5)∧
 aa (decide (m5< (q5:Int)))
 (∀s5,s5=o5.drew→
 ∃t5 u5 v5,s5.cell? ((nb w).add 5)=some (slice t5 u5 v5)∧
 ac t5 (fun x5=>
 (0:Int)≤m5∧m5< (u5:Int)∧
 ∃y5 z5,(s5.cell? (x5.add (m5.toNat*2))=some (int .i64 y5)∧s5.cell? ((x5.add (m5.toNat*2)).add 1)=some (int .i64 z5)∧True)∧
 ∃a6 b6 c6,s5.cell? ((nb j1).add 5)=some (slice a6 b6 c6)∧
 ac a6 (fun d6=>
 (0:Int)≤m5∧m5< (b6:Int)∧
 ∃e6 f6,(s5.cell? (d6.add (m5.toNat*2))=some (int .i64 e6)∧s5.cell? ((d6.add (m5.toNat*2)).add 1)=some (int .i64 f6)∧True)∧
 aa (!((y5==e6)&&((z5==f6)&&(true))))
 (R (bool false) s5)
 (Ar .i64 (m5+1) (fun g6=>
 l5 [int .i64 g6,bool n5] s5)))))
 (R (bool true) o5))→l5 [int .i64 m5,bool n5] o5)→
 l5 [int .i64 0,bool p4] q4))→n4 [int .i64 o4,bool p4] q4)→
 n4 [int .i64 0,bool t3] u3))→r3 [int .i64 s3,bool t3] u3)→
 r3 [int .i64 0,bool y2] z2))→v2 [int .i64 x2,bool y2] z2)→
 v2 [int .i64 0,bool false] b2)))))))
theorem si (a:Bool) (b:OA) (c d:Nat) (f:OA) (g h:Nat) (i:OA) (j k:Nat) (l:OA) (m n:Nat) (o:OA) (p q:Nat) (r:Bool) (s:OA) (t u:Nat) (x:OA) (y z:Nat) (a1:OA) (b1 c1:Nat) (d1:OA) (e1 f1:Nat) (g1:OA) (h1 i1:Nat) (w:World) (R:RW) (hh:Dd a b c d f g h i j k l m n o p q r s t u x y z a1 b1 c1 d1 e1 f1 g1 h1 i1 w R):CR 34 #[agg #[bool a,slice b c d,slice f g h,slice i j k,slice l m n,slice o p q],agg #[bool r,slice s t u,slice x y z,slice a1 b1 c1,slice d1 e1 f1,slice g1 h1 i1]] w R:=
 aB (fn:=Tryz.f34) (by kernel_rfl) (by kernel_rfl) (by kernel_rfl) (by kernel_rfl) (by kernel_rfl) hh
def C_ (a:ByteArray) (w:World) (R:RW):Prop:=
 ∀b,b=w.alloc (.cells #[bool false,slice none 0 0,slice none 0 0,slice none 0 0,slice none 0 0,slice none 0 0] 71)→
 aa (decide (((a.size:Int):Int)>60000))
 (aG b (nb w) (fun c=>
 ∃d f g h i j k l m n o p q r s t,(c.cell? (nb w)=some (bool d)∧c.cell? ((nb w).add 1)=some (slice f g h)∧c.cell? ((nb w).add 2)=some (slice i j k)∧c.cell? ((nb w).add 3)=some (slice l m n)∧c.cell? ((nb w).add 4)=some (slice o p q)∧c.cell? ((nb w).add 5)=some (slice r s t)∧True)∧
 R (tuple #[agg #[bool d,slice f g h,slice i j k,slice l m n,slice o p q,slice r s t],int .i64 0,int .i64 3]) c) [bool false,slice none 0 0,slice none 0 0,slice none 0 0,slice none 0 0,slice none 0 0] 0)
 (CP 128 #[string a] b (fun u x=>
 ∃y z a1 b1,u= .returned (tuple #[slice y z a1,bool b1])∧
 ∀c1,c1=x.alloc (.cells #[bool false,slice none 0 0,slice none 0 0,slice none 0 0,slice none 0 0,slice none 0 0,int .i64 0] 211)→
 ∀d1:KW,(∀(e1 f1 g1:Int) (h1:World),(aa (decide (e1< (z:Int)))
 (ac y (fun i1=>
 (0:Int)≤e1∧e1< (z:Int)∧
 ∃j1,h1.cell? (i1.add (e1.toNat*1))=some (string j1)∧
 CP 129 #[pointer (some (nb x)),int .i64 e1,string j1] h1 (fun k1 l1=>
 ∃m1,k1= .returned (bool m1)∧
 aa (!m1)
 (Ar .i64 (e1+1) (fun n1=>
 aG l1 (nb w) (fun o1=>
 ∃p1 q1 r1 s1 t1 u1 v1 x1 y1 z1 a2 b2 c2 d2 e2 f2,(o1.cell? (nb w)=some (bool p1)∧o1.cell? ((nb w).add 1)=some (slice q1 r1 s1)∧o1.cell? ((nb w).add 2)=some (slice t1 u1 v1)∧o1.cell? ((nb w).add 3)=some (slice x1 y1 z1)∧o1.cell? ((nb w).add 4)=some (slice a2 b2 c2)∧o1.cell? ((nb w).add 5)=some (slice d2 e2 f2)∧True)∧
 R (tuple #[agg #[bool p1,slice q1 r1 s1,slice t1 u1 v1,slice x1 y1 z1,slice a2 b2 c2,slice d2 e2 f2],int .i64 n1,int .i64 2]) o1) [bool false,slice none 0 0,slice none 0 0,slice none 0 0,slice none 0 0,slice none 0 0] 0))
 (Ar .i64 (e1+1) (fun g2=>
 d1 [int .i64 g2,int .i64 f1,int .i64 g1] l1)))))
 (aa (!b1)
 (Ar .i64 ((z:Int)+1) (fun h2=>
 aG h1 (nb w) (fun i2=>
 ∃j2 k2 l2 m2 n2 o2 p2 q2 r2 s2 t2 u2 v2 x2 y2 z2,(i2.cell? (nb w)=some (bool j2)∧i2.cell? ((nb w).add 1)=some (slice k2 l2 m2)∧i2.cell? ((nb w).add 2)=some (slice n2 o2 p2)∧i2.cell? ((nb w).add 3)=some (slice q2 r2 s2)∧i2.cell? ((nb w).add 4)=some (slice t2 u2 v2)∧i2.cell? ((nb w).add 5)=some (slice x2 y2 z2)∧True)∧
 R (tuple #[agg #[bool j2,slice k2 l2 m2,slice n2 o2 p2,slice q2 r2 s2,slice t2 u2 v2,slice x2 y2 z2],int .i64 h2,int .i64 2]) i2) [bool false,slice none 0 0,slice none 0 0,slice none 0 0,slice none 0 0,slice none 0 0] 0))
 (aa ((z:Int)==0)
 (Ar .i64 ((z:Int)+1) (fun a3=>
 aG h1 (nb w) (fun b3=>
 ∃c3 d3 e3 f3 g3 h3 i3 j3 k3 l3 m3 n3 o3 p3 q3 r3,(b3.cell? (nb w)=some (bool c3)∧b3.cell? ((nb w).add 1)=some (slice d3 e3 f3)∧b3.cell? ((nb w).add 2)=some (slice g3 h3 i3)∧b3.cell? ((nb w).add 3)=some (slice j3 k3 l3)∧b3.cell? ((nb w).add 4)=some (slice m3 n3 o3)∧b3.cell? ((nb w).add 5)=some (slice p3 q3 r3)∧True)∧
 R (tuple #[agg #[bool c3,slice d3 e3 f3,slice g3 h3 i3,slice j3 k3 l3,slice m3 n3 o3,slice p3 q3 r3],int .i64 a3,int .i64 2]) b3) [bool false,slice none 0 0,slice none 0 0,slice none 0 0,slice none 0 0,slice none 0 0] 0))
 (∃s3 t3 u3 v3 x3 y3 z3 a4 b4 c4 d4 e4 f4 g4 h4 i4,(h1.cell? ((nb x).add 0)=some (bool s3)∧h1.cell? (((nb x).add 0).add 1)=some (slice t3 u3 v3)∧h1.cell? (((nb x).add 0).add 2)=some (slice x3 y3 z3)∧h1.cell? (((nb x).add 0).add 3)=some (slice a4 b4 c4)∧h1.cell? (((nb x).add 0).add 4)=some (slice d4 e4 f4)∧h1.cell? (((nb x).add 0).add 5)=some (slice g4 h4 i4)∧True)∧
 aG h1 (nb w) (fun j4=>
 ∃k4 l4 m4 n4 o4 p4 q4 r4 s4 t4 u4 v4 x4 y4 z4 a5,(j4.cell? (nb w)=some (bool k4)∧j4.cell? ((nb w).add 1)=some (slice l4 m4 n4)∧j4.cell? ((nb w).add 2)=some (slice o4 p4 q4)∧j4.cell? ((nb w).add 3)=some (slice r4 s4 t4)∧j4.cell? ((nb w).add 4)=some (slice u4 v4 x4)∧j4.cell? ((nb w).add 5)=some (slice y4 z4 a5)∧True)∧
 R (tuple #[agg #[bool k4,slice l4 m4 n4,slice o4 p4 q4,slice r4 s4 t4,slice u4 v4 x4,slice y4 z4 a5],int .i64 0,int .i64 0]) j4) [bool s3,slice t3 u3 v3,slice x3 y3 z3,slice a4 b4 c4,slice d4 e4 f4,slice g4 h4 i4] 0))))→d1 [int .i64 e1,int .i64 f1,int .i64 g1] h1)→
 d1 [int .i64 0,int .i64 0,int .i64 0] c1))
theorem rC (a:ByteArray) (w:World) (R:RW) (hh:C_ a w R):CR 90 #[string a] w R:=
 aB (fn:=Tryz.f90) (by kernel_rfl) (by kernel_rfl) (by kernel_rfl) (by kernel_rfl) (by kernel_rfl) hh
def CZ (a:OA) (b c:Nat) (d:OA) (f g:Nat) (w:World) (R:RW):Prop:=
 aa ((b:Int) != (f:Int))
 (R (bool false) w)
 (∀h:KW,(∀(i:Int) (j:Bool) (k:World),(aa (decide (i< (b:Int)))
 (∀l,l=k.drew→
 ac a (fun m=>
 (0:Int)≤i∧i< (b:Int)∧
 ∃n,l.cell? (m.add (i.toNat*1))=some (string n)∧
 ac d (fun o=>
 (0:Int)≤i∧i< (f:Int)∧
 ∃p,l.cell? (o.add (i.toNat*1))=some (string p)∧
 aa (!(n.toList==p.toList))
 (R (bool false) l)
 (Ar .i64 (i+1) (fun q=>
 h [int .i64 q,bool j] l)))))
 (R (bool true) k))→h [int .i64 i,bool j] k)→
 h [int .i64 0,bool false] w)
theorem sk (a:OA) (b c:Nat) (d:OA) (f g:Nat) (w:World) (R:RW) (hh:CZ a b c d f g w R):CR 99 #[slice a b c,slice d f g] w R:=
 aB (fn:=Tryz.f99) (by kernel_rfl) (by kernel_rfl) (by kernel_rfl) (by kernel_rfl) (by kernel_rfl) hh
def CT (a:ByteArray) (w:World) (R:RW):Prop:=
 ∀b:KW,(∀(c:OA) (d f:Nat) (g:Bool) (h:OA) (i j:Nat) (k:ByteArray) (l:World),(CP 185 #[string k,string ⟨#[10]⟩] l (fun m n=>
 ∃o p q,m= .returned (tuple #[string o,string p,bool q])∧
 aa (!q)
 (R (tuple #[slice c d f,bool (o.toList==(⟨#[]⟩:ByteArray).toList)]) n)
 (∀r,r=n.alloc (.cells #[string o] 9)→
 ∃s t u x,(Builtin.append_ #[32,32] 32 #[slice c d f,slice (some (nb n)) 1 1]).run Tryz.prog r= .ok (slice s t u) x∧
 b [slice s t u,bool g,slice h i j,string p] x)))→b [slice c d f,bool g,slice h i j,string k] l)→
 b [slice none 0 0,bool false,slice none 0 0,string a] w
theorem pB (a:ByteArray) (w:World) (R:RW) (hh:CT a w R):CR 128 #[string a] w R:=
 aB (fn:=Tryz.f128) (by kernel_rfl) (by kernel_rfl) (by kernel_rfl) (by kernel_rfl) (by kernel_rfl) hh
def Ct (a:OA) (b:Int) (c:ByteArray) (w:World) (R:RW):Prop:=
 CP 186 #[string c] w (fun d f=>
 ∃g h i,d= .returned (slice g h i)∧
 ∀j,j=f.drew→
 ac g (fun k=>
 (0:Int)≤0∧0< (h:Int)∧
 ∃l,j.cell? (k.add ((0:Int).toNat*1))=some (string l)∧
 (0:Int)≤(1:Int)∧(1:Int)≤(h:Int)∧True∧True∧True∧
 CP 187 #[pointer a,string l,slice (ce g (1:Int).toNat (i:Int).toNat 1) ((h:Int).toNat- (1:Int).toNat) ((i:Int).toNat- (1:Int).toNat)] j (fun m n=>
 ∃o p,m= .returned (tuple #[int .i64 o,bool p])∧
 aa (!p)
 (R (bool false) n)
 (aa (!((b==0)==(o==0)))
 (R (bool false) n)
 (ac a (fun q=>
 ∃r,n.cell? (q.add 6)=some (int .i64 r)∧
 aa (decide (o<r))
 (R (bool false) n)
 (ac a (fun s=>
 ∃t x y z a1 b1 c1 d1 e1 f1 g1 h1 i1 j1 k1 l1,(n.cell? (s.add 0)=some (bool t)∧n.cell? ((s.add 0).add 1)=some (slice x y z)∧n.cell? ((s.add 0).add 2)=some (slice a1 b1 c1)∧n.cell? ((s.add 0).add 3)=some (slice d1 e1 f1)∧n.cell? ((s.add 0).add 4)=some (slice g1 h1 i1)∧n.cell? ((s.add 0).add 5)=some (slice j1 k1 l1)∧True)∧
 CP 101 #[agg #[bool t,slice x y z,slice a1 b1 c1,slice d1 e1 f1,slice g1 h1 i1,slice j1 k1 l1]] n (fun m1 n1=>
 ∃o1,m1= .returned (bool o1)∧
 aa (!o1)
 (R (bool false) n1)
 (ac a (fun p1=>
 (int .i64 o).oneCell'=true∧(∃u,n1.cell? (p1.add 6)=some u)∧n1.frozen? (p1.add 6)=false∧
 ∀q1,q1=(n1.setCell (p1.add 6) (int .i64 o))→
 R (bool true) q1)))))))))))
theorem qs (a:OA) (b:Int) (c:ByteArray) (w:World) (R:RW) (hh:Ct a b c w R):CR 129 #[pointer a,int .i64 b,string c] w R:=
 aB (fn:=Tryz.f129) (by kernel_rfl) (by kernel_rfl) (by kernel_rfl) (by kernel_rfl) (by kernel_rfl) hh
def BQ (a:ByteArray) (w:World) (R:RW):Prop:=
 CP 232 #[string a,string ⟨#[32]⟩] w (fun b c=>
 ∃d f g,b= .returned (slice d f g)∧
 R (slice d f g) c)
theorem qb (a:ByteArray) (w:World) (R:RW) (hh:BQ a w R):CR 186 #[string a] w R:=
 aB (fn:=Tryz.f186) (by kernel_rfl) (by kernel_rfl) (by kernel_rfl) (by kernel_rfl) (by kernel_rfl) hh
def BE (a:OA) (b:ByteArray) (c:OA) (d f:Nat) (w:World) (R:RW):Prop:=
 aa (b.toList==(⟨#[118,111,99,97,98]⟩:ByteArray).toList)
 (CP 233 #[pointer a,slice c d f] w (fun g h=>
 ∃i,g= .returned (bool i)∧
 R (tuple #[int .i64 0,bool i]) h))
 (aa (b.toList==(⟨#[109,101,114,103,101]⟩:ByteArray).toList)
 (CP 234 #[pointer a,slice c d f] w (fun j k=>
 ∃l,j= .returned (bool l)∧
 R (tuple #[int .i64 1,bool l]) k))
 (aa (b.toList==(⟨#[116,111,107,101,110]⟩:ByteArray).toList)
 (CP 235 #[pointer a,slice c d f] w (fun m n=>
 ∃o,m= .returned (bool o)∧
 R (tuple #[int .i64 1,bool o]) n))
 (aa (b.toList==(⟨#[115,112,101,99,105,97,108]⟩:ByteArray).toList)
 (CP 236 #[pointer a,slice c d f] w (fun p q=>
 ∃r,p= .returned (bool r)∧
 R (tuple #[int .i64 2,bool r]) q))
 (aa (b.toList==(⟨#[99,108,97,115,115]⟩:ByteArray).toList)
 (CP 237 #[pointer a,slice c d f] w (fun s t=>
 ∃u,s= .returned (bool u)∧
 R (tuple #[int .i64 3,bool u]) t))
 (aa (b.toList==(⟨#[106,111,105,110]⟩:ByteArray).toList)
 (CP 238 #[pointer a,slice c d f] w (fun x y=>
 ∃z,x= .returned (bool z)∧
 R (tuple #[int .i64 4,bool z]) y))
 (R (tuple #[int .i64 0,bool false]) w))))))
theorem pm (a:OA) (b:ByteArray) (c:OA) (d f:Nat) (w:World) (R:RW) (hh:BE a b c d f w R):CR 187 #[pointer a,string b,slice c d f] w R:=
 aB (fn:=Tryz.f187) (by kernel_rfl) (by kernel_rfl) (by kernel_rfl) (by kernel_rfl) (by kernel_rfl) hh
def BW (a b:OA) (c d:Nat) (w:World) (R:RW):Prop:=
 aa ((c:Int)==1)
 (ac b (fun f=>
 (0:Int)≤0∧0< (c:Int)∧
 ∃g,w.cell? (f.add ((0:Int).toNat*1))=some (string g)∧
 ac a (fun h=>
 (bool (g.toList==(⟨#[114,97,110,107,115]⟩:ByteArray).toList)).oneCell'=true∧(∃u,w.cell? ((h.add 0).add 0)=some u)∧w.frozen? ((h.add 0).add 0)=false∧
 ∀i,i=(w.setCell ((h.add 0).add 0) (bool (g.toList==(⟨#[114,97,110,107,115]⟩:ByteArray).toList)))→
 aa ((c:Int)==1)
 (ac b (fun j=>
 (0:Int)≤0∧0< (c:Int)∧
 ∃k,i.cell? (j.add ((0:Int).toNat*1))=some (string k)∧
 aa (k.toList==(⟨#[114,97,110,107,115]⟩:ByteArray).toList)
 (R (bool true) i)
 (ac b (fun l=>
 (0:Int)≤0∧0< (c:Int)∧
 ∃m,i.cell? (l.add ((0:Int).toNat*1))=some (string m)∧
 R (bool (m.toList==(⟨#[109,101,114,103,101,115]⟩:ByteArray).toList)) i))))
 (R (bool false) i))))
 (ac a (fun n=>
 (bool false).oneCell'=true∧(∃u,w.cell? ((n.add 0).add 0)=some u)∧w.frozen? ((n.add 0).add 0)=false∧
 ∀o,o=(w.setCell ((n.add 0).add 0) (bool false))→
 aa ((c:Int)==1)
 (ac b (fun p=>
 (0:Int)≤0∧0< (c:Int)∧
 ∃q,o.cell? (p.add ((0:Int).toNat*1))=some (string q)∧
 aa (q.toList==(⟨#[114,97,110,107,115]⟩:ByteArray).toList)
 (R (bool true) o)
 (ac b (fun r=>
 (0:Int)≤0∧0< (c:Int)∧
 ∃s,o.cell? (r.add ((0:Int).toNat*1))=some (string s)∧
 R (bool (s.toList==(⟨#[109,101,114,103,101,115]⟩:ByteArray).toList)) o))))
 (R (bool false) o)))
theorem ob (a b:OA) (c d:Nat) (w:World) (R:RW) (hh:BW a b c d w R):CR 233 #[pointer a,slice b c d] w R:=
 aB (fn:=Tryz.f233) (by kernel_rfl) (by kernel_rfl) (by kernel_rfl) (by kernel_rfl) (by kernel_rfl) hh
def BI (a b:OA) (c d:Nat) (w:World) (R:RW):Prop:=
 CP 268 #[slice b c d,int .i64 2] w (fun f g=>
 ∃h i j k,f= .returned (tuple #[slice h i j,bool k])∧
 ∀l:KW,(∀m:World,(R (bool k) m)→l [] m)→
 aa k
 (∀n,n=g.drew→
 ac a (fun o=>
 ∃p q r,n.cell? ((o.add 0).add 1)=some (slice p q r)∧
 ac h (fun s=>
 (0:Int)≤0∧0< (i:Int)∧
 ∃t,n.cell? (s.add ((0:Int).toNat*1))=some (int .i64 t)∧
 ac h (fun x=>
 (0:Int)≤1∧1< (i:Int)∧
 ∃y,n.cell? (x.add ((1:Int).toNat*1))=some (int .i64 y)∧
 ∀z,z=n.alloc (.cells #[int .i64 t,int .i64 y] 85)→
 (z.cell? ((o.add 0).add 1)=some (slice p q r)∧True)∧
 ∃a1 b1 c1 d1,(Builtin.append_ #[33,33] 33 #[slice p q r,slice (some (nb n)) 1 1]).run Tryz.prog z= .ok (slice a1 b1 c1) d1∧
 ac a (fun e1=>
 (slice a1 b1 c1).oneCell'=true∧(∃u,d1.cell? ((e1.add 0).add 1)=some u)∧d1.frozen? ((e1.add 0).add 1)=false∧
 ∀f1,f1=(d1.setCell ((e1.add 0).add 1) (slice a1 b1 c1))→
 l [] f1)))))
 (l [] g))
theorem nV (a b:OA) (c d:Nat) (w:World) (R:RW) (hh:BI a b c d w R):CR 234 #[pointer a,slice b c d] w R:=
 aB (fn:=Tryz.f234) (by kernel_rfl) (by kernel_rfl) (by kernel_rfl) (by kernel_rfl) (by kernel_rfl) hh
def A2 (a b:OA) (c d:Nat) (w:World) (R:RW):Prop:=
 aa ((c:Int) != 1)
 (R (bool false) w)
 (ac b (fun f=>
 (0:Int)≤0∧0< (c:Int)∧
 ∃g,w.cell? (f.add ((0:Int).toNat*1))=some (string g)∧
 CP 269 #[string g] w (fun h i=>
 ∃j k,h= .returned (tuple #[string j,bool k])∧
 ac a (fun l=>
 ∃m n o,i.cell? ((l.add 0).add 2)=some (slice m n o)∧
 ∀p,p=i.alloc (.cells #[string j] 9)→
 ∃q r s t,(Builtin.append_ #[32,32] 32 #[slice m n o,slice (some (nb i)) 1 1]).run Tryz.prog p= .ok (slice q r s) t∧
 ac a (fun x=>
 (slice q r s).oneCell'=true∧(∃u,t.cell? ((x.add 0).add 2)=some u)∧t.frozen? ((x.add 0).add 2)=false∧
 ∀y,y=(t.setCell ((x.add 0).add 2) (slice q r s))→
 R (bool k) y)))))
theorem o8 (a b:OA) (c d:Nat) (w:World) (R:RW) (hh:A2 a b c d w R):CR 235 #[pointer a,slice b c d] w R:=
 aB (fn:=Tryz.f235) (by kernel_rfl) (by kernel_rfl) (by kernel_rfl) (by kernel_rfl) (by kernel_rfl) hh
def BF (a b:OA) (c d:Nat) (w:World) (R:RW):Prop:=
 aa ((c:Int) != 2)
 (R (bool false) w)
 (ac b (fun f=>
 (0:Int)≤0∧0< (c:Int)∧
 ∃g,w.cell? (f.add ((0:Int).toNat*1))=some (string g)∧
 CP 270 #[string g,int .i64 1073741824] w (fun h i=>
 ∃j k,h= .returned (tuple #[int .i64 j,bool k])∧
 ac b (fun l=>
 (0:Int)≤1∧1< (c:Int)∧
 ∃m,i.cell? (l.add ((1:Int).toNat*1))=some (string m)∧
 CP 269 #[string m] i (fun n o=>
 ∃p q,n= .returned (tuple #[string p,bool q])∧
 ac a (fun r=>
 ∃s t x,o.cell? ((r.add 0).add 3)=some (slice s t x)∧
 ∀y,y=o.alloc (.cells #[int .i64 j,string p] 87)→
 ∃z a1 b1 c1,(Builtin.append_ #[25,25] 25 #[slice s t x,slice (some (nb o)) 1 1]).run Tryz.prog y= .ok (slice z a1 b1) c1∧
 ac a (fun d1=>
 (slice z a1 b1).oneCell'=true∧(∃u,c1.cell? ((d1.add 0).add 3)=some u)∧c1.frozen? ((d1.add 0).add 3)=false∧
 ∀e1,e1=(c1.setCell ((d1.add 0).add 3) (slice z a1 b1))→
 aa k
 (R (bool q) e1)
 (R (bool false) e1))))))))
theorem qv (a b:OA) (c d:Nat) (w:World) (R:RW) (hh:BF a b c d w R):CR 236 #[pointer a,slice b c d] w R:=
 aB (fn:=Tryz.f236) (by kernel_rfl) (by kernel_rfl) (by kernel_rfl) (by kernel_rfl) (by kernel_rfl) hh
def CB (a b:OA) (c d:Nat) (w:World) (R:RW):Prop:=
 CP 268 #[slice b c d,int .i64 3] w (fun f g=>
 ∃h i j k,f= .returned (tuple #[slice h i j,bool k])∧
 ∀l:KW,(∀m:World,(R (bool k) m)→l [] m)→
 aa k
 (∀n,n=g.drew→
 ac a (fun o=>
 ∃p q r,n.cell? ((o.add 0).add 4)=some (slice p q r)∧
 ac h (fun s=>
 (0:Int)≤0∧0< (i:Int)∧
 ∃t,n.cell? (s.add ((0:Int).toNat*1))=some (int .i64 t)∧
 ac h (fun x=>
 (0:Int)≤1∧1< (i:Int)∧
 ∃y,n.cell? (x.add ((1:Int).toNat*1))=some (int .i64 y)∧
 ac h (fun z=>
 (0:Int)≤2∧2< (i:Int)∧
 ∃a1,n.cell? (z.add ((2:Int).toNat*1))=some (int .i64 a1)∧
 ∀b1,b1=n.alloc (.cells #[int .i64 t,int .i64 y,int .i64 a1] 89)→
 (b1.cell? ((o.add 0).add 4)=some (slice p q r)∧True)∧
 ∃c1 d1 e1 f1,(Builtin.append_ #[23,23] 23 #[slice p q r,slice (some (nb n)) 1 1]).run Tryz.prog b1= .ok (slice c1 d1 e1) f1∧
 ac a (fun g1=>
 (slice c1 d1 e1).oneCell'=true∧(∃u,f1.cell? ((g1.add 0).add 4)=some u)∧f1.frozen? ((g1.add 0).add 4)=false∧
 ∀h1,h1=(f1.setCell ((g1.add 0).add 4) (slice c1 d1 e1))→
 l [] h1))))))
 (l [] g))
theorem pe (a b:OA) (c d:Nat) (w:World) (R:RW) (hh:CB a b c d w R):CR 237 #[pointer a,slice b c d] w R:=
 aB (fn:=Tryz.f237) (by kernel_rfl) (by kernel_rfl) (by kernel_rfl) (by kernel_rfl) (by kernel_rfl) hh
def Cw (a b:OA) (c d:Nat) (w:World) (R:RW):Prop:=
 CP 268 #[slice b c d,int .i64 2] w (fun f g=>
 ∃h i j k,f= .returned (tuple #[slice h i j,bool k])∧
 ∀l:KW,(∀m:World,(R (bool k) m)→l [] m)→
 aa k
 (∀n,n=g.drew→
 ac a (fun o=>
 ∃p q r,n.cell? ((o.add 0).add 5)=some (slice p q r)∧
 ac h (fun s=>
 (0:Int)≤0∧0< (i:Int)∧
 ∃t,n.cell? (s.add ((0:Int).toNat*1))=some (int .i64 t)∧
 ac h (fun x=>
 (0:Int)≤1∧1< (i:Int)∧
 ∃y,n.cell? (x.add ((1:Int).toNat*1))=some (int .i64 y)∧
 ∀z,z=n.alloc (.cells #[int .i64 t,int .i64 y] 170)→
 (z.cell? ((o.add 0).add 5)=some (slice p q r)∧True)∧
 ∃a1 b1 c1 d1,(Builtin.append_ #[24,24] 24 #[slice p q r,slice (some (nb n)) 1 1]).run Tryz.prog z= .ok (slice a1 b1 c1) d1∧
 ac a (fun e1=>
 (slice a1 b1 c1).oneCell'=true∧(∃u,d1.cell? ((e1.add 0).add 5)=some u)∧d1.frozen? ((e1.add 0).add 5)=false∧
 ∀f1,f1=(d1.setCell ((e1.add 0).add 5) (slice a1 b1 c1))→
 l [] f1)))))
 (l [] g))
theorem og (a b:OA) (c d:Nat) (w:World) (R:RW) (hh:Cw a b c d w R):CR 238 #[pointer a,slice b c d] w R:=
 aB (fn:=Tryz.f238) (by kernel_rfl) (by kernel_rfl) (by kernel_rfl) (by kernel_rfl) (by kernel_rfl) hh
def Bu (a:OA) (b c:Nat) (d:Int) (w:World) (R:RW):Prop:=
 aa ((b:Int) != d)
 (R (tuple #[slice none 0 0,bool false]) w)
 (∀f:KW,(∀(g:Int) (h:OA) (i j:Nat) (k:Bool) (l:OA) (m n:Nat) (o:World),(aa (decide (g< (b:Int)))
 (ac a (fun p=>
 (0:Int)≤g∧g< (b:Int)∧
 ∃q,o.cell? (p.add (g.toNat*1))=some (string q)∧
 CP 270 #[string q,int .i64 1073741824] o (fun r s=>
 ∃t u,r= .returned (tuple #[int .i64 t,bool u])∧
 aa (!u)
 (R (tuple #[slice none 0 0,bool false]) s)
 (∀x,x=s.alloc (.cells #[int .i64 t] 3)→
 ∃y z a1 b1,(Builtin.append_ #[28,28] 28 #[slice h i j,slice (some (nb s)) 1 1]).run Tryz.prog x= .ok (slice y z a1) b1∧
 Ar .i64 (g+1) (fun c1=>
 f [int .i64 c1,slice y z a1,bool k,slice l m n] b1)))))
 (R (tuple #[slice h i j,bool true]) o))→f [int .i64 g,slice h i j,bool k,slice l m n] o)→
 f [int .i64 0,slice none 0 0,bool false,slice none 0 0] w)
theorem n_ (a:OA) (b c:Nat) (d:Int) (w:World) (R:RW) (hh:Bu a b c d w R):CR 268 #[slice a b c,int .i64 d] w R:=
 aB (fn:=Tryz.f268) (by kernel_rfl) (by kernel_rfl) (by kernel_rfl) (by kernel_rfl) (by kernel_rfl) hh
def Cl (a:ByteArray) (w:World) (R:RW):Prop:=
 aa (a.toList==(⟨#[45]⟩:ByteArray).toList)
 (R (tuple #[string ⟨#[]⟩,bool true]) w)
 (aa (a.toList==(⟨#[]⟩:ByteArray).toList)
 (R (tuple #[string ⟨#[]⟩,bool false]) w)
 ((2:Int)≠0∧
 aa ((Int.tmod (a.size:Int) 2:Int) != 0)
 (R (tuple #[string ⟨#[]⟩,bool false]) w)
 ((2:Int)≠0∧
 ∃b c d f,(Instr.makeSlice 57 (int .i64 0) (int .i64 (IntKind.wrap .i64 (Int.tdiv (a.size:Int) 2)))).run Tryz.prog w= .ok (slice b c d) f∧
 ∀g:KW,(∀(h:Int) (i:OA) (j k:Nat) (l:Bool) (m:ByteArray) (n:World),(aa (decide (h< (a.size:Int)))
 (∀o,o=n.drew→
 (0:Int)≤h∧h< (a.size:Int)∧
 Ar .i64 (h+1) (fun p=>
 (0:Int)≤p∧p< (a.size:Int)∧
 CP 295 #[int .u8 (fI a h)] o (fun q r=>
 ∃s,q= .returned (int .i64 s)∧
 CP 295 #[int .u8 (fI a p)] r (fun t u=>
 ∃x,t= .returned (int .i64 x)∧
 aa (decide (s<0))
 (R (tuple #[string ⟨#[]⟩,bool false]) u)
 (aa (decide (x<0))
 (R (tuple #[string ⟨#[]⟩,bool false]) u)
 (Ar .i64 (s*16) (fun y=>
 Ar .i64 (y+x) (fun z=>
 ∀a1,a1=u.alloc (.cells #[int .u8 (IntKind.wrap .u8 z)] 5)→
 ∃b1 c1 d1 e1,(Builtin.append_ #[57,57] 57 #[slice i j k,slice (some (nb u)) 1 1]).run Tryz.prog a1= .ok (slice b1 c1 d1) e1∧
 Ar .i64 (h+2) (fun f1=>
 g [int .i64 f1,slice b1 c1 d1,bool l,string m] e1)))))))))
 (∃g1 h1,(convert 57 9 (slice i j k)).run Tryz.prog n= .ok (string g1) h1∧
 R (tuple #[string g1,bool true]) h1))→g [int .i64 h,slice i j k,bool l,string m] n)→
 g [int .i64 0,slice b c d,bool false,string ⟨#[]⟩] f)))
theorem q_ (a:ByteArray) (w:World) (R:RW) (hh:Cl a w R):CR 269 #[string a] w R:=
 aB (fn:=Tryz.f269) (by kernel_rfl) (by kernel_rfl) (by kernel_rfl) (by kernel_rfl) (by kernel_rfl) hh
def CM (a:ByteArray) (b:Int) (w:World) (R:RW):Prop:=
 CP 296 #[string a] w (fun c d=>
 ∃f g,c= .returned (tuple #[int .i64 f,g])∧
 ∃h i,(do eqGuard .neq 372 (.tmp 13) (.const (Value.nilIface)) g Value.nilIface;binOp .neq 372 g Value.nilIface).run Tryz.prog d= .ok (bool h) i∧
 aa h
 (R (tuple #[int .i64 0,bool false]) i)
 (aa (decide (f<0))
 (R (tuple #[int .i64 0,bool false]) i)
 (aa (decide (f>b))
 (R (tuple #[int .i64 0,bool false]) i)
 (CP 297 #[int .i64 f] i (fun j k=>
 ∃l,j= .returned (string l)∧
 aa (!(l.toList==a.toList))
 (R (tuple #[int .i64 0,bool false]) k)
 (R (tuple #[int .i64 f,bool true]) k))))))
theorem o0 (a:ByteArray) (b:Int) (w:World) (R:RW) (hh:CM a b w R):CR 270 #[string a,int .i64 b] w R:=
 aB (fn:=Tryz.f270) (by kernel_rfl) (by kernel_rfl) (by kernel_rfl) (by kernel_rfl) (by kernel_rfl) hh
def A1 (a:Int) (w:World) (R:RW):Prop:=
 CP 315 #[string ⟨#[48,49,50,51,52,53,54,55,56,57,97,98,99,100,101,102]⟩,int .u8 a] w (fun b c=>
 ∃d,b= .returned (int .i64 d)∧
 R (int .i64 d) c)
theorem qf (a:Int) (w:World) (R:RW) (hh:A1 a w R):CR 295 #[int .u8 a] w R:=
 aB (fn:=Tryz.f295) (by kernel_rfl) (by kernel_rfl) (by kernel_rfl) (by kernel_rfl) (by kernel_rfl) hh
def Bp (a:Int) (w:World) (R:RW):Prop:=
 CP 318 #[int .i64 a] w (fun b c=>
 ∃d,b= .returned (string d)∧
 R (string d) c)
theorem pO (a:Int) (w:World) (R:RW) (hh:Bp a w R):CR 297 #[int .i64 a] w R:=
 aB (fn:=Tryz.f297) (by kernel_rfl) (by kernel_rfl) (by kernel_rfl) (by kernel_rfl) (by kernel_rfl) hh
end Go.Proofs.YtijbcdiffjjefaaGreatDoor.Eng
