/- Sifted out of this repo's own templates by tool/sift.py. -/
import Derived.Test.YtijbcdiffjjefaaGreatDoorZtVc
import Derived.Below
import Derived.Lib.SplitLaws
import Derived.Lib.CountLaws
import Derived.Lib.Split
import Derived.Lib.Join
import Derived.Lib.ItoaNum
import Derived.Lib.AtoiAll
import Derived.Lib.ItoaMem
import Derived.Laws.MakeOwn
import Derived.Lib.AppendIntMem
import Derived.Lib.AtoiErrMem
import Derived.Lib.AppendStr
import Derived.Shelf.Strings.Builder1
import Derived.WideShapes
import Derived.ChangeSame
import Derived.Test.YtijbcdiffjjefaaGreatDoorZtTab
set_option linter.unusedVariables false
set_option linter.unusedSimpArgs false
set_option maxRecDepth 100000
namespace Go.Proofs.YtijbcdiffjjefaaGreatDoor.Eng
open Go Go.RowKit Go.ChangeShapes Go.WideShapes
def ni:List UInt8:=[48,49,50,51,52,53,54,55,56,57,97,98,99,100,101,102]
def hx (n:Nat):UInt8:=ni.getD n 0
def bZ:List UInt8→List UInt8
 | []=>[]
 |b::l=>hx (b.toNat/16)::hx (b.toNat%16)::bZ l
def gv (l:List UInt8):List UInt8:=if l= []then [45]else bZ l
def step (n:Nat) (b:UInt8):Nat:=10*n+(b.toNat-48)
abbrev Bs:=List UInt8
structure ai where
 ranked:Bool:=false
 merges:List (Int×Int):=[]
 tokens:List Bs:=[]
 specials:List (Int×Bs):=[]
 classes:List (Int×Int×Int):=[]
 joins:List (Int×Int):=[]
 deriving DecidableEq
def dr (m:Int×Int):Bool:=decide (0≤m.1∧m.1≤999∧0≤m.2∧m.2≤999)
def ee (s:Bs):Bool:=decide (2≤s.length∧s.length≤64)
def aY (x:Int×Bs):Bool:=decide (0≤x.1∧x.1≤1073741824∧1≤x.2.length∧x.2.length≤64)
def aR (c:Int×Int×Int):Bool:=decide (0≤c.1∧c.1≤c.2.1∧c.2.1≤255∧0≤c.2.2∧c.2.2≤15)
def bK (j:Int×Int):Bool:=decide (0≤j.1∧j.1≤15∧0≤j.2∧j.2≤15)
def bk {α:Type} (l:List α) (most:Nat) (may:α→Bool):Bool:=decide (l.length≤most)&&l.all may
def ai.right (s:ai):Bool:=
 (if s.ranked then s.merges.isEmpty else s.tokens.isEmpty)&&bk s.merges 744 dr&&bk s.tokens 744 ee&&bk s.specials 32 aY&&bk s.classes 64 aR&&bk s.joins 64 bK
def dE:Bs:=[118,111,99,97,98]
def fP:Bs:=[109,101,114,103,101,115]
def iV:Bs:=[114,97,110,107,115]
def wMerge:Bs:=[109,101,114,103,101]
def wToken:Bs:=[116,111,107,101,110]
def wSpecial:Bs:=[115,112,101,99,105,97,108]
def wClass:Bs:=[99,108,97,115,115]
def wJoin:Bs:=[106,111,105,110]
def bI (ws:List Bs):Bs:=Lib.join ws [32]
def dl (r:Bool):Bs:=bI [dE,if r then iV else fP]
def cR (m:Int×Int):Bs:=bI [wMerge,Lib.itoa m.1,Lib.itoa m.2]
def dh (t:Bs):Bs:=bI [wToken,gv t]
def bO (x:Int×Bs):Bs:=bI [wSpecial,Lib.itoa x.1,gv x.2]
def eC (c:Int×Int×Int):Bs:=bI [wClass,Lib.itoa c.1,Lib.itoa c.2.1,Lib.itoa c.2.2]
def hU (j:Int×Int):Bs:=bI [wJoin,Lib.itoa j.1,Lib.itoa j.2]
def ai.tail (s:ai):List Bs:=s.merges.map cR++(s.tokens.map dh++(s.specials.map bO++(s.classes.map eC++s.joins.map hU)))
def ai.lines (s:ai):List Bs:=dl s.ranked::s.tail
def cU (ls:List Bs):Bs:=(ls.map (·++ [10])).flatten
def ai.text (s:ai):Bs:=cU s.lines
theorem aH {s:ai} (h:s.right=true):(if s.ranked then s.merges.isEmpty else s.tokens.isEmpty)=true∧bk s.merges 744 dr=true∧bk s.tokens 744 ee=true∧bk s.specials 32 aY=true∧bk s.classes 64 aR=true∧bk s.joins 64 bK=true:=by
 unfold ai.right at h;simp only [Bool.and_eq_true]at h;obtain⟨⟨⟨⟨⟨h1,h2⟩,h3⟩,h4⟩,h5⟩,h6⟩:=h;exact⟨h1,h2,h3,h4,h5,h6⟩
abbrev uO:TypeId:=5
abbrev gP:TypeId:=57
theorem qW:(Tryz.prog.info? uO).map (fun i=>(i.zero,i.size,i.bytes))=some (some (.int .u8 0),1,1):=by kernel_rfl
theorem eE:Tryz.prog.underlying gP=some (.slice uO):=by kernel_rfl
abbrev bE:TypeId:=9
theorem iW:Tryz.prog.underlying bE=some .string:=by kernel_rfl
theorem yF:Tryz.prog.underlying uO=some (.int .u8):=by kernel_rfl
abbrev da:TypeId:=32
theorem fp:Tryz.prog.underlying da=some (.slice bE):=by kernel_rfl
theorem fO:(Tryz.prog.info? bE).map (fun i=>(i.zero,i.size,i.bytes))=some (some (.string ⟨#[]⟩),1,16):=by kernel_rfl
def jl (n:Int):Prop:= -9223372036854775808≤n∧n≤9223372036854775807
def cw (xs:List (List UInt8)):List Value:=xs.map fun x=>.string (str x)
def D2 (w:World) (a:Option Addr) (ns:List Int):Prop:=∀(j:Nat) (n:Int),ns[j]? =some n→∃x,a=some x∧x.block<w.heap.size∧w.cell? (x.add j)=some (.int .i64 n)
def bv (w:World) (a:Option Addr) (xs:List (List UInt8)):Prop:=∀(j:Nat) (s:List UInt8),xs[j]? =some s→∃x,a=some x∧x.block<w.heap.size∧w.cell? (x.add j)=some (.string (str s))
theorem bv.on {w w':World} {a:Option Addr} {xs:List (List UInt8)} (h:bv w a xs) (hb:Below w.heap.size w w'):bv w' a xs:=by
 intro j s hj;obtain⟨x,rfl,hx,hc⟩:=h j s hj;exact⟨x,rfl,Nat.lt_of_lt_of_le hx hb.size,by rw [hb.cell (by rwa [aq])];exact hc⟩
theorem bv.of_own {w:World} {base:Nat} {a:Option Addr} {n c:Nat} {xs:List (List UInt8)} (h:w.ownsRow base bE 1 (.slice a n c) n (cw xs)):bv w a xs∧n=xs.length∧n≤c:=by
 have hn:=h.1;rw [show(cw xs).length=xs.length by simp [cw]]at hn;refine⟨?_,by omega,?_⟩
 ·intro j s hj;have hjl:=(List.getElem?_eq_some_iff.1 hj).1;rcases h.2 with⟨h1,h2⟩ |⟨g,cap,cur,h1,h2,h3,h4,h5,h6,h7⟩
  ·omega
  ·cases h1;refine⟨_,rfl,(Array.getElem?_eq_some_iff.1 h3).1,?_⟩;rw [aA,Nat.zero_add,cY h3];have h8:(cw xs)[j]? =some (.string (str s)):=by simp [cw,hj]
   rw [←h7,List.getElem?_take_of_lt (by omega)]at h8;simpa using h8
 ·obtain⟨a',c',e,hc⟩:=iG h;cases e;exact hc
def Rw {α:Type} (enc:α→List Value) (sz:Nat) (w:World) (a:Option Addr) (xs:List α):Prop:=∀(j:Nat) (x:α),xs[j]? =some x→∃p,a=some p∧p.block<w.heap.size∧∀(k:Nat) (v:Value),(enc x)[k]? =some v→w.cell? ((p.add (j*sz)).add k)=some v
theorem Rw.on {α:Type} {enc:α→List Value} {sz:Nat} {w w':World} {a:Option Addr} {xs:List α} (h:Rw enc sz w a xs) (hb:Below w.heap.size w w'):Rw enc sz w' a xs:=by
 intro j x hj;obtain⟨p,rfl,hp,hc⟩:=h j x hj;refine⟨p,rfl,Nat.lt_of_lt_of_le hp hb.size,fun k v hk=>?_⟩;rw [hb.cell (by rw [aq,aq];exact hp)];exact hc k v hk
theorem an (a:Addr):a.add 0=a:=by simp [Addr.add]
def aD (m:Int×Int):List Value:=[.int .i64 m.1,.int .i64 m.2]
def be (s:Bs):List Value:=[.string (str s)]
def av (x:Int×Bs):List Value:=[.int .i64 x.1,.string (str x.2)]
def aZ (c:Int×Int×Int):List Value:=[.int .i64 c.1,.int .i64 c.2.1,.int .i64 c.2.2]
theorem Rw.str {w:World} {a:Option Addr} {xs:List Bs} (h:Rw be 1 w a xs):bv w a xs:=by
 intro j x hj;obtain⟨p,rfl,hp,hc⟩:=h j x hj;have:=hc 0 _ rfl;rw [Nat.mul_one,an]at this;exact⟨p,rfl,hp,this⟩
theorem dd (n lo hi:Int) (w:World):CP 196 #[.int .i64 n,.int .i64 lo,.int .i64 hi] w fun e w'=>e= .returned (.bool (decide (lo≤n∧n≤hi)))∧Below w.heap.size w w':=by
 refine az (yz n lo hi w (fun v w'=>v= .bool (decide (lo≤n∧n≤hi))∧Below w.heap.size w w') ?_) (by rintro v w' ⟨rfl,h⟩;exact⟨rfl,h⟩);refine aa.mk ?_ ?_
 ·intro h;have h:=of_decide_eq_true h;refine⟨?_,Below.refl _ _⟩;congr 1;exact decide_eq_decide.2 ⟨fun e=>⟨by omega,e⟩,fun e=>e.2⟩
 ·intro h;have h:=of_decide_eq_false h;refine⟨?_,Below.refl _ _⟩;rw [decide_eq_false (by omega)]
theorem oX (m:Int×Int) (w:World):CP 148 #[.agg #[.int .i64 m.1,.int .i64 m.2]] w fun e w'=>e= .returned (.bool (dr m))∧Below w.heap.size w w':=by
 refine az (wF m.1 m.2 w (fun v w'=>v= .bool (dr m)∧Below w.heap.size w w') ?_) (by rintro v w' ⟨rfl,h⟩;exact⟨rfl,h⟩);rintro w1 rfl;have hb:=ag w (.cells #[Value.int .i64 m.1,Value.int .i64 m.2] 85);refine⟨m.1,by rw [aA,aT];rfl,?_⟩;refine(dd m.1 0 999 _).mono ?_;rintro e w2 ⟨rfl,h2⟩;refine⟨_,rfl,aa.mk ?_ ?_⟩
 ·intro h;have h:=of_decide_eq_true h;refine⟨m.2,by rw [aA,h2.cell (by rw [ax];exact Nat.lt_succ_self _),aT];rfl,?_⟩;refine(dd m.2 0 999 w2).mono ?_;rintro e w3 ⟨rfl,h3⟩;refine⟨_,rfl,?_,ab hb (ab h2 h3)⟩;congr 1;unfold dr;exact decide_eq_decide.2 (by omega)
 ·intro h;have h:=of_decide_eq_false h;refine⟨?_,ab hb h2⟩;congr 1;unfold dr;exact(decide_eq_false (by omega)).symm
theorem qy (m:Int×Int) (w:World):CP 156 #[.agg #[.int .i64 m.1,.int .i64 m.2]] w fun e w'=>e= .returned (.bool (bK m))∧Below w.heap.size w w':=by
 refine az (yq m.1 m.2 w (fun v w'=>v= .bool (bK m)∧Below w.heap.size w w') ?_) (by rintro v w' ⟨rfl,h⟩;exact⟨rfl,h⟩);rintro w1 rfl;have hb:=ag w (.cells #[Value.int .i64 m.1,Value.int .i64 m.2] 170);refine⟨m.1,by rw [aA,aT];rfl,?_⟩;refine(dd m.1 0 15 _).mono ?_;rintro e w2 ⟨rfl,h2⟩;refine⟨_,rfl,aa.mk ?_ ?_⟩
 ·intro h;have h:=of_decide_eq_true h;refine⟨m.2,by rw [aA,h2.cell (by rw [ax];exact Nat.lt_succ_self _),aT];rfl,?_⟩;refine(dd m.2 0 15 w2).mono ?_;rintro e w3 ⟨rfl,h3⟩;refine⟨_,rfl,?_,ab hb (ab h2 h3)⟩;congr 1;unfold bK;exact decide_eq_decide.2 (by omega)
 ·intro h;have h:=of_decide_eq_false h;refine⟨?_,ab hb h2⟩;congr 1;unfold bK;exact(decide_eq_false (by omega)).symm
theorem pl (s:Bs) (w:World):CP 150 #[.string (str s)] w fun e w'=>e= .returned (.bool (ee s))∧Below w.heap.size w w':=by
 refine az (wH (str s) w (fun v w'=>v= .bool (ee s)∧Below w.heap.size w w') ?_) (by rintro v w' ⟨rfl,h⟩;exact⟨rfl,h⟩);refine(dd _ 2 64 w).mono ?_;rintro e w2 ⟨rfl,h2⟩;refine⟨_,rfl,?_,h2⟩;congr 1;unfold ee;rw [aj];exact decide_eq_decide.2 (by omega)
theorem mJ (x:Int×Bs) (w:World):CP 152 #[.agg #[.int .i64 x.1,.string (str x.2)]] w fun e w'=>e= .returned (.bool (aY x))∧Below w.heap.size w w':=by
 refine az (vH x.1 (str x.2) w (fun v w'=>v= .bool (aY x)∧Below w.heap.size w w') ?_) (by rintro v w' ⟨rfl,h⟩;exact⟨rfl,h⟩);rintro w1 rfl;have hb:=ag w (.cells #[Value.int .i64 x.1,Value.string (str x.2)] 87);refine⟨x.1,by rw [aA,aT];rfl,?_⟩;refine(dd x.1 0 1073741824 _).mono ?_;rintro e w2 ⟨rfl,h2⟩;refine⟨_,rfl,aa.mk ?_ ?_⟩
 ·intro h;have h:=of_decide_eq_true h;refine⟨str x.2,by rw [aA,h2.cell (by rw [ax];exact Nat.lt_succ_self _),aT];rfl,?_⟩;refine(dd _ 1 64 w2).mono ?_;rintro e w3 ⟨rfl,h3⟩;refine⟨_,rfl,?_,ab hb (ab h2 h3)⟩;congr 1;unfold aY;rw [aj];exact decide_eq_decide.2 (by omega)
 ·intro h;have h:=of_decide_eq_false h;refine⟨?_,ab hb h2⟩;congr 1;unfold aY;exact(decide_eq_false (by omega)).symm
theorem po (c:Int×Int×Int) (w:World):CP 154 #[.agg #[.int .i64 c.1,.int .i64 c.2.1,.int .i64 c.2.2]] w fun e w'=>e= .returned (.bool (aR c))∧Below w.heap.size w w':=by
 refine az (wR c.1 c.2.1 c.2.2 w (fun v w'=>v= .bool (aR c)∧Below w.heap.size w w') ?_) (by rintro v w' ⟨rfl,h⟩;exact⟨rfl,h⟩);rintro w1 rfl;have hb:=ag w (.cells #[Value.int .i64 c.1,Value.int .i64 c.2.1,Value.int .i64 c.2.2] 89);refine⟨c.1,by rw [aA,aT];rfl,c.2.1,by rw [aA,aT];rfl,?_⟩;refine(dd c.1 0 c.2.1 _).mono ?_;rintro e w2 ⟨rfl,h2⟩;refine⟨_,rfl,aa.mk ?_ ?_⟩
 ·intro h;have h:=of_decide_eq_true h;refine⟨c.2.1,by rw [aA,h2.cell (by rw [ax];exact Nat.lt_succ_self _),aT];rfl,aa.mk ?_ ?_⟩
  ·intro h5;have h5:=of_decide_eq_true h5;refine⟨c.2.2,by rw [aA,h2.cell (by rw [ax];exact Nat.lt_succ_self _),aT];rfl,?_⟩;refine(dd c.2.2 0 15 w2).mono ?_;rintro e w3 ⟨rfl,h3⟩;refine⟨_,rfl,?_,ab hb (ab h2 h3)⟩;congr 1;unfold aR;exact decide_eq_decide.2 (by omega)
  ·intro h5;have h5:=of_decide_eq_false h5;refine⟨?_,ab hb h2⟩;congr 1;unfold aR;exact(decide_eq_false (by omega)).symm
 ·intro h;have h:=of_decide_eq_false h;refine⟨?_,ab hb h2⟩;congr 1;unfold aR;exact(decide_eq_false (by omega)).symm
theorem cI.mono {C:gj} {f:Value} {args:List Value} {w:World} {R R':Ending→World→Prop} (h:cI C f args w R) (hr:∀e w',R e w'→R' e w'):cI C f args w R':=by
 unfold cI at h⊢;split at h
 ·split at h
  ·exact h.mono hr
  ·obtain⟨v,w',h1,h2⟩:=h;exact⟨v,w',h1,hr _ _ h2⟩
 ·exact h.elim
theorem d' {g:FuncId} {cap:Array Value} {args:List Value} {w:World} {R:Ending→World→Prop} (hg:mf.fns g=true) (h:CP g (args++cap.toList).toArray w R):cI mf (.func (.func g) #[] cap) args w R:=by
 unfold cI;simp only [hg];exact h
def yT {α:Type} (p:α→Bool) (xs:List α):Int:=match xs.findIdx? p with
 |some i=>(i:Int)
 |none=> -1
theorem kO {α:Type} (p:α→Bool) (xs:List α):decide (yT p xs≥0)=xs.any p:=by
 unfold yT;cases h:xs.findIdx? p with
 |none=>
  rw [List.findIdx?_eq_none_iff]at h;have:xs.any p=false:=by
   rw [List.any_eq_false];intro x hx;simpa using h x hx
  rw [this];rfl
 |some i=>
  have hi:=List.findIdx?_eq_some_iff_getElem.1 h;have:xs.any p=true:=List.any_eq_true.2 ⟨xs[i]'hi.1,List.getElem_mem hi.1,hi.2.1⟩;rw [this];exact decide_eq_true (by simp)
theorem ga {α:Type} {p:α→Bool} {xs:List α} {i:Nat} (h:i<xs.length) (hp:p xs[i]=true) (hb:∀j (hj:j<i),p (xs[j]'(by omega))=false):yT p xs=i:=by
 have:xs.findIdx? p=some i:=List.findIdx?_eq_some_iff_getElem.2 ⟨h,hp,fun j hj=>by simpa using hb j hj⟩;unfold yT;rw [this]
theorem fU {α:Type} {p:α→Bool} {xs:List α} (hb:∀j (hj:j<xs.length),p (xs[j])=false):yT p xs= -1:=by
 have:xs.findIdx? p=none:=by
  rw [List.findIdx?_eq_none_iff];intro x hx;obtain⟨j,hj,rfl⟩:=List.getElem_of_mem hx;exact hb j hj
 unfold yT;rw [this]
theorem mO {α:Type} (p:α→Bool) (xs:List α):(!xs.any fun x=> !p x)=xs.all p:=by
 induction xs with
 |nil=>rfl
 |cons x xs ih=>simp only [List.any_cons,List.all_cons,Bool.not_or,Bool.not_not,ih]
theorem yP (a:Option Addr) (c:Nat) (xs:List (Int×Int)) (f:Value) (p:Int×Int→Bool) (w:World) (hr:Rw aD 2 w a xs) (hl:xs.length≤1000000000000000)
  (hf:∀x∈xs,∀w1,Below w.heap.size w w1→cI mf f [.agg #[.int .i64 x.1,.int .i64 x.2]] w1 (fun e w2=>e= .returned (.bool (p x))∧Below w1.heap.size w1 w2)):
  CP 243 #[.slice a xs.length c,f] w fun e w'=>e= .returned (.int .i64 (yT p xs))∧Below w.heap.size w w':=by
 refine aU (yd a xs.length c f w) ?_;intro I hI;have key:=jr (α:=Int×World) xs.length (fun i x=>(∀j (hj:j<xs.length),j<i→p xs[j]=false)∧Below w.heap.size w x.2) (fun i x=>I [.int .i64 (i:Int),.int .i64 x.1] x.2) ?_ ?_ 0 (Nat.zero_le _) (0,w)
 ·exact key ⟨fun j _ hj=>absurd hj (Nat.not_lt_zero j),Below.refl _ _⟩
 ·rintro⟨y,w1⟩ ⟨hb,hB⟩;exact hI _ _ _ (aa.no (by simp) ⟨by rw [fU fun j hj=>hb j hj hj],hB⟩)
 ·rintro i hi ih ⟨y,w1⟩ ⟨hb,hB⟩;obtain⟨q,hq,_,hcx⟩:=(hr.on hB) i _ (List.getElem?_eq_getElem hi);refine hI _ _ _ (aa.yes (by simp;omega) (ae.mk q hq ⟨by omega,by omega,xs[i].1,xs[i].2,⟨by have:=hcx 0 _ rfl;simpa [an]using this,by have:=hcx 1 _ rfl;simpa using this,trivial⟩,?_⟩));refine(hf xs[i] (List.getElem_mem hi) w1 hB).mono ?_;rintro e w2 ⟨rfl,h2⟩;refine⟨_,rfl,aa.mk ?_ ?_⟩
  ·intro hp;exact⟨by rw [ga hi hp fun j hj=>hb j (by omega) hj],ab hB h2⟩
  ·intro hp;refine Ar.ok64 (by omega) (by omega) (ih (y,w2) ⟨?_,ab hB h2⟩);intro j hj hji;by_cases he:j=i
   ·subst he;exact hp
   ·exact hb j hj (by omega)
theorem qQ (a:Option Addr) (c:Nat) (xs:List (Int×Int)) (f:Value) (p:Int×Int→Bool) (w:World) (hr:Rw aD 2 w a xs) (hl:xs.length≤1000000000000000)
  (hf:∀x∈xs,∀w1,Below w.heap.size w w1→cI mf f [.agg #[.int .i64 x.1,.int .i64 x.2]] w1 (fun e w2=>e= .returned (.bool (p x))∧Below w1.heap.size w1 w2)):
  CP 194 #[.slice a xs.length c,f] w fun e w'=>e= .returned (.bool (xs.any p))∧Below w.heap.size w w':=by
 refine aU (w_ a xs.length c f w) ?_;refine(yP a c xs f p w hr hl hf).mono ?_;rintro e w1 ⟨rfl,h1⟩;exact⟨_,rfl,by rw [kO],h1⟩
theorem BJ (x:Int×Int) (cb:Nat) (may:Value) (p:Int×Int→Bool) (w:World) (hcb:cb<w.heap.size) (hc:w.cell? ⟨cb,0,none⟩=some may) (hm:∀w1,cI mf may [.agg #[.int .i64 x.1,.int .i64 x.2]] w1 (fun e w2=>e= .returned (.bool (p x))∧Below w1.heap.size w1 w2)):
  CP 195 #[.agg #[.int .i64 x.1,.int .i64 x.2],.pointer (some ⟨cb,0,none⟩)] w fun e w'=>e= .returned (.bool (!p x))∧Below w.heap.size w w':=by
 refine aU (vh (x.1) (x.2) (some ⟨cb,0,none⟩) w) ?_;rintro w1 rfl;have hb:=ag w (.cells #[Value.int .i64 x.1,Value.int .i64 x.2] 85);refine⟨may,by rw [hb.cell hcb];exact hc,x.1,x.2,⟨by rw [aT];rfl,by rw [aA,aT];rfl,trivial⟩,?_⟩;refine(hm _).mono ?_;rintro e w2 ⟨rfl,h2⟩;exact⟨_,rfl,rfl,ab hb h2⟩
theorem sU (a:Option Addr) (c most:Nat) (xs:List (Int×Int)) (w:World) (hr:Rw aD 2 w a xs) (hm:most≤1000000):
  CP 147 #[.slice a xs.length c,.int .i64 most,.func (.func 148) #[] #[]] w fun e w'=>e= .returned (.bool (bk xs most dr))∧Below w.heap.size w w':=by
 refine aU (yv a xs.length c most (.func (.func 148) #[] #[]) w) ?_;rintro w1 rfl;refine aa.mk ?_ ?_
 ·intro h;have h:=of_decide_eq_true h;have hb:=ag w (.cells (Value.cells (.func (.func 148) #[] #[])) 234);refine(qQ a c xs _ (fun x=> !dr x) _ (hr.on hb) (by omega) ?_).mono ?_
  ·intro x hx w1 hB;refine d' (by kernel_rfl) ?_;refine BJ x w.heap.size (.func (.func 148) #[] #[]) dr w1 (Nat.lt_of_lt_of_le (by rw [ax];exact Nat.lt_succ_self _) hB.size) (by rw [hB.cell (by rw [ax];exact Nat.lt_succ_self _),aT];rfl) ?_;intro w2;exact d' (by kernel_rfl) (oX x w2)
  ·rintro e w2 ⟨rfl,h2⟩;refine⟨_,rfl,?_,ab hb h2⟩;rw [mO,bk,decide_eq_true (show xs.length≤most by omega)];rfl
 ·intro h;have h:=of_decide_eq_false h;refine⟨?_,ag _ _⟩;rw [bk,decide_eq_false (show ¬xs.length≤most by omega)];rfl
theorem vE (a:Option Addr) (c:Nat) (xs:List (Bs)) (f:Value) (p:Bs→Bool) (w:World) (hr:Rw be 1 w a xs) (hl:xs.length≤1000000000000000)
  (hf:∀x∈xs,∀w1,Below w.heap.size w w1→cI mf f [.string (str x)] w1 (fun e w2=>e= .returned (.bool (p x))∧Below w1.heap.size w1 w2)):
  CP 244 #[.slice a xs.length c,f] w fun e w'=>e= .returned (.int .i64 (yT p xs))∧Below w.heap.size w w':=by
 refine aU (uY a xs.length c f w) ?_;intro I hI;have key:=jr (α:=Int×World) xs.length (fun i x=>(∀j (hj:j<xs.length),j<i→p xs[j]=false)∧Below w.heap.size w x.2) (fun i x=>I [.int .i64 (i:Int),.int .i64 x.1] x.2) ?_ ?_ 0 (Nat.zero_le _) (0,w)
 ·exact key ⟨fun j _ hj=>absurd hj (Nat.not_lt_zero j),Below.refl _ _⟩
 ·rintro⟨y,w1⟩ ⟨hb,hB⟩;exact hI _ _ _ (aa.no (by simp) ⟨by rw [fU fun j hj=>hb j hj hj],hB⟩)
 ·rintro i hi ih ⟨y,w1⟩ ⟨hb,hB⟩;obtain⟨q,hq,_,hcx⟩:=(hr.on hB) i _ (List.getElem?_eq_getElem hi);refine hI _ _ _ (aa.yes (by simp;omega) (ae.mk q hq ⟨by omega,by omega,str xs[i],by have:=hcx 0 _ rfl;simpa [an]using this,?_⟩));refine(hf xs[i] (List.getElem_mem hi) w1 hB).mono ?_;rintro e w2 ⟨rfl,h2⟩;refine⟨_,rfl,aa.mk ?_ ?_⟩
  ·intro hp;exact⟨by rw [ga hi hp fun j hj=>hb j (by omega) hj],ab hB h2⟩
  ·intro hp;refine Ar.ok64 (by omega) (by omega) (ih (y,w2) ⟨?_,ab hB h2⟩);intro j hj hji;by_cases he:j=i
   ·subst he;exact hp
   ·exact hb j hj (by omega)
theorem qs (a:Option Addr) (c:Nat) (xs:List (Bs)) (f:Value) (p:Bs→Bool) (w:World) (hr:Rw be 1 w a xs) (hl:xs.length≤1000000000000000)
  (hf:∀x∈xs,∀w1,Below w.heap.size w w1→cI mf f [.string (str x)] w1 (fun e w2=>e= .returned (.bool (p x))∧Below w1.heap.size w1 w2)):
  CP 197 #[.slice a xs.length c,f] w fun e w'=>e= .returned (.bool (xs.any p))∧Below w.heap.size w w':=by
 refine aU (yo a xs.length c f w) ?_;refine(vE a c xs f p w hr hl hf).mono ?_;rintro e w1 ⟨rfl,h1⟩;exact⟨_,rfl,by rw [kO],h1⟩
theorem BN (x:Bs) (cb:Nat) (may:Value) (p:Bs→Bool) (w:World) (hcb:cb<w.heap.size) (hc:w.cell? ⟨cb,0,none⟩=some may) (hm:∀w1,cI mf may [.string (str x)] w1 (fun e w2=>e= .returned (.bool (p x))∧Below w1.heap.size w1 w2)):
  CP 198 #[.string (str x),.pointer (some ⟨cb,0,none⟩)] w fun e w'=>e= .returned (.bool (!p x))∧Below w.heap.size w w':=by
 refine aU (vr (str x) (some ⟨cb,0,none⟩) w) ?_;refine⟨may,hc,?_⟩;refine(hm w).mono ?_;rintro e w2 ⟨rfl,h2⟩;exact⟨_,rfl,rfl,h2⟩
theorem B_ (a:Option Addr) (c most:Nat) (xs:List (Bs)) (w:World) (hr:Rw be 1 w a xs) (hm:most≤1000000):
  CP 149 #[.slice a xs.length c,.int .i64 most,.func (.func 150) #[] #[]] w fun e w'=>e= .returned (.bool (bk xs most ee))∧Below w.heap.size w w':=by
 refine aU (vY a xs.length c most (.func (.func 150) #[] #[]) w) ?_;rintro w1 rfl;refine aa.mk ?_ ?_
 ·intro h;have h:=of_decide_eq_true h;have hb:=ag w (.cells (Value.cells (.func (.func 150) #[] #[])) 78);refine(qs a c xs _ (fun x=> !ee x) _ (hr.on hb) (by omega) ?_).mono ?_
  ·intro x hx w1 hB;refine d' (by kernel_rfl) ?_;refine BN x w.heap.size (.func (.func 150) #[] #[]) ee w1 (Nat.lt_of_lt_of_le (by rw [ax];exact Nat.lt_succ_self _) hB.size) (by rw [hB.cell (by rw [ax];exact Nat.lt_succ_self _),aT];rfl) ?_;intro w2;exact d' (by kernel_rfl) (pl x w2)
  ·rintro e w2 ⟨rfl,h2⟩;refine⟨_,rfl,?_,ab hb h2⟩;rw [mO,bk,decide_eq_true (show xs.length≤most by omega)];rfl
 ·intro h;have h:=of_decide_eq_false h;refine⟨?_,ag _ _⟩;rw [bk,decide_eq_false (show ¬xs.length≤most by omega)];rfl
theorem oc (a:Option Addr) (c:Nat) (xs:List (Int×Bs)) (f:Value) (p:Int×Bs→Bool) (w:World) (hr:Rw av 2 w a xs) (hl:xs.length≤1000000000000000)
  (hf:∀x∈xs,∀w1,Below w.heap.size w w1→cI mf f [.agg #[.int .i64 x.1,.string (str x.2)]] w1 (fun e w2=>e= .returned (.bool (p x))∧Below w1.heap.size w1 w2)):
  CP 132 #[.slice a xs.length c,f] w fun e w'=>e= .returned (.int .i64 (yT p xs))∧Below w.heap.size w w':=by
 refine aU (wN a xs.length c f w) ?_;intro I hI;have key:=jr (α:=Int×World) xs.length (fun i x=>(∀j (hj:j<xs.length),j<i→p xs[j]=false)∧Below w.heap.size w x.2) (fun i x=>I [.int .i64 (i:Int),.int .i64 x.1] x.2) ?_ ?_ 0 (Nat.zero_le _) (0,w)
 ·exact key ⟨fun j _ hj=>absurd hj (Nat.not_lt_zero j),Below.refl _ _⟩
 ·rintro⟨y,w1⟩ ⟨hb,hB⟩;exact hI _ _ _ (aa.no (by simp) ⟨by rw [fU fun j hj=>hb j hj hj],hB⟩)
 ·rintro i hi ih ⟨y,w1⟩ ⟨hb,hB⟩;obtain⟨q,hq,_,hcx⟩:=(hr.on hB) i _ (List.getElem?_eq_getElem hi);refine hI _ _ _ (aa.yes (by simp;omega) (ae.mk q hq ⟨by omega,by omega,xs[i].1,str xs[i].2,⟨by have:=hcx 0 _ rfl;simpa [an]using this,by have:=hcx 1 _ rfl;simpa using this,trivial⟩,?_⟩));refine(hf xs[i] (List.getElem_mem hi) w1 hB).mono ?_;rintro e w2 ⟨rfl,h2⟩;refine⟨_,rfl,aa.mk ?_ ?_⟩
  ·intro hp;exact⟨by rw [ga hi hp fun j hj=>hb j (by omega) hj],ab hB h2⟩
  ·intro hp;refine Ar.ok64 (by omega) (by omega) (ih (y,w2) ⟨?_,ab hB h2⟩);intro j hj hji;by_cases he:j=i
   ·subst he;exact hp
   ·exact hb j hj (by omega)
theorem pG (a:Option Addr) (c:Nat) (xs:List (Int×Bs)) (f:Value) (p:Int×Bs→Bool) (w:World) (hr:Rw av 2 w a xs) (hl:xs.length≤1000000000000000)
  (hf:∀x∈xs,∀w1,Below w.heap.size w w1→cI mf f [.agg #[.int .i64 x.1,.string (str x.2)]] w1 (fun e w2=>e= .returned (.bool (p x))∧Below w1.heap.size w1 w2)):
  CP 199 #[.slice a xs.length c,f] w fun e w'=>e= .returned (.bool (xs.any p))∧Below w.heap.size w w':=by
 refine aU (vU a xs.length c f w) ?_;refine(oc a c xs f p w hr hl hf).mono ?_;rintro e w1 ⟨rfl,h1⟩;exact⟨_,rfl,by rw [kO],h1⟩
theorem BA (x:Int×Bs) (cb:Nat) (may:Value) (p:Int×Bs→Bool) (w:World) (hcb:cb<w.heap.size) (hc:w.cell? ⟨cb,0,none⟩=some may) (hm:∀w1,cI mf may [.agg #[.int .i64 x.1,.string (str x.2)]] w1 (fun e w2=>e= .returned (.bool (p x))∧Below w1.heap.size w1 w2)):
  CP 200 #[.agg #[.int .i64 x.1,.string (str x.2)],.pointer (some ⟨cb,0,none⟩)] w fun e w'=>e= .returned (.bool (!p x))∧Below w.heap.size w w':=by
 refine aU (yK (x.1) (str x.2) (some ⟨cb,0,none⟩) w) ?_;rintro w1 rfl;have hb:=ag w (.cells #[Value.int .i64 x.1,Value.string (str x.2)] 87);refine⟨may,by rw [hb.cell hcb];exact hc,x.1,str x.2,⟨by rw [aT];rfl,by rw [aA,aT];rfl,trivial⟩,?_⟩;refine(hm _).mono ?_;rintro e w2 ⟨rfl,h2⟩;exact⟨_,rfl,rfl,ab hb h2⟩
theorem Bv (a:Option Addr) (c most:Nat) (xs:List (Int×Bs)) (w:World) (hr:Rw av 2 w a xs) (hm:most≤1000000):
  CP 151 #[.slice a xs.length c,.int .i64 most,.func (.func 152) #[] #[]] w fun e w'=>e= .returned (.bool (bk xs most aY))∧Below w.heap.size w w':=by
 refine aU (xP a xs.length c most (.func (.func 152) #[] #[]) w) ?_;rintro w1 rfl;refine aa.mk ?_ ?_
 ·intro h;have h:=of_decide_eq_true h;have hb:=ag w (.cells (Value.cells (.func (.func 152) #[] #[])) 218);refine(pG a c xs _ (fun x=> !aY x) _ (hr.on hb) (by omega) ?_).mono ?_
  ·intro x hx w1 hB;refine d' (by kernel_rfl) ?_;refine BA x w.heap.size (.func (.func 152) #[] #[]) aY w1 (Nat.lt_of_lt_of_le (by rw [ax];exact Nat.lt_succ_self _) hB.size) (by rw [hB.cell (by rw [ax];exact Nat.lt_succ_self _),aT];rfl) ?_;intro w2;exact d' (by kernel_rfl) (mJ x w2)
  ·rintro e w2 ⟨rfl,h2⟩;refine⟨_,rfl,?_,ab hb h2⟩;rw [mO,bk,decide_eq_true (show xs.length≤most by omega)];rfl
 ·intro h;have h:=of_decide_eq_false h;refine⟨?_,ag _ _⟩;rw [bk,decide_eq_false (show ¬xs.length≤most by omega)];rfl
theorem vP (a:Option Addr) (c:Nat) (xs:List (Int×Int×Int)) (f:Value) (p:Int×Int×Int→Bool) (w:World) (hr:Rw aZ 3 w a xs) (hl:xs.length≤1000000000000000)
  (hf:∀x∈xs,∀w1,Below w.heap.size w w1→cI mf f [.agg #[.int .i64 x.1,.int .i64 x.2.1,.int .i64 x.2.2]] w1 (fun e w2=>e= .returned (.bool (p x))∧Below w1.heap.size w1 w2)):
  CP 245 #[.slice a xs.length c,f] w fun e w'=>e= .returned (.int .i64 (yT p xs))∧Below w.heap.size w w':=by
 refine aU (wj a xs.length c f w) ?_;intro I hI;have key:=jr (α:=Int×World) xs.length (fun i x=>(∀j (hj:j<xs.length),j<i→p xs[j]=false)∧Below w.heap.size w x.2) (fun i x=>I [.int .i64 (i:Int),.int .i64 x.1] x.2) ?_ ?_ 0 (Nat.zero_le _) (0,w)
 ·exact key ⟨fun j _ hj=>absurd hj (Nat.not_lt_zero j),Below.refl _ _⟩
 ·rintro⟨y,w1⟩ ⟨hb,hB⟩;exact hI _ _ _ (aa.no (by simp) ⟨by rw [fU fun j hj=>hb j hj hj],hB⟩)
 ·rintro i hi ih ⟨y,w1⟩ ⟨hb,hB⟩;obtain⟨q,hq,_,hcx⟩:=(hr.on hB) i _ (List.getElem?_eq_getElem hi);refine hI _ _ _ (aa.yes (by simp;omega) (ae.mk q hq ⟨by omega,by omega,xs[i].1,xs[i].2.1,xs[i].2.2,⟨by have:=hcx 0 _ rfl;simpa [an]using this,by have:=hcx 1 _ rfl;simpa using this,by have:=hcx 2 _ rfl;simpa using this,trivial⟩,?_⟩));refine(hf xs[i] (List.getElem_mem hi) w1 hB).mono ?_;rintro e w2 ⟨rfl,h2⟩;refine⟨_,rfl,aa.mk ?_ ?_⟩
  ·intro hp;exact⟨by rw [ga hi hp fun j hj=>hb j (by omega) hj],ab hB h2⟩
  ·intro hp;refine Ar.ok64 (by omega) (by omega) (ih (y,w2) ⟨?_,ab hB h2⟩);intro j hj hji;by_cases he:j=i
   ·subst he;exact hp
   ·exact hb j hj (by omega)
theorem rh (a:Option Addr) (c:Nat) (xs:List (Int×Int×Int)) (f:Value) (p:Int×Int×Int→Bool) (w:World) (hr:Rw aZ 3 w a xs) (hl:xs.length≤1000000000000000)
  (hf:∀x∈xs,∀w1,Below w.heap.size w w1→cI mf f [.agg #[.int .i64 x.1,.int .i64 x.2.1,.int .i64 x.2.2]] w1 (fun e w2=>e= .returned (.bool (p x))∧Below w1.heap.size w1 w2)):
  CP 201 #[.slice a xs.length c,f] w fun e w'=>e= .returned (.bool (xs.any p))∧Below w.heap.size w w':=by
 refine aU (vS a xs.length c f w) ?_;refine(vP a c xs f p w hr hl hf).mono ?_;rintro e w1 ⟨rfl,h1⟩;exact⟨_,rfl,by rw [kO],h1⟩
theorem BK (x:Int×Int×Int) (cb:Nat) (may:Value) (p:Int×Int×Int→Bool) (w:World) (hcb:cb<w.heap.size) (hc:w.cell? ⟨cb,0,none⟩=some may) (hm:∀w1,cI mf may [.agg #[.int .i64 x.1,.int .i64 x.2.1,.int .i64 x.2.2]] w1 (fun e w2=>e= .returned (.bool (p x))∧Below w1.heap.size w1 w2)):
  CP 202 #[.agg #[.int .i64 x.1,.int .i64 x.2.1,.int .i64 x.2.2],.pointer (some ⟨cb,0,none⟩)] w fun e w'=>e= .returned (.bool (!p x))∧Below w.heap.size w w':=by
 refine aU (xU (x.1) (x.2.1) (x.2.2) (some ⟨cb,0,none⟩) w) ?_;rintro w1 rfl;have hb:=ag w (.cells #[Value.int .i64 x.1,Value.int .i64 x.2.1,Value.int .i64 x.2.2] 89);refine⟨may,by rw [hb.cell hcb];exact hc,x.1,x.2.1,x.2.2,⟨by rw [aT];rfl,by rw [aA,aT];rfl,by rw [aA,aT];rfl,trivial⟩,?_⟩;refine(hm _).mono ?_;rintro e w2 ⟨rfl,h2⟩;exact⟨_,rfl,rfl,ab hb h2⟩
theorem Cc (a:Option Addr) (c most:Nat) (xs:List (Int×Int×Int)) (w:World) (hr:Rw aZ 3 w a xs) (hm:most≤1000000):
  CP 153 #[.slice a xs.length c,.int .i64 most,.func (.func 154) #[] #[]] w fun e w'=>e= .returned (.bool (bk xs most aR))∧Below w.heap.size w w':=by
 refine aU (vT a xs.length c most (.func (.func 154) #[] #[]) w) ?_;rintro w1 rfl;refine aa.mk ?_ ?_
 ·intro h;have h:=of_decide_eq_true h;have hb:=ag w (.cells (Value.cells (.func (.func 154) #[] #[])) 238);refine(rh a c xs _ (fun x=> !aR x) _ (hr.on hb) (by omega) ?_).mono ?_
  ·intro x hx w1 hB;refine d' (by kernel_rfl) ?_;refine BK x w.heap.size (.func (.func 154) #[] #[]) aR w1 (Nat.lt_of_lt_of_le (by rw [ax];exact Nat.lt_succ_self _) hB.size) (by rw [hB.cell (by rw [ax];exact Nat.lt_succ_self _),aT];rfl) ?_;intro w2;exact d' (by kernel_rfl) (po x w2)
  ·rintro e w2 ⟨rfl,h2⟩;refine⟨_,rfl,?_,ab hb h2⟩;rw [mO,bk,decide_eq_true (show xs.length≤most by omega)];rfl
 ·intro h;have h:=of_decide_eq_false h;refine⟨?_,ag _ _⟩;rw [bk,decide_eq_false (show ¬xs.length≤most by omega)];rfl
theorem vF (a:Option Addr) (c:Nat) (xs:List (Int×Int)) (f:Value) (p:Int×Int→Bool) (w:World) (hr:Rw aD 2 w a xs) (hl:xs.length≤1000000000000000)
  (hf:∀x∈xs,∀w1,Below w.heap.size w w1→cI mf f [.agg #[.int .i64 x.1,.int .i64 x.2]] w1 (fun e w2=>e= .returned (.bool (p x))∧Below w1.heap.size w1 w2)):
  CP 246 #[.slice a xs.length c,f] w fun e w'=>e= .returned (.int .i64 (yT p xs))∧Below w.heap.size w w':=by
 refine aU (xd a xs.length c f w) ?_;intro I hI;have key:=jr (α:=Int×World) xs.length (fun i x=>(∀j (hj:j<xs.length),j<i→p xs[j]=false)∧Below w.heap.size w x.2) (fun i x=>I [.int .i64 (i:Int),.int .i64 x.1] x.2) ?_ ?_ 0 (Nat.zero_le _) (0,w)
 ·exact key ⟨fun j _ hj=>absurd hj (Nat.not_lt_zero j),Below.refl _ _⟩
 ·rintro⟨y,w1⟩ ⟨hb,hB⟩;exact hI _ _ _ (aa.no (by simp) ⟨by rw [fU fun j hj=>hb j hj hj],hB⟩)
 ·rintro i hi ih ⟨y,w1⟩ ⟨hb,hB⟩;obtain⟨q,hq,_,hcx⟩:=(hr.on hB) i _ (List.getElem?_eq_getElem hi);refine hI _ _ _ (aa.yes (by simp;omega) (ae.mk q hq ⟨by omega,by omega,xs[i].1,xs[i].2,⟨by have:=hcx 0 _ rfl;simpa [an]using this,by have:=hcx 1 _ rfl;simpa using this,trivial⟩,?_⟩));refine(hf xs[i] (List.getElem_mem hi) w1 hB).mono ?_;rintro e w2 ⟨rfl,h2⟩;refine⟨_,rfl,aa.mk ?_ ?_⟩
  ·intro hp;exact⟨by rw [ga hi hp fun j hj=>hb j (by omega) hj],ab hB h2⟩
  ·intro hp;refine Ar.ok64 (by omega) (by omega) (ih (y,w2) ⟨?_,ab hB h2⟩);intro j hj hji;by_cases he:j=i
   ·subst he;exact hp
   ·exact hb j hj (by omega)
theorem rz (a:Option Addr) (c:Nat) (xs:List (Int×Int)) (f:Value) (p:Int×Int→Bool) (w:World) (hr:Rw aD 2 w a xs) (hl:xs.length≤1000000000000000)
  (hf:∀x∈xs,∀w1,Below w.heap.size w w1→cI mf f [.agg #[.int .i64 x.1,.int .i64 x.2]] w1 (fun e w2=>e= .returned (.bool (p x))∧Below w1.heap.size w1 w2)):
  CP 203 #[.slice a xs.length c,f] w fun e w'=>e= .returned (.bool (xs.any p))∧Below w.heap.size w w':=by
 refine aU (xo a xs.length c f w) ?_;refine(vF a c xs f p w hr hl hf).mono ?_;rintro e w1 ⟨rfl,h1⟩;exact⟨_,rfl,by rw [kO],h1⟩
theorem BF (x:Int×Int) (cb:Nat) (may:Value) (p:Int×Int→Bool) (w:World) (hcb:cb<w.heap.size) (hc:w.cell? ⟨cb,0,none⟩=some may) (hm:∀w1,cI mf may [.agg #[.int .i64 x.1,.int .i64 x.2]] w1 (fun e w2=>e= .returned (.bool (p x))∧Below w1.heap.size w1 w2)):
  CP 204 #[.agg #[.int .i64 x.1,.int .i64 x.2],.pointer (some ⟨cb,0,none⟩)] w fun e w'=>e= .returned (.bool (!p x))∧Below w.heap.size w w':=by
 refine aU (xh (x.1) (x.2) (some ⟨cb,0,none⟩) w) ?_;rintro w1 rfl;have hb:=ag w (.cells #[Value.int .i64 x.1,Value.int .i64 x.2] 170);refine⟨may,by rw [hb.cell hcb];exact hc,x.1,x.2,⟨by rw [aT];rfl,by rw [aA,aT];rfl,trivial⟩,?_⟩;refine(hm _).mono ?_;rintro e w2 ⟨rfl,h2⟩;exact⟨_,rfl,rfl,ab hb h2⟩
theorem Bt (a:Option Addr) (c most:Nat) (xs:List (Int×Int)) (w:World) (hr:Rw aD 2 w a xs) (hm:most≤1000000):
  CP 155 #[.slice a xs.length c,.int .i64 most,.func (.func 156) #[] #[]] w fun e w'=>e= .returned (.bool (bk xs most bK))∧Below w.heap.size w w':=by
 refine aU (xH a xs.length c most (.func (.func 156) #[] #[]) w) ?_;rintro w1 rfl;refine aa.mk ?_ ?_
 ·intro h;have h:=of_decide_eq_true h;have hb:=ag w (.cells (Value.cells (.func (.func 156) #[] #[])) 240);refine(rz a c xs _ (fun x=> !bK x) _ (hr.on hb) (by omega) ?_).mono ?_
  ·intro x hx w1 hB;refine d' (by kernel_rfl) ?_;refine BF x w.heap.size (.func (.func 156) #[] #[]) bK w1 (Nat.lt_of_lt_of_le (by rw [ax];exact Nat.lt_succ_self _) hB.size) (by rw [hB.cell (by rw [ax];exact Nat.lt_succ_self _),aT];rfl) ?_;intro w2;exact d' (by kernel_rfl) (qy x w2)
  ·rintro e w2 ⟨rfl,h2⟩;refine⟨_,rfl,?_,ab hb h2⟩;rw [mO,bk,decide_eq_true (show xs.length≤most by omega)];rfl
 ·intro h;have h:=of_decide_eq_false h;refine⟨?_,ag _ _⟩;rw [bk,decide_eq_false (show ¬xs.length≤most by omega)];rfl
structure aG where
 ranked:Bool
 s1:Sl
 s2:Sl
 s3:Sl
 s4:Sl
 s5:Sl
abbrev aG.cells (x:aG):Array Value:=#[.bool x.ranked,x.s1.v,x.s2.v,x.s3.v,x.s4.v,x.s5.v]
abbrev aG.v (x:aG):Value:=.agg x.cells
structure aM (w:World) (x:aG) (s:ai):Prop where
 ranked:x.ranked=s.ranked
 n1:x.s1.n=s.merges.length
 r1:Rw aD 2 w x.s1.a s.merges
 n2:x.s2.n=s.tokens.length
 r2:Rw be 1 w x.s2.a s.tokens
 n3:x.s3.n=s.specials.length
 r3:Rw av 2 w x.s3.a s.specials
 n4:x.s4.n=s.classes.length
 r4:Rw aZ 3 w x.s4.a s.classes
 n5:x.s5.n=s.joins.length
 r5:Rw aD 2 w x.s5.a s.joins
theorem aM.on {w w':World} {x:aG} {s:ai} (h:aM w x s) (hb:Below w.heap.size w w'):aM w' x s:=
 ⟨h.ranked,h.n1,h.r1.on hb,h.n2,h.r2.on hb,h.n3,h.r3.on hb,h.n4,h.r4.on hb,h.n5,h.r5.on hb⟩
theorem fG {w w1:World} {c:Array Value} {e:TypeId} {j:Nat} (h:Below (w.alloc (.cells c e)).heap.size (w.alloc (.cells c e)) w1):w1.cell? ⟨w.heap.size,j,none⟩=c[j]? :=by
 rw [h.cell (by rw [ax];exact Nat.lt_succ_self _),aT]
theorem qL (x:aG) (s:ai) (w:World) (h:aM w x s):
  CP 101 #[x.v] w fun e w'=>e= .returned (.bool s.right)∧Below w.heap.size w w':=by
 refine az (xN x.ranked x.s1.a x.s1.n x.s1.c x.s2.a x.s2.n x.s2.c x.s3.a x.s3.n x.s3.c x.s4.a x.s4.n x.s4.c x.s5.a x.s5.n x.s5.c w (fun v w'=>v= .bool s.right∧Below w.heap.size w w') ?_) (by rintro v w' ⟨rfl,h⟩;exact⟨rfl,h⟩);rintro w1 rfl;have hb:=ag w (.cells x.cells 71);have h1:=h.on hb;have c0:∀j,(w.alloc (.cells x.cells 71)).cell? ((nb w).add j)=x.cells[j]? :=fun j=>by rw [aA,Nat.zero_add,aT]
 have rest:(if s.ranked then s.merges.isEmpty else s.tokens.isEmpty)=true→∀(b1:Bool),b1=bk s.merges 744 dr→∀w2,Below (w.alloc (.cells x.cells 71)).heap.size (w.alloc (.cells x.cells 71)) w2→
   aa b1
    (∃lA:Option Addr,∃lN:Nat,∃lC:Nat,w2.cell? ((nb w).add 2)=some (Value.slice lA lN lC)∧
     CP 149 #[Value.slice lA lN lC,Value.int .i64 744,Value.func (.func 150) #[] #[]] w2 (fun e3 w3=>
      ∃b_12:Bool,e3= .returned (Value.bool b_12)∧
      aa b_12
       (∃lA:Option Addr,∃lN:Nat,∃lC:Nat,w3.cell? ((nb w).add 3)=some (Value.slice lA lN lC)∧
        CP 151 #[Value.slice lA lN lC,Value.int .i64 32,Value.func (.func 152) #[] #[]] w3 (fun e4 w4=>
         ∃b_16:Bool,e4= .returned (Value.bool b_16)∧
         aa b_16
          (∃lA:Option Addr,∃lN:Nat,∃lC:Nat,w4.cell? ((nb w).add 4)=some (Value.slice lA lN lC)∧
           CP 153 #[Value.slice lA lN lC,Value.int .i64 64,Value.func (.func 154) #[] #[]] w4 (fun e5 w5=>
            ∃b_20:Bool,e5= .returned (Value.bool b_20)∧
            aa b_20
             (∃lA:Option Addr,∃lN:Nat,∃lC:Nat,w5.cell? ((nb w).add 5)=some (Value.slice lA lN lC)∧
              CP 155 #[Value.slice lA lN lC,Value.int .i64 64,Value.func (.func 156) #[] #[]] w5 (fun e6 w6=>
               ∃b_24:Bool,e6= .returned (Value.bool b_24)∧(Value.bool b_24= .bool s.right∧Below w.heap.size w w6)))
             (Value.bool false= .bool s.right∧Below w.heap.size w w5)))
          (Value.bool false= .bool s.right∧Below w.heap.size w w4)))
       (Value.bool false= .bool s.right∧Below w.heap.size w w3)))
    (Value.bool false= .bool s.right∧Below w.heap.size w w2):=by
  intro hr0 b1 hb1 w2 hB;have c2:∀ {w3:World} (j:Nat),Below (w.alloc (.cells x.cells 71)).heap.size (w.alloc (.cells x.cells 71)) w3→w3.cell? ((nb w).add j)=x.cells[j]? :=fun j hB=>by rw [aA,Nat.zero_add,fG hB]
  have off:∀ {w3:World},s.right=false→Below (w.alloc (.cells x.cells 71)).heap.size (w.alloc (.cells x.cells 71)) w3→(Value.bool false= .bool s.right∧Below w.heap.size w w3):=fun e hB=>⟨by rw [e],ab hb hB⟩;refine aa.mk ?_ fun e=>off (by unfold ai.right;rw [←hb1,e];simp) hB;intro e1;refine⟨_,_,_,c2 2 hB,?_⟩;rw [h.n2];refine(B_ x.s2.a x.s2.c 744 s.tokens w2 (h1.r2.on hB) (by omega)).mono ?_;rintro e w3 ⟨rfl,h3⟩;have hB3:=ab hB h3;refine⟨_,rfl,aa.mk ?_ fun e=>off (by unfold ai.right;rw [e];simp) hB3⟩;intro e2;refine⟨_,_,_,c2 3 hB3,?_⟩;rw [h.n3];refine(Bv x.s3.a x.s3.c 32 s.specials w3 (h1.r3.on hB3) (by omega)).mono ?_;rintro e w4 ⟨rfl,h4⟩;have hB4:=ab hB3 h4;refine⟨_,rfl,aa.mk ?_ fun e=>off (by unfold ai.right;rw [e];simp) hB4⟩;intro e3;refine⟨_,_,_,c2 4 hB4,?_⟩;rw [h.n4];refine(Cc x.s4.a x.s4.c 64 s.classes w4 (h1.r4.on hB4) (by omega)).mono ?_;rintro e w5 ⟨rfl,h5⟩;have hB5:=ab hB4 h5;refine⟨_,rfl,aa.mk ?_ fun e=>off (by unfold ai.right;rw [e];simp) hB5⟩;intro e4;refine⟨_,_,_,c2 5 hB5,?_⟩;rw [h.n5];refine(Bt x.s5.a x.s5.c 64 s.joins w5 (h1.r5.on hB5) (by omega)).mono ?_;rintro e w6 ⟨rfl,h6⟩;refine⟨_,rfl,?_,ab hb (ab hB5 h6)⟩;congr 1;unfold ai.right;rw [hr0, ←hb1,e1,e2,e3,e4];rfl
 refine⟨_,c0 0,aa.mk ?_ ?_⟩
 ·intro hrk;have hrk:s.ranked=true:=by rw [←h.ranked];exact hrk
  refine⟨_,_,_,c0 1,aa.mk ?_ ?_⟩
  ·intro hm;have hm:=of_decide_eq_true hm;refine⟨?_,hb⟩;congr 1;unfold ai.right;have:s.merges.isEmpty=false:=by cases hh:s.merges with |nil=>rw [h.n1,hh]at hm;simp at hm |cons _ _=>rfl
   rw [if_pos hrk,this];rfl
  ·intro hm;have hm:=of_decide_eq_false hm;have hme:s.merges= []:=List.eq_nil_of_length_eq_zero (by rw [h.n1]at hm;omega);refine⟨_,c0 0,aa.no (by rw [h.ranked,hrk];rfl) ?_⟩;refine⟨_,_,_,c0 1,?_⟩;have hall:=sU x.s1.a x.s1.c 744 s.merges _ h1.r1 (by omega);rw [←h.n1]at hall;refine hall.mono ?_;rintro e w2 ⟨rfl,h2⟩;exact⟨_,rfl,rest (by rw [if_pos hrk,hme];rfl) _ rfl w2 h2⟩
 ·intro hrk;have hrk:s.ranked=false:=by rw [←h.ranked];exact hrk
  refine⟨_,c0 0,aa.yes (by rw [h.ranked,hrk];rfl) ?_⟩;refine⟨_,_,_,c0 2,aa.mk ?_ ?_⟩
  ·intro hm;have hm:=of_decide_eq_true hm;refine⟨?_,hb⟩;congr 1;unfold ai.right;have:s.tokens.isEmpty=false:=by cases hh:s.tokens with |nil=>rw [h.n2,hh]at hm;simp at hm |cons _ _=>rfl
   rw [if_neg (by rw [hrk];simp),this];rfl
  ·intro hm;have hm:=of_decide_eq_false hm;have hme:s.tokens= []:=List.eq_nil_of_length_eq_zero (by rw [h.n2]at hm;omega);refine⟨_,_,_,c0 1,?_⟩;have hall:=sU x.s1.a x.s1.c 744 s.merges _ h1.r1 (by omega);rw [←h.n1]at hall;refine hall.mono ?_;rintro e w2 ⟨rfl,h2⟩;exact⟨_,rfl,rest (by rw [if_neg (by rw [hrk];simp),hme];rfl) _ rfl w2 h2⟩
theorem aK {α:Type} (n:Nat) (Inv G:Nat→α→Prop) (x0:α) (h0:Inv 0 x0) (step:∀i,i<n→(∀x,Inv (i+1) x→G (i+1) x)→∀x,Inv i x→G i x) (last:∀x,Inv n x→G n x):G 0 x0:=
 jr n Inv G last step 0 (Nat.zero_le _) x0 h0
theorem bo {w:World} {b j:Nat} {c:Array Value} {e:TypeId} (h:w.heap[b]? =some (.cells c e (0,0))) (v:Value):(w.setCell ((⟨b,0,none⟩:Addr).add j) v).heap[b]? =some (.cells (c.setIfInBounds j v) e (0,0)):=by
 rw [aA,Nat.zero_add];exact gl h v
theorem aE {w:World} {b j:Nat} {c:Array Value} {e:TypeId} (h:w.heap[b]? =some (.cells c e (0,0))):w.cell? ((⟨b,0,none⟩:Addr).add j)=c[j]? :=by
 rw [aA,Nat.zero_add];exact cY h
theorem a_ {w:World} {b j:Nat} {c:Array Value} {e:TypeId} (h:w.heap[b]? =some (.cells c e (0,0))):w.frozen? ((⟨b,0,none⟩:Addr).add j)=false:=by
 rw [aA,Nat.zero_add];exact eT h
theorem bg {B:Nat} {w w':World} {b j:Nat} (h:Below B w w') (hb:B≤b) (v:Value):Below B w (w'.setCell ((⟨b,0,none⟩:Addr).add j) v):=by
 rw [aA,Nat.zero_add];exact h.setCell (p:=⟨b,0+j,none⟩) hb v |> (by simpa using ·)
theorem gD {α β:Type} (f:α→β) (l:List α) (i:Nat) (h:i<l.length):(l.take (i+1)).map f=(l.take i).map f++ [f l[i]]:=by
 rw [List.take_add_one,List.getElem?_eq_getElem h,List.map_append];rfl
theorem bx {α:Type} {l:List α} {most:Nat} {may:α→Bool} (h:bk l most may=true):l.length≤most:=by
 unfold bk at h;rw [Bool.and_eq_true]at h;exact of_decide_eq_true h.1
theorem j_ {α:Type} {enc:α→List Value} {sz:Nat} (hsz:∀x,(enc x).length=sz):∀(xs:List α) (j:Nat) (x:α),xs[j]? =some x→∀k,k<sz→(xs.flatMap enc)[j*sz+k]? =(enc x)[k]?
 | [],j,x,h,k,hk=>by simp at h
 |y::ys,0,x,h,k,hk=>by
  simp at h;subst h;rw [List.flatMap_cons,List.getElem?_append_left (by rw [hsz];omega)];congr 1;omega
 |y::ys,j+1,x,h,k,hk=>by
  simp at h;rw [List.flatMap_cons,List.getElem?_append_right (by rw [hsz,Nat.succ_mul];omega),hsz, ←j_ hsz ys j x h k hk];congr 1;rw [Nat.succ_mul];omega
theorem bF {α:Type} {enc:α→List Value} {sz:Nat} (hsz:∀x,(enc x).length=sz) (xs:List α):(xs.flatMap enc).length=xs.length*sz:=by
 induction xs with
 |nil=>simp
 |cons x xs ih=>rw [List.flatMap_cons,List.length_append,ih,hsz,List.length_cons,Nat.succ_mul];omega
theorem Rw.of_own {α:Type} {enc:α→List Value} {sz:Nat} {w:World} {B:Nat} {e:TypeId} {s:Sl} {xs:List α} (h:w.ownsRow B e sz s.v s.n (xs.flatMap enc)) (hsz:∀x,(enc x).length=sz) (h0:0<sz):Rw enc sz w s.a xs∧s.n=xs.length:=by
 have hn:=h.1;rw [bF hsz]at hn;have hn:s.n=xs.length:=(Nat.eq_of_mul_eq_mul_right h0 hn).symm;refine⟨?_,hn⟩;intro j x hj;have hjl:=(List.getElem?_eq_some_iff.1 hj).1;rcases h.2 with⟨h1,h2⟩ |⟨g,cap,cur,h1,h2,h3,h4,h5,h6,h7⟩
 ·omega
 ·obtain⟨sa,sn,sc⟩:=s;cases h1;refine⟨_,rfl,(Array.getElem?_eq_some_iff.1 h3).1,?_⟩;intro k v hk;have hkl:k<sz:=by rw [←hsz x];exact(List.getElem?_eq_some_iff.1 hk).1
  rw [aA,aA,Nat.zero_add,cY h3];have h8:=j_ hsz xs j x hj k hkl;have hb:j*sz+k<sn*sz:=by
   have:(j+1)*sz≤sn*sz:=Nat.mul_le_mul_right _ (by simp at hn;omega);rw [Nat.succ_mul]at this;omega
  rw [hk, ←h7,List.getElem?_take_of_lt hb]at h8;simpa using h8
def aQ (n:Int):List Value:=[.int .i64 n]
theorem Rw.ints {w:World} {a:Option Addr} {ns:List Int} (h:Rw aQ 1 w a ns):D2 w a ns:=by
 intro j n hj;obtain⟨p,rfl,hp,hc⟩:=h j n hj;have:=hc 0 _ rfl;rw [Nat.mul_one,an]at this;exact⟨p,rfl,hp,this⟩
theorem jz {P:Program} {B b:Nat} {c:Array Value} {T:TypeId} {w1:World} {pre post:List gB} {r:gB} (jj:Nat) (hblk:w1.heap[b]? =some (.cells c T (0,0))) (hjj:jj<c.size) (hrows:dc w1 B (pre++r::post)) (hoff:∀x∈pre++r::post,x.blk≠some b) (hBb:B≤b)
  (t:TypeId) {z:Value} {bytes:Nat} (ht:P.underlying t=some (.slice r.e)) (hi:(P.info? r.e).map (fun i=>(i.zero,i.size,i.bytes))=some (some z,r.sz,bytes)) (hzs:z.cells.size=r.sz) (hsz:0<r.sz)
  (news:List Value) (hl:news.length=r.sz) (h1:∀u∈news,u.oneCell'=true) (hbytes:(r.sl.n+1)*bytes≤140737488355328) (h63:r.sl.n+1≤140737488355328):
  ∃a' c' w3,(Builtin.append_ #[t,t] t #[r.sl.v,.slice (some (nb w1)) 1 1]).run P (w1.alloc (.cells news.toArray r.e))= .ok (.slice a' (r.sl.n+1) c') w3∧
   (∃u,w3.cell? ((⟨b,0,none⟩:Addr).add jj)=some u)∧w3.frozen? ((⟨b,0,none⟩:Addr).add jj)=false∧
   ∀w4,w4=w3.setCell ((⟨b,0,none⟩:Addr).add jj) (.slice a' (r.sl.n+1) c')→
    w4.heap[b]? =some (.cells (c.setIfInBounds jj (.slice a' (r.sl.n+1) c')) T (0,0))∧dc w4 B (pre++⟨⟨a',r.sl.n+1,c'⟩,r.e,r.sz,r.xs++news⟩::post)∧
    (∀x∈pre++(⟨⟨a',r.sl.n+1,c'⟩,r.e,r.sz,r.xs++news⟩:gB)::post,x.blk≠some b)∧(∀w0,Below B w0 w1→Below B w0 w4):=by
 have hlt:b<w1.heap.size:=(Array.getElem?_eq_some_iff.1 hblk).1;obtain⟨a',c',w3,hr,hrows',hkeep,hnew,hB,hsize⟩:=hrows.push (P:=P) t ht hi hzs hsz news hl h1 hbytes h63 (by omega);have hblk3:w3.heap[b]? =some (.cells c T (0,0)):=by rw [hkeep b hlt (hoff r (by simp))];exact hblk
 have hoff':∀x∈pre++(⟨⟨a',r.sl.n+1,c'⟩,r.e,r.sz,r.xs++news⟩:gB)::post,x.blk≠some b:=by
  intro x hx;rcases List.mem_append.1 hx with hx |hx
  ·exact hoff x (by simp [hx])
  ·rcases List.mem_cons.1 hx with rfl |hx
   ·intro e;rcases hnew b e with h |h
    ·exact hoff r (by simp) h
    ·omega
   ·exact hoff x (by simp [hx])
 refine⟨a',c',w3,hr,⟨c[jj],?_⟩,a_ hblk3,?_⟩
 ·rw [aE hblk3];simp [hjj]
 ·rintro w4 rfl;refine⟨bo hblk3 _,hrows'.setCell _ _ (by rw [aq];exact hoff'),hoff',fun w0 hb=>?_⟩;exact bg (hB w0 hb) hBb _
abbrev cE:TypeId:=3
abbrev nT:TypeId:=28
theorem px:Tryz.prog.underlying nT=some (.slice cE):=by kernel_rfl
theorem um:(Tryz.prog.info? cE).map (fun i=>(i.zero,i.size,i.bytes))=some (some (.int .i64 0),1,8):=by kernel_rfl
abbrev lG:TypeId:=85
abbrev kU:TypeId:=87
abbrev wK:TypeId:=89
abbrev AN:TypeId:=170
theorem lU:Tryz.prog.underlying 33=some (.slice lG):=by kernel_rfl
theorem jZ:Tryz.prog.underlying 25=some (.slice kU):=by kernel_rfl
theorem lL:Tryz.prog.underlying 23=some (.slice wK):=by kernel_rfl
theorem lF:Tryz.prog.underlying 24=some (.slice AN):=by kernel_rfl
theorem nE:(Tryz.prog.info? lG).map (fun i=>(i.zero,i.size,i.bytes))=some (some (.agg #[.int .i64 0,.int .i64 0]),2,16):=by kernel_rfl
theorem np:(Tryz.prog.info? kU).map (fun i=>(i.zero,i.size,i.bytes))=some (some (.agg #[.int .i64 0,.string ⟨#[]⟩]),2,24):=by kernel_rfl
theorem rf:(Tryz.prog.info? wK).map (fun i=>(i.zero,i.size,i.bytes))=some (some (.agg #[.int .i64 0,.int .i64 0,.int .i64 0]),3,24):=by kernel_rfl
theorem qU:(Tryz.prog.info? AN).map (fun i=>(i.zero,i.size,i.bytes))=some (some (.agg #[.int .i64 0,.int .i64 0]),2,16):=by kernel_rfl
def dO (s:ai):Prop:=s.merges.length≤1000000∧s.tokens.length≤1000000∧s.specials.length≤1000000∧s.classes.length≤1000000∧s.joins.length≤1000000
theorem bT {s:ai} (h:s.right=true):dO s:=by
 obtain⟨_,p1,p2,p3,p4,p5⟩:=aH h;have l1:=bx p1;have l2:=bx p2;have l3:=bx p3;have l4:=bx p4;have l5:=bx p5;exact⟨by omega,by omega,by omega,by omega,by omega⟩
abbrev bd:TypeId:=71
abbrev fF:Sl:=⟨none,0,0⟩
abbrev bX:aG:=⟨false,fF,fF,fF,fF,fF⟩
theorem Rw.off {α:Type} {enc:α→List Value} {sz:Nat} {w w7:World} {b:Nat} {a:Option Addr} {xs:List α} (h:Rw enc sz w a xs) (hne:∀j,j≠b→w7.heap[j]? =w.heap[j]?) (hs:w.heap.size≤w7.heap.size) (ha:∀p,a=some p→p.block≠b):Rw enc sz w7 a xs:=by
 intro j x hj;obtain⟨p,hp,hlt,hc⟩:=h j x hj;refine⟨p,hp,by omega,fun k v hk=>?_⟩;rw [←hc k v hk];unfold World.cell?;rw [hne _ (by rw [aq,aq];exact ha p hp)]
theorem dv {P:Nat→Prop} {i:Nat} (h:∀j,j<i→P j) (k:P i):∀j,j<i+1→P j:=by
 intro j hj;rcases Nat.lt_succ_iff_lt_or_eq.1 hj with e |e
 ·exact h j e
 ·subst e;exact k
theorem jb {α:Type} {l m:List α} (hl:l.length=m.length) (h:∀j,j<l.length→∀(hj:j<l.length) (hj':j<m.length),l[j]=m[j]):l=m:=
 List.ext_getElem hl fun j hj hj'=>h j hj hj hj'
structure i_ (s:ai):Prop where
 l1:s.merges.length≤10000
 l2:s.tokens.length≤10000
 l3:s.specials.length≤10000
 l4:s.classes.length≤10000
 l5:s.joins.length≤10000
 m1:∀m∈s.merges,jl m.1∧jl m.2
 m2:∀t∈s.tokens,t.length≤100000
 m3:∀m∈s.specials,jl m.1∧m.2.length≤100000
 m4:∀m∈s.classes,jl m.1∧jl m.2.1∧jl m.2.2
 m5:∀m∈s.joins,jl m.1∧jl m.2
theorem Rw.at {α:Type} {enc:α→List Value} {sz:Nat} {w:World} {a:Option Addr} {xs:List α} (h:Rw enc sz w a xs) {p:Addr} (hp:a=some p) {j:Nat} {x:α} (hj:xs[j]? =some x) (k:Nat) (v:Value) (hk:(enc x)[k]? =some v):w.cell? ((p.add (j*sz)).add k)=some v:=by
 obtain⟨q,hq,_,hc⟩:=h j x hj;rw [hp]at hq;cases hq;exact hc k v hk
theorem dI {w w6:World} {c:Array Value} {T:TypeId} (K:aG→World→Prop) (x:aG) (hblk:w6.heap[w.heap.size]? =some (.cells c T (0,0))) (hc:c.size=6)
  (hR:∀w7,(∀w0,Below w.heap.size w0 w6→Below w.heap.size w0 w7)→(∀j,j≠w.heap.size→w7.heap[j]? =w6.heap[j]?)→K x w7):
  ar w6 (nb w) (fun w7=>
   ∃res0:Bool,∃res1A:Option Addr,∃res1N:Nat,∃res1C:Nat,∃res2A:Option Addr,∃res2N:Nat,∃res2C:Nat,∃res3A:Option Addr,∃res3N:Nat,∃res3C:Nat,∃res4A:Option Addr,∃res4N:Nat,∃res4C:Nat,∃res5A:Option Addr,∃res5N:Nat,∃res5C:Nat,(w7.cell? (nb w)=some (Value.bool res0)∧w7.cell? ((nb w).add 1)=some (Value.slice res1A res1N res1C)∧w7.cell? ((nb w).add 2)=some (Value.slice res2A res2N res2C)∧w7.cell? ((nb w).add 3)=some (Value.slice res3A res3N res3C)∧w7.cell? ((nb w).add 4)=some (Value.slice res4A res4N res4C)∧w7.cell? ((nb w).add 5)=some (Value.slice res5A res5N res5C)∧True)∧
   K ⟨res0,⟨res1A,res1N,res1C⟩,⟨res2A,res2N,res2C⟩,⟨res3A,res3N,res3C⟩,⟨res4A,res4N,res4C⟩,⟨res5A,res5N,res5C⟩⟩ w7)
   [Value.bool x.ranked,Value.slice x.s1.a x.s1.n x.s1.c,Value.slice x.s2.a x.s2.n x.s2.c,Value.slice x.s3.a x.s3.n x.s3.c,Value.slice x.s4.a x.s4.n x.s4.c,Value.slice x.s5.a x.s5.n x.s5.c] 0:=by
 refine dG _ 0 w6 c 0 hblk (by simp [hc]) (by intro v hv;simp at hv;rcases hv with rfl |rfl |rfl |rfl |rfl |rfl<;>rfl) ?_
 intro w7 h7 hne hsz hB;have h7':w7.heap[w.heap.size]? =some (.cells x.cells T (0,0)):=by
  rw [h7];congr 2;simp [gS,hc]
 have c0:w7.cell? (nb w)=some (Value.bool x.ranked):=by have:=aE (j:=0) h7';rw [an]at this;exact this.trans rfl
 exact⟨x.ranked,_,_,_,_,_,_,_,_,_,_,_,_,_,_,_,⟨c0,(aE (j:=1) h7').trans rfl,(aE (j:=2) h7').trans rfl,(aE (j:=3) h7').trans rfl,(aE (j:=4) h7').trans rfl,(aE (j:=5) h7').trans rfl,trivial⟩,hR w7 (fun w0 h=>hB _ w0 (Nat.le_refl _) h) hne⟩
def mu (v:Value):Prop:=(∃k n,v= .int k n)∨∃s,v= .string s
theorem Dy {w:World} {p:Addr} {v:Value} {c:Array Value} {T:TypeId} {fz:Nat×Nat} (h:w.heap[p.block]? =some (.cells c T fz)) (hc:w.cell? p=some v):v∈c:=by
 unfold World.cell? at hc;rw [h]at hc;dsimp only at hc;split at hc
 ·cases hc
 ·exact Array.mem_of_getElem? hc
theorem Rw.past {α:Type} {enc:α→List Value} {sz:Nat} {w w':World} {b:Nat} {c:Array Value} {T:TypeId} {fz:Nat×Nat} {a:Option Addr} {xs:List α} (h:Rw enc sz w a xs) (henc:∀x,∃v,(enc x)[0]? =some v∧mu v) (hb:w.heap[b]? =some (.cells c T fz)) (hc:∀v∈c,¬mu v)
  (hne:∀j,j<w.heap.size→j≠b→w'.heap[j]? =w.heap[j]?) (hs:w.heap.size≤w'.heap.size):Rw enc sz w' a xs:=by
 intro j x hj;obtain⟨p,hp,hlt,hcc⟩:=h j x hj;refine⟨p,hp,by omega,fun k v hk=>?_⟩;have hpb:p.block≠b:=by
  intro e;obtain⟨v0,h0,hsol⟩:=henc x;have:=hcc 0 v0 h0;exact hc v0 (Dy (by rw [aq,aq,e];exact hb) this) hsol
 rw [←hcc k v hk];unfold World.cell?;rw [hne _ (by rw [aq,aq];exact hlt) (by rw [aq,aq];exact hpb)]
theorem eZ (k:IntKind) (n:Int):mu (.int k n):=.inl ⟨k,n,rfl⟩
theorem aM.past {w w':World} {b:Nat} {c:Array Value} {T:TypeId} {fz:Nat×Nat} {x:aG} {s:ai} (h:aM w x s) (hb:w.heap[b]? =some (.cells c T fz)) (hc:∀v∈c,¬mu v)
  (hne:∀j,j<w.heap.size→j≠b→w'.heap[j]? =w.heap[j]?) (hs:w.heap.size≤w'.heap.size):aM w' x s:=
 ⟨h.ranked,h.n1,h.r1.past (fun m=>⟨_,rfl,eZ _ _⟩) hb hc hne hs,h.n2,h.r2.past (fun m=>⟨_,rfl,.inr ⟨_,rfl⟩⟩) hb hc hne hs,h.n3,h.r3.past (fun m=>⟨_,rfl,eZ _ _⟩) hb hc hne hs,
  h.n4,h.r4.past (fun m=>⟨_,rfl,eZ _ _⟩) hb hc hne hs,h.n5,h.r5.past (fun m=>⟨_,rfl,eZ _ _⟩) hb hc hne hs⟩
structure HI (x:aG):Prop where
 k1:jf x.s1
 k2:jf x.s2
 k3:jf x.s3
 k4:jf x.s4
 k5:jf x.s5
theorem Rw.flat {α:Type} {enc:α→List Value} {sz:Nat} {w:World} {p:Addr} {xs:List α} (h:Rw enc sz w (some p) xs) (hsz:∀x,(enc x).length=sz) (h0:0<sz) (i:Nat) (u:Value) (hi:(xs.flatMap enc)[i]? =some u):w.cell? (p.add i)=some u:=by
 have hlt:=(List.getElem?_eq_some_iff.1 hi).1;rw [bF hsz]at hlt;have hj:i/sz<xs.length:=Nat.div_lt_of_lt_mul (by rw [Nat.mul_comm];exact hlt);have hk:i%sz<sz:=Nat.mod_lt _ h0;have hsplit:i/sz*sz+i%sz=i:=by rw [Nat.mul_comm];exact Nat.div_add_mod i sz
 have hg:=j_ hsz xs (i/sz) _ (List.getElem?_eq_getElem hj) (i%sz) hk;rw [hsplit,hi]at hg;have:=h.at rfl (List.getElem?_eq_getElem hj) (i%sz) u hg.symm;rw [Addr.add_add,hsplit]at this;exact this
theorem eD {α:Type} {enc:α→List Value} {sz:Nat} (hsz:∀x,(enc x).length=sz) (h0:0<sz) (h1:∀x,∀u∈enc x,u.oneCell'=true) (t e:TypeId) {z:Value} {bytes:Nat} (ht:Tryz.prog.underlying t=some (.slice e)) (hi:(Tryz.prog.info? e).map (fun i=>(i.zero,i.size,i.bytes))=some (some z,sz,bytes)) (hzs:z.cells.size=sz)
  (w8:World) (src:Sl) (xs:List α) (hsrc:jf src) (hr:Rw enc sz w8 src.a xs) (hn:src.n=xs.length) (hb:src.n*bytes≤140737488355328) (hN:src.n≤140737488355328):∀w18,w18=w8.alloc (.cells #[] e)→
  ∃A C w19,(Builtin.append_ #[t,t] t #[.slice (some (nb w8)) 0 0,src.v]).run Tryz.prog w18= .ok (.slice A src.n C) w19∧w19.ownsRow w8.heap.size e sz (.slice A src.n C) src.n (xs.flatMap enc)∧Below w8.heap.size w8 w19:=by
 rintro w18 rfl;have hB:=ag w8 (.cells #[] e);have hown:(w8.alloc (.cells #[] e)).ownsRow w8.heap.size e sz (.slice (some (nb w8)) 0 0) 0 []:=⟨by simp,.inr ⟨w8.heap.size,0,_,rfl,Nat.le_refl _,ao w8 _,Nat.le_refl _,by decide,by simp,by simp⟩⟩;obtain⟨A,C,w19,h2,h3,h4,_⟩:=lO (P:=Tryz.prog) t e ht hi hzs h0 hown src hsrc (xs.flatMap enc) (by rw [bF hsz,hn]) (by
  intro a ha j u hj;have hr':=hr.on hB;rw [ha]at hr';exact hr'.flat hsz h0 j u hj) (by
  intro u hu;obtain⟨x,_,hx⟩:=List.mem_flatMap.1 hu;exact h1 x u hx) (by rw [Nat.zero_add];exact hb) (by rw [Nat.zero_add];exact hN) hB.size
 rw [Nat.zero_add]at h2 h3;exact⟨A,C,w19,h2,h3,h4 w8 hB⟩
theorem jR {α:Type} {enc:α→List Value} {sz:Nat} (hsz:∀x,(enc x).length=sz) (h0:0<sz) (h1:∀x,∀u∈enc x,u.oneCell'=true) (t e:TypeId) {z:Value} {bytes:Nat} (ht:Tryz.prog.underlying t=some (.slice e)) (hi:(Tryz.prog.info? e).map (fun i=>(i.zero,i.size,i.bytes))=some (some z,sz,bytes)) (hzs:z.cells.size=sz)
  {B:Nat} {w21:World} {A:Option Addr} {N C:Nat} {xs:List α} (hown:w21.ownsRow B e sz (.slice A N C) N (xs.flatMap enc)) (m:α) (hB:B≤w21.heap.size) (hb:(N+1)*bytes≤140737488355328) (hN:N+1≤140737488355328):∀w22,w22=w21.alloc (.cells (enc m).toArray e)→
  ∃A' C' w23,(Builtin.append_ #[t,t] t #[.slice A N C,.slice (some (nb w21)) 1 1]).run Tryz.prog w22= .ok (.slice A' (N+1) C') w23∧w23.ownsRow B e sz (.slice A' (N+1) C') (N+1) ((xs++ [m]).flatMap enc)∧(∀w0,Below B w0 w21→Below B w0 w23)∧(∃a,A'=some a):=by
 rintro w22 rfl;obtain⟨A',C',w23,hr,hown',hg,_⟩:=eG (P:=Tryz.prog) t e ht hi hzs h0 hown (enc m) (hsz m) (h1 m) hb hN hB;refine⟨A',C',w23,hr,by simpa using hown',fun w0 h=>di h hown hg hB,?_⟩;rcases hown'.2 with⟨h,_⟩ |⟨g,cap,cur,h,_⟩
 ·cases h
 ·cases h;exact⟨_,rfl⟩
theorem dD {w2:World} {k:World→Prop} (x:aG) (w3:World) (hw3:w3=w2.alloc (.cells bX.cells bd)) (hk:∀w4,w4.heap[w2.heap.size]? =some (.cells x.cells bd (0,0))→Below w2.heap.size w2 w4→k w4):
  ar w3 (nb w2) k [Value.bool x.ranked,Value.slice x.s1.a x.s1.n x.s1.c,Value.slice x.s2.a x.s2.n x.s2.c,Value.slice x.s3.a x.s3.n x.s3.c,Value.slice x.s4.a x.s4.n x.s4.c,Value.slice x.s5.a x.s5.n x.s5.c] 0:=by
 refine aJ [.bool false,.slice none 0 0,.slice none 0 0,.slice none 0 0,.slice none 0 0,.slice none 0 0] [.bool x.ranked,x.s1.v,x.s2.v,x.s3.v,x.s4.v,x.s5.v] rfl (by intro v hv;simp at hv;rcases hv with rfl |rfl |rfl |rfl |rfl |rfl<;>rfl) w3 hw3 ?_
 intro w4 h4 _ hB;exact hk w4 h4 hB
theorem aV {w:World} {b:Nat} {x:aG} {T:TypeId} {fz:Nat×Nat} (h:w.heap[b]? =some (.cells x.cells T fz)):
  w.cell? ⟨b,0,none⟩=some (Value.bool x.ranked)∧w.cell? ((⟨b,0,none⟩:Addr).add 1)=some x.s1.v∧w.cell? ((⟨b,0,none⟩:Addr).add 2)=some x.s2.v∧w.cell? ((⟨b,0,none⟩:Addr).add 3)=some x.s3.v∧w.cell? ((⟨b,0,none⟩:Addr).add 4)=some x.s4.v∧w.cell? ((⟨b,0,none⟩:Addr).add 5)=some x.s5.v∧True:=by
 have hc:∀j,w.cell? ((⟨b,0,none⟩:Addr).add j)=x.cells[j]? :=fun j=>by rw [aA,Nat.zero_add,cY h]
 exact⟨by have:=hc 0;rw [an]at this;exact this,hc 1,hc 2,hc 3,hc 4,hc 5,trivial⟩
theorem Below.keeps {B:Nat} {w w':World} (h:Below B w w') {b:Nat} (hb:b<B) {o:Obj} (ho:w.heap[b]? =some o):w'.heap[b]? =some o:=by rw [h.block b hb,ho]
theorem ah {w w':World} (h:Below w.heap.size w w') {b:Nat} {o:Obj} (ho:w.heap[b]? =some o):w'.heap[b]? =some o:=by rw [h.block b (Array.getElem?_eq_some_iff.1 ho).1,ho]
section
variable {H:Type} {enc0:TypeId×Value→H} {w:World} {base:Nat} {spare:Nat→Bool} {held:Bool}
theorem nK {e:TypeId} {f0 f1:Field} (he:Tryz.prog.underlying e=some (.struct #[f0,f1])) (o0:f0.offset=0) (o1:f1.offset=1) (t0:Tryz.prog.underlying f0.type=some (.int .i64)) (t1:Tryz.prog.underlying f1.type=some (.int .i64)) (c0:Tryz.prog.cellsOf f0.type=1) (c1:Tryz.prog.cellsOf f1.type=1) (hc:Tryz.prog.cellsOf e=2):
  ∀n cs' y,DataW.trod enc0 Tryz.prog w base spare held n e cs'=some y→∃m:Int×Int,cs'=aD m:=by
 intro n cs' y h;obtain⟨y0,y1,k,_,hl,h0,h1⟩:=trod_struct2 he h;rw [o0,c0]at h0;rw [o1,c1]at h1;rw [hc]at hl
 match cs',hl with
 | [a,b],_=>
  obtain⟨i,hi,_⟩:=DataW.trod_int t0 h0;obtain⟨j,hj,_⟩:=DataW.trod_int t1 h1;simp at hi hj;subst hi hj;exact⟨(i,j),rfl⟩
theorem mw {e:TypeId} {f0 f1:Field} (he:Tryz.prog.underlying e=some (.struct #[f0,f1])) (o0:f0.offset=0) (o1:f1.offset=1) (t0:Tryz.prog.underlying f0.type=some (.int .i64)) (t1:Tryz.prog.underlying f1.type=some .string) (c0:Tryz.prog.cellsOf f0.type=1) (c1:Tryz.prog.cellsOf f1.type=1) (hc:Tryz.prog.cellsOf e=2):
  ∀n cs' y,DataW.trod enc0 Tryz.prog w base spare held n e cs'=some y→∃m:Int×Bs,cs'=av m:=by
 intro n cs' y h;obtain⟨y0,y1,k,_,hl,h0,h1⟩:=trod_struct2 he h;rw [o0,c0]at h0;rw [o1,c1]at h1;rw [hc]at hl
 match cs',hl with
 | [a,b],_=>
  obtain⟨i,hi,_⟩:=DataW.trod_int t0 h0;obtain⟨j,hj,_⟩:=DataW.trod_string t1 h1;simp at hi hj;subst hi hj;exact⟨(i,j.data.toList),by simp [av, ←t']⟩
theorem pH {e:TypeId} {f0 f1 f2:Field} (he:Tryz.prog.underlying e=some (.struct #[f0,f1,f2])) (o0:f0.offset=0) (o1:f1.offset=1) (o2:f2.offset=2) (t0:Tryz.prog.underlying f0.type=some (.int .i64)) (t1:Tryz.prog.underlying f1.type=some (.int .i64)) (t2:Tryz.prog.underlying f2.type=some (.int .i64)) (c0:Tryz.prog.cellsOf f0.type=1) (c1:Tryz.prog.cellsOf f1.type=1) (c2:Tryz.prog.cellsOf f2.type=1) (hc:Tryz.prog.cellsOf e=3):
  ∀n cs' y,DataW.trod enc0 Tryz.prog w base spare held n e cs'=some y→∃m:Int×Int×Int,cs'=aZ m:=by
 intro n cs' y h;obtain⟨xs,k,_,_,hl,hlen,hF⟩:=DataW.trod_struct he h;have h0:=hF 0 f0 rfl;have h1:=hF 1 f1 rfl;have h2:=hF 2 f2 rfl;rw [o0,c0]at h0;rw [o1,c1]at h1;rw [o2,c2]at h2;rw [hc]at hl
 match cs',hl,xs,hlen with
 | [a,b,c],_,[y0,y1,y2],_=>
  obtain⟨i,hi,_⟩:=DataW.trod_int t0 h0;obtain⟨j,hj,_⟩:=DataW.trod_int t1 h1;obtain⟨k,hk,_⟩:=DataW.trod_int t2 h2;simp at hi hj hk;subst hi hj hk;exact⟨(i,j,k),rfl⟩
theorem DL:∀n cs' y,DataW.trod enc0 Tryz.prog w base spare held n bE cs'=some y→∃m:Bs,cs'=be m:=by
 intro n cs' y h;obtain⟨s,rfl,_⟩:=DataW.trod_string iW h;exact⟨s.data.toList,by simp [be, ←t']⟩
theorem BP {b0:Nat} {v:Value} {d:DataW H} {p:List MemPlace} (hv:Value.okWide Tryz.prog w .any b0 bd v) (h:DataW.Trod enc0 Tryz.prog w base spare held bd v d p):∃(x:aG) (s:ai),v=x.v∧aM w x s:=by
 obtain⟨cs,rfl,hsz⟩:=okWide_struct Tryz.underlying71 hv;rw [show Tryz.prog.cellsOf bd=6 by kernel_rfl]at hsz;obtain⟨fuel,hf⟩:=h;obtain⟨xs,n,_,_,_,hlen,hF⟩:=DataW.trod_struct Tryz.underlying71 hf;have h0:DataW.trod enc0 Tryz.prog w base spare held n 4 ((cs.toList.drop 0).take (Tryz.prog.cellsOf 4))=xs[0]? :=hF 0 _ rfl;have h1:DataW.trod enc0 Tryz.prog w base spare held n 33 ((cs.toList.drop 1).take (Tryz.prog.cellsOf 33))=xs[1]? :=hF 1 _ rfl;have h2:DataW.trod enc0 Tryz.prog w base spare held n 32 ((cs.toList.drop 2).take (Tryz.prog.cellsOf 32))=xs[2]? :=hF 2 _ rfl;have h3:DataW.trod enc0 Tryz.prog w base spare held n 25 ((cs.toList.drop 3).take (Tryz.prog.cellsOf 25))=xs[3]? :=hF 3 _ rfl;have h4:DataW.trod enc0 Tryz.prog w base spare held n 23 ((cs.toList.drop 4).take (Tryz.prog.cellsOf 23))=xs[4]? :=hF 4 _ rfl;have h5:DataW.trod enc0 Tryz.prog w base spare held n 24 ((cs.toList.drop 5).take (Tryz.prog.cellsOf 24))=xs[5]? :=hF 5 _ rfl;rw [show Tryz.prog.cellsOf 4=1 by kernel_rfl]at h0;rw [show Tryz.prog.cellsOf 33=1 by kernel_rfl]at h1;rw [show Tryz.prog.cellsOf 32=1 by kernel_rfl]at h2;rw [show Tryz.prog.cellsOf 25=1 by kernel_rfl]at h3;rw [show Tryz.prog.cellsOf 23=1 by kernel_rfl]at h4;rw [show Tryz.prog.cellsOf 24=1 by kernel_rfl]at h5;have hl6:cs.toList.length=6:=by simpa using hsz
 obtain⟨l,hl⟩:∃l,cs.toList=l:=⟨_,rfl⟩;obtain rfl:cs=l.toArray:=by rw [←hl]
 rw [hl]at h0 h1 h2 h3 h4 h5 hl6
 match l,hl6,xs,hlen with
 | [a0,a1,a2,a3,a4,a5],_,[y0,y1,y2,y3,y4,y5],_=>
  obtain⟨rk,hr,_⟩:=DataW.trod_bool Tryz.underlying4 h0;obtain⟨s1,l1,e1,n1,_,_,_,r1⟩:=dJ (enc:=aD) (sz:=2) lU (by kernel_rfl) (fun _=>rfl) (Nat.succ_pos _) (nK Tryz.underlying85 rfl rfl Tryz.underlying3 Tryz.underlying3 (by kernel_rfl) (by kernel_rfl) (by kernel_rfl)) h1;obtain⟨s2,l2,e2,n2,_,_,_,r2⟩:=dJ (enc:=be) (sz:=1) fp (by kernel_rfl) (fun _=>rfl) (Nat.succ_pos _) DL h2;obtain⟨s3,l3,e3,n3,_,_,_,r3⟩:=dJ (enc:=av) (sz:=2) jZ (by kernel_rfl) (fun _=>rfl) (Nat.succ_pos _) (mw Tryz.underlying87 rfl rfl Tryz.underlying3 iW (by kernel_rfl) (by kernel_rfl) (by kernel_rfl)) h3;obtain⟨s4,l4,e4,n4,_,_,_,r4⟩:=dJ (enc:=aZ) (sz:=3) lL (by kernel_rfl) (fun _=>rfl) (Nat.succ_pos _) (pH Tryz.underlying89 rfl rfl rfl Tryz.underlying3 Tryz.underlying3 Tryz.underlying3 (by kernel_rfl) (by kernel_rfl) (by kernel_rfl) (by kernel_rfl)) h4;obtain⟨s5,l5,e5,n5,_,_,_,r5⟩:=dJ (enc:=aD) (sz:=2) lF (by kernel_rfl) (fun _=>rfl) (Nat.succ_pos _) (nK Tryz.underlying170 rfl rfl Tryz.underlying3 Tryz.underlying3 (by kernel_rfl) (by kernel_rfl) (by kernel_rfl)) h5;simp at hr e1 e2 e3 e4 e5;subst hr e1 e2 e3 e4 e5;exact⟨⟨rk,s1,s2,s3,s4,s5⟩,⟨rk,l1,l2,l3,l4,l5⟩,rfl,rfl,n1,r1,n2,r2,n3,r3,n4,r4,n5,r5⟩
end
open Go Go.Value
def Lw (a:ByteArray) (w:World) (R:RW):Prop:=
 ∀b,b=w.alloc (.cells #[bool false,slice none 0 0,slice none 0 0,slice none 0 0,slice none 0 0,slice none 0 0] 71)→
 CP 92 #[string a,int .u8 10] b (fun c d=>
 ∃f g h,c= .returned (slice f g h)∧
 ∀i,i=d.alloc (.cells #[bool false,slice none 0 0,slice none 0 0,slice none 0 0,slice none 0 0,slice none 0 0] 71)→
 ar i (nb d) (fun j=>
 ∀k:KW,(∀(l m:Int) (n:World),(Ar .i64 (l+1) (fun o=>
 aa (decide (o< (g:Int)))
 (ae f (fun p=>
 (0:Int)≤l∧l< (g:Int)∧
 ∃q,n.cell? (p.add (l.toNat*1))=some (string q)∧
 CP 92 #[string q,int .u8 32] n (fun r s=>
 ∃t x y,r= .returned (slice t x y)∧
 ∃z a1 b1 c1 d1 e1 f1 g1 h1 i1 j1 k1 l1 m1 n1 o1,(s.cell? (nb d)=some (bool z)∧s.cell? ((nb d).add 1)=some (slice a1 b1 c1)∧s.cell? ((nb d).add 2)=some (slice d1 e1 f1)∧s.cell? ((nb d).add 3)=some (slice g1 h1 i1)∧s.cell? ((nb d).add 4)=some (slice j1 k1 l1)∧s.cell? ((nb d).add 5)=some (slice m1 n1 o1)∧True)∧
 ∀p1,p1=s.alloc (.cells #[bool false,slice none 0 0,slice none 0 0,slice none 0 0,slice none 0 0,slice none 0 0] 71)→
 ar p1 (nb s) (fun q1=>
 ae t (fun r1=>
 (0:Int)≤0∧0< (x:Int)∧
 ∃s1,q1.cell? (r1.add ((0:Int).toNat*1))=some (string s1)∧
 ∀t1:KW,(∀u1:World,(∃v1 x1 y1 z1 a2 b2 c2 d2 e2 f2 g2 h2 i2 j2 k2 l2,(u1.cell? (nb s)=some (bool v1)∧u1.cell? ((nb s).add 1)=some (slice x1 y1 z1)∧u1.cell? ((nb s).add 2)=some (slice a2 b2 c2)∧u1.cell? ((nb s).add 3)=some (slice d2 e2 f2)∧u1.cell? ((nb s).add 4)=some (slice g2 h2 i2)∧u1.cell? ((nb s).add 5)=some (slice j2 k2 l2)∧True)∧
 CP 95 #[agg #[bool v1,slice x1 y1 z1,slice a2 b2 c2,slice d2 e2 f2,slice g2 h2 i2,slice j2 k2 l2]] u1 (fun m2 n2=>
 ∃o2 p2 q2,m2= .returned (slice o2 p2 q2)∧
 ∀r2,r2=n2.drew→
 ∃s2 t2 u2 v2 x2 y2 z2 a3 b3 c3 d3 e3 f3 g3 h3 i3,(r2.cell? (nb s)=some (bool s2)∧r2.cell? ((nb s).add 1)=some (slice t2 u2 v2)∧r2.cell? ((nb s).add 2)=some (slice x2 y2 z2)∧r2.cell? ((nb s).add 3)=some (slice a3 b3 c3)∧r2.cell? ((nb s).add 4)=some (slice d3 e3 f3)∧r2.cell? ((nb s).add 5)=some (slice g3 h3 i3)∧True)∧
 CP 96 #[agg #[bool s2,slice t2 u2 v2,slice x2 y2 z2,slice a3 b3 c3,slice d3 e3 f3,slice g3 h3 i3]] r2 (fun j3 k3=>
 ∃l3,j3= .returned (bool l3)∧
 aa (!l3)
 (Ar .i64 (l+1) (fun m3=>
 ar k3 (nb w) (fun n3=>
 ∃o3 p3 q3 r3 s3 t3 u3 v3 x3 y3 z3 a4 b4 c4 d4 e4,(n3.cell? (nb w)=some (bool o3)∧n3.cell? ((nb w).add 1)=some (slice p3 q3 r3)∧n3.cell? ((nb w).add 2)=some (slice s3 t3 u3)∧n3.cell? ((nb w).add 3)=some (slice v3 x3 y3)∧n3.cell? ((nb w).add 4)=some (slice z3 a4 b4)∧n3.cell? ((nb w).add 5)=some (slice c4 d4 e4)∧True)∧
 R (tuple #[agg #[bool o3,slice p3 q3 r3,slice s3 t3 u3,slice v3 x3 y3,slice z3 a4 b4,slice c4 d4 e4],int .i64 m3]) n3) [bool false,slice none 0 0,slice none 0 0,slice none 0 0,slice none 0 0,slice none 0 0] 0))
 (Ar .i64 (l+1) (fun f4=>
 aa ((p2:Int) != f4)
 (Ar .i64 (l+1) (fun g4=>
 ar k3 (nb w) (fun h4=>
 ∃i4 j4 k4 l4 m4 n4 o4 p4 q4 r4 s4 t4 u4 v4 x4 y4,(h4.cell? (nb w)=some (bool i4)∧h4.cell? ((nb w).add 1)=some (slice j4 k4 l4)∧h4.cell? ((nb w).add 2)=some (slice m4 n4 o4)∧h4.cell? ((nb w).add 3)=some (slice p4 q4 r4)∧h4.cell? ((nb w).add 4)=some (slice s4 t4 u4)∧h4.cell? ((nb w).add 5)=some (slice v4 x4 y4)∧True)∧
 R (tuple #[agg #[bool i4,slice j4 k4 l4,slice m4 n4 o4,slice p4 q4 r4,slice s4 t4 u4,slice v4 x4 y4],int .i64 g4]) h4) [bool false,slice none 0 0,slice none 0 0,slice none 0 0,slice none 0 0,slice none 0 0] 0))
 (ae o2 (fun z4=>
 (0:Int)≤l∧l< (p2:Int)∧
 ∃a5,k3.cell? (z4.add (l.toNat*1))=some (string a5)∧
 ae f (fun b5=>
 (0:Int)≤l∧l< (g:Int)∧
 ∃c5,k3.cell? (b5.add (l.toNat*1))=some (string c5)∧
 aa (!(a5.toList==c5.toList))
 (Ar .i64 (l+1) (fun d5=>
 ar k3 (nb w) (fun e5=>
 ∃f5 g5 h5 i5 j5 k5 l5 m5 n5 o5 p5 q5 r5 s5 t5 u5,(e5.cell? (nb w)=some (bool f5)∧e5.cell? ((nb w).add 1)=some (slice g5 h5 i5)∧e5.cell? ((nb w).add 2)=some (slice j5 k5 l5)∧e5.cell? ((nb w).add 3)=some (slice m5 n5 o5)∧e5.cell? ((nb w).add 4)=some (slice p5 q5 r5)∧e5.cell? ((nb w).add 5)=some (slice s5 t5 u5)∧True)∧
 R (tuple #[agg #[bool f5,slice g5 h5 i5,slice j5 k5 l5,slice m5 n5 o5,slice p5 q5 r5,slice s5 t5 u5],int .i64 d5]) e5) [bool false,slice none 0 0,slice none 0 0,slice none 0 0,slice none 0 0,slice none 0 0] 0))
 (∃v5 x5 y5 z5 a6 b6 c6 d6 e6 f6 g6 h6 i6 j6 k6 l6,(k3.cell? (nb s)=some (bool v5)∧k3.cell? ((nb s).add 1)=some (slice x5 y5 z5)∧k3.cell? ((nb s).add 2)=some (slice a6 b6 c6)∧k3.cell? ((nb s).add 3)=some (slice d6 e6 f6)∧k3.cell? ((nb s).add 4)=some (slice g6 h6 i6)∧k3.cell? ((nb s).add 5)=some (slice j6 k6 l6)∧True)∧
 ar k3 (nb d) (fun m6=>
 Ar .i64 (l+1) (fun n6=>
 k [int .i64 n6,int .i64 m] m6)) [bool v5,slice x5 y5 z5,slice a6 b6 c6,slice d6 e6 f6,slice g6 h6 i6,slice j6 k6 l6] 0)))))))))→t1 [] u1)→
 aa (s1.toList==(⟨#[118,111,99,97,98]⟩:ByteArray).toList)
 (ae f (fun o6=>
 (0:Int)≤l∧l< (g:Int)∧
 ∃p6,q1.cell? (o6.add (l.toNat*1))=some (string p6)∧
 (bool (p6.toList==(⟨#[118,111,99,97,98,32,114,97,110,107,115]⟩:ByteArray).toList)).oneCell'=true∧(∃u,q1.cell? ((nb s).add 0)=some u)∧q1.frozen? ((nb s).add 0)=false∧
 ∀q6,q6=(q1.setCell ((nb s).add 0) (bool (p6.toList==(⟨#[118,111,99,97,98,32,114,97,110,107,115]⟩:ByteArray).toList)))→
 t1 [] q6))
 (aa (s1.toList==(⟨#[109,101,114,103,101]⟩:ByteArray).toList)
 (∀r6,r6=q1.alloc (.cells #[] 85)→
 ∃s6 t6 u6,r6.cell? ((nb d).add 1)=some (slice s6 t6 u6)∧
 ∃v6 x6 y6 z6,(Builtin.append_ #[33,33] 33 #[slice (some (nb q1)) 0 0,slice s6 t6 u6]).run Tryz.prog r6= .ok (slice v6 x6 y6) z6∧
 CP 93 #[slice t x y,int .i64 1] z6 (fun a7 b7=>
 ∃c7,a7= .returned (int .i64 c7)∧
 CP 93 #[slice t x y,int .i64 2] b7 (fun d7 e7=>
 ∃f7,d7= .returned (int .i64 f7)∧
 ∀g7,g7=e7.alloc (.cells #[int .i64 c7,int .i64 f7] 85)→
 ∃h7 i7 j7 k7,(Builtin.append_ #[33,33] 33 #[slice v6 x6 y6,slice (some (nb e7)) 1 1]).run Tryz.prog g7= .ok (slice h7 i7 j7) k7∧
 (slice h7 i7 j7).oneCell'=true∧(∃u,k7.cell? ((nb s).add 1)=some u)∧k7.frozen? ((nb s).add 1)=false∧
 ∀l7,l7=(k7.setCell ((nb s).add 1) (slice h7 i7 j7))→
 t1 [] l7)))
 (aa (s1.toList==(⟨#[116,111,107,101,110]⟩:ByteArray).toList)
 (∀m7,m7=q1.alloc (.cells #[] 9)→
 ∃n7 o7 p7,m7.cell? ((nb d).add 2)=some (slice n7 o7 p7)∧
 ∃q7 r7 s7 t7,(Builtin.append_ #[32,32] 32 #[slice (some (nb q1)) 0 0,slice n7 o7 p7]).run Tryz.prog m7= .ok (slice q7 r7 s7) t7∧
 CP 94 #[slice t x y,int .i64 1] t7 (fun u7 v7=>
 ∃x7,u7= .returned (string x7)∧
 ∀y7,y7=v7.alloc (.cells #[string x7] 9)→
 ∃z7 a8 b8 c8,(Builtin.append_ #[32,32] 32 #[slice q7 r7 s7,slice (some (nb v7)) 1 1]).run Tryz.prog y7= .ok (slice z7 a8 b8) c8∧
 (slice z7 a8 b8).oneCell'=true∧(∃u,c8.cell? ((nb s).add 2)=some u)∧c8.frozen? ((nb s).add 2)=false∧
 ∀d8,d8=(c8.setCell ((nb s).add 2) (slice z7 a8 b8))→
 t1 [] d8))
 (aa (s1.toList==(⟨#[115,112,101,99,105,97,108]⟩:ByteArray).toList)
 (∀e8,e8=q1.alloc (.cells #[] 87)→
 ∃f8 g8 h8,e8.cell? ((nb d).add 3)=some (slice f8 g8 h8)∧
 ∃i8 j8 k8 l8,(Builtin.append_ #[25,25] 25 #[slice (some (nb q1)) 0 0,slice f8 g8 h8]).run Tryz.prog e8= .ok (slice i8 j8 k8) l8∧
 CP 93 #[slice t x y,int .i64 1] l8 (fun m8 n8=>
 ∃o8,m8= .returned (int .i64 o8)∧
 CP 94 #[slice t x y,int .i64 2] n8 (fun p8 q8=>
 ∃r8,p8= .returned (string r8)∧
 ∀s8,s8=q8.alloc (.cells #[int .i64 o8,string r8] 87)→
 ∃t8 v8 x8 y8,(Builtin.append_ #[25,25] 25 #[slice i8 j8 k8,slice (some (nb q8)) 1 1]).run Tryz.prog s8= .ok (slice t8 v8 x8) y8∧
 (slice t8 v8 x8).oneCell'=true∧(∃u,y8.cell? ((nb s).add 3)=some u)∧y8.frozen? ((nb s).add 3)=false∧
 ∀z8,z8=(y8.setCell ((nb s).add 3) (slice t8 v8 x8))→
 t1 [] z8)))
 (aa (s1.toList==(⟨#[99,108,97,115,115]⟩:ByteArray).toList)
 (∀a9,a9=q1.alloc (.cells #[] 89)→
 ∃b9 c9 d9,a9.cell? ((nb d).add 4)=some (slice b9 c9 d9)∧
 ∃e9 f9 g9 h9,(Builtin.append_ #[23,23] 23 #[slice (some (nb q1)) 0 0,slice b9 c9 d9]).run Tryz.prog a9= .ok (slice e9 f9 g9) h9∧
 CP 93 #[slice t x y,int .i64 1] h9 (fun i9 j9=>
 ∃k9,i9= .returned (int .i64 k9)∧
 CP 93 #[slice t x y,int .i64 2] j9 (fun l9 m9=>
 ∃n9,l9= .returned (int .i64 n9)∧
 CP 93 #[slice t x y,int .i64 3] m9 (fun o9 p9=>
 ∃q9,o9= .returned (int .i64 q9)∧
 ∀r9,r9=p9.alloc (.cells #[int .i64 k9,int .i64 n9,int .i64 q9] 89)→
 ∃s9 t9 u9 v9,(Builtin.append_ #[23,23] 23 #[slice e9 f9 g9,slice (some (nb p9)) 1 1]).run Tryz.prog r9= .ok (slice s9 t9 u9) v9∧
 (slice s9 t9 u9).oneCell'=true∧(∃u,v9.cell? ((nb s).add 4)=some u)∧v9.frozen? ((nb s).add 4)=false∧
 ∀x9,x9=(v9.setCell ((nb s).add 4) (slice s9 t9 u9))→
 t1 [] x9))))
 (aa (s1.toList==(⟨#[106,111,105,110]⟩:ByteArray).toList)
 (∀y9,y9=q1.alloc (.cells #[] 170)→
 ∃z9 a10 b10,y9.cell? ((nb d).add 5)=some (slice z9 a10 b10)∧
 ∃c10 d10 e10 f10,(Builtin.append_ #[24,24] 24 #[slice (some (nb q1)) 0 0,slice z9 a10 b10]).run Tryz.prog y9= .ok (slice c10 d10 e10) f10∧
 CP 93 #[slice t x y,int .i64 1] f10 (fun g10 h10=>
 ∃i10,g10= .returned (int .i64 i10)∧
 CP 93 #[slice t x y,int .i64 2] h10 (fun j10 k10=>
 ∃l10,j10= .returned (int .i64 l10)∧
 ∀m10,m10=k10.alloc (.cells #[int .i64 i10,int .i64 l10] 170)→
 ∃n10 o10 p10 q10,(Builtin.append_ #[24,24] 24 #[slice c10 d10 e10,slice (some (nb k10)) 1 1]).run Tryz.prog m10= .ok (slice n10 o10 p10) q10∧
 (slice n10 o10 p10).oneCell'=true∧(∃u,q10.cell? ((nb s).add 5)=some u)∧q10.frozen? ((nb s).add 5)=false∧
 ∀r10,r10=(q10.setCell ((nb s).add 5) (slice n10 o10 p10))→
 t1 [] r10)))
 (t1 [] q1)))))))) [bool z,slice a1 b1 c1,slice d1 e1 f1,slice g1 h1 i1,slice j1 k1 l1,slice m1 n1 o1] 0)))
 (aa (decide ((g:Int) <2))
 (ar n (nb w) (fun s10=>
 ∃t10 u10 v10 x10 y10 z10 a11 b11 c11 d11 e11 f11 g11 h11 i11 j11,(s10.cell? (nb w)=some (bool t10)∧s10.cell? ((nb w).add 1)=some (slice u10 v10 x10)∧s10.cell? ((nb w).add 2)=some (slice y10 z10 a11)∧s10.cell? ((nb w).add 3)=some (slice b11 c11 d11)∧s10.cell? ((nb w).add 4)=some (slice e11 f11 g11)∧s10.cell? ((nb w).add 5)=some (slice h11 i11 j11)∧True)∧
 R (tuple #[agg #[bool t10,slice u10 v10 x10,slice y10 z10 a11,slice b11 c11 d11,slice e11 f11 g11,slice h11 i11 j11],int .i64 (g:Int)]) s10) [bool false,slice none 0 0,slice none 0 0,slice none 0 0,slice none 0 0,slice none 0 0] 0)
 (Ar .i64 ((g:Int)-1) (fun k11=>
 ae f (fun l11=>
 (0:Int)≤k11∧k11< (g:Int)∧
 ∃m11,n.cell? (l11.add (k11.toNat*1))=some (string m11)∧
 aa (!(m11.toList==(⟨#[]⟩:ByteArray).toList))
 (ar n (nb w) (fun n11=>
 ∃o11 p11 q11 r11 s11 t11 u11 v11 x11 y11 z11 a12 b12 c12 d12 e12,(n11.cell? (nb w)=some (bool o11)∧n11.cell? ((nb w).add 1)=some (slice p11 q11 r11)∧n11.cell? ((nb w).add 2)=some (slice s11 t11 u11)∧n11.cell? ((nb w).add 3)=some (slice v11 x11 y11)∧n11.cell? ((nb w).add 4)=some (slice z11 a12 b12)∧n11.cell? ((nb w).add 5)=some (slice c12 d12 e12)∧True)∧
 R (tuple #[agg #[bool o11,slice p11 q11 r11,slice s11 t11 u11,slice v11 x11 y11,slice z11 a12 b12,slice c12 d12 e12],int .i64 (g:Int)]) n11) [bool false,slice none 0 0,slice none 0 0,slice none 0 0,slice none 0 0,slice none 0 0] 0)
 (∃f12 g12 h12 i12 j12 k12 l12 m12 n12 o12 p12 q12 r12 s12 t12 u12,(n.cell? (nb d)=some (bool f12)∧n.cell? ((nb d).add 1)=some (slice g12 h12 i12)∧n.cell? ((nb d).add 2)=some (slice j12 k12 l12)∧n.cell? ((nb d).add 3)=some (slice m12 n12 o12)∧n.cell? ((nb d).add 4)=some (slice p12 q12 r12)∧n.cell? ((nb d).add 5)=some (slice s12 t12 u12)∧True)∧
 ar n (nb w) (fun v12=>
 ∃x12 y12 z12 a13 b13 c13 d13 e13 f13 g13 h13 i13 j13 k13 l13 m13,(v12.cell? (nb w)=some (bool x12)∧v12.cell? ((nb w).add 1)=some (slice y12 z12 a13)∧v12.cell? ((nb w).add 2)=some (slice b13 c13 d13)∧v12.cell? ((nb w).add 3)=some (slice e13 f13 g13)∧v12.cell? ((nb w).add 4)=some (slice h13 i13 j13)∧v12.cell? ((nb w).add 5)=some (slice k13 l13 m13)∧True)∧
 R (tuple #[agg #[bool x12,slice y12 z12 a13,slice b13 c13 d13,slice e13 f13 g13,slice h13 i13 j13,slice k13 l13 m13],int .i64 0]) v12) [bool f12,slice g12 h12 i12,slice j12 k12 l12,slice m12 n12 o12,slice p12 q12 r12,slice s12 t12 u12] 0)))))))→k [int .i64 l,int .i64 m] n)→
 k [int .i64 0,int .i64 0] j) [bool false,slice none 0 0,slice none 0 0,slice none 0 0,slice none 0 0,slice none 0 0] 0)
theorem zF (a:ByteArray) (w:World) (R:RW) (hh:Lw a w R):CR 32 #[string a] w R:=
 aF (fn:=Tryz.f32) (by kernel_rfl) (by kernel_rfl) (by kernel_rfl) (by kernel_rfl) (by kernel_rfl) hh
def LC (a:Bool) (b:OA) (c d:Nat) (f:OA) (g h:Nat) (i:OA) (j k:Nat) (l:OA) (m n:Nat) (o:OA) (p q:Nat) (r:Bool) (s:OA) (t u:Nat) (x:OA) (y z:Nat) (a1:OA) (b1 c1:Nat) (d1:OA) (e1 f1:Nat) (g1:OA) (h1 i1:Nat) (w:World) (R:RW):Prop:=
 ∀j1,j1=w.alloc (.cells #[bool a,slice b c d,slice f g h,slice i j k,slice l m n,slice o p q] 71)→
 ∀k1,k1=j1.alloc (.cells #[bool r,slice s t u,slice x y z,slice a1 b1 c1,slice d1 e1 f1,slice g1 h1 i1] 71)→
 ∃l1,k1.cell? ((nb w).add 0)=some (bool l1)∧
 ∃m1,k1.cell? ((nb j1).add 0)=some (bool m1)∧
 aa (!(l1==m1))
 (R (bool false) k1)
 (∃n1 o1 p1,k1.cell? ((nb w).add 1)=some (slice n1 o1 p1)∧
 ∃q1 r1 s1,k1.cell? ((nb j1).add 1)=some (slice q1 r1 s1)∧
 aa ((o1:Int) != (r1:Int))
 (R (bool false) k1)
 (∃t1 u1 v1,k1.cell? ((nb w).add 2)=some (slice t1 u1 v1)∧
 ∃x1 y1 z1,k1.cell? ((nb j1).add 2)=some (slice x1 y1 z1)∧
 CP 99 #[slice t1 u1 v1,slice x1 y1 z1] k1 (fun a2 b2=>
 ∃c2,a2= .returned (bool c2)∧
 aa (!c2)
 (R (bool false) b2)
 (∃d2 e2 f2,b2.cell? ((nb w).add 3)=some (slice d2 e2 f2)∧
 ∃g2 h2 i2,b2.cell? ((nb j1).add 3)=some (slice g2 h2 i2)∧
 aa ((e2:Int) != (h2:Int))
 (R (bool false) b2)
 (∃j2 k2 l2,b2.cell? ((nb w).add 4)=some (slice j2 k2 l2)∧
 ∃m2 n2 o2,b2.cell? ((nb j1).add 4)=some (slice m2 n2 o2)∧
 aa ((k2:Int) != (n2:Int))
 (R (bool false) b2)
 (∃p2 q2 r2,b2.cell? ((nb w).add 5)=some (slice p2 q2 r2)∧
 ∃s2 t2 u2,b2.cell? ((nb j1).add 5)=some (slice s2 t2 u2)∧
 aa ((q2:Int) != (t2:Int))
 (R (bool false) b2)
 (∀v2:KW,(∀(x2:Int) (y2:Bool) (z2:World),(∃a3 b3 c3,z2.cell? ((nb w).add 1)=some (slice a3 b3 c3)∧
 aa (decide (x2< (b3:Int)))
 (∀d3,d3=z2.drew→
 ∃e3 f3 g3,d3.cell? ((nb w).add 1)=some (slice e3 f3 g3)∧
 ae e3 (fun h3=>
 (0:Int)≤x2∧x2< (f3:Int)∧
 ∃i3 j3,(d3.cell? (h3.add (x2.toNat*2))=some (int .i64 i3)∧d3.cell? ((h3.add (x2.toNat*2)).add 1)=some (int .i64 j3)∧True)∧
 ∃k3 l3 m3,d3.cell? ((nb j1).add 1)=some (slice k3 l3 m3)∧
 ae k3 (fun n3=>
 (0:Int)≤x2∧x2< (l3:Int)∧
 ∃o3 p3,(d3.cell? (n3.add (x2.toNat*2))=some (int .i64 o3)∧d3.cell? ((n3.add (x2.toNat*2)).add 1)=some (int .i64 p3)∧True)∧
 aa (!((i3==o3)&&((j3==p3)&&(true))))
 (R (bool false) d3)
 (Ar .i64 (x2+1) (fun q3=>
 v2 [int .i64 q3,bool y2] d3)))))
 (∀r3:KW,(∀(s3:Int) (t3:Bool) (u3:World),(∃v3 x3 y3,u3.cell? ((nb w).add 3)=some (slice v3 x3 y3)∧
 aa (decide (s3< (x3:Int)))
 (∀z3,z3=u3.drew→
 ∃a4 b4 c4,z3.cell? ((nb w).add 3)=some (slice a4 b4 c4)∧
 ae a4 (fun d4=>
 (0:Int)≤s3∧s3< (b4:Int)∧
 ∃e4 f4,(z3.cell? (d4.add (s3.toNat*2))=some (int .i64 e4)∧z3.cell? ((d4.add (s3.toNat*2)).add 1)=some (string f4)∧True)∧
 ∃g4 h4 i4,z3.cell? ((nb j1).add 3)=some (slice g4 h4 i4)∧
 ae g4 (fun j4=>
 (0:Int)≤s3∧s3< (h4:Int)∧
 ∃k4 l4,(z3.cell? (j4.add (s3.toNat*2))=some (int .i64 k4)∧z3.cell? ((j4.add (s3.toNat*2)).add 1)=some (string l4)∧True)∧
 aa (!((e4==k4)&&((f4.toList==l4.toList)&&(true))))
 (R (bool false) z3)
 (Ar .i64 (s3+1) (fun m4=>
 r3 [int .i64 m4,bool t3] z3)))))
 (∀n4:KW,(∀(o4:Int) (p4:Bool) (q4:World),(∃r4 s4 t4,q4.cell? ((nb w).add 4)=some (slice r4 s4 t4)∧
 aa (decide (o4< (s4:Int)))
 (∀u4,u4=q4.drew→
 ∃v4 x4 y4,u4.cell? ((nb w).add 4)=some (slice v4 x4 y4)∧
 ae v4 (fun z4=>
 (0:Int)≤o4∧o4< (x4:Int)∧
 ∃a5 b5 c5,(u4.cell? (z4.add (o4.toNat*3))=some (int .i64 a5)∧u4.cell? ((z4.add (o4.toNat*3)).add 1)=some (int .i64 b5)∧u4.cell? ((z4.add (o4.toNat*3)).add 2)=some (int .i64 c5)∧True)∧
 ∃d5 e5 f5,u4.cell? ((nb j1).add 4)=some (slice d5 e5 f5)∧
 ae d5 (fun g5=>
 (0:Int)≤o4∧o4< (e5:Int)∧
 ∃h5 i5 j5,(u4.cell? (g5.add (o4.toNat*3))=some (int .i64 h5)∧u4.cell? ((g5.add (o4.toNat*3)).add 1)=some (int .i64 i5)∧u4.cell? ((g5.add (o4.toNat*3)).add 2)=some (int .i64 j5)∧True)∧
 aa (!((a5==h5)&&((b5==i5)&&((c5==j5)&&(true)))))
 (R (bool false) u4)
 (Ar .i64 (o4+1) (fun k5=>
 n4 [int .i64 k5,bool p4] u4)))))
 (∀l5:KW,(∀(m5:Int) (n5:Bool) (o5:World),(∃p5 q5 r5,o5.cell? ((nb w).add 5)=some (slice p5 q5 r5)∧
 aa (decide (m5< (q5:Int)))
 (∀s5,s5=o5.drew→
 ∃t5 u5 v5,s5.cell? ((nb w).add 5)=some (slice t5 u5 v5)∧
 ae t5 (fun x5=>
 (0:Int)≤m5∧m5< (u5:Int)∧
 ∃y5 z5,(s5.cell? (x5.add (m5.toNat*2))=some (int .i64 y5)∧s5.cell? ((x5.add (m5.toNat*2)).add 1)=some (int .i64 z5)∧True)∧
 ∃a6 b6 c6,s5.cell? ((nb j1).add 5)=some (slice a6 b6 c6)∧
 ae a6 (fun d6=>
 (0:Int)≤m5∧m5< (b6:Int)∧
 ∃e6 f6,(s5.cell? (d6.add (m5.toNat*2))=some (int .i64 e6)∧s5.cell? ((d6.add (m5.toNat*2)).add 1)=some (int .i64 f6)∧True)∧
 aa (!((y5==e6)&&((z5==f6)&&(true))))
 (R (bool false) s5)
 (Ar .i64 (m5+1) (fun g6=>
 l5 [int .i64 g6,bool n5] s5)))))
 (R (bool true) o5))→l5 [int .i64 m5,bool n5] o5)→
 l5 [int .i64 0,bool p4] q4))→n4 [int .i64 o4,bool p4] q4)→
 n4 [int .i64 0,bool t3] u3))→r3 [int .i64 s3,bool t3] u3)→
 r3 [int .i64 0,bool y2] z2))→v2 [int .i64 x2,bool y2] z2)→
 v2 [int .i64 0,bool false] b2)))))))
theorem zG (a:Bool) (b:OA) (c d:Nat) (f:OA) (g h:Nat) (i:OA) (j k:Nat) (l:OA) (m n:Nat) (o:OA) (p q:Nat) (r:Bool) (s:OA) (t u:Nat) (x:OA) (y z:Nat) (a1:OA) (b1 c1:Nat) (d1:OA) (e1 f1:Nat) (g1:OA) (h1 i1:Nat) (w:World) (R:RW) (hh:LC a b c d f g h i j k l m n o p q r s t u x y z a1 b1 c1 d1 e1 f1 g1 h1 i1 w R):CR 34 #[agg #[bool a,slice b c d,slice f g h,slice i j k,slice l m n,slice o p q],agg #[bool r,slice s t u,slice x y z,slice a1 b1 c1,slice d1 e1 f1,slice g1 h1 i1]] w R:=
 aF (fn:=Tryz.f34) (by kernel_rfl) (by kernel_rfl) (by kernel_rfl) (by kernel_rfl) (by kernel_rfl) hh
def Lb (a:Bool) (b:OA) (c d:Nat) (f:OA) (g h:Nat) (i:OA) (j k:Nat) (l:OA) (m n:Nat) (o:OA) (p q:Nat) (w:World) (R:RW):Prop:=
 ∀r,r=w.alloc (.cells #[bool a,slice b c d,slice f g h,slice i j k,slice l m n,slice o p q] 71)→
 ∃s t u,r.cell? ((nb w).add 1)=some (slice s t u)∧
 aa (decide ((t:Int)>60))
 (∃x y z,r.cell? ((nb w).add 1)=some (slice x y z)∧
 aa ((y:Int) != 745)
 (R (bool true) r)
 (∃a1 b1 c1,r.cell? ((nb w).add 2)=some (slice a1 b1 c1)∧
 aa (decide ((b1:Int)>60))
 (R (bool true) r)
 (∃d1 e1 f1,r.cell? ((nb w).add 3)=some (slice d1 e1 f1)∧
 aa (decide ((e1:Int)>40))
 (R (bool true) r)
 (∃g1 h1 i1,r.cell? ((nb w).add 4)=some (slice g1 h1 i1)∧
 aa (decide ((h1:Int)>70))
 (R (bool true) r)
 (∃j1 k1 l1,r.cell? ((nb w).add 5)=some (slice j1 k1 l1)∧
 aa (decide ((k1:Int)>70))
 (R (bool true) r)
 (∀m1:KW,(∀(n1:Int) (o1:Bool) (p1:World),(∃q1 r1 s1,p1.cell? ((nb w).add 2)=some (slice q1 r1 s1)∧
 aa (decide (n1< (r1:Int)))
 (∃t1 u1 v1,p1.cell? ((nb w).add 2)=some (slice t1 u1 v1)∧
 ae t1 (fun x1=>
 (0:Int)≤n1∧n1< (u1:Int)∧
 ∃y1,p1.cell? (x1.add (n1.toNat*1))=some (string y1)∧
 aa (decide (((y1.size:Int):Int)>100))
 (R (bool true) p1)
 (Ar .i64 (n1+1) (fun z1=>
 m1 [int .i64 z1,bool o1] p1))))
 (∀a2:KW,(∀(b2:Int) (c2:Bool) (d2:World),(∃e2 f2 g2,d2.cell? ((nb w).add 3)=some (slice e2 f2 g2)∧
 aa (decide (b2< (f2:Int)))
 (∃h2 i2 j2,d2.cell? ((nb w).add 3)=some (slice h2 i2 j2)∧
 ae h2 (fun k2=>
 (0:Int)≤b2∧b2< (i2:Int)∧
 ∃l2,d2.cell? ((k2.add (b2.toNat*2)).add 1)=some (string l2)∧
 aa (decide (((l2.size:Int):Int)>100))
 (R (bool true) d2)
 (Ar .i64 (b2+1) (fun m2=>
 a2 [int .i64 m2,bool c2] d2))))
 (R (bool false) d2))→a2 [int .i64 b2,bool c2] d2)→
 a2 [int .i64 0,bool o1] p1))→m1 [int .i64 n1,bool o1] p1)→
 m1 [int .i64 0,bool false] r))))))
 (∃n2 o2 p2,r.cell? ((nb w).add 2)=some (slice n2 o2 p2)∧
 aa (decide ((o2:Int)>60))
 (R (bool true) r)
 (∃q2 r2 s2,r.cell? ((nb w).add 3)=some (slice q2 r2 s2)∧
 aa (decide ((r2:Int)>40))
 (R (bool true) r)
 (∃t2 u2 v2,r.cell? ((nb w).add 4)=some (slice t2 u2 v2)∧
 aa (decide ((u2:Int)>70))
 (R (bool true) r)
 (∃x2 y2 z2,r.cell? ((nb w).add 5)=some (slice x2 y2 z2)∧
 aa (decide ((y2:Int)>70))
 (R (bool true) r)
 (∀a3:KW,(∀(b3:Int) (c3:Bool) (d3:World),(∃e3 f3 g3,d3.cell? ((nb w).add 2)=some (slice e3 f3 g3)∧
 aa (decide (b3< (f3:Int)))
 (∃h3 i3 j3,d3.cell? ((nb w).add 2)=some (slice h3 i3 j3)∧
 ae h3 (fun k3=>
 (0:Int)≤b3∧b3< (i3:Int)∧
 ∃l3,d3.cell? (k3.add (b3.toNat*1))=some (string l3)∧
 aa (decide (((l3.size:Int):Int)>100))
 (R (bool true) d3)
 (Ar .i64 (b3+1) (fun m3=>
 a3 [int .i64 m3,bool c3] d3))))
 (∀n3:KW,(∀(o3:Int) (p3:Bool) (q3:World),(∃r3 s3 t3,q3.cell? ((nb w).add 3)=some (slice r3 s3 t3)∧
 aa (decide (o3< (s3:Int)))
 (∃u3 v3 x3,q3.cell? ((nb w).add 3)=some (slice u3 v3 x3)∧
 ae u3 (fun y3=>
 (0:Int)≤o3∧o3< (v3:Int)∧
 ∃z3,q3.cell? ((y3.add (o3.toNat*2)).add 1)=some (string z3)∧
 aa (decide (((z3.size:Int):Int)>100))
 (R (bool true) q3)
 (Ar .i64 (o3+1) (fun a4=>
 n3 [int .i64 a4,bool p3] q3))))
 (R (bool false) q3))→n3 [int .i64 o3,bool p3] q3)→
 n3 [int .i64 0,bool c3] d3))→a3 [int .i64 b3,bool c3] d3)→
 a3 [int .i64 0,bool false] r)))))
theorem zr (a:Bool) (b:OA) (c d:Nat) (f:OA) (g h:Nat) (i:OA) (j k:Nat) (l:OA) (m n:Nat) (o:OA) (p q:Nat) (w:World) (R:RW) (hh:Lb a b c d f g h i j k l m n o p q w R):CR 36 #[agg #[bool a,slice b c d,slice f g h,slice i j k,slice l m n,slice o p q]] w R:=
 aF (fn:=Tryz.f36) (by kernel_rfl) (by kernel_rfl) (by kernel_rfl) (by kernel_rfl) (by kernel_rfl) hh
def K2 (a:Bool) (b:OA) (c d:Nat) (f:OA) (g h:Nat) (i:OA) (j k:Nat) (l:OA) (m n:Nat) (o:OA) (p q:Nat) (w:World) (R:RW):Prop:=
 ∀r,r=w.alloc (.cells #[bool a,slice b c d,slice f g h,slice i j k,slice l m n,slice o p q] 71)→
 ∃s t u x y z a1 b1 c1 d1 e1 f1 g1 h1 i1 j1,(r.cell? (nb w)=some (bool s)∧r.cell? ((nb w).add 1)=some (slice t u x)∧r.cell? ((nb w).add 2)=some (slice y z a1)∧r.cell? ((nb w).add 3)=some (slice b1 c1 d1)∧r.cell? ((nb w).add 4)=some (slice e1 f1 g1)∧r.cell? ((nb w).add 5)=some (slice h1 i1 j1)∧True)∧
 CP 95 #[agg #[bool s,slice t u x,slice y z a1,slice b1 c1 d1,slice e1 f1 g1,slice h1 i1 j1]] r (fun k1 l1=>
 ∃m1 n1 o1,k1= .returned (slice m1 n1 o1)∧
 ∀p1,p1=l1.alloc (.cells #[] 5)→
 ∀q1:KW,(∀(r1:Int) (s1:OA) (t1 u1:Nat) (v1:World),(aa (decide (r1< (n1:Int)))
 (ae m1 (fun x1=>
 (0:Int)≤r1∧r1< (n1:Int)∧
 ∃y1,v1.cell? (x1.add (r1.toNat*1))=some (string y1)∧
 ∃z1 a2 b2 c2,(Builtin.append_ #[57,9] 57 #[slice s1 t1 u1,string y1]).run Tryz.prog v1= .ok (slice z1 a2 b2) c2∧
 ∀d2,d2=c2.alloc (.cells #[int .u8 10] 5)→
 ∃e2 f2 g2 h2,(Builtin.append_ #[57,57] 57 #[slice z1 a2 b2,slice (some (nb c2)) 1 1]).run Tryz.prog d2= .ok (slice e2 f2 g2) h2∧
 Ar .i64 (r1+1) (fun i2=>
 q1 [int .i64 i2,slice e2 f2 g2] h2)))
 (∃j2 k2,(convert 57 9 (slice s1 t1 u1)).run Tryz.prog v1= .ok (string j2) k2∧
 R (string j2) k2))→q1 [int .i64 r1,slice s1 t1 u1] v1)→
 q1 [int .i64 0,slice (some (nb l1)) 0 0] p1)
theorem zn (a:Bool) (b:OA) (c d:Nat) (f:OA) (g h:Nat) (i:OA) (j k:Nat) (l:OA) (m n:Nat) (o:OA) (p q:Nat) (w:World) (R:RW) (hh:K2 a b c d f g h i j k l m n o p q w R):CR 39 #[agg #[bool a,slice b c d,slice f g h,slice i j k,slice l m n,slice o p q]] w R:=
 aF (fn:=Tryz.f39) (by kernel_rfl) (by kernel_rfl) (by kernel_rfl) (by kernel_rfl) (by kernel_rfl) hh
def LJ (a:ByteArray) (w:World) (R:RW):Prop:=
 ∀b,b=w.alloc (.cells #[bool false,slice none 0 0,slice none 0 0,slice none 0 0,slice none 0 0,slice none 0 0] 71)→
 aa (decide (((a.size:Int):Int)>60000))
 (ar b (nb w) (fun c=>
 ∃d f g h i j k l m n o p q r s t,(c.cell? (nb w)=some (bool d)∧c.cell? ((nb w).add 1)=some (slice f g h)∧c.cell? ((nb w).add 2)=some (slice i j k)∧c.cell? ((nb w).add 3)=some (slice l m n)∧c.cell? ((nb w).add 4)=some (slice o p q)∧c.cell? ((nb w).add 5)=some (slice r s t)∧True)∧
 R (tuple #[agg #[bool d,slice f g h,slice i j k,slice l m n,slice o p q,slice r s t],int .i64 0,int .i64 3]) c) [bool false,slice none 0 0,slice none 0 0,slice none 0 0,slice none 0 0,slice none 0 0] 0)
 (CP 128 #[string a] b (fun u x=>
 ∃y z a1 b1,u= .returned (tuple #[slice y z a1,bool b1])∧
 ∀c1,c1=x.alloc (.cells #[bool false,slice none 0 0,slice none 0 0,slice none 0 0,slice none 0 0,slice none 0 0,int .i64 0] 211)→
 ∀d1:KW,(∀(e1 f1 g1:Int) (h1:World),(aa (decide (e1< (z:Int)))
 (ae y (fun i1=>
 (0:Int)≤e1∧e1< (z:Int)∧
 ∃j1,h1.cell? (i1.add (e1.toNat*1))=some (string j1)∧
 CP 129 #[pointer (some (nb x)),int .i64 e1,string j1] h1 (fun k1 l1=>
 ∃m1,k1= .returned (bool m1)∧
 aa (!m1)
 (Ar .i64 (e1+1) (fun n1=>
 ar l1 (nb w) (fun o1=>
 ∃p1 q1 r1 s1 t1 u1 v1 x1 y1 z1 a2 b2 c2 d2 e2 f2,(o1.cell? (nb w)=some (bool p1)∧o1.cell? ((nb w).add 1)=some (slice q1 r1 s1)∧o1.cell? ((nb w).add 2)=some (slice t1 u1 v1)∧o1.cell? ((nb w).add 3)=some (slice x1 y1 z1)∧o1.cell? ((nb w).add 4)=some (slice a2 b2 c2)∧o1.cell? ((nb w).add 5)=some (slice d2 e2 f2)∧True)∧
 R (tuple #[agg #[bool p1,slice q1 r1 s1,slice t1 u1 v1,slice x1 y1 z1,slice a2 b2 c2,slice d2 e2 f2],int .i64 n1,int .i64 2]) o1) [bool false,slice none 0 0,slice none 0 0,slice none 0 0,slice none 0 0,slice none 0 0] 0))
 (Ar .i64 (e1+1) (fun g2=>
 d1 [int .i64 g2,int .i64 f1,int .i64 g1] l1)))))
 (aa (!b1)
 (Ar .i64 ((z:Int)+1) (fun h2=>
 ar h1 (nb w) (fun i2=>
 ∃j2 k2 l2 m2 n2 o2 p2 q2 r2 s2 t2 u2 v2 x2 y2 z2,(i2.cell? (nb w)=some (bool j2)∧i2.cell? ((nb w).add 1)=some (slice k2 l2 m2)∧i2.cell? ((nb w).add 2)=some (slice n2 o2 p2)∧i2.cell? ((nb w).add 3)=some (slice q2 r2 s2)∧i2.cell? ((nb w).add 4)=some (slice t2 u2 v2)∧i2.cell? ((nb w).add 5)=some (slice x2 y2 z2)∧True)∧
 R (tuple #[agg #[bool j2,slice k2 l2 m2,slice n2 o2 p2,slice q2 r2 s2,slice t2 u2 v2,slice x2 y2 z2],int .i64 h2,int .i64 2]) i2) [bool false,slice none 0 0,slice none 0 0,slice none 0 0,slice none 0 0,slice none 0 0] 0))
 (aa ((z:Int)==0)
 (Ar .i64 ((z:Int)+1) (fun a3=>
 ar h1 (nb w) (fun b3=>
 ∃c3 d3 e3 f3 g3 h3 i3 j3 k3 l3 m3 n3 o3 p3 q3 r3,(b3.cell? (nb w)=some (bool c3)∧b3.cell? ((nb w).add 1)=some (slice d3 e3 f3)∧b3.cell? ((nb w).add 2)=some (slice g3 h3 i3)∧b3.cell? ((nb w).add 3)=some (slice j3 k3 l3)∧b3.cell? ((nb w).add 4)=some (slice m3 n3 o3)∧b3.cell? ((nb w).add 5)=some (slice p3 q3 r3)∧True)∧
 R (tuple #[agg #[bool c3,slice d3 e3 f3,slice g3 h3 i3,slice j3 k3 l3,slice m3 n3 o3,slice p3 q3 r3],int .i64 a3,int .i64 2]) b3) [bool false,slice none 0 0,slice none 0 0,slice none 0 0,slice none 0 0,slice none 0 0] 0))
 (∃s3 t3 u3 v3 x3 y3 z3 a4 b4 c4 d4 e4 f4 g4 h4 i4,(h1.cell? ((nb x).add 0)=some (bool s3)∧h1.cell? (((nb x).add 0).add 1)=some (slice t3 u3 v3)∧h1.cell? (((nb x).add 0).add 2)=some (slice x3 y3 z3)∧h1.cell? (((nb x).add 0).add 3)=some (slice a4 b4 c4)∧h1.cell? (((nb x).add 0).add 4)=some (slice d4 e4 f4)∧h1.cell? (((nb x).add 0).add 5)=some (slice g4 h4 i4)∧True)∧
 ar h1 (nb w) (fun j4=>
 ∃k4 l4 m4 n4 o4 p4 q4 r4 s4 t4 u4 v4 x4 y4 z4 a5,(j4.cell? (nb w)=some (bool k4)∧j4.cell? ((nb w).add 1)=some (slice l4 m4 n4)∧j4.cell? ((nb w).add 2)=some (slice o4 p4 q4)∧j4.cell? ((nb w).add 3)=some (slice r4 s4 t4)∧j4.cell? ((nb w).add 4)=some (slice u4 v4 x4)∧j4.cell? ((nb w).add 5)=some (slice y4 z4 a5)∧True)∧
 R (tuple #[agg #[bool k4,slice l4 m4 n4,slice o4 p4 q4,slice r4 s4 t4,slice u4 v4 x4,slice y4 z4 a5],int .i64 0,int .i64 0]) j4) [bool s3,slice t3 u3 v3,slice x3 y3 z3,slice a4 b4 c4,slice d4 e4 f4,slice g4 h4 i4] 0))))→d1 [int .i64 e1,int .i64 f1,int .i64 g1] h1)→
 d1 [int .i64 0,int .i64 0,int .i64 0] c1))
theorem As (a:ByteArray) (w:World) (R:RW) (hh:LJ a w R):CR 90 #[string a] w R:=
 aF (fn:=Tryz.f90) (by kernel_rfl) (by kernel_rfl) (by kernel_rfl) (by kernel_rfl) (by kernel_rfl) hh
def Lf (a:ByteArray) (b:Int) (w:World) (R:RW):Prop:=
 ∀c:KW,(∀(d f:Int) (g:OA) (h i:Nat) (j:World),(aa (decide (d≤(a.size:Int)))
 (∀k:KW,(∀(l:Int) (m:OA) (n o:Nat) (p:World),(Ar .i64 (d+1) (fun q=>
 c [int .i64 q,int .i64 l,slice m n o] p))→k [int .i64 l,slice m n o] p)→
 aa (d==(a.size:Int))
 ((0:Int)≤f∧f≤d∧d≤(a.size:Int)∧
 ∀r,r=j.alloc (.cells #[string (a.extract f.toNat d.toNat)] 9)→
 ∃s t u x,(Builtin.append_ #[32,32] 32 #[slice g h i,slice (some (nb j)) 1 1]).run Tryz.prog r= .ok (slice s t u) x∧
 Ar .i64 (d+1) (fun y=>
 k [int .i64 y,slice s t u] x))
 ((0:Int)≤d∧d< (a.size:Int)∧
 aa ((btAt a d:Int)==b)
 ((0:Int)≤f∧f≤d∧d≤(a.size:Int)∧
 ∀z,z=j.alloc (.cells #[string (a.extract f.toNat d.toNat)] 9)→
 ∃a1 b1 c1 d1,(Builtin.append_ #[32,32] 32 #[slice g h i,slice (some (nb j)) 1 1]).run Tryz.prog z= .ok (slice a1 b1 c1) d1∧
 Ar .i64 (d+1) (fun e1=>
 k [int .i64 e1,slice a1 b1 c1] d1))
 (k [int .i64 f,slice g h i] j)))
 (R (slice g h i) j))→c [int .i64 d,int .i64 f,slice g h i] j)→
 c [int .i64 0,int .i64 0,slice none 0 0] w
theorem zz (a:ByteArray) (b:Int) (w:World) (R:RW) (hh:Lf a b w R):CR 92 #[string a,int .u8 b] w R:=
 aF (fn:=Tryz.f92) (by kernel_rfl) (by kernel_rfl) (by kernel_rfl) (by kernel_rfl) (by kernel_rfl) hh
def LF (a:OA) (b c:Nat) (d:Int) (w:World) (R:RW):Prop:=
 aa (decide (d≥(b:Int)))
 (R (int .i64 (-1)) w)
 (ae a (fun f=>
 (0:Int)≤d∧d< (b:Int)∧
 ∃g,w.cell? (f.add (d.toNat*1))=some (string g)∧
 CP 135 #[string g,int .i64 1073741824] w (fun h i=>
 ∃j k,h= .returned (tuple #[int .i64 j,bool k])∧
 aa (!k)
 (R (int .i64 (-1)) i)
 (R (int .i64 j) i))))
theorem zI (a:OA) (b c:Nat) (d:Int) (w:World) (R:RW) (hh:LF a b c d w R):CR 93 #[slice a b c,int .i64 d] w R:=
 aF (fn:=Tryz.f93) (by kernel_rfl) (by kernel_rfl) (by kernel_rfl) (by kernel_rfl) (by kernel_rfl) hh
def LD (a:OA) (b c:Nat) (d:Int) (w:World) (R:RW):Prop:=
 aa (decide (d≥(b:Int)))
 (R (string ⟨#[]⟩) w)
 (ae a (fun f=>
 (0:Int)≤d∧d< (b:Int)∧
 ∃g,w.cell? (f.add (d.toNat*1))=some (string g)∧
 CP 136 #[string g] w (fun h i=>
 ∃j k,h= .returned (tuple #[string j,bool k])∧
 aa (!k)
 (R (string ⟨#[]⟩) i)
 (R (string j) i))))
theorem zi (a:OA) (b c:Nat) (d:Int) (w:World) (R:RW) (hh:LD a b c d w R):CR 94 #[slice a b c,int .i64 d] w R:=
 aF (fn:=Tryz.f94) (by kernel_rfl) (by kernel_rfl) (by kernel_rfl) (by kernel_rfl) (by kernel_rfl) hh
def K3 (a:Bool) (b:OA) (c d:Nat) (f:OA) (g h:Nat) (i:OA) (j k:Nat) (l:OA) (m n:Nat) (o:OA) (p q:Nat) (w:World) (R:RW):Prop:=
 ∀r,r=w.alloc (.cells #[bool a,slice b c d,slice f g h,slice i j k,slice l m n,slice o p q] 71)→
 ∀s,s=r.alloc (.cells #[string ⟨#[118,111,99,97,98,32,109,101,114,103,101,115]⟩] 9)→
 ∀t:KW,(∀(u:OA) (x y:Nat) (z:World),(∀a1:KW,(∀(b1:Int) (c1:OA) (d1 e1:Nat) (f1:World),(∃g1 h1 i1,f1.cell? ((nb w).add 1)=some (slice g1 h1 i1)∧
 aa (decide (b1< (h1:Int)))
 (∀j1,j1=f1.drew→
 ∃k1 l1 m1,j1.cell? ((nb w).add 1)=some (slice k1 l1 m1)∧
 ae k1 (fun n1=>
 (0:Int)≤b1∧b1< (l1:Int)∧
 ∃o1,j1.cell? ((n1.add (b1.toNat*2)).add 0)=some (int .i64 o1)∧
 ∃p1 q1 r1,j1.cell? ((nb w).add 1)=some (slice p1 q1 r1)∧
 ae p1 (fun s1=>
 (0:Int)≤b1∧b1< (q1:Int)∧
 ∃t1,j1.cell? ((s1.add (b1.toNat*2)).add 1)=some (int .i64 t1)∧
 CP 137 #[int .i64 o1] j1 (fun u1 v1=>
 ∃x1,u1= .returned (string x1)∧
 (v1.cell? ((s1.add (b1.toNat*2)).add 1)=some (int .i64 t1)∧True)∧
 (v1.cell? ((nb w).add 1)=some (slice p1 q1 r1)∧True)∧
 (((⟨#[109,101,114,103,101,32]⟩:ByteArray).size+x1.size:Nat):Int)≤IntKind.i64.max∧
 ((((⟨#[109,101,114,103,101,32]⟩:ByteArray)++x1:ByteArray).size+(⟨#[32]⟩:ByteArray).size:Nat):Int)≤IntKind.i64.max∧
 CP 137 #[int .i64 t1] v1 (fun y1 z1=>
 ∃a2,y1= .returned (string a2)∧
 (((((⟨#[109,101,114,103,101,32]⟩:ByteArray)++x1:ByteArray)++(⟨#[32]⟩:ByteArray):ByteArray).size+a2.size:Nat):Int)≤IntKind.i64.max∧
 ∀b2,b2=z1.alloc (.cells #[string ((((⟨#[109,101,114,103,101,32]⟩:ByteArray)++x1:ByteArray)++(⟨#[32]⟩:ByteArray):ByteArray)++a2)] 9)→
 ∃c2 d2 e2 f2,(Builtin.append_ #[32,32] 32 #[slice c1 d1 e1,slice (some (nb z1)) 1 1]).run Tryz.prog b2= .ok (slice c2 d2 e2) f2∧
 Ar .i64 (b1+1) (fun g2=>
 a1 [int .i64 g2,slice c2 d2 e2] f2))))))
 (∀h2:KW,(∀(i2:Int) (j2:OA) (k2 l2:Nat) (m2:World),(∃n2 o2 p2,m2.cell? ((nb w).add 2)=some (slice n2 o2 p2)∧
 aa (decide (i2< (o2:Int)))
 (∃q2 r2 s2,m2.cell? ((nb w).add 2)=some (slice q2 r2 s2)∧
 ae q2 (fun t2=>
 (0:Int)≤i2∧i2< (r2:Int)∧
 ∃u2,m2.cell? (t2.add (i2.toNat*1))=some (string u2)∧
 CP 138 #[string u2] m2 (fun v2 x2=>
 ∃y2,v2= .returned (string y2)∧
 (((⟨#[116,111,107,101,110,32]⟩:ByteArray).size+y2.size:Nat):Int)≤IntKind.i64.max∧
 ∀z2,z2=x2.alloc (.cells #[string ((⟨#[116,111,107,101,110,32]⟩:ByteArray)++y2)] 9)→
 ∃a3 b3 c3 d3,(Builtin.append_ #[32,32] 32 #[slice j2 k2 l2,slice (some (nb x2)) 1 1]).run Tryz.prog z2= .ok (slice a3 b3 c3) d3∧
 Ar .i64 (i2+1) (fun e3=>
 h2 [int .i64 e3,slice a3 b3 c3] d3))))
 (∀f3:KW,(∀(g3:Int) (h3:OA) (i3 j3:Nat) (k3:World),(∃l3 m3 n3,k3.cell? ((nb w).add 3)=some (slice l3 m3 n3)∧
 aa (decide (g3< (m3:Int)))
 (∀o3,o3=k3.drew→
 ∃p3 q3 r3,o3.cell? ((nb w).add 3)=some (slice p3 q3 r3)∧
 ae p3 (fun s3=>
 (0:Int)≤g3∧g3< (q3:Int)∧
 ∃t3,o3.cell? ((s3.add (g3.toNat*2)).add 0)=some (int .i64 t3)∧
 ∃u3 v3 x3,o3.cell? ((nb w).add 3)=some (slice u3 v3 x3)∧
 ae u3 (fun y3=>
 (0:Int)≤g3∧g3< (v3:Int)∧
 ∃z3,o3.cell? ((y3.add (g3.toNat*2)).add 1)=some (string z3)∧
 CP 137 #[int .i64 t3] o3 (fun a4 b4=>
 ∃c4,a4= .returned (string c4)∧
 (b4.cell? ((y3.add (g3.toNat*2)).add 1)=some (string z3)∧True)∧
 (b4.cell? ((nb w).add 3)=some (slice u3 v3 x3)∧True)∧
 (((⟨#[115,112,101,99,105,97,108,32]⟩:ByteArray).size+c4.size:Nat):Int)≤IntKind.i64.max∧
 ((((⟨#[115,112,101,99,105,97,108,32]⟩:ByteArray)++c4:ByteArray).size+(⟨#[32]⟩:ByteArray).size:Nat):Int)≤IntKind.i64.max∧
 CP 138 #[string z3] b4 (fun d4 e4=>
 ∃f4,d4= .returned (string f4)∧
 (((((⟨#[115,112,101,99,105,97,108,32]⟩:ByteArray)++c4:ByteArray)++(⟨#[32]⟩:ByteArray):ByteArray).size+f4.size:Nat):Int)≤IntKind.i64.max∧
 ∀g4,g4=e4.alloc (.cells #[string ((((⟨#[115,112,101,99,105,97,108,32]⟩:ByteArray)++c4:ByteArray)++(⟨#[32]⟩:ByteArray):ByteArray)++f4)] 9)→
 ∃h4 i4 j4 k4,(Builtin.append_ #[32,32] 32 #[slice h3 i3 j3,slice (some (nb e4)) 1 1]).run Tryz.prog g4= .ok (slice h4 i4 j4) k4∧
 Ar .i64 (g3+1) (fun l4=>
 f3 [int .i64 l4,slice h4 i4 j4] k4))))))
 (∀m4:KW,(∀(n4:Int) (o4:OA) (p4 q4:Nat) (r4:World),(∃s4 t4 u4,r4.cell? ((nb w).add 4)=some (slice s4 t4 u4)∧
 aa (decide (n4< (t4:Int)))
 (∀v4,v4=r4.drew→
 ∃x4 y4 z4,v4.cell? ((nb w).add 4)=some (slice x4 y4 z4)∧
 ae x4 (fun a5=>
 (0:Int)≤n4∧n4< (y4:Int)∧
 ∃b5,v4.cell? ((a5.add (n4.toNat*3)).add 0)=some (int .i64 b5)∧
 ∃c5 d5 e5,v4.cell? ((nb w).add 4)=some (slice c5 d5 e5)∧
 ae c5 (fun f5=>
 (0:Int)≤n4∧n4< (d5:Int)∧
 ∃g5,v4.cell? ((f5.add (n4.toNat*3)).add 1)=some (int .i64 g5)∧
 ∃h5 i5 j5,v4.cell? ((nb w).add 4)=some (slice h5 i5 j5)∧
 ae h5 (fun k5=>
 (0:Int)≤n4∧n4< (i5:Int)∧
 ∃l5,v4.cell? ((k5.add (n4.toNat*3)).add 2)=some (int .i64 l5)∧
 CP 137 #[int .i64 b5] v4 (fun m5 n5=>
 ∃o5,m5= .returned (string o5)∧
 (n5.cell? ((k5.add (n4.toNat*3)).add 2)=some (int .i64 l5)∧True)∧
 (n5.cell? ((nb w).add 4)=some (slice h5 i5 j5)∧True)∧
 (n5.cell? ((f5.add (n4.toNat*3)).add 1)=some (int .i64 g5)∧True)∧
 (n5.cell? ((nb w).add 4)=some (slice c5 d5 e5)∧True)∧
 (((⟨#[99,108,97,115,115,32]⟩:ByteArray).size+o5.size:Nat):Int)≤IntKind.i64.max∧
 ((((⟨#[99,108,97,115,115,32]⟩:ByteArray)++o5:ByteArray).size+(⟨#[32]⟩:ByteArray).size:Nat):Int)≤IntKind.i64.max∧
 CP 137 #[int .i64 g5] n5 (fun p5 q5=>
 ∃r5,p5= .returned (string r5)∧
 (q5.cell? ((k5.add (n4.toNat*3)).add 2)=some (int .i64 l5)∧True)∧
 (q5.cell? ((nb w).add 4)=some (slice h5 i5 j5)∧True)∧
 (((((⟨#[99,108,97,115,115,32]⟩:ByteArray)++o5:ByteArray)++(⟨#[32]⟩:ByteArray):ByteArray).size+r5.size:Nat):Int)≤IntKind.i64.max∧
 ((((((⟨#[99,108,97,115,115,32]⟩:ByteArray)++o5:ByteArray)++(⟨#[32]⟩:ByteArray):ByteArray)++r5:ByteArray).size+(⟨#[32]⟩:ByteArray).size:Nat):Int)≤IntKind.i64.max∧
 CP 137 #[int .i64 l5] q5 (fun s5 t5=>
 ∃u5,s5= .returned (string u5)∧
 (((((((⟨#[99,108,97,115,115,32]⟩:ByteArray)++o5:ByteArray)++(⟨#[32]⟩:ByteArray):ByteArray)++r5:ByteArray)++(⟨#[32]⟩:ByteArray):ByteArray).size+u5.size:Nat):Int)≤IntKind.i64.max∧
 ∀v5,v5=t5.alloc (.cells #[string ((((((⟨#[99,108,97,115,115,32]⟩:ByteArray)++o5:ByteArray)++(⟨#[32]⟩:ByteArray):ByteArray)++r5:ByteArray)++(⟨#[32]⟩:ByteArray):ByteArray)++u5)] 9)→
 ∃x5 y5 z5 a6,(Builtin.append_ #[32,32] 32 #[slice o4 p4 q4,slice (some (nb t5)) 1 1]).run Tryz.prog v5= .ok (slice x5 y5 z5) a6∧
 Ar .i64 (n4+1) (fun b6=>
 m4 [int .i64 b6,slice x5 y5 z5] a6))))))))
 (∀c6:KW,(∀(d6:Int) (e6:OA) (f6 g6:Nat) (h6:World),(∃i6 j6 k6,h6.cell? ((nb w).add 5)=some (slice i6 j6 k6)∧
 aa (decide (d6< (j6:Int)))
 (∀l6,l6=h6.drew→
 ∃m6 n6 o6,l6.cell? ((nb w).add 5)=some (slice m6 n6 o6)∧
 ae m6 (fun p6=>
 (0:Int)≤d6∧d6< (n6:Int)∧
 ∃q6,l6.cell? ((p6.add (d6.toNat*2)).add 0)=some (int .i64 q6)∧
 ∃r6 s6 t6,l6.cell? ((nb w).add 5)=some (slice r6 s6 t6)∧
 ae r6 (fun u6=>
 (0:Int)≤d6∧d6< (s6:Int)∧
 ∃v6,l6.cell? ((u6.add (d6.toNat*2)).add 1)=some (int .i64 v6)∧
 CP 137 #[int .i64 q6] l6 (fun x6 y6=>
 ∃z6,x6= .returned (string z6)∧
 (y6.cell? ((u6.add (d6.toNat*2)).add 1)=some (int .i64 v6)∧True)∧
 (y6.cell? ((nb w).add 5)=some (slice r6 s6 t6)∧True)∧
 (((⟨#[106,111,105,110,32]⟩:ByteArray).size+z6.size:Nat):Int)≤IntKind.i64.max∧
 ((((⟨#[106,111,105,110,32]⟩:ByteArray)++z6:ByteArray).size+(⟨#[32]⟩:ByteArray).size:Nat):Int)≤IntKind.i64.max∧
 CP 137 #[int .i64 v6] y6 (fun a7 b7=>
 ∃c7,a7= .returned (string c7)∧
 (((((⟨#[106,111,105,110,32]⟩:ByteArray)++z6:ByteArray)++(⟨#[32]⟩:ByteArray):ByteArray).size+c7.size:Nat):Int)≤IntKind.i64.max∧
 ∀d7,d7=b7.alloc (.cells #[string ((((⟨#[106,111,105,110,32]⟩:ByteArray)++z6:ByteArray)++(⟨#[32]⟩:ByteArray):ByteArray)++c7)] 9)→
 ∃e7 f7 g7 h7,(Builtin.append_ #[32,32] 32 #[slice e6 f6 g6,slice (some (nb b7)) 1 1]).run Tryz.prog d7= .ok (slice e7 f7 g7) h7∧
 Ar .i64 (d6+1) (fun i7=>
 c6 [int .i64 i7,slice e7 f7 g7] h7))))))
 (R (slice e6 f6 g6) h6))→c6 [int .i64 d6,slice e6 f6 g6] h6)→
 c6 [int .i64 0,slice o4 p4 q4] r4))→m4 [int .i64 n4,slice o4 p4 q4] r4)→
 m4 [int .i64 0,slice h3 i3 j3] k3))→f3 [int .i64 g3,slice h3 i3 j3] k3)→
 f3 [int .i64 0,slice j2 k2 l2] m2))→h2 [int .i64 i2,slice j2 k2 l2] m2)→
 h2 [int .i64 0,slice c1 d1 e1] f1))→a1 [int .i64 b1,slice c1 d1 e1] f1)→
 a1 [int .i64 0,slice u x y] z)→t [slice u x y] z)→
 ∃j7,s.cell? ((nb w).add 0)=some (bool j7)∧
 aa j7
 (∀k7,k7=s.alloc (.cells #[string ⟨#[118,111,99,97,98,32,114,97,110,107,115]⟩] 9)→
 t [slice (some (nb s)) 1 1] k7)
 (t [slice (some (nb r)) 1 1] s)
theorem yW (a:Bool) (b:OA) (c d:Nat) (f:OA) (g h:Nat) (i:OA) (j k:Nat) (l:OA) (m n:Nat) (o:OA) (p q:Nat) (w:World) (R:RW) (hh:K3 a b c d f g h i j k l m n o p q w R):CR 95 #[agg #[bool a,slice b c d,slice f g h,slice i j k,slice l m n,slice o p q]] w R:=
 aF (fn:=Tryz.f95) (by kernel_rfl) (by kernel_rfl) (by kernel_rfl) (by kernel_rfl) (by kernel_rfl) hh
def Lz (a:Bool) (b:OA) (c d:Nat) (f:OA) (g h:Nat) (i:OA) (j k:Nat) (l:OA) (m n:Nat) (o:OA) (p q:Nat) (w:World) (R:RW):Prop:=
 ∀r,r=w.alloc (.cells #[bool a,slice b c d,slice f g h,slice i j k,slice l m n,slice o p q] 71)→
 ∃s t u,r.cell? ((nb w).add 1)=some (slice s t u)∧
 aa (decide ((t:Int)>744))
 (R (bool false) r)
 (∃x y z,r.cell? ((nb w).add 2)=some (slice x y z)∧
 aa (decide ((y:Int)>744))
 (R (bool false) r)
 (∃a1 b1 c1,r.cell? ((nb w).add 3)=some (slice a1 b1 c1)∧
 aa (decide ((b1:Int)>32))
 (R (bool false) r)
 (∃d1 e1 f1,r.cell? ((nb w).add 4)=some (slice d1 e1 f1)∧
 aa (decide ((e1:Int)>64))
 (R (bool false) r)
 (∃g1 h1 i1,r.cell? ((nb w).add 5)=some (slice g1 h1 i1)∧
 aa (decide ((h1:Int)>64))
 (R (bool false) r)
 (∀j1:KW,(∀(k1:Int) (l1:Bool) (m1:World),(∃n1 o1 p1,m1.cell? ((nb w).add 1)=some (slice n1 o1 p1)∧
 aa (decide (k1< (o1:Int)))
 (∃q1,m1.cell? ((nb w).add 0)=some (bool q1)∧
 aa q1
 (R (bool false) m1)
 (∃r1 s1 t1,m1.cell? ((nb w).add 1)=some (slice r1 s1 t1)∧
 ae r1 (fun u1=>
 (0:Int)≤k1∧k1< (s1:Int)∧
 ∃v1,m1.cell? ((u1.add (k1.toNat*2)).add 0)=some (int .i64 v1)∧
 CP 139 #[int .i64 v1,int .i64 0,int .i64 999] m1 (fun x1 y1=>
 ∃z1,x1= .returned (bool z1)∧
 aa (!z1)
 (R (bool false) y1)
 (∃a2 b2 c2,y1.cell? ((nb w).add 1)=some (slice a2 b2 c2)∧
 ae a2 (fun d2=>
 (0:Int)≤k1∧k1< (b2:Int)∧
 ∃e2,y1.cell? ((d2.add (k1.toNat*2)).add 1)=some (int .i64 e2)∧
 CP 139 #[int .i64 e2,int .i64 0,int .i64 999] y1 (fun f2 g2=>
 ∃h2,f2= .returned (bool h2)∧
 aa (!h2)
 (R (bool false) g2)
 (Ar .i64 (k1+1) (fun i2=>
 j1 [int .i64 i2,bool l1] g2)))))))))
 (∀j2:KW,(∀(k2:Int) (l2:Bool) (m2:World),(∃n2 o2 p2,m2.cell? ((nb w).add 2)=some (slice n2 o2 p2)∧
 aa (decide (k2< (o2:Int)))
 (∃q2,m2.cell? ((nb w).add 0)=some (bool q2)∧
 aa (!q2)
 (R (bool false) m2)
 (∃r2 s2 t2,m2.cell? ((nb w).add 2)=some (slice r2 s2 t2)∧
 ae r2 (fun u2=>
 (0:Int)≤k2∧k2< (s2:Int)∧
 ∃v2,m2.cell? (u2.add (k2.toNat*1))=some (string v2)∧
 CP 139 #[int .i64 (v2.size:Int),int .i64 2,int .i64 64] m2 (fun x2 y2=>
 ∃z2,x2= .returned (bool z2)∧
 aa (!z2)
 (R (bool false) y2)
 (Ar .i64 (k2+1) (fun a3=>
 j2 [int .i64 a3,bool l2] y2))))))
 (∀b3:KW,(∀(c3:Int) (d3:Bool) (e3:World),(∃f3 g3 h3,e3.cell? ((nb w).add 3)=some (slice f3 g3 h3)∧
 aa (decide (c3< (g3:Int)))
 (∃i3 j3 k3,e3.cell? ((nb w).add 3)=some (slice i3 j3 k3)∧
 ae i3 (fun l3=>
 (0:Int)≤c3∧c3< (j3:Int)∧
 ∃m3,e3.cell? ((l3.add (c3.toNat*2)).add 0)=some (int .i64 m3)∧
 CP 139 #[int .i64 m3,int .i64 0,int .i64 1073741824] e3 (fun n3 o3=>
 ∃p3,n3= .returned (bool p3)∧
 aa (!p3)
 (R (bool false) o3)
 (∃q3 r3 s3,o3.cell? ((nb w).add 3)=some (slice q3 r3 s3)∧
 ae q3 (fun t3=>
 (0:Int)≤c3∧c3< (r3:Int)∧
 ∃u3,o3.cell? ((t3.add (c3.toNat*2)).add 1)=some (string u3)∧
 CP 139 #[int .i64 (u3.size:Int),int .i64 1,int .i64 64] o3 (fun v3 x3=>
 ∃y3,v3= .returned (bool y3)∧
 aa (!y3)
 (R (bool false) x3)
 (Ar .i64 (c3+1) (fun z3=>
 b3 [int .i64 z3,bool d3] x3))))))))
 (∀a4:KW,(∀(b4:Int) (c4:Bool) (d4:World),(∃e4 f4 g4,d4.cell? ((nb w).add 4)=some (slice e4 f4 g4)∧
 aa (decide (b4< (f4:Int)))
 (∃h4 i4 j4,d4.cell? ((nb w).add 4)=some (slice h4 i4 j4)∧
 ae h4 (fun k4=>
 (0:Int)≤b4∧b4< (i4:Int)∧
 ∃l4 m4 n4,(d4.cell? (k4.add (b4.toNat*3))=some (int .i64 l4)∧d4.cell? ((k4.add (b4.toNat*3)).add 1)=some (int .i64 m4)∧d4.cell? ((k4.add (b4.toNat*3)).add 2)=some (int .i64 n4)∧True)∧
 ∀o4,o4=d4.alloc (.cells #[int .i64 0,int .i64 0,int .i64 0] 89)→
 ar o4 (nb d4) (fun p4=>
 ∃q4,p4.cell? ((nb d4).add 0)=some (int .i64 q4)∧
 aa (decide (q4<0))
 (R (bool false) p4)
 (∃r4,p4.cell? ((nb d4).add 1)=some (int .i64 r4)∧
 ∃s4,p4.cell? ((nb d4).add 0)=some (int .i64 s4)∧
 aa (decide (r4<s4))
 (R (bool false) p4)
 (∃t4,p4.cell? ((nb d4).add 1)=some (int .i64 t4)∧
 aa (decide (t4>255))
 (R (bool false) p4)
 (∃u4,p4.cell? ((nb d4).add 2)=some (int .i64 u4)∧
 CP 139 #[int .i64 u4,int .i64 0,int .i64 15] p4 (fun v4 x4=>
 ∃y4,v4= .returned (bool y4)∧
 aa (!y4)
 (R (bool false) x4)
 (Ar .i64 (b4+1) (fun z4=>
 a4 [int .i64 z4,bool c4] x4))))))) [int .i64 l4,int .i64 m4,int .i64 n4] 0))
 (∀a5:KW,(∀(b5:Int) (c5:Bool) (d5:World),(∃e5 f5 g5,d5.cell? ((nb w).add 5)=some (slice e5 f5 g5)∧
 aa (decide (b5< (f5:Int)))
 (∃h5 i5 j5,d5.cell? ((nb w).add 5)=some (slice h5 i5 j5)∧
 ae h5 (fun k5=>
 (0:Int)≤b5∧b5< (i5:Int)∧
 ∃l5,d5.cell? ((k5.add (b5.toNat*2)).add 0)=some (int .i64 l5)∧
 CP 139 #[int .i64 l5,int .i64 0,int .i64 15] d5 (fun m5 n5=>
 ∃o5,m5= .returned (bool o5)∧
 aa (!o5)
 (R (bool false) n5)
 (∃p5 q5 r5,n5.cell? ((nb w).add 5)=some (slice p5 q5 r5)∧
 ae p5 (fun s5=>
 (0:Int)≤b5∧b5< (q5:Int)∧
 ∃t5,n5.cell? ((s5.add (b5.toNat*2)).add 1)=some (int .i64 t5)∧
 CP 139 #[int .i64 t5,int .i64 0,int .i64 15] n5 (fun u5 v5=>
 ∃x5,u5= .returned (bool x5)∧
 aa (!x5)
 (R (bool false) v5)
 (Ar .i64 (b5+1) (fun y5=>
 a5 [int .i64 y5,bool c5] v5))))))))
 (R (bool true) d5))→a5 [int .i64 b5,bool c5] d5)→
 a5 [int .i64 0,bool c4] d4))→a4 [int .i64 b4,bool c4] d4)→
 a4 [int .i64 0,bool d3] e3))→b3 [int .i64 c3,bool d3] e3)→
 b3 [int .i64 0,bool l2] m2))→j2 [int .i64 k2,bool l2] m2)→
 j2 [int .i64 0,bool l1] m1))→j1 [int .i64 k1,bool l1] m1)→
 j1 [int .i64 0,bool false] r)))))
theorem An (a:Bool) (b:OA) (c d:Nat) (f:OA) (g h:Nat) (i:OA) (j k:Nat) (l:OA) (m n:Nat) (o:OA) (p q:Nat) (w:World) (R:RW) (hh:Lz a b c d f g h i j k l m n o p q w R):CR 96 #[agg #[bool a,slice b c d,slice f g h,slice i j k,slice l m n,slice o p q]] w R:=
 aF (fn:=Tryz.f96) (by kernel_rfl) (by kernel_rfl) (by kernel_rfl) (by kernel_rfl) (by kernel_rfl) hh
def LI (a:OA) (b c:Nat) (d:OA) (f g:Nat) (w:World) (R:RW):Prop:=
 aa ((b:Int) != (f:Int))
 (R (bool false) w)
 (∀h:KW,(∀(i:Int) (j:Bool) (k:World),(aa (decide (i< (b:Int)))
 (∀l,l=k.drew→
 ae a (fun m=>
 (0:Int)≤i∧i< (b:Int)∧
 ∃n,l.cell? (m.add (i.toNat*1))=some (string n)∧
 ae d (fun o=>
 (0:Int)≤i∧i< (f:Int)∧
 ∃p,l.cell? (o.add (i.toNat*1))=some (string p)∧
 aa (!(n.toList==p.toList))
 (R (bool false) l)
 (Ar .i64 (i+1) (fun q=>
 h [int .i64 q,bool j] l)))))
 (R (bool true) k))→h [int .i64 i,bool j] k)→
 h [int .i64 0,bool false] w)
theorem zW (a:OA) (b c:Nat) (d:OA) (f g:Nat) (w:World) (R:RW) (hh:LI a b c d f g w R):CR 99 #[slice a b c,slice d f g] w R:=
 aF (fn:=Tryz.f99) (by kernel_rfl) (by kernel_rfl) (by kernel_rfl) (by kernel_rfl) (by kernel_rfl) hh
def Kz (a:ByteArray) (w:World) (R:RW):Prop:=
 ∀b:KW,(∀(c:OA) (d f:Nat) (g:Bool) (h:OA) (i j:Nat) (k:ByteArray) (l:World),(CP 185 #[string k,string ⟨#[10]⟩] l (fun m n=>
 ∃o p q,m= .returned (tuple #[string o,string p,bool q])∧
 aa (!q)
 (R (tuple #[slice c d f,bool (o.toList==(⟨#[]⟩:ByteArray).toList)]) n)
 (∀r,r=n.alloc (.cells #[string o] 9)→
 ∃s t u x,(Builtin.append_ #[32,32] 32 #[slice c d f,slice (some (nb n)) 1 1]).run Tryz.prog r= .ok (slice s t u) x∧
 b [slice s t u,bool g,slice h i j,string p] x)))→b [slice c d f,bool g,slice h i j,string k] l)→
 b [slice none 0 0,bool false,slice none 0 0,string a] w
theorem xV (a:ByteArray) (w:World) (R:RW) (hh:Kz a w R):CR 128 #[string a] w R:=
 aF (fn:=Tryz.f128) (by kernel_rfl) (by kernel_rfl) (by kernel_rfl) (by kernel_rfl) (by kernel_rfl) hh
def Ig (a:OA) (b:Int) (c:ByteArray) (w:World) (R:RW):Prop:=
 CP 186 #[string c] w (fun d f=>
 ∃g h i,d= .returned (slice g h i)∧
 ∀j,j=f.drew→
 ae g (fun k=>
 (0:Int)≤0∧0< (h:Int)∧
 ∃l,j.cell? (k.add ((0:Int).toNat*1))=some (string l)∧
 (0:Int)≤(1:Int)∧(1:Int)≤(h:Int)∧True∧True∧True∧
 CP 187 #[pointer a,string l,slice (cu g (1:Int).toNat (i:Int).toNat 1) ((h:Int).toNat- (1:Int).toNat) ((i:Int).toNat- (1:Int).toNat)] j (fun m n=>
 ∃o p,m= .returned (tuple #[int .i64 o,bool p])∧
 aa (!p)
 (R (bool false) n)
 (aa (!((b==0)==(o==0)))
 (R (bool false) n)
 (ae a (fun q=>
 ∃r,n.cell? (q.add 6)=some (int .i64 r)∧
 aa (decide (o<r))
 (R (bool false) n)
 (ae a (fun s=>
 ∃t x y z a1 b1 c1 d1 e1 f1 g1 h1 i1 j1 k1 l1,(n.cell? (s.add 0)=some (bool t)∧n.cell? ((s.add 0).add 1)=some (slice x y z)∧n.cell? ((s.add 0).add 2)=some (slice a1 b1 c1)∧n.cell? ((s.add 0).add 3)=some (slice d1 e1 f1)∧n.cell? ((s.add 0).add 4)=some (slice g1 h1 i1)∧n.cell? ((s.add 0).add 5)=some (slice j1 k1 l1)∧True)∧
 CP 101 #[agg #[bool t,slice x y z,slice a1 b1 c1,slice d1 e1 f1,slice g1 h1 i1,slice j1 k1 l1]] n (fun m1 n1=>
 ∃o1,m1= .returned (bool o1)∧
 aa (!o1)
 (R (bool false) n1)
 (ae a (fun p1=>
 (int .i64 o).oneCell'=true∧(∃u,n1.cell? (p1.add 6)=some u)∧n1.frozen? (p1.add 6)=false∧
 ∀q1,q1=(n1.setCell (p1.add 6) (int .i64 o))→
 R (bool true) q1)))))))))))
theorem yb (a:OA) (b:Int) (c:ByteArray) (w:World) (R:RW) (hh:Ig a b c w R):CR 129 #[pointer a,int .i64 b,string c] w R:=
 aF (fn:=Tryz.f129) (by kernel_rfl) (by kernel_rfl) (by kernel_rfl) (by kernel_rfl) (by kernel_rfl) hh
def Kw (a:ByteArray) (b:Int) (w:World) (R:RW):Prop:=
 aa (((a.size:Int):Int)==0)
 (R (tuple #[int .i64 0,bool false]) w)
 (aa (decide (((a.size:Int):Int)>19))
 (R (tuple #[int .i64 0,bool false]) w)
 (aa (decide (((a.size:Int):Int)>1))
 ((0:Int)≤0∧0< (a.size:Int)∧
 aa ((btAt a 0:Int)==48)
 (R (tuple #[int .i64 0,bool false]) w)
 (∀c:KW,(∀(d f:Int) (g:Bool) (h:Int) (i:World),(aa (decide (d< (a.size:Int)))
 ((0:Int)≤d∧d< (a.size:Int)∧
 aa (decide ((btAt a d:Int) <48))
 (R (tuple #[int .i64 0,bool false]) i)
 ((0:Int)≤d∧d< (a.size:Int)∧
 aa (decide ((btAt a d:Int)>57))
 (R (tuple #[int .i64 0,bool false]) i)
 ((0:Int)≤d∧d< (a.size:Int)∧
 Ar .u8 ((btAt a d:Int)-48) (fun j=>
 Ar .i64 ((9223372036854775807:Int)- (IntKind.wrap .i64 j)) (fun k=>
 (10:Int)≠0∧
 aa (decide (f>(IntKind.wrap .i64 (Int.tdiv k 10))))
 (R (tuple #[int .i64 0,bool false]) i)
 (Ar .i64 ((10:Int)*f) (fun l=>
 (0:Int)≤d∧d< (a.size:Int)∧
 Ar .u8 ((btAt a d:Int)-48) (fun m=>
 Ar .i64 (l+(IntKind.wrap .i64 m)) (fun n=>
 Ar .i64 (d+1) (fun o=>
 c [int .i64 o,int .i64 n,bool g,int .i64 h] i))))))))))
 (aa (decide (f>b))
 (R (tuple #[int .i64 0,bool false]) i)
 (R (tuple #[int .i64 f,bool true]) i)))→c [int .i64 d,int .i64 f,bool g,int .i64 h] i)→
 c [int .i64 0,int .i64 0,bool false,int .i64 0] w))
 (∀p:KW,(∀(q r:Int) (s:Bool) (t:Int) (u:World),(aa (decide (q< (a.size:Int)))
 ((0:Int)≤q∧q< (a.size:Int)∧
 aa (decide ((btAt a q:Int) <48))
 (R (tuple #[int .i64 0,bool false]) u)
 ((0:Int)≤q∧q< (a.size:Int)∧
 aa (decide ((btAt a q:Int)>57))
 (R (tuple #[int .i64 0,bool false]) u)
 ((0:Int)≤q∧q< (a.size:Int)∧
 Ar .u8 ((btAt a q:Int)-48) (fun x=>
 Ar .i64 ((9223372036854775807:Int)- (IntKind.wrap .i64 x)) (fun y=>
 (10:Int)≠0∧
 aa (decide (r>(IntKind.wrap .i64 (Int.tdiv y 10))))
 (R (tuple #[int .i64 0,bool false]) u)
 (Ar .i64 ((10:Int)*r) (fun z=>
 (0:Int)≤q∧q< (a.size:Int)∧
 Ar .u8 ((btAt a q:Int)-48) (fun a1=>
 Ar .i64 (z+(IntKind.wrap .i64 a1)) (fun b1=>
 Ar .i64 (q+1) (fun c1=>
 p [int .i64 c1,int .i64 b1,bool s,int .i64 t] u))))))))))
 (aa (decide (r>b))
 (R (tuple #[int .i64 0,bool false]) u)
 (R (tuple #[int .i64 r,bool true]) u)))→p [int .i64 q,int .i64 r,bool s,int .i64 t] u)→
 p [int .i64 0,int .i64 0,bool false,int .i64 0] w)))
theorem vD (a:ByteArray) (b:Int) (w:World) (R:RW) (hh:Kw a b w R):CR 135 #[string a,int .i64 b] w R:=
 aF (fn:=Tryz.f135) (by kernel_rfl) (by kernel_rfl) (by kernel_rfl) (by kernel_rfl) (by kernel_rfl) hh
def KN (a:ByteArray) (w:World) (R:RW):Prop:=
 aa (a.toList==(⟨#[45]⟩:ByteArray).toList)
 (R (tuple #[string ⟨#[]⟩,bool true]) w)
 (∀b:KW,(∀(c:Int) (d:OA) (f g:Nat) (h:Bool) (i:ByteArray) (j:World),(aa (decide (c< (a.size:Int)))
 (Ar .i64 (c+1) (fun k=>
 aa (decide (k≥(a.size:Int)))
 (R (tuple #[string ⟨#[]⟩,bool false]) j)
 ((0:Int)≤c∧c< (a.size:Int)∧
 CP 193 #[int .u8 (btAt a c)] j (fun l m=>
 ∃n,l= .returned (int .i64 n)∧
 aa (decide (n>15))
 (R (tuple #[string ⟨#[]⟩,bool false]) m)
 (Ar .i64 (c+1) (fun o=>
 (0:Int)≤o∧o< (a.size:Int)∧
 CP 193 #[int .u8 (btAt a o)] m (fun p q=>
 ∃r,p= .returned (int .i64 r)∧
 aa (decide (r>15))
 (R (tuple #[string ⟨#[]⟩,bool false]) q)
 (∀s,s=q.drew→
 (0:Int)≤c∧c< (a.size:Int)∧
 Ar .i64 (c+1) (fun t=>
 (0:Int)≤t∧t< (a.size:Int)∧
 CP 193 #[int .u8 (btAt a c)] s (fun u x=>
 ∃y,u= .returned (int .i64 y)∧
 Ar .i64 ((16:Int)*y) (fun z=>
 CP 193 #[int .u8 (btAt a t)] x (fun a1 b1=>
 ∃c1,a1= .returned (int .i64 c1)∧
 Ar .i64 (z+c1) (fun d1=>
 ∀e1,e1=b1.alloc (.cells #[int .u8 (IntKind.wrap .u8 d1)] 5)→
 ∃f1 g1 h1 i1,(Builtin.append_ #[57,57] 57 #[slice d f g,slice (some (nb b1)) 1 1]).run Tryz.prog e1= .ok (slice f1 g1 h1) i1∧
 Ar .i64 (c+2) (fun j1=>
 b [int .i64 j1,slice f1 g1 h1,bool h,string i] i1))))))))))))))
 (∃k1 l1,(convert 57 9 (slice d f g)).run Tryz.prog j= .ok (string k1) l1∧
 R (tuple #[string k1,bool (decide ((f:Int)>0))]) l1))→b [int .i64 c,slice d f g,bool h,string i] j)→
 b [int .i64 0,slice none 0 0,bool false,string ⟨#[]⟩] w)
theorem yl (a:ByteArray) (w:World) (R:RW) (hh:KN a w R):CR 136 #[string a] w R:=
 aF (fn:=Tryz.f136) (by kernel_rfl) (by kernel_rfl) (by kernel_rfl) (by kernel_rfl) (by kernel_rfl) hh
def I9 (a:Int) (w:World) (R:RW):Prop:=
 aa (decide (a≥0))
 (∀b:KW,(∀(c:ByteArray) (d:Int) (f:World),(aa (decide (d>0))
 ((10:Int)≠0∧
 Ar .i64 ((48:Int)+(Int.tmod d 10)) (fun g=>
 ∀h,h=f.alloc (.cells #[int .u8 (IntKind.wrap .u8 g)] 5)→
 ∃i j,(convert 57 9 (slice (some (nb f)) 1 1)).run Tryz.prog h= .ok (string i) j∧
 ((i.size+c.size:Nat):Int)≤IntKind.i64.max∧
 (10:Int)≠0∧
 b [string (i++c),int .i64 (IntKind.wrap .i64 (Int.tdiv d 10))] j))
 (aa (c.toList==(⟨#[]⟩:ByteArray).toList)
 ((10:Int)≠0∧
 Ar .i64 ((48:Int)+(Int.tmod d 10)) (fun k=>
 ∀l,l=f.alloc (.cells #[int .u8 (IntKind.wrap .u8 k)] 5)→
 ∃m n,(convert 57 9 (slice (some (nb f)) 1 1)).run Tryz.prog l= .ok (string m) n∧
 ((m.size+c.size:Nat):Int)≤IntKind.i64.max∧
 (10:Int)≠0∧
 b [string (m++c),int .i64 (IntKind.wrap .i64 (Int.tdiv d 10))] n))
 (R (string c) f)))→b [string c,int .i64 d] f)→
 b [string ⟨#[]⟩,int .i64 a] w)
 (∀o:KW,(∀(p:ByteArray) (q:Int) (r:World),(aa (decide (q<0))
 ((10:Int)≠0∧
 Ar .i64 ((48:Int)- (Int.tmod q 10)) (fun s=>
 ∀t,t=r.alloc (.cells #[int .u8 (IntKind.wrap .u8 s)] 5)→
 ∃u x,(convert 57 9 (slice (some (nb r)) 1 1)).run Tryz.prog t= .ok (string u) x∧
 ((u.size+p.size:Nat):Int)≤IntKind.i64.max∧
 (10:Int)≠0∧
 o [string (u++p),int .i64 (IntKind.wrap .i64 (Int.tdiv q 10))] x))
 ((((⟨#[45]⟩:ByteArray).size+p.size:Nat):Int)≤IntKind.i64.max∧
 R (string ((⟨#[45]⟩:ByteArray)++p)) r))→o [string p,int .i64 q] r)→
 o [string ⟨#[]⟩,int .i64 a] w)
theorem x_ (a:Int) (w:World) (R:RW) (hh:I9 a w R):CR 137 #[int .i64 a] w R:=
 aF (fn:=Tryz.f137) (by kernel_rfl) (by kernel_rfl) (by kernel_rfl) (by kernel_rfl) (by kernel_rfl) hh
def Jc (a:ByteArray) (w:World) (R:RW):Prop:=
 ∀b:KW,(∀(c:Int) (d:ByteArray) (f:World),(aa (decide (c< (a.size:Int)))
 (∀g,g=f.drew→
 (0:Int)≤c∧c< (a.size:Int)∧
 (16:Int)≠0∧
 (0:Int)≤(IntKind.wrap .u8 (Int.tdiv (btAt a c) 16))∧(IntKind.wrap .u8 (Int.tdiv (btAt a c) 16)) < ((⟨#[48,49,50,51,52,53,54,55,56,57,97,98,99,100,101,102]⟩:ByteArray).size:Int)∧
 (0:Int)≤c∧c< (a.size:Int)∧
 (16:Int)≠0∧
 (0:Int)≤(Int.tmod (btAt a c) 16)∧(Int.tmod (btAt a c) 16) < ((⟨#[48,49,50,51,52,53,54,55,56,57,97,98,99,100,101,102]⟩:ByteArray).size:Int)∧
 ∀h,h=g.alloc (.cells #[int .u8 (btAt ⟨#[48,49,50,51,52,53,54,55,56,57,97,98,99,100,101,102]⟩ (IntKind.wrap .u8 (Int.tdiv (btAt a c) 16))),int .u8 (btAt ⟨#[48,49,50,51,52,53,54,55,56,57,97,98,99,100,101,102]⟩ (Int.tmod (btAt a c) 16))] 5)→
 ∃i j,(convert 57 9 (slice (some (nb g)) 2 2)).run Tryz.prog h= .ok (string i) j∧
 ((d.size+i.size:Nat):Int)≤IntKind.i64.max∧
 Ar .i64 (c+1) (fun k=>
 b [int .i64 k,string (d++i)] j))
 (aa (d.toList==(⟨#[]⟩:ByteArray).toList)
 (R (string ⟨#[45]⟩) f)
 (R (string d) f)))→b [int .i64 c,string d] f)→
 b [int .i64 0,string ⟨#[]⟩] w
theorem xb (a:ByteArray) (w:World) (R:RW) (hh:Jc a w R):CR 138 #[string a] w R:=
 aF (fn:=Tryz.f138) (by kernel_rfl) (by kernel_rfl) (by kernel_rfl) (by kernel_rfl) (by kernel_rfl) hh
def KA (a b c:Int) (w:World) (R:RW):Prop:=
 aa (decide (a≥b))
 (R (bool (decide (a≤c))) w)
 (R (bool false) w)
theorem yI (a b c:Int) (w:World) (R:RW) (hh:KA a b c w R):CR 139 #[int .i64 a,int .i64 b,int .i64 c] w R:=
 aF (fn:=Tryz.f139) (by kernel_rfl) (by kernel_rfl) (by kernel_rfl) (by kernel_rfl) (by kernel_rfl) hh
def JN (a:ByteArray) (w:World) (R:RW):Prop:=
 CP 232 #[string a,string ⟨#[32]⟩] w (fun b c=>
 ∃d f g,b= .returned (slice d f g)∧
 R (slice d f g) c)
theorem uX (a:ByteArray) (w:World) (R:RW) (hh:JN a w R):CR 186 #[string a] w R:=
 aF (fn:=Tryz.f186) (by kernel_rfl) (by kernel_rfl) (by kernel_rfl) (by kernel_rfl) (by kernel_rfl) hh
def JD (a:OA) (b:ByteArray) (c:OA) (d f:Nat) (w:World) (R:RW):Prop:=
 aa (b.toList==(⟨#[118,111,99,97,98]⟩:ByteArray).toList)
 (CP 233 #[pointer a,slice c d f] w (fun g h=>
 ∃i,g= .returned (bool i)∧
 R (tuple #[int .i64 0,bool i]) h))
 (aa (b.toList==(⟨#[109,101,114,103,101]⟩:ByteArray).toList)
 (CP 234 #[pointer a,slice c d f] w (fun j k=>
 ∃l,j= .returned (bool l)∧
 R (tuple #[int .i64 1,bool l]) k))
 (aa (b.toList==(⟨#[116,111,107,101,110]⟩:ByteArray).toList)
 (CP 235 #[pointer a,slice c d f] w (fun m n=>
 ∃o,m= .returned (bool o)∧
 R (tuple #[int .i64 1,bool o]) n))
 (aa (b.toList==(⟨#[115,112,101,99,105,97,108]⟩:ByteArray).toList)
 (CP 236 #[pointer a,slice c d f] w (fun p q=>
 ∃r,p= .returned (bool r)∧
 R (tuple #[int .i64 2,bool r]) q))
 (aa (b.toList==(⟨#[99,108,97,115,115]⟩:ByteArray).toList)
 (CP 237 #[pointer a,slice c d f] w (fun s t=>
 ∃u,s= .returned (bool u)∧
 R (tuple #[int .i64 3,bool u]) t))
 (aa (b.toList==(⟨#[106,111,105,110]⟩:ByteArray).toList)
 (CP 238 #[pointer a,slice c d f] w (fun x y=>
 ∃z,x= .returned (bool z)∧
 R (tuple #[int .i64 4,bool z]) y))
 (R (tuple #[int .i64 0,bool false]) w))))))
theorem wC (a:OA) (b:ByteArray) (c:OA) (d f:Nat) (w:World) (R:RW) (hh:JD a b c d f w R):CR 187 #[pointer a,string b,slice c d f] w R:=
 aF (fn:=Tryz.f187) (by kernel_rfl) (by kernel_rfl) (by kernel_rfl) (by kernel_rfl) (by kernel_rfl) hh
def Il (a:Int) (w:World) (R:RW):Prop:=
 aa (decide (a≥48))
 (aa (decide (a≤57))
 (Ar .u8 (a-48) (fun b=>
 R (int .i64 (IntKind.wrap .i64 b)) w))
 (aa (decide (a≥97))
 (aa (decide (a≤102))
 (Ar .u8 (a-97) (fun c=>
 Ar .i64 ((IntKind.wrap .i64 c:Int)+10) (fun d=>
 R (int .i64 d) w)))
 (R (int .i64 16) w))
 (R (int .i64 16) w)))
 (aa (decide (a≥97))
 (aa (decide (a≤102))
 (Ar .u8 (a-97) (fun f=>
 Ar .i64 ((IntKind.wrap .i64 f:Int)+10) (fun g=>
 R (int .i64 g) w)))
 (R (int .i64 16) w))
 (R (int .i64 16) w))
theorem xw (a:Int) (w:World) (R:RW) (hh:Il a w R):CR 193 #[int .u8 a] w R:=
 aF (fn:=Tryz.f193) (by kernel_rfl) (by kernel_rfl) (by kernel_rfl) (by kernel_rfl) (by kernel_rfl) hh
def J_ (a b:OA) (c d:Nat) (w:World) (R:RW):Prop:=
 aa ((c:Int)==1)
 (ae b (fun f=>
 (0:Int)≤0∧0< (c:Int)∧
 ∃g,w.cell? (f.add ((0:Int).toNat*1))=some (string g)∧
 ae a (fun h=>
 (bool (g.toList==(⟨#[114,97,110,107,115]⟩:ByteArray).toList)).oneCell'=true∧(∃u,w.cell? ((h.add 0).add 0)=some u)∧w.frozen? ((h.add 0).add 0)=false∧
 ∀i,i=(w.setCell ((h.add 0).add 0) (bool (g.toList==(⟨#[114,97,110,107,115]⟩:ByteArray).toList)))→
 aa ((c:Int)==1)
 (ae b (fun j=>
 (0:Int)≤0∧0< (c:Int)∧
 ∃k,i.cell? (j.add ((0:Int).toNat*1))=some (string k)∧
 aa (k.toList==(⟨#[114,97,110,107,115]⟩:ByteArray).toList)
 (R (bool true) i)
 (ae b (fun l=>
 (0:Int)≤0∧0< (c:Int)∧
 ∃m,i.cell? (l.add ((0:Int).toNat*1))=some (string m)∧
 R (bool (m.toList==(⟨#[109,101,114,103,101,115]⟩:ByteArray).toList)) i))))
 (R (bool false) i))))
 (ae a (fun n=>
 (bool false).oneCell'=true∧(∃u,w.cell? ((n.add 0).add 0)=some u)∧w.frozen? ((n.add 0).add 0)=false∧
 ∀o,o=(w.setCell ((n.add 0).add 0) (bool false))→
 aa ((c:Int)==1)
 (ae b (fun p=>
 (0:Int)≤0∧0< (c:Int)∧
 ∃q,o.cell? (p.add ((0:Int).toNat*1))=some (string q)∧
 aa (q.toList==(⟨#[114,97,110,107,115]⟩:ByteArray).toList)
 (R (bool true) o)
 (ae b (fun r=>
 (0:Int)≤0∧0< (c:Int)∧
 ∃s,o.cell? (r.add ((0:Int).toNat*1))=some (string s)∧
 R (bool (s.toList==(⟨#[109,101,114,103,101,115]⟩:ByteArray).toList)) o))))
 (R (bool false) o)))
theorem xI (a b:OA) (c d:Nat) (w:World) (R:RW) (hh:J_ a b c d w R):CR 233 #[pointer a,slice b c d] w R:=
 aF (fn:=Tryz.f233) (by kernel_rfl) (by kernel_rfl) (by kernel_rfl) (by kernel_rfl) (by kernel_rfl) hh
def IB (a b:OA) (c d:Nat) (w:World) (R:RW):Prop:=
 CP 268 #[slice b c d,int .i64 2] w (fun f g=>
 ∃h i j k,f= .returned (tuple #[slice h i j,bool k])∧
 ∀l:KW,(∀m:World,(R (bool k) m)→l [] m)→
 aa k
 (∀n,n=g.drew→
 ae a (fun o=>
 ∃p q r,n.cell? ((o.add 0).add 1)=some (slice p q r)∧
 ae h (fun s=>
 (0:Int)≤0∧0< (i:Int)∧
 ∃t,n.cell? (s.add ((0:Int).toNat*1))=some (int .i64 t)∧
 ae h (fun x=>
 (0:Int)≤1∧1< (i:Int)∧
 ∃y,n.cell? (x.add ((1:Int).toNat*1))=some (int .i64 y)∧
 ∀z,z=n.alloc (.cells #[int .i64 t,int .i64 y] 85)→
 (z.cell? ((o.add 0).add 1)=some (slice p q r)∧True)∧
 ∃a1 b1 c1 d1,(Builtin.append_ #[33,33] 33 #[slice p q r,slice (some (nb n)) 1 1]).run Tryz.prog z= .ok (slice a1 b1 c1) d1∧
 ae a (fun e1=>
 (slice a1 b1 c1).oneCell'=true∧(∃u,d1.cell? ((e1.add 0).add 1)=some u)∧d1.frozen? ((e1.add 0).add 1)=false∧
 ∀f1,f1=(d1.setCell ((e1.add 0).add 1) (slice a1 b1 c1))→
 l [] f1)))))
 (l [] g))
theorem xa (a b:OA) (c d:Nat) (w:World) (R:RW) (hh:IB a b c d w R):CR 234 #[pointer a,slice b c d] w R:=
 aF (fn:=Tryz.f234) (by kernel_rfl) (by kernel_rfl) (by kernel_rfl) (by kernel_rfl) (by kernel_rfl) hh
def IX (a b:OA) (c d:Nat) (w:World) (R:RW):Prop:=
 aa ((c:Int) != 1)
 (R (bool false) w)
 (ae b (fun f=>
 (0:Int)≤0∧0< (c:Int)∧
 ∃g,w.cell? (f.add ((0:Int).toNat*1))=some (string g)∧
 CP 269 #[string g] w (fun h i=>
 ∃j k,h= .returned (tuple #[string j,bool k])∧
 ae a (fun l=>
 ∃m n o,i.cell? ((l.add 0).add 2)=some (slice m n o)∧
 ∀p,p=i.alloc (.cells #[string j] 9)→
 ∃q r s t,(Builtin.append_ #[32,32] 32 #[slice m n o,slice (some (nb i)) 1 1]).run Tryz.prog p= .ok (slice q r s) t∧
 ae a (fun x=>
 (slice q r s).oneCell'=true∧(∃u,t.cell? ((x.add 0).add 2)=some u)∧t.frozen? ((x.add 0).add 2)=false∧
 ∀y,y=(t.setCell ((x.add 0).add 2) (slice q r s))→
 R (bool k) y)))))
theorem xx (a b:OA) (c d:Nat) (w:World) (R:RW) (hh:IX a b c d w R):CR 235 #[pointer a,slice b c d] w R:=
 aF (fn:=Tryz.f235) (by kernel_rfl) (by kernel_rfl) (by kernel_rfl) (by kernel_rfl) (by kernel_rfl) hh
def Ia (a b:OA) (c d:Nat) (w:World) (R:RW):Prop:=
 aa ((c:Int) != 2)
 (R (bool false) w)
 (ae b (fun f=>
 (0:Int)≤0∧0< (c:Int)∧
 ∃g,w.cell? (f.add ((0:Int).toNat*1))=some (string g)∧
 CP 270 #[string g,int .i64 1073741824] w (fun h i=>
 ∃j k,h= .returned (tuple #[int .i64 j,bool k])∧
 ae b (fun l=>
 (0:Int)≤1∧1< (c:Int)∧
 ∃m,i.cell? (l.add ((1:Int).toNat*1))=some (string m)∧
 CP 269 #[string m] i (fun n o=>
 ∃p q,n= .returned (tuple #[string p,bool q])∧
 ae a (fun r=>
 ∃s t x,o.cell? ((r.add 0).add 3)=some (slice s t x)∧
 ∀y,y=o.alloc (.cells #[int .i64 j,string p] 87)→
 ∃z a1 b1 c1,(Builtin.append_ #[25,25] 25 #[slice s t x,slice (some (nb o)) 1 1]).run Tryz.prog y= .ok (slice z a1 b1) c1∧
 ae a (fun d1=>
 (slice z a1 b1).oneCell'=true∧(∃u,c1.cell? ((d1.add 0).add 3)=some u)∧c1.frozen? ((d1.add 0).add 3)=false∧
 ∀e1,e1=(c1.setCell ((d1.add 0).add 3) (slice z a1 b1))→
 aa k
 (R (bool q) e1)
 (R (bool false) e1))))))))
theorem wT (a b:OA) (c d:Nat) (w:World) (R:RW) (hh:Ia a b c d w R):CR 236 #[pointer a,slice b c d] w R:=
 aF (fn:=Tryz.f236) (by kernel_rfl) (by kernel_rfl) (by kernel_rfl) (by kernel_rfl) (by kernel_rfl) hh
def JT (a b:OA) (c d:Nat) (w:World) (R:RW):Prop:=
 CP 268 #[slice b c d,int .i64 3] w (fun f g=>
 ∃h i j k,f= .returned (tuple #[slice h i j,bool k])∧
 ∀l:KW,(∀m:World,(R (bool k) m)→l [] m)→
 aa k
 (∀n,n=g.drew→
 ae a (fun o=>
 ∃p q r,n.cell? ((o.add 0).add 4)=some (slice p q r)∧
 ae h (fun s=>
 (0:Int)≤0∧0< (i:Int)∧
 ∃t,n.cell? (s.add ((0:Int).toNat*1))=some (int .i64 t)∧
 ae h (fun x=>
 (0:Int)≤1∧1< (i:Int)∧
 ∃y,n.cell? (x.add ((1:Int).toNat*1))=some (int .i64 y)∧
 ae h (fun z=>
 (0:Int)≤2∧2< (i:Int)∧
 ∃a1,n.cell? (z.add ((2:Int).toNat*1))=some (int .i64 a1)∧
 ∀b1,b1=n.alloc (.cells #[int .i64 t,int .i64 y,int .i64 a1] 89)→
 (b1.cell? ((o.add 0).add 4)=some (slice p q r)∧True)∧
 ∃c1 d1 e1 f1,(Builtin.append_ #[23,23] 23 #[slice p q r,slice (some (nb n)) 1 1]).run Tryz.prog b1= .ok (slice c1 d1 e1) f1∧
 ae a (fun g1=>
 (slice c1 d1 e1).oneCell'=true∧(∃u,f1.cell? ((g1.add 0).add 4)=some u)∧f1.frozen? ((g1.add 0).add 4)=false∧
 ∀h1,h1=(f1.setCell ((g1.add 0).add 4) (slice c1 d1 e1))→
 l [] h1))))))
 (l [] g))
theorem vA (a b:OA) (c d:Nat) (w:World) (R:RW) (hh:JT a b c d w R):CR 237 #[pointer a,slice b c d] w R:=
 aF (fn:=Tryz.f237) (by kernel_rfl) (by kernel_rfl) (by kernel_rfl) (by kernel_rfl) (by kernel_rfl) hh
def Kl (a b:OA) (c d:Nat) (w:World) (R:RW):Prop:=
 CP 268 #[slice b c d,int .i64 2] w (fun f g=>
 ∃h i j k,f= .returned (tuple #[slice h i j,bool k])∧
 ∀l:KW,(∀m:World,(R (bool k) m)→l [] m)→
 aa k
 (∀n,n=g.drew→
 ae a (fun o=>
 ∃p q r,n.cell? ((o.add 0).add 5)=some (slice p q r)∧
 ae h (fun s=>
 (0:Int)≤0∧0< (i:Int)∧
 ∃t,n.cell? (s.add ((0:Int).toNat*1))=some (int .i64 t)∧
 ae h (fun x=>
 (0:Int)≤1∧1< (i:Int)∧
 ∃y,n.cell? (x.add ((1:Int).toNat*1))=some (int .i64 y)∧
 ∀z,z=n.alloc (.cells #[int .i64 t,int .i64 y] 170)→
 (z.cell? ((o.add 0).add 5)=some (slice p q r)∧True)∧
 ∃a1 b1 c1 d1,(Builtin.append_ #[24,24] 24 #[slice p q r,slice (some (nb n)) 1 1]).run Tryz.prog z= .ok (slice a1 b1 c1) d1∧
 ae a (fun e1=>
 (slice a1 b1 c1).oneCell'=true∧(∃u,d1.cell? ((e1.add 0).add 5)=some u)∧d1.frozen? ((e1.add 0).add 5)=false∧
 ∀f1,f1=(d1.setCell ((e1.add 0).add 5) (slice a1 b1 c1))→
 l [] f1)))))
 (l [] g))
theorem u_ (a b:OA) (c d:Nat) (w:World) (R:RW) (hh:Kl a b c d w R):CR 238 #[pointer a,slice b c d] w R:=
 aF (fn:=Tryz.f238) (by kernel_rfl) (by kernel_rfl) (by kernel_rfl) (by kernel_rfl) (by kernel_rfl) hh
def KQ (a:OA) (b c:Nat) (d:Int) (w:World) (R:RW):Prop:=
 aa ((b:Int) != d)
 (R (tuple #[slice none 0 0,bool false]) w)
 (∀f:KW,(∀(g:Int) (h:OA) (i j:Nat) (k:Bool) (l:OA) (m n:Nat) (o:World),(aa (decide (g< (b:Int)))
 (ae a (fun p=>
 (0:Int)≤g∧g< (b:Int)∧
 ∃q,o.cell? (p.add (g.toNat*1))=some (string q)∧
 CP 270 #[string q,int .i64 1073741824] o (fun r s=>
 ∃t u,r= .returned (tuple #[int .i64 t,bool u])∧
 aa (!u)
 (R (tuple #[slice none 0 0,bool false]) s)
 (∀x,x=s.alloc (.cells #[int .i64 t] 3)→
 ∃y z a1 b1,(Builtin.append_ #[28,28] 28 #[slice h i j,slice (some (nb s)) 1 1]).run Tryz.prog x= .ok (slice y z a1) b1∧
 Ar .i64 (g+1) (fun c1=>
 f [int .i64 c1,slice y z a1,bool k,slice l m n] b1)))))
 (R (tuple #[slice h i j,bool true]) o))→f [int .i64 g,slice h i j,bool k,slice l m n] o)→
 f [int .i64 0,slice none 0 0,bool false,slice none 0 0] w)
theorem wO (a:OA) (b c:Nat) (d:Int) (w:World) (R:RW) (hh:KQ a b c d w R):CR 268 #[slice a b c,int .i64 d] w R:=
 aF (fn:=Tryz.f268) (by kernel_rfl) (by kernel_rfl) (by kernel_rfl) (by kernel_rfl) (by kernel_rfl) hh
def IQ (a:ByteArray) (w:World) (R:RW):Prop:=
 aa (a.toList==(⟨#[45]⟩:ByteArray).toList)
 (R (tuple #[string ⟨#[]⟩,bool true]) w)
 (aa (a.toList==(⟨#[]⟩:ByteArray).toList)
 (R (tuple #[string ⟨#[]⟩,bool false]) w)
 ((2:Int)≠0∧
 aa ((Int.tmod (a.size:Int) 2:Int) != 0)
 (R (tuple #[string ⟨#[]⟩,bool false]) w)
 ((2:Int)≠0∧
 ∃b c d f,(Instr.makeSlice 57 (int .i64 0) (int .i64 (IntKind.wrap .i64 (Int.tdiv (a.size:Int) 2)))).run Tryz.prog w= .ok (slice b c d) f∧
 ∀g:KW,(∀(h:Int) (i:OA) (j k:Nat) (l:Bool) (m:ByteArray) (n:World),(aa (decide (h< (a.size:Int)))
 (∀o,o=n.drew→
 (0:Int)≤h∧h< (a.size:Int)∧
 Ar .i64 (h+1) (fun p=>
 (0:Int)≤p∧p< (a.size:Int)∧
 CP 295 #[int .u8 (btAt a h)] o (fun q r=>
 ∃s,q= .returned (int .i64 s)∧
 CP 295 #[int .u8 (btAt a p)] r (fun t u=>
 ∃x,t= .returned (int .i64 x)∧
 aa (decide (s<0))
 (R (tuple #[string ⟨#[]⟩,bool false]) u)
 (aa (decide (x<0))
 (R (tuple #[string ⟨#[]⟩,bool false]) u)
 (Ar .i64 (s*16) (fun y=>
 Ar .i64 (y+x) (fun z=>
 ∀a1,a1=u.alloc (.cells #[int .u8 (IntKind.wrap .u8 z)] 5)→
 ∃b1 c1 d1 e1,(Builtin.append_ #[57,57] 57 #[slice i j k,slice (some (nb u)) 1 1]).run Tryz.prog a1= .ok (slice b1 c1 d1) e1∧
 Ar .i64 (h+2) (fun f1=>
 g [int .i64 f1,slice b1 c1 d1,bool l,string m] e1)))))))))
 (∃g1 h1,(convert 57 9 (slice i j k)).run Tryz.prog n= .ok (string g1) h1∧
 R (tuple #[string g1,bool true]) h1))→g [int .i64 h,slice i j k,bool l,string m] n)→
 g [int .i64 0,slice b c d,bool false,string ⟨#[]⟩] f)))
theorem xL (a:ByteArray) (w:World) (R:RW) (hh:IQ a w R):CR 269 #[string a] w R:=
 aF (fn:=Tryz.f269) (by kernel_rfl) (by kernel_rfl) (by kernel_rfl) (by kernel_rfl) (by kernel_rfl) hh
def JF (a:ByteArray) (b:Int) (w:World) (R:RW):Prop:=
 CP 296 #[string a] w (fun c d=>
 ∃f g,c= .returned (tuple #[int .i64 f,g])∧
 ∃h i,(do eqGuard .neq 372 (.tmp 13) (.const (Value.nilIface)) g Value.nilIface;binOp .neq 372 g Value.nilIface).run Tryz.prog d= .ok (bool h) i∧
 aa h
 (R (tuple #[int .i64 0,bool false]) i)
 (aa (decide (f<0))
 (R (tuple #[int .i64 0,bool false]) i)
 (aa (decide (f>b))
 (R (tuple #[int .i64 0,bool false]) i)
 (CP 297 #[int .i64 f] i (fun j k=>
 ∃l,j= .returned (string l)∧
 aa (!(l.toList==a.toList))
 (R (tuple #[int .i64 0,bool false]) k)
 (R (tuple #[int .i64 f,bool true]) k))))))
theorem xX (a:ByteArray) (b:Int) (w:World) (R:RW) (hh:JF a b w R):CR 270 #[string a,int .i64 b] w R:=
 aF (fn:=Tryz.f270) (by kernel_rfl) (by kernel_rfl) (by kernel_rfl) (by kernel_rfl) (by kernel_rfl) hh
def KV (a:Int) (w:World) (R:RW):Prop:=
 CP 315 #[string ⟨#[48,49,50,51,52,53,54,55,56,57,97,98,99,100,101,102]⟩,int .u8 a] w (fun b c=>
 ∃d,b= .returned (int .i64 d)∧
 R (int .i64 d) c)
theorem u0 (a:Int) (w:World) (R:RW) (hh:KV a w R):CR 295 #[int .u8 a] w R:=
 aF (fn:=Tryz.f295) (by kernel_rfl) (by kernel_rfl) (by kernel_rfl) (by kernel_rfl) (by kernel_rfl) hh
def Jz (a:Int) (w:World) (R:RW):Prop:=
 CP 318 #[int .i64 a] w (fun b c=>
 ∃d,b= .returned (string d)∧
 R (string d) c)
theorem xu (a:Int) (w:World) (R:RW) (hh:Jz a w R):CR 297 #[int .i64 a] w R:=
 aF (fn:=Tryz.f297) (by kernel_rfl) (by kernel_rfl) (by kernel_rfl) (by kernel_rfl) (by kernel_rfl) hh
end Go.Proofs.YtijbcdiffjjefaaGreatDoor.Eng
