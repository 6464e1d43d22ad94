/- Sifted out of this repo's own templates by tool/sift.py. -/
import Derived.Test.YtdlcfegnaphclaaGreatZrVc
import Derived.Below
import Derived.Lib.SplitLaws
import Derived.Lib.CountLaws
import Derived.Lib.Split
import Derived.Lib.Join
import Derived.Lib.ItoaNum
import Derived.Lib.AtoiAll
import Derived.Lib.ItoaMem
import Derived.Laws.MakeOwn
import Derived.Lib.AppendIntMem
import Derived.Lib.AtoiErrMem
import Derived.Lib.AppendStr
import Derived.Shelf.Strings.Builder1
import Derived.WideShapes
import Derived.ChangeSame
import Derived.MapKept
import Derived.Carry
set_option linter.unusedVariables false
set_option linter.unusedSimpArgs false
set_option maxRecDepth 100000
namespace Go.Proofs.YtdlcfegnaphclaaGreat.Eng
open Go Go.RowKit Go.ChangeShapes Go.WideShapes
def OH:List UInt8:=[48,49,50,51,52,53,54,55,56,57,97,98,99,100,101,102]
def hx (n:Nat):UInt8:=OH.getD n 0
def step (n:Nat) (b:UInt8):Nat:=10*n+(b.toNat-48)
abbrev Bs:=List UInt8
structure ar where
 ranked:Bool:=false
 merges:List (Int×Int):=[]
 tokens:List Bs:=[]
 specials:List (Int×Bs):=[]
 classes:List (Int×Int×Int):=[]
 joins:List (Int×Int):=[]
 deriving DecidableEq
def eN (m:Int×Int):Bool:=decide (0≤m.1∧m.1≤999∧0≤m.2∧m.2≤999)
def gh (s:Bs):Bool:=decide (2≤s.length∧s.length≤64)
def bg (x:Int×Bs):Bool:=decide (0≤x.1∧x.1≤1073741824∧1≤x.2.length∧x.2.length≤64)
def aW (c:Int×Int×Int):Bool:=decide (0≤c.1∧c.1≤c.2.1∧c.2.1≤255∧0≤c.2.2∧c.2.2≤15)
def cB (j:Int×Int):Bool:=decide (0≤j.1∧j.1≤15∧0≤j.2∧j.2≤15)
def cd {α:Type} (l:List α) (most:Nat) (may:α→Bool):Bool:=decide (l.length≤most)&&l.all may
def ar.right (s:ar):Bool:=
 (if s.ranked then s.merges.isEmpty else s.tokens.isEmpty)&&cd s.merges 744 eN&&cd s.tokens 744 gh&&cd s.specials 32 bg&&cd s.classes 64 aW&&cd s.joins 64 cB
theorem iD {s:ar} (h:s.right=true):(if s.ranked then s.merges.isEmpty else s.tokens.isEmpty)=true∧cd s.merges 744 eN=true∧cd s.tokens 744 gh=true∧cd s.specials 32 bg=true∧cd s.classes 64 aW=true∧cd s.joins 64 cB=true:=by
 unfold ar.right at h;simp only [Bool.and_eq_true]at h;obtain⟨⟨⟨⟨⟨h1,h2⟩,h3⟩,h4⟩,h5⟩,h6⟩:=h;exact⟨h1,h2,h3,h4,h5,h6⟩
abbrev lK:TypeId:=5
abbrev jW:TypeId:=97
theorem Ey:(Tryz.prog.info? lK).map (fun i=>(i.zero,i.size,i.bytes))=some (some (.int .u8 0),1,1):=by kernel_rfl
theorem mC:Tryz.prog.underlying jW=some (.slice lK):=by kernel_rfl
abbrev iT:TypeId:=9
theorem ud:Tryz.prog.underlying iT=some .string:=by kernel_rfl
theorem Gh:Tryz.prog.underlying lK=some (.int .u8):=by kernel_rfl
abbrev nt:TypeId:=33
theorem nf:Tryz.prog.underlying nt=some (.slice iT):=by kernel_rfl
theorem mI:(Tryz.prog.info? iT).map (fun i=>(i.zero,i.size,i.bytes))=some (some (.string ⟨#[]⟩),1,16):=by kernel_rfl
def Rw {α:Type} (enc:α→List Value) (sz:Nat) (w:World) (a:Option Addr) (xs:List α):Prop:=∀(j:Nat) (x:α),xs[j]? =some x→∃p,a=some p∧p.block<w.heap.size∧∀(k:Nat) (v:Value),(enc x)[k]? =some v→w.cell? ((p.add (j*sz)).add k)=some v
theorem Rw.on {α:Type} {enc:α→List Value} {sz:Nat} {w w':World} {a:Option Addr} {xs:List α} (h:Rw enc sz w a xs) (hb:Below w.heap.size w w'):Rw enc sz w' a xs:=by
 intro j x hj;obtain⟨p,rfl,hp,hc⟩:=h j x hj;refine⟨p,rfl,Nat.lt_of_lt_of_le hp hb.size,fun k v hk=>?_⟩;rw [hb.cell (by rw [ax,ax];exact hp)];exact hc k v hk
theorem ay (a:Addr):a.add 0=a:=by simp [Addr.add]
def bE (m:Int×Int):List Value:=[.int .i64 m.1,.int .i64 m.2]
def eJ (s:Bs):List Value:=[.string (str s)]
def aH (x:Int×Bs):List Value:=[.int .i64 x.1,.string (str x.2)]
def cM (c:Int×Int×Int):List Value:=[.int .i64 c.1,.int .i64 c.2.1,.int .i64 c.2.2]
theorem dk (n lo hi:Int) (w:World):CP 178 #[.int .i64 n,.int .i64 lo,.int .i64 hi] w fun e w'=>e= .returned (.bool (decide (lo≤n∧n≤hi)))∧Below w.heap.size w w':=by
 refine aR (xV n lo hi w (fun v w'=>v= .bool (decide (lo≤n∧n≤hi))∧Below w.heap.size w w') ?_) (by rintro v w' ⟨rfl,h⟩;exact⟨rfl,h⟩);refine ac.mk ?_ ?_
 ·intro h;have h:=of_decide_eq_true h;refine⟨?_,Below.refl _ _⟩;congr 1;exact decide_eq_decide.2 ⟨fun e=>⟨by omega,e⟩,fun e=>e.2⟩
 ·intro h;have h:=of_decide_eq_false h;refine⟨?_,Below.refl _ _⟩;rw [decide_eq_false (by omega)]
theorem pG (m:Int×Int) (w:World):CP 130 #[.agg #[.int .i64 m.1,.int .i64 m.2]] w fun e w'=>e= .returned (.bool (eN m))∧Below w.heap.size w w':=by
 refine aR (yq m.1 m.2 w (fun v w'=>v= .bool (eN m)∧Below w.heap.size w w') ?_) (by rintro v w' ⟨rfl,h⟩;exact⟨rfl,h⟩);rintro w1 rfl;have hb:=ag w (.cells #[Value.int .i64 m.1,Value.int .i64 m.2] 118);refine⟨m.1,by rw [aC,aY];rfl,?_⟩;refine(dk m.1 0 999 _).mono ?_;rintro e w2 ⟨rfl,h2⟩;refine⟨_,rfl,ac.mk ?_ ?_⟩
 ·intro h;have h:=of_decide_eq_true h;refine⟨m.2,by rw [aC,h2.cell (by rw [av];exact Nat.lt_succ_self _),aY];rfl,?_⟩;refine(dk m.2 0 999 w2).mono ?_;rintro e w3 ⟨rfl,h3⟩;refine⟨_,rfl,?_,ae hb (ae h2 h3)⟩;congr 1;unfold eN;exact decide_eq_decide.2 (by omega)
 ·intro h;have h:=of_decide_eq_false h;refine⟨?_,ae hb h2⟩;congr 1;unfold eN;exact(decide_eq_false (by omega)).symm
theorem qj (m:Int×Int) (w:World):CP 138 #[.agg #[.int .i64 m.1,.int .i64 m.2]] w fun e w'=>e= .returned (.bool (cB m))∧Below w.heap.size w w':=by
 refine aR (xw m.1 m.2 w (fun v w'=>v= .bool (cB m)∧Below w.heap.size w w') ?_) (by rintro v w' ⟨rfl,h⟩;exact⟨rfl,h⟩);rintro w1 rfl;have hb:=ag w (.cells #[Value.int .i64 m.1,Value.int .i64 m.2] 218);refine⟨m.1,by rw [aC,aY];rfl,?_⟩;refine(dk m.1 0 15 _).mono ?_;rintro e w2 ⟨rfl,h2⟩;refine⟨_,rfl,ac.mk ?_ ?_⟩
 ·intro h;have h:=of_decide_eq_true h;refine⟨m.2,by rw [aC,h2.cell (by rw [av];exact Nat.lt_succ_self _),aY];rfl,?_⟩;refine(dk m.2 0 15 w2).mono ?_;rintro e w3 ⟨rfl,h3⟩;refine⟨_,rfl,?_,ae hb (ae h2 h3)⟩;congr 1;unfold cB;exact decide_eq_decide.2 (by omega)
 ·intro h;have h:=of_decide_eq_false h;refine⟨?_,ae hb h2⟩;congr 1;unfold cB;exact(decide_eq_false (by omega)).symm
theorem pC (s:Bs) (w:World):CP 132 #[.string (str s)] w fun e w'=>e= .returned (.bool (gh s))∧Below w.heap.size w w':=by
 refine aR (vT (str s) w (fun v w'=>v= .bool (gh s)∧Below w.heap.size w w') ?_) (by rintro v w' ⟨rfl,h⟩;exact⟨rfl,h⟩);refine(dk _ 2 64 w).mono ?_;rintro e w2 ⟨rfl,h2⟩;refine⟨_,rfl,?_,h2⟩;congr 1;unfold gh;rw [bO];exact decide_eq_decide.2 (by omega)
theorem mP (x:Int×Bs) (w:World):CP 134 #[.agg #[.int .i64 x.1,.string (str x.2)]] w fun e w'=>e= .returned (.bool (bg x))∧Below w.heap.size w w':=by
 refine aR (xX x.1 (str x.2) w (fun v w'=>v= .bool (bg x)∧Below w.heap.size w w') ?_) (by rintro v w' ⟨rfl,h⟩;exact⟨rfl,h⟩);rintro w1 rfl;have hb:=ag w (.cells #[Value.int .i64 x.1,Value.string (str x.2)] 75);refine⟨x.1,by rw [aC,aY];rfl,?_⟩;refine(dk x.1 0 1073741824 _).mono ?_;rintro e w2 ⟨rfl,h2⟩;refine⟨_,rfl,ac.mk ?_ ?_⟩
 ·intro h;have h:=of_decide_eq_true h;refine⟨str x.2,by rw [aC,h2.cell (by rw [av];exact Nat.lt_succ_self _),aY];rfl,?_⟩;refine(dk _ 1 64 w2).mono ?_;rintro e w3 ⟨rfl,h3⟩;refine⟨_,rfl,?_,ae hb (ae h2 h3)⟩;congr 1;unfold bg;rw [bO];exact decide_eq_decide.2 (by omega)
 ·intro h;have h:=of_decide_eq_false h;refine⟨?_,ae hb h2⟩;congr 1;unfold bg;exact(decide_eq_false (by omega)).symm
theorem pB (c:Int×Int×Int) (w:World):CP 136 #[.agg #[.int .i64 c.1,.int .i64 c.2.1,.int .i64 c.2.2]] w fun e w'=>e= .returned (.bool (aW c))∧Below w.heap.size w w':=by
 refine aR (Ag c.1 c.2.1 c.2.2 w (fun v w'=>v= .bool (aW c)∧Below w.heap.size w w') ?_) (by rintro v w' ⟨rfl,h⟩;exact⟨rfl,h⟩);rintro w1 rfl;have hb:=ag w (.cells #[Value.int .i64 c.1,Value.int .i64 c.2.1,Value.int .i64 c.2.2] 215);refine⟨c.1,by rw [aC,aY];rfl,c.2.1,by rw [aC,aY];rfl,?_⟩;refine(dk c.1 0 c.2.1 _).mono ?_;rintro e w2 ⟨rfl,h2⟩;refine⟨_,rfl,ac.mk ?_ ?_⟩
 ·intro h;have h:=of_decide_eq_true h;refine⟨c.2.1,by rw [aC,h2.cell (by rw [av];exact Nat.lt_succ_self _),aY];rfl,ac.mk ?_ ?_⟩
  ·intro h5;have h5:=of_decide_eq_true h5;refine⟨c.2.2,by rw [aC,h2.cell (by rw [av];exact Nat.lt_succ_self _),aY];rfl,?_⟩;refine(dk c.2.2 0 15 w2).mono ?_;rintro e w3 ⟨rfl,h3⟩;refine⟨_,rfl,?_,ae hb (ae h2 h3)⟩;congr 1;unfold aW;exact decide_eq_decide.2 (by omega)
  ·intro h5;have h5:=of_decide_eq_false h5;refine⟨?_,ae hb h2⟩;congr 1;unfold aW;exact(decide_eq_false (by omega)).symm
 ·intro h;have h:=of_decide_eq_false h;refine⟨?_,ae hb h2⟩;congr 1;unfold aW;exact(decide_eq_false (by omega)).symm
theorem bH.mono {C:gf} {f:Value} {args:List Value} {w:World} {R R':Ending→World→Prop} (h:bH C f args w R) (hr:∀e w',R e w'→R' e w'):bH C f args w R':=by
 unfold bH at h⊢;split at h
 ·split at h
  ·exact h.mono hr
  ·obtain⟨v,w',h1,h2⟩:=h;exact⟨v,w',h1,hr _ _ h2⟩
 ·exact h.elim
theorem bT {g:FuncId} {cap:Array Value} {args:List Value} {w:World} {R:Ending→World→Prop} (hg:gr.fns g=true) (h:CP g (args++cap.toList).toArray w R):bH gr (.func (.func g) #[] cap) args w R:=by
 unfold bH;simp only [hg];exact h
def CJ {α:Type} (p:α→Bool) (xs:List α):Int:=match xs.findIdx? p with
 |some i=>(i:Int)
 |none=> -1
theorem kN {α:Type} (p:α→Bool) (xs:List α):decide (CJ p xs≥0)=xs.any p:=by
 unfold CJ;cases h:xs.findIdx? p with
 |none=>
  rw [List.findIdx?_eq_none_iff]at h;have:xs.any p=false:=by
   rw [List.any_eq_false];intro x hx;simpa using h x hx
  rw [this];rfl
 |some i=>
  have hi:=List.findIdx?_eq_some_iff_getElem.1 h;have:xs.any p=true:=List.any_eq_true.2 ⟨xs[i]'hi.1,List.getElem_mem hi.1,hi.2.1⟩;rw [this];exact decide_eq_true (by simp)
theorem iW {α:Type} {p:α→Bool} {xs:List α} {i:Nat} (h:i<xs.length) (hp:p xs[i]=true) (hb:∀j (hj:j<i),p (xs[j]'(by omega))=false):CJ p xs=i:=by
 have:xs.findIdx? p=some i:=List.findIdx?_eq_some_iff_getElem.2 ⟨h,hp,fun j hj=>by simpa using hb j hj⟩;unfold CJ;rw [this]
theorem je {α:Type} {p:α→Bool} {xs:List α} (hb:∀j (hj:j<xs.length),p (xs[j])=false):CJ p xs= -1:=by
 have:xs.findIdx? p=none:=by
  rw [List.findIdx?_eq_none_iff];intro x hx;obtain⟨j,hj,rfl⟩:=List.getElem_of_mem hx;exact hb j hj
 unfold CJ;rw [this]
theorem mB {α:Type} (p:α→Bool) (xs:List α):(!xs.any fun x=> !p x)=xs.all p:=by
 induction xs with
 |nil=>rfl
 |cons x xs ih=>simp only [List.any_cons,List.all_cons,Bool.not_or,Bool.not_not,ih]
theorem yk (a:Option Addr) (c:Nat) (xs:List (Int×Int)) (f:Value) (p:Int×Int→Bool) (w:World) (hr:Rw bE 2 w a xs) (hl:xs.length≤1000000000000000)
  (hf:∀x∈xs,∀w1,Below w.heap.size w w1→bH gr f [.agg #[.int .i64 x.1,.int .i64 x.2]] w1 (fun e w2=>e= .returned (.bool (p x))∧Below w1.heap.size w1 w2)):
  CP 230 #[.slice a xs.length c,f] w fun e w'=>e= .returned (.int .i64 (CJ p xs))∧Below w.heap.size w w':=by
 refine aL (wV a xs.length c f w) ?_;intro I hI;have key:=s' (α:=Int×World) xs.length (fun i x=>(∀j (hj:j<xs.length),j<i→p xs[j]=false)∧Below w.heap.size w x.2) (fun i x=>I [.int .i64 (i:Int),.int .i64 x.1] x.2) ?_ ?_ 0 (Nat.zero_le _) (0,w)
 ·exact key ⟨fun j _ hj=>absurd hj (Nat.not_lt_zero j),Below.refl _ _⟩
 ·rintro⟨y,w1⟩ ⟨hb,hB⟩;exact hI _ _ _ (ac.no (by simp) ⟨by rw [je fun j hj=>hb j hj hj],hB⟩)
 ·rintro i hi ih ⟨y,w1⟩ ⟨hb,hB⟩;obtain⟨q,hq,_,hcx⟩:=(hr.on hB) i _ (List.getElem?_eq_getElem hi);refine hI _ _ _ (ac.yes (by simp;omega) (af.mk q hq ⟨by omega,by omega,xs[i].1,xs[i].2,⟨by have:=hcx 0 _ rfl;simpa [ay]using this,by have:=hcx 1 _ rfl;simpa using this,trivial⟩,?_⟩));refine(hf xs[i] (List.getElem_mem hi) w1 hB).mono ?_;rintro e w2 ⟨rfl,h2⟩;refine⟨_,rfl,ac.mk ?_ ?_⟩
  ·intro hp;exact⟨by rw [iW hi hp fun j hj=>hb j (by omega) hj],ae hB h2⟩
  ·intro hp;refine Ar.ok64 (by omega) (by omega) (ih (y,w2) ⟨?_,ae hB h2⟩);intro j hj hji;by_cases he:j=i
   ·subst he;exact hp
   ·exact hb j hj (by omega)
theorem qH (a:Option Addr) (c:Nat) (xs:List (Int×Int)) (f:Value) (p:Int×Int→Bool) (w:World) (hr:Rw bE 2 w a xs) (hl:xs.length≤1000000000000000)
  (hf:∀x∈xs,∀w1,Below w.heap.size w w1→bH gr f [.agg #[.int .i64 x.1,.int .i64 x.2]] w1 (fun e w2=>e= .returned (.bool (p x))∧Below w1.heap.size w1 w2)):
  CP 176 #[.slice a xs.length c,f] w fun e w'=>e= .returned (.bool (xs.any p))∧Below w.heap.size w w':=by
 refine aL (wu a xs.length c f w) ?_;refine(yk a c xs f p w hr hl hf).mono ?_;rintro e w1 ⟨rfl,h1⟩;exact⟨_,rfl,by rw [kN],h1⟩
theorem Dn (x:Int×Int) (cb:Nat) (may:Value) (p:Int×Int→Bool) (w:World) (hcb:cb<w.heap.size) (hc:w.cell? ⟨cb,0,none⟩=some may) (hm:∀w1,bH gr may [.agg #[.int .i64 x.1,.int .i64 x.2]] w1 (fun e w2=>e= .returned (.bool (p x))∧Below w1.heap.size w1 w2)):
  CP 177 #[.agg #[.int .i64 x.1,.int .i64 x.2],.pointer (some ⟨cb,0,none⟩)] w fun e w'=>e= .returned (.bool (!p x))∧Below w.heap.size w w':=by
 refine aL (Aj (x.1) (x.2) (some ⟨cb,0,none⟩) w) ?_;rintro w1 rfl;have hb:=ag w (.cells #[Value.int .i64 x.1,Value.int .i64 x.2] 118);refine⟨may,by rw [hb.cell hcb];exact hc,x.1,x.2,⟨by rw [aY];rfl,by rw [aC,aY];rfl,trivial⟩,?_⟩;refine(hm _).mono ?_;rintro e w2 ⟨rfl,h2⟩;exact⟨_,rfl,rfl,ae hb h2⟩
theorem tI (a:Option Addr) (c most:Nat) (xs:List (Int×Int)) (w:World) (hr:Rw bE 2 w a xs) (hm:most≤1000000):
  CP 129 #[.slice a xs.length c,.int .i64 most,.func (.func 130) #[] #[]] w fun e w'=>e= .returned (.bool (cd xs most eN))∧Below w.heap.size w w':=by
 refine aL (vo a xs.length c most (.func (.func 130) #[] #[]) w) ?_;rintro w1 rfl;refine ac.mk ?_ ?_
 ·intro h;have h:=of_decide_eq_true h;have hb:=ag w (.cells (Value.cells (.func (.func 130) #[] #[])) 208);refine(qH a c xs _ (fun x=> !eN x) _ (hr.on hb) (by omega) ?_).mono ?_
  ·intro x hx w1 hB;refine bT (by kernel_rfl) ?_;refine Dn x w.heap.size (.func (.func 130) #[] #[]) eN w1 (Nat.lt_of_lt_of_le (by rw [av];exact Nat.lt_succ_self _) hB.size) (by rw [hB.cell (by rw [av];exact Nat.lt_succ_self _),aY];rfl) ?_;intro w2;exact bT (by kernel_rfl) (pG x w2)
  ·rintro e w2 ⟨rfl,h2⟩;refine⟨_,rfl,?_,ae hb h2⟩;rw [mB,cd,decide_eq_true (show xs.length≤most by omega)];rfl
 ·intro h;have h:=of_decide_eq_false h;refine⟨?_,ag _ _⟩;rw [cd,decide_eq_false (show ¬xs.length≤most by omega)];rfl
theorem yS (a:Option Addr) (c:Nat) (xs:List (Bs)) (f:Value) (p:Bs→Bool) (w:World) (hr:Rw eJ 1 w a xs) (hl:xs.length≤1000000000000000)
  (hf:∀x∈xs,∀w1,Below w.heap.size w w1→bH gr f [.string (str x)] w1 (fun e w2=>e= .returned (.bool (p x))∧Below w1.heap.size w1 w2)):
  CP 231 #[.slice a xs.length c,f] w fun e w'=>e= .returned (.int .i64 (CJ p xs))∧Below w.heap.size w w':=by
 refine aL (vS a xs.length c f w) ?_;intro I hI;have key:=s' (α:=Int×World) xs.length (fun i x=>(∀j (hj:j<xs.length),j<i→p xs[j]=false)∧Below w.heap.size w x.2) (fun i x=>I [.int .i64 (i:Int),.int .i64 x.1] x.2) ?_ ?_ 0 (Nat.zero_le _) (0,w)
 ·exact key ⟨fun j _ hj=>absurd hj (Nat.not_lt_zero j),Below.refl _ _⟩
 ·rintro⟨y,w1⟩ ⟨hb,hB⟩;exact hI _ _ _ (ac.no (by simp) ⟨by rw [je fun j hj=>hb j hj hj],hB⟩)
 ·rintro i hi ih ⟨y,w1⟩ ⟨hb,hB⟩;obtain⟨q,hq,_,hcx⟩:=(hr.on hB) i _ (List.getElem?_eq_getElem hi);refine hI _ _ _ (ac.yes (by simp;omega) (af.mk q hq ⟨by omega,by omega,str xs[i],by have:=hcx 0 _ rfl;simpa [ay]using this,?_⟩));refine(hf xs[i] (List.getElem_mem hi) w1 hB).mono ?_;rintro e w2 ⟨rfl,h2⟩;refine⟨_,rfl,ac.mk ?_ ?_⟩
  ·intro hp;exact⟨by rw [iW hi hp fun j hj=>hb j (by omega) hj],ae hB h2⟩
  ·intro hp;refine Ar.ok64 (by omega) (by omega) (ih (y,w2) ⟨?_,ae hB h2⟩);intro j hj hji;by_cases he:j=i
   ·subst he;exact hp
   ·exact hb j hj (by omega)
theorem rI (a:Option Addr) (c:Nat) (xs:List (Bs)) (f:Value) (p:Bs→Bool) (w:World) (hr:Rw eJ 1 w a xs) (hl:xs.length≤1000000000000000)
  (hf:∀x∈xs,∀w1,Below w.heap.size w w1→bH gr f [.string (str x)] w1 (fun e w2=>e= .returned (.bool (p x))∧Below w1.heap.size w1 w2)):
  CP 179 #[.slice a xs.length c,f] w fun e w'=>e= .returned (.bool (xs.any p))∧Below w.heap.size w w':=by
 refine aL (Af a xs.length c f w) ?_;refine(yS a c xs f p w hr hl hf).mono ?_;rintro e w1 ⟨rfl,h1⟩;exact⟨_,rfl,by rw [kN],h1⟩
theorem DV (x:Bs) (cb:Nat) (may:Value) (p:Bs→Bool) (w:World) (hcb:cb<w.heap.size) (hc:w.cell? ⟨cb,0,none⟩=some may) (hm:∀w1,bH gr may [.string (str x)] w1 (fun e w2=>e= .returned (.bool (p x))∧Below w1.heap.size w1 w2)):
  CP 180 #[.string (str x),.pointer (some ⟨cb,0,none⟩)] w fun e w'=>e= .returned (.bool (!p x))∧Below w.heap.size w w':=by
 refine aL (wa (str x) (some ⟨cb,0,none⟩) w) ?_;refine⟨may,hc,?_⟩;refine(hm w).mono ?_;rintro e w2 ⟨rfl,h2⟩;exact⟨_,rfl,rfl,h2⟩
theorem D7 (a:Option Addr) (c most:Nat) (xs:List (Bs)) (w:World) (hr:Rw eJ 1 w a xs) (hm:most≤1000000):
  CP 131 #[.slice a xs.length c,.int .i64 most,.func (.func 132) #[] #[]] w fun e w'=>e= .returned (.bool (cd xs most gh))∧Below w.heap.size w w':=by
 refine aL (yy a xs.length c most (.func (.func 132) #[] #[]) w) ?_;rintro w1 rfl;refine ac.mk ?_ ?_
 ·intro h;have h:=of_decide_eq_true h;have hb:=ag w (.cells (Value.cells (.func (.func 132) #[] #[])) 210);refine(rI a c xs _ (fun x=> !gh x) _ (hr.on hb) (by omega) ?_).mono ?_
  ·intro x hx w1 hB;refine bT (by kernel_rfl) ?_;refine DV x w.heap.size (.func (.func 132) #[] #[]) gh w1 (Nat.lt_of_lt_of_le (by rw [av];exact Nat.lt_succ_self _) hB.size) (by rw [hB.cell (by rw [av];exact Nat.lt_succ_self _),aY];rfl) ?_;intro w2;exact bT (by kernel_rfl) (pC x w2)
  ·rintro e w2 ⟨rfl,h2⟩;refine⟨_,rfl,?_,ae hb h2⟩;rw [mB,cd,decide_eq_true (show xs.length≤most by omega)];rfl
 ·intro h;have h:=of_decide_eq_false h;refine⟨?_,ag _ _⟩;rw [cd,decide_eq_false (show ¬xs.length≤most by omega)];rfl
theorem oE (a:Option Addr) (c:Nat) (xs:List (Int×Bs)) (f:Value) (p:Int×Bs→Bool) (w:World) (hr:Rw aH 2 w a xs) (hl:xs.length≤1000000000000000)
  (hf:∀x∈xs,∀w1,Below w.heap.size w w1→bH gr f [.agg #[.int .i64 x.1,.string (str x.2)]] w1 (fun e w2=>e= .returned (.bool (p x))∧Below w1.heap.size w1 w2)):
  CP 141 #[.slice a xs.length c,f] w fun e w'=>e= .returned (.int .i64 (CJ p xs))∧Below w.heap.size w w':=by
 refine aL (xZ a xs.length c f w) ?_;intro I hI;have key:=s' (α:=Int×World) xs.length (fun i x=>(∀j (hj:j<xs.length),j<i→p xs[j]=false)∧Below w.heap.size w x.2) (fun i x=>I [.int .i64 (i:Int),.int .i64 x.1] x.2) ?_ ?_ 0 (Nat.zero_le _) (0,w)
 ·exact key ⟨fun j _ hj=>absurd hj (Nat.not_lt_zero j),Below.refl _ _⟩
 ·rintro⟨y,w1⟩ ⟨hb,hB⟩;exact hI _ _ _ (ac.no (by simp) ⟨by rw [je fun j hj=>hb j hj hj],hB⟩)
 ·rintro i hi ih ⟨y,w1⟩ ⟨hb,hB⟩;obtain⟨q,hq,_,hcx⟩:=(hr.on hB) i _ (List.getElem?_eq_getElem hi);refine hI _ _ _ (ac.yes (by simp;omega) (af.mk q hq ⟨by omega,by omega,xs[i].1,str xs[i].2,⟨by have:=hcx 0 _ rfl;simpa [ay]using this,by have:=hcx 1 _ rfl;simpa using this,trivial⟩,?_⟩));refine(hf xs[i] (List.getElem_mem hi) w1 hB).mono ?_;rintro e w2 ⟨rfl,h2⟩;refine⟨_,rfl,ac.mk ?_ ?_⟩
  ·intro hp;exact⟨by rw [iW hi hp fun j hj=>hb j (by omega) hj],ae hB h2⟩
  ·intro hp;refine Ar.ok64 (by omega) (by omega) (ih (y,w2) ⟨?_,ae hB h2⟩);intro j hj hji;by_cases he:j=i
   ·subst he;exact hp
   ·exact hb j hj (by omega)
theorem rO (a:Option Addr) (c:Nat) (xs:List (Int×Bs)) (f:Value) (p:Int×Bs→Bool) (w:World) (hr:Rw aH 2 w a xs) (hl:xs.length≤1000000000000000)
  (hf:∀x∈xs,∀w1,Below w.heap.size w w1→bH gr f [.agg #[.int .i64 x.1,.string (str x.2)]] w1 (fun e w2=>e= .returned (.bool (p x))∧Below w1.heap.size w1 w2)):
  CP 181 #[.slice a xs.length c,f] w fun e w'=>e= .returned (.bool (xs.any p))∧Below w.heap.size w w':=by
 refine aL (x_ a xs.length c f w) ?_;refine(oE a c xs f p w hr hl hf).mono ?_;rintro e w1 ⟨rfl,h1⟩;exact⟨_,rfl,by rw [kN],h1⟩
theorem Es (x:Int×Bs) (cb:Nat) (may:Value) (p:Int×Bs→Bool) (w:World) (hcb:cb<w.heap.size) (hc:w.cell? ⟨cb,0,none⟩=some may) (hm:∀w1,bH gr may [.agg #[.int .i64 x.1,.string (str x.2)]] w1 (fun e w2=>e= .returned (.bool (p x))∧Below w1.heap.size w1 w2)):
  CP 182 #[.agg #[.int .i64 x.1,.string (str x.2)],.pointer (some ⟨cb,0,none⟩)] w fun e w'=>e= .returned (.bool (!p x))∧Below w.heap.size w w':=by
 refine aL (vG (x.1) (str x.2) (some ⟨cb,0,none⟩) w) ?_;rintro w1 rfl;have hb:=ag w (.cells #[Value.int .i64 x.1,Value.string (str x.2)] 75);refine⟨may,by rw [hb.cell hcb];exact hc,x.1,str x.2,⟨by rw [aY];rfl,by rw [aC,aY];rfl,trivial⟩,?_⟩;refine(hm _).mono ?_;rintro e w2 ⟨rfl,h2⟩;exact⟨_,rfl,rfl,ae hb h2⟩
theorem Eo (a:Option Addr) (c most:Nat) (xs:List (Int×Bs)) (w:World) (hr:Rw aH 2 w a xs) (hm:most≤1000000):
  CP 133 #[.slice a xs.length c,.int .i64 most,.func (.func 134) #[] #[]] w fun e w'=>e= .returned (.bool (cd xs most bg))∧Below w.heap.size w w':=by
 refine aL (xY a xs.length c most (.func (.func 134) #[] #[]) w) ?_;rintro w1 rfl;refine ac.mk ?_ ?_
 ·intro h;have h:=of_decide_eq_true h;have hb:=ag w (.cells (Value.cells (.func (.func 134) #[] #[])) 212);refine(rO a c xs _ (fun x=> !bg x) _ (hr.on hb) (by omega) ?_).mono ?_
  ·intro x hx w1 hB;refine bT (by kernel_rfl) ?_;refine Es x w.heap.size (.func (.func 134) #[] #[]) bg w1 (Nat.lt_of_lt_of_le (by rw [av];exact Nat.lt_succ_self _) hB.size) (by rw [hB.cell (by rw [av];exact Nat.lt_succ_self _),aY];rfl) ?_;intro w2;exact bT (by kernel_rfl) (mP x w2)
  ·rintro e w2 ⟨rfl,h2⟩;refine⟨_,rfl,?_,ae hb h2⟩;rw [mB,cd,decide_eq_true (show xs.length≤most by omega)];rfl
 ·intro h;have h:=of_decide_eq_false h;refine⟨?_,ag _ _⟩;rw [cd,decide_eq_false (show ¬xs.length≤most by omega)];rfl
theorem wE (a:Option Addr) (c:Nat) (xs:List (Int×Int×Int)) (f:Value) (p:Int×Int×Int→Bool) (w:World) (hr:Rw cM 3 w a xs) (hl:xs.length≤1000000000000000)
  (hf:∀x∈xs,∀w1,Below w.heap.size w w1→bH gr f [.agg #[.int .i64 x.1,.int .i64 x.2.1,.int .i64 x.2.2]] w1 (fun e w2=>e= .returned (.bool (p x))∧Below w1.heap.size w1 w2)):
  CP 232 #[.slice a xs.length c,f] w fun e w'=>e= .returned (.int .i64 (CJ p xs))∧Below w.heap.size w w':=by
 refine aL (wv a xs.length c f w) ?_;intro I hI;have key:=s' (α:=Int×World) xs.length (fun i x=>(∀j (hj:j<xs.length),j<i→p xs[j]=false)∧Below w.heap.size w x.2) (fun i x=>I [.int .i64 (i:Int),.int .i64 x.1] x.2) ?_ ?_ 0 (Nat.zero_le _) (0,w)
 ·exact key ⟨fun j _ hj=>absurd hj (Nat.not_lt_zero j),Below.refl _ _⟩
 ·rintro⟨y,w1⟩ ⟨hb,hB⟩;exact hI _ _ _ (ac.no (by simp) ⟨by rw [je fun j hj=>hb j hj hj],hB⟩)
 ·rintro i hi ih ⟨y,w1⟩ ⟨hb,hB⟩;obtain⟨q,hq,_,hcx⟩:=(hr.on hB) i _ (List.getElem?_eq_getElem hi);refine hI _ _ _ (ac.yes (by simp;omega) (af.mk q hq ⟨by omega,by omega,xs[i].1,xs[i].2.1,xs[i].2.2,⟨by have:=hcx 0 _ rfl;simpa [ay]using this,by have:=hcx 1 _ rfl;simpa using this,by have:=hcx 2 _ rfl;simpa using this,trivial⟩,?_⟩));refine(hf xs[i] (List.getElem_mem hi) w1 hB).mono ?_;rintro e w2 ⟨rfl,h2⟩;refine⟨_,rfl,ac.mk ?_ ?_⟩
  ·intro hp;exact⟨by rw [iW hi hp fun j hj=>hb j (by omega) hj],ae hB h2⟩
  ·intro hp;refine Ar.ok64 (by omega) (by omega) (ih (y,w2) ⟨?_,ae hB h2⟩);intro j hj hji;by_cases he:j=i
   ·subst he;exact hp
   ·exact hb j hj (by omega)
theorem se (a:Option Addr) (c:Nat) (xs:List (Int×Int×Int)) (f:Value) (p:Int×Int×Int→Bool) (w:World) (hr:Rw cM 3 w a xs) (hl:xs.length≤1000000000000000)
  (hf:∀x∈xs,∀w1,Below w.heap.size w w1→bH gr f [.agg #[.int .i64 x.1,.int .i64 x.2.1,.int .i64 x.2.2]] w1 (fun e w2=>e= .returned (.bool (p x))∧Below w1.heap.size w1 w2)):
  CP 183 #[.slice a xs.length c,f] w fun e w'=>e= .returned (.bool (xs.any p))∧Below w.heap.size w w':=by
 refine aL (yw a xs.length c f w) ?_;refine(wE a c xs f p w hr hl hf).mono ?_;rintro e w1 ⟨rfl,h1⟩;exact⟨_,rfl,by rw [kN],h1⟩
theorem D_ (x:Int×Int×Int) (cb:Nat) (may:Value) (p:Int×Int×Int→Bool) (w:World) (hcb:cb<w.heap.size) (hc:w.cell? ⟨cb,0,none⟩=some may) (hm:∀w1,bH gr may [.agg #[.int .i64 x.1,.int .i64 x.2.1,.int .i64 x.2.2]] w1 (fun e w2=>e= .returned (.bool (p x))∧Below w1.heap.size w1 w2)):
  CP 184 #[.agg #[.int .i64 x.1,.int .i64 x.2.1,.int .i64 x.2.2],.pointer (some ⟨cb,0,none⟩)] w fun e w'=>e= .returned (.bool (!p x))∧Below w.heap.size w w':=by
 refine aL (Ac (x.1) (x.2.1) (x.2.2) (some ⟨cb,0,none⟩) w) ?_;rintro w1 rfl;have hb:=ag w (.cells #[Value.int .i64 x.1,Value.int .i64 x.2.1,Value.int .i64 x.2.2] 215);refine⟨may,by rw [hb.cell hcb];exact hc,x.1,x.2.1,x.2.2,⟨by rw [aY];rfl,by rw [aC,aY];rfl,by rw [aC,aY];rfl,trivial⟩,?_⟩;refine(hm _).mono ?_;rintro e w2 ⟨rfl,h2⟩;exact⟨_,rfl,rfl,ae hb h2⟩
theorem DH (a:Option Addr) (c most:Nat) (xs:List (Int×Int×Int)) (w:World) (hr:Rw cM 3 w a xs) (hm:most≤1000000):
  CP 135 #[.slice a xs.length c,.int .i64 most,.func (.func 136) #[] #[]] w fun e w'=>e= .returned (.bool (cd xs most aW))∧Below w.heap.size w w':=by
 refine aL (zR a xs.length c most (.func (.func 136) #[] #[]) w) ?_;rintro w1 rfl;refine ac.mk ?_ ?_
 ·intro h;have h:=of_decide_eq_true h;have hb:=ag w (.cells (Value.cells (.func (.func 136) #[] #[])) 216);refine(se a c xs _ (fun x=> !aW x) _ (hr.on hb) (by omega) ?_).mono ?_
  ·intro x hx w1 hB;refine bT (by kernel_rfl) ?_;refine D_ x w.heap.size (.func (.func 136) #[] #[]) aW w1 (Nat.lt_of_lt_of_le (by rw [av];exact Nat.lt_succ_self _) hB.size) (by rw [hB.cell (by rw [av];exact Nat.lt_succ_self _),aY];rfl) ?_;intro w2;exact bT (by kernel_rfl) (pB x w2)
  ·rintro e w2 ⟨rfl,h2⟩;refine⟨_,rfl,?_,ae hb h2⟩;rw [mB,cd,decide_eq_true (show xs.length≤most by omega)];rfl
 ·intro h;have h:=of_decide_eq_false h;refine⟨?_,ag _ _⟩;rw [cd,decide_eq_false (show ¬xs.length≤most by omega)];rfl
theorem xo (a:Option Addr) (c:Nat) (xs:List (Int×Int)) (f:Value) (p:Int×Int→Bool) (w:World) (hr:Rw bE 2 w a xs) (hl:xs.length≤1000000000000000)
  (hf:∀x∈xs,∀w1,Below w.heap.size w w1→bH gr f [.agg #[.int .i64 x.1,.int .i64 x.2]] w1 (fun e w2=>e= .returned (.bool (p x))∧Below w1.heap.size w1 w2)):
  CP 233 #[.slice a xs.length c,f] w fun e w'=>e= .returned (.int .i64 (CJ p xs))∧Below w.heap.size w w':=by
 refine aL (zO a xs.length c f w) ?_;intro I hI;have key:=s' (α:=Int×World) xs.length (fun i x=>(∀j (hj:j<xs.length),j<i→p xs[j]=false)∧Below w.heap.size w x.2) (fun i x=>I [.int .i64 (i:Int),.int .i64 x.1] x.2) ?_ ?_ 0 (Nat.zero_le _) (0,w)
 ·exact key ⟨fun j _ hj=>absurd hj (Nat.not_lt_zero j),Below.refl _ _⟩
 ·rintro⟨y,w1⟩ ⟨hb,hB⟩;exact hI _ _ _ (ac.no (by simp) ⟨by rw [je fun j hj=>hb j hj hj],hB⟩)
 ·rintro i hi ih ⟨y,w1⟩ ⟨hb,hB⟩;obtain⟨q,hq,_,hcx⟩:=(hr.on hB) i _ (List.getElem?_eq_getElem hi);refine hI _ _ _ (ac.yes (by simp;omega) (af.mk q hq ⟨by omega,by omega,xs[i].1,xs[i].2,⟨by have:=hcx 0 _ rfl;simpa [ay]using this,by have:=hcx 1 _ rfl;simpa using this,trivial⟩,?_⟩));refine(hf xs[i] (List.getElem_mem hi) w1 hB).mono ?_;rintro e w2 ⟨rfl,h2⟩;refine⟨_,rfl,ac.mk ?_ ?_⟩
  ·intro hp;exact⟨by rw [iW hi hp fun j hj=>hb j (by omega) hj],ae hB h2⟩
  ·intro hp;refine Ar.ok64 (by omega) (by omega) (ih (y,w2) ⟨?_,ae hB h2⟩);intro j hj hji;by_cases he:j=i
   ·subst he;exact hp
   ·exact hb j hj (by omega)
theorem qI (a:Option Addr) (c:Nat) (xs:List (Int×Int)) (f:Value) (p:Int×Int→Bool) (w:World) (hr:Rw bE 2 w a xs) (hl:xs.length≤1000000000000000)
  (hf:∀x∈xs,∀w1,Below w.heap.size w w1→bH gr f [.agg #[.int .i64 x.1,.int .i64 x.2]] w1 (fun e w2=>e= .returned (.bool (p x))∧Below w1.heap.size w1 w2)):
  CP 185 #[.slice a xs.length c,f] w fun e w'=>e= .returned (.bool (xs.any p))∧Below w.heap.size w w':=by
 refine aL (xb a xs.length c f w) ?_;refine(xo a c xs f p w hr hl hf).mono ?_;rintro e w1 ⟨rfl,h1⟩;exact⟨_,rfl,by rw [kN],h1⟩
theorem DY (x:Int×Int) (cb:Nat) (may:Value) (p:Int×Int→Bool) (w:World) (hcb:cb<w.heap.size) (hc:w.cell? ⟨cb,0,none⟩=some may) (hm:∀w1,bH gr may [.agg #[.int .i64 x.1,.int .i64 x.2]] w1 (fun e w2=>e= .returned (.bool (p x))∧Below w1.heap.size w1 w2)):
  CP 186 #[.agg #[.int .i64 x.1,.int .i64 x.2],.pointer (some ⟨cb,0,none⟩)] w fun e w'=>e= .returned (.bool (!p x))∧Below w.heap.size w w':=by
 refine aL (vx (x.1) (x.2) (some ⟨cb,0,none⟩) w) ?_;rintro w1 rfl;have hb:=ag w (.cells #[Value.int .i64 x.1,Value.int .i64 x.2] 218);refine⟨may,by rw [hb.cell hcb];exact hc,x.1,x.2,⟨by rw [aY];rfl,by rw [aC,aY];rfl,trivial⟩,?_⟩;refine(hm _).mono ?_;rintro e w2 ⟨rfl,h2⟩;exact⟨_,rfl,rfl,ae hb h2⟩
theorem Ec (a:Option Addr) (c most:Nat) (xs:List (Int×Int)) (w:World) (hr:Rw bE 2 w a xs) (hm:most≤1000000):
  CP 137 #[.slice a xs.length c,.int .i64 most,.func (.func 138) #[] #[]] w fun e w'=>e= .returned (.bool (cd xs most cB))∧Below w.heap.size w w':=by
 refine aL (y_ a xs.length c most (.func (.func 138) #[] #[]) w) ?_;rintro w1 rfl;refine ac.mk ?_ ?_
 ·intro h;have h:=of_decide_eq_true h;have hb:=ag w (.cells (Value.cells (.func (.func 138) #[] #[])) 219);refine(qI a c xs _ (fun x=> !cB x) _ (hr.on hb) (by omega) ?_).mono ?_
  ·intro x hx w1 hB;refine bT (by kernel_rfl) ?_;refine DY x w.heap.size (.func (.func 138) #[] #[]) cB w1 (Nat.lt_of_lt_of_le (by rw [av];exact Nat.lt_succ_self _) hB.size) (by rw [hB.cell (by rw [av];exact Nat.lt_succ_self _),aY];rfl) ?_;intro w2;exact bT (by kernel_rfl) (qj x w2)
  ·rintro e w2 ⟨rfl,h2⟩;refine⟨_,rfl,?_,ae hb h2⟩;rw [mB,cd,decide_eq_true (show xs.length≤most by omega)];rfl
 ·intro h;have h:=of_decide_eq_false h;refine⟨?_,ag _ _⟩;rw [cd,decide_eq_false (show ¬xs.length≤most by omega)];rfl
structure ce where
 ranked:Bool
 s1:Sl
 s2:Sl
 s3:Sl
 s4:Sl
 s5:Sl
abbrev ce.cells (x:ce):Array Value:=#[.bool x.ranked,x.s1.v,x.s2.v,x.s3.v,x.s4.v,x.s5.v]
abbrev ce.v (x:ce):Value:=.agg x.cells
structure dw (w:World) (x:ce) (s:ar):Prop where
 ranked:x.ranked=s.ranked
 n1:x.s1.n=s.merges.length
 r1:Rw bE 2 w x.s1.a s.merges
 n2:x.s2.n=s.tokens.length
 r2:Rw eJ 1 w x.s2.a s.tokens
 n3:x.s3.n=s.specials.length
 r3:Rw aH 2 w x.s3.a s.specials
 n4:x.s4.n=s.classes.length
 r4:Rw cM 3 w x.s4.a s.classes
 n5:x.s5.n=s.joins.length
 r5:Rw bE 2 w x.s5.a s.joins
theorem dw.on {w w':World} {x:ce} {s:ar} (h:dw w x s) (hb:Below w.heap.size w w'):dw w' x s:=
 ⟨h.ranked,h.n1,h.r1.on hb,h.n2,h.r2.on hb,h.n3,h.r3.on hb,h.n4,h.r4.on hb,h.n5,h.r5.on hb⟩
theorem Dg {w w1:World} {c:Array Value} {e:TypeId} {j:Nat} (h:Below (w.alloc (.cells c e)).heap.size (w.alloc (.cells c e)) w1):w1.cell? ⟨w.heap.size,j,none⟩=c[j]? :=by
 rw [h.cell (by rw [av];exact Nat.lt_succ_self _),aY]
theorem AM (x:ce) (s:ar) (w:World) (h:dw w x s):
  CP 69 #[x.v] w fun e w'=>e= .returned (.bool s.right)∧Below w.heap.size w w':=by
 refine aR (B5 x.ranked x.s1.a x.s1.n x.s1.c x.s2.a x.s2.n x.s2.c x.s3.a x.s3.n x.s3.c x.s4.a x.s4.n x.s4.c x.s5.a x.s5.n x.s5.c w (fun v w'=>v= .bool s.right∧Below w.heap.size w w') ?_) (by rintro v w' ⟨rfl,h⟩;exact⟨rfl,h⟩);rintro w1 rfl;have hb:=ag w (.cells x.cells 73);have h1:=h.on hb;have c0:∀j,(w.alloc (.cells x.cells 73)).cell? ((nb w).add j)=x.cells[j]? :=fun j=>by rw [aC,Nat.zero_add,aY]
 have rest:(if s.ranked then s.merges.isEmpty else s.tokens.isEmpty)=true→∀(b1:Bool),b1=cd s.merges 744 eN→∀w2,Below (w.alloc (.cells x.cells 73)).heap.size (w.alloc (.cells x.cells 73)) w2→
   ac b1
    (∃lA:Option Addr,∃lN:Nat,∃lC:Nat,w2.cell? ((nb w).add 2)=some (Value.slice lA lN lC)∧
     CP 131 #[Value.slice lA lN lC,Value.int .i64 744,Value.func (.func 132) #[] #[]] w2 (fun e3 w3=>
      ∃b_12:Bool,e3= .returned (Value.bool b_12)∧
      ac b_12
       (∃lA:Option Addr,∃lN:Nat,∃lC:Nat,w3.cell? ((nb w).add 3)=some (Value.slice lA lN lC)∧
        CP 133 #[Value.slice lA lN lC,Value.int .i64 32,Value.func (.func 134) #[] #[]] w3 (fun e4 w4=>
         ∃b_16:Bool,e4= .returned (Value.bool b_16)∧
         ac b_16
          (∃lA:Option Addr,∃lN:Nat,∃lC:Nat,w4.cell? ((nb w).add 4)=some (Value.slice lA lN lC)∧
           CP 135 #[Value.slice lA lN lC,Value.int .i64 64,Value.func (.func 136) #[] #[]] w4 (fun e5 w5=>
            ∃b_20:Bool,e5= .returned (Value.bool b_20)∧
            ac b_20
             (∃lA:Option Addr,∃lN:Nat,∃lC:Nat,w5.cell? ((nb w).add 5)=some (Value.slice lA lN lC)∧
              CP 137 #[Value.slice lA lN lC,Value.int .i64 64,Value.func (.func 138) #[] #[]] w5 (fun e6 w6=>
               ∃b_24:Bool,e6= .returned (Value.bool b_24)∧(Value.bool b_24= .bool s.right∧Below w.heap.size w w6)))
             (Value.bool false= .bool s.right∧Below w.heap.size w w5)))
          (Value.bool false= .bool s.right∧Below w.heap.size w w4)))
       (Value.bool false= .bool s.right∧Below w.heap.size w w3)))
    (Value.bool false= .bool s.right∧Below w.heap.size w w2):=by
  intro hr0 b1 hb1 w2 hB;have c2:∀ {w3:World} (j:Nat),Below (w.alloc (.cells x.cells 73)).heap.size (w.alloc (.cells x.cells 73)) w3→w3.cell? ((nb w).add j)=x.cells[j]? :=fun j hB=>by rw [aC,Nat.zero_add,Dg hB]
  have off:∀ {w3:World},s.right=false→Below (w.alloc (.cells x.cells 73)).heap.size (w.alloc (.cells x.cells 73)) w3→(Value.bool false= .bool s.right∧Below w.heap.size w w3):=fun e hB=>⟨by rw [e],ae hb hB⟩;refine ac.mk ?_ fun e=>off (by unfold ar.right;rw [←hb1,e];simp) hB;intro e1;refine⟨_,_,_,c2 2 hB,?_⟩;rw [h.n2];refine(D7 x.s2.a x.s2.c 744 s.tokens w2 (h1.r2.on hB) (by omega)).mono ?_;rintro e w3 ⟨rfl,h3⟩;have hB3:=ae hB h3;refine⟨_,rfl,ac.mk ?_ fun e=>off (by unfold ar.right;rw [e];simp) hB3⟩;intro e2;refine⟨_,_,_,c2 3 hB3,?_⟩;rw [h.n3];refine(Eo x.s3.a x.s3.c 32 s.specials w3 (h1.r3.on hB3) (by omega)).mono ?_;rintro e w4 ⟨rfl,h4⟩;have hB4:=ae hB3 h4;refine⟨_,rfl,ac.mk ?_ fun e=>off (by unfold ar.right;rw [e];simp) hB4⟩;intro e3;refine⟨_,_,_,c2 4 hB4,?_⟩;rw [h.n4];refine(DH x.s4.a x.s4.c 64 s.classes w4 (h1.r4.on hB4) (by omega)).mono ?_;rintro e w5 ⟨rfl,h5⟩;have hB5:=ae hB4 h5;refine⟨_,rfl,ac.mk ?_ fun e=>off (by unfold ar.right;rw [e];simp) hB5⟩;intro e4;refine⟨_,_,_,c2 5 hB5,?_⟩;rw [h.n5];refine(Ec x.s5.a x.s5.c 64 s.joins w5 (h1.r5.on hB5) (by omega)).mono ?_;rintro e w6 ⟨rfl,h6⟩;refine⟨_,rfl,?_,ae hb (ae hB5 h6)⟩;congr 1;unfold ar.right;rw [hr0, ←hb1,e1,e2,e3,e4];rfl
 refine⟨_,c0 0,ac.mk ?_ ?_⟩
 ·intro hrk;have hrk:s.ranked=true:=by rw [←h.ranked];exact hrk
  refine⟨_,_,_,c0 1,ac.mk ?_ ?_⟩
  ·intro hm;have hm:=of_decide_eq_true hm;refine⟨?_,hb⟩;congr 1;unfold ar.right;have:s.merges.isEmpty=false:=by cases hh:s.merges with |nil=>rw [h.n1,hh]at hm;simp at hm |cons _ _=>rfl
   rw [if_pos hrk,this];rfl
  ·intro hm;have hm:=of_decide_eq_false hm;have hme:s.merges= []:=List.eq_nil_of_length_eq_zero (by rw [h.n1]at hm;omega);refine⟨_,c0 0,ac.no (by rw [h.ranked,hrk];rfl) ?_⟩;refine⟨_,_,_,c0 1,?_⟩;have hall:=tI x.s1.a x.s1.c 744 s.merges _ h1.r1 (by omega);rw [←h.n1]at hall;refine hall.mono ?_;rintro e w2 ⟨rfl,h2⟩;exact⟨_,rfl,rest (by rw [if_pos hrk,hme];rfl) _ rfl w2 h2⟩
 ·intro hrk;have hrk:s.ranked=false:=by rw [←h.ranked];exact hrk
  refine⟨_,c0 0,ac.yes (by rw [h.ranked,hrk];rfl) ?_⟩;refine⟨_,_,_,c0 2,ac.mk ?_ ?_⟩
  ·intro hm;have hm:=of_decide_eq_true hm;refine⟨?_,hb⟩;congr 1;unfold ar.right;have:s.tokens.isEmpty=false:=by cases hh:s.tokens with |nil=>rw [h.n2,hh]at hm;simp at hm |cons _ _=>rfl
   rw [if_neg (by rw [hrk];simp),this];rfl
  ·intro hm;have hm:=of_decide_eq_false hm;have hme:s.tokens= []:=List.eq_nil_of_length_eq_zero (by rw [h.n2]at hm;omega);refine⟨_,_,_,c0 1,?_⟩;have hall:=tI x.s1.a x.s1.c 744 s.merges _ h1.r1 (by omega);rw [←h.n1]at hall;refine hall.mono ?_;rintro e w2 ⟨rfl,h2⟩;exact⟨_,rfl,rest (by rw [if_neg (by rw [hrk];simp),hme];rfl) _ rfl w2 h2⟩
theorem aX {α:Type} (n:Nat) (Inv G:Nat→α→Prop) (x0:α) (h0:Inv 0 x0) (step:∀i,i<n→(∀x,Inv (i+1) x→G (i+1) x)→∀x,Inv i x→G i x) (last:∀x,Inv n x→G n x):G 0 x0:=
 s' n Inv G last step 0 (Nat.zero_le _) x0 h0
theorem bL {w:World} {b j:Nat} {c:Array Value} {e:TypeId} (h:w.heap[b]? =some (.cells c e (0,0))) (v:Value):(w.setCell ((⟨b,0,none⟩:Addr).add j) v).heap[b]? =some (.cells (c.setIfInBounds j v) e (0,0)):=by
 rw [aC,Nat.zero_add];exact bD h v
theorem aV {w:World} {b j:Nat} {c:Array Value} {e:TypeId} (h:w.heap[b]? =some (.cells c e (0,0))):w.cell? ((⟨b,0,none⟩:Addr).add j)=c[j]? :=by
 rw [aC,Nat.zero_add];exact aM h
theorem be {w:World} {b j:Nat} {c:Array Value} {e:TypeId} (h:w.heap[b]? =some (.cells c e (0,0))):w.frozen? ((⟨b,0,none⟩:Addr).add j)=false:=by
 rw [aC,Nat.zero_add];exact bo h
theorem bJ {B:Nat} {w w':World} {b j:Nat} (h:Below B w w') (hb:B≤b) (v:Value):Below B w (w'.setCell ((⟨b,0,none⟩:Addr).add j) v):=by
 rw [aC,Nat.zero_add];exact h.setCell (p:=⟨b,0+j,none⟩) hb v |> (by simpa using ·)
theorem fN {α:Type} {l:List α} {most:Nat} {may:α→Bool} (h:cd l most may=true):l.length≤most:=by
 unfold cd at h;rw [Bool.and_eq_true]at h;exact of_decide_eq_true h.1
theorem j_ {α:Type} {enc:α→List Value} {sz:Nat} (hsz:∀x,(enc x).length=sz):∀(xs:List α) (j:Nat) (x:α),xs[j]? =some x→∀k,k<sz→(xs.flatMap enc)[j*sz+k]? =(enc x)[k]?
 | [],j,x,h,k,hk=>by simp at h
 |y::ys,0,x,h,k,hk=>by
  simp at h;subst h;rw [List.flatMap_cons,List.getElem?_append_left (by rw [hsz];omega)];congr 1;omega
 |y::ys,j+1,x,h,k,hk=>by
  simp at h;rw [List.flatMap_cons,List.getElem?_append_right (by rw [hsz,Nat.succ_mul];omega),hsz, ←j_ hsz ys j x h k hk];congr 1;rw [Nat.succ_mul];omega
theorem bR {α:Type} {enc:α→List Value} {sz:Nat} (hsz:∀x,(enc x).length=sz) (xs:List α):(xs.flatMap enc).length=xs.length*sz:=by
 induction xs with
 |nil=>simp
 |cons x xs ih=>rw [List.flatMap_cons,List.length_append,ih,hsz,List.length_cons,Nat.succ_mul];omega
theorem Rw.of_own {α:Type} {enc:α→List Value} {sz:Nat} {w:World} {B:Nat} {e:TypeId} {s:Sl} {xs:List α} (h:w.ownsRow B e sz s.v s.n (xs.flatMap enc)) (hsz:∀x,(enc x).length=sz) (h0:0<sz):Rw enc sz w s.a xs∧s.n=xs.length:=by
 have hn:=h.1;rw [bR hsz]at hn;have hn:s.n=xs.length:=(Nat.eq_of_mul_eq_mul_right h0 hn).symm;refine⟨?_,hn⟩;intro j x hj;have hjl:=(List.getElem?_eq_some_iff.1 hj).1;rcases h.2 with⟨h1,h2⟩ |⟨g,cap,cur,h1,h2,h3,h4,h5,h6,h7⟩
 ·omega
 ·obtain⟨sa,sn,sc⟩:=s;cases h1;refine⟨_,rfl,(Array.getElem?_eq_some_iff.1 h3).1,?_⟩;intro k v hk;have hkl:k<sz:=by rw [←hsz x];exact(List.getElem?_eq_some_iff.1 hk).1
  rw [aC,aC,Nat.zero_add,aM h3];have h8:=j_ hsz xs j x hj k hkl;have hb:j*sz+k<sn*sz:=by
   have:(j+1)*sz≤sn*sz:=Nat.mul_le_mul_right _ (by simp at hn;omega);rw [Nat.succ_mul]at this;omega
  rw [hk, ←h7,List.getElem?_take_of_lt hb]at h8;simpa using h8
def aQ (n:Int):List Value:=[.int .i64 n]
abbrev bf:TypeId:=3
abbrev d_:TypeId:=28
theorem CG:Tryz.prog.underlying d_=some (.slice bf):=by kernel_rfl
theorem Dc:(Tryz.prog.info? bf).map (fun i=>(i.zero,i.size,i.bytes))=some (some (.int .i64 0),1,8):=by kernel_rfl
abbrev nr:TypeId:=118
abbrev pW:TypeId:=75
abbrev H_:TypeId:=215
abbrev K4:TypeId:=218
theorem Bp:Tryz.prog.underlying 34=some (.slice nr):=by kernel_rfl
theorem uG:Tryz.prog.underlying 25=some (.slice pW):=by kernel_rfl
theorem AK:Tryz.prog.underlying 23=some (.slice H_):=by kernel_rfl
theorem BG:Tryz.prog.underlying 24=some (.slice K4):=by kernel_rfl
theorem Ax:(Tryz.prog.info? nr).map (fun i=>(i.zero,i.size,i.bytes))=some (some (.agg #[.int .i64 0,.int .i64 0]),2,16):=by kernel_rfl
theorem Al:(Tryz.prog.info? pW).map (fun i=>(i.zero,i.size,i.bytes))=some (some (.agg #[.int .i64 0,.string ⟨#[]⟩]),2,24):=by kernel_rfl
theorem FG:(Tryz.prog.info? H_).map (fun i=>(i.zero,i.size,i.bytes))=some (some (.agg #[.int .i64 0,.int .i64 0,.int .i64 0]),3,24):=by kernel_rfl
theorem F2:(Tryz.prog.info? K4).map (fun i=>(i.zero,i.size,i.bytes))=some (some (.agg #[.int .i64 0,.int .i64 0]),2,16):=by kernel_rfl
def Ci (s:ar):Prop:=s.merges.length≤1000000∧s.tokens.length≤1000000∧s.specials.length≤1000000∧s.classes.length≤1000000∧s.joins.length≤1000000
theorem iA {s:ar} (h:s.right=true):Ci s:=by
 obtain⟨_,p1,p2,p3,p4,p5⟩:=iD h;have l1:=fN p1;have l2:=fN p2;have l3:=fN p3;have l4:=fN p4;have l5:=fN p5;exact⟨by omega,by omega,by omega,by omega,by omega⟩
abbrev dh:TypeId:=73
abbrev bV:Sl:=⟨none,0,0⟩
abbrev ng:ce:=⟨false,bV,bV,bV,bV,bV⟩
theorem Rw.at {α:Type} {enc:α→List Value} {sz:Nat} {w:World} {a:Option Addr} {xs:List α} (h:Rw enc sz w a xs) {p:Addr} (hp:a=some p) {j:Nat} {x:α} (hj:xs[j]? =some x) (k:Nat) (v:Value) (hk:(enc x)[k]? =some v):w.cell? ((p.add (j*sz)).add k)=some v:=by
 obtain⟨q,hq,_,hc⟩:=h j x hj;rw [hp]at hq;cases hq;exact hc k v hk
theorem th {w w6:World} {c:Array Value} {T:TypeId} (K:ce→World→Prop) (x:ce) (hblk:w6.heap[w.heap.size]? =some (.cells c T (0,0))) (hc:c.size=6)
  (hR:∀w7,(∀w0,Below w.heap.size w0 w6→Below w.heap.size w0 w7)→(∀j,j≠w.heap.size→w7.heap[j]? =w6.heap[j]?)→K x w7):
  aB w6 (nb w) (fun w7=>
   ∃res0:Bool,∃res1A:Option Addr,∃res1N:Nat,∃res1C:Nat,∃res2A:Option Addr,∃res2N:Nat,∃res2C:Nat,∃res3A:Option Addr,∃res3N:Nat,∃res3C:Nat,∃res4A:Option Addr,∃res4N:Nat,∃res4C:Nat,∃res5A:Option Addr,∃res5N:Nat,∃res5C:Nat,(w7.cell? (nb w)=some (Value.bool res0)∧w7.cell? ((nb w).add 1)=some (Value.slice res1A res1N res1C)∧w7.cell? ((nb w).add 2)=some (Value.slice res2A res2N res2C)∧w7.cell? ((nb w).add 3)=some (Value.slice res3A res3N res3C)∧w7.cell? ((nb w).add 4)=some (Value.slice res4A res4N res4C)∧w7.cell? ((nb w).add 5)=some (Value.slice res5A res5N res5C)∧True)∧
   K ⟨res0,⟨res1A,res1N,res1C⟩,⟨res2A,res2N,res2C⟩,⟨res3A,res3N,res3C⟩,⟨res4A,res4N,res4C⟩,⟨res5A,res5N,res5C⟩⟩ w7)
   [Value.bool x.ranked,Value.slice x.s1.a x.s1.n x.s1.c,Value.slice x.s2.a x.s2.n x.s2.c,Value.slice x.s3.a x.s3.n x.s3.c,Value.slice x.s4.a x.s4.n x.s4.c,Value.slice x.s5.a x.s5.n x.s5.c] 0:=by
 refine ft _ 0 w6 c 0 hblk (by simp [hc]) (by intro v hv;simp at hv;rcases hv with rfl |rfl |rfl |rfl |rfl |rfl<;>rfl) ?_
 intro w7 h7 hne hsz hB;have h7':w7.heap[w.heap.size]? =some (.cells x.cells T (0,0)):=by
  rw [h7];congr 2;simp [ir,hc]
 have c0:w7.cell? (nb w)=some (Value.bool x.ranked):=by have:=aV (j:=0) h7';rw [ay]at this;exact this.trans rfl
 exact⟨x.ranked,_,_,_,_,_,_,_,_,_,_,_,_,_,_,_,⟨c0,(aV (j:=1) h7').trans rfl,(aV (j:=2) h7').trans rfl,(aV (j:=3) h7').trans rfl,(aV (j:=4) h7').trans rfl,(aV (j:=5) h7').trans rfl,trivial⟩,hR w7 (fun w0 h=>hB _ w0 (Nat.le_refl _) h) hne⟩
def li (v:Value):Prop:=(∃k n,v= .int k n)∨∃s,v= .string s
theorem FD {w:World} {p:Addr} {v:Value} {c:Array Value} {T:TypeId} {fz:Nat×Nat} (h:w.heap[p.block]? =some (.cells c T fz)) (hc:w.cell? p=some v):v∈c:=by
 unfold World.cell? at hc;rw [h]at hc;dsimp only at hc;split at hc
 ·cases hc
 ·exact Array.mem_of_getElem? hc
theorem Rw.past {α:Type} {enc:α→List Value} {sz:Nat} {w w':World} {b:Nat} {c:Array Value} {T:TypeId} {fz:Nat×Nat} {a:Option Addr} {xs:List α} (h:Rw enc sz w a xs) (henc:∀x,∃v,(enc x)[0]? =some v∧li v) (hb:w.heap[b]? =some (.cells c T fz)) (hc:∀v∈c,¬li v)
  (hne:∀j,j<w.heap.size→j≠b→w'.heap[j]? =w.heap[j]?) (hs:w.heap.size≤w'.heap.size):Rw enc sz w' a xs:=by
 intro j x hj;obtain⟨p,hp,hlt,hcc⟩:=h j x hj;refine⟨p,hp,by omega,fun k v hk=>?_⟩;have hpb:p.block≠b:=by
  intro e;obtain⟨v0,h0,hsol⟩:=henc x;have:=hcc 0 v0 h0;exact hc v0 (FD (by rw [ax,ax,e];exact hb) this) hsol
 rw [←hcc k v hk];unfold World.cell?;rw [hne _ (by rw [ax,ax];exact hlt) (by rw [ax,ax];exact hpb)]
theorem cW (k:IntKind) (n:Int):li (.int k n):=.inl ⟨k,n,rfl⟩
theorem dw.past {w w':World} {b:Nat} {c:Array Value} {T:TypeId} {fz:Nat×Nat} {x:ce} {s:ar} (h:dw w x s) (hb:w.heap[b]? =some (.cells c T fz)) (hc:∀v∈c,¬li v)
  (hne:∀j,j<w.heap.size→j≠b→w'.heap[j]? =w.heap[j]?) (hs:w.heap.size≤w'.heap.size):dw w' x s:=
 ⟨h.ranked,h.n1,h.r1.past (fun m=>⟨_,rfl,cW _ _⟩) hb hc hne hs,h.n2,h.r2.past (fun m=>⟨_,rfl,.inr ⟨_,rfl⟩⟩) hb hc hne hs,h.n3,h.r3.past (fun m=>⟨_,rfl,cW _ _⟩) hb hc hne hs,
  h.n4,h.r4.past (fun m=>⟨_,rfl,cW _ _⟩) hb hc hne hs,h.n5,h.r5.past (fun m=>⟨_,rfl,cW _ _⟩) hb hc hne hs⟩
theorem Rw.flat {α:Type} {enc:α→List Value} {sz:Nat} {w:World} {p:Addr} {xs:List α} (h:Rw enc sz w (some p) xs) (hsz:∀x,(enc x).length=sz) (h0:0<sz) (i:Nat) (u:Value) (hi:(xs.flatMap enc)[i]? =some u):w.cell? (p.add i)=some u:=by
 have hlt:=(List.getElem?_eq_some_iff.1 hi).1;rw [bR hsz]at hlt;have hj:i/sz<xs.length:=Nat.div_lt_of_lt_mul (by rw [Nat.mul_comm];exact hlt);have hk:i%sz<sz:=Nat.mod_lt _ h0;have hsplit:i/sz*sz+i%sz=i:=by rw [Nat.mul_comm];exact Nat.div_add_mod i sz
 have hg:=j_ hsz xs (i/sz) _ (List.getElem?_eq_getElem hj) (i%sz) hk;rw [hsplit,hi]at hg;have:=h.at rfl (List.getElem?_eq_getElem hj) (i%sz) u hg.symm;rw [Addr.add_add,hsplit]at this;exact this
theorem jh {α:Type} {enc:α→List Value} {sz:Nat} (hsz:∀x,(enc x).length=sz) (h0:0<sz) (h1:∀x,∀u∈enc x,u.oneCell'=true) (t e:TypeId) {z:Value} {bytes:Nat} (ht:Tryz.prog.underlying t=some (.slice e)) (hi:(Tryz.prog.info? e).map (fun i=>(i.zero,i.size,i.bytes))=some (some z,sz,bytes)) (hzs:z.cells.size=sz)
  (w8:World) (src:Sl) (xs:List α) (hsrc:tU src) (hr:Rw enc sz w8 src.a xs) (hn:src.n=xs.length) (hb:src.n*bytes≤140737488355328) (hN:src.n≤140737488355328):∀w18,w18=w8.alloc (.cells #[] e)→
  ∃A C w19,(Builtin.append_ #[t,t] t #[.slice (some (nb w8)) 0 0,src.v]).run Tryz.prog w18= .ok (.slice A src.n C) w19∧w19.ownsRow w8.heap.size e sz (.slice A src.n C) src.n (xs.flatMap enc)∧Below w8.heap.size w8 w19:=by
 rintro w18 rfl;have hB:=ag w8 (.cells #[] e);have hown:(w8.alloc (.cells #[] e)).ownsRow w8.heap.size e sz (.slice (some (nb w8)) 0 0) 0 []:=⟨by simp,.inr ⟨w8.heap.size,0,_,rfl,Nat.le_refl _,ak w8 _,Nat.le_refl _,by decide,by simp,by simp⟩⟩;obtain⟨A,C,w19,h2,h3,h4,_⟩:=lM (P:=Tryz.prog) t e ht hi hzs h0 hown src hsrc (xs.flatMap enc) (by rw [bR hsz,hn]) (by
  intro a ha j u hj;have hr':=hr.on hB;rw [ha]at hr';exact hr'.flat hsz h0 j u hj) (by
  intro u hu;obtain⟨x,_,hx⟩:=List.mem_flatMap.1 hu;exact h1 x u hx) (by rw [Nat.zero_add];exact hb) (by rw [Nat.zero_add];exact hN) hB.size
 rw [Nat.zero_add]at h2 h3;exact⟨A,C,w19,h2,h3,h4 w8 hB⟩
theorem rB {w2:World} {k:World→Prop} (x:ce) (w3:World) (hw3:w3=w2.alloc (.cells ng.cells dh)) (hk:∀w4,w4.heap[w2.heap.size]? =some (.cells x.cells dh (0,0))→Below w2.heap.size w2 w4→k w4):
  aB w3 (nb w2) k [Value.bool x.ranked,Value.slice x.s1.a x.s1.n x.s1.c,Value.slice x.s2.a x.s2.n x.s2.c,Value.slice x.s3.a x.s3.n x.s3.c,Value.slice x.s4.a x.s4.n x.s4.c,Value.slice x.s5.a x.s5.n x.s5.c] 0:=by
 refine aT [.bool false,.slice none 0 0,.slice none 0 0,.slice none 0 0,.slice none 0 0,.slice none 0 0] [.bool x.ranked,x.s1.v,x.s2.v,x.s3.v,x.s4.v,x.s5.v] rfl (by intro v hv;simp at hv;rcases hv with rfl |rfl |rfl |rfl |rfl |rfl<;>rfl) w3 hw3 ?_
 intro w4 h4 _ hB;exact hk w4 h4 hB
theorem dO {w:World} {b:Nat} {x:ce} {T:TypeId} {fz:Nat×Nat} (h:w.heap[b]? =some (.cells x.cells T fz)):
  w.cell? ⟨b,0,none⟩=some (Value.bool x.ranked)∧w.cell? ((⟨b,0,none⟩:Addr).add 1)=some x.s1.v∧w.cell? ((⟨b,0,none⟩:Addr).add 2)=some x.s2.v∧w.cell? ((⟨b,0,none⟩:Addr).add 3)=some x.s3.v∧w.cell? ((⟨b,0,none⟩:Addr).add 4)=some x.s4.v∧w.cell? ((⟨b,0,none⟩:Addr).add 5)=some x.s5.v∧True:=by
 have hc:∀j,w.cell? ((⟨b,0,none⟩:Addr).add j)=x.cells[j]? :=fun j=>by rw [aC,Nat.zero_add,aM h]
 exact⟨by have:=hc 0;rw [ay]at this;exact this,hc 1,hc 2,hc 3,hc 4,hc 5,trivial⟩
theorem Below.keeps {B:Nat} {w w':World} (h:Below B w w') {b:Nat} (hb:b<B) {o:Obj} (ho:w.heap[b]? =some o):w'.heap[b]? =some o:=by rw [h.block b hb,ho]
theorem ah {w w':World} (h:Below w.heap.size w w') {b:Nat} {o:Obj} (ho:w.heap[b]? =some o):w'.heap[b]? =some o:=by rw [h.block b (Array.getElem?_eq_some_iff.1 ho).1,ho]
section
variable {H:Type} {enc0:TypeId×Value→H} {w:World} {base:Nat} {spare:Nat→Bool} {held:Bool}
theorem Eg {e:TypeId} {f0 f1:Field} (he:Tryz.prog.underlying e=some (.struct #[f0,f1])) (o0:f0.offset=0) (o1:f1.offset=1) (t0:Tryz.prog.underlying f0.type=some (.int .i64)) (t1:Tryz.prog.underlying f1.type=some (.int .i64)) (c0:Tryz.prog.cellsOf f0.type=1) (c1:Tryz.prog.cellsOf f1.type=1) (hc:Tryz.prog.cellsOf e=2):
  ∀n cs' y,DataW.trod enc0 Tryz.prog w base spare held n e cs'=some y→∃m:Int×Int,cs'=bE m:=by
 intro n cs' y h;obtain⟨y0,y1,k,_,hl,h0,h1⟩:=trod_struct2 he h;rw [o0,c0]at h0;rw [o1,c1]at h1;rw [hc]at hl
 match cs',hl with
 | [a,b],_=>
  obtain⟨i,hi,_⟩:=DataW.trod_int t0 h0;obtain⟨j,hj,_⟩:=DataW.trod_int t1 h1;simp at hi hj;subst hi hj;exact⟨(i,j),rfl⟩
theorem vf {e:TypeId} {f0 f1:Field} (he:Tryz.prog.underlying e=some (.struct #[f0,f1])) (o0:f0.offset=0) (o1:f1.offset=1) (t0:Tryz.prog.underlying f0.type=some (.int .i64)) (t1:Tryz.prog.underlying f1.type=some .string) (c0:Tryz.prog.cellsOf f0.type=1) (c1:Tryz.prog.cellsOf f1.type=1) (hc:Tryz.prog.cellsOf e=2):
  ∀n cs' y,DataW.trod enc0 Tryz.prog w base spare held n e cs'=some y→∃m:Int×Bs,cs'=aH m:=by
 intro n cs' y h;obtain⟨y0,y1,k,_,hl,h0,h1⟩:=trod_struct2 he h;rw [o0,c0]at h0;rw [o1,c1]at h1;rw [hc]at hl
 match cs',hl with
 | [a,b],_=>
  obtain⟨i,hi,_⟩:=DataW.trod_int t0 h0;obtain⟨j,hj,_⟩:=DataW.trod_string t1 h1;simp at hi hj;subst hi hj;exact⟨(i,j.data.toList),by simp [aH, ←HR]⟩
theorem BS {e:TypeId} {f0 f1 f2:Field} (he:Tryz.prog.underlying e=some (.struct #[f0,f1,f2])) (o0:f0.offset=0) (o1:f1.offset=1) (o2:f2.offset=2) (t0:Tryz.prog.underlying f0.type=some (.int .i64)) (t1:Tryz.prog.underlying f1.type=some (.int .i64)) (t2:Tryz.prog.underlying f2.type=some (.int .i64)) (c0:Tryz.prog.cellsOf f0.type=1) (c1:Tryz.prog.cellsOf f1.type=1) (c2:Tryz.prog.cellsOf f2.type=1) (hc:Tryz.prog.cellsOf e=3):
  ∀n cs' y,DataW.trod enc0 Tryz.prog w base spare held n e cs'=some y→∃m:Int×Int×Int,cs'=cM m:=by
 intro n cs' y h;obtain⟨xs,k,_,_,hl,hlen,hF⟩:=DataW.trod_struct he h;have h0:=hF 0 f0 rfl;have h1:=hF 1 f1 rfl;have h2:=hF 2 f2 rfl;rw [o0,c0]at h0;rw [o1,c1]at h1;rw [o2,c2]at h2;rw [hc]at hl
 match cs',hl,xs,hlen with
 | [a,b,c],_,[y0,y1,y2],_=>
  obtain⟨i,hi,_⟩:=DataW.trod_int t0 h0;obtain⟨j,hj,_⟩:=DataW.trod_int t1 h1;obtain⟨k,hk,_⟩:=DataW.trod_int t2 h2;simp at hi hj hk;subst hi hj hk;exact⟨(i,j,k),rfl⟩
end
set_option linter.unusedSectionVars false
def dE {κ:Type} [DecidableEq κ] (k:κ):List (κ×Value)→Nat→Option (Nat×Value)
 | [],_=>none
 |p::r,i=>if k=p.1 then some (i,p.2)else dE k r (i+1)
def ez {κ:Type} [DecidableEq κ] (k:κ):List (κ×Value)→Option Value
 | []=>none
 |p::r=>if k=p.1 then some p.2 else ez k r
theorem fa {κ:Type} [DecidableEq κ] (k:κ):∀(m:List (κ×Value)) (i:Nat),(dE k m i).map (·.2)=ez k m
 | [],i=>rfl
 |p::r,i=>by
  simp only [dE,ez];split
  ·rfl
  ·exact fa k r (i+1)
structure hD (P:Program) (kt:TypeId) (κ:Type) [DecidableEq κ] (kv:κ→Value):Prop where
 check:∀(e:Bool) (k:κ) (w:World),(Instr.checkKey e 10000 kt (kv k)).run P w= .ok () w
 find:∀(k:κ) (es:List MapEntry) (m:List (κ×Value)) (w:World),es.map (fun x=>(x.key,x.val))=m.map (fun p=>(kv p.1,p.2))→(Instr.findKey kt (kv k) es).run P w= .ok (dE k m 0) w
def bv {κ:Type} (kv:κ→Value) (w:World) (r:Nat) (m:List (κ×Value)):Prop:=∃es clock,w.heap[r]? =some (.map es clock)∧es.toList.map (fun x=>(x.key,x.val))=m.map (fun p=>(kv p.1,p.2))∧∀x∈es.toList,x.born<clock
theorem fg {P:Program} {w:World} {r:Nat} {es:Array MapEntry} {c:Nat} (hb:w.heap[r]? =some (.map es c)):(getObj r).run P w= .ok (.map es c) w:=by simp [getObj,Sem.run,hb]
theorem jb {P:Program} {w:World} {r:Nat} {es:Array MapEntry} {c:Nat} (o:Obj) (hb:w.heap[r]? =some (.map es c)):(setObj r o).run P w= .ok () {w with heap:=w.heap.setIfInBounds r o}:=by simp [setObj,Sem.run,hb]
section
variable {P:Program} {kt et t:TypeId} {κ:Type} [DecidableEq κ] {kv:κ→Value}
theorem bv.lt {w:World} {r:Nat} {m:List (κ×Value)} (h:bv kv w r m):r<w.heap.size:=by
 obtain⟨es,clock,h,_⟩:=h;exact(Array.getElem?_eq_some_iff.1 h).1
theorem bv.same {w w':World} {r:Nat} {m:List (κ×Value)} (h:bv kv w r m) (hs:w'.heap[r]? =w.heap[r]?):bv kv w' r m:=by
 obtain⟨es,clock,h,hm,hs'⟩:=h;exact⟨es,clock,by rw [hs];exact h,hm,hs'⟩
theorem bv.on {w w':World} {r:Nat} {m:List (κ×Value)} (h:bv kv w r m) (hb:Below w.heap.size w w'):bv kv w' r m:=h.same (hb.block r h.lt)
theorem iK (w:World):bv kv (w.alloc (.map #[] 0)) w.heap.size []:=⟨#[],0,ak w _,rfl,by simp⟩
theorem fH (K:hD P kt κ kv) (ht:P.underlying t=some (.map kt et)) {z:Value} (hz:(P.info? et).map (·.zero)=some (some z)) {w:World} {r:Nat} {m:List (κ×Value)} (h:bv kv w r m) (k:κ):
  (Instr.lookup t (.map (some r)) (kv k) true).run P w= .ok (.tuple #[(ez k m).getD z,.bool (ez k m).isSome]) w:=by
 obtain⟨es,clock,hb,hm,_⟩:=h;unfold Instr.lookup;simp only [Sem.run_bind,run_underlying ht,Result.andThen,fg hb,Sem.run_pure,K.check,K.find k es.toList m w hm];have hl:=fa k m 0;cases hx:dE k m 0 with
 |none=>
  rw [hx]at hl;simp only [Option.map_none]at hl;rw [←hl];simp [fR hz,Result.andThen]
 |some q=>
  rw [hx]at hl;simp only [Option.map_some]at hl;rw [←hl];simp
theorem sY (K:hD P kt κ kv) (ht:P.underlying t=some (.map kt et)) {z:Value} (hz:(P.info? et).map (·.zero)=some (some z)) {w:World} {r:Nat} {m:List (κ×Value)} (h:bv kv w r m) (k:κ):
  (Instr.lookup t (.map (some r)) (kv k) false).run P w= .ok ((ez k m).getD z) w:=by
 obtain⟨es,clock,hb,hm,_⟩:=h;unfold Instr.lookup;simp only [Sem.run_bind,run_underlying ht,Result.andThen,fg hb,Sem.run_pure,K.check,K.find k es.toList m w hm];have hl:=fa k m 0;cases hx:dE k m 0 with
 |none=>
  rw [hx]at hl;simp only [Option.map_none]at hl;rw [←hl];simp [fR hz,Result.andThen]
 |some q=>
  rw [hx]at hl;simp only [Option.map_some]at hl;rw [←hl];simp
theorem ox {k:κ} {m:List (κ×Value)}:ez k m=none↔∀p∈m,p.1≠k:=by
 induction m with
 |nil=>simp [ez]
 |cons p m ih=>
  simp only [ez];split
  ·rename_i e;simp [e]
  ·rename_i e;rw [ih];constructor
   ·intro h q hq;rcases List.mem_cons.1 hq with rfl |hq
    ·exact fun e'=>e e'.symm
    ·exact h q hq
   ·exact fun h q hq=>h q (by simp [hq])
theorem e_ (K:hD P kt κ kv) (ht:P.underlying t=some (.map kt et)) {w:World} {r:Nat} {m:List (κ×Value)} (h:bv kv w r m) (k:κ) (v:Value) (hk:ez k m=none):
  ∃w',(Instr.mapUpdate t (.map (some r)) (kv k) v).run P w= .ok () w'∧bv kv w' r (m++ [(k,v)])∧(∀j,j≠r→w'.heap[j]? =w.heap[j]?)∧w'.heap.size=w.heap.size∧(∀B w0,B≤r→Below B w0 w→Below B w0 w'):=by
 obtain⟨es,clock,hb,hm,hst⟩:=h;have hlt:=(Array.getElem?_eq_some_iff.1 hb).1;have hl:=fa k m 0;rw [hk]at hl;have hx:dE k m 0=none:=by
  cases hx:dE k m 0 with
  |none=>rfl
  |some q=>rw [hx]at hl;cases hl
 refine⟨{w with heap:=w.heap.setIfInBounds r (.map (es.push {key:=kv k,val:=v,born:=clock}) (clock+1))},?_,?_,?_,by simp,?_⟩
 ·unfold Instr.mapUpdate;simp only [Sem.run_bind,run_underlying ht,Result.andThen,fg hb,K.check,K.find k es.toList m w hm,hx];exact jb _ hb
 ·refine⟨es.push {key:=kv k,val:=v,born:=clock},clock+1,by simp [hlt],by simp [hm],fun x hx=>?_⟩;rw [Array.toList_push,List.mem_append,List.mem_singleton]at hx;rcases hx with hx |rfl
  ·have:=hst x hx;omega
  ·exact Nat.lt_succ_self _
 ·intro j hj;simp [Array.getElem?_setIfInBounds_ne (fun e=>hj e.symm)]
 ·intro B w0 hB h0;exact h0.trans ⟨rfl,rfl,rfl,by simp,fun j hj=>by simp [Array.getElem?_setIfInBounds_ne (show r≠j by omega)]⟩
def MC {κ:Type} (kv:κ→Value) (w:World) (r:Nat) (m:List (κ×Value)) (k:κ) (c:Nat):Prop:=∃(es:Array MapEntry) (z:Value),w.heap[r]? =some (.map (es.push {key:=kv k,val:=z,born:=c}) (c+1))∧es.toList.map (fun x=>(x.key,x.val))=m.map (fun p=>(kv p.1,p.2))∧∀x∈es.toList,x.born<c
theorem gc (K:hD P kt κ kv) (ht:P.underlying t=some (.map kt et)) {z:Value} (hz:(P.info? et).map (·.zero)=some (some z)) {w:World} {r:Nat} {m:List (κ×Value)} (h:bv kv w r m) (k:κ) (hk:ez k m=none):
  ∃(c:Nat) (w':World),(Instr.mapEntry t (.map (some r)) (kv k)).run P w= .ok (.tuple #[z,.int .i64 c]) w'∧MC kv w' r m k c∧(∀j,j≠r→w'.heap[j]? =w.heap[j]?)∧w'.heap.size=w.heap.size∧(∀B w0,B≤r→Below B w0 w→Below B w0 w'):=by
 obtain⟨es,clock,hb,hm,hst⟩:=h;have hlt:=(Array.getElem?_eq_some_iff.1 hb).1;have hl:=fa k m 0;rw [hk]at hl;have hx:dE k m 0=none:=by
  cases hx:dE k m 0 with
  |none=>rfl
  |some q=>rw [hx]at hl;cases hl
 refine⟨clock,{w with heap:=w.heap.setIfInBounds r (.map (es.push {key:=kv k,val:=z,born:=clock}) (clock+1))},?_,⟨es,z,by simp [hlt],hm,hst⟩,?_,by simp,?_⟩
 ·unfold Instr.mapEntry;simp only [Sem.run_bind,run_underlying ht,Result.andThen,fg hb,K.check,K.find k es.toList m w hm,hx,fR hz,jb _ hb];rfl
 ·intro j hj;simp [Array.getElem?_setIfInBounds_ne (fun e=>hj e.symm)]
 ·intro B w0 hB h0;exact h0.trans ⟨rfl,rfl,rfl,by simp,fun j hj=>by simp [Array.getElem?_setIfInBounds_ne (show r≠j by omega)]⟩
theorem vz (es:Array MapEntry) (x:MapEntry) (v:Value):(es.push x).modify es.size (fun e=>{e with val:=v})=es.push {x with val:=v}:=by
 apply Array.ext
 ·simp
 ·intro i h1 h2;simp only [Array.getElem_modify,Array.getElem_push];simp at h2;by_cases hi:i<es.size
  ·simp [hi,show ¬es.size=i by omega]
  ·simp [show es.size=i by omega]
theorem gg {w:World} {r:Nat} {m:List (κ×Value)} {k:κ} {c:Nat} (t:TypeId) (h:MC kv w r m k c) (v:Value):
  ∃w':World,(Instr.entryStore t (.map (some r)) (.int .i64 c) v).run P w= .ok () w'∧bv kv w' r (m++ [(k,v)])∧(∀j,j≠r→w'.heap[j]? =w.heap[j]?)∧w'.heap.size=w.heap.size∧(∀B w0,B≤r→Below B w0 w→Below B w0 w'):=by
 obtain⟨es,z,hb,hm,hst⟩:=h;have hlt:=(Array.getElem?_eq_some_iff.1 hb).1;have hf:(es.push {key:=kv k,val:=z,born:=c}).findIdx? (fun e=>((e.born:Int)==(c:Int)))=some es.size:=by
  rw [Array.findIdx?_eq_some_iff_getElem];refine⟨by simp,by simp,fun j hj=>?_⟩;have:=hst es[j] (by simp);simp [Array.getElem_push_lt hj];omega
 refine⟨{w with heap:=w.heap.setIfInBounds r (.map (es.push {key:=kv k,val:=v,born:=c}) (c+1))},?_,⟨es.push {key:=kv k,val:=v,born:=c},c+1,by simp [hlt],by simp [hm],?_⟩,?_,by simp,?_⟩
 ·unfold Instr.entryStore;simp only [Sem.run_bind,Result.andThen,fg hb,asInt,asIntOf,Sem.run_map,Sem.run_pure,hf,vz];exact jb _ hb
 ·intro x hx;rw [Array.toList_push,List.mem_append,List.mem_singleton]at hx;rcases hx with hx |rfl
  ·have:=hst x hx;omega
  ·exact Nat.lt_succ_self _
 ·intro j hj;simp [Array.getElem?_setIfInBounds_ne (fun e=>hj e.symm)]
 ·intro B w0 hB h0;exact h0.trans ⟨rfl,rfl,rfl,by simp,fun j hj=>by simp [Array.getElem?_setIfInBounds_ne (show r≠j by omega)]⟩
theorem fo {w:World} (t:TypeId):(Instr.makeMap t none).run P w= .ok (.map (some w.heap.size)) (w.alloc (.map #[] 0)):=by
 unfold Instr.makeMap;simp [Sem.run_bind,newObj,Sem.run,Result.andThen]
end
theorem rn {κ:Type} [DecidableEq κ] {kv:κ→Value} {d:TypeDesc} (hs:∀a b,Instr.sameNow d (kv a) (kv b)=some (decide (a=b))) (k:κ):∀(es:List MapEntry) (m:List (κ×Value)) (i:Nat),es.map (fun x=>(x.key,x.val))=m.map (fun p=>(kv p.1,p.2))→Instr.findNow d (kv k) es i=some (dE k m i)
 | [],m,i,h=>by
  have:m= []:=by simpa using h.symm
  subst this;rfl
 |e::es,[],i,h=>by simp at h
 |e::es,p::m,i,h=>by
  simp only [List.map_cons,List.cons.injEq,Prod.mk.injEq]at h;simp only [Instr.findNow,dE];rw [h.1.1,hs];by_cases hk:k=p.1
  ·rw [decide_eq_true hk,if_pos hk,h.1.2]
  ·rw [decide_eq_false hk,if_neg hk];exact rn hs k es m (i+1) h.2
theorem qk {P:Program} {kt:TypeId} {κ:Type} [DecidableEq κ] {kv:κ→Value} {d:TypeDesc} (hd:P.underlying kt=some d) (hs:∀a b,Instr.sameNow d (kv a) (kv b)=some (decide (a=b)))
  (hc:∀(e:Bool) (k:κ) (w:World),(Instr.checkKey e 10000 kt (kv k)).run P w= .ok () w):hD P kt κ kv:=by
 refine⟨hc,fun k es m w h=>?_⟩;unfold Instr.findKey;simp only [Sem.run_bind,run_underlying hd,Result.andThen,rn hs k es m 0 h,Sem.run_pure]
abbrev ba (n:Int):Value:=.int .i64 n
abbrev dj (s:List UInt8):Value:=.string (str s)
abbrev dz (m:Int×Int):Value:=.agg #[.int .i64 m.1,.int .i64 m.2]
theorem vN {P:Program} {kt:TypeId} (hd:P.underlying kt=some (.int .i64)):hD P kt Int ba:=by
 refine qk hd (fun a b=>by simp [Instr.sameNow,ba];exact(Bool.beq_eq_decide_eq a b)) (fun e k w=>?_);unfold Instr.checkKey;simp [run_underlying hd,Result.andThen]
theorem Id {a b:List UInt8} (h:str a=str b):a=b:=by
 have:=congrArg (fun x:ByteArray=>x.data.toList) h;simpa [str]using this
theorem E0 {P:Program} {kt:TypeId} (hd:P.underlying kt=some .string):hD P kt (List UInt8) dj:=by
 refine qk hd (fun a b=>?_) (fun e k w=>?_)
 ·simp only [Instr.sameNow,dj];congr 1;rw [Bool.eq_iff_iff,Go.MapKept.bytes_beq,decide_eq_true_eq];exact⟨Id,fun h=>by rw [h]⟩
 ·unfold Instr.checkKey;simp [run_underlying hd,Result.andThen]
theorem pm {P:Program} {kt:TypeId} (hf:ri P kt [.i,.i]=true) (k:Int×Int):∀(es:List MapEntry) (m:List ((Int×Int)×Value)) (i:Nat) (w:World),es.map (fun x=>(x.key,x.val))=m.map (fun p=>(dz p.1,p.2))→(Instr.findAsking kt (dz k) es i).run P w= .ok (dE k m i) w
 | [],m,i,w,h=>by
  have:m= []:=by simpa using h.symm
  subst this;rfl
 |e::es,[],i,w,h=>by simp at h
 |e::es,p::m,i,w,h=>by
  simp only [List.map_cons,List.cons.injEq,Prod.mk.injEq]at h;have hb:HK [.i,.i] (#[Value.int .i64 k.1,Value.int .i64 k.2]:Array Value).toList (#[Value.int .i64 p.1.1,Value.int .i64 p.1.2]:Array Value).toList=some (decide (k=p.1)):=by
   have h1:(k.1==p.1.1&&(k.2==p.1.2&&true))=decide (k=p.1):=by
    rw [Bool.eq_iff_iff];simp [Prod.ext_iff]
   rw [←h1];rfl
  obtain⟨hr,_⟩:=lY (w:=w) hf hb;simp only [Instr.findAsking,Sem.run_bind,dE,h.1.1];unfold Op.equal;rw [show(Op.equalIn Op.maxDepth kt (dz k) (dz p.1)).run P w= .ok (decide (k=p.1)) w from hr];by_cases hk:k=p.1
  ·simp [hk,Result.andThen,h.1.2]
  ·simp only [Result.andThen,decide_eq_false hk,if_neg hk];exact pm hf k es m (i+1) w h.2
theorem DR {P:Program} {kt:TypeId} {fs:Array Field} (hd:P.underlying kt=some (.struct fs)) (hf:ri P kt [.i,.i]=true) (hc:∀(e:Bool) (k:Int×Int) (w:World),(Instr.checkKey e 10000 kt (dz k)).run P w= .ok () w):hD P kt (Int×Int) dz:=by
 refine⟨hc,fun k es m w h=>?_⟩;unfold Instr.findKey;simp only [Sem.run_bind,run_underlying hd,Result.andThen];cases es with
 |nil=>
  have:m= []:=by simpa using h.symm
  subst this;rfl
 |cons e es=>
  have:Instr.findNow (.struct fs) (dz k) (e::es) 0=none:=by simp [Instr.findNow,Instr.sameNow]
  rw [this];exact pm hf k (e::es) m 0 w h
theorem fe {P:Program} {B b:Nat} {c:Array Value} {T e:TypeId} {w1:World} {sz:Nat} {s:Sl} {xs:List Value} (jj:Nat) (hblk:w1.heap[b]? =some (.cells c T (0,0))) (hjj:jj<c.size) (hown:w1.ownsRow B e sz s.v s.n xs) (hoff:s.v.ownBlock≠some b) (hBb:B≤b)
  (t:TypeId) {z:Value} {bytes:Nat} (ht:P.underlying t=some (.slice e)) (hi:(P.info? e).map (fun i=>(i.zero,i.size,i.bytes))=some (some z,sz,bytes)) (hzs:z.cells.size=sz) (hsz:0<sz)
  (news:List Value) (hl:news.length=sz) (h1:∀u∈news,u.oneCell'=true) (hbytes:(s.n+1)*bytes≤140737488355328) (h63:s.n+1≤140737488355328):
  ∃a' c' w3,(Builtin.append_ #[t,t] t #[s.v,.slice (some (nb w1)) 1 1]).run P (w1.alloc (.cells news.toArray e))= .ok (.slice a' (s.n+1) c') w3∧
   (∃u,w3.cell? ((⟨b,0,none⟩:Addr).add jj)=some u)∧w3.frozen? ((⟨b,0,none⟩:Addr).add jj)=false∧
   ∀w4,w4=w3.setCell ((⟨b,0,none⟩:Addr).add jj) (.slice a' (s.n+1) c')→
    w4.heap[b]? =some (.cells (c.setIfInBounds jj (.slice a' (s.n+1) c')) T (0,0))∧w4.ownsRow B e sz (.slice a' (s.n+1) c') (s.n+1) (xs++news)∧
    (Value.slice a' (s.n+1) c').ownBlock≠some b∧(∀w0,Below B w0 w1→Below B w0 w4)∧(∀k,k<w1.heap.size→k≠b→s.v.ownBlock≠some k→w4.heap[k]? =w1.heap[k]?)∧w1.heap.size<w4.heap.size∧(∀k,(Value.slice a' (s.n+1) c').ownBlock=some k→s.v.ownBlock=some k∨w1.heap.size≤k):=by
 have hlt:b<w1.heap.size:=(Array.getElem?_eq_some_iff.1 hblk).1;obtain⟨a',c',w3,hr,hown',hg,hnb⟩:=qc (P:=P) t e ht hi hzs hsz hown news hl h1 hbytes h63 (by omega);have hkeep:∀k,k<w1.heap.size→s.v.ownBlock≠some k→w3.heap[k]? =w1.heap[k]? :=fun k hk hne=>Cj hg hk (fun e=>hne e.symm);have hblk3:w3.heap[b]? =some (.cells c T (0,0)):=by rw [hkeep b hlt hoff];exact hblk
 have hoff':(Value.slice a' (s.n+1) c').ownBlock≠some b:=by
  rcases hnb with h |h
  ·rw [h];exact hoff
  ·rw [h];intro e;cases e;omega
 have hsize:=Ef hg;refine⟨a',c',w3,hr,⟨c[jj],?_⟩,be hblk3,?_⟩
 ·rw [aV hblk3];simp [hjj]
 ·rintro w4 rfl;refine⟨bL hblk3 _,bB hown' _ (by rw [ax];exact hoff'),hoff',fun w0 hb=>bJ (lW hb hown hg (by omega)) hBb _,fun k hk hkb hne=>?_,?_⟩
  ·rw [aq (by rw [ax];exact hkb)];exact hkeep k hk hne
  ·rw [aU];exact⟨by omega,fun k hk=>by
    rcases hnb with h |h
    ·rw [h]at hk;exact .inl hk
    ·rw [h]at hk;cases hk;exact .inr (by omega)⟩
theorem co (a b:Int):∀v∈ [Value.int .i64 a,Value.int .i64 b],v.oneCell'=true:=by
 intro v hv;simp only [List.mem_cons,List.not_mem_nil,or_false]at hv;rcases hv with rfl |rfl<;>rfl
theorem cL {w:World} {B:Nat} {e:TypeId} {sz n:Nat} {v:Value} {xs:List Value} {r:Nat} {κ:Type} {kv:κ→Value} {m:List (κ×Value)} (h:w.ownsRow B e sz v n xs) (hm:bv kv w r m):v.ownBlock≠some r:=by
 intro hb;obtain⟨es,clock,hm,_⟩:=hm;rcases h.2 with⟨rfl,_⟩ |⟨g,cap,cur,rfl,_,hg,_⟩
 ·cases hb
 ·cases hb;rw [hm]at hg;cases hg
theorem mV {P:Program} {src dst e:TypeId} (hs:P.underlying src=some (.slice e)) (he:P.underlying e=some (.int .u8)) (hd:P.underlying dst=some .string) (w:World) (i:Nat) (hi:i<256):
  (convert src dst (.slice (some (nb w)) 1 1)).run P (w.alloc (.cells #[.int .u8 (i:Int)] e))= .ok (.string (str [UInt8.ofNat i])) (w.alloc (.cells #[.int .u8 (i:Int)] e)):=by
 have hn:(UInt8.ofNat i).toNat=i:=by simp;omega
 refine iC hs he hd (base:=w.heap.size) (l:=[UInt8.ofNat i]) ⟨by simp [Lib.byteCells],.inr ⟨w.heap.size,1,_,rfl,Nat.le_refl _,ak w _,Nat.le_refl _,by decide,by simp,by simp [Lib.byteCells,hn]⟩⟩
abbrev aP:=Bs×(Int×Int)
def fV (e:aP):List Value:=[.string (str e.1),.int .i64 e.2.1,.int .i64 e.2.2]
def lf (es:List aP):List (Bs×Value):=es.zipIdx.map fun x=>(x.1.1,.int .i64 (x.2:Int))
def lZ (es:List aP):List ((Int×Int)×Value):=((es.drop 256).zipIdx 256).map fun x=>(x.1.2,.int .i64 (x.2:Int))
def cr (i:Nat):aP:=([UInt8.ofNat i],(-1, -1))
def aG:List aP:=(List.range 256).map cr
theorem tD (es:List aP) (e:aP):lf (es++ [e])=lf es++ [(e.1,.int .i64 (es.length:Int))]:=by simp [lf,List.zipIdx_append]
theorem D' (es:List aP) (e:aP) (h:256≤es.length):lZ (es++ [e])=lZ es++ [(e.2,.int .i64 (es.length:Int))]:=by
 have hl:256+(es.length-256)=es.length:=by omega
 simp only [lZ,List.drop_append_of_le_length h,List.zipIdx_append,List.map_append,List.length_drop,hl,List.zipIdx_cons,List.zipIdx_nil,List.map_cons,List.map_nil]
theorem si (es:List aP) (h:es.length≤256):lZ es= []:=by simp [lZ,List.drop_eq_nil_of_le h]
theorem oc {s:Bs} {es:List aP}:ez s (lf es)=none↔∀e∈es,e.1≠s:=by
 rw [ox];constructor
 ·intro h e he;obtain⟨i,hi,rfl⟩:=List.getElem_of_mem he;exact h (es[i].1,.int .i64 (i:Int)) (by
   simp only [lf,List.mem_map];exact⟨(es[i],i),by rw [List.mem_zipIdx_iff_getElem?];simp [hi],rfl⟩)
 ·intro h p hp;simp only [lf,List.mem_map]at hp;obtain⟨⟨e,i⟩,hi,rfl⟩:=hp;rw [List.mem_zipIdx_iff_getElem?]at hi;exact h e (List.mem_of_getElem? hi)
theorem wo {m:Int×Int}:∀(l:List aP) (k:Nat),ez m ((l.zipIdx k).map fun x=>(x.1.2,Value.int .i64 (x.2:Int)))=((l.map (·.2)).idxOf? m).map fun i=>Value.int .i64 ((k+i:Nat):Int)
 | [],k=>rfl
 |e::l,k=>by
  simp only [List.zipIdx_cons,List.map_cons,ez,List.idxOf?_cons];by_cases h:m=e.2
  ·simp [h]
  ·rw [if_neg h,wo l (k+1)];have:(e.2==m)=false:=by simp;exact fun e'=>h e'.symm
   rw [this];simp only [Bool.false_eq_true,if_false,Option.map_map];congr 1;funext i;simp;omega
def ap (es:List aP):List (Int×Int):=(es.drop 256).map (·.2)
theorem Dz (m:Int×Int) (es:List aP):ez m (lZ es)=((ap es).idxOf? m).map fun i=>Value.int .i64 ((256+i:Nat):Int):=wo _ 256
abbrev jZ:TypeId:=249
abbrev A6:TypeId:=278
abbrev ru:TypeId:=245
abbrev CT:TypeId:=246
abbrev Km:TypeId:=247
theorem sd:Tryz.prog.underlying ru=some (.slice A6):=by kernel_rfl
theorem sU:(Tryz.prog.info? A6).map (fun i=>(i.zero,i.size,i.bytes))=some (some (.agg #[.string ⟨#[]⟩,.int .i64 0,.int .i64 0]),3,32):=by kernel_rfl
theorem gP:Tryz.prog.underlying CT=some (.map 9 bf):=by kernel_rfl
theorem Db:Tryz.prog.underlying Km=some (.map nr bf):=by kernel_rfl
theorem eE:(Tryz.prog.info? bf).map (·.zero)=some (some (.int .i64 0)):=by kernel_rfl
theorem rt:hD Tryz.prog 9 Bs dj:=E0 (by kernel_rfl)
theorem nl:hD Tryz.prog bf Int ba:=vN (by kernel_rfl)
theorem IA:hD Tryz.prog nr (Int×Int) dz:=by
 refine DR (fs:=a_ (Tryz.prog.underlying nr)) (by kernel_rfl) (by kernel_rfl) (fun e k w=>?_);cases e<;>kernel_rfl
structure Ky (w:World) (B p:Nat) (l:Sl) (mb mp:Nat) (most:Int) (es:List aP):Prop where
 blk:w.heap[p]? =some (.cells #[l.v,.map (some mb),.map (some mp),.int .i64 most] jZ (0,0))
 row:w.ownsRow B A6 3 l.v l.n (es.flatMap fV)
 len:l.n=es.length
 off:l.v.ownBlock≠some p
 bytes:bv dj w mb (lf es)
 pairs:bv dz w mp (lZ es)
 bp:B≤p
 bb:B≤mb
 bm:B≤mp
 ne:mb≠mp
def gD (w:World) (B p:Nat) (es:List aP):Prop:=∃l mb mp most,Ky w B p l mb mp most es∧1≤most∧most≤64∧∀e∈es,(e.1.length:Int)≤most
def di (w:World) (p:Nat) (es:List aP):Prop:=∃(l:Sl) (mb mp:Nat) (most:Int),w.heap[p]? =some (.cells #[l.v,.map (some mb),.map (some mp),.int .i64 most] jZ (0,0))∧l.n=es.length∧Rw fV 3 w l.a es∧bv dj w mb (lf es)∧bv dz w mp (lZ es)∧most≤64∧∀e∈es,(e.1.length:Int)≤most
theorem di.on {w w':World} {p:Nat} {es:List aP} (h:di w p es) (hb:Below w.heap.size w w'):di w' p es:=by
 obtain⟨l,mb,mp,most,h1,h2,h3,h4,h5,h6⟩:=h;exact⟨l,mb,mp,most,ah hb h1,h2,h3.on hb,h4.on hb,h5.on hb,h6⟩
theorem di.lt {w:World} {p:Nat} {es:List aP} (h:di w p es):p<w.heap.size:=by
 obtain⟨l,mb,mp,most,h1,_⟩:=h;exact(Array.getElem?_eq_some_iff.1 h1).1
theorem rA (e:aP):(fV e).length=3:=rfl
theorem gD.is {w:World} {B p:Nat} {es:List aP} (h:gD w B p es):di w p es:=by
 obtain⟨l,mb,mp,most,h,_,hm⟩:=h;exact⟨l,mb,mp,most,h.blk,h.len,(Rw.of_own h.row rA (by decide)).1,h.bytes,h.pairs,hm⟩
theorem gD.on {w w':World} {B p:Nat} {es:List aP} (h:gD w B p es) (hb:Below w.heap.size w w'):gD w' B p es:=by
 obtain⟨l,mb,mp,most,h,hm⟩:=h;exact⟨l,mb,mp,most,⟨ah hb h.blk,aE h.row hb,h.len,h.off,h.bytes.on hb,h.pairs.on hb,h.bp,h.bb,h.bm,h.ne⟩,hm⟩
theorem aj (p:Nat) (w:World) {c:Array Value} {e:TypeId} {fz:Nat×Nat} (h:w.heap[p]? =some (.cells c e fz)) (j:Nat):w.cell? ((⟨p,0,none⟩:Addr).add j)=c[j]? :=by rw [aC,Nat.zero_add,aM h]
theorem eX (w:World) (p:Nat) (es:List aP) (h:di w p es):CP 143 #[.pointer (some ⟨p,0,none⟩)] w fun e w'=>e= .returned (.int .i64 es.length)∧w'=w:=by
 obtain⟨l,mb,mp,most,h1,h2,_⟩:=h;refine aL (vY (some ⟨p,0,none⟩) w) ?_;exact ac.no rfl (af.mk _ rfl ⟨l.a,l.n,l.c,by rw [aj p w h1];rfl,by rw [h2],rfl⟩)
def bA (es:List aP) (id:Int):Prop:=0≤id∧id<es.length
instance (es:List aP) (id:Int):Decidable (bA es id):=by unfold bA;infer_instance
theorem iB (w:World) (p:Nat) (es:List aP) (h:di w p es) (id:Int):CP 174 #[.pointer (some ⟨p,0,none⟩),.int .i64 id] w fun e w'=>e= .returned (.bool (decide (bA es id)))∧w'=w:=by
 refine aR (wr (some ⟨p,0,none⟩) id w (fun v w'=>v= .bool (decide (bA es id))∧w'=w) ?_) (by rintro v w' ⟨rfl,h⟩;exact⟨rfl,h⟩);refine ac.mk ?_ ?_
 ·intro h0;have h0:=of_decide_eq_true h0;refine(eX w p es h).mono ?_;rintro e w' ⟨rfl,hw⟩;subst hw;refine⟨_,rfl,?_,rfl⟩;congr 1;exact decide_eq_decide.2 ⟨fun h=>⟨h0,h⟩,fun h=>h.2⟩
 ·intro h0;have h0:=of_decide_eq_false h0;refine⟨?_,rfl⟩;rw [decide_eq_false];exact fun h=>h0 h.1
def bk (es:List aP) (id:Int):Bs:=((es[id.toNat]?).map (·.1)).getD []
theorem eR {es:List aP} {id:Int} (h:bA es id):∃e,es[id.toNat]? =some e∧bk es id=e.1:=by
 have hlt:id.toNat<es.length:=by have:=h.1;have:=h.2;omega
 exact⟨es[id.toNat],List.getElem?_eq_getElem hlt,by simp [bk,List.getElem?_eq_getElem hlt]⟩
theorem iM (w:World) (p:Nat) (es:List aP) (h:di w p es) (id:Int):CP 126 #[.pointer (some ⟨p,0,none⟩),.int .i64 id] w fun e w'=>e= .returned (.tuple #[.string (str (if bA es id then bk es id else [])),.bool (decide (bA es id))])∧w'=w:=by
 refine aL (zM (some ⟨p,0,none⟩) id w) ?_;refine(iB w p es h id).mono ?_;rintro e w' ⟨rfl,hw⟩;subst hw;refine⟨_,rfl,ac.mk ?_ ?_⟩
 ·intro h0;have h0:¬bA es id:=by simpa using h0
  rw [if_neg h0,decide_eq_false h0];exact⟨rfl,rfl⟩
 ·intro h0;have h0:bA es id:=by simpa using h0
  obtain⟨l,mb,mp,most,h1,h2,h3,_⟩:=h;obtain⟨x,hx,hb⟩:=eR h0;obtain⟨a,ha,_,hc⟩:=h3 _ x hx;have:=h0.1;have:=h0.2;refine af.mk _ rfl ⟨l.a,l.n,l.c,by rw [aj p _ h1];rfl,af.mk a ha ⟨by omega,by omega,str x.1,hc 0 _ rfl,?_⟩⟩;rw [if_pos h0,decide_eq_true h0,hb];exact⟨rfl,rfl⟩
theorem m_ (w:World) (p:Nat) (es:List aP) (h:di w p es) (a b:Int):CP 275 #[.pointer (some ⟨p,0,none⟩),.int .i64 a,.int .i64 b] w fun e w'=>e= .returned (.tuple #[.int .i64 ((((ap es).idxOf? (a,b)).map fun i=>((256+i:Nat):Int)).getD 0),.bool ((ap es).idxOf? (a,b)).isSome])∧Below w.heap.size w w':=by
 obtain⟨l,mb,mp,most,h1,h2,h3,h4,h5,_⟩:=h;refine aL (xF (some ⟨p,0,none⟩) a b w) ?_;refine ac.no rfl (af.mk _ rfl ⟨some mp,by rw [aj p w h1];rfl,?_⟩);have hl:=fH IA Db eE h5 (a,b);rw [Dz]at hl;cases hx:(ap es).idxOf? (a,b)with
 |none=>rw [hx]at hl;exact⟨0,false,w,hl,rfl,Below.refl _ _⟩
 |some i=>rw [hx]at hl;exact⟨_,true,w,hl,rfl,Below.refl _ _⟩
def bn (es:List aP) (id:Int):Int×Int:=((es[id.toNat]?).map (·.2)).getD (-1, -1)
def wP (es:List aP) (id:Int):Value:=if bA es id∧bn es id≠(-1, -1)then .tuple #[.agg #[.int .i64 (bn es id).1,.int .i64 (bn es id).2],.bool true]else .tuple #[.agg #[.int .i64 0,.int .i64 0],.bool false]
theorem eL (w:World) (p:Nat) (es:List aP) (h:di w p es) (id:Int):CP 289 #[.pointer (some ⟨p,0,none⟩),.int .i64 id] w fun e w'=>e= .returned (wP es id)∧Below w.heap.size w w':=by
 refine aL (zE (some ⟨p,0,none⟩) id w) ?_;rintro w1 hw1;have hb:Below w.heap.size w w1:=by subst hw1;exact ag _ _
 have h':=h.on hb;have store:∀(a b:Int) (k:World→Prop),(∀w3,w3.cell? (nb w)=some (Value.int .i64 a)∧w3.cell? ((nb w).add 1)=some (Value.int .i64 b)∧True→Below w.heap.size w w3→k w3)→aB w1 (nb w) k [Value.int .i64 a,Value.int .i64 b] 0:=by
  intro a b k hk;refine aT [.int .i64 0,.int .i64 0] [.int .i64 a,.int .i64 b] rfl (co a b) w1 hw1 ?_;intro w3 h3 _ hB;exact hk w3 ⟨by have:=aj _ _ h3 0;rw [ay]at this;exact this,aj _ _ h3 1,trivial⟩ hB
 refine(iB w1 p es h' id).mono ?_;rintro e w2 ⟨rfl,hw⟩;subst hw;refine⟨_,rfl,ac.mk ?_ ?_⟩
 ·intro h0;have h0:¬bA es id:=by simpa using h0
  refine store 0 0 _ fun w3 h3 hB=>⟨0,0,h3,?_,hB⟩;rw [wP,if_neg fun h=>h0 h.1]
 ·intro h0;have h0:bA es id:=by simpa using h0
  obtain⟨l,mb,mp,most,h1,h2,h3,_⟩:=h';have hlt:id.toNat<es.length:=by have:=h0.1;have:=h0.2;omega
  have hp:bn es id=es[id.toNat].2:=by simp [bn,List.getElem?_eq_getElem hlt]
  obtain⟨a,ha,_,hc⟩:=h3 _ _ (List.getElem?_eq_getElem hlt);have:=h0.1;have:=h0.2;have hc1:=hc 1 _ rfl;have hc2:w2.cell? (((a.add (id.toNat*3)).add 1).add 1)=some (.int .i64 es[id.toNat].2.2):=by
   have:=hc 2 _ rfl;rwa [show(2:Nat)=1+1 from rfl, ←Addr.add_add]at this
  refine af.mk _ rfl ⟨l.a,l.n,l.c,by rw [aj p _ h1];rfl,af.mk a ha ⟨by omega,by omega,_,_,⟨hc1,hc2,trivial⟩,ac.mk ?_ ?_⟩⟩
  ·intro hm;have hm:es[id.toNat].2=(-1, -1):=by
    simp only [Bool.and_true,Bool.and_eq_true,beq_iff_eq]at hm;exact Prod.ext hm.1 hm.2
   refine store 0 0 _ fun w3 h3 hB=>⟨0,0,h3,?_,hB⟩;rw [wP,if_neg fun h=>h.2 (hp.trans hm)]
  ·intro hm;have hm:es[id.toNat].2≠(-1, -1):=by
    intro e;rw [e]at hm;simp at hm
   refine af.mk _ rfl ⟨l.a,l.n,l.c,by rw [aj p _ h1];rfl,af.mk a ha ⟨by omega,by omega,_,_,⟨hc1,hc2,trivial⟩,?_⟩⟩;refine store _ _ _ fun w3 h3 hB=>⟨_,_,h3,?_,hB⟩;rw [wP,if_pos ⟨h0,by rw [hp];exact hm⟩,hp]
structure gz (es:List aP):Prop where
 low:es.take 256=aG
 len:256≤es.length
 most:es.length≤1000
 step:∀(i:Nat) (e:aP),es[i]? =some e→256≤i→(0≤e.2.1∧e.2.1<i)∧(0≤e.2.2∧e.2.2<i)∧e.1=bk es e.2.1++bk es e.2.2
 short:∀e∈es,e.1.length≤64
 nodup:(es.map (·.1)).Nodup
def bM (es:List aP) (m:Int×Int):Bs:=bk es m.1++bk es m.2
def bP (es:List aP) (m:Int×Int):Except Int aP:=
 if ¬(bA es m.1∧bA es m.2)then .error 4
 else if 64< (bM es m).length then .error 3
 else if 1000≤es.length then .error 5
 else if bM es m∈es.map (·.1)then .error 10
 else .ok (bM es m,m)
theorem gF {es:List aP} (x:aP) {id:Int} (h:bA es id):bk (es++ [x]) id=bk es id:=by
 have:=h.1;have:=h.2;simp only [bk];rw [List.getElem?_append_left (by omega)]
theorem kP {es:List aP} (h:gz es) {m:Int×Int} {x:aP} (hx:bP es m= .ok x):gz (es++ [x])∧x.2=m∧bA es m.1∧bA es m.2:=by
 unfold bP at hx;split at hx
 ·cases hx
 ·rename_i h1;split at hx
  ·cases hx
  ·rename_i h2;split at hx
   ·cases hx
   ·rename_i h3;split at hx
    ·cases hx
    ·rename_i h4;cases hx;have h1:bA es m.1∧bA es m.2:=Classical.not_not.1 h1;refine⟨⟨by rw [List.take_append_of_le_length h.len];exact h.low,by have:=h.len;simp;omega,by simp;omega,fun i e hi h256=>?_,fun e he=>?_,?_⟩,rfl,h1.1,h1.2⟩
     ·rcases Nat.lt_trichotomy i es.length with hl |hl |hl
      ·rw [List.getElem?_append_left hl]at hi;obtain⟨ha,hb,hc⟩:=h.step i e hi h256;refine⟨ha,hb,?_⟩;rw [gF _ ⟨ha.1,by omega⟩,gF _ ⟨hb.1,by omega⟩];exact hc
      ·subst hl;simp at hi;subst hi;refine⟨h1.1,h1.2,?_⟩;rw [gF _ h1.1,gF _ h1.2];rfl
      ·have:=(List.getElem?_eq_some_iff.1 hi).1;simp at this;omega
     ·rcases List.mem_append.1 he with he |he
      ·exact h.short e he
      ·rw [List.mem_singleton.1 he];exact Nat.le_of_not_lt h2
     ·rw [List.map_append,List.nodup_append];refine⟨h.nodup,by simp,fun a ha b hb=>?_⟩;simp at hb;subst hb;intro e;subst e;exact h4 ha
theorem Fb {es:List aP} (h:gz es) {m:Int×Int} (hm:bM es m∉es.map (·.1)):ez m (lZ es)=none:=by
 rw [ox];intro q hq e;simp only [lZ,List.mem_map]at hq;obtain⟨⟨x,i⟩,hi,rfl⟩:=hq;simp only at e;have hi:=(List.mem_zipIdx_iff_le_and_getElem?_sub.1 hi);simp only [List.getElem?_drop]at hi;have hx:es[i]? =some x:=by
  have:=hi.2;rwa [show 256+(i-256)=i by omega]at this
 obtain⟨_,_,hc⟩:=h.step i x hx hi.1;apply hm;rw [bM, ←e, ←hc];exact List.mem_map.2 ⟨x,List.mem_of_getElem? hx,rfl⟩
theorem sN {s:Bs} {es:List aP} {v:Value} (h:ez s (lf es)=some v):∃n:Int,v= .int .i64 n:=by
 have:∀(m:List (Bs×Value)),(∀p∈m,∃n:Int,p.2= .int .i64 n)→ez s m=some v→∃n:Int,v= .int .i64 n:=by
  intro m;induction m with
  |nil=>intro _ h;cases h
  |cons p m ih=>
   intro hm h;simp only [ez]at h;split at h
   ·cases h;exact hm p (by simp)
   ·exact ih (fun q hq=>hm q (by simp [hq])) h
 refine this _ (fun p hp=>?_) h;simp only [lf,List.mem_map]at hp;obtain⟨x,_,rfl⟩:=hp;exact⟨_,rfl⟩
theorem dr {w:World} {p r:Nat} {c:Array Value} {T:TypeId} {fz:Nat×Nat} (h:w.heap[p]? =some (.cells c T fz)) {κ:Type} {kv:κ→Value} {m:List (κ×Value)} (hm:bv kv w r m):r≠p:=by
 rintro rfl;obtain⟨es,clock,hm,_⟩:=hm;rw [h]at hm;cases hm
theorem qQ {P:Program} (a b:Int) (ts:Array TypeId) (t:TypeId) (w:World):(Builtin.max_ ts t #[.int .i64 a,.int .i64 b]).run P w= .ok (.int .i64 (if b>a then b else a)) w:=by
 simp [Builtin.max_,Builtin.max2]
def uu (w:World) (B p:Nat) (es:List aP) (m:Int×Int) (v:Value) (w':World):Prop:=Below B w w'∧match bP es m with
 | .error n=>v= .tuple #[.int .i64 0,.int .i64 n]∧gD w' B p es
 | .ok x=>v= .tuple #[.int .i64 es.length,.int .i64 0]∧gD w' B p (es++ [x])
theorem pl (w:World) (B p:Nat) (es:List aP) (h:gD w B p es) (hok:gz es) (hB:B≤w.heap.size) (m:Int×Int):
  CP 235 #[.pointer (some ⟨p,0,none⟩),.agg #[.int .i64 m.1,.int .i64 m.2]] w fun e w'=>∃v,e= .returned v∧uu w B p es m v w':=by
 refine wO (some ⟨p,0,none⟩) m.1 m.2 w (uu w B p es m) ?_;rintro w1 hw1;have hb1:Below w.heap.size w w1:=by subst hw1;exact ag _ _
 have h1:=h.on hb1;have hcell:∀j,w1.cell? ((nb w).add j)=(#[Value.int .i64 m.1,Value.int .i64 m.2]:Array Value)[j]? :=by
  intro j;subst hw1;rw [aC,Nat.zero_add,aY]
 refine ac.no rfl ⟨m.1,hcell 0,?_⟩;refine(iB w1 p es h1.is m.1).mono ?_;rintro e w2 ⟨rfl,hw⟩;subst hw;have fail:∀(n:Int) (w':World),bP es m= .error n→Below w2.heap.size w2 w'→uu w B p es m (.tuple #[.int .i64 0,.int .i64 n]) w':=by
  intro n w' hn hb;refine⟨(ae hb1 hb).mono hB,?_⟩;rw [hn];exact⟨rfl,h1.on hb⟩
 refine⟨_,rfl,ac.mk (fun h0=>?_) fun h0=>⟨m.2,hcell 1,?_⟩⟩
 ·have h0:¬bA es m.1:=by simpa using h0
  exact fail 4 _ (by rw [bP,if_pos fun h=>h0 h.1]) (Below.refl _ _)
 have i1:bA es m.1:=by simpa using h0
 refine(iB w2 p es h1.is m.2).mono ?_;rintro e w3 ⟨rfl,hw⟩;subst hw;refine⟨_,rfl,ac.mk (fun h0=>?_) fun h0=>?_⟩
 ·have h0:¬bA es m.2:=by simpa using h0
  exact fail 4 _ (by rw [bP,if_pos fun h=>h0 h.2]) (Below.refl _ _)
 have i2:bA es m.2:=by simpa using h0
 rintro w4 hw4;have hb4:Below w3.heap.size w3 w4:=by subst hw4;exact(Below.refl _ _).drew
 have hh4:w4.heap=w3.heap:=by subst hw4;rfl
 obtain⟨l,mb,mp,most,hT,hm0,hm1,hm2⟩:=h1.on hb4;have hcell4:∀j,w4.cell? ((nb w).add j)=(#[Value.int .i64 m.1,Value.int .i64 m.2]:Array Value)[j]? :=fun j=>by
  rw [hb4.cell (by rw [ax];subst hw1;rw [av];exact Nat.lt_succ_self _)];exact hcell j
 have hrow:=(Rw.of_own hT.row rA (by decide)).1;obtain⟨x1,hx1,e1⟩:=eR i1;obtain⟨x2,hx2,e2⟩:=eR i2;obtain⟨a1,ha1,_,hc1⟩:=hrow _ x1 hx1;obtain⟨a2,ha2,_,hc2⟩:=hrow _ x2 hx2;have hlen:=hT.len;have:=i1.1;have:=i1.2;have:=i2.1;have:=i2.2;have s1:=hok.short x1 (List.mem_of_getElem? hx1);have s2:=hok.short x2 (List.mem_of_getElem? hx2);have hlen0:w4.cell? ((⟨p,0,none⟩:Addr).add 0)=some (.slice l.a l.n l.c):=by rw [aj p _ hT.blk];rfl
 refine af.mk _ rfl ⟨l.a,l.n,l.c,hlen0,m.1,hcell4 0,af.mk a1 ha1 ⟨by omega,by omega,str x1.1,hc1 0 _ rfl,af.mk _ rfl ⟨l.a,l.n,l.c,hlen0,m.2,hcell4 1,af.mk a2 ha2 ⟨by omega,by omega,str x2.1,hc2 0 _ rfl,?_⟩⟩⟩⟩;have hj:str x1.1++str x2.1=str (bM es m):=by rw [mg,bM,e1,e2]
 have hjl:(bM es m).length=x1.1.length+x2.1.length:=by rw [bM,e1,e2,List.length_append]
 rw [hj];refine⟨by rw [bO,bO];show _≤(9223372036854775807:Int);omega,ac.mk (fun h0=>?_) fun h0=>?_⟩
 ·have h0:=of_decide_eq_true h0;rw [bO]at h0;exact fail 3 _ (by rw [bP,if_neg (Classical.not_not.2 ⟨i1,i2⟩),if_pos (by omega)]) hb4
 have hs:=of_decide_eq_false h0;rw [bO]at hs;have hs:¬64< (bM es m).length:=by omega
 refine af.mk _ rfl ⟨l.a,l.n,l.c,hlen0,ac.mk (fun h0=>?_) fun h0=>?_⟩
 ·have h0:=of_decide_eq_true h0;exact fail 5 _ (by rw [bP,if_neg (Classical.not_not.2 ⟨i1,i2⟩),if_neg hs,if_pos (by omega)]) hb4
 have h0:=of_decide_eq_false h0;have hk:¬1000≤es.length:=by omega
 refine af.mk _ rfl ⟨some mb,by rw [aj p _ hT.blk];rfl,?_⟩;have hl:=fH rt gP eE hT.bytes (bM es m);cases hx:ez (bM es m) (lf es)with
 |some v=>
  obtain⟨n,rfl⟩:=sN hx;rw [hx]at hl;refine⟨n,true,w4,hl,ac.yes rfl ?_⟩;have hmem:bM es m∈es.map (·.1):=by
   rcases Classical.em (bM es m∈es.map (·.1))with h |h
   ·exact h
   ·have:ez (bM es m) (lf es)=none:=oc.2 fun e he he'=>h (List.mem_map.2 ⟨e,he,he'⟩);rw [this]at hx;cases hx
  exact fail 10 _ (by rw [bP,if_neg (Classical.not_not.2 ⟨i1,i2⟩),if_neg hs,if_neg hk,if_pos hmem]) hb4
 |none=>
  rw [hx]at hl;have hnew:bM es m∉es.map (·.1):=fun h=>by
   obtain⟨e,he,he'⟩:=List.mem_map.1 h;exact oc.1 hx e he he'
  have hadd:bP es m= .ok (bM es m,m):=by rw [bP,if_neg (Classical.not_not.2 ⟨i1,i2⟩),if_neg hs,if_neg hk,if_neg hnew]
  refine⟨0,false,w4,hl,ac.no rfl (af.mk _ rfl ⟨l.a,l.n,l.c,hlen0,?_⟩)⟩;rintro w6 hw6;have hh6:w6.heap=w4.heap:=by subst hw6;rfl
  have hb6:Below w4.heap.size w4 w6:=by subst hw6;exact(Below.refl _ _).drew
  have hcell6:∀j,w6.cell? ((nb w).add j)=(#[Value.int .i64 m.1,Value.int .i64 m.2]:Array Value)[j]? :=fun j=>by
   rw [hb6.cell (by rw [ax,hh4];subst hw1;rw [av];exact Nat.lt_succ_self _)];exact hcell4 j
  have hblk6:w6.heap[p]? =some (.cells #[l.v,.map (some mb),.map (some mp),.int .i64 most] jZ (0,0)):=by rw [hh6];exact hT.blk
  have hsz6:w6.heap.size=w.heap.size+1:=by rw [hh6,hh4];subst hw1;rw [av]
  have hmbp:mb≠p:=dr hT.blk hT.bytes;have hmpp:mp≠p:=dr hT.blk hT.pairs;have hrow6:=aE hT.row hb6;obtain⟨a',c',w8,hr8,hu8,hf8,h9⟩:=fe (P:=Tryz.prog) (s:=l) 0 hblk6 (show 0<4 by decide) hrow6 hT.off hT.bp ru sd sU rfl (by decide) (fV (bM es m,m)) rfl (by
   intro v hv;simp only [fV,List.mem_cons,List.not_mem_nil,or_false]at hv;rcases hv with rfl |rfl |rfl<;>rfl) (by omega) (by omega)
  refine af.mk _ rfl ⟨l.a,l.n,l.c,by rw [aj p _ hblk6];rfl,m.1,m.2,⟨by have:=hcell6 0;rwa [ay]at this,hcell6 1,trivial⟩,?_⟩;rintro w7 rfl;refine⟨⟨by rw [(ag w6 _).cell (by rw [ax];exact(Array.getElem?_eq_some_iff.1 hblk6).1),aj p _ hblk6];rfl,trivial⟩,a',l.n+1,c',w8,hr8,af.mk _ rfl ⟨rfl,hu8,hf8,?_⟩⟩;intro w9 hw9;obtain⟨hblk9,hrow9,hoff9,hB9,hkeep9,hsz9⟩:=h9 w9 hw9;rintro w10 hw10;have hh10:w10.heap=w9.heap:=by subst hw10;rfl
  have hblk10:w10.heap[p]? =some (.cells #[.slice a' (l.n+1) c',.map (some mb),.map (some mp),.int .i64 most] jZ (0,0)):=by rw [hh10];exact hblk9
  have hmbl:mb<w6.heap.size:=by rw [hh6];exact hT.bytes.lt
  have hmpl:mp<w6.heap.size:=by rw [hh6];exact hT.pairs.lt
  have hbm6:bv dj w6 mb (lf es):=hT.bytes.same (by rw [hh6]);have hpm6:bv dz w6 mp (lZ es):=hT.pairs.same (by rw [hh6]);have hbm10:bv dj w10 mb (lf es):=hbm6.same (by rw [hh10];exact hkeep9 mb hmbl hmbp (cL hrow6 hbm6));have hpm10:bv dz w10 mp (lZ es):=hpm6.same (by rw [hh10];exact hkeep9 mp hmpl hmpp (cL hrow6 hpm6));have hloc:w6.heap[w.heap.size]? =some (.cells #[Value.int .i64 m.1,Value.int .i64 m.2] 118):=by
   rw [hh6,hh4];subst hw1;exact ak _ _
  have hlw:∀k,k<w.heap.size→w6.heap[k]? =w.heap[k]? :=fun k hk=>by rw [hh6,hh4];exact hb1.block k hk
  have hpw:p<w.heap.size:=h.is.lt;have hmbw:mb≠w.heap.size:=by
   rintro e;exact absurd (dr hloc hbm6) (fun h=>h e)
  have hmpw:mp≠w.heap.size:=by
   rintro e;exact absurd (dr hloc hpm6) (fun h=>h e)
  have hrw:l.v.ownBlock≠some w.heap.size:=by
   intro e;obtain⟨l0,_,_,_,hT0,_⟩:=h;have e1:l0=l:=by
    have:=hlw p hpw;rw [hblk6,hT0.blk]at this;have:=Option.some.inj this;simp only [Obj.cells.injEq,Array.mk.injEq,List.cons.injEq,Value.slice.injEq]at this;obtain⟨⟨⟨q1,q2,q3⟩,_⟩,_⟩:=this;cases l0;cases l;simp_all
   subst e1;have:=b_ hT0.row _ e;omega
  have hloc9:w9.heap[w.heap.size]? =some (.cells #[Value.int .i64 m.1,Value.int .i64 m.2] 118):=by
   rw [hkeep9 w.heap.size (by omega) (by omega) hrw];exact hloc
  have agg:∀w':World,w'.heap[w.heap.size]? =w9.heap[w.heap.size]? →w'.cell? (nb w)=some (Value.int .i64 m.1)∧w'.cell? ((nb w).add 1)=some (Value.int .i64 m.2)∧True:=by
   intro w' hw';rw [hloc9]at hw';exact⟨by have:=aj _ _ hw' 0;rwa [ay]at this,aj _ _ hw' 1,trivial⟩
  obtain⟨k1,w11,hr11,hp11,hs11,hz11,hB11⟩:=gc rt gP eE hbm10 (bM es m) hx;obtain⟨w12,hr12,hm12,hs12,hz12,hB12⟩:=gg CT hp11 (.int .i64 (l.n:Int));have hpm12:bv dz w12 mp (lZ es):=hpm10.same (by rw [hs12 mp hT.ne.symm,hs11 mp hT.ne.symm]);obtain⟨k2,w13,hr13,hp13,hs13,hz13,hB13⟩:=gc IA Db eE hpm12 m (Fb hok hnew);obtain⟨w14,hr14,hm14,hs14,hz14,hB14⟩:=gg Km hp13 (.int .i64 (l.n:Int));have h10:∀k,k≠mb→k≠mp→w14.heap[k]? =w9.heap[k]? :=fun k h1 h2=>by rw [hs14 k h2,hs13 k h2,hs12 k h1,hs11 k h1,hh10]
  refine af.mk _ rfl ⟨some mb,by rw [aj p _ hblk10];rfl,af.mk _ rfl ⟨some mp,by rw [aj p _ hblk10];rfl,m.1,m.2,agg w10 (by rw [hh10]),0,k1,w11,hr11,agg w11 (by rw [hs11 _ (Ne.symm hmbw),hh10]),w12,hr12,agg w12 (by rw [hs12 _ (Ne.symm hmbw),hs11 _ (Ne.symm hmbw),hh10]),0,k2,w13,hr13,w14,hr14,?_⟩⟩;have hblk14:w14.heap[p]? =some (.cells #[.slice a' (l.n+1) c',.map (some mb),.map (some mp),.int .i64 most] jZ (0,0)):=by
   rw [h10 p (Ne.symm hmbp) (Ne.symm hmpp)];exact hblk9
  refine af.mk _ rfl ⟨most,by rw [aj p _ hblk14];rfl,_,w14,qQ _ _ _ _ _,af.mk _ rfl ⟨rfl,⟨_,by rw [aj p _ hblk14];rfl⟩,be hblk14,?_⟩⟩;rintro w16 rfl;refine⟨?_,?_⟩
  ·refine bJ (hB14 _ _ hT.bm (hB13 _ _ hT.bm (hB12 _ _ hT.bb (hB11 _ _ hT.bb ?_)))) hT.bp _;have:Below B w w9:=hB9 w (((ae hb1 hb4).trans ((hb6.mono (by rw [hh4];subst hw1;rw [av];omega)))).mono hB);subst hw10;exact this.drew
  ·rw [hadd];refine⟨by rw [hlen],⟨a',l.n+1,c'⟩,mb,mp,_,⟨bL hblk14 _,?_,by simp;omega,hoff9,?_,?_,hT.bp,hT.bb,hT.bm,hT.ne⟩,?_⟩
   ·have hflat:(es++ [(bM es m,m)]).flatMap fV=es.flatMap fV++fV (bM es m,m):=by simp
    rw [hflat];refine bB (aN hrow9 fun k hk=>h10 k ?_ ?_) _ (by rw [ax];exact hoff9)
    ·rintro rfl;refine cL hrow9 (?_:bv dj w9 _ (lf es)) hk;exact hbm10.same (by rw [hh10])
    ·rintro rfl;refine cL hrow9 (?_:bv dz w9 _ (lZ es)) hk;exact hpm10.same (by rw [hh10])
   ·rw [tD, ←hlen];exact hm12.same (by rw [aq (by rw [ax];exact hmbp),hs14 _ hT.ne,hs13 _ hT.ne])
   ·rw [D' _ _ hok.len, ←hlen];exact hm14.same (by rw [aq (by rw [ax];exact hmpp)])
   ·rw [bO];refine⟨by split<;>omega,by split<;>omega,fun e he=>?_⟩
    rcases List.mem_append.1 he with he |he
    ·have:=hm2 e he;split<;>omega
    ·rw [List.mem_singleton.1 he];show((bM es m).length:Int)≤_;split<;>omega
theorem tG {i j:Nat} (hi:i<256) (hj:j<256) (h:UInt8.ofNat i=UInt8.ofNat j):i=j:=by
 have:=congrArg UInt8.toNat h;simp at this;omega
theorem BL (w:World):CP 236 #[] w fun e w'=>∃p,e= .returned (.pointer (some ⟨p,0,none⟩))∧gD w' w.heap.size p aG∧Below w.heap.size w w':=by
 refine aL (vv w) ?_;refine⟨some w.heap.size,_,fo _,some (w.alloc (.map #[] 0)).heap.size,_,fo _,?_⟩;rintro w3 hw3;have hz1:(w.alloc (.map #[] 0)).heap.size=w.heap.size+1:=av _ _;have hz2:((w.alloc (.map #[] 0)).alloc (.map #[] 0)).heap.size=w.heap.size+2:=by rw [av,hz1]
 have hb3:Below w.heap.size w w3:=by
  subst hw3;exact(((Below.refl _ _).alloc (Nat.le_refl _) _).alloc (by omega) _).alloc (by omega) _
 have hT3:gD w3 w.heap.size (w.heap.size+2) ((List.range 0).map cr):=by
  subst hw3;refine⟨⟨none,0,0⟩,w.heap.size,w.heap.size+1,1,⟨?_,cP _ _ _ _,rfl,(by intro h;cases h),?_,?_,by omega,by omega,by omega,by omega⟩,by omega,by omega,by simp⟩
  ·have:=ak ((w.alloc (.map #[] 0)).alloc (.map #[] 0)) (.cells #[Value.slice none 0 0,Value.map (some w.heap.size),Value.map (some (w.alloc (.map #[] 0)).heap.size),Value.int .i64 1] jZ);rw [hz2]at this;rw [this,hz1]
  ·exact(iK (kv:=dj) w).same (by rw [fc _ _ (by omega),fc _ _ (by omega)])
  ·have h0:=iK (kv:=dz) (w.alloc (.map #[] 0));rw [hz1]at h0;exact h0.same (by rw [fc _ _ (by omega)])
 have hp2:nb ((w.alloc (.map #[] 0)).alloc (.map #[] 0))=⟨w.heap.size+2,0,none⟩:=by rw [nb,hz2]
 rw [hp2];intro I hI;have key:=aX (α:=World) 256 (fun i x=>gD x w.heap.size (w.heap.size+2) ((List.range i).map cr)∧Below w.heap.size w x) (fun i x=>I [.int .i64 (i:Int)] x) w3 ⟨hT3,hb3⟩ ?_ ?_
 ·exact key
 ·rintro i hi ih w4 ⟨⟨l,mb,mp,most,hT,hm⟩,hB⟩;refine hI _ _ (ac.yes (by simp;omega) ?_);have hwr:IntKind.wrap .u8 (i:Int)=(i:Int):=dm (by show(0:Int)≤_;omega) (by show _≤(255:Int);omega);rw [hwr];rintro w5 rfl;have hb5:=ag w4 (.cells #[Value.int .u8 (i:Int)] 5);refine⟨_,_,mV (P:=Tryz.prog) (by kernel_rfl) (by kernel_rfl) (by kernel_rfl) w4 i hi,?_⟩;have hblk:=ah hb5 hT.blk;refine⟨l.a,l.n,l.c,by rw [aj _ _ hblk];rfl,?_⟩;rintro w7 rfl;have hrow5:=aE hT.row hb5;have hbm5:=hT.bytes.on hb5;have hpm5:=hT.pairs.on hb5;have hlen:l.n=i:=by rw [hT.len];simp
  obtain⟨a',c',w8,hr8,hu8,hf8,h9⟩:=fe (P:=Tryz.prog) (s:=l) 0 hblk (show 0<4 by decide) hrow5 hT.off hT.bp ru sd sU rfl (by decide) (fV (cr i)) rfl (by
   intro v hv;simp only [fV,List.mem_cons,List.not_mem_nil,or_false]at hv;rcases hv with rfl |rfl |rfl<;>rfl) (by omega) (by omega)
  refine⟨a',l.n+1,c',w8,hr8,rfl,hu8,hf8,?_⟩;intro w9 hw9;obtain⟨hblk9,hrow9,hoff9,hB9,hkeep9,hsz9⟩:=h9 w9 hw9;have hmbp:mb≠w.heap.size+2:=dr hblk hbm5;have hmpp:mp≠w.heap.size+2:=dr hblk hpm5;have hbm9:bv dj w9 mb (lf ((List.range i).map cr)):=hbm5.same (hkeep9 mb hbm5.lt hmbp (cL hrow5 hbm5));have hpm9:bv dz w9 mp (lZ ((List.range i).map cr)):=hpm5.same (hkeep9 mp hpm5.lt hmpp (cL hrow5 hpm5));refine⟨some mb,by rw [aj _ _ hblk9];rfl,?_⟩;obtain⟨w10,hr10,hm10,hs10,hz10,hB10⟩:=e_ rt gP hbm9 [UInt8.ofNat i] (.int .i64 (i:Int)) (oc.2 fun e he heq=>by
   obtain⟨j,hj,rfl⟩:=List.mem_map.1 he;have hj:=List.mem_range.1 hj;have:=tG (by omega) hi (List.cons.inj heq).1;omega)
  have hrange:(List.range (i+1)).map cr=(List.range i).map cr++ [cr i]:=by rw [List.range_succ];simp
  refine⟨w10,hr10,Ar.ok64 (by omega) (by omega) (ih w10 ⟨⟨⟨a',l.n+1,c'⟩,mb,mp,most,⟨?_,?_,by simp [hlen],hoff9,?_,?_,hT.bp,hT.bb,hT.bm,hT.ne⟩,hm.1,hm.2.1,?_⟩,?_⟩)⟩
  ·rw [hs10 _ (Ne.symm hmbp)];exact hblk9
  ·rw [hrange];have hflat:((List.range i).map cr++ [cr i]).flatMap fV=((List.range i).map cr).flatMap fV++fV (cr i):=by simp
   rw [hflat];refine aN hrow9 fun k hk=>hs10 k ?_;rintro rfl;exact cL hrow9 hbm9 hk
  ·rw [hrange,tD];simpa [cr]using hm10
  ·rw [hrange,si _ (by simp;omega)];rw [si _ (by simp;omega)]at hpm9;exact hpm9.same (hs10 _ (Ne.symm hT.ne))
  ·intro e he;rw [hrange]at he;rcases List.mem_append.1 he with he |he
   ·exact hm.2.2 e he
   ·rw [List.mem_singleton.1 he];exact hm.1
  ·exact hB10 _ _ hT.bb (hB9 w (hB.alloc hB.size _))
 ·rintro w4 ⟨hT,hB⟩;exact hI _ _ (ac.no (by simp) ⟨_,rfl,hT,hB⟩)
theorem sg {i:Nat} {e:aP} (h:aG[i]? =some e):i<256∧e=cr i:=by
 simp only [aG,List.getElem?_map,List.getElem?_range]at h;have hi:i<256:=by
  rcases Nat.lt_or_ge i 256 with h' |h'
  ·exact h'
  ·rw [List.getElem?_eq_none (by simpa using h')]at h;cases h
 rw [List.getElem?_range hi]at h;exact⟨hi,(Option.some.inj h).symm⟩
theorem n_:gz aG:=by
 refine⟨List.take_of_length_le (by simp [aG]),by simp [aG],by simp [aG],fun i e hi h256=>?_,fun e he=>?_,?_⟩
 ·have:=(sg hi).1;omega
 ·obtain⟨i,hi,rfl⟩:=List.getElem_of_mem he;rw [(sg (List.getElem?_eq_getElem hi)).2];simp [cr]
 ·simp only [aG,List.map_map,List.Nodup];rw [List.pairwise_map];refine List.Pairwise.imp_of_mem ?_ (List.nodup_range (n:=256));intro i j hi hj hne h;simp only [Function.comp,cr,List.cons.injEq,and_true]at h;exact hne (tG (List.mem_range.1 hi) (List.mem_range.1 hj) h)
def bU:List aP→Nat→List (Int×Int)→Except (Nat×Int) (List aP)
 |es,_,[]=>.ok es
 |es,i,m::r=>match bP es m with
  | .error n=>.error (i,n)
  | .ok x=>bU (es++ [x]) (i+1) r
def CO (w:World) (ms:List (Int×Int)) (v:Value) (w':World):Prop:=Below w.heap.size w w'∧match bU aG 0 ms with
 | .error q=>v= .tuple #[.pointer none,.int .i64 q.1,.int .i64 q.2]
 | .ok es=>∃p,v= .tuple #[.pointer (some ⟨p,0,none⟩),.int .i64 ms.length,.int .i64 0]∧gD w' w.heap.size p es∧gz es
theorem fO {es:List aP} {m:Int×Int} {n:Int} (h:bP es m= .error n):n≠0:=by
 unfold bP at h
 repeat' split at h
 all_goals (cases h;try decide)
theorem oJ (w:World) (a:Option Addr) (c:Nat) (ms:List (Int×Int)) (hr:Rw bE 2 w a ms) (hl:ms.length≤1000000000):
  CP 188 #[.slice a ms.length c] w fun e w'=>∃v,e= .returned v∧CO w ms v w':=by
 refine wm a ms.length c w (CO w ms) ?_;refine(BL w).mono ?_;rintro e w1 ⟨p,rfl,hT,hB⟩;refine⟨_,rfl,?_⟩;intro I hI;have key:=aX (α:=Int×Int×Option Addr×World) ms.length (fun i x=>∃es,gD x.2.2.2 w.heap.size p es∧gz es∧bU aG 0 ms=bU es i (ms.drop i)∧Below w.heap.size w x.2.2.2) (fun i x=>I [.int .i64 (i:Int),.int .i64 x.1,.int .i64 x.2.1,.pointer x.2.2.1] x.2.2.2) (0,0,none,w1) ⟨aG,hT,n_,by rw [List.drop_zero],hB⟩ ?_ ?_
 ·exact key
 ·rintro i hi ih ⟨y4,y3,y2,w2⟩ ⟨es,hT,hok,heq,hB⟩;change gD w2 _ _ _ at hT;change Below w.heap.size w w2 at hB;obtain⟨q,hq,_,hc⟩:=(hr.on hB) i _ (List.getElem?_eq_getElem hi);have h0:=hc 0 _ rfl;rw [ay]at h0;refine hI _ _ _ _ _ (ac.yes (by simp;omega) (af.mk q hq ⟨by omega,by omega,_,_,⟨h0,hc 1 _ rfl,trivial⟩,?_⟩));intro w3 hw3;refine aT [.int .i64 0,.int .i64 0] [.int .i64 ms[i].1,.int .i64 ms[i].2] rfl (co _ _) w3 hw3 ?_;intro w4 h4 hz4 hB4;refine⟨_,_,⟨by have:=aj _ _ h4 0;rw [ay]at this;exact this,aj _ _ h4 1,trivial⟩,?_⟩;refine(pl w4 w.heap.size p es (hT.on hB4) hok (by have h1:w.heap.size≤w2.heap.size:=hB.size;have h2:w4.heap.size=w2.heap.size+1:=hz4;omega) ms[i]).mono ?_;rintro e w5 ⟨v,rfl,hB5,hpost⟩;have hdrop:ms.drop i=ms[i]::ms.drop (i+1):=(List.drop_eq_getElem_cons hi);have hB6:Below w.heap.size w w5:=(hB.trans (hB4.mono hB.size)).trans hB5;cases hx:bP es ms[i]with
  |error n=>
   rw [hx]at hpost;obtain⟨rfl,_⟩:=hpost;refine⟨_,_,rfl,ac.yes (by simpa using fO hx) ⟨hB6,?_⟩⟩;rw [heq,hdrop,bU,hx]
  |ok x=>
   rw [hx]at hpost;obtain⟨rfl,hT'⟩:=hpost;refine⟨_,_,rfl,ac.no (by simp) (Ar.ok64 (by omega) (by omega) (ih (y4,y3,y2,w5) ⟨_,hT',(kP hok hx).1,?_,hB6⟩))⟩;rw [heq,hdrop,bU,hx]
 ·rintro⟨y4,y3,y2,w2⟩ ⟨es,hT,hok,heq,hB⟩;refine hI _ _ _ _ _ (ac.no (by simp) ⟨hB,?_⟩);rw [heq,List.drop_length,bU];exact⟨p,rfl,hT,hok⟩
theorem gV {α κ:Type} [DecidableEq κ] [BEq κ] [LawfulBEq κ] (f:α→κ) (m:κ):∀(l:List α) (k:Nat),ez m ((l.zipIdx k).map fun x=>(f x.1,Value.int .i64 (x.2:Int)))=((l.map f).idxOf? m).map fun i=>Value.int .i64 ((k+i:Nat):Int)
 | [],k=>rfl
 |e::l,k=>by
  simp only [List.zipIdx_cons,List.map_cons,ez,List.idxOf?_cons];by_cases h:m=f e
  ·simp [h]
  ·rw [if_neg h,gV f m l (k+1)];have:(f e==m)=false:=by simp;exact fun e'=>h e'.symm
   rw [this];simp only [Bool.false_eq_true,if_false,Option.map_map];congr 1;funext i;simp;omega
def yC (xs:List (Int×Bs)):List (Int×Value):=xs.zipIdx.map fun x=>(x.1.1,.int .i64 (x.2:Int))
def uY (xs:List (Int×Bs)):List (Bs×Value):=xs.zipIdx.map fun x=>(x.1.2,.int .i64 (x.2:Int))
theorem DK (xs:List (Int×Bs)) (x:Int×Bs):yC (xs++ [x])=yC xs++ [(x.1,.int .i64 (xs.length:Int))]:=by simp [yC,List.zipIdx_append]
theorem DS (xs:List (Int×Bs)) (x:Int×Bs):uY (xs++ [x])=uY xs++ [(x.2,.int .i64 (xs.length:Int))]:=by simp [uY,List.zipIdx_append]
theorem nD (xs:List (Int×Bs)) (k:Int):ez k (yC xs)=((xs.map (·.1)).idxOf? k).map fun i:Nat=>Value.int .i64 (i:Int):=by
 have:=gV (fun x:Int×Bs=>x.1) k xs 0;simpa [yC]using this
theorem tF (xs:List (Int×Bs)) (k:Bs):ez k (uY xs)=((xs.map (·.2)).idxOf? k).map fun i:Nat=>Value.int .i64 (i:Int):=by
 have:=gV (fun x:Int×Bs=>x.2) k xs 0;simpa [uY]using this
theorem pS {κ:Type} [BEq κ] [LawfulBEq κ] {l:List κ} {k:κ}:(l.idxOf? k).isSome=true↔k∈l:=by
 cases h:l.idxOf? k with
 |none=>
  have:=List.idxOf?_eq_none_iff.1 h;simp [this]
 |some i=>
  have:k∈l:=by
   rcases Classical.em (k∈l)with h' |h'
   ·exact h'
   ·rw [List.idxOf?_eq_none_iff.2 h']at h;cases h
  simp [this]
abbrev qO:TypeId:=270
abbrev FM:TypeId:=128
theorem ny:Tryz.prog.underlying FM=some (.map bf bf):=by kernel_rfl
def jr (xs:List (Int×Bs)):Int:=xs.foldl (fun n x=>if(x.2.length:Int)>n then(x.2.length:Int)else n) 0
def mS (xs:List (Int×Bs)) (i:Nat):Bool:=xs.any fun x=>x.2.head?.map (·.toNat)==some i
structure vZ (c:Array Value) (l:Sl) (mi mt:Nat) (xs:List (Int×Bs)):Prop where
 size:c.size=260
 c0:c[0]? =some l.v
 c1:c[1]? =some (.map (some mi))
 c2:c[2]? =some (.map (some mt))
 most:c[259]? =some (.int .i64 (jr xs))
 first:∀i,i<256→c[3+i]? =some (.bool (mS xs i))
structure qn (w:World) (B p:Nat) (l:Sl) (mi mt:Nat) (c:Array Value) (xs:List (Int×Bs)):Prop where
 blk:w.heap[p]? =some (.cells c qO (0,0))
 cells:vZ c l mi mt xs
 row:w.ownsRow B pW 2 l.v l.n (xs.flatMap aH)
 len:l.n=xs.length
 off:l.v.ownBlock≠some p
 ids:bv ba w mi (yC xs)
 texts:bv dj w mt (uY xs)
 bp:B≤p
 bi:B≤mi
 bt:B≤mt
 ne:mi≠mt
theorem qn.on {w w':World} {B p:Nat} {l:Sl} {mi mt:Nat} {c:Array Value} {xs:List (Int×Bs)} (h:qn w B p l mi mt c xs) (hb:Below w.heap.size w w'):qn w' B p l mi mt c xs:=
 ⟨ah hb h.blk,h.cells,aE h.row hb,h.len,h.off,h.ids.on hb,h.texts.on hb,h.bp,h.bi,h.bt,h.ne⟩
theorem aO (w:World):Below w.heap.size w w.drew:=(Below.refl _ _).drew
def pH (w:World) (B p:Nat) (xs:List (Int×Bs)):Prop:=∃l mi mt c,qn w B p l mi mt c xs
def va (w:World) (p:Nat) (xs:List (Int×Bs)):Prop:=∃(l:Sl) (mi mt:Nat) (c:Array Value),w.heap[p]? =some (.cells c qO (0,0))∧vZ c l mi mt xs∧l.n=xs.length∧Rw aH 2 w l.a xs∧bv ba w mi (yC xs)∧bv dj w mt (uY xs)
theorem va.on {w w':World} {p:Nat} {xs:List (Int×Bs)} (h:va w p xs) (hb:Below w.heap.size w w'):va w' p xs:=by
 obtain⟨l,mi,mt,c,h1,h2,h3,h4,h5,h6⟩:=h;exact⟨l,mi,mt,c,ah hb h1,h2,h3,h4.on hb,h5.on hb,h6.on hb⟩
theorem pH.on {w w':World} {B p:Nat} {xs:List (Int×Bs)} (h:pH w B p xs) (hb:Below w.heap.size w w'):pH w' B p xs:=by
 obtain⟨l,mi,mt,c,h⟩:=h;exact⟨l,mi,mt,c,ah hb h.blk,h.cells,aE h.row hb,h.len,h.off,h.ids.on hb,h.texts.on hb,h.bp,h.bi,h.bt,h.ne⟩
theorem qR (x:Int×Bs):(aH x).length=2:=rfl
theorem pH.is {w:World} {B p:Nat} {xs:List (Int×Bs)} (h:pH w B p xs):va w p xs:=by
 obtain⟨l,mi,mt,c,h⟩:=h;exact⟨l,mi,mt,c,h.blk,h.cells,h.len,(Rw.of_own h.row qR (by decide)).1,h.ids,h.texts⟩
theorem va.lt {w:World} {p:Nat} {xs:List (Int×Bs)} (h:va w p xs):p<w.heap.size:=by
 obtain⟨l,mi,mt,c,h1,_⟩:=h;exact(Array.getElem?_eq_some_iff.1 h1).1
theorem sH (i:Nat) (hi:i≤1000000) (w:World):CP 197 #[.int .i64 (i:Int)] w fun e w'=>e= .returned (.int .i64 (-1- (i:Int)))∧w'=w:=by
 refine aL (zt (i:Int) w) ?_;exact Ar.ok64 (by omega) (by omega) ⟨rfl,rfl⟩
def uK (xs:List (Int×Bs)) (id:Int):Option Nat:=(xs.map (·.1)).idxOf? id
theorem lx (w:World) (p:Nat) (xs:List (Int×Bs)) (h:va w p xs) (hx:xs.length≤1000000) (id:Int):CP 148 #[.pointer (some ⟨p,0,none⟩),.int .i64 id] w fun e w'=>e= .returned (.tuple #[.int .i64 (((uK xs id).map fun i:Nat=> -1- (i:Int)).getD 0),.bool (uK xs id).isSome])∧w'=w:=by
 obtain⟨l,mi,mt,c,h1,h2,h3,h4,h5,h6⟩:=h;refine aL (xC (some ⟨p,0,none⟩) id w) ?_;refine ac.no rfl (af.mk _ rfl ⟨some mi,by rw [aj p w h1];exact h2.c1,?_⟩);have hl:=fH nl ny eE h5 id;rw [nD]at hl;unfold uK;cases hx':(xs.map (·.1)).idxOf? id with
 |none=>
  rw [hx']at hl;exact⟨0,false,w,hl,ac.yes rfl ⟨rfl,rfl⟩⟩
 |some i=>
  rw [hx']at hl;have hi:i<xs.length:=by
   have:=(List.idxOf?_eq_some_iff.1 hx').1;simpa using this
  refine⟨_,true,w,hl,ac.no rfl ?_⟩;refine(sH i (by omega) w).mono ?_;rintro e w2 ⟨rfl,hw⟩;subst hw;exact⟨_,rfl,rfl,rfl⟩
theorem fy (a:Int) (b:ByteArray):∀v∈ [Value.int .i64 a,Value.string b],v.oneCell'=true:=by
 intro v hv;simp only [List.mem_cons,List.not_mem_nil,or_false]at hv;rcases hv with rfl |rfl<;>rfl
theorem lm (w w1:World) (x:Int×Bs) (hw1:w1=w.alloc (.cells #[.int .i64 x.1,.string (str x.2)] pW)) (j:Nat):w1.cell? ((nb w).add j)=(#[Value.int .i64 x.1,Value.string (str x.2)]:Array Value)[j]? :=by
 subst hw1;rw [aC,Nat.zero_add,aY]
theorem qv (x:Int×Bs) (w:World):CP 237 #[.agg #[.int .i64 x.1,.string (str x.2)]] w fun e w'=>e= .returned (.bool (bg x))∧Below w.heap.size w w':=by
 refine aR (yR x.1 (str x.2) w (fun v w'=>v= .bool (bg x)∧Below w.heap.size w w') ?_) (by rintro v w' ⟨rfl,h⟩;exact⟨rfl,h⟩);intro w1 hw1;have hb:Below w.heap.size w w1:=by subst hw1;exact ag _ _
 have hc:=lm w w1 x hw1;have off:bg x=false→(Value.bool false= .bool (bg x)∧Below w.heap.size w w1):=fun h=>⟨by rw [h],hb⟩;refine⟨x.1,hc 0,ac.mk (fun h1=>?_) fun h1=>off ?_⟩
 ·have h1:=of_decide_eq_true h1;refine⟨x.1,hc 0,ac.mk (fun h2=>?_) fun h2=>off ?_⟩
  ·have h2:=of_decide_eq_true h2;refine⟨_,hc 1,ac.mk (fun h3=>?_) fun h3=>off ?_⟩
   ·refine⟨_,hc 1,?_,hb⟩;congr 1;rw [bO];have:x.2≠ []:=by
     intro e;rw [e]at h3;simp at h3
    have:0<x.2.length:=List.length_pos_iff.2 this;unfold bg;exact decide_eq_decide.2 (by omega)
   ·have:x.2= []:=by
     rw [cn]at h3;simpa using h3
    unfold bg;exact decide_eq_false (by rw [this];simp)
  ·have h2:=of_decide_eq_false h2;unfold bg;exact decide_eq_false (by omega)
 ·have h1:=of_decide_eq_false h1;unfold bg;exact decide_eq_false (by omega)
def cA (xs:List (Int×Bs)) (x:Int×Bs):Int:=if bg x=false then 1 else if 32≤xs.length then 3 else if x.1∈xs.map (·.1)∨x.2∈xs.map (·.2)then 10 else 0
def rW (w:World) (B p:Nat) (xs:List (Int×Bs)) (x:Int×Bs) (v:Value) (w':World):Prop:=Below B w w'∧v= .int .i64 (cA xs x)∧(cA xs x=0→pH w' B p (xs++ [x]))
theorem wz (xs:List (Int×Bs)) (x:Int×Bs):jr (xs++ [x])=if(x.2.length:Int)>jr xs then(x.2.length:Int)else jr xs:=by simp [jr]
theorem uJ (w:World) (B p:Nat) (xs:List (Int×Bs)) (h:pH w B p xs) (hB:B≤w.heap.size) (x:Int×Bs):
  CP 189 #[.pointer (some ⟨p,0,none⟩),.agg #[.int .i64 x.1,.string (str x.2)]] w fun e w'=>∃v,e= .returned v∧rW w B p xs x v w':=by
 refine xK (some ⟨p,0,none⟩) x.1 (str x.2) w (rW w B p xs x) ?_;intro w1 hw1;have hb1:Below w.heap.size w w1:=by subst hw1;exact ag _ _
 intro w2 hw2;have hb2:Below w.heap.size w w2:=by subst hw2;exact hb1.drew
 have hh2:w2.heap=w1.heap:=by subst hw2;rfl
 have hsz2:w2.heap.size=w.heap.size+1:=by rw [hh2];subst hw1;rw [av]
 have hc2:∀j,w2.cell? ((nb w).add j)=(#[Value.int .i64 x.1,Value.string (str x.2)]:Array Value)[j]? :=by
  intro j;rw [←lm w w1 x hw1 j];subst hw2;rfl
 obtain⟨l,mi,mt,c,hM⟩:=h.on hb2;have hcell:∀j,w2.cell? ((⟨p,0,none⟩:Addr).add j)=c[j]? :=fun j=>aj p _ hM.blk j;have hL:=fH nl ny eE hM.ids x.1;rw [nD]at hL;obtain⟨r0,r1,hr1,hL⟩:∃(r0:Int) (r1:Bool),(r1=true↔x.1∈xs.map (·.1))∧(Instr.lookup FM (Value.map (some mi)) (ba x.1) true).run Tryz.prog w2= .ok (Value.tuple #[Value.int .i64 r0,Value.bool r1]) w2:=by
  have hm:=pS (l:=xs.map (·.1)) (k:=x.1);cases hx:(xs.map (·.1)).idxOf? x.1 with
  |none=>rw [hx]at hL hm;exact⟨0,false,hm,hL⟩
  |some i=>rw [hx]at hL hm;exact⟨_,true,hm,hL⟩
 refine af.mk _ rfl ⟨some mi,by rw [hcell];exact hM.cells.c1,x.1,hc2 0,r0,r1,w2,hL,?_⟩;intro w4 hw4;have hh4:w4.heap=w2.heap:=by subst hw4;rfl
 have hb4:Below w.heap.size w w4:=by subst hw4;exact hb2.drew
 have hcell4:∀j,w4.cell? ((⟨p,0,none⟩:Addr).add j)=c[j]? :=fun j=>by rw [←hcell j];subst hw4;rfl
 have hc4:∀j,w4.cell? ((nb w).add j)=(#[Value.int .i64 x.1,Value.string (str x.2)]:Array Value)[j]? :=fun j=>by rw [←hc2 j];subst hw4;rfl
 have hM4:qn w4 B p l mi mt c xs:=by subst hw4;exact hM.on (aO _)
 have hL:=fH rt gP eE hM4.texts x.2;rw [tF]at hL;obtain⟨r4,r5,hr5,hL⟩:∃(r4:Int) (r5:Bool),(r5=true↔x.2∈xs.map (·.2))∧(Instr.lookup CT (Value.map (some mt)) (dj x.2) true).run Tryz.prog w4= .ok (Value.tuple #[Value.int .i64 r4,Value.bool r5]) w4:=by
  have hm:=pS (l:=xs.map (·.2)) (k:=x.2);cases hx:(xs.map (·.2)).idxOf? x.2 with
  |none=>rw [hx]at hL hm;exact⟨0,false,hm,hL⟩
  |some i=>rw [hx]at hL hm;exact⟨_,true,hm,hL⟩
 refine af.mk _ rfl ⟨some mt,by rw [hcell4];exact hM.cells.c2,_,hc4 1,r4,r5,w4,hL,x.1,_,⟨by have:=hc4 0;rwa [ay]at this,hc4 1,trivial⟩,?_⟩;refine(qv x w4).mono ?_;rintro e w6 ⟨rfl,hb6'⟩;have hb6:Below w.heap.size w w6:=hb4.trans (hb6'.mono hb4.size);have hM6:qn w6 B p l mi mt c xs:=⟨ah hb6' hM4.blk,hM4.cells,aE hM4.row hb6',hM4.len,hM4.off,hM4.ids.on hb6',hM4.texts.on hb6',hM4.bp,hM4.bi,hM4.bt,hM4.ne⟩;have hcell6:∀j,w6.cell? ((⟨p,0,none⟩:Addr).add j)=c[j]? :=fun j=>aj p _ hM6.blk j;have fail:∀n:Int,n≠0→cA xs x=n→rW w B p xs x (.int .i64 n) w6:=fun n h0 hn=>⟨hb6.mono hB,by rw [hn],fun h=>absurd (hn▸h) h0⟩;refine⟨_,rfl,ac.mk (fun h0=>fail 1 (by decide) ?_) fun h0=>?_⟩
 ·rw [cA,if_pos (by simpa using h0)]
 have hok:bg x=true:=by simpa using h0
 refine af.mk _ rfl ⟨l.a,l.n,l.c,by rw [hcell6];exact hM.cells.c0,ac.mk (fun h1=>fail 3 (by decide) ?_) fun h1=>?_⟩
 ·have h1:=of_decide_eq_true h1;rw [cA,if_neg (by rw [hok];simp),if_pos (by rw [←hM.len];omega)]
 have h1:=of_decide_eq_false h1;have hlen:=hM.len;have hk:¬32≤xs.length:=by rw [←hlen];omega
 refine ac.mk (fun h2=>fail 10 (by decide) ?_) fun h2=>ac.mk (fun h3=>fail 10 (by decide) ?_) fun h3=>?_
 ·rw [cA,if_neg (by rw [hok];simp),if_neg hk,if_pos (.inl (hr1.1 h2))]
 ·rw [cA,if_neg (by rw [hok];simp),if_neg hk,if_pos (.inr (hr5.1 h3))]
 have n1:x.1∉xs.map (·.1):=fun h=>by rw [hr1.2 h]at h2;cases h2
 have n2:x.2∉xs.map (·.2):=fun h=>by rw [hr5.2 h]at h3;cases h3
 have hadd:cA xs x=0:=by rw [cA,if_neg (by rw [hok];simp),if_neg hk,if_neg (fun h=>h.elim n1 n2)]
 have hkl:1≤x.2.length∧x.2.length≤64:=by
  have:=of_decide_eq_true (by simpa [bg]using hok:decide _=true);omega
 intro w7 hw7;have hh7:w7.heap=w6.heap:=by subst hw7;rfl
 have hb7:Below w.heap.size w w7:=by subst hw7;exact hb6.drew
 have hM7:qn w7 B p l mi mt c xs:=by subst hw7;exact hM6.on (aO _)
 have hcell7:∀j,w7.cell? ((⟨p,0,none⟩:Addr).add j)=c[j]? :=fun j=>aj p _ hM7.blk j;have hloc4:w4.heap[w.heap.size]? =some (.cells #[Value.int .i64 x.1,Value.string (str x.2)] pW):=by
  rw [hh4,hh2];subst hw1;exact ak _ _
 have hloc7:w7.heap[w.heap.size]? =some (.cells #[Value.int .i64 x.1,Value.string (str x.2)] pW):=by rw [hh7];exact ah hb6' hloc4
 have loc:∀w':World,w'.heap[w.heap.size]? =w7.heap[w.heap.size]? →∀j,w'.cell? ((nb w).add j)=(#[Value.int .i64 x.1,Value.string (str x.2)]:Array Value)[j]? :=fun w' hw' j=>by
  rw [hloc7]at hw';exact aj _ _ hw' j
 have hpw:p<w.heap.size:=h.is.lt;have hmip:mi≠p:=dr hM7.blk hM7.ids;have hmtp:mt≠p:=dr hM7.blk hM7.texts;have hmiw:mi≠w.heap.size:=dr hloc7 hM7.ids;have hmtw:mt≠w.heap.size:=dr hloc7 hM7.texts;refine af.mk _ rfl ⟨some mi,by rw [hcell7];exact hM.cells.c1,x.1,loc w7 rfl 0,af.mk _ rfl ⟨some mt,by rw [hcell7];exact hM.cells.c2,_,loc w7 rfl 1,af.mk _ rfl ⟨l.a,l.n,l.c,by rw [hcell7];exact hM.cells.c0,af.mk _ rfl ⟨l.a,l.n,l.c,by rw [hcell7];exact hM.cells.c0,?_⟩⟩⟩⟩;obtain⟨k1,w8,hr8,hp8,hs8,hz8,hB8⟩:=gc nl ny eE hM7.ids x.1 (by rw [nD,List.idxOf?_eq_none_iff.2 n1];rfl);obtain⟨w9,hr9,hm9,hs9,hz9,hB9⟩:=gg FM hp8 (.int .i64 (l.n:Int));have ht9:bv dj w9 mt (uY xs):=hM7.texts.same (by rw [hs9 mt hM.ne.symm,hs8 mt hM.ne.symm]);obtain⟨k2,w10,hr10,hp10,hs10,hz10,hB10⟩:=gc rt gP eE ht9 x.2 (by rw [tF,List.idxOf?_eq_none_iff.2 n2];rfl);obtain⟨w11,hr11,hm11,hs11,hz11,hB11⟩:=gg CT hp10 (.int .i64 (l.n:Int));have hblk8:w8.heap[p]? =some (.cells c qO (0,0)):=by rw [hs8 p (Ne.symm hmip)];exact hM7.blk
 refine⟨0,k1,w8,hr8,⟨by rw [aj p _ hblk8];exact hM.cells.c0,trivial⟩,⟨loc w8 (hs8 _ (Ne.symm hmiw)) 1,trivial⟩,w9,hr9,⟨loc w9 (by rw [hs9 _ (Ne.symm hmiw),hs8 _ (Ne.symm hmiw)]) 1,trivial⟩,0,k2,w10,hr10,w11,hr11,?_⟩;have h11:∀k,k≠mi→k≠mt→w11.heap[k]? =w7.heap[k]? :=fun k h1 h2=>by rw [hs11 k h2,hs10 k h2,hs9 k h1,hs8 k h1]
 have hsz7:w11.heap.size=w7.heap.size:=by rw [hz11,hz10,hz9,hz8]
 intro w12 hw12;have hh12:w12.heap=w11.heap:=by subst hw12;rfl
 have hblk12:w12.heap[p]? =some (.cells c qO (0,0)):=by rw [hh12,h11 p (Ne.symm hmip) (Ne.symm hmtp)];exact hM7.blk
 have hb12:Below B w w12:=by
  have:=hB11 _ _ hM.bt (hB10 _ _ hM.bt (hB9 _ _ hM.bi (hB8 _ _ hM.bi (hb7.mono hB))));subst hw12;exact this.drew
 have hw12':∀w':World,w'.heap[w.heap.size]? =w12.heap[w.heap.size]? →∀j,w'.cell? ((nb w).add j)=(#[Value.int .i64 x.1,Value.string (str x.2)]:Array Value)[j]? :=fun w' hw' j=>loc w' (by rw [hw',hh12,h11 _ (Ne.symm hmiw) (Ne.symm hmtw)]) j;obtain⟨b0,t0,hx0⟩:∃b0 t0,x.2=b0::t0:=by
  cases hx:x.2 with
  |nil=>rw [hx]at hkl;simp at hkl
  |cons a t=>exact⟨a,t,rfl⟩
 have hbt:fJ (str x.2) 0=(b0.toNat:Int):=by
  have:=iY x.2 0 (by omega);rw [show((0:Nat):Int)=0 from rfl]at this;rw [this];simp [hx0]
 have hb0:b0.toNat<256:=b0.toNat_lt;have hadr:((⟨p,0,none⟩:Addr).add 3).add ((b0.toNat:Int).toNat*1)=(⟨p,0,none⟩:Addr).add (3+b0.toNat):=by
  rw [aC,aC,aC];simp
 refine⟨_,hw12' w12 rfl 1,Int.le_refl _,by rw [bO];omega,af.mk _ rfl ?_⟩;rw [hbt,hadr];refine⟨by omega,by omega,rfl,⟨_,by rw [aj p _ hblk12];exact hM.cells.first _ hb0⟩,be hblk12,?_⟩;intro w13 hw13;have hblk13:w13.heap[p]? =some (.cells (c.setIfInBounds (3+b0.toNat) (.bool true)) qO (0,0)):=by subst hw13;exact bL hblk12 _
 have hb13:Below B w w13:=by subst hw13;exact bJ hb12 hM.bp _
 have hs13:∀k,k≠p→w13.heap[k]? =w12.heap[k]? :=fun k hk=>by subst hw13;exact aq (by rw [ax];exact hk)
 have hz13:w13.heap.size=w12.heap.size:=by subst hw13;exact aU _ _ _
 intro w14 hw14;have hh14:w14.heap=w13.heap:=by subst hw14;rfl
 have hblk14:w14.heap[p]? =some (.cells (c.setIfInBounds (3+b0.toNat) (.bool true)) qO (0,0)):=by rw [hh14];exact hblk13
 have hcs:=hM.cells.size;refine af.mk _ rfl ⟨jr xs,by rw [aj p _ hblk14,Array.getElem?_setIfInBounds_ne (by omega)];exact hM.cells.most,_,hw12' w14 (by rw [hh14,hs13 _ (by omega)]) 1,_,w14,qQ _ _ _ _ _,af.mk _ rfl ⟨rfl,⟨_,by rw [aj p _ hblk14,Array.getElem?_setIfInBounds_ne (by omega)];exact hM.cells.most⟩,be hblk14,?_⟩⟩;rw [bO, ←wz];intro w16 hw16;have hblk16:w16.heap[p]? =some (.cells ((c.setIfInBounds (3+b0.toNat) (.bool true)).setIfInBounds 259 (.int .i64 (jr (xs++ [x])))) qO (0,0)):=by subst hw16;exact bL hblk14 _
 have hb16:Below B w w16:=by
  subst hw16;refine bJ ?_ hM.bp _;subst hw14;exact hb13.drew
 have hs16:∀k,k≠p→w16.heap[k]? =w12.heap[k]? :=fun k hk=>by
  rw [←hs13 k hk, ←hh14];subst hw16;exact aq (by rw [ax];exact hk)
 have hz16:w16.heap.size=w12.heap.size:=by rw [←hz13, ←hh14];subst hw16;exact aU _ _ _
 intro w17 hw17;have hh17:w17.heap=w16.heap:=by subst hw17;rfl
 have hb17:Below B w w17:=by subst hw17;exact hb16.drew
 have hblk17:w17.heap[p]? =some (.cells ((c.setIfInBounds (3+b0.toNat) (.bool true)).setIfInBounds 259 (.int .i64 (jr (xs++ [x])))) qO (0,0)):=by rw [hh17];exact hblk16
 have hc17:((c.setIfInBounds (3+b0.toNat) (.bool true)).setIfInBounds 259 (.int .i64 (jr (xs++ [x]))))[0]? =some l.v:=by
  rw [Array.getElem?_setIfInBounds_ne (by omega),Array.getElem?_setIfInBounds_ne (by omega)];exact hM.cells.c0
 have hsame:∀k,k≠p→k≠mi→k≠mt→w17.heap[k]? =w7.heap[k]? :=fun k h1 h2 h3=>by rw [hh17,hs16 k h1,hh12,h11 k h2 h3]
 have hrow17:w17.ownsRow B pW 2 l.v l.n (xs.flatMap aH):=aN hM7.row fun k hk=>hsame k (fun e=>hM.off (e▸hk)) (fun e=>cL hM7.row hM7.ids (e▸hk)) (fun e=>cL hM7.row hM7.texts (e▸hk));have hi17:bv ba w17 mi (yC (xs++ [x])):=by
  rw [DK, ←hlen];exact hm9.same (by rw [hh17,hs16 _ hmip,hh12,hs11 _ hM.ne,hs10 _ hM.ne])
 have ht17:bv dj w17 mt (uY (xs++ [x])):=by
  rw [DS, ←hlen];exact hm11.same (by rw [hh17,hs16 _ hmtp,hh12])
 have hsz17:w7.heap.size=w17.heap.size:=by rw [hh17,hz16,hh12,hsz7]
 have hw17:w.heap.size<w17.heap.size:=by
  have:=(Array.getElem?_eq_some_iff.1 hloc7).1;omega
 have hc17':=hw12' w17 (by rw [hh17,hs16 _ (by omega)]);obtain⟨a',c',w19,hr19,hu19,hf19,h20⟩:=fe (P:=Tryz.prog) (s:=l) 0 hblk17 (by simp;omega) hrow17 hM.off hM.bp 25 uG Al rfl (by decide) (aH x) rfl (fy _ _) (by omega) (by omega);refine af.mk _ rfl ⟨l.a,l.n,l.c,by rw [aj p _ hblk17];exact hc17,x.1,_,⟨by have:=hc17' 0;rwa [ay]at this,hc17' 1,trivial⟩,?_⟩;rintro w18 rfl;refine⟨⟨by rw [(ag w17 _).cell (by rw [ax];exact(Array.getElem?_eq_some_iff.1 hblk17).1),aj p _ hblk17];exact hc17,trivial⟩,a',l.n+1,c',w19,hr19,af.mk _ rfl ⟨rfl,hu19,hf19,?_⟩⟩;intro w20 hw20;obtain⟨hblk20,hrow20,hoff20,hB20,hkeep20,hsz20⟩:=h20 w20 hw20;refine⟨hB20 w hb17,by rw [hadd],fun _=>⟨⟨a',l.n+1,c'⟩,mi,mt,_,hblk20,⟨by simp [hcs],?_,?_,?_,?_,?_⟩,?_,by simp;omega,hoff20,?_,?_,hM.bp,hM.bi,hM.bt,hM.ne⟩⟩
 ·rw [Array.getElem?_setIfInBounds_self_of_lt (by simp;omega)]
 ·rw [Array.getElem?_setIfInBounds_ne (by omega),Array.getElem?_setIfInBounds_ne (by omega),Array.getElem?_setIfInBounds_ne (by omega)];exact hM.cells.c1
 ·rw [Array.getElem?_setIfInBounds_ne (by omega),Array.getElem?_setIfInBounds_ne (by omega),Array.getElem?_setIfInBounds_ne (by omega)];exact hM.cells.c2
 ·rw [Array.getElem?_setIfInBounds_ne (by omega),Array.getElem?_setIfInBounds_self_of_lt (by simp;omega)]
 ·intro i hi;rw [Array.getElem?_setIfInBounds_ne (by omega),Array.getElem?_setIfInBounds_ne (by omega)];have hf:mS (xs++ [x]) i=(mS xs i||decide (b0.toNat=i)):=by
   simp [mS,hx0,Bool.beq_eq_decide_eq]
  rw [hf];by_cases he:b0.toNat=i
  ·subst he;rw [Array.getElem?_setIfInBounds_self_of_lt (by omega)];simp
  ·rw [Array.getElem?_setIfInBounds_ne (by omega),hM.cells.first i hi,decide_eq_false he,Bool.or_false]
 ·have hflat:(xs++ [x]).flatMap aH=xs.flatMap aH++aH x:=by simp
  rw [hflat];exact hrow20
 ·exact hi17.same (hkeep20 mi hi17.lt hmip (cL hrow17 hi17))
 ·exact ht17.same (hkeep20 mt ht17.lt hmtp (cL hrow17 ht17))
def bQ:List (Int×Bs)→Nat→List (Int×Bs)→Option (Nat×Int)
 |_,_,[]=>none
 |xs,i,x::r=>if cA xs x=0 then bQ (xs++ [x]) (i+1) r else some (i,cA xs x)
def pu (w:World) (xs:List (Int×Bs)) (v:Value) (w':World):Prop:=Below w.heap.size w w'∧match bQ [] 0 xs with
 |some q=>v= .tuple #[.pointer none,.int .i64 q.1,.int .i64 q.2]
 |none=>∃p,v= .tuple #[.pointer (some ⟨p,0,none⟩),.int .i64 xs.length,.int .i64 0]∧pH w' w.heap.size p xs
theorem vd (w:World) (a:Option Addr) (c:Nat) (xs:List (Int×Bs)) (hr:Rw aH 2 w a xs) (hl:xs.length≤1000000000):
  CP 140 #[.slice a xs.length c] w fun e w'=>∃v,e= .returned v∧pu w xs v w':=by
 refine za a xs.length c w (pu w xs) ?_;refine⟨some w.heap.size,_,fo _,some (w.alloc (.map #[] 0)).heap.size,_,fo _,?_⟩;rintro w3 hw3;have hz1:(w.alloc (.map #[] 0)).heap.size=w.heap.size+1:=av _ _;have hz2:((w.alloc (.map #[] 0)).alloc (.map #[] 0)).heap.size=w.heap.size+2:=by rw [av,hz1]
 have hb3:Below w.heap.size w w3:=by
  subst hw3;exact(((Below.refl _ _).alloc (Nat.le_refl _) _).alloc (by omega) _).alloc (by omega) _
 have hT3:pH w3 w.heap.size (w.heap.size+2) (xs.take 0):=by
  subst hw3;refine⟨⟨none,0,0⟩,w.heap.size,w.heap.size+1,List.toArray ([Value.slice none 0 0,Value.map (some w.heap.size),Value.map (some (w.alloc (.map #[] 0)).heap.size)]++List.replicate 256 (Value.bool false)++ [Value.int .i64 0]),?_,⟨?_,rfl,rfl,?_,?_,?_⟩,cP _ _ _ _,rfl,(by intro h;cases h),?_,?_,by omega,by omega,by omega,by omega⟩
  ·have:=ak ((w.alloc (.map #[] 0)).alloc (.map #[] 0)) (.cells (List.toArray ([Value.slice none 0 0,Value.map (some w.heap.size),Value.map (some (w.alloc (.map #[] 0)).heap.size)]++List.replicate 256 (Value.bool false)++ [Value.int .i64 0])) qO);rw [hz2]at this;exact this
  ·simp
  ·rw [←hz1];rfl
  ·rfl
  ·intro i hi;simp only [List.getElem?_toArray,List.append_assoc,List.cons_append,List.nil_append];rw [show 3+i=i+1+1+1 by omega];simp only [List.getElem?_cons_succ];rw [List.getElem?_append_left (by simpa using hi),List.getElem?_replicate];simp [hi,mS]
  ·exact(iK (kv:=ba) w).same (by rw [fc _ _ (by omega),fc _ _ (by omega)])
  ·have h0:=iK (kv:=dj) (w.alloc (.map #[] 0));rw [hz1]at h0;exact h0.same (by rw [fc _ _ (by omega)])
 have hp2:nb ((w.alloc (.map #[] 0)).alloc (.map #[] 0))=⟨w.heap.size+2,0,none⟩:=by rw [nb,hz2]
 rw [hp2];intro I hI;have key:=aX (α:=Int×Int×Option Addr×World) xs.length (fun i x=>pH x.2.2.2 w.heap.size (w.heap.size+2) (xs.take i)∧bQ [] 0 xs=bQ (xs.take i) i (xs.drop i)∧Below w.heap.size w x.2.2.2) (fun i x=>I [.int .i64 (i:Int),.int .i64 x.1,.int .i64 x.2.1,.pointer x.2.2.1] x.2.2.2) (0,0,none,w3) ⟨hT3,by rw [List.drop_zero,List.take_zero],hb3⟩ ?_ ?_
 ·exact key
 ·rintro i hi ih ⟨y4,y3,y2,w4⟩ ⟨hT,heq,hB⟩;change pH w4 _ _ _ at hT;change Below w.heap.size w w4 at hB;obtain⟨q,hq,_,hc⟩:=(hr.on hB) i _ (List.getElem?_eq_getElem hi);have h0:=hc 0 _ rfl;rw [ay]at h0;refine hI _ _ _ _ _ (ac.yes (by simp;omega) (af.mk q hq ⟨by omega,by omega,_,_,⟨h0,hc 1 _ rfl,trivial⟩,?_⟩));intro w5 hw5;refine aT [.int .i64 0,.string ⟨#[]⟩] [.int .i64 xs[i].1,.string (str xs[i].2)] rfl (fy _ _) w5 hw5 ?_;intro w6 h6 hz6 hB6;refine⟨_,_,⟨by have:=aj _ _ h6 0;rw [ay]at this;exact this,aj _ _ h6 1,trivial⟩,?_⟩;refine(uJ w6 w.heap.size (w.heap.size+2) (xs.take i) (hT.on hB6) (by have h1:w.heap.size≤w4.heap.size:=hB.size;have h2:w6.heap.size=w4.heap.size+1:=hz6;omega) xs[i]).mono ?_;rintro e w7 ⟨v,rfl,hB7,rfl,hpost⟩;have hdrop:xs.drop i=xs[i]::xs.drop (i+1):=List.drop_eq_getElem_cons hi;have hB8:Below w.heap.size w w7:=(hB.trans (hB6.mono hB.size)).trans hB7;refine⟨_,rfl,ac.mk (fun h=>?_) fun h=>?_⟩
  ·have h:cA (xs.take i) xs[i]≠0:=by simpa using h
   refine⟨hB8,?_⟩;rw [heq,hdrop,bQ,if_neg h]
  ·have h:cA (xs.take i) xs[i]=0:=by simpa using h
   have htake:xs.take (i+1)=xs.take i++ [xs[i]]:=by rw [List.take_add_one,List.getElem?_eq_getElem hi];rfl
   refine Ar.ok64 (by omega) (by omega) (ih (y4,y3,y2,w7) ⟨?_,?_,hB8⟩)
   ·rw [htake];exact hpost h
   ·rw [heq,hdrop,bQ,if_pos h,htake]
 ·rintro⟨y4,y3,y2,w4⟩ ⟨hT,heq,hB⟩;change pH w4 _ _ _ at hT;refine hI _ _ _ _ _ (ac.no (by simp) ⟨hB,?_⟩);rw [heq,List.drop_length,List.take_length,bQ];rw [List.take_length]at hT;exact⟨_,rfl,hT⟩
end Go.Proofs.YtdlcfegnaphclaaGreat.Eng
