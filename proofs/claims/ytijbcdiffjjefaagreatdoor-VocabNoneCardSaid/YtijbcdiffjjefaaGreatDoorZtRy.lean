/- Sifted out of this repo's own templates by tool/sift.py. -/
import Derived.Test.YtijbcdiffjjefaaGreatDoorZtRx
import Derived.Below
import Derived.Lib.SplitLaws
import Derived.Lib.CountLaws
import Derived.Lib.Split
import Derived.Lib.Join
import Derived.Lib.ItoaNum
import Derived.Lib.AtoiAll
import Derived.Lib.ItoaMem
import Derived.Laws.MakeOwn
import Derived.Lib.AppendIntMem
import Derived.Lib.AtoiErrMem
import Derived.Lib.AppendStr
import Derived.Shelf.Strings.Builder1
import Derived.WideShapes
import Derived.ChangeSame
import Derived.Test.YtijbcdiffjjefaaGreatDoorZtVc
import Derived.MapKept
import Derived.Carry
import Derived.Test.YtijbcdiffjjefaaGreatDoorZtRw
set_option linter.unusedVariables false
set_option linter.unusedSimpArgs false
set_option maxRecDepth 100000
namespace Go.Proofs.YtijbcdiffjjefaaGreatDoor.Eng
open Go Go.RowKit Go.ChangeShapes Go.WideShapes
theorem mP (x y:aI) (a b:aj) (w:World) (hx:bF w x a) (hy:bF w y b) (hf:cH a):
  CP 34 #[x.v,y.v] w fun e w'=>e= .returned (.bool (decide (a=b)))∧Below w.heap.size w w':=by
 obtain⟨f1,f2,f3,f4,f5⟩:=hf;refine az (si x.ranked x.s1.a x.s1.n x.s1.c x.s2.a x.s2.n x.s2.c x.s3.a x.s3.n x.s3.c x.s4.a x.s4.n x.s4.c x.s5.a x.s5.n x.s5.c y.ranked y.s1.a y.s1.n y.s1.c y.s2.a y.s2.n y.s2.c y.s3.a y.s3.n y.s3.c y.s4.a y.s4.n y.s4.c y.s5.a y.s5.n y.s5.c w (fun v w'=>v= .bool (decide (a=b))∧Below w.heap.size w w') ?_) (by rintro v w' ⟨rfl,h⟩;exact⟨rfl,h⟩);intro w1 hw1 w2 hw2;have hb1:Below w.heap.size w w1:=by rw [hw1];exact ak _ _
 have hb2:Below w1.heap.size w1 w2:=by rw [hw2];exact ak _ _
 have hb:=ae hb1 hb2;have cx:∀ {w3:World} (j:Nat),Below w2.heap.size w2 w3→w3.cell? ((nb w).add j)=x.cells[j]? :=by
  intro w3 j h;have h13:=ae hb2 h;rw [hw1]at h13;rw [au,Nat.zero_add,iN h13]
 have cy:∀ {w3:World} (j:Nat),Below w2.heap.size w2 w3→w3.cell? ((nb w1).add j)=y.cells[j]? :=by
  intro w3 j h;rw [hw2]at h;rw [au,Nat.zero_add,iN h]
 have hsx:∀ {w3:World},Below w2.heap.size w2 w3→bF w3 x a:=fun h=>hx.on (ae hb h);have hsy:∀ {w3:World},Below w2.heap.size w2 w3→bF w3 y b:=fun h=>hy.on (ae hb h);have off:∀ {w3:World},Below w2.heap.size w2 w3→a≠b→(Value.bool false= .bool (decide (a=b))∧Below w.heap.size w w3):=fun h e=>⟨by rw [decide_eq_false e],ae hb h⟩;have hB:=Below.refl w2.heap.size w2;refine⟨_,cx 0 hB,_,cy 0 hB,aa.mk (fun hc=>off hB ?_) (fun r0=>?_)⟩
 ·rintro rfl;rw [hx.ranked,hy.ranked]at hc;simp at hc
 refine⟨_,_,_,cx 1 hB,_,_,_,cy 1 hB,aa.mk (fun hc=>off hB ?_) (fun l1=>?_)⟩
 ·rintro rfl;rw [hx.n1,hy.n1]at hc;simp at hc
 refine⟨_,_,_,cx 2 hB,_,_,_,cy 2 hB,?_⟩;have q2:=lF x.s2.a y.s2.a x.s2.c y.s2.c a.tokens b.tokens w2 (hsx hB).r2.str (hsy hB).r2.str f2;rw [←hx.n2, ←hy.n2]at q2;refine q2.mono ?_;rintro e w3 ⟨rfl,hB3⟩;refine⟨_,rfl,aa.mk (fun hc=>off hB3 ?_) (fun ht=>?_)⟩
 ·rintro rfl;simp at hc
 have ht:a.tokens=b.tokens:=by simpa using ht
 refine⟨_,_,_,cx 3 hB3,_,_,_,cy 3 hB3,aa.mk (fun hc=>off hB3 ?_) (fun l3=>?_)⟩
 ·rintro rfl;rw [hx.n3,hy.n3]at hc;simp at hc
 refine⟨_,_,_,cx 4 hB3,_,_,_,cy 4 hB3,aa.mk (fun hc=>off hB3 ?_) (fun l4=>?_)⟩
 ·rintro rfl;rw [hx.n4,hy.n4]at hc;simp at hc
 refine⟨_,_,_,cx 5 hB3,_,_,_,cy 5 hB3,aa.mk (fun hc=>off hB3 ?_) (fun l5=>?_)⟩
 ·rintro rfl;rw [hx.n5,hy.n5]at hc;simp at hc
 have r0:a.ranked=b.ranked:=by rw [hx.ranked,hy.ranked]at r0;simpa using r0
 have l1:a.merges.length=b.merges.length:=by rw [hx.n1,hy.n1]at l1;simp at l1;omega
 have l3:a.specials.length=b.specials.length:=by rw [hx.n3,hy.n3]at l3;simp at l3;omega
 have l4:a.classes.length=b.classes.length:=by rw [hx.n4,hy.n4]at l4;simp at l4;omega
 have l5:a.joins.length=b.joins.length:=by rw [hx.n5,hy.n5]at l5;simp at l5;omega
 intro I1 hI1;refine cz (α:=World) a.merges.length (fun i w'=>(∀j,j<i→∀(hj:j<a.merges.length) (hj':j<b.merges.length),a.merges[j]=b.merges[j])∧Below w2.heap.size w2 w') (fun i w'=>I1 [.int .i64 (i:Int),.bool false] w') w3 ⟨by simp,hB3⟩ ?_ ?_
 ·rintro i hi ih w4 ⟨hok,hB4⟩;refine hI1 _ _ _ ⟨_,_,_,cx 1 hB4,aa.yes (by rw [hx.n1];simp;omega) ?_⟩;rintro w5 rfl;have hB5:=hB4.drew;have hi':i<b.merges.length:=by omega
  obtain⟨p,hpa,_,hc⟩:=(hsx hB5).r1 i _ (List.getElem?_eq_getElem hi);obtain⟨q,hqa,_,hd⟩:=(hsy hB5).r1 i _ (List.getElem?_eq_getElem hi');refine⟨_,_,_,cx 1 hB5,ac.mk p hpa ⟨by omega,by rw [hx.n1];omega,a.merges[i].1,a.merges[i].2,⟨by have:=hc 0 _ rfl;rwa [al]at this,hc 1 _ rfl,trivial⟩,?_⟩⟩;refine⟨_,_,_,cy 1 hB5,ac.mk q hqa ⟨by omega,by rw [hy.n1];omega,b.merges[i].1,b.merges[i].2,⟨by have:=hd 0 _ rfl;rwa [al]at this,hd 1 _ rfl,trivial⟩,?_⟩⟩;refine aa.mk (fun hn=>off hB5 ?_) (fun hn=>Ar.ok64 (by omega) (by omega) (ih _ ⟨gd hok fun hj hj'=>?_,hB5⟩))
  ·rintro rfl;simp at hn
  ·simp at hn;exact Prod.ext hn.1 hn.2
 rintro w4 ⟨hok1,hB41⟩;refine hI1 _ _ _ ⟨_,_,_,cx 1 hB41,aa.no (by rw [hx.n1];simp) ?_⟩;intro I3 hI3;refine cz (α:=World) a.specials.length (fun i w'=>(∀j,j<i→∀(hj:j<a.specials.length) (hj':j<b.specials.length),a.specials[j]=b.specials[j])∧Below w2.heap.size w2 w') (fun i w'=>I3 [.int .i64 (i:Int),.bool false] w') w4 ⟨by simp,hB41⟩ ?_ ?_
 ·rintro i hi ih w4 ⟨hok,hB4⟩;refine hI3 _ _ _ ⟨_,_,_,cx 3 hB4,aa.yes (by rw [hx.n3];simp;omega) ?_⟩;rintro w5 rfl;have hB5:=hB4.drew;have hi':i<b.specials.length:=by omega
  obtain⟨p,hpa,_,hc⟩:=(hsx hB5).r3 i _ (List.getElem?_eq_getElem hi);obtain⟨q,hqa,_,hd⟩:=(hsy hB5).r3 i _ (List.getElem?_eq_getElem hi');refine⟨_,_,_,cx 3 hB5,ac.mk p hpa ⟨by omega,by rw [hx.n3];omega,a.specials[i].1,str a.specials[i].2,⟨by have:=hc 0 _ rfl;rwa [al]at this,hc 1 _ rfl,trivial⟩,?_⟩⟩;refine⟨_,_,_,cy 3 hB5,ac.mk q hqa ⟨by omega,by rw [hy.n3];omega,b.specials[i].1,str b.specials[i].2,⟨by have:=hd 0 _ rfl;rwa [al]at this,hd 1 _ rfl,trivial⟩,?_⟩⟩;rw [bU];refine aa.mk (fun hn=>off hB5 ?_) (fun hn=>Ar.ok64 (by omega) (by omega) (ih _ ⟨gd hok fun hj hj'=>?_,hB5⟩))
  ·rintro rfl;simp at hn
  ·simp at hn;exact Prod.ext hn.1 hn.2
 rintro w4 ⟨hok3,hB43⟩;refine hI3 _ _ _ ⟨_,_,_,cx 3 hB43,aa.no (by rw [hx.n3];simp) ?_⟩;intro I4 hI4;refine cz (α:=World) a.classes.length (fun i w'=>(∀j,j<i→∀(hj:j<a.classes.length) (hj':j<b.classes.length),a.classes[j]=b.classes[j])∧Below w2.heap.size w2 w') (fun i w'=>I4 [.int .i64 (i:Int),.bool false] w') w4 ⟨by simp,hB43⟩ ?_ ?_
 ·rintro i hi ih w4 ⟨hok,hB4⟩;refine hI4 _ _ _ ⟨_,_,_,cx 4 hB4,aa.yes (by rw [hx.n4];simp;omega) ?_⟩;rintro w5 rfl;have hB5:=hB4.drew;have hi':i<b.classes.length:=by omega
  obtain⟨p,hpa,_,hc⟩:=(hsx hB5).r4 i _ (List.getElem?_eq_getElem hi);obtain⟨q,hqa,_,hd⟩:=(hsy hB5).r4 i _ (List.getElem?_eq_getElem hi');refine⟨_,_,_,cx 4 hB5,ac.mk p hpa ⟨by omega,by rw [hx.n4];omega,a.classes[i].1,a.classes[i].2.1,a.classes[i].2.2,⟨by have:=hc 0 _ rfl;rwa [al]at this,hc 1 _ rfl,hc 2 _ rfl,trivial⟩,?_⟩⟩;refine⟨_,_,_,cy 4 hB5,ac.mk q hqa ⟨by omega,by rw [hy.n4];omega,b.classes[i].1,b.classes[i].2.1,b.classes[i].2.2,⟨by have:=hd 0 _ rfl;rwa [al]at this,hd 1 _ rfl,hd 2 _ rfl,trivial⟩,?_⟩⟩;refine aa.mk (fun hn=>off hB5 ?_) (fun hn=>Ar.ok64 (by omega) (by omega) (ih _ ⟨gd hok fun hj hj'=>?_,hB5⟩))
  ·rintro rfl;simp at hn
  ·simp at hn;exact Prod.ext hn.1 (Prod.ext hn.2.1 hn.2.2)
 rintro w4 ⟨hok4,hB44⟩;refine hI4 _ _ _ ⟨_,_,_,cx 4 hB44,aa.no (by rw [hx.n4];simp) ?_⟩;intro I5 hI5;refine cz (α:=World) a.joins.length (fun i w'=>(∀j,j<i→∀(hj:j<a.joins.length) (hj':j<b.joins.length),a.joins[j]=b.joins[j])∧Below w2.heap.size w2 w') (fun i w'=>I5 [.int .i64 (i:Int),.bool false] w') w4 ⟨by simp,hB44⟩ ?_ ?_
 ·rintro i hi ih w4 ⟨hok,hB4⟩;refine hI5 _ _ _ ⟨_,_,_,cx 5 hB4,aa.yes (by rw [hx.n5];simp;omega) ?_⟩;rintro w5 rfl;have hB5:=hB4.drew;have hi':i<b.joins.length:=by omega
  obtain⟨p,hpa,_,hc⟩:=(hsx hB5).r5 i _ (List.getElem?_eq_getElem hi);obtain⟨q,hqa,_,hd⟩:=(hsy hB5).r5 i _ (List.getElem?_eq_getElem hi');refine⟨_,_,_,cx 5 hB5,ac.mk p hpa ⟨by omega,by rw [hx.n5];omega,a.joins[i].1,a.joins[i].2,⟨by have:=hc 0 _ rfl;rwa [al]at this,hc 1 _ rfl,trivial⟩,?_⟩⟩;refine⟨_,_,_,cy 5 hB5,ac.mk q hqa ⟨by omega,by rw [hy.n5];omega,b.joins[i].1,b.joins[i].2,⟨by have:=hd 0 _ rfl;rwa [al]at this,hd 1 _ rfl,trivial⟩,?_⟩⟩;refine aa.mk (fun hn=>off hB5 ?_) (fun hn=>Ar.ok64 (by omega) (by omega) (ih _ ⟨gd hok fun hj hj'=>?_,hB5⟩))
  ·rintro rfl;simp at hn
  ·simp at hn;exact Prod.ext hn.1 hn.2
 rintro w4 ⟨hok5,hB45⟩;refine hI5 _ _ _ ⟨_,_,_,cx 5 hB45,aa.no (by rw [hx.n5];simp) ?_⟩;refine⟨?_,ae hb hB45⟩;rw [decide_eq_true];cases a;cases b;dsimp only at*;rw [r0,eW l1 hok1,ht,eW l3 hok3,eW l4 hok4,eW l5 hok5]
theorem bR {i:Nat} (h:¬i<10):Lib.decDigits i=Lib.decDigits (i/10)++ [UInt8.ofNat (48+i%10)]:=by rw [Lib.decDigits,dif_neg h]
theorem ta:Lib.itoa 97= [57,55]:=by
 unfold Lib.itoa;rw [if_neg (by decide),show(97:Int).toNat=97 from rfl,bR (by decide),Lib.decDigits_one (by decide)];rfl
theorem sW:Lib.itoa 98= [57,56]:=by
 unfold Lib.itoa;rw [if_neg (by decide),show(98:Int).toNat=98 from rfl,bR (by decide),Lib.decDigits_one (by decide)];rfl
structure k_ (w:World):Prop where
 pow:sv w
 errs:ik w
 mx:Mx w
theorem k_.on {w w':World} (h:k_ w) (hb:Below w.heap.size w w'):k_ w':=⟨h.pow.on hb,h.errs.on hb,h.mx.on hb⟩
theorem pH:cH {}:=by simp [cH]
section
variable {H:Type} {enc0:TypeId×Value→H} {w:World} {base:Nat} {spare:Nat→Bool} {held:Bool}
end
set_option linter.unusedSectionVars false
def dr {κ:Type} [DecidableEq κ] (k:κ):List (κ×Value)→Nat→Option (Nat×Value)
 | [],_=>none
 |p::r,i=>if k=p.1 then some (i,p.2)else dr k r (i+1)
def dM {κ:Type} [DecidableEq κ] (k:κ):List (κ×Value)→Option Value
 | []=>none
 |p::r=>if k=p.1 then some p.2 else dM k r
theorem gb {κ:Type} [DecidableEq κ] (k:κ):∀(m:List (κ×Value)) (i:Nat),(dr k m i).map (·.2)=dM k m
 | [],i=>rfl
 |p::r,i=>by
  simp only [dr,dM];split
  ·rfl
  ·exact gb k r (i+1)
structure gF (P:Program) (kt:TypeId) (κ:Type) [DecidableEq κ] (kv:κ→Value):Prop where
 check:∀(e:Bool) (k:κ) (w:World),(Instr.checkKey e 10000 kt (kv k)).run P w= .ok () w
 find:∀(k:κ) (es:List MapEntry) (m:List (κ×Value)) (w:World),es.map (fun x=>(x.key,x.val))=m.map (fun p=>(kv p.1,p.2))→(Instr.findKey kt (kv k) es).run P w= .ok (dr k m 0) w
def aY {κ:Type} (kv:κ→Value) (w:World) (r:Nat) (m:List (κ×Value)):Prop:=∃es clock,w.heap[r]? =some (.map es clock)∧es.toList.map (fun x=>(x.key,x.val))=m.map (fun p=>(kv p.1,p.2))∧∀x∈es.toList,x.born<clock
theorem gl {P:Program} {w:World} {r:Nat} {es:Array MapEntry} {c:Nat} (hb:w.heap[r]? =some (.map es c)):(getObj r).run P w= .ok (.map es c) w:=by simp [getObj,Sem.run,hb]
theorem iV {P:Program} {w:World} {r:Nat} {es:Array MapEntry} {c:Nat} (o:Obj) (hb:w.heap[r]? =some (.map es c)):(setObj r o).run P w= .ok () {w with heap:=w.heap.setIfInBounds r o}:=by simp [setObj,Sem.run,hb]
section
variable {P:Program} {kt et t:TypeId} {κ:Type} [DecidableEq κ] {kv:κ→Value}
theorem aY.lt {w:World} {r:Nat} {m:List (κ×Value)} (h:aY kv w r m):r<w.heap.size:=by
 obtain⟨es,clock,h,_⟩:=h;exact(Array.getElem?_eq_some_iff.1 h).1
theorem aY.same {w w':World} {r:Nat} {m:List (κ×Value)} (h:aY kv w r m) (hs:w'.heap[r]? =w.heap[r]?):aY kv w' r m:=by
 obtain⟨es,clock,h,hm,hs'⟩:=h;exact⟨es,clock,by rw [hs];exact h,hm,hs'⟩
theorem aY.on {w w':World} {r:Nat} {m:List (κ×Value)} (h:aY kv w r m) (hb:Below w.heap.size w w'):aY kv w' r m:=h.same (hb.block r h.lt)
theorem jL (w:World):aY kv (w.alloc (.map #[] 0)) w.heap.size []:=⟨#[],0,aC w _,rfl,by simp⟩
theorem fq (K:gF P kt κ kv) (ht:P.underlying t=some (.map kt et)) {z:Value} (hz:(P.info? et).map (·.zero)=some (some z)) {w:World} {r:Nat} {m:List (κ×Value)} (h:aY kv w r m) (k:κ):
  (Instr.lookup t (.map (some r)) (kv k) true).run P w= .ok (.tuple #[(dM k m).getD z,.bool (dM k m).isSome]) w:=by
 obtain⟨es,clock,hb,hm,_⟩:=h;unfold Instr.lookup;simp only [Sem.run_bind,run_underlying ht,Result.andThen,gl hb,Sem.run_pure,K.check,K.find k es.toList m w hm];have hl:=gb k m 0;cases hx:dr k m 0 with
 |none=>
  rw [hx]at hl;simp only [Option.map_none]at hl;rw [←hl];simp [dT hz,Result.andThen]
 |some q=>
  rw [hx]at hl;simp only [Option.map_some]at hl;rw [←hl];simp
theorem mH {k:κ} {m:List (κ×Value)}:dM k m=none↔∀p∈m,p.1≠k:=by
 induction m with
 |nil=>simp [dM]
 |cons p m ih=>
  simp only [dM];split
  ·rename_i e;simp [e]
  ·rename_i e;rw [ih];constructor
   ·intro h q hq;rcases List.mem_cons.1 hq with rfl |hq
    ·exact fun e'=>e e'.symm
    ·exact h q hq
   ·exact fun h q hq=>h q (by simp [hq])
theorem pp (K:gF P kt κ kv) (ht:P.underlying t=some (.map kt et)) {w:World} {r:Nat} {m:List (κ×Value)} (h:aY kv w r m) (k:κ) (v:Value) (hk:dM k m=none):
  ∃w',(Instr.mapUpdate t (.map (some r)) (kv k) v).run P w= .ok () w'∧aY kv w' r (m++ [(k,v)])∧(∀j,j≠r→w'.heap[j]? =w.heap[j]?)∧w'.heap.size=w.heap.size∧(∀B w0,B≤r→Below B w0 w→Below B w0 w'):=by
 obtain⟨es,clock,hb,hm,hst⟩:=h;have hlt:=(Array.getElem?_eq_some_iff.1 hb).1;have hl:=gb k m 0;rw [hk]at hl;have hx:dr k m 0=none:=by
  cases hx:dr k m 0 with
  |none=>rfl
  |some q=>rw [hx]at hl;cases hl
 refine⟨{w with heap:=w.heap.setIfInBounds r (.map (es.push {key:=kv k,val:=v,born:=clock}) (clock+1))},?_,?_,?_,by simp,?_⟩
 ·unfold Instr.mapUpdate;simp only [Sem.run_bind,run_underlying ht,Result.andThen,gl hb,K.check,K.find k es.toList m w hm,hx];exact iV _ hb
 ·refine⟨es.push {key:=kv k,val:=v,born:=clock},clock+1,by simp [hlt],by simp [hm],fun x hx=>?_⟩;rw [Array.toList_push,List.mem_append,List.mem_singleton]at hx;rcases hx with hx |rfl
  ·have:=hst x hx;omega
  ·exact Nat.lt_succ_self _
 ·intro j hj;simp [Array.getElem?_setIfInBounds_ne (fun e=>hj e.symm)]
 ·intro B w0 hB h0;exact h0.trans ⟨rfl,rfl,rfl,by simp,fun j hj=>by simp [Array.getElem?_setIfInBounds_ne (show r≠j by omega)]⟩
def AG {κ:Type} (kv:κ→Value) (w:World) (r:Nat) (m:List (κ×Value)) (k:κ) (c:Nat):Prop:=∃(es:Array MapEntry) (z:Value),w.heap[r]? =some (.map (es.push {key:=kv k,val:=z,born:=c}) (c+1))∧es.toList.map (fun x=>(x.key,x.val))=m.map (fun p=>(kv p.1,p.2))∧∀x∈es.toList,x.born<c
theorem dx (K:gF P kt κ kv) (ht:P.underlying t=some (.map kt et)) {z:Value} (hz:(P.info? et).map (·.zero)=some (some z)) {w:World} {r:Nat} {m:List (κ×Value)} (h:aY kv w r m) (k:κ) (hk:dM k m=none):
  ∃(c:Nat) (w':World),(Instr.mapEntry t (.map (some r)) (kv k)).run P w= .ok (.tuple #[z,.int .i64 c]) w'∧AG kv w' r m k c∧(∀j,j≠r→w'.heap[j]? =w.heap[j]?)∧w'.heap.size=w.heap.size∧(∀B w0,B≤r→Below B w0 w→Below B w0 w'):=by
 obtain⟨es,clock,hb,hm,hst⟩:=h;have hlt:=(Array.getElem?_eq_some_iff.1 hb).1;have hl:=gb k m 0;rw [hk]at hl;have hx:dr k m 0=none:=by
  cases hx:dr k m 0 with
  |none=>rfl
  |some q=>rw [hx]at hl;cases hl
 refine⟨clock,{w with heap:=w.heap.setIfInBounds r (.map (es.push {key:=kv k,val:=z,born:=clock}) (clock+1))},?_,⟨es,z,by simp [hlt],hm,hst⟩,?_,by simp,?_⟩
 ·unfold Instr.mapEntry;simp only [Sem.run_bind,run_underlying ht,Result.andThen,gl hb,K.check,K.find k es.toList m w hm,hx,dT hz,iV _ hb];rfl
 ·intro j hj;simp [Array.getElem?_setIfInBounds_ne (fun e=>hj e.symm)]
 ·intro B w0 hB h0;exact h0.trans ⟨rfl,rfl,rfl,by simp,fun j hj=>by simp [Array.getElem?_setIfInBounds_ne (show r≠j by omega)]⟩
theorem py (es:Array MapEntry) (x:MapEntry) (v:Value):(es.push x).modify es.size (fun e=>{e with val:=v})=es.push {x with val:=v}:=by
 apply Array.ext
 ·simp
 ·intro i h1 h2;simp only [Array.getElem_modify,Array.getElem_push];simp at h2;by_cases hi:i<es.size
  ·simp [hi,show ¬es.size=i by omega]
  ·simp [show es.size=i by omega]
theorem dA {w:World} {r:Nat} {m:List (κ×Value)} {k:κ} {c:Nat} (t:TypeId) (h:AG kv w r m k c) (v:Value):
  ∃w':World,(Instr.entryStore t (.map (some r)) (.int .i64 c) v).run P w= .ok () w'∧aY kv w' r (m++ [(k,v)])∧(∀j,j≠r→w'.heap[j]? =w.heap[j]?)∧w'.heap.size=w.heap.size∧(∀B w0,B≤r→Below B w0 w→Below B w0 w'):=by
 obtain⟨es,z,hb,hm,hst⟩:=h;have hlt:=(Array.getElem?_eq_some_iff.1 hb).1;have hf:(es.push {key:=kv k,val:=z,born:=c}).findIdx? (fun e=>((e.born:Int)==(c:Int)))=some es.size:=by
  rw [Array.findIdx?_eq_some_iff_getElem];refine⟨by simp,by simp,fun j hj=>?_⟩;have:=hst es[j] (by simp);simp [Array.getElem_push_lt hj];omega
 refine⟨{w with heap:=w.heap.setIfInBounds r (.map (es.push {key:=kv k,val:=v,born:=c}) (c+1))},?_,⟨es.push {key:=kv k,val:=v,born:=c},c+1,by simp [hlt],by simp [hm],?_⟩,?_,by simp,?_⟩
 ·unfold Instr.entryStore;simp only [Sem.run_bind,Result.andThen,gl hb,asInt,asIntOf,Sem.run_map,Sem.run_pure,hf,py];exact iV _ hb
 ·intro x hx;rw [Array.toList_push,List.mem_append,List.mem_singleton]at hx;rcases hx with hx |rfl
  ·have:=hst x hx;omega
  ·exact Nat.lt_succ_self _
 ·intro j hj;simp [Array.getElem?_setIfInBounds_ne (fun e=>hj e.symm)]
 ·intro B w0 hB h0;exact h0.trans ⟨rfl,rfl,rfl,by simp,fun j hj=>by simp [Array.getElem?_setIfInBounds_ne (show r≠j by omega)]⟩
theorem ir {w:World} (t:TypeId):(Instr.makeMap t none).run P w= .ok (.map (some w.heap.size)) (w.alloc (.map #[] 0)):=by
 unfold Instr.makeMap;simp [Sem.run_bind,newObj,Sem.run,Result.andThen]
end
theorem ke {κ:Type} [DecidableEq κ] {kv:κ→Value} {d:TypeDesc} (hs:∀a b,Instr.sameNow d (kv a) (kv b)=some (decide (a=b))) (k:κ):∀(es:List MapEntry) (m:List (κ×Value)) (i:Nat),es.map (fun x=>(x.key,x.val))=m.map (fun p=>(kv p.1,p.2))→Instr.findNow d (kv k) es i=some (dr k m i)
 | [],m,i,h=>by
  have:m= []:=by simpa using h.symm
  subst this;rfl
 |e::es,[],i,h=>by simp at h
 |e::es,p::m,i,h=>by
  simp only [List.map_cons,List.cons.injEq,Prod.mk.injEq]at h;simp only [Instr.findNow,dr];rw [h.1.1,hs];by_cases hk:k=p.1
  ·rw [decide_eq_true hk,if_pos hk,h.1.2]
  ·rw [decide_eq_false hk,if_neg hk];exact ke hs k es m (i+1) h.2
theorem oR {P:Program} {kt:TypeId} {κ:Type} [DecidableEq κ] {kv:κ→Value} {d:TypeDesc} (hd:P.underlying kt=some d) (hs:∀a b,Instr.sameNow d (kv a) (kv b)=some (decide (a=b)))
  (hc:∀(e:Bool) (k:κ) (w:World),(Instr.checkKey e 10000 kt (kv k)).run P w= .ok () w):gF P kt κ kv:=by
 refine⟨hc,fun k es m w h=>?_⟩;unfold Instr.findKey;simp only [Sem.run_bind,run_underlying hd,Result.andThen,ke hs k es m 0 h,Sem.run_pure]
abbrev fG (n:Int):Value:=.int .i64 n
abbrev cG (s:List UInt8):Value:=.string (str s)
abbrev bK (m:Int×Int):Value:=.agg #[.int .i64 m.1,.int .i64 m.2]
theorem uG {P:Program} {kt:TypeId} (hd:P.underlying kt=some (.int .i64)):gF P kt Int fG:=by
 refine oR hd (fun a b=>by simp [Instr.sameNow,fG];exact(Bool.beq_eq_decide_eq a b)) (fun e k w=>?_);unfold Instr.checkKey;simp [run_underlying hd,Result.andThen]
theorem xI {a b:List UInt8} (h:str a=str b):a=b:=by
 have:=congrArg (fun x:ByteArray=>x.data.toList) h;simpa [str]using this
theorem uY {P:Program} {kt:TypeId} (hd:P.underlying kt=some .string):gF P kt (List UInt8) cG:=by
 refine oR hd (fun a b=>?_) (fun e k w=>?_)
 ·simp only [Instr.sameNow,cG];congr 1;rw [Bool.eq_iff_iff,Go.MapKept.bytes_beq,decide_eq_true_eq];exact⟨xI,fun h=>by rw [h]⟩
 ·unfold Instr.checkKey;simp [run_underlying hd,Result.andThen]
theorem jk {P:Program} {kt:TypeId} (hf:kH P kt [.i,.i]=true) (k:Int×Int):∀(es:List MapEntry) (m:List ((Int×Int)×Value)) (i:Nat) (w:World),es.map (fun x=>(x.key,x.val))=m.map (fun p=>(bK p.1,p.2))→(Instr.findAsking kt (bK k) es i).run P w= .ok (dr k m i) w
 | [],m,i,w,h=>by
  have:m= []:=by simpa using h.symm
  subst this;rfl
 |e::es,[],i,w,h=>by simp at h
 |e::es,p::m,i,w,h=>by
  simp only [List.map_cons,List.cons.injEq,Prod.mk.injEq]at h;have hb:xx [.i,.i] (#[Value.int .i64 k.1,Value.int .i64 k.2]:Array Value).toList (#[Value.int .i64 p.1.1,Value.int .i64 p.1.2]:Array Value).toList=some (decide (k=p.1)):=by
   have h1:(k.1==p.1.1&&(k.2==p.1.2&&true))=decide (k=p.1):=by
    rw [Bool.eq_iff_iff];simp [Prod.ext_iff]
   rw [←h1];rfl
  obtain⟨hr,_⟩:=gH (w:=w) hf hb;simp only [Instr.findAsking,Sem.run_bind,dr,h.1.1];unfold Op.equal;rw [show(Op.equalIn Op.maxDepth kt (bK k) (bK p.1)).run P w= .ok (decide (k=p.1)) w from hr];by_cases hk:k=p.1
  ·simp [hk,Result.andThen,h.1.2]
  ·simp only [Result.andThen,decide_eq_false hk,if_neg hk];exact jk hf k es m (i+1) w h.2
theorem tZ {P:Program} {kt:TypeId} {fs:Array Field} (hd:P.underlying kt=some (.struct fs)) (hf:kH P kt [.i,.i]=true) (hc:∀(e:Bool) (k:Int×Int) (w:World),(Instr.checkKey e 10000 kt (bK k)).run P w= .ok () w):gF P kt (Int×Int) bK:=by
 refine⟨hc,fun k es m w h=>?_⟩;unfold Instr.findKey;simp only [Sem.run_bind,run_underlying hd,Result.andThen];cases es with
 |nil=>
  have:m= []:=by simpa using h.symm
  subst this;rfl
 |cons e es=>
  have:Instr.findNow (.struct fs) (bK k) (e::es) 0=none:=by simp [Instr.findNow,Instr.sameNow]
  rw [this];exact jk hf k (e::es) m 0 w h
theorem eU {P:Program} {B b:Nat} {c:Array Value} {T e:TypeId} {w1:World} {sz:Nat} {s:Sl} {xs:List Value} (jj:Nat) (hblk:w1.heap[b]? =some (.cells c T (0,0))) (hjj:jj<c.size) (hown:w1.ownsRow B e sz s.v s.n xs) (hoff:s.v.ownBlock≠some b) (hBb:B≤b)
  (t:TypeId) {z:Value} {bytes:Nat} (ht:P.underlying t=some (.slice e)) (hi:(P.info? e).map (fun i=>(i.zero,i.size,i.bytes))=some (some z,sz,bytes)) (hzs:z.cells.size=sz) (hsz:0<sz)
  (news:List Value) (hl:news.length=sz) (h1:∀u∈news,u.oneCell'=true) (hbytes:(s.n+1)*bytes≤140737488355328) (h63:s.n+1≤140737488355328):
  ∃a' c' w3,(Builtin.append_ #[t,t] t #[s.v,.slice (some (nb w1)) 1 1]).run P (w1.alloc (.cells news.toArray e))= .ok (.slice a' (s.n+1) c') w3∧
   (∃u,w3.cell? ((⟨b,0,none⟩:Addr).add jj)=some u)∧w3.frozen? ((⟨b,0,none⟩:Addr).add jj)=false∧
   ∀w4,w4=w3.setCell ((⟨b,0,none⟩:Addr).add jj) (.slice a' (s.n+1) c')→
    w4.heap[b]? =some (.cells (c.setIfInBounds jj (.slice a' (s.n+1) c')) T (0,0))∧w4.ownsRow B e sz (.slice a' (s.n+1) c') (s.n+1) (xs++news)∧
    (Value.slice a' (s.n+1) c').ownBlock≠some b∧(∀w0,Below B w0 w1→Below B w0 w4)∧(∀k,k<w1.heap.size→k≠b→s.v.ownBlock≠some k→w4.heap[k]? =w1.heap[k]?)∧w1.heap.size<w4.heap.size∧(∀k,(Value.slice a' (s.n+1) c').ownBlock=some k→s.v.ownBlock=some k∨w1.heap.size≤k):=by
 have hlt:b<w1.heap.size:=(Array.getElem?_eq_some_iff.1 hblk).1;obtain⟨a',c',w3,hr,hown',hg,hnb⟩:=eL (P:=P) t e ht hi hzs hsz hown news hl h1 hbytes h63 (by omega);have hkeep:∀k,k<w1.heap.size→s.v.ownBlock≠some k→w3.heap[k]? =w1.heap[k]? :=fun k hk hne=>kg hg hk (fun e=>hne e.symm);have hblk3:w3.heap[b]? =some (.cells c T (0,0)):=by rw [hkeep b hlt hoff];exact hblk
 have hoff':(Value.slice a' (s.n+1) c').ownBlock≠some b:=by
  rcases hnb with h |h
  ·rw [h];exact hoff
  ·rw [h];intro e;cases e;omega
 have hsize:=mj hg;refine⟨a',c',w3,hr,⟨c[jj],?_⟩,aM hblk3,?_⟩
 ·rw [aE hblk3];simp [hjj]
 ·rintro w4 rfl;refine⟨aV hblk3 _,dC hown' _ (by rw [ap];exact hoff'),hoff',fun w0 hb=>aN (dl hb hown hg (by omega)) hBb _,fun k hk hkb hne=>?_,?_⟩
  ·rw [ar (by rw [ap];exact hkb)];exact hkeep k hk hne
  ·rw [bx];exact⟨by omega,fun k hk=>by
    rcases hnb with h |h
    ·rw [h]at hk;exact .inl hk
    ·rw [h]at hk;cases hk;exact .inr (by omega)⟩
theorem cR (a b:Int):∀v∈ [Value.int .i64 a,Value.int .i64 b],v.oneCell'=true:=by
 intro v hv;simp only [List.mem_cons,List.not_mem_nil,or_false]at hv;rcases hv with rfl |rfl<;>rfl
theorem a7 {w:World} {B:Nat} {e:TypeId} {sz n:Nat} {v:Value} {xs:List Value} {r:Nat} {κ:Type} {kv:κ→Value} {m:List (κ×Value)} (h:w.ownsRow B e sz v n xs) (hm:aY kv w r m):v.ownBlock≠some r:=by
 intro hb;obtain⟨es,clock,hm,_⟩:=hm;rcases h.2 with⟨rfl,_⟩ |⟨g,cap,cur,rfl,_,hg,_⟩
 ·cases hb
 ·cases hb;rw [hm]at hg;cases hg
theorem nI {P:Program} {src dst e:TypeId} (hs:P.underlying src=some (.slice e)) (he:P.underlying e=some (.int .u8)) (hd:P.underlying dst=some .string) (w:World) (i:Nat) (hi:i<256):
  (convert src dst (.slice (some (nb w)) 1 1)).run P (w.alloc (.cells #[.int .u8 (i:Int)] e))= .ok (.string (str [UInt8.ofNat i])) (w.alloc (.cells #[.int .u8 (i:Int)] e)):=by
 have hn:(UInt8.ofNat i).toNat=i:=by simp;omega
 refine jp hs he hd (base:=w.heap.size) (l:=[UInt8.ofNat i]) ⟨by simp [Lib.byteCells],.inr ⟨w.heap.size,1,_,rfl,Nat.le_refl _,aC w _,Nat.le_refl _,by decide,by simp,by simp [Lib.byteCells,hn]⟩⟩
abbrev bJ:=Bs×(Int×Int)
def dw (e:bJ):List Value:=[.string (str e.1),.int .i64 e.2.1,.int .i64 e.2.2]
def gr (es:List bJ):List (Bs×Value):=es.zipIdx.map fun x=>(x.1.1,.int .i64 (x.2:Int))
def gZ (es:List bJ):List ((Int×Int)×Value):=((es.drop 256).zipIdx 256).map fun x=>(x.1.2,.int .i64 (x.2:Int))
def bw (i:Nat):bJ:=([UInt8.ofNat i],(-1, -1))
def bk:List bJ:=(List.range 256).map bw
theorem mr (es:List bJ) (e:bJ):gr (es++ [e])=gr es++ [(e.1,.int .i64 (es.length:Int))]:=by simp [gr,List.zipIdx_append]
theorem tP (es:List bJ) (e:bJ) (h:256≤es.length):gZ (es++ [e])=gZ es++ [(e.2,.int .i64 (es.length:Int))]:=by
 have hl:256+(es.length-256)=es.length:=by omega
 simp only [gZ,List.drop_append_of_le_length h,List.zipIdx_append,List.map_append,List.length_drop,hl,List.zipIdx_cons,List.zipIdx_nil,List.map_cons,List.map_nil]
theorem kr (es:List bJ) (h:es.length≤256):gZ es= []:=by simp [gZ,List.drop_eq_nil_of_le h]
theorem iD {s:Bs} {es:List bJ}:dM s (gr es)=none↔∀e∈es,e.1≠s:=by
 rw [mH];constructor
 ·intro h e he;obtain⟨i,hi,rfl⟩:=List.getElem_of_mem he;exact h (es[i].1,.int .i64 (i:Int)) (by
   simp only [gr,List.mem_map];exact⟨(es[i],i),by rw [List.mem_zipIdx_iff_getElem?];simp [hi],rfl⟩)
 ·intro h p hp;simp only [gr,List.mem_map]at hp;obtain⟨⟨e,i⟩,hi,rfl⟩:=hp;rw [List.mem_zipIdx_iff_getElem?]at hi;exact h e (List.mem_of_getElem? hi)
theorem pS {m:Int×Int}:∀(l:List bJ) (k:Nat),dM m ((l.zipIdx k).map fun x=>(x.1.2,Value.int .i64 (x.2:Int)))=((l.map (·.2)).idxOf? m).map fun i=>Value.int .i64 ((k+i:Nat):Int)
 | [],k=>rfl
 |e::l,k=>by
  simp only [List.zipIdx_cons,List.map_cons,dM,List.idxOf?_cons];by_cases h:m=e.2
  ·simp [h]
  ·rw [if_neg h,pS l (k+1)];have:(e.2==m)=false:=by simp;exact fun e'=>h e'.symm
   rw [this];simp only [Bool.false_eq_true,if_false,Option.map_map];congr 1;funext i;simp;omega
def aw (es:List bJ):List (Int×Int):=(es.drop 256).map (·.2)
theorem tM (m:Int×Int) (es:List bJ):dM m (gZ es)=((aw es).idxOf? m).map fun i=>Value.int .i64 ((256+i:Nat):Int):=pS _ 256
abbrev iF:TypeId:=261
abbrev rV:TypeId:=300
abbrev kR:TypeId:=258
abbrev sM:TypeId:=205
abbrev za:TypeId:=259
theorem kj:Tryz.prog.underlying kR=some (.slice rV):=by kernel_rfl
theorem mM:(Tryz.prog.info? rV).map (fun i=>(i.zero,i.size,i.bytes))=some (some (.agg #[.string ⟨#[]⟩,.int .i64 0,.int .i64 0]),3,32):=by kernel_rfl
theorem ii:Tryz.prog.underlying sM=some (.map 9 gQ):=by kernel_rfl
theorem sX:Tryz.prog.underlying za=some (.map sZ gQ):=by kernel_rfl
theorem dQ:(Tryz.prog.info? gQ).map (·.zero)=some (some (.int .i64 0)):=by kernel_rfl
theorem qu:gF Tryz.prog 9 Bs cG:=uY (by kernel_rfl)
theorem we:gF Tryz.prog gQ Int fG:=uG (by kernel_rfl)
theorem zb:gF Tryz.prog sZ (Int×Int) bK:=by
 refine tZ (fs:=aA (Tryz.prog.underlying sZ)) (by kernel_rfl) (by kernel_rfl) (fun e k w=>?_);cases e<;>kernel_rfl
structure AA (w:World) (B p:Nat) (l:Sl) (mb mp:Nat) (most:Int) (es:List bJ):Prop where
 blk:w.heap[p]? =some (.cells #[l.v,.map (some mb),.map (some mp),.int .i64 most] iF (0,0))
 row:w.ownsRow B rV 3 l.v l.n (es.flatMap dw)
 len:l.n=es.length
 off:l.v.ownBlock≠some p
 bytes:aY cG w mb (gr es)
 pairs:aY bK w mp (gZ es)
 bp:B≤p
 bb:B≤mb
 bm:B≤mp
 ne:mb≠mp
def dK (w:World) (B p:Nat) (es:List bJ):Prop:=∃l mb mp most,AA w B p l mb mp most es∧1≤most∧most≤64∧∀e∈es,(e.1.length:Int)≤most
def cX (w:World) (p:Nat) (es:List bJ):Prop:=∃(l:Sl) (mb mp:Nat) (most:Int),w.heap[p]? =some (.cells #[l.v,.map (some mb),.map (some mp),.int .i64 most] iF (0,0))∧l.n=es.length∧Rw dw 3 w l.a es∧aY cG w mb (gr es)∧aY bK w mp (gZ es)∧most≤64∧∀e∈es,(e.1.length:Int)≤most
theorem cX.on {w w':World} {p:Nat} {es:List bJ} (h:cX w p es) (hb:Below w.heap.size w w'):cX w' p es:=by
 obtain⟨l,mb,mp,most,h1,h2,h3,h4,h5,h6⟩:=h;exact⟨l,mb,mp,most,av hb h1,h2,h3.on hb,h4.on hb,h5.on hb,h6⟩
theorem cX.lt {w:World} {p:Nat} {es:List bJ} (h:cX w p es):p<w.heap.size:=by
 obtain⟨l,mb,mp,most,h1,_⟩:=h;exact(Array.getElem?_eq_some_iff.1 h1).1
theorem lu (e:bJ):(dw e).length=3:=rfl
theorem dK.is {w:World} {B p:Nat} {es:List bJ} (h:dK w B p es):cX w p es:=by
 obtain⟨l,mb,mp,most,h,_,hm⟩:=h;exact⟨l,mb,mp,most,h.blk,h.len,(Rw.of_own h.row lu (by decide)).1,h.bytes,h.pairs,hm⟩
theorem dK.on {w w':World} {B p:Nat} {es:List bJ} (h:dK w B p es) (hb:Below w.heap.size w w'):dK w' B p es:=by
 obtain⟨l,mb,mp,most,h,hm⟩:=h;exact⟨l,mb,mp,most,⟨av hb h.blk,bl h.row hb,h.len,h.off,h.bytes.on hb,h.pairs.on hb,h.bp,h.bb,h.bm,h.ne⟩,hm⟩
theorem af (p:Nat) (w:World) {c:Array Value} {e:TypeId} {fz:Nat×Nat} (h:w.heap[p]? =some (.cells c e fz)) (j:Nat):w.cell? ((⟨p,0,none⟩:Addr).add j)=c[j]? :=by rw [au,Nat.zero_add,du h]
theorem ea (w:World) (p:Nat) (es:List bJ) (h:cX w p es):CP 116 #[.pointer (some ⟨p,0,none⟩)] w fun e w'=>e= .returned (.int .i64 es.length)∧w'=w:=by
 obtain⟨l,mb,mp,most,h1,h2,_⟩:=h;refine aK (fM (some ⟨p,0,none⟩) w) ?_;exact aa.no rfl (ac.mk _ rfl ⟨l.a,l.n,l.c,by rw [af p w h1];rfl,by rw [h2],rfl⟩)
def dB (es:List bJ) (id:Int):Prop:=0≤id∧id<es.length
instance (es:List bJ) (id:Int):Decidable (dB es id):=by unfold dB;infer_instance
theorem jq (w:World) (p:Nat) (es:List bJ) (h:cX w p es) (id:Int):CP 210 #[.pointer (some ⟨p,0,none⟩),.int .i64 id] w fun e w'=>e= .returned (.bool (decide (dB es id)))∧w'=w:=by
 refine az (oH (some ⟨p,0,none⟩) id w (fun v w'=>v= .bool (decide (dB es id))∧w'=w) ?_) (by rintro v w' ⟨rfl,h⟩;exact⟨rfl,h⟩);refine aa.mk ?_ ?_
 ·intro h0;have h0:=of_decide_eq_true h0;refine(ea w p es h).mono ?_;rintro e w' ⟨rfl,hw⟩;subst hw;refine⟨_,rfl,?_,rfl⟩;congr 1;exact decide_eq_decide.2 ⟨fun h=>⟨h0,h⟩,fun h=>h.2⟩
 ·intro h0;have h0:=of_decide_eq_false h0;refine⟨?_,rfl⟩;rw [decide_eq_false];exact fun h=>h0 h.1
def db (es:List bJ) (id:Int):Bs:=((es[id.toNat]?).map (·.1)).getD []
theorem ly {es:List bJ} {id:Int} (h:dB es id):∃e,es[id.toNat]? =some e∧db es id=e.1:=by
 have hlt:id.toNat<es.length:=by have:=h.1;have:=h.2;omega
 exact⟨es[id.toNat],List.getElem?_eq_getElem hlt,by simp [db,List.getElem?_eq_getElem hlt]⟩
theorem nE (w:World) (p:Nat) (es:List bJ) (h:cX w p es) (a b:Int):CP 285 #[.pointer (some ⟨p,0,none⟩),.int .i64 a,.int .i64 b] w fun e w'=>e= .returned (.tuple #[.int .i64 ((((aw es).idxOf? (a,b)).map fun i=>((256+i:Nat):Int)).getD 0),.bool ((aw es).idxOf? (a,b)).isSome])∧Below w.heap.size w w':=by
 obtain⟨l,mb,mp,most,h1,h2,h3,h4,h5,_⟩:=h;refine aK (pf (some ⟨p,0,none⟩) a b w) ?_;refine aa.no rfl (ac.mk _ rfl ⟨some mp,by rw [af p w h1];rfl,?_⟩);have hl:=fq zb sX dQ h5 (a,b);rw [tM]at hl;cases hx:(aw es).idxOf? (a,b)with
 |none=>rw [hx]at hl;exact⟨0,false,w,hl,rfl,Below.refl _ _⟩
 |some i=>rw [hx]at hl;exact⟨_,true,w,hl,rfl,Below.refl _ _⟩
structure rd (es:List bJ):Prop where
 low:es.take 256=bk
 len:256≤es.length
 most:es.length≤1000
 step:∀(i:Nat) (e:bJ),es[i]? =some e→256≤i→(0≤e.2.1∧e.2.1<i)∧(0≤e.2.2∧e.2.2<i)∧e.1=db es e.2.1++db es e.2.2
 short:∀e∈es,e.1.length≤64
 nodup:(es.map (·.1)).Nodup
def bq (es:List bJ) (m:Int×Int):Bs:=db es m.1++db es m.2
def bT (es:List bJ) (m:Int×Int):Except Int bJ:=
 if ¬(dB es m.1∧dB es m.2)then .error 4
 else if 64< (bq es m).length then .error 3
 else if 1000≤es.length then .error 5
 else if bq es m∈es.map (·.1)then .error 10
 else .ok (bq es m,m)
theorem dS {es:List bJ} (x:bJ) {id:Int} (h:dB es id):db (es++ [x]) id=db es id:=by
 have:=h.1;have:=h.2;simp only [db];rw [List.getElem?_append_left (by omega)]
theorem mm {es:List bJ} (h:rd es) {m:Int×Int} {x:bJ} (hx:bT es m= .ok x):rd (es++ [x])∧x.2=m∧dB es m.1∧dB es m.2:=by
 unfold bT at hx;split at hx
 ·cases hx
 ·rename_i h1;split at hx
  ·cases hx
  ·rename_i h2;split at hx
   ·cases hx
   ·rename_i h3;split at hx
    ·cases hx
    ·rename_i h4;cases hx;have h1:dB es m.1∧dB es m.2:=Classical.not_not.1 h1;refine⟨⟨by rw [List.take_append_of_le_length h.len];exact h.low,by have:=h.len;simp;omega,by simp;omega,fun i e hi h256=>?_,fun e he=>?_,?_⟩,rfl,h1.1,h1.2⟩
     ·rcases Nat.lt_trichotomy i es.length with hl |hl |hl
      ·rw [List.getElem?_append_left hl]at hi;obtain⟨ha,hb,hc⟩:=h.step i e hi h256;refine⟨ha,hb,?_⟩;rw [dS _ ⟨ha.1,by omega⟩,dS _ ⟨hb.1,by omega⟩];exact hc
      ·subst hl;simp at hi;subst hi;refine⟨h1.1,h1.2,?_⟩;rw [dS _ h1.1,dS _ h1.2];rfl
      ·have:=(List.getElem?_eq_some_iff.1 hi).1;simp at this;omega
     ·rcases List.mem_append.1 he with he |he
      ·exact h.short e he
      ·rw [List.mem_singleton.1 he];exact Nat.le_of_not_lt h2
     ·rw [List.map_append,List.nodup_append];refine⟨h.nodup,by simp,fun a ha b hb=>?_⟩;simp at hb;subst hb;intro e;subst e;exact h4 ha
theorem uX {es:List bJ} (h:rd es) {m:Int×Int} (hm:bq es m∉es.map (·.1)):dM m (gZ es)=none:=by
 rw [mH];intro q hq e;simp only [gZ,List.mem_map]at hq;obtain⟨⟨x,i⟩,hi,rfl⟩:=hq;simp only at e;have hi:=(List.mem_zipIdx_iff_le_and_getElem?_sub.1 hi);simp only [List.getElem?_drop]at hi;have hx:es[i]? =some x:=by
  have:=hi.2;rwa [show 256+(i-256)=i by omega]at this
 obtain⟨_,_,hc⟩:=h.step i x hx hi.1;apply hm;rw [bq, ←e, ←hc];exact List.mem_map.2 ⟨x,List.mem_of_getElem? hx,rfl⟩
theorem lR {s:Bs} {es:List bJ} {v:Value} (h:dM s (gr es)=some v):∃n:Int,v= .int .i64 n:=by
 have:∀(m:List (Bs×Value)),(∀p∈m,∃n:Int,p.2= .int .i64 n)→dM s m=some v→∃n:Int,v= .int .i64 n:=by
  intro m;induction m with
  |nil=>intro _ h;cases h
  |cons p m ih=>
   intro hm h;simp only [dM]at h;split at h
   ·cases h;exact hm p (by simp)
   ·exact ih (fun q hq=>hm q (by simp [hq])) h
 refine this _ (fun p hp=>?_) h;simp only [gr,List.mem_map]at hp;obtain⟨x,_,rfl⟩:=hp;exact⟨_,rfl⟩
theorem bG {w:World} {p r:Nat} {c:Array Value} {T:TypeId} {fz:Nat×Nat} (h:w.heap[p]? =some (.cells c T fz)) {κ:Type} {kv:κ→Value} {m:List (κ×Value)} (hm:aY kv w r m):r≠p:=by
 rintro rfl;obtain⟨es,clock,hm,_⟩:=hm;rw [h]at hm;cases hm
theorem oM {P:Program} (a b:Int) (ts:Array TypeId) (t:TypeId) (w:World):(Builtin.max_ ts t #[.int .i64 a,.int .i64 b]).run P w= .ok (.int .i64 (if b>a then b else a)) w:=by
 simp [Builtin.max_,Builtin.max2]
def nv (w:World) (B p:Nat) (es:List bJ) (m:Int×Int) (v:Value) (w':World):Prop:=Below B w w'∧match bT es m with
 | .error n=>v= .tuple #[.int .i64 0,.int .i64 n]∧dK w' B p es
 | .ok x=>v= .tuple #[.int .i64 es.length,.int .i64 0]∧dK w' B p (es++ [x])
theorem ja (w:World) (B p:Nat) (es:List bJ) (h:dK w B p es) (hok:rd es) (hB:B≤w.heap.size) (m:Int×Int):
  CP 240 #[.pointer (some ⟨p,0,none⟩),.agg #[.int .i64 m.1,.int .i64 m.2]] w fun e w'=>∃v,e= .returned v∧nv w B p es m v w':=by
 refine oq (some ⟨p,0,none⟩) m.1 m.2 w (nv w B p es m) ?_;rintro w1 hw1;have hb1:Below w.heap.size w w1:=by subst hw1;exact ak _ _
 have h1:=h.on hb1;have hcell:∀j,w1.cell? ((nb w).add j)=(#[Value.int .i64 m.1,Value.int .i64 m.2]:Array Value)[j]? :=by
  intro j;subst hw1;rw [au,Nat.zero_add,ay]
 refine aa.no rfl ⟨m.1,hcell 0,?_⟩;refine(jq w1 p es h1.is m.1).mono ?_;rintro e w2 ⟨rfl,hw⟩;subst hw;have fail:∀(n:Int) (w':World),bT es m= .error n→Below w2.heap.size w2 w'→nv w B p es m (.tuple #[.int .i64 0,.int .i64 n]) w':=by
  intro n w' hn hb;refine⟨(ae hb1 hb).mono hB,?_⟩;rw [hn];exact⟨rfl,h1.on hb⟩
 refine⟨_,rfl,aa.mk (fun h0=>?_) fun h0=>⟨m.2,hcell 1,?_⟩⟩
 ·have h0:¬dB es m.1:=by simpa using h0
  exact fail 4 _ (by rw [bT,if_pos fun h=>h0 h.1]) (Below.refl _ _)
 have i1:dB es m.1:=by simpa using h0
 refine(jq w2 p es h1.is m.2).mono ?_;rintro e w3 ⟨rfl,hw⟩;subst hw;refine⟨_,rfl,aa.mk (fun h0=>?_) fun h0=>?_⟩
 ·have h0:¬dB es m.2:=by simpa using h0
  exact fail 4 _ (by rw [bT,if_pos fun h=>h0 h.2]) (Below.refl _ _)
 have i2:dB es m.2:=by simpa using h0
 rintro w4 hw4;have hb4:Below w3.heap.size w3 w4:=by subst hw4;exact(Below.refl _ _).drew
 have hh4:w4.heap=w3.heap:=by subst hw4;rfl
 obtain⟨l,mb,mp,most,hT,hm0,hm1,hm2⟩:=h1.on hb4;have hcell4:∀j,w4.cell? ((nb w).add j)=(#[Value.int .i64 m.1,Value.int .i64 m.2]:Array Value)[j]? :=fun j=>by
  rw [hb4.cell (by rw [ap];subst hw1;rw [ao];exact Nat.lt_succ_self _)];exact hcell j
 have hrow:=(Rw.of_own hT.row lu (by decide)).1;obtain⟨x1,hx1,e1⟩:=ly i1;obtain⟨x2,hx2,e2⟩:=ly i2;obtain⟨a1,ha1,_,hc1⟩:=hrow _ x1 hx1;obtain⟨a2,ha2,_,hc2⟩:=hrow _ x2 hx2;have hlen:=hT.len;have:=i1.1;have:=i1.2;have:=i2.1;have:=i2.2;have s1:=hok.short x1 (List.mem_of_getElem? hx1);have s2:=hok.short x2 (List.mem_of_getElem? hx2);have hlen0:w4.cell? ((⟨p,0,none⟩:Addr).add 0)=some (.slice l.a l.n l.c):=by rw [af p _ hT.blk];rfl
 refine ac.mk _ rfl ⟨l.a,l.n,l.c,hlen0,m.1,hcell4 0,ac.mk a1 ha1 ⟨by omega,by omega,str x1.1,hc1 0 _ rfl,ac.mk _ rfl ⟨l.a,l.n,l.c,hlen0,m.2,hcell4 1,ac.mk a2 ha2 ⟨by omega,by omega,str x2.1,hc2 0 _ rfl,?_⟩⟩⟩⟩;have hj:str x1.1++str x2.1=str (bq es m):=by rw [rB,bq,e1,e2]
 have hjl:(bq es m).length=x1.1.length+x2.1.length:=by rw [bq,e1,e2,List.length_append]
 rw [hj];refine⟨by rw [aR,aR];show _≤(9223372036854775807:Int);omega,aa.mk (fun h0=>?_) fun h0=>?_⟩
 ·have h0:=of_decide_eq_true h0;rw [aR]at h0;exact fail 3 _ (by rw [bT,if_neg (Classical.not_not.2 ⟨i1,i2⟩),if_pos (by omega)]) hb4
 have hs:=of_decide_eq_false h0;rw [aR]at hs;have hs:¬64< (bq es m).length:=by omega
 refine ac.mk _ rfl ⟨l.a,l.n,l.c,hlen0,aa.mk (fun h0=>?_) fun h0=>?_⟩
 ·have h0:=of_decide_eq_true h0;exact fail 5 _ (by rw [bT,if_neg (Classical.not_not.2 ⟨i1,i2⟩),if_neg hs,if_pos (by omega)]) hb4
 have h0:=of_decide_eq_false h0;have hk:¬1000≤es.length:=by omega
 refine ac.mk _ rfl ⟨some mb,by rw [af p _ hT.blk];rfl,?_⟩;have hl:=fq qu ii dQ hT.bytes (bq es m);cases hx:dM (bq es m) (gr es)with
 |some v=>
  obtain⟨n,rfl⟩:=lR hx;rw [hx]at hl;refine⟨n,true,w4,hl,aa.yes rfl ?_⟩;have hmem:bq es m∈es.map (·.1):=by
   rcases Classical.em (bq es m∈es.map (·.1))with h |h
   ·exact h
   ·have:dM (bq es m) (gr es)=none:=iD.2 fun e he he'=>h (List.mem_map.2 ⟨e,he,he'⟩);rw [this]at hx;cases hx
  exact fail 10 _ (by rw [bT,if_neg (Classical.not_not.2 ⟨i1,i2⟩),if_neg hs,if_neg hk,if_pos hmem]) hb4
 |none=>
  rw [hx]at hl;have hnew:bq es m∉es.map (·.1):=fun h=>by
   obtain⟨e,he,he'⟩:=List.mem_map.1 h;exact iD.1 hx e he he'
  have hadd:bT es m= .ok (bq es m,m):=by rw [bT,if_neg (Classical.not_not.2 ⟨i1,i2⟩),if_neg hs,if_neg hk,if_neg hnew]
  refine⟨0,false,w4,hl,aa.no rfl (ac.mk _ rfl ⟨l.a,l.n,l.c,hlen0,?_⟩)⟩;rintro w6 hw6;have hh6:w6.heap=w4.heap:=by subst hw6;rfl
  have hb6:Below w4.heap.size w4 w6:=by subst hw6;exact(Below.refl _ _).drew
  have hcell6:∀j,w6.cell? ((nb w).add j)=(#[Value.int .i64 m.1,Value.int .i64 m.2]:Array Value)[j]? :=fun j=>by
   rw [hb6.cell (by rw [ap,hh4];subst hw1;rw [ao];exact Nat.lt_succ_self _)];exact hcell4 j
  have hblk6:w6.heap[p]? =some (.cells #[l.v,.map (some mb),.map (some mp),.int .i64 most] iF (0,0)):=by rw [hh6];exact hT.blk
  have hsz6:w6.heap.size=w.heap.size+1:=by rw [hh6,hh4];subst hw1;rw [ao]
  have hmbp:mb≠p:=bG hT.blk hT.bytes;have hmpp:mp≠p:=bG hT.blk hT.pairs;have hrow6:=bl hT.row hb6;obtain⟨a',c',w8,hr8,hu8,hf8,h9⟩:=eU (P:=Tryz.prog) (s:=l) 0 hblk6 (show 0<4 by decide) hrow6 hT.off hT.bp kR kj mM rfl (by decide) (dw (bq es m,m)) rfl (by
   intro v hv;simp only [dw,List.mem_cons,List.not_mem_nil,or_false]at hv;rcases hv with rfl |rfl |rfl<;>rfl) (by omega) (by omega)
  refine ac.mk _ rfl ⟨l.a,l.n,l.c,by rw [af p _ hblk6];rfl,m.1,m.2,⟨by have:=hcell6 0;rwa [al]at this,hcell6 1,trivial⟩,?_⟩;rintro w7 rfl;refine⟨⟨by rw [(ak w6 _).cell (by rw [ap];exact(Array.getElem?_eq_some_iff.1 hblk6).1),af p _ hblk6];rfl,trivial⟩,a',l.n+1,c',w8,hr8,ac.mk _ rfl ⟨rfl,hu8,hf8,?_⟩⟩;intro w9 hw9;obtain⟨hblk9,hrow9,hoff9,hB9,hkeep9,hsz9⟩:=h9 w9 hw9;rintro w10 hw10;have hh10:w10.heap=w9.heap:=by subst hw10;rfl
  have hblk10:w10.heap[p]? =some (.cells #[.slice a' (l.n+1) c',.map (some mb),.map (some mp),.int .i64 most] iF (0,0)):=by rw [hh10];exact hblk9
  have hmbl:mb<w6.heap.size:=by rw [hh6];exact hT.bytes.lt
  have hmpl:mp<w6.heap.size:=by rw [hh6];exact hT.pairs.lt
  have hbm6:aY cG w6 mb (gr es):=hT.bytes.same (by rw [hh6]);have hpm6:aY bK w6 mp (gZ es):=hT.pairs.same (by rw [hh6]);have hbm10:aY cG w10 mb (gr es):=hbm6.same (by rw [hh10];exact hkeep9 mb hmbl hmbp (a7 hrow6 hbm6));have hpm10:aY bK w10 mp (gZ es):=hpm6.same (by rw [hh10];exact hkeep9 mp hmpl hmpp (a7 hrow6 hpm6));have hloc:w6.heap[w.heap.size]? =some (.cells #[Value.int .i64 m.1,Value.int .i64 m.2] 85):=by
   rw [hh6,hh4];subst hw1;exact aC _ _
  have hlw:∀k,k<w.heap.size→w6.heap[k]? =w.heap[k]? :=fun k hk=>by rw [hh6,hh4];exact hb1.block k hk
  have hpw:p<w.heap.size:=h.is.lt;have hmbw:mb≠w.heap.size:=by
   rintro e;exact absurd (bG hloc hbm6) (fun h=>h e)
  have hmpw:mp≠w.heap.size:=by
   rintro e;exact absurd (bG hloc hpm6) (fun h=>h e)
  have hrw:l.v.ownBlock≠some w.heap.size:=by
   intro e;obtain⟨l0,_,_,_,hT0,_⟩:=h;have e1:l0=l:=by
    have:=hlw p hpw;rw [hblk6,hT0.blk]at this;have:=Option.some.inj this;simp only [Obj.cells.injEq,Array.mk.injEq,List.cons.injEq,Value.slice.injEq]at this;obtain⟨⟨⟨q1,q2,q3⟩,_⟩,_⟩:=this;cases l0;cases l;simp_all
   subst e1;have:=fT hT0.row _ e;omega
  have hloc9:w9.heap[w.heap.size]? =some (.cells #[Value.int .i64 m.1,Value.int .i64 m.2] 85):=by
   rw [hkeep9 w.heap.size (by omega) (by omega) hrw];exact hloc
  have agg:∀w':World,w'.heap[w.heap.size]? =w9.heap[w.heap.size]? →w'.cell? (nb w)=some (Value.int .i64 m.1)∧w'.cell? ((nb w).add 1)=some (Value.int .i64 m.2)∧True:=by
   intro w' hw';rw [hloc9]at hw';exact⟨by have:=af _ _ hw' 0;rwa [al]at this,af _ _ hw' 1,trivial⟩
  obtain⟨k1,w11,hr11,hp11,hs11,hz11,hB11⟩:=dx qu ii dQ hbm10 (bq es m) hx;obtain⟨w12,hr12,hm12,hs12,hz12,hB12⟩:=dA sM hp11 (.int .i64 (l.n:Int));have hpm12:aY bK w12 mp (gZ es):=hpm10.same (by rw [hs12 mp hT.ne.symm,hs11 mp hT.ne.symm]);obtain⟨k2,w13,hr13,hp13,hs13,hz13,hB13⟩:=dx zb sX dQ hpm12 m (uX hok hnew);obtain⟨w14,hr14,hm14,hs14,hz14,hB14⟩:=dA za hp13 (.int .i64 (l.n:Int));have h10:∀k,k≠mb→k≠mp→w14.heap[k]? =w9.heap[k]? :=fun k h1 h2=>by rw [hs14 k h2,hs13 k h2,hs12 k h1,hs11 k h1,hh10]
  refine ac.mk _ rfl ⟨some mb,by rw [af p _ hblk10];rfl,ac.mk _ rfl ⟨some mp,by rw [af p _ hblk10];rfl,m.1,m.2,agg w10 (by rw [hh10]),0,k1,w11,hr11,agg w11 (by rw [hs11 _ (Ne.symm hmbw),hh10]),w12,hr12,agg w12 (by rw [hs12 _ (Ne.symm hmbw),hs11 _ (Ne.symm hmbw),hh10]),0,k2,w13,hr13,w14,hr14,?_⟩⟩;have hblk14:w14.heap[p]? =some (.cells #[.slice a' (l.n+1) c',.map (some mb),.map (some mp),.int .i64 most] iF (0,0)):=by
   rw [h10 p (Ne.symm hmbp) (Ne.symm hmpp)];exact hblk9
  refine ac.mk _ rfl ⟨most,by rw [af p _ hblk14];rfl,_,w14,oM _ _ _ _ _,ac.mk _ rfl ⟨rfl,⟨_,by rw [af p _ hblk14];rfl⟩,aM hblk14,?_⟩⟩;rintro w16 rfl;refine⟨?_,?_⟩
  ·refine aN (hB14 _ _ hT.bm (hB13 _ _ hT.bm (hB12 _ _ hT.bb (hB11 _ _ hT.bb ?_)))) hT.bp _;have:Below B w w9:=hB9 w (((ae hb1 hb4).trans ((hb6.mono (by rw [hh4];subst hw1;rw [ao];omega)))).mono hB);subst hw10;exact this.drew
  ·rw [hadd];refine⟨by rw [hlen],⟨a',l.n+1,c'⟩,mb,mp,_,⟨aV hblk14 _,?_,by simp;omega,hoff9,?_,?_,hT.bp,hT.bb,hT.bm,hT.ne⟩,?_⟩
   ·have hflat:(es++ [(bq es m,m)]).flatMap dw=es.flatMap dw++dw (bq es m,m):=by simp
    rw [hflat];refine dC (cJ hrow9 fun k hk=>h10 k ?_ ?_) _ (by rw [ap];exact hoff9)
    ·rintro rfl;refine a7 hrow9 (?_:aY cG w9 _ (gr es)) hk;exact hbm10.same (by rw [hh10])
    ·rintro rfl;refine a7 hrow9 (?_:aY bK w9 _ (gZ es)) hk;exact hpm10.same (by rw [hh10])
   ·rw [mr, ←hlen];exact hm12.same (by rw [ar (by rw [ap];exact hmbp),hs14 _ hT.ne,hs13 _ hT.ne])
   ·rw [tP _ _ hok.len, ←hlen];exact hm14.same (by rw [ar (by rw [ap];exact hmpp)])
   ·rw [aR];refine⟨by split<;>omega,by split<;>omega,fun e he=>?_⟩
    rcases List.mem_append.1 he with he |he
    ·have:=hm2 e he;split<;>omega
    ·rw [List.mem_singleton.1 he];show((bq es m).length:Int)≤_;split<;>omega
theorem mK {i j:Nat} (hi:i<256) (hj:j<256) (h:UInt8.ofNat i=UInt8.ofNat j):i=j:=by
 have:=congrArg UInt8.toNat h;simp at this;omega
theorem sD (w:World):CP 241 #[] w fun e w'=>∃p,e= .returned (.pointer (some ⟨p,0,none⟩))∧dK w' w.heap.size p bk∧Below w.heap.size w w':=by
 refine aK (od w) ?_;refine⟨some w.heap.size,_,ir _,some (w.alloc (.map #[] 0)).heap.size,_,ir _,?_⟩;rintro w3 hw3;have hz1:(w.alloc (.map #[] 0)).heap.size=w.heap.size+1:=ao _ _;have hz2:((w.alloc (.map #[] 0)).alloc (.map #[] 0)).heap.size=w.heap.size+2:=by rw [ao,hz1]
 have hb3:Below w.heap.size w w3:=by
  subst hw3;exact(((Below.refl _ _).alloc (Nat.le_refl _) _).alloc (by omega) _).alloc (by omega) _
 have hT3:dK w3 w.heap.size (w.heap.size+2) ((List.range 0).map bw):=by
  subst hw3;refine⟨⟨none,0,0⟩,w.heap.size,w.heap.size+1,1,⟨?_,bL _ _ _ _,rfl,(by intro h;cases h),?_,?_,by omega,by omega,by omega,by omega⟩,by omega,by omega,by simp⟩
  ·have:=aC ((w.alloc (.map #[] 0)).alloc (.map #[] 0)) (.cells #[Value.slice none 0 0,Value.map (some w.heap.size),Value.map (some (w.alloc (.map #[] 0)).heap.size),Value.int .i64 1] iF);rw [hz2]at this;rw [this,hz1]
  ·exact(jL (kv:=cG) w).same (by rw [cT _ _ (by omega),cT _ _ (by omega)])
  ·have h0:=jL (kv:=bK) (w.alloc (.map #[] 0));rw [hz1]at h0;exact h0.same (by rw [cT _ _ (by omega)])
 have hp2:nb ((w.alloc (.map #[] 0)).alloc (.map #[] 0))=⟨w.heap.size+2,0,none⟩:=by rw [nb,hz2]
 rw [hp2];intro I hI;have key:=cz (α:=World) 256 (fun i x=>dK x w.heap.size (w.heap.size+2) ((List.range i).map bw)∧Below w.heap.size w x) (fun i x=>I [.int .i64 (i:Int)] x) w3 ⟨hT3,hb3⟩ ?_ ?_
 ·exact key
 ·rintro i hi ih w4 ⟨⟨l,mb,mp,most,hT,hm⟩,hB⟩;refine hI _ _ (aa.yes (by simp;omega) ?_);have hwr:IntKind.wrap .u8 (i:Int)=(i:Int):=gj (by show(0:Int)≤_;omega) (by show _≤(255:Int);omega);rw [hwr];rintro w5 rfl;have hb5:=ak w4 (.cells #[Value.int .u8 (i:Int)] 5);refine⟨_,_,nI (P:=Tryz.prog) (by kernel_rfl) (by kernel_rfl) (by kernel_rfl) w4 i hi,?_⟩;have hblk:=av hb5 hT.blk;refine⟨l.a,l.n,l.c,by rw [af _ _ hblk];rfl,?_⟩;rintro w7 rfl;have hrow5:=bl hT.row hb5;have hbm5:=hT.bytes.on hb5;have hpm5:=hT.pairs.on hb5;have hlen:l.n=i:=by rw [hT.len];simp
  obtain⟨a',c',w8,hr8,hu8,hf8,h9⟩:=eU (P:=Tryz.prog) (s:=l) 0 hblk (show 0<4 by decide) hrow5 hT.off hT.bp kR kj mM rfl (by decide) (dw (bw i)) rfl (by
   intro v hv;simp only [dw,List.mem_cons,List.not_mem_nil,or_false]at hv;rcases hv with rfl |rfl |rfl<;>rfl) (by omega) (by omega)
  refine⟨a',l.n+1,c',w8,hr8,rfl,hu8,hf8,?_⟩;intro w9 hw9;obtain⟨hblk9,hrow9,hoff9,hB9,hkeep9,hsz9⟩:=h9 w9 hw9;have hmbp:mb≠w.heap.size+2:=bG hblk hbm5;have hmpp:mp≠w.heap.size+2:=bG hblk hpm5;have hbm9:aY cG w9 mb (gr ((List.range i).map bw)):=hbm5.same (hkeep9 mb hbm5.lt hmbp (a7 hrow5 hbm5));have hpm9:aY bK w9 mp (gZ ((List.range i).map bw)):=hpm5.same (hkeep9 mp hpm5.lt hmpp (a7 hrow5 hpm5));refine⟨some mb,by rw [af _ _ hblk9];rfl,?_⟩;obtain⟨w10,hr10,hm10,hs10,hz10,hB10⟩:=pp qu ii hbm9 [UInt8.ofNat i] (.int .i64 (i:Int)) (iD.2 fun e he heq=>by
   obtain⟨j,hj,rfl⟩:=List.mem_map.1 he;have hj:=List.mem_range.1 hj;have:=mK (by omega) hi (List.cons.inj heq).1;omega)
  have hrange:(List.range (i+1)).map bw=(List.range i).map bw++ [bw i]:=by rw [List.range_succ];simp
  refine⟨w10,hr10,Ar.ok64 (by omega) (by omega) (ih w10 ⟨⟨⟨a',l.n+1,c'⟩,mb,mp,most,⟨?_,?_,by simp [hlen],hoff9,?_,?_,hT.bp,hT.bb,hT.bm,hT.ne⟩,hm.1,hm.2.1,?_⟩,?_⟩)⟩
  ·rw [hs10 _ (Ne.symm hmbp)];exact hblk9
  ·rw [hrange];have hflat:((List.range i).map bw++ [bw i]).flatMap dw=((List.range i).map bw).flatMap dw++dw (bw i):=by simp
   rw [hflat];refine cJ hrow9 fun k hk=>hs10 k ?_;rintro rfl;exact a7 hrow9 hbm9 hk
  ·rw [hrange,mr];simpa [bw]using hm10
  ·rw [hrange,kr _ (by simp;omega)];rw [kr _ (by simp;omega)]at hpm9;exact hpm9.same (hs10 _ (Ne.symm hT.ne))
  ·intro e he;rw [hrange]at he;rcases List.mem_append.1 he with he |he
   ·exact hm.2.2 e he
   ·rw [List.mem_singleton.1 he];exact hm.1
  ·exact hB10 _ _ hT.bb (hB9 w (hB.alloc hB.size _))
 ·rintro w4 ⟨hT,hB⟩;exact hI _ _ (aa.no (by simp) ⟨_,rfl,hT,hB⟩)
theorem kK {i:Nat} {e:bJ} (h:bk[i]? =some e):i<256∧e=bw i:=by
 simp only [bk,List.getElem?_map,List.getElem?_range]at h;have hi:i<256:=by
  rcases Nat.lt_or_ge i 256 with h' |h'
  ·exact h'
  ·rw [List.getElem?_eq_none (by simpa using h')]at h;cases h
 rw [List.getElem?_range hi]at h;exact⟨hi,(Option.some.inj h).symm⟩
theorem tm:rd bk:=by
 refine⟨List.take_of_length_le (by simp [bk]),by simp [bk],by simp [bk],fun i e hi h256=>?_,fun e he=>?_,?_⟩
 ·have:=(kK hi).1;omega
 ·obtain⟨i,hi,rfl⟩:=List.getElem_of_mem he;rw [(kK (List.getElem?_eq_getElem hi)).2];simp [bw]
 ·simp only [bk,List.map_map,List.Nodup];rw [List.pairwise_map];refine List.Pairwise.imp_of_mem ?_ (List.nodup_range (n:=256));intro i j hi hj hne h;simp only [Function.comp,bw,List.cons.injEq,and_true]at h;exact hne (mK (List.mem_range.1 hi) (List.mem_range.1 hj) h)
def di:List bJ→Nat→List (Int×Int)→Except (Nat×Int) (List bJ)
 |es,_,[]=>.ok es
 |es,i,m::r=>match bT es m with
  | .error n=>.error (i,n)
  | .ok x=>di (es++ [x]) (i+1) r
def sJ (w:World) (ms:List (Int×Int)) (v:Value) (w':World):Prop:=Below w.heap.size w w'∧match di bk 0 ms with
 | .error q=>v= .tuple #[.pointer none,.int .i64 q.1,.int .i64 q.2]
 | .ok es=>∃p,v= .tuple #[.pointer (some ⟨p,0,none⟩),.int .i64 ms.length,.int .i64 0]∧dK w' w.heap.size p es∧rd es
theorem fi {es:List bJ} {m:Int×Int} {n:Int} (h:bT es m= .error n):n≠0:=by
 unfold bT at h
 repeat' split at h
 all_goals (cases h;try decide)
theorem i6 (w:World) (a:Option Addr) (c:Nat) (ms:List (Int×Int)) (hr:Rw aF 2 w a ms) (hl:ms.length≤1000000000):
  CP 189 #[.slice a ms.length c] w fun e w'=>∃v,e= .returned v∧sJ w ms v w':=by
 refine oI a ms.length c w (sJ w ms) ?_;refine(sD w).mono ?_;rintro e w1 ⟨p,rfl,hT,hB⟩;refine⟨_,rfl,?_⟩;intro I hI;have key:=cz (α:=Int×Int×Option Addr×World) ms.length (fun i x=>∃es,dK x.2.2.2 w.heap.size p es∧rd es∧di bk 0 ms=di es i (ms.drop i)∧Below w.heap.size w x.2.2.2) (fun i x=>I [.int .i64 (i:Int),.int .i64 x.1,.int .i64 x.2.1,.pointer x.2.2.1] x.2.2.2) (0,0,none,w1) ⟨bk,hT,tm,by rw [List.drop_zero],hB⟩ ?_ ?_
 ·exact key
 ·rintro i hi ih ⟨y4,y3,y2,w2⟩ ⟨es,hT,hok,heq,hB⟩;change dK w2 _ _ _ at hT;change Below w.heap.size w w2 at hB;obtain⟨q,hq,_,hc⟩:=(hr.on hB) i _ (List.getElem?_eq_getElem hi);have h0:=hc 0 _ rfl;rw [al]at h0;refine hI _ _ _ _ _ (aa.yes (by simp;omega) (ac.mk q hq ⟨by omega,by omega,_,_,⟨h0,hc 1 _ rfl,trivial⟩,?_⟩));intro w3 hw3;refine bd [.int .i64 0,.int .i64 0] [.int .i64 ms[i].1,.int .i64 ms[i].2] rfl (cR _ _) w3 hw3 ?_;intro w4 h4 hz4 hB4;refine⟨_,_,⟨by have:=af _ _ h4 0;rw [al]at this;exact this,af _ _ h4 1,trivial⟩,?_⟩;refine(ja w4 w.heap.size p es (hT.on hB4) hok (by have h1:w.heap.size≤w2.heap.size:=hB.size;have h2:w4.heap.size=w2.heap.size+1:=hz4;omega) ms[i]).mono ?_;rintro e w5 ⟨v,rfl,hB5,hpost⟩;have hdrop:ms.drop i=ms[i]::ms.drop (i+1):=(List.drop_eq_getElem_cons hi);have hB6:Below w.heap.size w w5:=(hB.trans (hB4.mono hB.size)).trans hB5;cases hx:bT es ms[i]with
  |error n=>
   rw [hx]at hpost;obtain⟨rfl,_⟩:=hpost;refine⟨_,_,rfl,aa.yes (by simpa using fi hx) ⟨hB6,?_⟩⟩;rw [heq,hdrop,di,hx]
  |ok x=>
   rw [hx]at hpost;obtain⟨rfl,hT'⟩:=hpost;refine⟨_,_,rfl,aa.no (by simp) (Ar.ok64 (by omega) (by omega) (ih (y4,y3,y2,w5) ⟨_,hT',(mm hok hx).1,?_,hB6⟩))⟩;rw [heq,hdrop,di,hx]
 ·rintro⟨y4,y3,y2,w2⟩ ⟨es,hT,hok,heq,hB⟩;refine hI _ _ _ _ _ (aa.no (by simp) ⟨hB,?_⟩);rw [heq,List.drop_length,di];exact⟨p,rfl,hT,hok⟩
theorem iY {α κ:Type} [DecidableEq κ] [BEq κ] [LawfulBEq κ] (f:α→κ) (m:κ):∀(l:List α) (k:Nat),dM m ((l.zipIdx k).map fun x=>(f x.1,Value.int .i64 (x.2:Int)))=((l.map f).idxOf? m).map fun i=>Value.int .i64 ((k+i:Nat):Int)
 | [],k=>rfl
 |e::l,k=>by
  simp only [List.zipIdx_cons,List.map_cons,dM,List.idxOf?_cons];by_cases h:m=f e
  ·simp [h]
  ·rw [if_neg h,iY f m l (k+1)];have:(f e==m)=false:=by simp;exact fun e'=>h e'.symm
   rw [this];simp only [Bool.false_eq_true,if_false,Option.map_map];congr 1;funext i;simp;omega
def oY (xs:List (Int×Bs)):List (Int×Value):=xs.zipIdx.map fun x=>(x.1.1,.int .i64 (x.2:Int))
def nA (xs:List (Int×Bs)):List (Bs×Value):=xs.zipIdx.map fun x=>(x.1.2,.int .i64 (x.2:Int))
theorem tl (xs:List (Int×Bs)) (x:Int×Bs):oY (xs++ [x])=oY xs++ [(x.1,.int .i64 (xs.length:Int))]:=by simp [oY,List.zipIdx_append]
theorem tg (xs:List (Int×Bs)) (x:Int×Bs):nA (xs++ [x])=nA xs++ [(x.2,.int .i64 (xs.length:Int))]:=by simp [nA,List.zipIdx_append]
theorem iI (xs:List (Int×Bs)) (k:Int):dM k (oY xs)=((xs.map (·.1)).idxOf? k).map fun i:Nat=>Value.int .i64 (i:Int):=by
 have:=iY (fun x:Int×Bs=>x.1) k xs 0;simpa [oY]using this
theorem my (xs:List (Int×Bs)) (k:Bs):dM k (nA xs)=((xs.map (·.2)).idxOf? k).map fun i:Nat=>Value.int .i64 (i:Int):=by
 have:=iY (fun x:Int×Bs=>x.2) k xs 0;simpa [nA]using this
theorem m8 {κ:Type} [BEq κ] [LawfulBEq κ] {l:List κ} {k:κ}:(l.idxOf? k).isSome=true↔k∈l:=by
 cases h:l.idxOf? k with
 |none=>
  have:=List.idxOf?_eq_none_iff.1 h;simp [this]
 |some i=>
  have:k∈l:=by
   rcases Classical.em (k∈l)with h' |h'
   ·exact h'
   ·rw [List.idxOf?_eq_none_iff.2 h']at h;cases h
  simp [this]
abbrev np:TypeId:=250
abbrev vK:TypeId:=108
theorem m':Tryz.prog.underlying vK=some (.map gQ gQ):=by kernel_rfl
def fg (xs:List (Int×Bs)):Int:=xs.foldl (fun n x=>if(x.2.length:Int)>n then(x.2.length:Int)else n) 0
def hP (xs:List (Int×Bs)) (i:Nat):Bool:=xs.any fun x=>x.2.head?.map (·.toNat)==some i
structure qi (c:Array Value) (l:Sl) (mi mt:Nat) (xs:List (Int×Bs)):Prop where
 size:c.size=260
 c0:c[0]? =some l.v
 c1:c[1]? =some (.map (some mi))
 c2:c[2]? =some (.map (some mt))
 most:c[259]? =some (.int .i64 (fg xs))
 first:∀i,i<256→c[3+i]? =some (.bool (hP xs i))
structure lw (w:World) (B p:Nat) (l:Sl) (mi mt:Nat) (c:Array Value) (xs:List (Int×Bs)):Prop where
 blk:w.heap[p]? =some (.cells c np (0,0))
 cells:qi c l mi mt xs
 row:w.ownsRow B rq 2 l.v l.n (xs.flatMap aD)
 len:l.n=xs.length
 off:l.v.ownBlock≠some p
 ids:aY fG w mi (oY xs)
 texts:aY cG w mt (nA xs)
 bp:B≤p
 bi:B≤mi
 bt:B≤mt
 ne:mi≠mt
theorem lw.on {w w':World} {B p:Nat} {l:Sl} {mi mt:Nat} {c:Array Value} {xs:List (Int×Bs)} (h:lw w B p l mi mt c xs) (hb:Below w.heap.size w w'):lw w' B p l mi mt c xs:=
 ⟨av hb h.blk,h.cells,bl h.row hb,h.len,h.off,h.ids.on hb,h.texts.on hb,h.bp,h.bi,h.bt,h.ne⟩
theorem cK (w:World):Below w.heap.size w w.drew:=(Below.refl _ _).drew
def jv (w:World) (B p:Nat) (xs:List (Int×Bs)):Prop:=∃l mi mt c,lw w B p l mi mt c xs
def pu (w:World) (p:Nat) (xs:List (Int×Bs)):Prop:=∃(l:Sl) (mi mt:Nat) (c:Array Value),w.heap[p]? =some (.cells c np (0,0))∧qi c l mi mt xs∧l.n=xs.length∧Rw aD 2 w l.a xs∧aY fG w mi (oY xs)∧aY cG w mt (nA xs)
theorem pu.on {w w':World} {p:Nat} {xs:List (Int×Bs)} (h:pu w p xs) (hb:Below w.heap.size w w'):pu w' p xs:=by
 obtain⟨l,mi,mt,c,h1,h2,h3,h4,h5,h6⟩:=h;exact⟨l,mi,mt,c,av hb h1,h2,h3,h4.on hb,h5.on hb,h6.on hb⟩
theorem jv.on {w w':World} {B p:Nat} {xs:List (Int×Bs)} (h:jv w B p xs) (hb:Below w.heap.size w w'):jv w' B p xs:=by
 obtain⟨l,mi,mt,c,h⟩:=h;exact⟨l,mi,mt,c,av hb h.blk,h.cells,bl h.row hb,h.len,h.off,h.ids.on hb,h.texts.on hb,h.bp,h.bi,h.bt,h.ne⟩
theorem li (x:Int×Bs):(aD x).length=2:=rfl
theorem jv.is {w:World} {B p:Nat} {xs:List (Int×Bs)} (h:jv w B p xs):pu w p xs:=by
 obtain⟨l,mi,mt,c,h⟩:=h;exact⟨l,mi,mt,c,h.blk,h.cells,h.len,(Rw.of_own h.row li (by decide)).1,h.ids,h.texts⟩
theorem pu.lt {w:World} {p:Nat} {xs:List (Int×Bs)} (h:pu w p xs):p<w.heap.size:=by
 obtain⟨l,mi,mt,c,h1,_⟩:=h;exact(Array.getElem?_eq_some_iff.1 h1).1
theorem lQ (i:Nat) (hi:i≤1000000) (w:World):CP 160 #[.int .i64 (i:Int)] w fun e w'=>e= .returned (.int .i64 (-1- (i:Int)))∧w'=w:=by
 refine aK (qw (i:Int) w) ?_;exact Ar.ok64 (by omega) (by omega) ⟨rfl,rfl⟩
def mR (xs:List (Int×Bs)) (id:Int):Option Nat:=(xs.map (·.1)).idxOf? id
theorem lT (w:World) (p:Nat) (xs:List (Int×Bs)) (h:pu w p xs) (hx:xs.length≤1000000) (id:Int):CP 106 #[.pointer (some ⟨p,0,none⟩),.int .i64 id] w fun e w'=>e= .returned (.tuple #[.int .i64 (((mR xs id).map fun i:Nat=> -1- (i:Int)).getD 0),.bool (mR xs id).isSome])∧w'=w:=by
 obtain⟨l,mi,mt,c,h1,h2,h3,h4,h5,h6⟩:=h;refine aK (jm (some ⟨p,0,none⟩) id w) ?_;refine aa.no rfl (ac.mk _ rfl ⟨some mi,by rw [af p w h1];exact h2.c1,?_⟩);have hl:=fq we m' dQ h5 id;rw [iI]at hl;unfold mR;cases hx':(xs.map (·.1)).idxOf? id with
 |none=>
  rw [hx']at hl;exact⟨0,false,w,hl,aa.yes rfl ⟨rfl,rfl⟩⟩
 |some i=>
  rw [hx']at hl;have hi:i<xs.length:=by
   have:=(List.idxOf?_eq_some_iff.1 hx').1;simpa using this
  refine⟨_,true,w,hl,aa.no rfl ?_⟩;refine(lQ i (by omega) w).mono ?_;rintro e w2 ⟨rfl,hw⟩;subst hw;exact⟨_,rfl,rfl,rfl⟩
theorem nf (w:World) (id:Int):CP 106 #[.pointer none,.int .i64 id] w fun e w'=>e= .returned (.tuple #[.int .i64 0,.bool false])∧w'=w:=by
 refine aK (jm none id w) ?_;exact aa.yes rfl ⟨rfl,rfl⟩
theorem fc (a:Int) (b:ByteArray):∀v∈ [Value.int .i64 a,Value.string b],v.oneCell'=true:=by
 intro v hv;simp only [List.mem_cons,List.not_mem_nil,or_false]at hv;rcases hv with rfl |rfl<;>rfl
theorem gE (w w1:World) (x:Int×Bs) (hw1:w1=w.alloc (.cells #[.int .i64 x.1,.string (str x.2)] rq)) (j:Nat):w1.cell? ((nb w).add j)=(#[Value.int .i64 x.1,Value.string (str x.2)]:Array Value)[j]? :=by
 subst hw1;rw [au,Nat.zero_add,ay]
theorem kV (x:Int×Bs) (w:World):CP 242 #[.agg #[.int .i64 x.1,.string (str x.2)]] w fun e w'=>e= .returned (.bool (aH x))∧Below w.heap.size w w':=by
 refine az (pY x.1 (str x.2) w (fun v w'=>v= .bool (aH x)∧Below w.heap.size w w') ?_) (by rintro v w' ⟨rfl,h⟩;exact⟨rfl,h⟩);intro w1 hw1;have hb:Below w.heap.size w w1:=by subst hw1;exact ak _ _
 have hc:=gE w w1 x hw1;have off:aH x=false→(Value.bool false= .bool (aH x)∧Below w.heap.size w w1):=fun h=>⟨by rw [h],hb⟩;refine⟨x.1,hc 0,aa.mk (fun h1=>?_) fun h1=>off ?_⟩
 ·have h1:=of_decide_eq_true h1;refine⟨x.1,hc 0,aa.mk (fun h2=>?_) fun h2=>off ?_⟩
  ·have h2:=of_decide_eq_true h2;refine⟨_,hc 1,aa.mk (fun h3=>?_) fun h3=>off ?_⟩
   ·refine⟨_,hc 1,?_,hb⟩;congr 1;rw [aR];have:x.2≠ []:=by
     intro e;rw [e]at h3;simp at h3
    have:0<x.2.length:=List.length_pos_iff.2 this;unfold aH;exact decide_eq_decide.2 (by omega)
   ·have:x.2= []:=by
     rw [d9]at h3;simpa using h3
    unfold aH;exact decide_eq_false (by rw [this];simp)
  ·have h2:=of_decide_eq_false h2;unfold aH;exact decide_eq_false (by omega)
 ·have h1:=of_decide_eq_false h1;unfold aH;exact decide_eq_false (by omega)
def cf (xs:List (Int×Bs)) (x:Int×Bs):Int:=if aH x=false then 1 else if 32≤xs.length then 3 else if x.1∈xs.map (·.1)∨x.2∈xs.map (·.2)then 10 else 0
def j_ (w:World) (B p:Nat) (xs:List (Int×Bs)) (x:Int×Bs) (v:Value) (w':World):Prop:=Below B w w'∧v= .int .i64 (cf xs x)∧(cf xs x=0→jv w' B p (xs++ [x]))
theorem pw (xs:List (Int×Bs)) (x:Int×Bs):fg (xs++ [x])=if(x.2.length:Int)>fg xs then(x.2.length:Int)else fg xs:=by simp [fg]
theorem mW (w:World) (B p:Nat) (xs:List (Int×Bs)) (h:jv w B p xs) (hB:B≤w.heap.size) (x:Int×Bs):
  CP 190 #[.pointer (some ⟨p,0,none⟩),.agg #[.int .i64 x.1,.string (str x.2)]] w fun e w'=>∃v,e= .returned v∧j_ w B p xs x v w':=by
 refine pc (some ⟨p,0,none⟩) x.1 (str x.2) w (j_ w B p xs x) ?_;intro w1 hw1;have hb1:Below w.heap.size w w1:=by subst hw1;exact ak _ _
 intro w2 hw2;have hb2:Below w.heap.size w w2:=by subst hw2;exact hb1.drew
 have hh2:w2.heap=w1.heap:=by subst hw2;rfl
 have hsz2:w2.heap.size=w.heap.size+1:=by rw [hh2];subst hw1;rw [ao]
 have hc2:∀j,w2.cell? ((nb w).add j)=(#[Value.int .i64 x.1,Value.string (str x.2)]:Array Value)[j]? :=by
  intro j;rw [←gE w w1 x hw1 j];subst hw2;rfl
 obtain⟨l,mi,mt,c,hM⟩:=h.on hb2;have hcell:∀j,w2.cell? ((⟨p,0,none⟩:Addr).add j)=c[j]? :=fun j=>af p _ hM.blk j;have hL:=fq we m' dQ hM.ids x.1;rw [iI]at hL;obtain⟨r0,r1,hr1,hL⟩:∃(r0:Int) (r1:Bool),(r1=true↔x.1∈xs.map (·.1))∧(Instr.lookup vK (Value.map (some mi)) (fG x.1) true).run Tryz.prog w2= .ok (Value.tuple #[Value.int .i64 r0,Value.bool r1]) w2:=by
  have hm:=m8 (l:=xs.map (·.1)) (k:=x.1);cases hx:(xs.map (·.1)).idxOf? x.1 with
  |none=>rw [hx]at hL hm;exact⟨0,false,hm,hL⟩
  |some i=>rw [hx]at hL hm;exact⟨_,true,hm,hL⟩
 refine ac.mk _ rfl ⟨some mi,by rw [hcell];exact hM.cells.c1,x.1,hc2 0,r0,r1,w2,hL,?_⟩;intro w4 hw4;have hh4:w4.heap=w2.heap:=by subst hw4;rfl
 have hb4:Below w.heap.size w w4:=by subst hw4;exact hb2.drew
 have hcell4:∀j,w4.cell? ((⟨p,0,none⟩:Addr).add j)=c[j]? :=fun j=>by rw [←hcell j];subst hw4;rfl
 have hc4:∀j,w4.cell? ((nb w).add j)=(#[Value.int .i64 x.1,Value.string (str x.2)]:Array Value)[j]? :=fun j=>by rw [←hc2 j];subst hw4;rfl
 have hM4:lw w4 B p l mi mt c xs:=by subst hw4;exact hM.on (cK _)
 have hL:=fq qu ii dQ hM4.texts x.2;rw [my]at hL;obtain⟨r4,r5,hr5,hL⟩:∃(r4:Int) (r5:Bool),(r5=true↔x.2∈xs.map (·.2))∧(Instr.lookup sM (Value.map (some mt)) (cG x.2) true).run Tryz.prog w4= .ok (Value.tuple #[Value.int .i64 r4,Value.bool r5]) w4:=by
  have hm:=m8 (l:=xs.map (·.2)) (k:=x.2);cases hx:(xs.map (·.2)).idxOf? x.2 with
  |none=>rw [hx]at hL hm;exact⟨0,false,hm,hL⟩
  |some i=>rw [hx]at hL hm;exact⟨_,true,hm,hL⟩
 refine ac.mk _ rfl ⟨some mt,by rw [hcell4];exact hM.cells.c2,_,hc4 1,r4,r5,w4,hL,x.1,_,⟨by have:=hc4 0;rwa [al]at this,hc4 1,trivial⟩,?_⟩;refine(kV x w4).mono ?_;rintro e w6 ⟨rfl,hb6'⟩;have hb6:Below w.heap.size w w6:=hb4.trans (hb6'.mono hb4.size);have hM6:lw w6 B p l mi mt c xs:=⟨av hb6' hM4.blk,hM4.cells,bl hM4.row hb6',hM4.len,hM4.off,hM4.ids.on hb6',hM4.texts.on hb6',hM4.bp,hM4.bi,hM4.bt,hM4.ne⟩;have hcell6:∀j,w6.cell? ((⟨p,0,none⟩:Addr).add j)=c[j]? :=fun j=>af p _ hM6.blk j;have fail:∀n:Int,n≠0→cf xs x=n→j_ w B p xs x (.int .i64 n) w6:=fun n h0 hn=>⟨hb6.mono hB,by rw [hn],fun h=>absurd (hn▸h) h0⟩;refine⟨_,rfl,aa.mk (fun h0=>fail 1 (by decide) ?_) fun h0=>?_⟩
 ·rw [cf,if_pos (by simpa using h0)]
 have hok:aH x=true:=by simpa using h0
 refine ac.mk _ rfl ⟨l.a,l.n,l.c,by rw [hcell6];exact hM.cells.c0,aa.mk (fun h1=>fail 3 (by decide) ?_) fun h1=>?_⟩
 ·have h1:=of_decide_eq_true h1;rw [cf,if_neg (by rw [hok];simp),if_pos (by rw [←hM.len];omega)]
 have h1:=of_decide_eq_false h1;have hlen:=hM.len;have hk:¬32≤xs.length:=by rw [←hlen];omega
 refine aa.mk (fun h2=>fail 10 (by decide) ?_) fun h2=>aa.mk (fun h3=>fail 10 (by decide) ?_) fun h3=>?_
 ·rw [cf,if_neg (by rw [hok];simp),if_neg hk,if_pos (.inl (hr1.1 h2))]
 ·rw [cf,if_neg (by rw [hok];simp),if_neg hk,if_pos (.inr (hr5.1 h3))]
 have n1:x.1∉xs.map (·.1):=fun h=>by rw [hr1.2 h]at h2;cases h2
 have n2:x.2∉xs.map (·.2):=fun h=>by rw [hr5.2 h]at h3;cases h3
 have hadd:cf xs x=0:=by rw [cf,if_neg (by rw [hok];simp),if_neg hk,if_neg (fun h=>h.elim n1 n2)]
 have hkl:1≤x.2.length∧x.2.length≤64:=by
  have:=of_decide_eq_true (by simpa [aH]using hok:decide _=true);omega
 intro w7 hw7;have hh7:w7.heap=w6.heap:=by subst hw7;rfl
 have hb7:Below w.heap.size w w7:=by subst hw7;exact hb6.drew
 have hM7:lw w7 B p l mi mt c xs:=by subst hw7;exact hM6.on (cK _)
 have hcell7:∀j,w7.cell? ((⟨p,0,none⟩:Addr).add j)=c[j]? :=fun j=>af p _ hM7.blk j;have hloc4:w4.heap[w.heap.size]? =some (.cells #[Value.int .i64 x.1,Value.string (str x.2)] rq):=by
  rw [hh4,hh2];subst hw1;exact aC _ _
 have hloc7:w7.heap[w.heap.size]? =some (.cells #[Value.int .i64 x.1,Value.string (str x.2)] rq):=by rw [hh7];exact av hb6' hloc4
 have loc:∀w':World,w'.heap[w.heap.size]? =w7.heap[w.heap.size]? →∀j,w'.cell? ((nb w).add j)=(#[Value.int .i64 x.1,Value.string (str x.2)]:Array Value)[j]? :=fun w' hw' j=>by
  rw [hloc7]at hw';exact af _ _ hw' j
 have hpw:p<w.heap.size:=h.is.lt;have hmip:mi≠p:=bG hM7.blk hM7.ids;have hmtp:mt≠p:=bG hM7.blk hM7.texts;have hmiw:mi≠w.heap.size:=bG hloc7 hM7.ids;have hmtw:mt≠w.heap.size:=bG hloc7 hM7.texts;refine ac.mk _ rfl ⟨some mi,by rw [hcell7];exact hM.cells.c1,x.1,loc w7 rfl 0,ac.mk _ rfl ⟨some mt,by rw [hcell7];exact hM.cells.c2,_,loc w7 rfl 1,ac.mk _ rfl ⟨l.a,l.n,l.c,by rw [hcell7];exact hM.cells.c0,ac.mk _ rfl ⟨l.a,l.n,l.c,by rw [hcell7];exact hM.cells.c0,?_⟩⟩⟩⟩;obtain⟨k1,w8,hr8,hp8,hs8,hz8,hB8⟩:=dx we m' dQ hM7.ids x.1 (by rw [iI,List.idxOf?_eq_none_iff.2 n1];rfl);obtain⟨w9,hr9,hm9,hs9,hz9,hB9⟩:=dA vK hp8 (.int .i64 (l.n:Int));have ht9:aY cG w9 mt (nA xs):=hM7.texts.same (by rw [hs9 mt hM.ne.symm,hs8 mt hM.ne.symm]);obtain⟨k2,w10,hr10,hp10,hs10,hz10,hB10⟩:=dx qu ii dQ ht9 x.2 (by rw [my,List.idxOf?_eq_none_iff.2 n2];rfl);obtain⟨w11,hr11,hm11,hs11,hz11,hB11⟩:=dA sM hp10 (.int .i64 (l.n:Int));have hblk8:w8.heap[p]? =some (.cells c np (0,0)):=by rw [hs8 p (Ne.symm hmip)];exact hM7.blk
 refine⟨0,k1,w8,hr8,⟨by rw [af p _ hblk8];exact hM.cells.c0,trivial⟩,⟨loc w8 (hs8 _ (Ne.symm hmiw)) 1,trivial⟩,w9,hr9,⟨loc w9 (by rw [hs9 _ (Ne.symm hmiw),hs8 _ (Ne.symm hmiw)]) 1,trivial⟩,0,k2,w10,hr10,w11,hr11,?_⟩;have h11:∀k,k≠mi→k≠mt→w11.heap[k]? =w7.heap[k]? :=fun k h1 h2=>by rw [hs11 k h2,hs10 k h2,hs9 k h1,hs8 k h1]
 have hsz7:w11.heap.size=w7.heap.size:=by rw [hz11,hz10,hz9,hz8]
 intro w12 hw12;have hh12:w12.heap=w11.heap:=by subst hw12;rfl
 have hblk12:w12.heap[p]? =some (.cells c np (0,0)):=by rw [hh12,h11 p (Ne.symm hmip) (Ne.symm hmtp)];exact hM7.blk
 have hb12:Below B w w12:=by
  have:=hB11 _ _ hM.bt (hB10 _ _ hM.bt (hB9 _ _ hM.bi (hB8 _ _ hM.bi (hb7.mono hB))));subst hw12;exact this.drew
 have hw12':∀w':World,w'.heap[w.heap.size]? =w12.heap[w.heap.size]? →∀j,w'.cell? ((nb w).add j)=(#[Value.int .i64 x.1,Value.string (str x.2)]:Array Value)[j]? :=fun w' hw' j=>loc w' (by rw [hw',hh12,h11 _ (Ne.symm hmiw) (Ne.symm hmtw)]) j;obtain⟨b0,t0,hx0⟩:∃b0 t0,x.2=b0::t0:=by
  cases hx:x.2 with
  |nil=>rw [hx]at hkl;simp at hkl
  |cons a t=>exact⟨a,t,rfl⟩
 have hbt:fI (str x.2) 0=(b0.toNat:Int):=by
  have:=iv x.2 0 (by omega);rw [show((0:Nat):Int)=0 from rfl]at this;rw [this];simp [hx0]
 have hb0:b0.toNat<256:=b0.toNat_lt;have hadr:((⟨p,0,none⟩:Addr).add 3).add ((b0.toNat:Int).toNat*1)=(⟨p,0,none⟩:Addr).add (3+b0.toNat):=by
  rw [au,au,au];simp
 refine⟨_,hw12' w12 rfl 1,Int.le_refl _,by rw [aR];omega,ac.mk _ rfl ?_⟩;rw [hbt,hadr];refine⟨by omega,by omega,rfl,⟨_,by rw [af p _ hblk12];exact hM.cells.first _ hb0⟩,aM hblk12,?_⟩;intro w13 hw13;have hblk13:w13.heap[p]? =some (.cells (c.setIfInBounds (3+b0.toNat) (.bool true)) np (0,0)):=by subst hw13;exact aV hblk12 _
 have hb13:Below B w w13:=by subst hw13;exact aN hb12 hM.bp _
 have hs13:∀k,k≠p→w13.heap[k]? =w12.heap[k]? :=fun k hk=>by subst hw13;exact ar (by rw [ap];exact hk)
 have hz13:w13.heap.size=w12.heap.size:=by subst hw13;exact bx _ _ _
 intro w14 hw14;have hh14:w14.heap=w13.heap:=by subst hw14;rfl
 have hblk14:w14.heap[p]? =some (.cells (c.setIfInBounds (3+b0.toNat) (.bool true)) np (0,0)):=by rw [hh14];exact hblk13
 have hcs:=hM.cells.size;refine ac.mk _ rfl ⟨fg xs,by rw [af p _ hblk14,Array.getElem?_setIfInBounds_ne (by omega)];exact hM.cells.most,_,hw12' w14 (by rw [hh14,hs13 _ (by omega)]) 1,_,w14,oM _ _ _ _ _,ac.mk _ rfl ⟨rfl,⟨_,by rw [af p _ hblk14,Array.getElem?_setIfInBounds_ne (by omega)];exact hM.cells.most⟩,aM hblk14,?_⟩⟩;rw [aR, ←pw];intro w16 hw16;have hblk16:w16.heap[p]? =some (.cells ((c.setIfInBounds (3+b0.toNat) (.bool true)).setIfInBounds 259 (.int .i64 (fg (xs++ [x])))) np (0,0)):=by subst hw16;exact aV hblk14 _
 have hb16:Below B w w16:=by
  subst hw16;refine aN ?_ hM.bp _;subst hw14;exact hb13.drew
 have hs16:∀k,k≠p→w16.heap[k]? =w12.heap[k]? :=fun k hk=>by
  rw [←hs13 k hk, ←hh14];subst hw16;exact ar (by rw [ap];exact hk)
 have hz16:w16.heap.size=w12.heap.size:=by rw [←hz13, ←hh14];subst hw16;exact bx _ _ _
 intro w17 hw17;have hh17:w17.heap=w16.heap:=by subst hw17;rfl
 have hb17:Below B w w17:=by subst hw17;exact hb16.drew
 have hblk17:w17.heap[p]? =some (.cells ((c.setIfInBounds (3+b0.toNat) (.bool true)).setIfInBounds 259 (.int .i64 (fg (xs++ [x])))) np (0,0)):=by rw [hh17];exact hblk16
 have hc17:((c.setIfInBounds (3+b0.toNat) (.bool true)).setIfInBounds 259 (.int .i64 (fg (xs++ [x]))))[0]? =some l.v:=by
  rw [Array.getElem?_setIfInBounds_ne (by omega),Array.getElem?_setIfInBounds_ne (by omega)];exact hM.cells.c0
 have hsame:∀k,k≠p→k≠mi→k≠mt→w17.heap[k]? =w7.heap[k]? :=fun k h1 h2 h3=>by rw [hh17,hs16 k h1,hh12,h11 k h2 h3]
 have hrow17:w17.ownsRow B rq 2 l.v l.n (xs.flatMap aD):=cJ hM7.row fun k hk=>hsame k (fun e=>hM.off (e▸hk)) (fun e=>a7 hM7.row hM7.ids (e▸hk)) (fun e=>a7 hM7.row hM7.texts (e▸hk));have hi17:aY fG w17 mi (oY (xs++ [x])):=by
  rw [tl, ←hlen];exact hm9.same (by rw [hh17,hs16 _ hmip,hh12,hs11 _ hM.ne,hs10 _ hM.ne])
 have ht17:aY cG w17 mt (nA (xs++ [x])):=by
  rw [tg, ←hlen];exact hm11.same (by rw [hh17,hs16 _ hmtp,hh12])
 have hsz17:w7.heap.size=w17.heap.size:=by rw [hh17,hz16,hh12,hsz7]
 have hw17:w.heap.size<w17.heap.size:=by
  have:=(Array.getElem?_eq_some_iff.1 hloc7).1;omega
 have hc17':=hw12' w17 (by rw [hh17,hs16 _ (by omega)]);obtain⟨a',c',w19,hr19,hu19,hf19,h20⟩:=eU (P:=Tryz.prog) (s:=l) 0 hblk17 (by simp;omega) hrow17 hM.off hM.bp 25 rI sw rfl (by decide) (aD x) rfl (fc _ _) (by omega) (by omega);refine ac.mk _ rfl ⟨l.a,l.n,l.c,by rw [af p _ hblk17];exact hc17,x.1,_,⟨by have:=hc17' 0;rwa [al]at this,hc17' 1,trivial⟩,?_⟩;rintro w18 rfl;refine⟨⟨by rw [(ak w17 _).cell (by rw [ap];exact(Array.getElem?_eq_some_iff.1 hblk17).1),af p _ hblk17];exact hc17,trivial⟩,a',l.n+1,c',w19,hr19,ac.mk _ rfl ⟨rfl,hu19,hf19,?_⟩⟩;intro w20 hw20;obtain⟨hblk20,hrow20,hoff20,hB20,hkeep20,hsz20⟩:=h20 w20 hw20;refine⟨hB20 w hb17,by rw [hadd],fun _=>⟨⟨a',l.n+1,c'⟩,mi,mt,_,hblk20,⟨by simp [hcs],?_,?_,?_,?_,?_⟩,?_,by simp;omega,hoff20,?_,?_,hM.bp,hM.bi,hM.bt,hM.ne⟩⟩
 ·rw [Array.getElem?_setIfInBounds_self_of_lt (by simp;omega)]
 ·rw [Array.getElem?_setIfInBounds_ne (by omega),Array.getElem?_setIfInBounds_ne (by omega),Array.getElem?_setIfInBounds_ne (by omega)];exact hM.cells.c1
 ·rw [Array.getElem?_setIfInBounds_ne (by omega),Array.getElem?_setIfInBounds_ne (by omega),Array.getElem?_setIfInBounds_ne (by omega)];exact hM.cells.c2
 ·rw [Array.getElem?_setIfInBounds_ne (by omega),Array.getElem?_setIfInBounds_self_of_lt (by simp;omega)]
 ·intro i hi;rw [Array.getElem?_setIfInBounds_ne (by omega),Array.getElem?_setIfInBounds_ne (by omega)];have hf:hP (xs++ [x]) i=(hP xs i||decide (b0.toNat=i)):=by
   simp [hP,hx0,Bool.beq_eq_decide_eq]
  rw [hf];by_cases he:b0.toNat=i
  ·subst he;rw [Array.getElem?_setIfInBounds_self_of_lt (by omega)];simp
  ·rw [Array.getElem?_setIfInBounds_ne (by omega),hM.cells.first i hi,decide_eq_false he,Bool.or_false]
 ·have hflat:(xs++ [x]).flatMap aD=xs.flatMap aD++aD x:=by simp
  rw [hflat];exact hrow20
 ·exact hi17.same (hkeep20 mi hi17.lt hmip (a7 hrow17 hi17))
 ·exact ht17.same (hkeep20 mt ht17.lt hmtp (a7 hrow17 ht17))
def bD:List (Int×Bs)→Nat→List (Int×Bs)→Option (Nat×Int)
 |_,_,[]=>none
 |xs,i,x::r=>if cf xs x=0 then bD (xs++ [x]) (i+1) r else some (i,cf xs x)
def jo (w:World) (xs:List (Int×Bs)) (v:Value) (w':World):Prop:=Below w.heap.size w w'∧match bD [] 0 xs with
 |some q=>v= .tuple #[.pointer none,.int .i64 q.1,.int .i64 q.2]
 |none=>∃p,v= .tuple #[.pointer (some ⟨p,0,none⟩),.int .i64 xs.length,.int .i64 0]∧jv w' w.heap.size p xs
theorem nl (w:World) (a:Option Addr) (c:Nat) (xs:List (Int×Bs)) (hr:Rw aD 2 w a xs) (hl:xs.length≤1000000000):
  CP 131 #[.slice a xs.length c] w fun e w'=>∃v,e= .returned v∧jo w xs v w':=by
 refine oz a xs.length c w (jo w xs) ?_;refine⟨some w.heap.size,_,ir _,some (w.alloc (.map #[] 0)).heap.size,_,ir _,?_⟩;rintro w3 hw3;have hz1:(w.alloc (.map #[] 0)).heap.size=w.heap.size+1:=ao _ _;have hz2:((w.alloc (.map #[] 0)).alloc (.map #[] 0)).heap.size=w.heap.size+2:=by rw [ao,hz1]
 have hb3:Below w.heap.size w w3:=by
  subst hw3;exact(((Below.refl _ _).alloc (Nat.le_refl _) _).alloc (by omega) _).alloc (by omega) _
 have hT3:jv w3 w.heap.size (w.heap.size+2) (xs.take 0):=by
  subst hw3;refine⟨⟨none,0,0⟩,w.heap.size,w.heap.size+1,List.toArray ([Value.slice none 0 0,Value.map (some w.heap.size),Value.map (some (w.alloc (.map #[] 0)).heap.size)]++List.replicate 256 (Value.bool false)++ [Value.int .i64 0]),?_,⟨?_,rfl,rfl,?_,?_,?_⟩,bL _ _ _ _,rfl,(by intro h;cases h),?_,?_,by omega,by omega,by omega,by omega⟩
  ·have:=aC ((w.alloc (.map #[] 0)).alloc (.map #[] 0)) (.cells (List.toArray ([Value.slice none 0 0,Value.map (some w.heap.size),Value.map (some (w.alloc (.map #[] 0)).heap.size)]++List.replicate 256 (Value.bool false)++ [Value.int .i64 0])) np);rw [hz2]at this;exact this
  ·simp
  ·rw [←hz1];rfl
  ·rfl
  ·intro i hi;simp only [List.getElem?_toArray,List.append_assoc,List.cons_append,List.nil_append];rw [show 3+i=i+1+1+1 by omega];simp only [List.getElem?_cons_succ];rw [List.getElem?_append_left (by simpa using hi),List.getElem?_replicate];simp [hi,hP]
  ·exact(jL (kv:=fG) w).same (by rw [cT _ _ (by omega),cT _ _ (by omega)])
  ·have h0:=jL (kv:=cG) (w.alloc (.map #[] 0));rw [hz1]at h0;exact h0.same (by rw [cT _ _ (by omega)])
 have hp2:nb ((w.alloc (.map #[] 0)).alloc (.map #[] 0))=⟨w.heap.size+2,0,none⟩:=by rw [nb,hz2]
 rw [hp2];intro I hI;have key:=cz (α:=Int×Int×Option Addr×World) xs.length (fun i x=>jv x.2.2.2 w.heap.size (w.heap.size+2) (xs.take i)∧bD [] 0 xs=bD (xs.take i) i (xs.drop i)∧Below w.heap.size w x.2.2.2) (fun i x=>I [.int .i64 (i:Int),.int .i64 x.1,.int .i64 x.2.1,.pointer x.2.2.1] x.2.2.2) (0,0,none,w3) ⟨hT3,by rw [List.drop_zero,List.take_zero],hb3⟩ ?_ ?_
 ·exact key
 ·rintro i hi ih ⟨y4,y3,y2,w4⟩ ⟨hT,heq,hB⟩;change jv w4 _ _ _ at hT;change Below w.heap.size w w4 at hB;obtain⟨q,hq,_,hc⟩:=(hr.on hB) i _ (List.getElem?_eq_getElem hi);have h0:=hc 0 _ rfl;rw [al]at h0;refine hI _ _ _ _ _ (aa.yes (by simp;omega) (ac.mk q hq ⟨by omega,by omega,_,_,⟨h0,hc 1 _ rfl,trivial⟩,?_⟩));intro w5 hw5;refine bd [.int .i64 0,.string ⟨#[]⟩] [.int .i64 xs[i].1,.string (str xs[i].2)] rfl (fc _ _) w5 hw5 ?_;intro w6 h6 hz6 hB6;refine⟨_,_,⟨by have:=af _ _ h6 0;rw [al]at this;exact this,af _ _ h6 1,trivial⟩,?_⟩;refine(mW w6 w.heap.size (w.heap.size+2) (xs.take i) (hT.on hB6) (by have h1:w.heap.size≤w4.heap.size:=hB.size;have h2:w6.heap.size=w4.heap.size+1:=hz6;omega) xs[i]).mono ?_;rintro e w7 ⟨v,rfl,hB7,rfl,hpost⟩;have hdrop:xs.drop i=xs[i]::xs.drop (i+1):=List.drop_eq_getElem_cons hi;have hB8:Below w.heap.size w w7:=(hB.trans (hB6.mono hB.size)).trans hB7;refine⟨_,rfl,aa.mk (fun h=>?_) fun h=>?_⟩
  ·have h:cf (xs.take i) xs[i]≠0:=by simpa using h
   refine⟨hB8,?_⟩;rw [heq,hdrop,bD,if_neg h]
  ·have h:cf (xs.take i) xs[i]=0:=by simpa using h
   have htake:xs.take (i+1)=xs.take i++ [xs[i]]:=by rw [List.take_add_one,List.getElem?_eq_getElem hi];rfl
   refine Ar.ok64 (by omega) (by omega) (ih (y4,y3,y2,w7) ⟨?_,?_,hB8⟩)
   ·rw [htake];exact hpost h
   ·rw [heq,hdrop,bD,if_pos h,htake]
 ·rintro⟨y4,y3,y2,w4⟩ ⟨hT,heq,hB⟩;change jv w4 _ _ _ at hT;refine hI _ _ _ _ _ (aa.no (by simp) ⟨hB,?_⟩);rw [heq,List.drop_length,List.take_length,bD];rw [List.take_length]at hT;exact⟨_,rfl,hT⟩
def fm (cls:List (Int×Int×Int)) (b:Int):Int:=cls.foldl (fun n c=>if c.1≤b∧b≤c.2.1 then c.2.2 else n) 0
theorem rN (cls:List (Int×Int×Int)) (c:Int×Int×Int) (b:Int):fm (cls++ [c]) b=if c.1≤b∧b≤c.2.1 then c.2.2 else fm cls b:=by simp [fm]
def cutB (cls:List (Int×Int×Int)) (js:List (Int×Int)) (a b:Int):Bool:=decide (fm cls a≠fm cls b∧(fm cls a,fm cls b)∉js)
abbrev gR:TypeId:=288
structure sQ (c:Array Value) (f:Nat→Int) (g:Nat→Nat→Bool):Prop where
 size:c.size=512
 cls:∀b,b<256→c[b]? =some (.int .i64 (f b))
 join:∀x y,x<16→y<16→c[256+x*16+y]? =some (.bool (g x y))
def nq (js:List (Int×Int)) (x y:Nat):Bool:=decide (((x:Int),(y:Int))∈js)
def uL (w:World) (p:Nat) (cls:List (Int×Int×Int)) (js:List (Int×Int)):Prop:=∃c,w.heap[p]? =some (.cells c gR (0,0))∧sQ c (fun b=>fm cls b) (nq js)
theorem uL.on {w w':World} {p:Nat} {cls:List (Int×Int×Int)} {js:List (Int×Int)} (h:uL w p cls js) (hb:Below w.heap.size w w'):uL w' p cls js:=by
 obtain⟨c,h1,h2⟩:=h;exact⟨c,av hb h1,h2⟩
theorem dI (n:Int) (w:World):CP 192 #[.int .i64 n] w fun e w'=>e= .returned (.bool (decide (0≤n∧n≤15)))∧w'=w:=by
 refine az (qG n w (fun v w'=>v= .bool (decide (0≤n∧n≤15))∧w'=w) ?_) (by rintro v w' ⟨rfl,h⟩;exact⟨rfl,h⟩);refine aa.mk (fun h=>?_) fun h=>?_
 ·have h:=of_decide_eq_true h;refine⟨?_,rfl⟩;congr 1;exact decide_eq_decide.2 (by omega)
 ·have h:=of_decide_eq_false h;refine⟨?_,rfl⟩;rw [decide_eq_false (by omega)]
theorem jT (c:Int×Int×Int) (w:World):CP 191 #[.agg #[.int .i64 c.1,.int .i64 c.2.1,.int .i64 c.2.2]] w fun e w'=>e= .returned (.bool (aS c))∧Below w.heap.size w w':=by
 refine az (qR c.1 c.2.1 c.2.2 w (fun v w'=>v= .bool (aS c)∧Below w.heap.size w w') ?_) (by rintro v w' ⟨rfl,h⟩;exact⟨rfl,h⟩);intro w1 hw1;have hb:Below w.heap.size w w1:=by subst hw1;exact ak _ _
 have hc:∀j,w1.cell? ((nb w).add j)=(#[Value.int .i64 c.1,Value.int .i64 c.2.1,Value.int .i64 c.2.2]:Array Value)[j]? :=by
  intro j;subst hw1;rw [au,Nat.zero_add,ay]
 have off:aS c=false→(Value.bool false= .bool (aS c)∧Below w.heap.size w w1):=fun h=>⟨by rw [h],hb⟩;refine⟨c.1,hc 0,aa.mk (fun h1=>?_) fun h1=>off ?_⟩
 ·have h1:=of_decide_eq_true h1;refine⟨c.1,hc 0,c.2.1,hc 1,aa.mk (fun h2=>?_) fun h2=>off ?_⟩
  ·have h2:=of_decide_eq_true h2;refine⟨c.2.1,hc 1,aa.mk (fun h3=>?_) fun h3=>off ?_⟩
   ·have h3:=of_decide_eq_true h3;refine⟨c.2.2,hc 2,?_⟩;refine(dI c.2.2 w1).mono ?_;rintro e w2 ⟨rfl,hw⟩;subst hw;refine⟨_,rfl,?_,hb⟩;congr 1;unfold aS;exact decide_eq_decide.2 (by omega)
   ·have h3:=of_decide_eq_false h3;unfold aS;exact decide_eq_false (by omega)
  ·have h2:=of_decide_eq_false h2;unfold aS;exact decide_eq_false (by omega)
 ·have h1:=of_decide_eq_false h1;unfold aS;exact decide_eq_false (by omega)
theorem fa (a b c:Int):∀v∈ [Value.int .i64 a,Value.int .i64 b,Value.int .i64 c],v.oneCell'=true:=by
 intro v hv;simp only [List.mem_cons,List.not_mem_nil,or_false]at hv;rcases hv with rfl |rfl |rfl<;>rfl
theorem sQ.setCls {c:Array Value} {f:Nat→Int} {g:Nat→Nat→Bool} (h:sQ c f g) {b:Nat} (hb:b<256) (n:Int):sQ (c.setIfInBounds b (.int .i64 n)) (fun i=>if i=b then n else f i) g:=by
 refine⟨by simp [h.size],fun i hi=>?_,fun x y hx hy=>?_⟩
 ·by_cases he:i=b
  ·subst he;rw [Array.getElem?_setIfInBounds_self_of_lt (by have:=h.size;omega),if_pos rfl]
  ·rw [Array.getElem?_setIfInBounds_ne (fun e=>he e.symm),if_neg he,h.cls i hi]
 ·rw [Array.getElem?_setIfInBounds_ne (by omega)];exact h.join x y hx hy
theorem sQ.setJoin {c:Array Value} {f:Nat→Int} {g:Nat→Nat→Bool} (h:sQ c f g) {x y:Nat} (hx:x<16) (hy:y<16):sQ (c.setIfInBounds (256+x*16+y) (.bool true)) f (fun a b=>g a b||decide (a=x∧b=y)):=by
 refine⟨by simp [h.size],fun i hi=>?_,fun a b ha hb=>?_⟩
 ·rw [Array.getElem?_setIfInBounds_ne (by omega)];exact h.cls i hi
 ·by_cases he:a=x∧b=y
  ·obtain⟨rfl,rfl⟩:=he;rw [Array.getElem?_setIfInBounds_self_of_lt (by have:=h.size;omega)];simp
  ·rw [Array.getElem?_setIfInBounds_ne (by omega),h.join a b ha hb,decide_eq_false he,Bool.or_false]
theorem sQ.congr {c:Array Value} {f f':Nat→Int} {g g':Nat→Nat→Bool} (h:sQ c f g) (hf:∀b,b<256→f b=f' b) (hg:∀x y,x<16→y<16→g x y=g' x y):sQ c f' g':=
 ⟨h.size,fun b hb=>by rw [h.cls b hb,hf b hb],fun x y hx hy=>by rw [h.join x y hx hy,hg x y hx hy]⟩
theorem lJ (w:World) (a1 a2:Option Addr) (c1 c2:Nat) (cls:List (Int×Int×Int)) (js:List (Int×Int)) (hr1:Rw a_ 3 w a1 cls) (hr2:Rw aF 2 w a2 js) (hl1:cls.length≤1000000) (hl2:js.length≤1000000)
  (ok1:∀c∈cls,aS c=true) (ok2:∀j∈js,cQ j=true):
  CP 134 #[.slice a1 cls.length c1,.slice a2 js.length c2] w fun e w'=>∃p,e= .returned (.tuple #[.pointer (some ⟨p,0,none⟩),.int .i64 0])∧uL w' p cls js∧Below w.heap.size w w'∧w.heap.size≤p:=by
 refine aK (nZ a1 cls.length c1 a2 js.length c2 w) ?_;intro w1 hw1;have hb1:Below w.heap.size w w1:=by subst hw1;exact ak _ _
 have h1:∃c,w1.heap[w.heap.size]? =some (.cells c gR (0,0))∧sQ c (fun b=>fm (cls.take 0) b) (fun _ _=>false):=by
  subst hw1;refine⟨_,aC _ _,by simp,fun b hb=>?_,fun x y hx hy=>?_⟩
  ·rw [List.getElem?_toArray,List.getElem?_append_left (by rw [List.length_replicate];exact hb),List.getElem?_replicate,if_pos hb];rfl
  ·rw [List.getElem?_toArray,List.getElem?_append_right (by simp;omega),List.getElem?_replicate,if_pos (by simp;omega)]
 intro I hI;have key:=cz (α:=Int×Option Addr×World) cls.length (fun i x=>(∃c,x.2.2.heap[w.heap.size]? =some (.cells c gR (0,0))∧sQ c (fun b=>fm (cls.take i) b) (fun _ _=>false))∧Below w.heap.size w x.2.2) (fun i x=>I [.int .i64 (i:Int),.int .i64 x.1,.pointer x.2.1] x.2.2) (0,none,w1) ⟨h1,hb1⟩ ?_ ?_
 ·exact key
 ·rintro i hi ih ⟨y5,y4,w2⟩ ⟨⟨c,hblk,hc⟩,hB⟩;change w2.heap[w.heap.size]? =_ at hblk;change Below w.heap.size w w2 at hB;obtain⟨q,hq,_,hcx⟩:=(hr1.on hB) i _ (List.getElem?_eq_getElem hi);have q0:=hcx 0 _ rfl;rw [al]at q0;refine hI _ _ _ _ (aa.yes (by simp;omega) (ac.mk q hq ⟨by omega,by omega,_,_,_,⟨q0,hcx 1 _ rfl,hcx 2 _ rfl,trivial⟩,?_⟩));intro w3 hw3;refine bd [.int .i64 0,.int .i64 0,.int .i64 0] [.int .i64 cls[i].1,.int .i64 cls[i].2.1,.int .i64 cls[i].2.2] rfl (fa _ _ _) w3 hw3 ?_;intro w4 h4 hz4 hB4;refine⟨_,_,_,⟨by have:=af _ _ h4 0;rw [al]at this;exact this,af _ _ h4 1,af _ _ h4 2,trivial⟩,?_⟩;refine(jT cls[i] w4).mono ?_;rintro e w5 ⟨rfl,hB5⟩;have hok:=ok1 cls[i] (List.getElem_mem hi);have hr:=of_decide_eq_true (by simpa [aS]using hok:decide _=true);have h5:=av hB5 h4;have hB52:Below w2.heap.size w2 w5:=ae hB4 hB5;have hblk5:=av hB52 hblk;have hne:w2.heap.size≠w.heap.size:=by have:=(Array.getElem?_eq_some_iff.1 hblk).1;omega
  refine⟨_,rfl,aa.no (by rw [hok];rfl) ⟨_,af _ _ h5 0,?_⟩⟩;obtain⟨lo,hlo⟩:∃lo:Nat,cls[i].1=(lo:Int):=⟨cls[i].1.toNat,by omega⟩;obtain⟨hi',hhi⟩:∃hi':Nat,cls[i].2.1=(hi':Int):=⟨cls[i].2.1.toNat,by omega⟩;rw [hlo,hhi]at hr;intro I5 hI5;rw [hlo];have key5:=cz (α:=World) (hi'+1-lo) (fun k x=>(∃c,x.heap[w.heap.size]? =some (.cells c gR (0,0))∧sQ c (fun b=>if lo≤b∧b<lo+k then cls[i].2.2 else fm (cls.take i) b) (fun _ _=>false))∧Below w.heap.size w x∧x.heap[w2.heap.size]? =w5.heap[w2.heap.size]?) (fun k x=>I5 [.int .i64 ((lo+k:Nat):Int)] x) w5 ⟨⟨c,hblk5,hc.congr (fun b _=>by rw [if_neg (by omega)]) (fun _ _ _ _=>rfl)⟩,hB.trans (hB52.mono hB.size),rfl⟩ ?_ ?_
  ·exact key5
  ·rintro k hk ih5 w6 ⟨⟨c6,hblk6,hc6⟩,hB6,hs6⟩;have hl6:w6.heap[w2.heap.size]? =some (.cells #[Value.int .i64 cls[i].1,Value.int .i64 cls[i].2.1,Value.int .i64 cls[i].2.2] vT (0,0)):=by rw [hs6];exact h5
   refine hI5 _ _ ⟨_,af _ _ hl6 1,aa.yes (by rw [hhi];simp;omega) ?_⟩;intro w7 hw7;have hblk7:w7.heap[w.heap.size]? =some (.cells c6 gR (0,0)):=by subst hw7;exact hblk6
   have hl7:w7.heap[w2.heap.size]? =some (.cells #[Value.int .i64 cls[i].1,Value.int .i64 cls[i].2.1,Value.int .i64 cls[i].2.2] vT (0,0)):=by subst hw7;exact hl6
   have hB7:Below w.heap.size w w7:=by subst hw7;exact hB6.drew
   have hadr:((nb w).add 0).add (((lo+k:Nat):Int).toNat*1)=(⟨w.heap.size,0,none⟩:Addr).add (lo+k):=by
    rw [au,au,au];simp
   rw [hadr];refine⟨_,af _ _ hl7 2,by omega,by omega,rfl,⟨_,by rw [af _ _ hblk7];exact hc6.cls (lo+k) (by omega)⟩,aM hblk7,?_⟩;intro w8 hw8;refine Ar.ok64 (by omega) (by omega) ?_;rw [show((lo+k:Nat):Int)+1=((lo+(k+1):Nat):Int) by omega];refine ih5 w8 ⟨⟨_,by subst hw8;exact aV hblk7 _,(hc6.setCls (show lo+k<256 by omega) cls[i].2.2).congr (fun b hb=>?_) (fun _ _ _ _=>rfl)⟩,by subst hw8;exact aN hB7 (Nat.le_refl _) _,?_⟩
   ·by_cases he:b=lo+k
    ·subst he;rw [if_pos rfl,if_pos (by omega)]
    ·rw [if_neg he];by_cases h2:lo≤b∧b<lo+k
     ·rw [if_pos h2,if_pos (by omega)]
     ·rw [if_neg h2,if_neg (by omega)]
   ·subst hw8;rw [ar (by rw [ap];exact hne),hl7,h5]
  ·rintro w6 ⟨⟨c6,hblk6,hc6⟩,hB6,hs6⟩;have hl6:w6.heap[w2.heap.size]? =some (.cells #[Value.int .i64 cls[i].1,Value.int .i64 cls[i].2.1,Value.int .i64 cls[i].2.2] vT (0,0)):=by rw [hs6];exact h5
   refine hI5 _ _ ⟨_,af _ _ hl6 1,aa.no (by rw [hhi];simp;omega) ?_⟩;refine Ar.ok64 (by omega) (by omega) (ih (y5,y4,w6) ⟨⟨c6,hblk6,hc6.congr (fun b hb=>?_) (fun _ _ _ _=>rfl)⟩,hB6⟩);have htake:cls.take (i+1)=cls.take i++ [cls[i]]:=by rw [List.take_add_one,List.getElem?_eq_getElem hi];rfl
   rw [htake,rN,hlo,hhi];by_cases h2:lo≤b∧b<lo+(hi'+1-lo)
   ·rw [if_pos h2,if_pos (by omega)]
   ·rw [if_neg h2,if_neg (by omega)]
 ·rintro⟨y5,y4,w2⟩ ⟨⟨c,hblk,hc⟩,hB⟩;change w2.heap[w.heap.size]? =_ at hblk;change Below w.heap.size w w2 at hB;rw [List.take_length]at hc;refine hI _ _ _ _ (aa.no (by simp) ?_);intro I11 hI11;have key:=cz (α:=Int×Option Addr×World) js.length (fun i x=>(∃c,x.2.2.heap[w.heap.size]? =some (.cells c gR (0,0))∧sQ c (fun b=>fm cls b) (nq (js.take i)))∧Below w.heap.size w x.2.2) (fun i x=>I11 [.int .i64 (i:Int),.int .i64 x.1,.pointer x.2.1] x.2.2) (y5,y4,w2) ⟨⟨c,hblk,hc.congr (fun _ _=>rfl) (fun x y _ _=>by simp [nq])⟩,hB⟩ ?_ ?_
  ·exact key
  ·rintro i hi ih ⟨y5,y4,w9⟩ ⟨⟨c,hblk,hc⟩,hB⟩;change w9.heap[w.heap.size]? =_ at hblk;change Below w.heap.size w w9 at hB;obtain⟨q,hq,_,hcx⟩:=(hr2.on hB) i _ (List.getElem?_eq_getElem hi);have q0:=hcx 0 _ rfl;rw [al]at q0;refine hI11 _ _ _ _ (aa.yes (by simp;omega) (ac.mk q hq ⟨by omega,by omega,_,_,⟨q0,hcx 1 _ rfl,trivial⟩,?_⟩));intro w10 hw10;refine bd [.int .i64 0,.int .i64 0] [.int .i64 js[i].1,.int .i64 js[i].2] rfl (cR _ _) w10 hw10 ?_;intro w11 h11 hz11 hB11;have hok:=ok2 js[i] (List.getElem_mem hi);have hr:=of_decide_eq_true (by simpa [cQ]using hok:decide _=true);refine⟨_,af _ _ h11 0,(dI _ w11).mono ?_⟩;rintro e w12 ⟨rfl,hw⟩;subst hw;refine⟨_,rfl,aa.no (by rw [decide_eq_true (by omega)];rfl) ⟨_,af _ _ h11 1,(dI _ w12).mono ?_⟩⟩;rintro e w13 ⟨rfl,hw⟩;subst hw;refine⟨_,rfl,aa.no (by rw [decide_eq_true (by omega)];rfl) ?_⟩;intro w14 hw14;have hh14:w14.heap=w13.heap:=by subst hw14;rfl
   have hl14:w14.heap[w9.heap.size]? =some (.cells #[Value.int .i64 js[i].1,Value.int .i64 js[i].2] xR (0,0)):=by rw [hh14];exact h11
   have hblk14:w14.heap[w.heap.size]? =some (.cells c gR (0,0)):=by rw [hh14];exact av hB11 hblk
   have hB14:Below w.heap.size w w14:=by subst hw14;exact(hB.trans (hB11.mono hB.size)).drew
   obtain⟨x,hx⟩:∃x:Nat,js[i].1=(x:Int):=⟨js[i].1.toNat,by omega⟩;obtain⟨y,hy⟩:∃y:Nat,js[i].2=(y:Int):=⟨js[i].2.toNat,by omega⟩;have hadr:(((nb w).add 256).add ((js[i].1).toNat*16)).add ((js[i].2).toNat*1)=(⟨w.heap.size,0,none⟩:Addr).add (256+x*16+y):=by
    rw [au,au,au,au,hx,hy];simp
   refine⟨_,af _ _ hl14 0,_,af _ _ hl14 1,by omega,by omega,by omega,by omega,?_⟩;rw [hadr];refine⟨rfl,⟨_,by rw [af _ _ hblk14];exact hc.join x y (by omega) (by omega)⟩,aM hblk14,?_⟩;intro w15 hw15;refine Ar.ok64 (by omega) (by omega) (ih (y5,y4,w15) ⟨⟨_,by subst hw15;exact aV hblk14 _,(hc.setJoin (show x<16 by omega) (show y<16 by omega)).congr (fun _ _=>rfl) (fun a b ha hb=>?_)⟩,by subst hw15;exact aN hB14 (Nat.le_refl _) _⟩);have htake:js.take (i+1)=js.take i++ [js[i]]:=by rw [List.take_add_one,List.getElem?_eq_getElem hi];rfl
   rw [htake];have:js[i]=((x:Int),(y:Int)):=Prod.ext hx hy;rw [this];unfold nq;rw [Bool.eq_iff_iff];simp only [Bool.or_eq_true,decide_eq_true_eq,List.mem_append,List.mem_singleton,Prod.mk.injEq];have:((a:Int)=x∧(b:Int)=y)↔(a=x∧b=y):=by omega
   rw [this]
  ·rintro⟨y5,y4,w9⟩ ⟨⟨c,hblk,hc⟩,hB⟩;rw [List.take_length]at hc;exact hI11 _ _ _ _ (aa.no (by simp) ⟨w.heap.size,rfl,⟨c,hblk,hc⟩,hB,Nat.le_refl _⟩)
def Ai (cut:Int→Int→Bool) (s:Bs) (j:Nat):Bool:=if j=s.length then true else match s[j-1]?,s[j]? with
 |some x,some y=>decide (1≤j)&&cut x.toNat y.toNat
 |_,_=>false
def Aw (cut:Int→Int→Bool) (s:Bs):Bool:=decide (∀j,j<s.length→Ai cut s j=false)
def gu (a b c:Int):List Int→List Int
 | []=>[]
 | [x]=>[x]
 |x::y::r=>if x=a∧y=b then c::gu a b c r else x::gu a b c (y::r)
theorem qW (a b c:Int) (r:List Int):gu a b c (a::b::r)=c::gu a b c r:=by simp [gu]
theorem f_ {a b c x y:Int} (r:List Int) (h:¬(x=a∧y=b)):gu a b c (x::y::r)=x::gu a b c (y::r):=by simp [gu,h]
theorem mn {a b c x:Int} (l:List Int) (h:x≠a):gu a b c (x::l)=x::gu a b c l:=by
 cases l with
 |nil=>rfl
 |cons y r=>exact f_ r fun e=>h e.1
def cO (a b:Int) (l:List Int):Prop:=∃u v,l=u++a::b::v
theorem fE {a b x:Int} {l:List Int} (h:cO a b l):cO a b (x::l):=by
 obtain⟨u,v,rfl⟩:=h;exact⟨x::u,v,rfl⟩
theorem l8 {a b c:Int}:∀l:List Int,¬cO a b l→gu a b c l=l
 | [],_=>rfl
 | [x],_=>rfl
 |x::y::r,h=>by
  have h1:¬(x=a∧y=b):=by
   rintro⟨rfl,rfl⟩;exact h ⟨[],r,rfl⟩
  rw [f_ r h1,l8 (y::r) fun e=>h (fE e)]
theorem kq {a b c:Int}:∀(u v:List Int),¬cO a b (u++ [a])→gu a b c (u++a::b::v)=u++c::gu a b c v
 | [],v,_=>qW a b c v
 | [x],v,h=>by
  have hx:¬(x=a∧a=b):=by
   rintro⟨rfl,rfl⟩;exact h ⟨[],[],rfl⟩
  rw [List.cons_append,List.nil_append,f_ (b::v) hx,qW];rfl
 |x::y::u,v,h=>by
  have hx:¬(x=a∧y=b):=by
   rintro⟨rfl,rfl⟩;exact h ⟨[],u++ [x],rfl⟩
  have:=kq (c:=c) (y::u) v fun e=>h (by rw [List.cons_append];exact fE e);rw [List.cons_append,List.cons_append,f_ _ hx];rw [List.cons_append]at this;rw [this];rfl
theorem kO {a b c:Int} (hca:c≠a) (hcb:c≠b):∀(u v:List Int),¬cO a b u→gu a b c (u++c::v)=u++c::gu a b c v
 | [],v,_=>mn v hca
 | [x],v,_=>by
  rw [List.cons_append,List.nil_append,f_ v fun e=>hcb e.2,mn v hca];rfl
 |x::y::u,v,h=>by
  have hx:¬(x=a∧y=b):=by
   rintro⟨rfl,rfl⟩;exact h ⟨[],u,rfl⟩
  have:=kO hca hcb (y::u) v fun e=>h (fE e);rw [List.cons_append,List.cons_append,f_ _ hx];rw [List.cons_append]at this;rw [this];rfl
theorem ov {a b:Int} {u v:List Int} (h:cO a b u):cO a b (u++v):=by
 obtain⟨p,q,rfl⟩:=h;exact⟨p,q++v,by simp⟩
def cB (k:Int):List (Int×Int)→List Int→List Int
 | [],l=>l
 |m::ms,l=>cB (k+1) ms (gu m.1 m.2 k l)
def eS (k:Int):List (Int×Int)→Prop
 | []=>True
 |m::ms=>m.1<k∧m.2<k∧eS (k+1) ms
theorem dN:∀(ms:List (Int×Int)) (k:Int) (l:List Int),(∀m∈ms,¬cO m.1 m.2 l)→cB k ms l=l
 | [],k,l,_=>rfl
 |m::ms,k,l,h=>by
  simp only [cB];rw [l8 l (h m (by simp))];exact dN ms (k+1) l fun x hx=>h x (by simp [hx])
theorem d8:∀(a b:List (Int×Int)) (k:Int) (l:List Int),cB k (a++b) l=cB (k+a.length) b (cB k a l)
 | [],b,k,l=>by simp [cB]
 |m::a,b,k,l=>by
  simp only [List.cons_append,cB];rw [d8 a b];congr 1;simp;omega
theorem kS:∀ {ms:List (Int×Int)} {k:Int},eS k ms→∀(i:Nat) (m:Int×Int),ms[i]? =some m→m.1<k+i∧m.2<k+i
 | [],k,_,i,m,hi=>by simp at hi
 |x::ms,k,h,0,m,hi=>by
  simp at hi;subst hi;exact⟨by have:=h.1;omega,by have:=h.2.1;omega⟩
 |x::ms,k,h,i+1,m,hi=>by
  have:=kS h.2.2 i m (by simpa using hi);omega
def yv (ms:List (Int×Int)) (l:List Int):Prop:=∀m∈ms,¬cO m.1 m.2 l
theorem sE {a b c x y:Int} {u v:List Int} (h:cO x y (u++c::v)) (hn:¬cO x y (u++a::b::v)):x=c∨y=c:=by
 obtain⟨p,q,he⟩:=h;rcases List.append_eq_append_iff.1 he with⟨t,ht,hc⟩ |⟨t,ht,hc⟩
 ·cases t with
  |nil=>simp at hc;exact .inl hc.1.symm
  |cons t0 t=>
   simp at hc;exfalso;apply hn;rw [hc.2];exact⟨u++a::b::t,q,by simp⟩
 ·match t,ht,hc with
  | [],_,hc=>simp at hc;exact .inl hc.1
  | [x'],_,hc=>simp at hc;exact .inr hc.2.1
  |x'::y'::t,ht,hc=>
   simp at hc;exfalso;apply hn;rw [ht, ←hc.1, ←hc.2.1];exact⟨p,t++a::b::v,by simp⟩
theorem wV {k:Int} {low high:List (Int×Int)} {m:Int×Int} {u v:List Int} (hs:eS k (low++m::high)) (hq:yv low (u++m.1::m.2::v)) (hf:¬cO m.1 m.2 (u++ [m.1])):
  cB k (low++m::high) (u++m.1::m.2::v)=cB k (low++m::high) (u++(k+low.length)::v):=by
 have hq':yv low (u++(k+low.length)::v):=by
  intro x hx hb;obtain⟨i,hi,hxi⟩:=List.getElem_of_mem hx;have hlt:=kS hs i x (by rw [List.getElem?_append_left hi,List.getElem?_eq_getElem hi,hxi]);rcases sE (a:=m.1) (b:=m.2) hb (hq x hx)with e |e<;>omega
 rw [d8,d8,dN low k _ hq,dN low k _ hq'];have hm:=kS hs low.length m (by rw [List.getElem?_append_right (Nat.le_refl _)];simp);simp only [cB];rw [kq u v hf,kO (by omega) (by omega) u v fun e=>hf (ov e)]
def lG (ms:List (Int×Int)) (below:Int) (l:List Int):List Int:=cB 256 (ms.take (below-256).toNat) l
section
variable (ms:List (Int×Int))
def Bc (k:Nat) (s:List Int):List Int:=cB 256 (ms.take k) s
variable (ex:Int→List Int)
variable {ms ex}
end
section
variable {ms:List (Int×Int)} {ex:Int→List Int}
end
section
variable {ms:List (Int×Int)} {ex:Int→List Int}
end
section
variable (cut:Int→Int→Bool)
def Aj:List Int→List (List Int)
 | []=>[]
 | [x]=>[[x]]
 |x::y::r=>if cut x y=true then [x]::Aj (y::r)else match Aj (y::r)with
  | []=>[[x]]
  |p::ps=>(x::p)::ps
variable {cut}
end
structure Voc where
 ms:List (Int×Int)
 ex:Int→List Int
 cutB:Int→Int→Bool
 sp:List Int
namespace Voc
variable (V:Voc)
def cut (x y:Int):Bool:=decide (x<0)||decide (y<0)||V.cutB x y
def place (t:Int):Option Nat:=V.sp.idxOf? t
def items (t:Int):List Int:=match V.place t with
 |some i=>[-1- (i:Int)]
 |none=>V.ex t
def encP:List Int→List Int
 | []=>[]
 |x::r=>if x<0 then [V.sp.getD (-1-x).toNat 0]else Bc V.ms V.ms.length (x::r)
def encode (Z:List Int):List Int:=(Aj V.cut Z).flatMap V.encP
def itemsAll (ids:List Int):List Int:=ids.flatMap V.items
def Canon (ids:List Int):Prop:=V.encode (V.itemsAll ids)=ids
variable {V}
end Voc
structure HE where
 r:Int
 p:Int
 t:Int
 f:Int
 a:Int
 b:Int
 deriving DecidableEq,Inhabited
def HE.lt (x y:HE):Prop:=x.r<y.r∨x.r=y.r∧(x.p<y.p∨x.p=y.p∧x.t<y.t)
instance (x y:HE):Decidable (x.lt y):=by unfold HE.lt;infer_instance
theorem HE.asymm {x y:HE} (h:x.lt y):¬y.lt x:=by unfold HE.lt at*;omega
theorem HE.le_trans {x y z:HE} (h1:¬y.lt x) (h2:¬z.lt y):¬z.lt x:=by unfold HE.lt at*;omega
theorem HE.lt_le {x y z:HE} (h1:x.lt y) (h2:¬z.lt y):¬z.lt x:=HE.le_trans (HE.asymm h1) h2
abbrev hat (l:List HE) (j:Nat):HE:=l.getD j default
def jJ (l:List HE) (i k:Nat):List HE:=(l.set i (hat l k)).set k (hat l i)
theorem aO (l:List HE) (i k:Nat):(jJ l i k).length=l.length:=by simp [jJ]
theorem en {l:List HE} {i k:Nat} (hi:i<l.length) (hk:k<l.length) (j:Nat):hat (jJ l i k) j=if j=k then hat l i else if j=i then hat l k else hat l j:=by
 unfold hat jJ;simp only [List.getD_eq_getElem?_getD,List.getElem?_set,List.length_set];by_cases h1:j=k
 ·subst h1;simp [hk]
 ·by_cases h2:j=i
  ·subst h2;rw [if_neg (fun e=>h1 e.symm),if_pos rfl,if_pos hi,if_neg h1,if_pos rfl];rfl
  ·rw [if_neg (fun e=>h1 e.symm),if_neg (fun e=>h2 e.symm),if_neg h1,if_neg h2]
theorem iu {l:List HE} {e:HE}:e∈l↔∃j,j<l.length∧hat l j=e:=by
 constructor
 ·intro h;obtain⟨j,hj,rfl⟩:=List.getElem_of_mem h;exact⟨j,hj,by simp [hat,hj]⟩
 ·rintro⟨j,hj,rfl⟩;simp only [hat,List.getD_eq_getElem?_getD,List.getElem?_eq_getElem hj,Option.getD_some];exact List.getElem_mem hj
theorem jK {l:List HE} {i k:Nat} (hi:i<l.length) (hk:k<l.length) (e:HE):e∈jJ l i k↔e∈l:=by
 rw [iu,iu,aO];constructor
 ·rintro⟨j,hj,rfl⟩;rw [en hi hk];split
  ·exact⟨i,hi,rfl⟩
  ·split
   ·exact⟨k,hk,rfl⟩
   ·exact⟨j,hj,rfl⟩
 ·rintro⟨j,hj,rfl⟩;by_cases h1:j=i
  ·subst h1;exact⟨k,hk,by rw [en hi hk,if_pos rfl]⟩
  ·by_cases h2:j=k
   ·subst h2;exact⟨i,hi,by rw [en hi hk,if_neg (fun e=>h1 e.symm),if_pos rfl]⟩
   ·exact⟨j,hj,by rw [en hi hk,if_neg h2,if_neg h1]⟩
def par (j:Nat):Nat:=(j-1)/2
theorem dZ {j:Nat} (h:0<j):par j<j:=by unfold par;omega
def cw (l:List HE):Prop:=∀j,0<j→j<l.length→¬(hat l j).lt (hat l (par j))
def tQ (l:List HE) (i:Nat):Prop:=∀j,0<j→j<l.length→(j≠i→¬(hat l j).lt (hat l (par j)))∧(par j=i→0<i→¬(hat l j).lt (hat l (par i)))
theorem nt {l:List HE} {i:Nat} (h:tQ l i) (hi:i=0∨¬(hat l i).lt (hat l (par i))):cw l:=by
 intro j h0 hj;by_cases e:j=i
 ·subst e;rcases hi with hi |hi
  ·omega
  ·exact hi
 ·exact(h j h0 hj).1 e
theorem x_ {l:List HE} {i:Nat} (h:tQ l i) (h0:0<i) (hi:i<l.length) (hl:(hat l i).lt (hat l (par i))):tQ (jJ l i (par i)) (par i):=by
 have hp:=dZ h0;have hpl:par i<l.length:=by omega
 intro j j0 hj;rw [aO]at hj;have hjp:=dZ j0;have at_:∀x,hat (jJ l i (par i)) x=if x=par i then hat l i else if x=i then hat l (par i)else hat l x:=en hi hpl
 constructor
 ·intro hne;rw [at_ j,at_ (par j),if_neg hne];by_cases e1:j=i
  ·subst e1;rw [if_pos rfl,if_pos rfl];exact HE.asymm hl
  ·rw [if_neg e1];by_cases e2:par j=par i
   ·rw [if_pos e2];have h1:=(h j j0 hj).1 e1;rw [e2]at h1;exact HE.lt_le hl h1
   ·rw [if_neg e2];by_cases e3:par j=i
    ·rw [if_pos e3];exact(h j j0 hj).2 e3 h0
    ·rw [if_neg e3];exact(h j j0 hj).1 e1
 ·intro e2 hp0;have hpp:=dZ hp0;have a1:hat (jJ l i (par i)) j=if j=i then hat l (par i)else hat l j:=by rw [at_ j,if_neg (by omega)]
  have a2:hat (jJ l i (par i)) (par (par i))=hat l (par (par i)):=by rw [at_ _,if_neg (by omega),if_neg (by omega)]
  rw [a1,a2];have h1:=(h (par i) hp0 hpl).1 (by omega);by_cases e1:j=i
  ·subst e1;rw [if_pos rfl];exact h1
  ·rw [if_neg e1];have h2:=(h j j0 hj).1 e1;rw [e2]at h2;exact HE.le_trans h1 h2
def gL (l:List HE) (i:Nat):Prop:=∀j,0<j→j<l.length→(par j≠i→¬(hat l j).lt (hat l (par j)))∧(par j=i→0<i→¬(hat l j).lt (hat l (par i)))
theorem mG {l:List HE} {i:Nat} (h:gL l i) (hc:∀j,0<j→j<l.length→par j=i→¬(hat l j).lt (hat l i)):cw l:=by
 intro j h0 hj;by_cases e:par j=i
 ·rw [e];exact hc j h0 hj e
 ·exact(h j h0 hj).1 e
theorem tY {l:List HE} {i c:Nat} (h:gL l i) (hc0:0<c) (hc:c<l.length) (hpc:par c=i) (hl:(hat l c).lt (hat l i)) (ho:∀j,0<j→j<l.length→par j=i→¬(hat l j).lt (hat l c)):gL (jJ l i c) c:=by
 have hp:=dZ hc0;have hil:i<l.length:=by omega
 have at_:∀x,hat (jJ l i c) x=if x=c then hat l i else if x=i then hat l c else hat l x:=en hil hc
 intro j j0 hj;rw [aO]at hj;have hjp:=dZ j0;constructor
 ·intro hne;rw [at_ j,at_ (par j),if_neg hne];by_cases e1:j=c
  ·subst e1;rw [if_pos rfl,if_pos hpc];exact HE.asymm hl
  ·rw [if_neg e1];by_cases e2:j=i
   ·subst e2;rw [if_pos rfl,if_neg (by omega)];exact(h c hc0 hc).2 hpc j0
   ·rw [if_neg e2];by_cases e3:par j=i
    ·rw [if_pos e3];exact ho j j0 hj e3
    ·rw [if_neg e3];exact(h j j0 hj).1 e3
 ·intro e1 _;have a1:hat (jJ l i c) j=hat l j:=by rw [at_ j,if_neg (by omega),if_neg (by omega)]
  have a2:hat (jJ l i c) i=hat l c:=by rw [at_ i,if_neg (by omega),if_pos rfl]
  rw [hpc,a1,a2];have:=(h j j0 hj).1 (by omega);rw [e1]at this;exact this
theorem xp {l:List HE} (h:cw l) (x:HE):tQ (l++ [x]) l.length:=by
 intro j j0 hj;have hjp:=dZ j0;simp at hj;constructor
 ·intro hne;have hlt:j<l.length:=by omega
  have e:∀y,y<l.length→hat (l++ [x]) y=hat l y:=by
   intro y hy;simp only [hat,List.getD_eq_getElem?_getD,List.getElem?_append_left hy]
  rw [e j hlt,e _ (by omega)];exact h j j0 hlt
 ·intro e;omega
theorem vj {l:List HE} (h:cw l) (n:Nat) (hn:l.length=n+1):gL ((jJ l 0 n).take n) 0:=by
 intro j j0 hj;rw [List.length_take,aO,hn]at hj;have hjn:j<n:=by omega
 have hjp:=dZ j0;have e:∀y,y<n→0<y→hat ((jJ l 0 n).take n) y=hat l y:=by
  intro y hy hy0;have:hat ((jJ l 0 n).take n) y=hat (jJ l 0 n) y:=by simp only [hat,List.getD_eq_getElem?_getD,List.getElem?_take_of_lt hy]
  rw [this,en (by omega) (by omega),if_neg (by omega),if_neg (by omega)]
 constructor
 ·intro hne;rw [e j hjn j0,e _ (by omega) (by omega)];exact h j j0 (by omega)
 ·intro _ h0;omega
theorem r6 {l:List HE} (h:cw l):∀j,j<l.length→¬(hat l j).lt (hat l 0):=by
 intro j;induction j using Nat.strongRecOn with
 |ind j ih=>
  intro hj;by_cases h0:j=0
  ·subst h0;intro e;exact HE.asymm e e
  ·have hp:=dZ (Nat.pos_of_ne_zero h0);exact HE.le_trans (ih (par j) hp (by omega)) (h j (Nat.pos_of_ne_zero h0) hj)
theorem yc {l:List HE} (n:Nat) (hn:l.length=n+1):(∀e∈l,e=hat l 0∨e∈(jJ l 0 n).take n)∧∀e∈(jJ l 0 n).take n,e∈l:=by
 constructor
 ·intro e he;rw [←jK (l:=l) (i:=0) (k:=n) (by omega) (by omega)]at he;obtain⟨j,hj,rfl⟩:=iu.1 he;rw [aO]at hj;by_cases hjn:j=n
  ·subst hjn;rw [en (by omega) (by omega),if_pos rfl];exact .inl rfl
  ·refine .inr (iu.2 ⟨j,by rw [List.length_take,aO];omega,?_⟩);simp only [hat,List.getD_eq_getElem?_getD,List.getElem?_take_of_lt (show j<n by omega)]
 ·intro e he;exact(jK (by omega) (by omega) e).1 (List.mem_of_mem_take he)
end Go.Proofs.YtijbcdiffjjefaaGreatDoor.Eng
