/- Sifted out of this repo's own templates by tool/sift.py. -/
import Derived.Test.YtijbcdiffjjefaaGreatDoorZtRx
import Derived.Below
import Derived.Lib.SplitLaws
import Derived.Lib.CountLaws
import Derived.Lib.Split
import Derived.Lib.Join
import Derived.Lib.ItoaNum
import Derived.Lib.AtoiAll
import Derived.Lib.ItoaMem
import Derived.Laws.MakeOwn
import Derived.Lib.AppendIntMem
import Derived.Lib.AtoiErrMem
import Derived.Lib.AppendStr
import Derived.Shelf.Strings.Builder1
import Derived.WideShapes
import Derived.ChangeSame
import Derived.Test.YtijbcdiffjjefaaGreatDoorZtVc
import Derived.MapKept
import Derived.Carry
set_option linter.unusedVariables false
set_option linter.unusedSimpArgs false
set_option maxRecDepth 100000
namespace Go.Proofs.YtijbcdiffjjefaaGreatDoor.Eng
open Go Go.RowKit Go.ChangeShapes Go.WideShapes
theorem im (n lo hi:Int) (w:World):CP 139 #[.int .i64 n,.int .i64 lo,.int .i64 hi] w fun e w'=>e= .returned (.bool (decide (lo≤n∧n≤hi)))∧w'=w:=by
 refine az (yI n lo hi w (fun v w'=>v= .bool (decide (lo≤n∧n≤hi))∧w'=w) ?_) (by rintro v w' ⟨rfl,h⟩;exact⟨rfl,h⟩);refine aa.mk ?_ ?_
 ·intro h;have h:=of_decide_eq_true h;exact⟨by rw [decide_eq_decide.2 (show n≤hi↔(lo≤n∧n≤hi)from⟨fun e=>⟨h,e⟩,fun e=>e.2⟩)],rfl⟩
 ·intro h;have h:=of_decide_eq_false h;exact⟨by rw [decide_eq_false (by omega:¬(lo≤n∧n≤hi))],rfl⟩
theorem BY {s:ai} (h:s.right=true→False):s.right=false:=by
 cases hr:s.right with
 |false=>rfl
 |true=>exact(h hr).elim
theorem jV {α:Type} {l:List α} {most:Nat} {may:α→Bool} (hl:l.length≤most) (h:∀j,j<l.length→∀hj:j<l.length,may l[j]=true):bk l most may=true:=by
 unfold bk;rw [Bool.and_eq_true];refine⟨decide_eq_true hl,List.all_eq_true.2 fun x hx=>?_⟩;obtain⟨j,hj,rfl⟩:=List.getElem_of_mem hx;exact h j hj hj
theorem ki (x:aG) (s:ai) (w:World) (h:aM w x s):
  CP 96 #[x.v] w fun e w'=>e= .returned (.bool s.right)∧Below w.heap.size w w':=by
 refine az (An x.ranked x.s1.a x.s1.n x.s1.c x.s2.a x.s2.n x.s2.c x.s3.a x.s3.n x.s3.c x.s4.a x.s4.n x.s4.c x.s5.a x.s5.n x.s5.c w (fun v w'=>v= .bool s.right∧Below w.heap.size w w') ?_) (by rintro v w' ⟨rfl,h⟩;exact⟨rfl,h⟩);intro w1 hw1;have hb1:Below w.heap.size w w1:=by rw [hw1];exact ag _ _
 have c1:∀ {w3:World} (j:Nat),Below w1.heap.size w1 w3→w3.cell? ((nb w).add j)=x.cells[j]? :=by
  intro w3 j hB;rw [hw1]at hB;rw [aA,Nat.zero_add,fG hB]
 have hrefl:=Below.refl w1.heap.size w1;have hs:∀ {w3:World},Below w1.heap.size w1 w3→aM w3 x s:=fun hB=>h.on (ab hb1 hB);have off:∀ {w3:World},Below w1.heap.size w1 w3→(s.right=true→False)→(Value.bool false= .bool s.right∧Below w.heap.size w w3):=fun hB e=>⟨by rw [BY e],ab hb1 hB⟩;refine⟨_,_,_,c1 1 hrefl,aa.mk (fun hc=>off hrefl fun hr=>?_) (fun l1=>?_)⟩
 ·have:=bx (aH hr).2.1;have hc:=of_decide_eq_true hc;rw [h.n1]at hc;omega
 refine⟨_,_,_,c1 2 hrefl,aa.mk (fun hc=>off hrefl fun hr=>?_) (fun l2=>?_)⟩
 ·have:=bx (aH hr).2.2.1;have hc:=of_decide_eq_true hc;rw [h.n2]at hc;omega
 refine⟨_,_,_,c1 3 hrefl,aa.mk (fun hc=>off hrefl fun hr=>?_) (fun l3=>?_)⟩
 ·have:=bx (aH hr).2.2.2.1;have hc:=of_decide_eq_true hc;rw [h.n3]at hc;omega
 refine⟨_,_,_,c1 4 hrefl,aa.mk (fun hc=>off hrefl fun hr=>?_) (fun l4=>?_)⟩
 ·have:=bx (aH hr).2.2.2.2.1;have hc:=of_decide_eq_true hc;rw [h.n4]at hc;omega
 refine⟨_,_,_,c1 5 hrefl,aa.mk (fun hc=>off hrefl fun hr=>?_) (fun l5=>?_)⟩
 ·have:=bx (aH hr).2.2.2.2.2;have hc:=of_decide_eq_true hc;rw [h.n5]at hc;omega
 have l1:=of_decide_eq_false l1;have l2:=of_decide_eq_false l2;have l3:=of_decide_eq_false l3;have l4:=of_decide_eq_false l4;have l5:=of_decide_eq_false l5;rw [h.n1]at l1;rw [h.n2]at l2;rw [h.n3]at l3;rw [h.n4]at l4;rw [h.n5]at l5;intro I1 hI1;refine aK (α:=World) s.merges.length (fun i w'=>(∀j,j<i→∀hj:j<s.merges.length,dr s.merges[j]=true)∧(0<i→s.ranked=false)∧Below w1.heap.size w1 w') (fun i w'=>I1 [.int .i64 (i:Int),.bool false] w') w1 ⟨by simp,by simp,hrefl⟩ ?_ ?_
 ·rintro i hi ih w3 ⟨hok,hrk,hB⟩;refine hI1 _ _ _ ⟨_,_,_,c1 1 hB,aa.yes (by rw [h.n1];simp;omega) ⟨_,c1 0 hB,aa.mk (fun hk=>off hB fun hr=>?_) (fun hk=>?_)⟩⟩
  ·have p0:=(aH hr).1;rw [if_pos (by rw [←h.ranked];exact hk)]at p0;have:s.merges= []:=List.isEmpty_iff.1 p0;rw [this]at hi;simp at hi
  obtain⟨p,hpa,_,hc⟩:=(hs hB).r1 i _ (List.getElem?_eq_getElem hi);refine⟨_,_,_,c1 1 hB,ae.mk p hpa ⟨by omega,by rw [h.n1];omega,_,hc 0 _ rfl,?_⟩⟩;refine(im _ 0 999 w3).mono ?_;rintro e w4 ⟨rfl,hw⟩;subst w4;refine⟨_,rfl,aa.mk (fun hb=>off hB fun hr=>?_) (fun hb=>?_)⟩
  ·have:=of_decide_eq_true (bw (aH hr).2.1 (List.getElem_mem hi));simp only [Bool.not_eq_true',decide_eq_false_iff_not]at hb;omega
  refine⟨_,_,_,c1 1 hB,ae.mk p hpa ⟨by omega,by rw [h.n1];omega,_,hc 1 _ rfl,?_⟩⟩;refine(im _ 0 999 w3).mono ?_;rintro e w4 ⟨rfl,hw⟩;subst w4;refine⟨_,rfl,aa.mk (fun hb2=>off hB fun hr=>?_) (fun hb2=>?_)⟩
  ·have:=of_decide_eq_true (bw (aH hr).2.1 (List.getElem_mem hi));simp only [Bool.not_eq_true',decide_eq_false_iff_not]at hb2;omega
  simp only [Bool.not_eq_false',decide_eq_true_eq]at hb hb2;exact Ar.ok64 (by omega) (by omega) (ih w3 ⟨dv hok (fun _=>decide_eq_true (by omega)),fun _=>by rw [←h.ranked];exact hk,hB⟩)
 rintro w3 ⟨hok1,hrk1,hB⟩;refine hI1 _ _ _ ⟨_,_,_,c1 1 hB,aa.no (by rw [h.n1];simp) ?_⟩;intro I2 hI2;refine aK (α:=World) s.tokens.length (fun i w'=>(∀j,j<i→∀hj:j<s.tokens.length,ee s.tokens[j]=true)∧(0<i→s.ranked=true)∧Below w1.heap.size w1 w') (fun i w'=>I2 [.int .i64 (i:Int),.bool false] w') w3 ⟨by simp,by simp,hB⟩ ?_ ?_
 ·rintro i hi ih w3 ⟨hok,hrk,hB⟩;refine hI2 _ _ _ ⟨_,_,_,c1 2 hB,aa.yes (by rw [h.n2];simp;omega) ⟨_,c1 0 hB,aa.mk (fun hk=>off hB fun hr=>?_) (fun hk=>?_)⟩⟩
  ·have p0:=(aH hr).1;have hk:x.ranked=false:=by simpa using hk
   rw [if_neg (by rw [←h.ranked,hk];simp)]at p0;have:s.tokens= []:=List.isEmpty_iff.1 p0;rw [this]at hi;simp at hi
  have hk:x.ranked=true:=by simpa using hk
  obtain⟨p,hpa,_,hc⟩:=(hs hB).r2 i _ (List.getElem?_eq_getElem hi);refine⟨_,_,_,c1 2 hB,ae.mk p hpa ⟨by omega,by rw [h.n2];omega,str s.tokens[i],by have:=hc 0 _ rfl;rwa [an]at this,?_⟩⟩;rw [aj];refine(im _ 2 64 w3).mono ?_;rintro e w4 ⟨rfl,hw⟩;subst w4;refine⟨_,rfl,aa.mk (fun hb=>off hB fun hr=>?_) (fun hb=>?_)⟩
  ·have:=of_decide_eq_true (bw (aH hr).2.2.1 (List.getElem_mem hi));simp only [Bool.not_eq_true',decide_eq_false_iff_not]at hb;omega
  simp only [Bool.not_eq_false',decide_eq_true_eq]at hb;exact Ar.ok64 (by omega) (by omega) (ih w3 ⟨dv hok (fun _=>decide_eq_true (by omega)),fun _=>by rw [←h.ranked];exact hk,hB⟩)
 rintro w3 ⟨hok2,hrk2,hB⟩;refine hI2 _ _ _ ⟨_,_,_,c1 2 hB,aa.no (by rw [h.n2];simp) ?_⟩;intro I3 hI3;refine aK (α:=World) s.specials.length (fun i w'=>(∀j,j<i→∀hj:j<s.specials.length,aY s.specials[j]=true)∧Below w1.heap.size w1 w') (fun i w'=>I3 [.int .i64 (i:Int),.bool false] w') w3 ⟨by simp,hB⟩ ?_ ?_
 ·rintro i hi ih w3 ⟨hok,hB⟩;obtain⟨p,hpa,_,hc⟩:=(hs hB).r3 i _ (List.getElem?_eq_getElem hi);refine hI3 _ _ _ ⟨_,_,_,c1 3 hB,aa.yes (by rw [h.n3];simp;omega) ⟨_,_,_,c1 3 hB,ae.mk p hpa ⟨by omega,by rw [h.n3];omega,_,hc 0 _ rfl,?_⟩⟩⟩;refine(im _ 0 1073741824 w3).mono ?_;rintro e w4 ⟨rfl,hw⟩;subst w4;refine⟨_,rfl,aa.mk (fun hb=>off hB fun hr=>?_) (fun hb=>?_)⟩
  ·have:=of_decide_eq_true (bw (aH hr).2.2.2.1 (List.getElem_mem hi));simp only [Bool.not_eq_true',decide_eq_false_iff_not]at hb;omega
  refine⟨_,_,_,c1 3 hB,ae.mk p hpa ⟨by omega,by rw [h.n3];omega,_,hc 1 _ rfl,?_⟩⟩;rw [aj];refine(im _ 1 64 w3).mono ?_;rintro e w4 ⟨rfl,hw⟩;subst w4;refine⟨_,rfl,aa.mk (fun hb2=>off hB fun hr=>?_) (fun hb2=>?_)⟩
  ·have:=of_decide_eq_true (bw (aH hr).2.2.2.1 (List.getElem_mem hi));simp only [Bool.not_eq_true',decide_eq_false_iff_not]at hb2;omega
  simp only [Bool.not_eq_false',decide_eq_true_eq]at hb hb2;exact Ar.ok64 (by omega) (by omega) (ih w3 ⟨dv hok (fun _=>decide_eq_true (by omega)),hB⟩)
 rintro w3 ⟨hok3,hB⟩;refine hI3 _ _ _ ⟨_,_,_,c1 3 hB,aa.no (by rw [h.n3];simp) ?_⟩;intro I4 hI4;refine aK (α:=World) s.classes.length (fun i w'=>(∀j,j<i→∀hj:j<s.classes.length,aR s.classes[j]=true)∧Below w1.heap.size w1 w') (fun i w'=>I4 [.int .i64 (i:Int),.bool false] w') w3 ⟨by simp,hB⟩ ?_ ?_
 ·rintro i hi ih w3 ⟨hok,hB⟩;obtain⟨p,hpa,_,hc⟩:=(hs hB).r4 i _ (List.getElem?_eq_getElem hi);refine hI4 _ _ _ ⟨_,_,_,c1 4 hB,aa.yes (by rw [h.n4];simp;omega) ⟨_,_,_,c1 4 hB,ae.mk p hpa ⟨by omega,by rw [h.n4];omega,s.classes[i].1,s.classes[i].2.1,s.classes[i].2.2,⟨by have:=hc 0 _ rfl;rwa [an]at this,hc 1 _ rfl,hc 2 _ rfl,trivial⟩,?_⟩⟩⟩;intro w6 hw6;refine aJ [.int .i64 0,.int .i64 0,.int .i64 0] [.int .i64 s.classes[i].1,.int .i64 s.classes[i].2.1,.int .i64 s.classes[i].2.2] rfl (by intro v hv;simp at hv;rcases hv with rfl |rfl |rfl<;>rfl) w6 hw6 ?_
  intro w7 f5 hsz7 f6;have hB7:Below w1.heap.size w1 w7:=ab hB f6;refine⟨_,(aE (j:=0) f5).trans rfl,aa.mk (fun hb=>off hB7 fun hr=>?_) (fun hb=>?_)⟩
  ·have:=of_decide_eq_true (bw (aH hr).2.2.2.2.1 (List.getElem_mem hi));have hb:=of_decide_eq_true hb;omega
  refine⟨_,(aE (j:=1) f5).trans rfl,_,(aE (j:=0) f5).trans rfl,aa.mk (fun hb2=>off hB7 fun hr=>?_) (fun hb2=>?_)⟩
  ·have:=of_decide_eq_true (bw (aH hr).2.2.2.2.1 (List.getElem_mem hi));have hb:=of_decide_eq_true hb2;omega
  refine⟨_,(aE (j:=1) f5).trans rfl,aa.mk (fun hb3=>off hB7 fun hr=>?_) (fun hb3=>?_)⟩
  ·have:=of_decide_eq_true (bw (aH hr).2.2.2.2.1 (List.getElem_mem hi));have hb:=of_decide_eq_true hb3;omega
  refine⟨_,(aE (j:=2) f5).trans rfl,?_⟩;refine(im _ 0 15 w7).mono ?_;rintro e w8 ⟨rfl,hw⟩;subst w8;refine⟨_,rfl,aa.mk (fun hb4=>off hB7 fun hr=>?_) (fun hb4=>?_)⟩
  ·have:=of_decide_eq_true (bw (aH hr).2.2.2.2.1 (List.getElem_mem hi));simp only [Bool.not_eq_true',decide_eq_false_iff_not]at hb4;omega
  have hb:=of_decide_eq_false hb;have hb2:=of_decide_eq_false hb2;have hb3:=of_decide_eq_false hb3;simp only [Bool.not_eq_false',decide_eq_true_eq]at hb4;exact Ar.ok64 (by omega) (by omega) (ih w7 ⟨dv hok (fun _=>decide_eq_true (by omega)),hB7⟩)
 rintro w3 ⟨hok4,hB⟩;refine hI4 _ _ _ ⟨_,_,_,c1 4 hB,aa.no (by rw [h.n4];simp) ?_⟩;intro I5 hI5;refine aK (α:=World) s.joins.length (fun i w'=>(∀j,j<i→∀hj:j<s.joins.length,bK s.joins[j]=true)∧Below w1.heap.size w1 w') (fun i w'=>I5 [.int .i64 (i:Int),.bool false] w') w3 ⟨by simp,hB⟩ ?_ ?_
 ·rintro i hi ih w3 ⟨hok,hB⟩;obtain⟨p,hpa,_,hc⟩:=(hs hB).r5 i _ (List.getElem?_eq_getElem hi);refine hI5 _ _ _ ⟨_,_,_,c1 5 hB,aa.yes (by rw [h.n5];simp;omega) ⟨_,_,_,c1 5 hB,ae.mk p hpa ⟨by omega,by rw [h.n5];omega,_,hc 0 _ rfl,?_⟩⟩⟩;refine(im _ 0 15 w3).mono ?_;rintro e w4 ⟨rfl,hw⟩;subst w4;refine⟨_,rfl,aa.mk (fun hb=>off hB fun hr=>?_) (fun hb=>?_)⟩
  ·have:=of_decide_eq_true (bw (aH hr).2.2.2.2.2 (List.getElem_mem hi));simp only [Bool.not_eq_true',decide_eq_false_iff_not]at hb;omega
  refine⟨_,_,_,c1 5 hB,ae.mk p hpa ⟨by omega,by rw [h.n5];omega,_,hc 1 _ rfl,?_⟩⟩;refine(im _ 0 15 w3).mono ?_;rintro e w4 ⟨rfl,hw⟩;subst w4;refine⟨_,rfl,aa.mk (fun hb2=>off hB fun hr=>?_) (fun hb2=>?_)⟩
  ·have:=of_decide_eq_true (bw (aH hr).2.2.2.2.2 (List.getElem_mem hi));simp only [Bool.not_eq_true',decide_eq_false_iff_not]at hb2;omega
  simp only [Bool.not_eq_false',decide_eq_true_eq]at hb hb2;exact Ar.ok64 (by omega) (by omega) (ih w3 ⟨dv hok (fun _=>decide_eq_true (by omega)),hB⟩)
 rintro w3 ⟨hok5,hB⟩;refine hI5 _ _ _ ⟨_,_,_,c1 5 hB,aa.no (by rw [h.n5];simp) ⟨?_,ab hb1 hB⟩⟩;rw [iN (s:=s) ?_ (jV (by omega) hok1) (jV (by omega) hok2) (jV (by omega) hok3) (jV (by omega) hok4) (jV (by omega) hok5)];by_cases hk:s.ranked=true
 ·rw [if_pos hk];cases hm:s.merges with
  |nil=>rfl
  |cons _ _=>rw [hm]at hrk1;rw [hk]at hrk1;simp at hrk1
 ·rw [if_neg hk];cases hm:s.tokens with
  |nil=>rfl
  |cons _ _=>rw [hm]at hrk2;exact absurd (hrk2 (by simp)) hk
def lz (s:ai):Bool:=decide (60<s.merges.length∧s.merges.length≠745∨60<s.tokens.length∨40<s.specials.length∨70<s.classes.length∨70<s.joins.length∨(∃t∈s.tokens,100<t.length)∨∃y∈s.specials,100<y.2.length)
theorem zo (x:aG) (s:ai) (w:World) (h:aM w x s):
  CP 36 #[x.v] w fun e w'=>e= .returned (.bool (lz s))∧Below w.heap.size w w':=by
 refine az (zr x.ranked x.s1.a x.s1.n x.s1.c x.s2.a x.s2.n x.s2.c x.s3.a x.s3.n x.s3.c x.s4.a x.s4.n x.s4.c x.s5.a x.s5.n x.s5.c w (fun v w'=>v= .bool (lz s)∧Below w.heap.size w w') ?_) (by rintro v w' ⟨rfl,h⟩;exact⟨rfl,h⟩);intro w1 hw1;have hb1:Below w.heap.size w w1:=by rw [hw1];exact ag _ _
 have c1:∀ {w3:World} (j:Nat),Below w1.heap.size w1 w3→w3.cell? ((nb w).add j)=x.cells[j]? :=by
  intro w3 j hB;rw [hw1]at hB;rw [aA,Nat.zero_add,fG hB]
 have hB:=Below.refl w1.heap.size w1;have h1:=h.on hb1;have yes:(60<s.merges.length∧s.merges.length≠745∨60<s.tokens.length∨40<s.specials.length∨70<s.classes.length∨70<s.joins.length∨(∃t∈s.tokens,100<t.length)∨∃y∈s.specials,100<y.2.length)→(Value.bool true= .bool (lz s)∧Below w.heap.size w w1):=fun e=>⟨by rw [show lz s=true from decide_eq_true e],hb1⟩;refine⟨_,_,_,c1 1 hB,aa.mk (fun hm=>⟨_,_,_,c1 1 hB,aa.mk (fun hn=>?_) (fun hn=>?_)⟩) (fun hm=>?_)⟩
 ·have hm:=of_decide_eq_true hm;rw [h.n1]at hm hn;simp at hn;exact yes (.inl ⟨by omega,by omega⟩)
 all_goals
  have hg:¬(60<s.merges.length∧s.merges.length≠745):=by
   first
    |(have hm:=of_decide_eq_false hm;rw [h.n1]at hm;omega)
    |(rw [h.n1]at hn;simp at hn;omega)
  refine⟨_,_,_,c1 2 hB,aa.mk (fun hm=>yes (.inr (.inl (by have hm:=of_decide_eq_true hm;rw [h.n2]at hm;omega)))) (fun l2=>?_)⟩;refine⟨_,_,_,c1 3 hB,aa.mk (fun hm=>yes (.inr (.inr (.inl (by have hm:=of_decide_eq_true hm;rw [h.n3]at hm;omega))))) (fun l3=>?_)⟩;refine⟨_,_,_,c1 4 hB,aa.mk (fun hm=>yes (.inr (.inr (.inr (.inl (by have hm:=of_decide_eq_true hm;rw [h.n4]at hm;omega)))))) (fun l4=>?_)⟩;refine⟨_,_,_,c1 5 hB,aa.mk (fun hm=>yes (.inr (.inr (.inr (.inr (.inl (by have hm:=of_decide_eq_true hm;rw [h.n5]at hm;omega))))))) (fun l5=>?_)⟩;have l2:=of_decide_eq_false l2;have l3:=of_decide_eq_false l3;have l4:=of_decide_eq_false l4;have l5:=of_decide_eq_false l5;rw [h.n2]at l2;rw [h.n3]at l3;rw [h.n4]at l4;rw [h.n5]at l5;intro I1 hI1;refine aK (α:=World) s.tokens.length (fun i w'=>(∀j,j<i→∀hj:j<s.tokens.length,¬100<s.tokens[j].length)∧w'=w1) (fun i w'=>I1 [.int .i64 (i:Int),.bool false] w') w1 ⟨by simp,rfl⟩ ?_ ?_
  ·rintro i hi ih w3 ⟨hok,hw3⟩;subst w3;obtain⟨p,hpa,_,hc⟩:=h1.r2 i _ (List.getElem?_eq_getElem hi);refine hI1 _ _ _ ⟨_,_,_,c1 2 hB,aa.yes (by rw [h.n2];simp;omega) ⟨_,_,_,c1 2 hB,ae.mk p hpa ⟨by omega,by rw [h.n2];omega,str s.tokens[i],by have:=hc 0 _ rfl;rwa [an]at this,?_⟩⟩⟩;rw [aj];refine aa.mk (fun hb=>yes (.inr (.inr (.inr (.inr (.inr (.inl ⟨_,List.getElem_mem hi,by have hb:=of_decide_eq_true hb;omega⟩))))))) (fun hb=>Ar.ok64 (by omega) (by omega) (ih w1 ⟨dv hok fun _=>?_,rfl⟩));have hb:=of_decide_eq_false hb;omega
  rintro w3 ⟨hok1,hw3⟩;subst w3;refine hI1 _ _ _ ⟨_,_,_,c1 2 hB,aa.no (by rw [h.n2];simp) ?_⟩;intro I2 hI2;refine aK (α:=World) s.specials.length (fun i w'=>(∀j,j<i→∀hj:j<s.specials.length,¬100<s.specials[j].2.length)∧w'=w1) (fun i w'=>I2 [.int .i64 (i:Int),.bool false] w') w1 ⟨by simp,rfl⟩ ?_ ?_
  ·rintro i hi ih w3 ⟨hok,hw3⟩;subst w3;obtain⟨p,hpa,_,hc⟩:=h1.r3 i _ (List.getElem?_eq_getElem hi);refine hI2 _ _ _ ⟨_,_,_,c1 3 hB,aa.yes (by rw [h.n3];simp;omega) ⟨_,_,_,c1 3 hB,ae.mk p hpa ⟨by omega,by rw [h.n3];omega,str s.specials[i].2,hc 1 _ rfl,?_⟩⟩⟩;rw [aj];refine aa.mk (fun hb=>yes (.inr (.inr (.inr (.inr (.inr (.inr ⟨_,List.getElem_mem hi,by have hb:=of_decide_eq_true hb;omega⟩))))))) (fun hb=>Ar.ok64 (by omega) (by omega) (ih w1 ⟨dv hok fun _=>?_,rfl⟩));have hb:=of_decide_eq_false hb;omega
  rintro w3 ⟨hok2,hw3⟩;subst w3;refine hI2 _ _ _ ⟨_,_,_,c1 3 hB,aa.no (by rw [h.n3];simp) ⟨?_,hb1⟩⟩;rw [show lz s=false from decide_eq_false ?_];rintro(e |e |e |e |e |⟨t,ht,e⟩ |⟨y,hy,e⟩)
  ·exact hg e
  ·omega
  ·omega
  ·omega
  ·omega
  ·obtain⟨j,hj,rfl⟩:=List.getElem_of_mem ht;exact hok1 j hj hj e
  ·obtain⟨j,hj,rfl⟩:=List.getElem_of_mem hy;exact hok2 j hj hj e
theorem gA (x y:aG) (a b:ai) (w:World) (hx:aM w x a) (hy:aM w y b) (hf:dO a):
  CP 34 #[x.v,y.v] w fun e w'=>e= .returned (.bool (decide (a=b)))∧Below w.heap.size w w':=by
 obtain⟨f1,f2,f3,f4,f5⟩:=hf;refine az (zG x.ranked x.s1.a x.s1.n x.s1.c x.s2.a x.s2.n x.s2.c x.s3.a x.s3.n x.s3.c x.s4.a x.s4.n x.s4.c x.s5.a x.s5.n x.s5.c y.ranked y.s1.a y.s1.n y.s1.c y.s2.a y.s2.n y.s2.c y.s3.a y.s3.n y.s3.c y.s4.a y.s4.n y.s4.c y.s5.a y.s5.n y.s5.c w (fun v w'=>v= .bool (decide (a=b))∧Below w.heap.size w w') ?_) (by rintro v w' ⟨rfl,h⟩;exact⟨rfl,h⟩);intro w1 hw1 w2 hw2;have hb1:Below w.heap.size w w1:=by rw [hw1];exact ag _ _
 have hb2:Below w1.heap.size w1 w2:=by rw [hw2];exact ag _ _
 have hb:=ab hb1 hb2;have cx:∀ {w3:World} (j:Nat),Below w2.heap.size w2 w3→w3.cell? ((nb w).add j)=x.cells[j]? :=by
  intro w3 j h;have h13:=ab hb2 h;rw [hw1]at h13;rw [aA,Nat.zero_add,fG h13]
 have cy:∀ {w3:World} (j:Nat),Below w2.heap.size w2 w3→w3.cell? ((nb w1).add j)=y.cells[j]? :=by
  intro w3 j h;rw [hw2]at h;rw [aA,Nat.zero_add,fG h]
 have hsx:∀ {w3:World},Below w2.heap.size w2 w3→aM w3 x a:=fun h=>hx.on (ab hb h);have hsy:∀ {w3:World},Below w2.heap.size w2 w3→aM w3 y b:=fun h=>hy.on (ab hb h);have off:∀ {w3:World},Below w2.heap.size w2 w3→a≠b→(Value.bool false= .bool (decide (a=b))∧Below w.heap.size w w3):=fun h e=>⟨by rw [decide_eq_false e],ab hb h⟩;have hB:=Below.refl w2.heap.size w2;refine⟨_,cx 0 hB,_,cy 0 hB,aa.mk (fun hc=>off hB ?_) (fun r0=>?_)⟩
 ·rintro rfl;rw [hx.ranked,hy.ranked]at hc;simp at hc
 refine⟨_,_,_,cx 1 hB,_,_,_,cy 1 hB,aa.mk (fun hc=>off hB ?_) (fun l1=>?_)⟩
 ·rintro rfl;rw [hx.n1,hy.n1]at hc;simp at hc
 refine⟨_,_,_,cx 2 hB,_,_,_,cy 2 hB,?_⟩;have q2:=se x.s2.a y.s2.a x.s2.c y.s2.c a.tokens b.tokens w2 (hsx hB).r2.str (hsy hB).r2.str f2;rw [←hx.n2, ←hy.n2]at q2;refine q2.mono ?_;rintro e w3 ⟨rfl,hB3⟩;refine⟨_,rfl,aa.mk (fun hc=>off hB3 ?_) (fun ht=>?_)⟩
 ·rintro rfl;simp at hc
 have ht:a.tokens=b.tokens:=by simpa using ht
 refine⟨_,_,_,cx 3 hB3,_,_,_,cy 3 hB3,aa.mk (fun hc=>off hB3 ?_) (fun l3=>?_)⟩
 ·rintro rfl;rw [hx.n3,hy.n3]at hc;simp at hc
 refine⟨_,_,_,cx 4 hB3,_,_,_,cy 4 hB3,aa.mk (fun hc=>off hB3 ?_) (fun l4=>?_)⟩
 ·rintro rfl;rw [hx.n4,hy.n4]at hc;simp at hc
 refine⟨_,_,_,cx 5 hB3,_,_,_,cy 5 hB3,aa.mk (fun hc=>off hB3 ?_) (fun l5=>?_)⟩
 ·rintro rfl;rw [hx.n5,hy.n5]at hc;simp at hc
 have r0:a.ranked=b.ranked:=by rw [hx.ranked,hy.ranked]at r0;simpa using r0
 have l1:a.merges.length=b.merges.length:=by rw [hx.n1,hy.n1]at l1;simp at l1;omega
 have l3:a.specials.length=b.specials.length:=by rw [hx.n3,hy.n3]at l3;simp at l3;omega
 have l4:a.classes.length=b.classes.length:=by rw [hx.n4,hy.n4]at l4;simp at l4;omega
 have l5:a.joins.length=b.joins.length:=by rw [hx.n5,hy.n5]at l5;simp at l5;omega
 intro I1 hI1;refine aK (α:=World) a.merges.length (fun i w'=>(∀j,j<i→∀(hj:j<a.merges.length) (hj':j<b.merges.length),a.merges[j]=b.merges[j])∧Below w2.heap.size w2 w') (fun i w'=>I1 [.int .i64 (i:Int),.bool false] w') w3 ⟨by simp,hB3⟩ ?_ ?_
 ·rintro i hi ih w4 ⟨hok,hB4⟩;refine hI1 _ _ _ ⟨_,_,_,cx 1 hB4,aa.yes (by rw [hx.n1];simp;omega) ?_⟩;rintro w5 rfl;have hB5:=hB4.drew;have hi':i<b.merges.length:=by omega
  obtain⟨p,hpa,_,hc⟩:=(hsx hB5).r1 i _ (List.getElem?_eq_getElem hi);obtain⟨q,hqa,_,hd⟩:=(hsy hB5).r1 i _ (List.getElem?_eq_getElem hi');refine⟨_,_,_,cx 1 hB5,ae.mk p hpa ⟨by omega,by rw [hx.n1];omega,a.merges[i].1,a.merges[i].2,⟨by have:=hc 0 _ rfl;rwa [an]at this,hc 1 _ rfl,trivial⟩,?_⟩⟩;refine⟨_,_,_,cy 1 hB5,ae.mk q hqa ⟨by omega,by rw [hy.n1];omega,b.merges[i].1,b.merges[i].2,⟨by have:=hd 0 _ rfl;rwa [an]at this,hd 1 _ rfl,trivial⟩,?_⟩⟩;refine aa.mk (fun hn=>off hB5 ?_) (fun hn=>Ar.ok64 (by omega) (by omega) (ih _ ⟨dv hok fun hj hj'=>?_,hB5⟩))
  ·rintro rfl;simp at hn
  ·simp at hn;exact Prod.ext hn.1 hn.2
 rintro w4 ⟨hok1,hB41⟩;refine hI1 _ _ _ ⟨_,_,_,cx 1 hB41,aa.no (by rw [hx.n1];simp) ?_⟩;intro I3 hI3;refine aK (α:=World) a.specials.length (fun i w'=>(∀j,j<i→∀(hj:j<a.specials.length) (hj':j<b.specials.length),a.specials[j]=b.specials[j])∧Below w2.heap.size w2 w') (fun i w'=>I3 [.int .i64 (i:Int),.bool false] w') w4 ⟨by simp,hB41⟩ ?_ ?_
 ·rintro i hi ih w4 ⟨hok,hB4⟩;refine hI3 _ _ _ ⟨_,_,_,cx 3 hB4,aa.yes (by rw [hx.n3];simp;omega) ?_⟩;rintro w5 rfl;have hB5:=hB4.drew;have hi':i<b.specials.length:=by omega
  obtain⟨p,hpa,_,hc⟩:=(hsx hB5).r3 i _ (List.getElem?_eq_getElem hi);obtain⟨q,hqa,_,hd⟩:=(hsy hB5).r3 i _ (List.getElem?_eq_getElem hi');refine⟨_,_,_,cx 3 hB5,ae.mk p hpa ⟨by omega,by rw [hx.n3];omega,a.specials[i].1,str a.specials[i].2,⟨by have:=hc 0 _ rfl;rwa [an]at this,hc 1 _ rfl,trivial⟩,?_⟩⟩;refine⟨_,_,_,cy 3 hB5,ae.mk q hqa ⟨by omega,by rw [hy.n3];omega,b.specials[i].1,str b.specials[i].2,⟨by have:=hd 0 _ rfl;rwa [an]at this,hd 1 _ rfl,trivial⟩,?_⟩⟩;rw [bP];refine aa.mk (fun hn=>off hB5 ?_) (fun hn=>Ar.ok64 (by omega) (by omega) (ih _ ⟨dv hok fun hj hj'=>?_,hB5⟩))
  ·rintro rfl;simp at hn
  ·simp at hn;exact Prod.ext hn.1 hn.2
 rintro w4 ⟨hok3,hB43⟩;refine hI3 _ _ _ ⟨_,_,_,cx 3 hB43,aa.no (by rw [hx.n3];simp) ?_⟩;intro I4 hI4;refine aK (α:=World) a.classes.length (fun i w'=>(∀j,j<i→∀(hj:j<a.classes.length) (hj':j<b.classes.length),a.classes[j]=b.classes[j])∧Below w2.heap.size w2 w') (fun i w'=>I4 [.int .i64 (i:Int),.bool false] w') w4 ⟨by simp,hB43⟩ ?_ ?_
 ·rintro i hi ih w4 ⟨hok,hB4⟩;refine hI4 _ _ _ ⟨_,_,_,cx 4 hB4,aa.yes (by rw [hx.n4];simp;omega) ?_⟩;rintro w5 rfl;have hB5:=hB4.drew;have hi':i<b.classes.length:=by omega
  obtain⟨p,hpa,_,hc⟩:=(hsx hB5).r4 i _ (List.getElem?_eq_getElem hi);obtain⟨q,hqa,_,hd⟩:=(hsy hB5).r4 i _ (List.getElem?_eq_getElem hi');refine⟨_,_,_,cx 4 hB5,ae.mk p hpa ⟨by omega,by rw [hx.n4];omega,a.classes[i].1,a.classes[i].2.1,a.classes[i].2.2,⟨by have:=hc 0 _ rfl;rwa [an]at this,hc 1 _ rfl,hc 2 _ rfl,trivial⟩,?_⟩⟩;refine⟨_,_,_,cy 4 hB5,ae.mk q hqa ⟨by omega,by rw [hy.n4];omega,b.classes[i].1,b.classes[i].2.1,b.classes[i].2.2,⟨by have:=hd 0 _ rfl;rwa [an]at this,hd 1 _ rfl,hd 2 _ rfl,trivial⟩,?_⟩⟩;refine aa.mk (fun hn=>off hB5 ?_) (fun hn=>Ar.ok64 (by omega) (by omega) (ih _ ⟨dv hok fun hj hj'=>?_,hB5⟩))
  ·rintro rfl;simp at hn
  ·simp at hn;exact Prod.ext hn.1 (Prod.ext hn.2.1 hn.2.2)
 rintro w4 ⟨hok4,hB44⟩;refine hI4 _ _ _ ⟨_,_,_,cx 4 hB44,aa.no (by rw [hx.n4];simp) ?_⟩;intro I5 hI5;refine aK (α:=World) a.joins.length (fun i w'=>(∀j,j<i→∀(hj:j<a.joins.length) (hj':j<b.joins.length),a.joins[j]=b.joins[j])∧Below w2.heap.size w2 w') (fun i w'=>I5 [.int .i64 (i:Int),.bool false] w') w4 ⟨by simp,hB44⟩ ?_ ?_
 ·rintro i hi ih w4 ⟨hok,hB4⟩;refine hI5 _ _ _ ⟨_,_,_,cx 5 hB4,aa.yes (by rw [hx.n5];simp;omega) ?_⟩;rintro w5 rfl;have hB5:=hB4.drew;have hi':i<b.joins.length:=by omega
  obtain⟨p,hpa,_,hc⟩:=(hsx hB5).r5 i _ (List.getElem?_eq_getElem hi);obtain⟨q,hqa,_,hd⟩:=(hsy hB5).r5 i _ (List.getElem?_eq_getElem hi');refine⟨_,_,_,cx 5 hB5,ae.mk p hpa ⟨by omega,by rw [hx.n5];omega,a.joins[i].1,a.joins[i].2,⟨by have:=hc 0 _ rfl;rwa [an]at this,hc 1 _ rfl,trivial⟩,?_⟩⟩;refine⟨_,_,_,cy 5 hB5,ae.mk q hqa ⟨by omega,by rw [hy.n5];omega,b.joins[i].1,b.joins[i].2,⟨by have:=hd 0 _ rfl;rwa [an]at this,hd 1 _ rfl,trivial⟩,?_⟩⟩;refine aa.mk (fun hn=>off hB5 ?_) (fun hn=>Ar.ok64 (by omega) (by omega) (ih _ ⟨dv hok fun hj hj'=>?_,hB5⟩))
  ·rintro rfl;simp at hn
  ·simp at hn;exact Prod.ext hn.1 hn.2
 rintro w4 ⟨hok5,hB45⟩;refine hI5 _ _ _ ⟨_,_,_,cx 5 hB45,aa.no (by rw [hx.n5];simp) ?_⟩;refine⟨?_,ab hb hB45⟩;rw [decide_eq_true];cases a;cases b;dsimp only at*;rw [r0,jb l1 hok1,ht,jb l3 hok3,jb l4 hok4,jb l5 hok5]
theorem gO (x y:ByteArray) (hx:x.size≤3000000) (hy:y.size≤3000000):((x.size+y.size:Nat):Int)≤IntKind.i64.max:=by
 show _≤(9223372036854775807:Int);omega
theorem Ls (w a:Bs):str (w++ [32])++str a=str (bI [w,a]):=by
 rw [bL,bU,d_,List.append_assoc];rfl
theorem HX (w a b:Bs):((str (w++ [32])++str a)++str [32])++str b=str (bI [w,a,b]):=by
 rw [bL,bL,bL,bU,bU,d_];simp
theorem K6 (w a b c:Bs):((((str (w++ [32])++str a)++str [32])++str b)++str [32])++str c=str (bI [w,a,b,c]):=by
 rw [bL,bL,bL,bL,bL,bU,bU,bU,d_];simp
theorem fm {w:World} {B n:Nat} {v:Value} {α:Type} {pre:List Bs} {l:List α} {f:α→Bs} (h:w.ownsRow B bE 1 v n (cw (pre++(l.take l.length).map f))):w.ownsRow B bE 1 v n (cw ((pre++l.map f)++ [])):=by
 rw [List.take_length]at h;rw [List.append_nil];exact h
theorem lp (x:aG) (s:ai) (w:World) (h:aM w x s) (hf:i_ s):
  CP 95 #[x.v] w fun e w'=>∃a c,e= .returned (.slice a s.lines.length c)∧bv w' a s.lines∧Below w.heap.size w w':=by
 refine az (yW x.ranked x.s1.a x.s1.n x.s1.c x.s2.a x.s2.n x.s2.c x.s3.a x.s3.n x.s3.c x.s4.a x.s4.n x.s4.c x.s5.a x.s5.n x.s5.c w (fun v w'=>∃a c,v= .slice a s.lines.length c∧bv w' a s.lines∧Below w.heap.size w w') ?_) (by rintro v w' ⟨a,c,rfl,h⟩;exact⟨a,c,rfl,h⟩);obtain⟨l1,l2,l3,l4,l5,m1,m2,m3,m4,m5⟩:=hf;intro w1 hw1;have hb1:Below w.heap.size w w1:=by rw [hw1];exact ag _ _
 have c1:∀ {w3:World} (j:Nat),Below w1.heap.size w1 w3→w3.cell? ((nb w).add j)=x.cells[j]? :=by
  intro w3 j hB;rw [hw1]at hB;rw [aA,Nat.zero_add,fG hB]
 have hs:∀ {w3:World},Below w1.heap.size w1 w3→aM w3 x s:=fun hB=>h.on (ab hb1 hB);intro w2 hw2;have hb2:Below w1.heap.size w1 w2:=by rw [hw2];exact ag _ _
 intro J hJ;have one:∀(u:Bs) (w0 w3:World),Below w1.heap.size w1 w0→w3=w0.alloc (.cells #[.string (str u)] bE)→w3.ownsRow w1.heap.size bE 1 (.slice (some (nb w0)) 1 1) 1 (cw [u]):=by
  rintro u w0 w3 hB rfl;exact⟨rfl,.inr ⟨w0.heap.size,1,_,rfl,hB.size,ao w0 _,Nat.le_refl _,by decide,rfl,rfl⟩⟩
 have tail:∀(a:Option Addr) (n c:Nat) (w3:World),w3.ownsRow w1.heap.size bE 1 (.slice a n c) n (cw ([dl s.ranked]++ []))→Below w1.heap.size w1 w3→J [.slice a n c] w3:=by
  intro a0 n0 c0 w3 hown0 hB0;refine hJ _ _ _ _ ?_;intro I1 hI1;refine aK (α:=Option Addr×Nat×Nat×World) s.merges.length (fun i y=>y.2.2.2.ownsRow w1.heap.size bE 1 (.slice y.1 y.2.1 y.2.2.1) y.2.1 (cw ([dl s.ranked]++(s.merges.take i).map cR))∧Below w1.heap.size w1 y.2.2.2) (fun i y=>I1 [.int .i64 (i:Int),.slice y.1 y.2.1 y.2.2.1] y.2.2.2) (a0,n0,c0,w3) ⟨hown0,hB0⟩ ?_ ?_
  ·rintro i hi ih ⟨oA,oN,oC,w4⟩ ⟨hown,hB⟩;dsimp only at hown hB;have hok:=m1 _ (List.getElem_mem hi);have hi?:=List.getElem?_eq_getElem hi;refine hI1 _ _ _ _ _ ⟨_,_,_,c1 1 hB,aa.yes (by rw [h.n1];simp;omega) ?_⟩;rintro w5 rfl;have hb5:Below w4.heap.size w4 w4.drew:=(Below.refl _ _).drew;have hB5:=hB.trans (hb5.mono hB.size);obtain⟨p,hpa,_,_⟩:=(hs hB5).r1 i _ hi?;refine⟨_,_,_,c1 1 hB5,ae.mk p hpa ⟨by omega,by rw [h.n1];omega,s.merges[i].1,(hs hB5).r1.at hpa hi? 0 _ rfl,?_⟩⟩;refine⟨_,_,_,c1 1 hB5,ae.mk p hpa ⟨by omega,by rw [h.n1];omega,s.merges[i].2,(hs hB5).r1.at hpa hi? 1 _ rfl,?_⟩⟩;have hlit:(⟨#[109,101,114,103,101,32]⟩:ByteArray).size=6:=rfl;have hsp:(⟨#[32]⟩:ByteArray).size=1:=rfl;have hlen0:=aW s.merges[i].1 hok.1;have hlen1:=aW s.merges[i].2 hok.2;refine(cA s.merges[i].1 _ hok.1).mono ?_;rintro e w6 ⟨rfl,h6⟩;have hb6:=ab hb5 h6;have hB6:=hB.trans (hb6.mono hB.size);refine⟨_,rfl,⟨(hs hB6).r1.at hpa hi? 1 _ rfl,trivial⟩,⟨c1 1 hB6,trivial⟩,gO _ _ (by simp only [ByteArray.size_append,aj,hlit,hsp];omega) (by simp only [ByteArray.size_append,aj,hlit,hsp];omega),gO _ _ (by simp only [ByteArray.size_append,aj,hlit,hsp];omega) (by simp only [ByteArray.size_append,aj,hlit,hsp];omega),?_⟩;refine(cA s.merges[i].2 _ hok.2).mono ?_;rintro e w7 ⟨rfl,h7⟩;have hb7:=ab hb6 h7;have hB7:=hB.trans (hb7.mono hB.size);refine⟨_,rfl,gO _ _ (by simp only [ByteArray.size_append,aj,hlit,hsp];omega) (by simp only [ByteArray.size_append,aj,hlit,hsp];omega),?_⟩;have hcat:=HX wMerge (Lib.itoa s.merges[i].1) (Lib.itoa s.merges[i].2);intro w20 hw20;have hw20:w20=w7.alloc (.cells #[.string (str (cR s.merges[i]))] bE):=by rw [hw20];exact congrArg (fun z=>w7.alloc (.cells #[Value.string z] bE)) hcat
   subst hw20;have hn:=(bv.of_own hown).2.1;simp only [List.length_append,List.length_map,List.length_take,List.length_cons,List.length_nil]at hn;obtain⟨a',c',w21,hr,hown',hbel⟩:=fV (aL hown hb7) (cR s.merges[i]) (by simp only [List.length_append,List.length_map,List.length_take,List.length_cons,List.length_nil];omega) hB7.size;refine⟨a',_,c',w21,hr,Ar.ok64 (by omega) (by omega) (ih (a',oN+1,c',w21) ⟨?_,hbel _ hB7⟩)⟩;rw [gD cR _ _ hi, ←List.append_assoc];exact hown'
  rintro⟨ra1,rn1,rc1,w4⟩ ⟨hown1,hB10⟩;replace hown1:=fm hown1;dsimp only at hown1 hB10;refine hI1 _ _ _ _ _ ⟨_,_,_,c1 1 hB10,aa.no (by rw [h.n1];simp) ?_⟩;intro I2 hI2;refine aK (α:=Option Addr×Nat×Nat×World) s.tokens.length (fun i y=>y.2.2.2.ownsRow w1.heap.size bE 1 (.slice y.1 y.2.1 y.2.2.1) y.2.1 (cw (([dl s.ranked]++s.merges.map cR)++(s.tokens.take i).map dh))∧Below w1.heap.size w1 y.2.2.2) (fun i y=>I2 [.int .i64 (i:Int),.slice y.1 y.2.1 y.2.2.1] y.2.2.2) (ra1,rn1,rc1,w4) ⟨hown1,hB10⟩ ?_ ?_
  ·rintro i hi ih ⟨oA,oN,oC,w4⟩ ⟨hown,hB⟩;dsimp only at hown hB;have hok:=m2 _ (List.getElem_mem hi);have hi?:=List.getElem?_eq_getElem hi;refine hI2 _ _ _ _ _ ⟨_,_,_,c1 2 hB,aa.yes (by rw [h.n2];simp;omega) ?_⟩;have hb5:Below w4.heap.size w4 w4:=Below.refl _ _;have hB5:=hB.trans (hb5.mono hB.size);obtain⟨p,hpa,_,_⟩:=(hs hB5).r2 i _ hi?;refine⟨_,_,_,c1 2 hB5,ae.mk p hpa ⟨by omega,by rw [h.n2];omega,str s.tokens[i],by have:=(hs hB5).r2.at hpa hi? 0 _ rfl;rwa [an]at this,?_⟩⟩;have hlit:(⟨#[116,111,107,101,110,32]⟩:ByteArray).size=6:=rfl;have hsp:(⟨#[32]⟩:ByteArray).size=1:=rfl;have hlen0:=eP s.tokens[i];have hokl:=hok;refine(oM s.tokens[i] _ (by omega)).mono ?_;rintro e w6 ⟨rfl,h6⟩;have hb6:=ab hb5 h6;have hB6:=hB.trans (hb6.mono hB.size);refine⟨_,rfl,gO _ _ (by simp only [ByteArray.size_append,aj,hlit,hsp];omega) (by simp only [ByteArray.size_append,aj,hlit,hsp];omega),?_⟩;have hcat:=Ls wToken (gv s.tokens[i]);intro w20 hw20;have hw20:w20=w6.alloc (.cells #[.string (str (dh s.tokens[i]))] bE):=by rw [hw20];exact congrArg (fun z=>w6.alloc (.cells #[Value.string z] bE)) hcat
   subst hw20;have hn:=(bv.of_own hown).2.1;simp only [List.length_append,List.length_map,List.length_take,List.length_cons,List.length_nil]at hn;obtain⟨a',c',w21,hr,hown',hbel⟩:=fV (aL hown hb6) (dh s.tokens[i]) (by simp only [List.length_append,List.length_map,List.length_take,List.length_cons,List.length_nil];omega) hB6.size;refine⟨a',_,c',w21,hr,Ar.ok64 (by omega) (by omega) (ih (a',oN+1,c',w21) ⟨?_,hbel _ hB6⟩)⟩;rw [gD dh _ _ hi, ←List.append_assoc];exact hown'
  rintro⟨ra2,rn2,rc2,w4⟩ ⟨hown2,hB20⟩;replace hown2:=fm hown2;dsimp only at hown2 hB20;refine hI2 _ _ _ _ _ ⟨_,_,_,c1 2 hB20,aa.no (by rw [h.n2];simp) ?_⟩;intro I3 hI3;refine aK (α:=Option Addr×Nat×Nat×World) s.specials.length (fun i y=>y.2.2.2.ownsRow w1.heap.size bE 1 (.slice y.1 y.2.1 y.2.2.1) y.2.1 (cw ((([dl s.ranked]++s.merges.map cR)++s.tokens.map dh)++(s.specials.take i).map bO))∧Below w1.heap.size w1 y.2.2.2) (fun i y=>I3 [.int .i64 (i:Int),.slice y.1 y.2.1 y.2.2.1] y.2.2.2) (ra2,rn2,rc2,w4) ⟨hown2,hB20⟩ ?_ ?_
  ·rintro i hi ih ⟨oA,oN,oC,w4⟩ ⟨hown,hB⟩;dsimp only at hown hB;have hok:=m3 _ (List.getElem_mem hi);have hi?:=List.getElem?_eq_getElem hi;refine hI3 _ _ _ _ _ ⟨_,_,_,c1 3 hB,aa.yes (by rw [h.n3];simp;omega) ?_⟩;rintro w5 rfl;have hb5:Below w4.heap.size w4 w4.drew:=(Below.refl _ _).drew;have hB5:=hB.trans (hb5.mono hB.size);obtain⟨p,hpa,_,_⟩:=(hs hB5).r3 i _ hi?;refine⟨_,_,_,c1 3 hB5,ae.mk p hpa ⟨by omega,by rw [h.n3];omega,s.specials[i].1,(hs hB5).r3.at hpa hi? 0 _ rfl,?_⟩⟩;refine⟨_,_,_,c1 3 hB5,ae.mk p hpa ⟨by omega,by rw [h.n3];omega,str s.specials[i].2,(hs hB5).r3.at hpa hi? 1 _ rfl,?_⟩⟩;have hlit:(⟨#[115,112,101,99,105,97,108,32]⟩:ByteArray).size=8:=rfl;have hsp:(⟨#[32]⟩:ByteArray).size=1:=rfl;have hlen0:=aW s.specials[i].1 hok.1;have hlen1:=eP s.specials[i].2;have hokl:=hok.2;refine(cA s.specials[i].1 _ hok.1).mono ?_;rintro e w6 ⟨rfl,h6⟩;have hb6:=ab hb5 h6;have hB6:=hB.trans (hb6.mono hB.size);refine⟨_,rfl,⟨(hs hB6).r3.at hpa hi? 1 _ rfl,trivial⟩,⟨c1 3 hB6,trivial⟩,gO _ _ (by simp only [ByteArray.size_append,aj,hlit,hsp];omega) (by simp only [ByteArray.size_append,aj,hlit,hsp];omega),gO _ _ (by simp only [ByteArray.size_append,aj,hlit,hsp];omega) (by simp only [ByteArray.size_append,aj,hlit,hsp];omega),?_⟩;refine(oM s.specials[i].2 _ (by omega)).mono ?_;rintro e w7 ⟨rfl,h7⟩;have hb7:=ab hb6 h7;have hB7:=hB.trans (hb7.mono hB.size);refine⟨_,rfl,gO _ _ (by simp only [ByteArray.size_append,aj,hlit,hsp];omega) (by simp only [ByteArray.size_append,aj,hlit,hsp];omega),?_⟩;have hcat:=HX wSpecial (Lib.itoa s.specials[i].1) (gv s.specials[i].2);intro w20 hw20;have hw20:w20=w7.alloc (.cells #[.string (str (bO s.specials[i]))] bE):=by rw [hw20];exact congrArg (fun z=>w7.alloc (.cells #[Value.string z] bE)) hcat
   subst hw20;have hn:=(bv.of_own hown).2.1;simp only [List.length_append,List.length_map,List.length_take,List.length_cons,List.length_nil]at hn;obtain⟨a',c',w21,hr,hown',hbel⟩:=fV (aL hown hb7) (bO s.specials[i]) (by simp only [List.length_append,List.length_map,List.length_take,List.length_cons,List.length_nil];omega) hB7.size;refine⟨a',_,c',w21,hr,Ar.ok64 (by omega) (by omega) (ih (a',oN+1,c',w21) ⟨?_,hbel _ hB7⟩)⟩;rw [gD bO _ _ hi, ←List.append_assoc];exact hown'
  rintro⟨ra3,rn3,rc3,w4⟩ ⟨hown3,hB30⟩;replace hown3:=fm hown3;dsimp only at hown3 hB30;refine hI3 _ _ _ _ _ ⟨_,_,_,c1 3 hB30,aa.no (by rw [h.n3];simp) ?_⟩;intro I4 hI4;refine aK (α:=Option Addr×Nat×Nat×World) s.classes.length (fun i y=>y.2.2.2.ownsRow w1.heap.size bE 1 (.slice y.1 y.2.1 y.2.2.1) y.2.1 (cw (((([dl s.ranked]++s.merges.map cR)++s.tokens.map dh)++s.specials.map bO)++(s.classes.take i).map eC))∧Below w1.heap.size w1 y.2.2.2) (fun i y=>I4 [.int .i64 (i:Int),.slice y.1 y.2.1 y.2.2.1] y.2.2.2) (ra3,rn3,rc3,w4) ⟨hown3,hB30⟩ ?_ ?_
  ·rintro i hi ih ⟨oA,oN,oC,w4⟩ ⟨hown,hB⟩;dsimp only at hown hB;have hok:=m4 _ (List.getElem_mem hi);have hi?:=List.getElem?_eq_getElem hi;refine hI4 _ _ _ _ _ ⟨_,_,_,c1 4 hB,aa.yes (by rw [h.n4];simp;omega) ?_⟩;rintro w5 rfl;have hb5:Below w4.heap.size w4 w4.drew:=(Below.refl _ _).drew;have hB5:=hB.trans (hb5.mono hB.size);obtain⟨p,hpa,_,_⟩:=(hs hB5).r4 i _ hi?;refine⟨_,_,_,c1 4 hB5,ae.mk p hpa ⟨by omega,by rw [h.n4];omega,s.classes[i].1,(hs hB5).r4.at hpa hi? 0 _ rfl,?_⟩⟩;refine⟨_,_,_,c1 4 hB5,ae.mk p hpa ⟨by omega,by rw [h.n4];omega,s.classes[i].2.1,(hs hB5).r4.at hpa hi? 1 _ rfl,?_⟩⟩;refine⟨_,_,_,c1 4 hB5,ae.mk p hpa ⟨by omega,by rw [h.n4];omega,s.classes[i].2.2,(hs hB5).r4.at hpa hi? 2 _ rfl,?_⟩⟩;have hlit:(⟨#[99,108,97,115,115,32]⟩:ByteArray).size=6:=rfl;have hsp:(⟨#[32]⟩:ByteArray).size=1:=rfl;have hlen0:=aW s.classes[i].1 hok.1;have hlen1:=aW s.classes[i].2.1 hok.2.1;have hlen2:=aW s.classes[i].2.2 hok.2.2;refine(cA s.classes[i].1 _ hok.1).mono ?_;rintro e w6 ⟨rfl,h6⟩;have hb6:=ab hb5 h6;have hB6:=hB.trans (hb6.mono hB.size);refine⟨_,rfl,⟨(hs hB6).r4.at hpa hi? 2 _ rfl,trivial⟩,⟨c1 4 hB6,trivial⟩,⟨(hs hB6).r4.at hpa hi? 1 _ rfl,trivial⟩,⟨c1 4 hB6,trivial⟩,gO _ _ (by simp only [ByteArray.size_append,aj,hlit,hsp];omega) (by simp only [ByteArray.size_append,aj,hlit,hsp];omega),gO _ _ (by simp only [ByteArray.size_append,aj,hlit,hsp];omega) (by simp only [ByteArray.size_append,aj,hlit,hsp];omega),?_⟩;refine(cA s.classes[i].2.1 _ hok.2.1).mono ?_;rintro e w7 ⟨rfl,h7⟩;have hb7:=ab hb6 h7;have hB7:=hB.trans (hb7.mono hB.size);refine⟨_,rfl,⟨(hs hB7).r4.at hpa hi? 2 _ rfl,trivial⟩,⟨c1 4 hB7,trivial⟩,gO _ _ (by simp only [ByteArray.size_append,aj,hlit,hsp];omega) (by simp only [ByteArray.size_append,aj,hlit,hsp];omega),gO _ _ (by simp only [ByteArray.size_append,aj,hlit,hsp];omega) (by simp only [ByteArray.size_append,aj,hlit,hsp];omega),?_⟩;refine(cA s.classes[i].2.2 _ hok.2.2).mono ?_;rintro e w8 ⟨rfl,h8⟩;have hb8:=ab hb7 h8;have hB8:=hB.trans (hb8.mono hB.size);refine⟨_,rfl,gO _ _ (by simp only [ByteArray.size_append,aj,hlit,hsp];omega) (by simp only [ByteArray.size_append,aj,hlit,hsp];omega),?_⟩;have hcat:=K6 wClass (Lib.itoa s.classes[i].1) (Lib.itoa s.classes[i].2.1) (Lib.itoa s.classes[i].2.2);intro w20 hw20;have hw20:w20=w8.alloc (.cells #[.string (str (eC s.classes[i]))] bE):=by rw [hw20];exact congrArg (fun z=>w8.alloc (.cells #[Value.string z] bE)) hcat
   subst hw20;have hn:=(bv.of_own hown).2.1;simp only [List.length_append,List.length_map,List.length_take,List.length_cons,List.length_nil]at hn;obtain⟨a',c',w21,hr,hown',hbel⟩:=fV (aL hown hb8) (eC s.classes[i]) (by simp only [List.length_append,List.length_map,List.length_take,List.length_cons,List.length_nil];omega) hB8.size;refine⟨a',_,c',w21,hr,Ar.ok64 (by omega) (by omega) (ih (a',oN+1,c',w21) ⟨?_,hbel _ hB8⟩)⟩;rw [gD eC _ _ hi, ←List.append_assoc];exact hown'
  rintro⟨ra4,rn4,rc4,w4⟩ ⟨hown4,hB40⟩;replace hown4:=fm hown4;dsimp only at hown4 hB40;refine hI4 _ _ _ _ _ ⟨_,_,_,c1 4 hB40,aa.no (by rw [h.n4];simp) ?_⟩;intro I5 hI5;refine aK (α:=Option Addr×Nat×Nat×World) s.joins.length (fun i y=>y.2.2.2.ownsRow w1.heap.size bE 1 (.slice y.1 y.2.1 y.2.2.1) y.2.1 (cw ((((([dl s.ranked]++s.merges.map cR)++s.tokens.map dh)++s.specials.map bO)++s.classes.map eC)++(s.joins.take i).map hU))∧Below w1.heap.size w1 y.2.2.2) (fun i y=>I5 [.int .i64 (i:Int),.slice y.1 y.2.1 y.2.2.1] y.2.2.2) (ra4,rn4,rc4,w4) ⟨hown4,hB40⟩ ?_ ?_
  ·rintro i hi ih ⟨oA,oN,oC,w4⟩ ⟨hown,hB⟩;dsimp only at hown hB;have hok:=m5 _ (List.getElem_mem hi);have hi?:=List.getElem?_eq_getElem hi;refine hI5 _ _ _ _ _ ⟨_,_,_,c1 5 hB,aa.yes (by rw [h.n5];simp;omega) ?_⟩;rintro w5 rfl;have hb5:Below w4.heap.size w4 w4.drew:=(Below.refl _ _).drew;have hB5:=hB.trans (hb5.mono hB.size);obtain⟨p,hpa,_,_⟩:=(hs hB5).r5 i _ hi?;refine⟨_,_,_,c1 5 hB5,ae.mk p hpa ⟨by omega,by rw [h.n5];omega,s.joins[i].1,(hs hB5).r5.at hpa hi? 0 _ rfl,?_⟩⟩;refine⟨_,_,_,c1 5 hB5,ae.mk p hpa ⟨by omega,by rw [h.n5];omega,s.joins[i].2,(hs hB5).r5.at hpa hi? 1 _ rfl,?_⟩⟩;have hlit:(⟨#[106,111,105,110,32]⟩:ByteArray).size=5:=rfl;have hsp:(⟨#[32]⟩:ByteArray).size=1:=rfl;have hlen0:=aW s.joins[i].1 hok.1;have hlen1:=aW s.joins[i].2 hok.2;refine(cA s.joins[i].1 _ hok.1).mono ?_;rintro e w6 ⟨rfl,h6⟩;have hb6:=ab hb5 h6;have hB6:=hB.trans (hb6.mono hB.size);refine⟨_,rfl,⟨(hs hB6).r5.at hpa hi? 1 _ rfl,trivial⟩,⟨c1 5 hB6,trivial⟩,gO _ _ (by simp only [ByteArray.size_append,aj,hlit,hsp];omega) (by simp only [ByteArray.size_append,aj,hlit,hsp];omega),gO _ _ (by simp only [ByteArray.size_append,aj,hlit,hsp];omega) (by simp only [ByteArray.size_append,aj,hlit,hsp];omega),?_⟩;refine(cA s.joins[i].2 _ hok.2).mono ?_;rintro e w7 ⟨rfl,h7⟩;have hb7:=ab hb6 h7;have hB7:=hB.trans (hb7.mono hB.size);refine⟨_,rfl,gO _ _ (by simp only [ByteArray.size_append,aj,hlit,hsp];omega) (by simp only [ByteArray.size_append,aj,hlit,hsp];omega),?_⟩;have hcat:=HX wJoin (Lib.itoa s.joins[i].1) (Lib.itoa s.joins[i].2);intro w20 hw20;have hw20:w20=w7.alloc (.cells #[.string (str (hU s.joins[i]))] bE):=by rw [hw20];exact congrArg (fun z=>w7.alloc (.cells #[Value.string z] bE)) hcat
   subst hw20;have hn:=(bv.of_own hown).2.1;simp only [List.length_append,List.length_map,List.length_take,List.length_cons,List.length_nil]at hn;obtain⟨a',c',w21,hr,hown',hbel⟩:=fV (aL hown hb7) (hU s.joins[i]) (by simp only [List.length_append,List.length_map,List.length_take,List.length_cons,List.length_nil];omega) hB7.size;refine⟨a',_,c',w21,hr,Ar.ok64 (by omega) (by omega) (ih (a',oN+1,c',w21) ⟨?_,hbel _ hB7⟩)⟩;rw [gD hU _ _ hi, ←List.append_assoc];exact hown'
  rintro⟨ra5,rn5,rc5,w4⟩ ⟨hown5,hB50⟩;replace hown5:=fm hown5;dsimp only at hown5 hB50;refine hI5 _ _ _ _ _ ⟨_,_,_,c1 5 hB50,aa.no (by rw [h.n5];simp) ?_⟩;have hlines:((((([dl s.ranked]++s.merges.map cR)++s.tokens.map dh)++s.specials.map bO)++s.classes.map eC)++s.joins.map hU)++ []=s.lines:=by
   simp [ai.lines,ai.tail]
  rw [hlines]at hown5;obtain⟨g1,g2,_⟩:=bv.of_own hown5;exact⟨ra5,rc5,by rw [g2],g1,ab hb1 hB50⟩
 refine⟨_,c1 0 hb2,aa.mk ?_ ?_⟩
 ·intro hk;have hk:s.ranked=true:=by rw [←h.ranked];exact hk
  intro w33 hw33;have e:dl s.ranked= [118,111,99,97,98,32,114,97,110,107,115]:=by rw [hk];rfl
  refine tail _ _ _ _ ?_ (hb2.trans (by rw [hw33];exact(ag w2 _).mono hb2.size));rw [e];exact one _ w2 w33 hb2 hw33
 ·intro hk;have hk:s.ranked=false:=by rw [←h.ranked];exact hk
  have e:dl s.ranked= [118,111,99,97,98,32,109,101,114,103,101,115]:=by rw [hk];rfl
  refine tail _ _ _ _ ?_ hb2;rw [e];exact one _ w1 w2 (Below.refl _ _) hw2
theorem fS (x:aG) (s:ai) (w:World) (h:aM w x s) (hf:i_ s) (hsm:∀l∈s.lines,l.length≤10000):
  CP 39 #[x.v] w fun e w'=>e= .returned (.string (str s.text))∧Below w.heap.size w w':=by
 refine az (zn x.ranked x.s1.a x.s1.n x.s1.c x.s2.a x.s2.n x.s2.c x.s3.a x.s3.n x.s3.c x.s4.a x.s4.n x.s4.c x.s5.a x.s5.n x.s5.c w (fun v w'=>v= .string (str s.text)∧Below w.heap.size w w') ?_) (by rintro v w' ⟨rfl,h⟩;exact⟨rfl,h⟩);intro w1 hw1;have hb1:Below w.heap.size w w1:=by rw [hw1];exact ag _ _
 have c1:∀ {w3:World} (j:Nat),Below w1.heap.size w1 w3→w3.cell? ((nb w).add j)=x.cells[j]? :=by
  intro w3 j hB;rw [hw1]at hB;rw [aA,Nat.zero_add,fG hB]
 have hrefl:=Below.refl w1.heap.size w1;refine⟨x.ranked,_,_,_,_,_,_,_,_,_,_,_,_,_,_,_,⟨(by have:=c1 0 hrefl;rw [an]at this;exact this),c1 1 hrefl,c1 2 hrefl,c1 3 hrefl,c1 4 hrefl,c1 5 hrefl,trivial⟩,?_⟩;refine(lp x s w1 (h.on hb1) hf).mono ?_;rintro e w2 ⟨a,c,rfl,hrow,h2⟩;have hb2:=ab hb1 h2;refine⟨_,_,_,rfl,?_⟩;intro w3 hw3 I hI;have hb3:Below w2.heap.size w2 w3:=by rw [hw3];exact ag _ _
 have hcnt:s.lines.length≤60000:=by
  obtain⟨l1,l2,l3,l4,l5,_⟩:=hf;simp only [ai.lines,ai.tail,List.length_cons,List.length_append,List.length_map];omega
 have hlen:∀i,(cU (s.lines.take i)).length≤700000000:=by
  intro i;have:=si (s.lines.take i) (fun l hl=>hsm l (List.mem_of_mem_take hl));have h2:(s.lines.take i).length≤60000:=by rw [List.length_take];omega
  omega
 refine aK (α:=Option Addr×Nat×Nat×World) s.lines.length (fun i y=>y.2.2.2.ownsRow w2.heap.size uO 1 (.slice y.1 y.2.1 y.2.2.1) y.2.1 (Lib.byteCells (cU (s.lines.take i)))∧Below w2.heap.size w2 y.2.2.2) (fun i y=>I [.int .i64 (i:Int),.slice y.1 y.2.1 y.2.2.1] y.2.2.2) (some (nb w2),0,0,w3) ⟨?_,hb3⟩ ?_ ?_
 ·exact⟨rfl,.inr ⟨w2.heap.size,0,_,rfl,Nat.le_refl _,by rw [hw3];exact ao w2 _,Nat.le_refl _,by decide,rfl,rfl⟩⟩
 ·rintro i hi ih ⟨oA,oN,oC,w4⟩ ⟨hown,hB⟩;dsimp only at hown hB;refine hI _ _ _ _ _ (aa.yes (by simp;omega) ?_);obtain⟨p,hpa,_,hcp⟩:=(hrow.on hB) i _ (List.getElem?_eq_getElem hi);refine ae.mk p hpa ⟨by omega,by omega,str s.lines[i],by simpa using hcp,?_⟩;obtain⟨k,hi',hz,hs,hby⟩:=info_parts qW;have hn:=hown.1;rw [Lib.byteCells_length,Nat.mul_one]at hn;have hl0:=hlen i;have hl1:=hlen (i+1);have hll:=hsm _ (List.getElem_mem hi);have hstep:cU (s.lines.take (i+1))=cU (s.lines.take i)++(s.lines[i]++ [10]):=by
   rw [List.take_add_one,List.getElem?_eq_getElem hi];exact va _ _
  obtain⟨v',w5,hr,hown5,hg,_⟩:=Lib.run_append_own_string (P:=Tryz.prog) w4 w2.heap.size gP bE gP uO k eE iW hi' hz hs hby _ _ _ hown (str s.lines[i]) (by rw [aj];simp [maxLen];omega) (by rw [aj];omega) hB.size;obtain⟨a',c',rfl,_⟩:=iG hown5;have hB5:Below w2.heap.size w2 w5:=hB.grown hg hB.size fun k hk=>(cn hown k hk).1;refine⟨a',_,c',w5,hr,?_⟩;intro w6 hw6;obtain⟨a2,c2,w7,hr2,hown7,hg7,_⟩:=eG (P:=Tryz.prog) gP uO eE qW rfl (by decide) hown5 [.int .u8 10] rfl (by intro u hu;simp at hu;subst hu;rfl) (by rw [aj];omega) (by rw [aj];omega) hB5.size;refine⟨a2,_,c2,w7,by rw [hw6];exact hr2,Ar.ok64 (by omega) (by omega) ?_⟩;refine ih (a2,_,c2,w7) ⟨?_,di hB5 hown5 hg7 hB5.size⟩;have e:Lib.byteCells (cU (s.lines.take i))++Lib.strCells (str s.lines[i])++ [.int .u8 10]=Lib.byteCells (cU (s.lines.take (i+1))):=by
   rw [hstep,Lib.strCells_toArray];simp [Lib.byteCells]
  rw [e]at hown7;exact hown7
 ·rintro⟨oA,oN,oC,w4⟩ ⟨hown,hB⟩;dsimp only at hown hB;refine hI _ _ _ _ _ (aa.no (by simp) ?_);rw [List.take_length]at hown;exact⟨_,w4,ig eE yF iW hown,rfl,ab hb2 hB⟩
theorem cg (x:aG):∀v∈x.cells,¬mu v:=by
 intro v hv hs;simp at hv;rcases hs with⟨k,n,rfl⟩ |⟨s,rfl⟩<;>simp at hv
theorem fY (l:List Bs) (i:Nat):jl (aP l i)∧aP l i≤cH∧ -1≤aP l i:=by
 unfold aP;split
 ·rename_i w hw;unfold dz;cases hp:dF w cH with
  |none=>simp [jl,cH]
  |some u=>
   have hu:(u:Int)≤cH:=by
    unfold dF at hp;split at hp
    ·rename_i hc;cases hp;exact hc.2.2
    ·cases hp
   show jl (u:Int)∧(u:Int)≤cH∧ -1≤(u:Int);unfold jl;simp only [cH]at*;omega
 ·simp [jl,cH]
theorem wQ {l r:Bs} (h:cB l=some r):r.length≤l.length:=by
 have:=iT l r h;rw [←this];unfold gv;split
 ·rename_i e;subst e;simp
 ·rw [dU];omega
theorem oU (l:List Bs) (i k:Nat) (h:∀w∈l,w.length≤k):(cV l i).length≤k:=by
 unfold cV;split
 ·rename_i w hw;have:=h w (List.mem_of_getElem? hw);cases hp:cB w with
  |none=>simp
  |some u=>
   have:=wQ hp;simp only [Option.getD_some];omega
 ·simp
theorem zd {s:ai} (h:s.right=true∨s= {}):i_ s∧s.merges.length≤1000∧s.tokens.length≤1000∧s.specials.length≤1000∧s.classes.length≤1000∧s.joins.length≤1000:=by
 rcases h with h |rfl
 ·obtain⟨_,p1,p2,p3,p4,p5⟩:=aH h;have l1:=bx p1;have l2:=bx p2;have l3:=bx p3;have l4:=bx p4;have l5:=bx p5;refine⟨⟨by omega,by omega,by omega,by omega,by omega,?_,?_,?_,?_,?_⟩,by omega,by omega,by omega,by omega,by omega⟩
  ·intro m hm;have:=of_decide_eq_true (bw p1 hm);unfold jl;omega
  ·intro m hm;have:=of_decide_eq_true (bw p2 hm);omega
  ·intro m hm;have:=of_decide_eq_true (bw p3 hm);unfold jl;omega
  ·intro m hm;have:=of_decide_eq_true (bw p4 hm);unfold jl;omega
  ·intro m hm;have:=of_decide_eq_true (bw p5 hm);unfold jl;omega
 ·exact⟨⟨by simp,by simp,by simp,by simp,by simp,by simp,by simp,by simp,by simp,by simp⟩,by simp,by simp,by simp,by simp,by simp⟩
theorem yk {s:ai} {line:Bs} {l:List Bs} (h:l.head?=some dE):cS s line l= {s with ranked:=decide (line=dl true)}:=by
 unfold cS;rw [if_pos h]
theorem zK {s:ai} {line:Bs} {l:List Bs} (h:l.head?=some wMerge):cS s line l= {s with merges:=s.merges++ [(aP l 1,aP l 2)]}:=by
 unfold cS;rw [h];rw [if_neg (by decide)];rw [if_pos rfl]
theorem Ak {s:ai} {line:Bs} {l:List Bs} (h:l.head?=some wToken):cS s line l= {s with tokens:=s.tokens++ [cV l 1]}:=by
 unfold cS;rw [h];rw [if_neg (by decide)];rw [if_neg (by decide)];rw [if_pos rfl]
theorem tG {s:ai} {line:Bs} {l:List Bs} (h:l.head?=some wSpecial):cS s line l= {s with specials:=s.specials++ [(aP l 1,cV l 2)]}:=by
 unfold cS;rw [h];rw [if_neg (by decide)];rw [if_neg (by decide)];rw [if_neg (by decide)];rw [if_pos rfl]
theorem xJ {s:ai} {line:Bs} {l:List Bs} (h:l.head?=some wClass):cS s line l= {s with classes:=s.classes++ [(aP l 1,aP l 2,aP l 3)]}:=by
 unfold cS;rw [h];rw [if_neg (by decide)];rw [if_neg (by decide)];rw [if_neg (by decide)];rw [if_neg (by decide)];rw [if_pos rfl]
theorem A_ {s:ai} {line:Bs} {l:List Bs} (h:l.head?=some wJoin):cS s line l= {s with joins:=s.joins++ [(aP l 1,aP l 2)]}:=by
 unfold cS;rw [h];rw [if_neg (by decide)];rw [if_neg (by decide)];rw [if_neg (by decide)];rw [if_neg (by decide)];rw [if_neg (by decide)];rw [if_pos rfl]
theorem EP {s:ai} {line:Bs} {l:List Bs} (h0:l.head?≠some dE) (h1:l.head?≠some wMerge) (h2:l.head?≠some wToken) (h3:l.head?≠some wSpecial) (h4:l.head?≠some wClass) (h5:l.head?≠some wJoin):cS s line l=s:=by
 unfold cS;rw [if_neg h0,if_neg h1,if_neg h2,if_neg h3,if_neg h4,if_neg h5]
theorem ka {α:Type} {l:List α} {x m:α} (h:m∈l++ [x]):m∈l∨m=x:=by simpa using h
theorem zA {s:ai} (h:i_ s) (hn:s.merges.length≤1000) (l:List Bs) (hl:∀w∈l,w.length≤100000):i_ {s with merges:=s.merges++ [(aP l 1,aP l 2)]}:=
 ⟨by simp only [List.length_append,List.length_cons,List.length_nil];omega,h.l2,h.l3,h.l4,h.l5,fun m hm=>(ka hm).elim (h.m1 m) (fun e=>by subst e;exact⟨(fY l 1).1,(fY l 2).1⟩),h.m2,h.m3,h.m4,h.m5⟩
theorem za {s:ai} (h:i_ s) (hn:s.tokens.length≤1000) (l:List Bs) (hl:∀w∈l,w.length≤100000):i_ {s with tokens:=s.tokens++ [cV l 1]}:=
 ⟨h.l1,by simp only [List.length_append,List.length_cons,List.length_nil];omega,h.l3,h.l4,h.l5,h.m1,fun m hm=>(ka hm).elim (h.m2 m) (fun e=>by subst e;exact oU l 1 _ hl),h.m3,h.m4,h.m5⟩
theorem uD {s:ai} (h:i_ s) (hn:s.specials.length≤1000) (l:List Bs) (hl:∀w∈l,w.length≤100000):i_ {s with specials:=s.specials++ [(aP l 1,cV l 2)]}:=
 ⟨h.l1,h.l2,by simp only [List.length_append,List.length_cons,List.length_nil];omega,h.l4,h.l5,h.m1,h.m2,fun m hm=>(ka hm).elim (h.m3 m) (fun e=>by subst e;exact⟨(fY l 1).1,oU l 2 _ hl⟩),h.m4,h.m5⟩
theorem uV {s:ai} (h:i_ s) (hn:s.classes.length≤1000) (l:List Bs) (hl:∀w∈l,w.length≤100000):i_ {s with classes:=s.classes++ [(aP l 1,aP l 2,aP l 3)]}:=
 ⟨h.l1,h.l2,h.l3,by simp only [List.length_append,List.length_cons,List.length_nil];omega,h.l5,h.m1,h.m2,h.m3,fun m hm=>(ka hm).elim (h.m4 m) (fun e=>by subst e;exact⟨(fY l 1).1,(fY l 2).1,(fY l 3).1⟩),h.m5⟩
theorem Bz {s:ai} (h:i_ s) (hn:s.joins.length≤1000) (l:List Bs) (hl:∀w∈l,w.length≤100000):i_ {s with joins:=s.joins++ [(aP l 1,aP l 2)]}:=
 ⟨h.l1,h.l2,h.l3,h.l4,by simp only [List.length_append,List.length_cons,List.length_nil];omega,h.m1,h.m2,h.m3,h.m4,fun m hm=>(ka hm).elim (h.m5 m) (fun e=>by subst e;exact⟨(fY l 1).1,(fY l 2).1⟩)⟩
structure kq (Q:Nat) (w8 v:World) (y:aG) (s':ai):Prop where
 blk:v.heap[Q]? =some (.cells y.cells bd (0,0))
 held:aM v y s'
 ok:HI y
 fit:i_ s'
 keep:∀j,j<w8.heap.size→j≠Q→v.heap[j]? =w8.heap[j]?
 size:w8.heap.size≤v.heap.size
 below:∀B w0,B≤Q→Below B w0 w8→Below B w0 v
theorem uk {Q:Nat} {w8 w21:World} {x:aG} {s:ai} (hQ:w8.heap[Q]? =some (.cells x.cells bd (0,0))) (hA:aM w8 x s) (hx:HI x) (hn:s.merges.length≤1000) {A:Option Addr} {C:Nat}
  (hown:w21.ownsRow w8.heap.size lG 2 (.slice A x.s1.n C) x.s1.n (s.merges.flatMap aD)) (hB:Below w8.heap.size w8 w21) (m:Int×Int) (hf:i_ {s with merges:=s.merges++ [m]}):∀w22,w22=w21.alloc (.cells (aD m).toArray lG)→
  ∃A' N' C' w23,(Builtin.append_ #[33,33] 33 #[.slice A x.s1.n C,.slice (some (nb w21)) 1 1]).run Tryz.prog w22= .ok (.slice A' N' C') w23∧(∃u,w23.cell? ((⟨Q,0,none⟩:Addr).add 1)=some u)∧w23.frozen? ((⟨Q,0,none⟩:Addr).add 1)=false∧
   ∀w24,w24=w23.setCell ((⟨Q,0,none⟩:Addr).add 1) (.slice A' N' C')→∃y,kq Q w8 w24 y {s with merges:=s.merges++ [m]}:=by
 intro w22 hw22;have hN:=hA.n1;obtain⟨A',C',w23,hr,hown',hB',hA'⟩:=jR (enc:=aD) (sz:=2) (fun _=>rfl) (Nat.succ_pos _) (by intro x u hu;simp [aD]at hu;rcases hu with rfl |rfl<;>rfl) 33 lG lU nE rfl hown m hB.size (by omega) (by omega) w22 hw22
 have hB23:=hB' w8 hB;have hQl:Q<w8.heap.size:=(Array.getElem?_eq_some_iff.1 hQ).1;have hQ23:w23.heap[Q]? =some (.cells x.cells bd (0,0)):=by rw [hB23.block Q hQl];exact hQ
 refine⟨A',_,C',w23,hr,⟨_,(aE (j:=1) hQ23).trans rfl⟩,a_ hQ23,?_⟩;rintro w24 rfl;have hA23:=hA.on hB23;obtain⟨g1,g2⟩:=Rw.of_own (s:=⟨A',_,C'⟩) hown' (fun _=>rfl) (Nat.succ_pos _);have hAy:aM w23 {x with s1:=⟨A',x.s1.n+1,C'⟩} {s with merges:=s.merges++ [m]}:=⟨hA23.ranked,g2,g1,hA23.n2,hA23.r2,hA23.n3,hA23.r3,hA23.n4,hA23.r4,hA23.n5,hA23.r5⟩;have hset:∀j,j≠Q→(w23.setCell ((⟨Q,0,none⟩:Addr).add 1) (.slice A' (x.s1.n+1) C')).heap[j]? =w23.heap[j]? :=fun j hj=>ay (by rw [aq];exact hj);refine⟨{x with s1:=⟨A',x.s1.n+1,C'⟩},(bo (j:=1) hQ23 _).trans rfl,hAy.past hQ23 (cg x) (fun j _ hj=>hset j hj) (by rw [aO];exact Nat.le_refl _),⟨.inr hA',hx.k2,hx.k3,hx.k4,hx.k5⟩,hf,?_,?_,?_⟩
 ·intro j hj hne;rw [hset j hne,hB23.block j hj]
 ·rw [aO];exact hB23.size
 ·intro B w0 hBQ h0;exact bg (h0.trans (hB23.mono (by omega))) hBQ _
theorem tU {Q:Nat} {w8 w21:World} {x:aG} {s:ai} (hQ:w8.heap[Q]? =some (.cells x.cells bd (0,0))) (hA:aM w8 x s) (hx:HI x) (hn:s.tokens.length≤1000) {A:Option Addr} {C:Nat}
  (hown:w21.ownsRow w8.heap.size bE 1 (.slice A x.s2.n C) x.s2.n (s.tokens.flatMap be)) (hB:Below w8.heap.size w8 w21) (m:Bs) (hf:i_ {s with tokens:=s.tokens++ [m]}):∀w22,w22=w21.alloc (.cells (be m).toArray bE)→
  ∃A' N' C' w23,(Builtin.append_ #[da,da] da #[.slice A x.s2.n C,.slice (some (nb w21)) 1 1]).run Tryz.prog w22= .ok (.slice A' N' C') w23∧(∃u,w23.cell? ((⟨Q,0,none⟩:Addr).add 2)=some u)∧w23.frozen? ((⟨Q,0,none⟩:Addr).add 2)=false∧
   ∀w24,w24=w23.setCell ((⟨Q,0,none⟩:Addr).add 2) (.slice A' N' C')→∃y,kq Q w8 w24 y {s with tokens:=s.tokens++ [m]}:=by
 intro w22 hw22;have hN:=hA.n2;obtain⟨A',C',w23,hr,hown',hB',hA'⟩:=jR (enc:=be) (sz:=1) (fun _=>rfl) (Nat.succ_pos _) (by intro x u hu;simp [be]at hu;rcases hu with rfl;rfl) da bE fp fO rfl hown m hB.size (by omega) (by omega) w22 hw22;have hB23:=hB' w8 hB;have hQl:Q<w8.heap.size:=(Array.getElem?_eq_some_iff.1 hQ).1;have hQ23:w23.heap[Q]? =some (.cells x.cells bd (0,0)):=by rw [hB23.block Q hQl];exact hQ
 refine⟨A',_,C',w23,hr,⟨_,(aE (j:=2) hQ23).trans rfl⟩,a_ hQ23,?_⟩;rintro w24 rfl;have hA23:=hA.on hB23;obtain⟨g1,g2⟩:=Rw.of_own (s:=⟨A',_,C'⟩) hown' (fun _=>rfl) (Nat.succ_pos _);have hAy:aM w23 {x with s2:=⟨A',x.s2.n+1,C'⟩} {s with tokens:=s.tokens++ [m]}:=⟨hA23.ranked,hA23.n1,hA23.r1,g2,g1,hA23.n3,hA23.r3,hA23.n4,hA23.r4,hA23.n5,hA23.r5⟩;have hset:∀j,j≠Q→(w23.setCell ((⟨Q,0,none⟩:Addr).add 2) (.slice A' (x.s2.n+1) C')).heap[j]? =w23.heap[j]? :=fun j hj=>ay (by rw [aq];exact hj);refine⟨{x with s2:=⟨A',x.s2.n+1,C'⟩},(bo (j:=2) hQ23 _).trans rfl,hAy.past hQ23 (cg x) (fun j _ hj=>hset j hj) (by rw [aO];exact Nat.le_refl _),⟨hx.k1,.inr hA',hx.k3,hx.k4,hx.k5⟩,hf,?_,?_,?_⟩
 ·intro j hj hne;rw [hset j hne,hB23.block j hj]
 ·rw [aO];exact hB23.size
 ·intro B w0 hBQ h0;exact bg (h0.trans (hB23.mono (by omega))) hBQ _
theorem pP {Q:Nat} {w8 w21:World} {x:aG} {s:ai} (hQ:w8.heap[Q]? =some (.cells x.cells bd (0,0))) (hA:aM w8 x s) (hx:HI x) (hn:s.specials.length≤1000) {A:Option Addr} {C:Nat}
  (hown:w21.ownsRow w8.heap.size kU 2 (.slice A x.s3.n C) x.s3.n (s.specials.flatMap av)) (hB:Below w8.heap.size w8 w21) (m:Int×Bs) (hf:i_ {s with specials:=s.specials++ [m]}):∀w22,w22=w21.alloc (.cells (av m).toArray kU)→
  ∃A' N' C' w23,(Builtin.append_ #[25,25] 25 #[.slice A x.s3.n C,.slice (some (nb w21)) 1 1]).run Tryz.prog w22= .ok (.slice A' N' C') w23∧(∃u,w23.cell? ((⟨Q,0,none⟩:Addr).add 3)=some u)∧w23.frozen? ((⟨Q,0,none⟩:Addr).add 3)=false∧
   ∀w24,w24=w23.setCell ((⟨Q,0,none⟩:Addr).add 3) (.slice A' N' C')→∃y,kq Q w8 w24 y {s with specials:=s.specials++ [m]}:=by
 intro w22 hw22;have hN:=hA.n3;obtain⟨A',C',w23,hr,hown',hB',hA'⟩:=jR (enc:=av) (sz:=2) (fun _=>rfl) (Nat.succ_pos _) (by intro x u hu;simp [av]at hu;rcases hu with rfl |rfl<;>rfl) 25 kU jZ np rfl hown m hB.size (by omega) (by omega) w22 hw22
 have hB23:=hB' w8 hB;have hQl:Q<w8.heap.size:=(Array.getElem?_eq_some_iff.1 hQ).1;have hQ23:w23.heap[Q]? =some (.cells x.cells bd (0,0)):=by rw [hB23.block Q hQl];exact hQ
 refine⟨A',_,C',w23,hr,⟨_,(aE (j:=3) hQ23).trans rfl⟩,a_ hQ23,?_⟩;rintro w24 rfl;have hA23:=hA.on hB23;obtain⟨g1,g2⟩:=Rw.of_own (s:=⟨A',_,C'⟩) hown' (fun _=>rfl) (Nat.succ_pos _);have hAy:aM w23 {x with s3:=⟨A',x.s3.n+1,C'⟩} {s with specials:=s.specials++ [m]}:=⟨hA23.ranked,hA23.n1,hA23.r1,hA23.n2,hA23.r2,g2,g1,hA23.n4,hA23.r4,hA23.n5,hA23.r5⟩;have hset:∀j,j≠Q→(w23.setCell ((⟨Q,0,none⟩:Addr).add 3) (.slice A' (x.s3.n+1) C')).heap[j]? =w23.heap[j]? :=fun j hj=>ay (by rw [aq];exact hj);refine⟨{x with s3:=⟨A',x.s3.n+1,C'⟩},(bo (j:=3) hQ23 _).trans rfl,hAy.past hQ23 (cg x) (fun j _ hj=>hset j hj) (by rw [aO];exact Nat.le_refl _),⟨hx.k1,hx.k2,.inr hA',hx.k4,hx.k5⟩,hf,?_,?_,?_⟩
 ·intro j hj hne;rw [hset j hne,hB23.block j hj]
 ·rw [aO];exact hB23.size
 ·intro B w0 hBQ h0;exact bg (h0.trans (hB23.mono (by omega))) hBQ _
theorem rW {Q:Nat} {w8 w21:World} {x:aG} {s:ai} (hQ:w8.heap[Q]? =some (.cells x.cells bd (0,0))) (hA:aM w8 x s) (hx:HI x) (hn:s.classes.length≤1000) {A:Option Addr} {C:Nat}
  (hown:w21.ownsRow w8.heap.size wK 3 (.slice A x.s4.n C) x.s4.n (s.classes.flatMap aZ)) (hB:Below w8.heap.size w8 w21) (m:Int×Int×Int) (hf:i_ {s with classes:=s.classes++ [m]}):∀w22,w22=w21.alloc (.cells (aZ m).toArray wK)→
  ∃A' N' C' w23,(Builtin.append_ #[23,23] 23 #[.slice A x.s4.n C,.slice (some (nb w21)) 1 1]).run Tryz.prog w22= .ok (.slice A' N' C') w23∧(∃u,w23.cell? ((⟨Q,0,none⟩:Addr).add 4)=some u)∧w23.frozen? ((⟨Q,0,none⟩:Addr).add 4)=false∧
   ∀w24,w24=w23.setCell ((⟨Q,0,none⟩:Addr).add 4) (.slice A' N' C')→∃y,kq Q w8 w24 y {s with classes:=s.classes++ [m]}:=by
 intro w22 hw22;have hN:=hA.n4;obtain⟨A',C',w23,hr,hown',hB',hA'⟩:=jR (enc:=aZ) (sz:=3) (fun _=>rfl) (Nat.succ_pos _) (by intro x u hu;simp [aZ]at hu;rcases hu with rfl |rfl |rfl<;>rfl) 23 wK lL rf rfl hown m hB.size (by omega) (by omega) w22 hw22
 have hB23:=hB' w8 hB;have hQl:Q<w8.heap.size:=(Array.getElem?_eq_some_iff.1 hQ).1;have hQ23:w23.heap[Q]? =some (.cells x.cells bd (0,0)):=by rw [hB23.block Q hQl];exact hQ
 refine⟨A',_,C',w23,hr,⟨_,(aE (j:=4) hQ23).trans rfl⟩,a_ hQ23,?_⟩;rintro w24 rfl;have hA23:=hA.on hB23;obtain⟨g1,g2⟩:=Rw.of_own (s:=⟨A',_,C'⟩) hown' (fun _=>rfl) (Nat.succ_pos _);have hAy:aM w23 {x with s4:=⟨A',x.s4.n+1,C'⟩} {s with classes:=s.classes++ [m]}:=⟨hA23.ranked,hA23.n1,hA23.r1,hA23.n2,hA23.r2,hA23.n3,hA23.r3,g2,g1,hA23.n5,hA23.r5⟩;have hset:∀j,j≠Q→(w23.setCell ((⟨Q,0,none⟩:Addr).add 4) (.slice A' (x.s4.n+1) C')).heap[j]? =w23.heap[j]? :=fun j hj=>ay (by rw [aq];exact hj);refine⟨{x with s4:=⟨A',x.s4.n+1,C'⟩},(bo (j:=4) hQ23 _).trans rfl,hAy.past hQ23 (cg x) (fun j _ hj=>hset j hj) (by rw [aO];exact Nat.le_refl _),⟨hx.k1,hx.k2,hx.k3,.inr hA',hx.k5⟩,hf,?_,?_,?_⟩
 ·intro j hj hne;rw [hset j hne,hB23.block j hj]
 ·rw [aO];exact hB23.size
 ·intro B w0 hBQ h0;exact bg (h0.trans (hB23.mono (by omega))) hBQ _
theorem vi {Q:Nat} {w8 w21:World} {x:aG} {s:ai} (hQ:w8.heap[Q]? =some (.cells x.cells bd (0,0))) (hA:aM w8 x s) (hx:HI x) (hn:s.joins.length≤1000) {A:Option Addr} {C:Nat}
  (hown:w21.ownsRow w8.heap.size AN 2 (.slice A x.s5.n C) x.s5.n (s.joins.flatMap aD)) (hB:Below w8.heap.size w8 w21) (m:Int×Int) (hf:i_ {s with joins:=s.joins++ [m]}):∀w22,w22=w21.alloc (.cells (aD m).toArray AN)→
  ∃A' N' C' w23,(Builtin.append_ #[24,24] 24 #[.slice A x.s5.n C,.slice (some (nb w21)) 1 1]).run Tryz.prog w22= .ok (.slice A' N' C') w23∧(∃u,w23.cell? ((⟨Q,0,none⟩:Addr).add 5)=some u)∧w23.frozen? ((⟨Q,0,none⟩:Addr).add 5)=false∧
   ∀w24,w24=w23.setCell ((⟨Q,0,none⟩:Addr).add 5) (.slice A' N' C')→∃y,kq Q w8 w24 y {s with joins:=s.joins++ [m]}:=by
 intro w22 hw22;have hN:=hA.n5;obtain⟨A',C',w23,hr,hown',hB',hA'⟩:=jR (enc:=aD) (sz:=2) (fun _=>rfl) (Nat.succ_pos _) (by intro x u hu;simp [aD]at hu;rcases hu with rfl |rfl<;>rfl) 24 AN lF qU rfl hown m hB.size (by omega) (by omega) w22 hw22
 have hB23:=hB' w8 hB;have hQl:Q<w8.heap.size:=(Array.getElem?_eq_some_iff.1 hQ).1;have hQ23:w23.heap[Q]? =some (.cells x.cells bd (0,0)):=by rw [hB23.block Q hQl];exact hQ
 refine⟨A',_,C',w23,hr,⟨_,(aE (j:=5) hQ23).trans rfl⟩,a_ hQ23,?_⟩;rintro w24 rfl;have hA23:=hA.on hB23;obtain⟨g1,g2⟩:=Rw.of_own (s:=⟨A',_,C'⟩) hown' (fun _=>rfl) (Nat.succ_pos _);have hAy:aM w23 {x with s5:=⟨A',x.s5.n+1,C'⟩} {s with joins:=s.joins++ [m]}:=⟨hA23.ranked,hA23.n1,hA23.r1,hA23.n2,hA23.r2,hA23.n3,hA23.r3,hA23.n4,hA23.r4,g2,g1⟩;have hset:∀j,j≠Q→(w23.setCell ((⟨Q,0,none⟩:Addr).add 5) (.slice A' (x.s5.n+1) C')).heap[j]? =w23.heap[j]? :=fun j hj=>ay (by rw [aq];exact hj);refine⟨{x with s5:=⟨A',x.s5.n+1,C'⟩},(bo (j:=5) hQ23 _).trans rfl,hAy.past hQ23 (cg x) (fun j _ hj=>hset j hj) (by rw [aO];exact Nat.le_refl _),⟨hx.k1,hx.k2,hx.k3,hx.k4,.inr hA'⟩,hf,?_,?_,?_⟩
 ·intro j hj hne;rw [hset j hne,hB23.block j hj]
 ·rw [aO];exact hB23.size
 ·intro B w0 hBQ h0;exact bg (h0.trans (hB23.mono (by omega))) hBQ _
noncomputable def cT (t:Bs):Int:=match bW t with
 | .ok _=>0
 | .error m=>(m:Int)
noncomputable def dw (t:Bs):ai:=match bW t with
 | .ok s=>s
 | .error _=>{}
structure HD (w w2 w5:World) (x:aG) (s:ai):Prop where
 blk:w5.heap[w2.heap.size]? =some (.cells x.cells bd (0,0))
 held:aM w5 x s
 ok:HI x
 fit:s.right=true∨s= {}
 below:Below w2.heap.size w2 w5
theorem DR:HI bX:=⟨.inl rfl,.inl rfl,.inl rfl,.inl rfl,.inl rfl⟩
theorem fB (t:Bs) (w:World) (hl:t.length≤60000):
  CP 32 #[.string (str t)] w fun e w'=>∃y,e= .returned (.tuple #[y.v,.int .i64 (cT t)])∧aM w' y (dw t)∧Below w.heap.size w w':=by
 refine az (zF (str t) w (fun v w'=>∃y:aG,v= .tuple #[y.v,.int .i64 (cT t)]∧aM w' y (dw t)∧Below w.heap.size w w') ?_) (by rintro v w' ⟨y,rfl,h⟩;exact⟨y,rfl,h⟩);intro w1 hw1;have hb1:Below w.heap.size w w1:=by rw [hw1];exact ag _ _
 have k1:w1.heap[w.heap.size]? =some (.cells bX.cells bd (0,0)):=by rw [hw1];exact ao w _
 have hlt1:w.heap.size<w1.heap.size:=(Array.getElem?_eq_some_iff.1 k1).1;refine(nW t 10 w1 (by omega)).mono ?_;rintro e w2 ⟨la,lc,rfl,hcap,hrow,h2⟩;have hb2:=ab hb1 h2;have k2:w2.heap[w.heap.size]? =some (.cells bX.cells bd (0,0)):=by rw [h2.block _ hlt1];exact k1
 have hlt2:w.heap.size<w2.heap.size:=(Array.getElem?_eq_some_iff.1 k2).1;refine⟨_,_,_,rfl,?_⟩;intro w3 hw3;refine aJ [.bool false,.slice none 0 0,.slice none 0 0,.slice none 0 0,.slice none 0 0,.slice none 0 0] [.bool false,.slice none 0 0,.slice none 0 0,.slice none 0 0,.slice none 0 0,.slice none 0 0] rfl (by intro v hv;simp at hv;rcases hv with rfl |rfl<;>rfl) w3 hw3 ?_
 intro w4 f4 hsz4 hB4;have hR4:HD w w2 w4 bX {}:=⟨f4,kE w4,DR,.inr rfl,hB4⟩;have hne0:=eJ 10 t;have hdl:(aw 10 t).dropLast.length=(aw 10 t).length-1:=by simp
 have hpos:0< (aw 10 t).length:=List.length_pos_iff.2 hne0;have hcnt:=ja 10 t;have hsm:=iZ 10 t;have hall:=(Ax (aw 10 t).dropLast pV).1;have bel:∀ {w5:World},Below w2.heap.size w2 w5→Below w.heap.size w w5:=fun hB=>ab hb2 hB;have kk:∀ {w5:World},Below w2.heap.size w2 w5→w5.heap[w.heap.size]? =some (.cells bX.cells bd (0,0)):=fun hB=>by rw [hB.block _ hlt2];exact k2
 have bad:∀(m:Nat) {w5:World},Below w2.heap.size w2 w5→bW t= .error m→∀w7,(∀w0,Below w.heap.size w0 w5→Below w.heap.size w0 w7)→∃y:aG,Value.tuple #[bX.v,.int .i64 m]= .tuple #[y.v,.int .i64 (cT t)]∧aM w7 y (dw t)∧Below w.heap.size w w7:=by
  intro m w5 hB hp w7 hB7;refine⟨bX,?_,?_,hB7 w (bel hB)⟩
  ·unfold cT;rw [hp]
  ·unfold dw;rw [hp];exact kE w7
 intro I hI;refine aK (α:=aG×ai×World) ((aw 10 t).length-1)
  (fun i y=>HD w w2 y.2.2 y.1 y.2.1∧lx {} 0 (aw 10 t).dropLast=lx y.2.1 i ((aw 10 t).dropLast.drop i))
  (fun i y=>I [.int .i64 (i:Int),.int .i64 0] y.2.2) (bX,{},w4) ⟨hR4,rfl⟩ ?_ ?_
 ·rintro i hi ih ⟨x,s,w5⟩ ⟨hR,hrd⟩;dsimp only at hR hrd;refine hI _ _ _ (Ar.ok64 (by omega) (by omega) (aa.yes (decide_eq_true (by omega)) ?_));have hi':i< (aw 10 t).dropLast.length:=by omega
  have hi2:i< (aw 10 t).length:=by omega
  have hline:(aw 10 t).dropLast[i]=(aw 10 t)[i]:=by simp
  have hrow5:=hrow.on hR.below;obtain⟨p,hpa,_,hcp⟩:=hrow5 i _ (List.getElem?_eq_getElem hi2);refine ae.mk p hpa ⟨by omega,by omega,str (aw 10 t)[i],by simpa using hcp,?_⟩;have hll:(aw 10 t)[i].length≤60000:=by
   have:=hsm _ (List.getElem_mem hi2);omega
  refine(nW (aw 10 t)[i] 32 w5 (by omega)).mono ?_;rintro e w6 ⟨ca,cc,rfl,_,hwords,h6⟩;refine⟨_,_,_,rfl,?_⟩;have hP5:w2.heap.size<w5.heap.size:=(Array.getElem?_eq_some_iff.1 hR.blk).1;have hP6:w6.heap[w2.heap.size]? =some (.cells x.cells bd (0,0)):=by rw [h6.block _ hP5];exact hR.blk
  have hB6:Below w2.heap.size w2 w6:=hR.below.trans (h6.mono hR.below.size);have hlt6:w2.heap.size<w6.heap.size:=(Array.getElem?_eq_some_iff.1 hP6).1;refine⟨x.ranked,_,_,_,_,_,_,_,_,_,_,_,_,_,_,_,⟨(by have:=aE (j:=0) hP6;rw [an]at this;exact this),(aE (j:=1) hP6).trans rfl,(aE (j:=2) hP6).trans rfl,(aE (j:=3) hP6).trans rfl,(aE (j:=4) hP6).trans rfl,(aE (j:=5) hP6).trans rfl,trivial⟩,?_⟩;intro w7 hw7;refine aJ [.bool false,.slice none 0 0,.slice none 0 0,.slice none 0 0,.slice none 0 0,.slice none 0 0] [.bool x.ranked,x.s1.v,x.s2.v,x.s3.v,x.s4.v,x.s5.v] rfl (by intro v hv;simp at hv;rcases hv with rfl |rfl |rfl |rfl |rfl |rfl<;>rfl) w7 hw7 ?_
  intro w8 hQ8 hsz8 hB78;have hB8:Below w2.heap.size w2 w8:=hB6.trans (hB78.mono hB6.size);have hw8:=hwords.on hB78;have hA8:=(hR.held.on h6).on hB78;have hP8:w8.heap[w2.heap.size]? =some (.cells x.cells bd (0,0)):=by rw [hB78.block _ hlt6];exact hP6
  obtain⟨hfit,n1,n2,n3,n4,n5⟩:=zd hR.fit;have hsm2:=iZ 32 (aw 10 t)[i];have hct2:=ja 32 (aw 10 t)[i];have hwl:∀y∈aw 32 (aw 10 t)[i],y.length≤100000:=fun y hy=>by have:=hsm2 y hy;omega
  obtain⟨first,ws,hcut⟩:∃f r,aw 32 (aw 10 t)[i]=f::r:=by
   cases hc:aw 32 (aw 10 t)[i]with
   |nil=>exact absurd hc (eJ 32 _)
   |cons f r=>exact⟨f,r,rfl⟩
  have hfirst:(aw 32 (aw 10 t)[i])[0]? =some first:=by rw [hcut];rfl
  have hhead:(aw 32 (aw 10 t)[i]).head?=some first:=by rw [hcut];rfl
  have hlen0:0< (aw 32 (aw 10 t)[i]).length:=by rw [hcut];simp
  obtain⟨q,hqa,_,hcq⟩:=hw8 0 _ hfirst;refine ae.mk q hqa ⟨by omega,by omega,str first,by simpa using hcq,?_⟩;intro J hJ;have tail:∀(v:World) (y:aG) (s':ai),s'=cS s (aw 10 t)[i] (aw 32 (aw 10 t)[i])→kq w6.heap.size w8 v y s'→J [] v:=by
   intro v y s' hs' hv;refine hJ v ?_;have cQ:∀ {v':World} (j:Nat),Below v.heap.size v v'→v'.cell? ((nb w6).add j)=y.cells[j]? :=by
    intro v' j hB;have:v'.heap[w6.heap.size]? =some (.cells y.cells bd (0,0)):=by rw [hB.block _ (Array.getElem?_eq_some_iff.1 hv.blk).1];exact hv.blk
    exact aE this
   have hr0:=Below.refl v.heap.size v;refine⟨y.ranked,_,_,_,_,_,_,_,_,_,_,_,_,_,_,_,⟨(by have:=cQ 0 hr0;rw [an]at this;exact this),cQ 1 hr0,cQ 2 hr0,cQ 3 hr0,cQ 4 hr0,cQ 5 hr0,trivial⟩,?_⟩;refine(lp y s' v hv.held hv.fit).mono ?_;rintro e w10 ⟨pa,pc,rfl,hlines,h10⟩;refine⟨_,_,_,rfl,?_⟩;rintro w11 rfl;have h11:Below v.heap.size v w10.drew:=h10.drew;refine⟨y.ranked,_,_,_,_,_,_,_,_,_,_,_,_,_,_,_,⟨(by have:=cQ 0 h11;rw [an]at this;exact this),cQ 1 h11,cQ 2 h11,cQ 3 h11,cQ 4 h11,cQ 5 h11,trivial⟩,?_⟩;refine(ki y s' w10.drew (hv.held.on h11)).mono ?_;rintro e w12 ⟨rfl,h12'⟩;have h12:=ab h11 h12';have hBv:Below w2.heap.size w2 v:=hv.below _ w2 (by omega) hB8;have hB12:Below w2.heap.size w2 w12:=hBv.trans (h12.mono hBv.size);refine⟨_,rfl,?_⟩;rw [List.drop_eq_getElem_cons hi',lx,hline]at hrd;have bad':jw s i (aw 10 t)[i]=none→bW t= .error (i+1):=by
    intro hn;rw [hn]at hrd;rw [hrd]at hall;unfold bW;cases hr:bV {} 0 0 (aw 10 t).dropLast with
    |ok z=>rw [hr]at hall;cases hall
    |error m=>rw [hr]at hall;cases hall;rfl
   have none_of:¬(s'.right=true∧s'.lines.length=i+1∧s'.lines[i]? =some (aw 10 t)[i])→jw s i (aw 10 t)[i]=none:=by
    intro hn;unfold jw;rw [←hs',if_neg hn]
   refine aa.mk ?_ ?_
   ·intro hc;refine Ar.ok64 (by omega) (by omega) ?_;have hp:=bad' (none_of (by rintro⟨e,_⟩;rw [e]at hc;simp at hc));refine dI (fun y w7=>∃z:aG,Value.tuple #[y.v,.int .i64 ((i:Int)+1)]= .tuple #[z.v,.int .i64 (cT t)]∧aM w7 z (dw t)∧Below w.heap.size w w7) bX (kk hB12) rfl ?_;intro w7 hB7 _;exact bad (i+1) hB12 hp w7 hB7
   intro hc;have hc:s'.right=true:=by simpa using hc
   refine Ar.ok64 (by omega) (by omega) (aa.mk ?_ ?_)
   ·intro hc2;have hc2:(s'.lines.length:Int)≠(i:Int)+1:=by simpa using hc2
    refine Ar.ok64 (by omega) (by omega) ?_;have hp:=bad' (none_of (by rintro⟨_,e,_⟩;omega));refine dI (fun y w7=>∃z:aG,Value.tuple #[y.v,.int .i64 ((i:Int)+1)]= .tuple #[z.v,.int .i64 (cT t)]∧aM w7 z (dw t)∧Below w.heap.size w w7) bX (kk hB12) rfl ?_;intro w7 hB7 _;exact bad (i+1) hB12 hp w7 hB7
   intro hc2;have hc2:(s'.lines.length:Int)=(i:Int)+1:=by simpa using hc2
   have hil:i<s'.lines.length:=by omega
   have hlines12:bv w12 pa s'.lines:=(hlines.on ((Below.refl _ _).drew)).on h12';obtain⟨p1,hp1,_,hcp1⟩:=hlines12 i _ (List.getElem?_eq_getElem hil);obtain⟨p2,hp2,_,hcp2⟩:=(hrow.on hB12) i _ (List.getElem?_eq_getElem hi2);refine ae.mk p1 hp1 ⟨by omega,by omega,str s'.lines[i],by simpa using hcp1,?_⟩;refine ae.mk p2 hp2 ⟨by omega,by omega,str (aw 10 t)[i],by simpa using hcp2,?_⟩;rw [bP];refine aa.mk ?_ ?_
   ·intro hc3;have hc3:s'.lines[i]≠(aw 10 t)[i]:=by simpa using hc3
    refine Ar.ok64 (by omega) (by omega) ?_;have hp:=bad' (none_of (by rintro⟨_,_,e⟩;rw [List.getElem?_eq_getElem hil]at e;exact hc3 (Option.some.inj e)));refine dI (fun y w7=>∃z:aG,Value.tuple #[y.v,.int .i64 ((i:Int)+1)]= .tuple #[z.v,.int .i64 (cT t)]∧aM w7 z (dw t)∧Below w.heap.size w w7) bX (kk hB12) rfl ?_;intro w7 hB7 _;exact bad (i+1) hB12 hp w7 hB7
   intro hc3;have hc3:s'.lines[i]=(aw 10 t)[i]:=by simpa using hc3
   have hln:jw s i (aw 10 t)[i]=some s':=by
    unfold jw;rw [←hs',if_pos ⟨hc,by omega,by rw [List.getElem?_eq_getElem hil,hc3]⟩]
   rw [hln]at hrd;refine⟨y.ranked,_,_,_,_,_,_,_,_,_,_,_,_,_,_,_,⟨(by have:=cQ 0 h12;rw [an]at this;exact this),cQ 1 h12,cQ 2 h12,cQ 3 h12,cQ 4 h12,cQ 5 h12,trivial⟩,?_⟩;have hlt8:w2.heap.size<w8.heap.size:=(Array.getElem?_eq_some_iff.1 hP8).1;have hP12:w12.heap[w2.heap.size]? =some (.cells x.cells bd (0,0)):=by
    rw [h12.block _ (by have:=hv.size;omega),hv.keep _ hlt8 (by omega)];exact hP8
   refine dG _ 0 w12 _ 0 hP12 (by simp) (by intro u hu;simp at hu;rcases hu with rfl |rfl |rfl |rfl |rfl |rfl<;>rfl) ?_
   intro w16 h16 hne hsz hB16;refine Ar.ok64 (by omega) (by omega) (ih (y,s',w16) ⟨⟨?_,?_,hv.ok,.inl hc,hB16 _ w2 (Nat.le_refl _) hB12⟩,hrd⟩)
   ·dsimp only;rw [h16];congr 2
   ·exact(hv.held.on h12).past hP12 (cg x) (fun j _ hj=>hne j hj) (by dsimp only;rw [hsz];exact Nat.le_refl _)
  have ewVocab:((str first).toList==(⟨#[118,111,99,97,98]⟩:ByteArray).toList)=decide (first=dE):=by rw [show(⟨#[118,111,99,97,98]⟩:ByteArray)=str dE from rfl,bP]
  have ewMerge:((str first).toList==(⟨#[109,101,114,103,101]⟩:ByteArray).toList)=decide (first=wMerge):=by rw [show(⟨#[109,101,114,103,101]⟩:ByteArray)=str wMerge from rfl,bP]
  have ewToken:((str first).toList==(⟨#[116,111,107,101,110]⟩:ByteArray).toList)=decide (first=wToken):=by rw [show(⟨#[116,111,107,101,110]⟩:ByteArray)=str wToken from rfl,bP]
  have ewSpecial:((str first).toList==(⟨#[115,112,101,99,105,97,108]⟩:ByteArray).toList)=decide (first=wSpecial):=by rw [show(⟨#[115,112,101,99,105,97,108]⟩:ByteArray)=str wSpecial from rfl,bP]
  have ewClass:((str first).toList==(⟨#[99,108,97,115,115]⟩:ByteArray).toList)=decide (first=wClass):=by rw [show(⟨#[99,108,97,115,115]⟩:ByteArray)=str wClass from rfl,bP]
  have ewJoin:((str first).toList==(⟨#[106,111,105,110]⟩:ByteArray).toList)=decide (first=wJoin):=by rw [show(⟨#[106,111,105,110]⟩:ByteArray)=str wJoin from rfl,bP]
  refine aa.mk ?_ ?_
  ·intro hc;rw [ewVocab]at hc;have hf:=of_decide_eq_true hc;rw [hf]at hhead;obtain⟨p3,hp3,_,hcp3⟩:=(hrow.on hB8) i _ (List.getElem?_eq_getElem hi2);refine ae.mk p3 hp3 ⟨by omega,by omega,str (aw 10 t)[i],by simpa using hcp3,rfl,⟨_,(aE (j:=0) hQ8).trans rfl⟩,a_ hQ8,?_⟩;rw [show(⟨#[118,111,99,97,98,32,114,97,110,107,115]⟩:ByteArray)=str (dl true)from rfl,bP];rintro w9 rfl;have hset:∀j,j≠w6.heap.size→(w8.setCell ((nb w6).add 0) (.bool (decide ((aw 10 t)[i]=dl true)))).heap[j]? =w8.heap[j]? :=fun j hj=>ay (by rw [aq];exact hj);refine tail _ {x with ranked:=decide ((aw 10 t)[i]=dl true)} _ rfl ⟨(bo (j:=0) hQ8 _).trans rfl,?_,⟨hR.ok.k1,hR.ok.k2,hR.ok.k3,hR.ok.k4,hR.ok.k5⟩,?_,fun j _ hj=>hset j hj,by rw [aO];exact Nat.le_refl _,fun B w0 hBQ h0=>bg h0 hBQ _⟩
   ·rw [yk hhead];have h8':=hA8.past hQ8 (cg x) (fun j _ hj=>hset j hj) (by rw [aO];exact Nat.le_refl _);exact⟨rfl,h8'.n1,h8'.r1,h8'.n2,h8'.r2,h8'.n3,h8'.r3,h8'.n4,h8'.r4,h8'.n5,h8'.r5⟩
   ·rw [yk hhead];exact⟨hfit.l1,hfit.l2,hfit.l3,hfit.l4,hfit.l5,hfit.m1,hfit.m2,hfit.m3,hfit.m4,hfit.m5⟩
  intro c0;rw [ewVocab]at c0;have c0:=of_decide_eq_false c0;refine aa.mk ?_ ?_
  ·intro hc;rw [ewMerge]at hc;have hf:=of_decide_eq_true hc;rw [hf]at hhead;intro w18 hw18;have hP18:w18.heap[w2.heap.size]? =some (.cells x.cells bd (0,0)):=by rw [hw18,cN w8 _ (Array.getElem?_eq_some_iff.1 hP8).1];exact hP8
   refine⟨_,_,_,(aE (j:=1) hP18).trans rfl,?_⟩;have hnk:=hA8.n1;obtain⟨A,C,w19,hr19,hown19,hB19⟩:=eD (enc:=aD) (sz:=2) (fun _=>rfl) (Nat.succ_pos _) (by intro x u hu;simp [aD]at hu;rcases hu with rfl |rfl<;>rfl) 33 lG lU nE rfl w8 x.s1 s.merges hR.ok.k1 hA8.r1 hnk (by omega) (by omega) w18 hw18
   refine⟨A,_,C,w19,hr19,?_⟩;refine(dW ca cc (aw 32 (aw 10 t)[i]) 1 w19 (hw8.on hB19) (fun y hy=>Nat.le_trans (hwl y hy) (by omega)) (by omega)).mono ?_;rintro e w20 ⟨rfl,h20⟩;have hB20:=ab hB19 h20;refine⟨_,rfl,?_⟩;refine(dW ca cc (aw 32 (aw 10 t)[i]) 2 w20 (hw8.on hB20) (fun y hy=>Nat.le_trans (hwl y hy) (by omega)) (by omega)).mono ?_;rintro e w21 ⟨rfl,h21⟩;have hB21:=ab hB20 h21;refine⟨_,rfl,?_⟩;intro w30 hw30;have hown:=aL hown19 (show Below w19.heap.size w19 w21 from ab h20 h21);obtain⟨A',N',C',w31,hr31,hcell,hfr,hk⟩:=uk hQ8 hA8 hR.ok n1 hown hB21 (aP (aw 32 (aw 10 t)[i]) 1,aP (aw 32 (aw 10 t)[i]) 2) (zA hfit n1 _ hwl) w30 hw30;refine⟨A',N',C',w31,hr31,rfl,hcell,hfr,?_⟩;intro w32 hw32;obtain⟨y,hy⟩:=hk w32 hw32;exact tail w32 y _ (zK hhead).symm hy
  intro c1;rw [ewMerge]at c1;have c1:=of_decide_eq_false c1;refine aa.mk ?_ ?_
  ·intro hc;rw [ewToken]at hc;have hf:=of_decide_eq_true hc;rw [hf]at hhead;intro w18 hw18;have hP18:w18.heap[w2.heap.size]? =some (.cells x.cells bd (0,0)):=by rw [hw18,cN w8 _ (Array.getElem?_eq_some_iff.1 hP8).1];exact hP8
   refine⟨_,_,_,(aE (j:=2) hP18).trans rfl,?_⟩;have hnk:=hA8.n2;obtain⟨A,C,w19,hr19,hown19,hB19⟩:=eD (enc:=be) (sz:=1) (fun _=>rfl) (Nat.succ_pos _) (by intro x u hu;simp [be]at hu;rcases hu with rfl;rfl) da bE fp fO rfl w8 x.s2 s.tokens hR.ok.k2 hA8.r2 hnk (by omega) (by omega) w18 hw18;refine⟨A,_,C,w19,hr19,?_⟩;refine(kY ca cc (aw 32 (aw 10 t)[i]) 1 w19 (hw8.on hB19) (fun y hy=>Nat.le_trans (hwl y hy) (by omega)) (by omega)).mono ?_;rintro e w20 ⟨rfl,h20⟩;have hB20:=ab hB19 h20;refine⟨_,rfl,?_⟩;intro w30 hw30;have hown:=aL hown19 (show Below w19.heap.size w19 w20 from h20);obtain⟨A',N',C',w31,hr31,hcell,hfr,hk⟩:=tU hQ8 hA8 hR.ok n2 hown hB20 (cV (aw 32 (aw 10 t)[i]) 1) (za hfit n2 _ hwl) w30 hw30;refine⟨A',N',C',w31,hr31,rfl,hcell,hfr,?_⟩;intro w32 hw32;obtain⟨y,hy⟩:=hk w32 hw32;exact tail w32 y _ (Ak hhead).symm hy
  intro c2;rw [ewToken]at c2;have c2:=of_decide_eq_false c2;refine aa.mk ?_ ?_
  ·intro hc;rw [ewSpecial]at hc;have hf:=of_decide_eq_true hc;rw [hf]at hhead;intro w18 hw18;have hP18:w18.heap[w2.heap.size]? =some (.cells x.cells bd (0,0)):=by rw [hw18,cN w8 _ (Array.getElem?_eq_some_iff.1 hP8).1];exact hP8
   refine⟨_,_,_,(aE (j:=3) hP18).trans rfl,?_⟩;have hnk:=hA8.n3;obtain⟨A,C,w19,hr19,hown19,hB19⟩:=eD (enc:=av) (sz:=2) (fun _=>rfl) (Nat.succ_pos _) (by intro x u hu;simp [av]at hu;rcases hu with rfl |rfl<;>rfl) 25 kU jZ np rfl w8 x.s3 s.specials hR.ok.k3 hA8.r3 hnk (by omega) (by omega) w18 hw18
   refine⟨A,_,C,w19,hr19,?_⟩;refine(dW ca cc (aw 32 (aw 10 t)[i]) 1 w19 (hw8.on hB19) (fun y hy=>Nat.le_trans (hwl y hy) (by omega)) (by omega)).mono ?_;rintro e w20 ⟨rfl,h20⟩;have hB20:=ab hB19 h20;refine⟨_,rfl,?_⟩;refine(kY ca cc (aw 32 (aw 10 t)[i]) 2 w20 (hw8.on hB20) (fun y hy=>Nat.le_trans (hwl y hy) (by omega)) (by omega)).mono ?_;rintro e w21 ⟨rfl,h21⟩;have hB21:=ab hB20 h21;refine⟨_,rfl,?_⟩;intro w30 hw30;have hown:=aL hown19 (show Below w19.heap.size w19 w21 from ab h20 h21);obtain⟨A',N',C',w31,hr31,hcell,hfr,hk⟩:=pP hQ8 hA8 hR.ok n3 hown hB21 (aP (aw 32 (aw 10 t)[i]) 1,cV (aw 32 (aw 10 t)[i]) 2) (uD hfit n3 _ hwl) w30 hw30;refine⟨A',N',C',w31,hr31,rfl,hcell,hfr,?_⟩;intro w32 hw32;obtain⟨y,hy⟩:=hk w32 hw32;exact tail w32 y _ (tG hhead).symm hy
  intro c3;rw [ewSpecial]at c3;have c3:=of_decide_eq_false c3;refine aa.mk ?_ ?_
  ·intro hc;rw [ewClass]at hc;have hf:=of_decide_eq_true hc;rw [hf]at hhead;intro w18 hw18;have hP18:w18.heap[w2.heap.size]? =some (.cells x.cells bd (0,0)):=by rw [hw18,cN w8 _ (Array.getElem?_eq_some_iff.1 hP8).1];exact hP8
   refine⟨_,_,_,(aE (j:=4) hP18).trans rfl,?_⟩;have hnk:=hA8.n4;obtain⟨A,C,w19,hr19,hown19,hB19⟩:=eD (enc:=aZ) (sz:=3) (fun _=>rfl) (Nat.succ_pos _) (by intro x u hu;simp [aZ]at hu;rcases hu with rfl |rfl |rfl<;>rfl) 23 wK lL rf rfl w8 x.s4 s.classes hR.ok.k4 hA8.r4 hnk (by omega) (by omega) w18 hw18
   refine⟨A,_,C,w19,hr19,?_⟩;refine(dW ca cc (aw 32 (aw 10 t)[i]) 1 w19 (hw8.on hB19) (fun y hy=>Nat.le_trans (hwl y hy) (by omega)) (by omega)).mono ?_;rintro e w20 ⟨rfl,h20⟩;have hB20:=ab hB19 h20;refine⟨_,rfl,?_⟩;refine(dW ca cc (aw 32 (aw 10 t)[i]) 2 w20 (hw8.on hB20) (fun y hy=>Nat.le_trans (hwl y hy) (by omega)) (by omega)).mono ?_;rintro e w21 ⟨rfl,h21⟩;have hB21:=ab hB20 h21;refine⟨_,rfl,?_⟩;refine(dW ca cc (aw 32 (aw 10 t)[i]) 3 w21 (hw8.on hB21) (fun y hy=>Nat.le_trans (hwl y hy) (by omega)) (by omega)).mono ?_;rintro e w22 ⟨rfl,h22⟩;have hB22:=ab hB21 h22;refine⟨_,rfl,?_⟩;intro w30 hw30;have hown:=aL hown19 (show Below w19.heap.size w19 w22 from ab (ab h20 h21) h22);obtain⟨A',N',C',w31,hr31,hcell,hfr,hk⟩:=rW hQ8 hA8 hR.ok n4 hown hB22 (aP (aw 32 (aw 10 t)[i]) 1,aP (aw 32 (aw 10 t)[i]) 2,aP (aw 32 (aw 10 t)[i]) 3) (uV hfit n4 _ hwl) w30 hw30;refine⟨A',N',C',w31,hr31,rfl,hcell,hfr,?_⟩;intro w32 hw32;obtain⟨y,hy⟩:=hk w32 hw32;exact tail w32 y _ (xJ hhead).symm hy
  intro c4;rw [ewClass]at c4;have c4:=of_decide_eq_false c4;refine aa.mk ?_ ?_
  ·intro hc;rw [ewJoin]at hc;have hf:=of_decide_eq_true hc;rw [hf]at hhead;intro w18 hw18;have hP18:w18.heap[w2.heap.size]? =some (.cells x.cells bd (0,0)):=by rw [hw18,cN w8 _ (Array.getElem?_eq_some_iff.1 hP8).1];exact hP8
   refine⟨_,_,_,(aE (j:=5) hP18).trans rfl,?_⟩;have hnk:=hA8.n5;obtain⟨A,C,w19,hr19,hown19,hB19⟩:=eD (enc:=aD) (sz:=2) (fun _=>rfl) (Nat.succ_pos _) (by intro x u hu;simp [aD]at hu;rcases hu with rfl |rfl<;>rfl) 24 AN lF qU rfl w8 x.s5 s.joins hR.ok.k5 hA8.r5 hnk (by omega) (by omega) w18 hw18
   refine⟨A,_,C,w19,hr19,?_⟩;refine(dW ca cc (aw 32 (aw 10 t)[i]) 1 w19 (hw8.on hB19) (fun y hy=>Nat.le_trans (hwl y hy) (by omega)) (by omega)).mono ?_;rintro e w20 ⟨rfl,h20⟩;have hB20:=ab hB19 h20;refine⟨_,rfl,?_⟩;refine(dW ca cc (aw 32 (aw 10 t)[i]) 2 w20 (hw8.on hB20) (fun y hy=>Nat.le_trans (hwl y hy) (by omega)) (by omega)).mono ?_;rintro e w21 ⟨rfl,h21⟩;have hB21:=ab hB20 h21;refine⟨_,rfl,?_⟩;intro w30 hw30;have hown:=aL hown19 (show Below w19.heap.size w19 w21 from ab h20 h21);obtain⟨A',N',C',w31,hr31,hcell,hfr,hk⟩:=vi hQ8 hA8 hR.ok n5 hown hB21 (aP (aw 32 (aw 10 t)[i]) 1,aP (aw 32 (aw 10 t)[i]) 2) (Bz hfit n5 _ hwl) w30 hw30;refine⟨A',N',C',w31,hr31,rfl,hcell,hfr,?_⟩;intro w32 hw32;obtain⟨y,hy⟩:=hk w32 hw32;exact tail w32 y _ (A_ hhead).symm hy
  intro c5;rw [ewJoin]at c5;have c5:=of_decide_eq_false c5;refine tail w8 x s (EP (by rw [hhead];intro e;cases e;exact c0 rfl) (by rw [hhead];intro e;cases e;exact c1 rfl) (by rw [hhead];intro e;cases e;exact c2 rfl) (by rw [hhead];intro e;cases e;exact c3 rfl) (by rw [hhead];intro e;cases e;exact c4 rfl) (by rw [hhead];intro e;cases e;exact c5 rfl)).symm ⟨hQ8,hA8,hR.ok,hfit,fun _ _ _=>rfl,Nat.le_refl _,fun _ _ _ h=>h⟩
 ·rintro⟨x,s,w5⟩ ⟨hR,hrd⟩;dsimp only at hR hrd;refine hI _ _ _ (Ar.ok64 (by omega) (by omega) (aa.no (decide_eq_false (by omega)) ?_));rw [List.drop_eq_nil_of_le (by omega),lx]at hrd;obtain⟨z,hz,hzs⟩:∃z,bV {} 0 0 (aw 10 t).dropLast= .ok z∧z.1=s:=by
   rw [hrd]at hall;cases hr:bV {} 0 0 (aw 10 t).dropLast with
   |ok z=>rw [hr]at hall;cases hall;exact⟨z,rfl,rfl⟩
   |error m=>rw [hr]at hall;cases hall
  have hps:bW t=if(aw 10 t).getLast?=some []∧(aw 10 t).dropLast≠ []then .ok s else .error (aw 10 t).length:=by
   unfold bW;rw [hz];dsimp only;rw [hzs]
  have hnil:(aw 10 t).dropLast≠ []↔¬(aw 10 t).length<2:=by
   rw [←List.length_pos_iff,hdl];omega
  refine aa.mk ?_ ?_
  ·intro hc;have hc:=of_decide_eq_true hc;have hp:bW t= .error (aw 10 t).length:=by rw [hps,if_neg (fun e=>hnil.1 e.2 (by omega))]
   refine dI (fun y w7=>∃z:aG,Value.tuple #[y.v,.int .i64 ((aw 10 t).length:Int)]= .tuple #[z.v,.int .i64 (cT t)]∧aM w7 z (dw t)∧Below w.heap.size w w7) bX (kk hR.below) rfl ?_;intro w7 hB7 _;exact bad _ hR.below hp w7 hB7
  ·intro hc;have hc:=of_decide_eq_false hc;refine Ar.ok64 (by omega) (by omega) ?_;have hlast:(aw 10 t).length-1< (aw 10 t).length:=by omega
   obtain⟨p,hpa,_,hcp⟩:=(hrow.on hR.below) ((aw 10 t).length-1) _ (List.getElem?_eq_getElem hlast);have hidx:(((aw 10 t).length:Int)-1).toNat=(aw 10 t).length-1:=by omega
   refine ae.mk p hpa ⟨by omega,by omega,str (aw 10 t)[(aw 10 t).length-1],by rw [hidx,Nat.mul_one];exact hcp,?_⟩;rw [ia];have hgl:(aw 10 t).getLast?=some (aw 10 t)[(aw 10 t).length-1]:=by rw [List.getLast?_eq_getElem?,List.getElem?_eq_getElem hlast]
   refine aa.mk ?_ ?_
   ·intro hc2;have hc2:(aw 10 t)[(aw 10 t).length-1]≠ []:=by simpa using hc2
    have hp:bW t= .error (aw 10 t).length:=by rw [hps,if_neg (fun e=>hc2 (by have:=e.1;rw [hgl]at this;exact Option.some.inj this))]
    refine dI (fun y w7=>∃z:aG,Value.tuple #[y.v,.int .i64 ((aw 10 t).length:Int)]= .tuple #[z.v,.int .i64 (cT t)]∧aM w7 z (dw t)∧Below w.heap.size w w7) bX (kk hR.below) rfl ?_;intro w7 hB7 _;exact bad _ hR.below hp w7 hB7
   ·intro hc2;have hc2:(aw 10 t)[(aw 10 t).length-1]= []:=by simpa using hc2
    have hp:bW t= .ok s:=by rw [hps,if_pos ⟨by rw [hgl,hc2],hnil.2 (by omega)⟩]
    have cP:∀j v,x.cells[j]? =some v→w5.cell? ((nb w2).add j)=some v:=by
     intro j v hv;rw [aE hR.blk,hv]
    refine⟨x.ranked,_,_,_,_,_,_,_,_,_,_,_,_,_,_,_,⟨(by have:=cP 0 _ rfl;rw [an]at this;exact this),cP 1 _ rfl,cP 2 _ rfl,cP 3 _ rfl,cP 4 _ rfl,cP 5 _ rfl,trivial⟩,?_⟩;refine dI (fun y w7=>∃z:aG,Value.tuple #[y.v,.int .i64 0]= .tuple #[z.v,.int .i64 (cT t)]∧aM w7 z (dw t)∧Below w.heap.size w w7) x (kk hR.below) rfl ?_;intro w7 hB7 hne;refine⟨x,?_,?_,hB7 w (bel hR.below)⟩
    ·unfold cT;rw [hp]
    ·unfold dw;rw [hp];exact hR.held.past (kk hR.below) (cg bX) (fun j _ hj=>hne j hj) (hB7 w5 (Below.refl _ _)).size
theorem dt {i:Nat} (h:¬i<10):Lib.decDigits i=Lib.decDigits (i/10)++ [UInt8.ofNat (48+i%10)]:=by rw [Lib.decDigits,dif_neg h]
theorem AD:Lib.itoa 97= [57,55]:=by
 unfold Lib.itoa;rw [if_neg (by decide),show(97:Int).toNat=97 from rfl,dt (by decide),Lib.decDigits_one (by decide)];rfl
theorem AH:Lib.itoa 98= [57,56]:=by
 unfold Lib.itoa;rw [if_neg (by decide),show(98:Int).toNat=98 from rfl,dt (by decide),Lib.decDigits_one (by decide)];rfl
structure fD (w:World):Prop where
 pow:tj w
 errs:je w
 mx:Mx w
theorem fD.on {w w':World} (h:fD w) (hb:Below w.heap.size w w'):fD w':=⟨h.pow.on hb,h.errs.on hb,h.mx.on hb⟩
theorem uI {s:ai} (h:s.right=true) (hg:lz s=false):s.text.length≤45241:=by
 obtain⟨_,p1,p2,p3,p4,p5⟩:=aH h;have l1:=bx p1;have l2:=bx p2;have l3:=bx p3;have l4:=bx p4;have l5:=bx p5;have hg:=of_decide_eq_false hg;have key:∀ws:List Bs,(∀w∈ws,w.length≤21)→ws.length≤4→(bI ws).length≤160:=by
  intro ws hw hn;cases ws with
  |nil=>simp [bI,Lib.join_nil]
  |cons w r=>
   unfold bI;rw [Lib.join_length];have:=AR 21 (w::r) hw;simp at this hn⊢;omega
 have hl:∀l∈s.lines,l.length≤160:=by
  intro l hl;simp only [ai.lines,ai.tail,List.mem_cons,List.mem_append,List.mem_map]at hl;rcases hl with rfl |⟨m,hm,rfl⟩ |⟨m,hm,rfl⟩ |⟨m,hm,rfl⟩ |⟨m,hm,rfl⟩ |⟨m,hm,rfl⟩
  ·cases s.ranked<;>decide+kernel
  ·have:=of_decide_eq_true (bw p1 hm);refine key _ ?_ (by simp);intro w hw;simp at hw;rcases hw with rfl |rfl |rfl
   ·decide
   ·exact aW _ (by unfold jl;omega)
   ·exact aW _ (by unfold jl;omega)
  ·have:=of_decide_eq_true (bw p2 hm);have h2:=eP m;unfold dh;rw [bU,d_];simp [wToken];omega
  ·have:=of_decide_eq_true (bw p3 hm);have h2:=eP m.2;have h3:=aW m.1 (by unfold jl;omega);unfold bO;rw [bU,bU,d_];simp [wSpecial];omega
  ·have:=of_decide_eq_true (bw p4 hm);refine key _ ?_ (by simp);intro w hw;simp at hw;rcases hw with rfl |rfl |rfl |rfl
   ·decide
   ·exact aW _ (by unfold jl;omega)
   ·exact aW _ (by unfold jl;omega)
   ·exact aW _ (by unfold jl;omega)
  ·have:=of_decide_eq_true (bw p5 hm);refine key _ ?_ (by simp);intro w hw;simp at hw;rcases hw with rfl |rfl |rfl
   ·decide
   ·exact aW _ (by unfold jl;omega)
   ·exact aW _ (by unfold jl;omega)
 have hsum:∀ls:List Bs,(∀l∈ls,l.length≤160)→(cU ls).length≤161*ls.length:=by
  intro ls;induction ls with
  |nil=>intro _;simp [cU]
  |cons l r ih=>
   intro h;have h1:=h l (by simp);have h2:=ih fun y hy=>h y (by simp [hy]);simp [cU,Nat.mul_add]at*;omega
 have:=hsum s.lines hl;have hcnt:s.lines.length≤281:=by
  simp only [ai.lines,ai.tail,List.length_cons,List.length_append,List.length_map];omega
 unfold ai.text;omega
theorem Aq {s:ai} (h:s.right=true) (hg:lz s=false):s.text.length≤60000:=by
 have:=uI h hg;omega
theorem iv {s:ai} (h:s.right=true):∀l∈s.lines,l.length≤10000:=by
 obtain⟨_,p1,p2,p3,p4,p5⟩:=aH h;intro l hl;simp only [ai.lines,ai.tail,List.mem_cons,List.mem_append,List.mem_map]at hl;rcases hl with rfl |⟨m,hm,rfl⟩ |⟨m,hm,rfl⟩ |⟨m,hm,rfl⟩ |⟨m,hm,rfl⟩ |⟨m,hm,rfl⟩
 ·cases s.ranked<;>decide+kernel
 ·have:=of_decide_eq_true (bw p1 hm);have h1:=aW m.1 (by unfold jl;omega);have h2:=aW m.2 (by unfold jl;omega);exact fy _ _ (by decide) (by intro w hw;simp at hw;rcases hw with rfl |rfl<;>omega) (by simp)
 ·have:=of_decide_eq_true (bw p2 hm);have h2:=eP m;exact fy _ _ (by decide) (by intro w hw;simp at hw;subst hw;omega) (by simp)
 ·have:=of_decide_eq_true (bw p3 hm);have h1:=aW m.1 (by unfold jl;omega);have h2:=eP m.2;exact fy _ _ (by decide) (by intro w hw;simp at hw;rcases hw with rfl |rfl<;>omega) (by simp)
 ·have:=of_decide_eq_true (bw p4 hm);have h1:=aW m.1 (by unfold jl;omega);have h2:=aW m.2.1 (by unfold jl;omega);have h3:=aW m.2.2 (by unfold jl;omega);exact fy _ _ (by decide) (by intro w hw;simp at hw;rcases hw with rfl |rfl |rfl<;>omega) (by simp)
 ·have:=of_decide_eq_true (bw p5 hm);have h1:=aW m.1 (by unfold jl;omega);have h2:=aW m.2 (by unfold jl;omega);exact fy _ _ (by decide) (by intro w hw;simp at hw;rcases hw with rfl |rfl<;>omega) (by simp)
theorem oJ:∀(ls:List Bs) (s:ai) (k n m:Nat),bV s k n ls= .error m→n<m
 | [],s,k,n,m,h=>by cases h
 |l::r,s,k,n,m,h=>by
  simp only [bV]at h;cases hr:cO s k n l with
  |none=>rw [hr]at h;cases h;omega
  |some z=>
   rw [hr]at h;have:=oJ r z.1 z.2 (n+1) m h;omega
theorem BQ {t:Bs} {m:Nat} (h:bW t= .error m):0<m:=by
 unfold bW at h;cases hr:bV {} 0 0 (aw 10 t).dropLast with
 |error q=>rw [hr]at h;cases h;have:=oJ _ _ _ _ _ hr;omega
 |ok z=>
  rw [hr]at h;dsimp only at h;split at h
  ·cases h
  ·cases h;exact List.length_pos_iff.2 (eJ 10 t)
theorem vm:dO {}:=by simp [dO]
section
variable {H:Type} {enc0:TypeId×Value→H} {w:World} {base:Nat} {spare:Nat→Bool} {held:Bool}
end
set_option linter.unusedSectionVars false
def fE {κ:Type} [DecidableEq κ] (k:κ):List (κ×Value)→Nat→Option (Nat×Value)
 | [],_=>none
 |p::r,i=>if k=p.1 then some (i,p.2)else fE k r (i+1)
def gp {κ:Type} [DecidableEq κ] (k:κ):List (κ×Value)→Option Value
 | []=>none
 |p::r=>if k=p.1 then some p.2 else gp k r
theorem kK {κ:Type} [DecidableEq κ] (k:κ):∀(m:List (κ×Value)) (i:Nat),(fE k m i).map (·.2)=gp k m
 | [],i=>rfl
 |p::r,i=>by
  simp only [fE,gp];split
  ·rfl
  ·exact kK k r (i+1)
structure k_ (P:Program) (kt:TypeId) (κ:Type) [DecidableEq κ] (kv:κ→Value):Prop where
 check:∀(e:Bool) (k:κ) (w:World),(Instr.checkKey e 10000 kt (kv k)).run P w= .ok () w
 find:∀(k:κ) (es:List MapEntry) (m:List (κ×Value)) (w:World),es.map (fun x=>(x.key,x.val))=m.map (fun p=>(kv p.1,p.2))→(Instr.findKey kt (kv k) es).run P w= .ok (fE k m 0) w
def cv {κ:Type} (kv:κ→Value) (w:World) (r:Nat) (m:List (κ×Value)):Prop:=∃es clock,w.heap[r]? =some (.map es clock)∧es.toList.map (fun x=>(x.key,x.val))=m.map (fun p=>(kv p.1,p.2))∧∀x∈es.toList,x.born<clock
theorem kH {P:Program} {w:World} {r:Nat} {es:Array MapEntry} {c:Nat} (hb:w.heap[r]? =some (.map es c)):(getObj r).run P w= .ok (.map es c) w:=by simp [getObj,Sem.run,hb]
theorem nv {P:Program} {w:World} {r:Nat} {es:Array MapEntry} {c:Nat} (o:Obj) (hb:w.heap[r]? =some (.map es c)):(setObj r o).run P w= .ok () {w with heap:=w.heap.setIfInBounds r o}:=by simp [setObj,Sem.run,hb]
section
variable {P:Program} {kt et t:TypeId} {κ:Type} [DecidableEq κ] {kv:κ→Value}
theorem cv.lt {w:World} {r:Nat} {m:List (κ×Value)} (h:cv kv w r m):r<w.heap.size:=by
 obtain⟨es,clock,h,_⟩:=h;exact(Array.getElem?_eq_some_iff.1 h).1
theorem cv.same {w w':World} {r:Nat} {m:List (κ×Value)} (h:cv kv w r m) (hs:w'.heap[r]? =w.heap[r]?):cv kv w' r m:=by
 obtain⟨es,clock,h,hm,hs'⟩:=h;exact⟨es,clock,by rw [hs];exact h,hm,hs'⟩
theorem cv.on {w w':World} {r:Nat} {m:List (κ×Value)} (h:cv kv w r m) (hb:Below w.heap.size w w'):cv kv w' r m:=h.same (hb.block r h.lt)
theorem pt (w:World):cv kv (w.alloc (.map #[] 0)) w.heap.size []:=⟨#[],0,ao w _,rfl,by simp⟩
theorem jP (K:k_ P kt κ kv) (ht:P.underlying t=some (.map kt et)) {z:Value} (hz:(P.info? et).map (·.zero)=some (some z)) {w:World} {r:Nat} {m:List (κ×Value)} (h:cv kv w r m) (k:κ):
  (Instr.lookup t (.map (some r)) (kv k) true).run P w= .ok (.tuple #[(gp k m).getD z,.bool (gp k m).isSome]) w:=by
 obtain⟨es,clock,hb,hm,_⟩:=h;unfold Instr.lookup;simp only [Sem.run_bind,run_underlying ht,Result.andThen,kH hb,Sem.run_pure,K.check,K.find k es.toList m w hm];have hl:=kK k m 0;cases hx:fE k m 0 with
 |none=>
  rw [hx]at hl;simp only [Option.map_none]at hl;rw [←hl];simp [gF hz,Result.andThen]
 |some q=>
  rw [hx]at hl;simp only [Option.map_some]at hl;rw [←hl];simp
theorem sG {k:κ} {m:List (κ×Value)}:gp k m=none↔∀p∈m,p.1≠k:=by
 induction m with
 |nil=>simp [gp]
 |cons p m ih=>
  simp only [gp];split
  ·rename_i e;simp [e]
  ·rename_i e;rw [ih];constructor
   ·intro h q hq;rcases List.mem_cons.1 hq with rfl |hq
    ·exact fun e'=>e e'.symm
    ·exact h q hq
   ·exact fun h q hq=>h q (by simp [hq])
theorem xF (K:k_ P kt κ kv) (ht:P.underlying t=some (.map kt et)) {w:World} {r:Nat} {m:List (κ×Value)} (h:cv kv w r m) (k:κ) (v:Value) (hk:gp k m=none):
  ∃w',(Instr.mapUpdate t (.map (some r)) (kv k) v).run P w= .ok () w'∧cv kv w' r (m++ [(k,v)])∧(∀j,j≠r→w'.heap[j]? =w.heap[j]?)∧w'.heap.size=w.heap.size∧(∀B w0,B≤r→Below B w0 w→Below B w0 w'):=by
 obtain⟨es,clock,hb,hm,hst⟩:=h;have hlt:=(Array.getElem?_eq_some_iff.1 hb).1;have hl:=kK k m 0;rw [hk]at hl;have hx:fE k m 0=none:=by
  cases hx:fE k m 0 with
  |none=>rfl
  |some q=>rw [hx]at hl;cases hl
 refine⟨{w with heap:=w.heap.setIfInBounds r (.map (es.push {key:=kv k,val:=v,born:=clock}) (clock+1))},?_,?_,?_,by simp,?_⟩
 ·unfold Instr.mapUpdate;simp only [Sem.run_bind,run_underlying ht,Result.andThen,kH hb,K.check,K.find k es.toList m w hm,hx];exact nv _ hb
 ·refine⟨es.push {key:=kv k,val:=v,born:=clock},clock+1,by simp [hlt],by simp [hm],fun x hx=>?_⟩;rw [Array.toList_push,List.mem_append,List.mem_singleton]at hx;rcases hx with hx |rfl
  ·have:=hst x hx;omega
  ·exact Nat.lt_succ_self _
 ·intro j hj;simp [Array.getElem?_setIfInBounds_ne (fun e=>hj e.symm)]
 ·intro B w0 hB h0;exact h0.trans ⟨rfl,rfl,rfl,by simp,fun j hj=>by simp [Array.getElem?_setIfInBounds_ne (show r≠j by omega)]⟩
def IK {κ:Type} (kv:κ→Value) (w:World) (r:Nat) (m:List (κ×Value)) (k:κ) (c:Nat):Prop:=∃(es:Array MapEntry) (z:Value),w.heap[r]? =some (.map (es.push {key:=kv k,val:=z,born:=c}) (c+1))∧es.toList.map (fun x=>(x.key,x.val))=m.map (fun p=>(kv p.1,p.2))∧∀x∈es.toList,x.born<c
theorem fT (K:k_ P kt κ kv) (ht:P.underlying t=some (.map kt et)) {z:Value} (hz:(P.info? et).map (·.zero)=some (some z)) {w:World} {r:Nat} {m:List (κ×Value)} (h:cv kv w r m) (k:κ) (hk:gp k m=none):
  ∃(c:Nat) (w':World),(Instr.mapEntry t (.map (some r)) (kv k)).run P w= .ok (.tuple #[z,.int .i64 c]) w'∧IK kv w' r m k c∧(∀j,j≠r→w'.heap[j]? =w.heap[j]?)∧w'.heap.size=w.heap.size∧(∀B w0,B≤r→Below B w0 w→Below B w0 w'):=by
 obtain⟨es,clock,hb,hm,hst⟩:=h;have hlt:=(Array.getElem?_eq_some_iff.1 hb).1;have hl:=kK k m 0;rw [hk]at hl;have hx:fE k m 0=none:=by
  cases hx:fE k m 0 with
  |none=>rfl
  |some q=>rw [hx]at hl;cases hl
 refine⟨clock,{w with heap:=w.heap.setIfInBounds r (.map (es.push {key:=kv k,val:=z,born:=clock}) (clock+1))},?_,⟨es,z,by simp [hlt],hm,hst⟩,?_,by simp,?_⟩
 ·unfold Instr.mapEntry;simp only [Sem.run_bind,run_underlying ht,Result.andThen,kH hb,K.check,K.find k es.toList m w hm,hx,gF hz,nv _ hb];rfl
 ·intro j hj;simp [Array.getElem?_setIfInBounds_ne (fun e=>hj e.symm)]
 ·intro B w0 hB h0;exact h0.trans ⟨rfl,rfl,rfl,by simp,fun j hj=>by simp [Array.getElem?_setIfInBounds_ne (show r≠j by omega)]⟩
theorem wy (es:Array MapEntry) (x:MapEntry) (v:Value):(es.push x).modify es.size (fun e=>{e with val:=v})=es.push {x with val:=v}:=by
 apply Array.ext
 ·simp
 ·intro i h1 h2;simp only [Array.getElem_modify,Array.getElem_push];simp at h2;by_cases hi:i<es.size
  ·simp [hi,show ¬es.size=i by omega]
  ·simp [show es.size=i by omega]
theorem fQ {w:World} {r:Nat} {m:List (κ×Value)} {k:κ} {c:Nat} (t:TypeId) (h:IK kv w r m k c) (v:Value):
  ∃w':World,(Instr.entryStore t (.map (some r)) (.int .i64 c) v).run P w= .ok () w'∧cv kv w' r (m++ [(k,v)])∧(∀j,j≠r→w'.heap[j]? =w.heap[j]?)∧w'.heap.size=w.heap.size∧(∀B w0,B≤r→Below B w0 w→Below B w0 w'):=by
 obtain⟨es,z,hb,hm,hst⟩:=h;have hlt:=(Array.getElem?_eq_some_iff.1 hb).1;have hf:(es.push {key:=kv k,val:=z,born:=c}).findIdx? (fun e=>((e.born:Int)==(c:Int)))=some es.size:=by
  rw [Array.findIdx?_eq_some_iff_getElem];refine⟨by simp,by simp,fun j hj=>?_⟩;have:=hst es[j] (by simp);simp [Array.getElem_push_lt hj];omega
 refine⟨{w with heap:=w.heap.setIfInBounds r (.map (es.push {key:=kv k,val:=v,born:=c}) (c+1))},?_,⟨es.push {key:=kv k,val:=v,born:=c},c+1,by simp [hlt],by simp [hm],?_⟩,?_,by simp,?_⟩
 ·unfold Instr.entryStore;simp only [Sem.run_bind,Result.andThen,kH hb,asInt,asIntOf,Sem.run_map,Sem.run_pure,hf,wy];exact nv _ hb
 ·intro x hx;rw [Array.toList_push,List.mem_append,List.mem_singleton]at hx;rcases hx with hx |rfl
  ·have:=hst x hx;omega
  ·exact Nat.lt_succ_self _
 ·intro j hj;simp [Array.getElem?_setIfInBounds_ne (fun e=>hj e.symm)]
 ·intro B w0 hB h0;exact h0.trans ⟨rfl,rfl,rfl,by simp,fun j hj=>by simp [Array.getElem?_setIfInBounds_ne (show r≠j by omega)]⟩
theorem m_ {w:World} (t:TypeId):(Instr.makeMap t none).run P w= .ok (.map (some w.heap.size)) (w.alloc (.map #[] 0)):=by
 unfold Instr.makeMap;simp [Sem.run_bind,newObj,Sem.run,Result.andThen]
end
theorem rL {κ:Type} [DecidableEq κ] {kv:κ→Value} {d:TypeDesc} (hs:∀a b,Instr.sameNow d (kv a) (kv b)=some (decide (a=b))) (k:κ):∀(es:List MapEntry) (m:List (κ×Value)) (i:Nat),es.map (fun x=>(x.key,x.val))=m.map (fun p=>(kv p.1,p.2))→Instr.findNow d (kv k) es i=some (fE k m i)
 | [],m,i,h=>by
  have:m= []:=by simpa using h.symm
  subst this;rfl
 |e::es,[],i,h=>by simp at h
 |e::es,p::m,i,h=>by
  simp only [List.map_cons,List.cons.injEq,Prod.mk.injEq]at h;simp only [Instr.findNow,fE];rw [h.1.1,hs];by_cases hk:k=p.1
  ·rw [decide_eq_true hk,if_pos hk,h.1.2]
  ·rw [decide_eq_false hk,if_neg hk];exact rL hs k es m (i+1) h.2
theorem wi {P:Program} {kt:TypeId} {κ:Type} [DecidableEq κ] {kv:κ→Value} {d:TypeDesc} (hd:P.underlying kt=some d) (hs:∀a b,Instr.sameNow d (kv a) (kv b)=some (decide (a=b)))
  (hc:∀(e:Bool) (k:κ) (w:World),(Instr.checkKey e 10000 kt (kv k)).run P w= .ok () w):k_ P kt κ kv:=by
 refine⟨hc,fun k es m w h=>?_⟩;unfold Instr.findKey;simp only [Sem.run_bind,run_underlying hd,Result.andThen,rL hs k es m 0 h,Sem.run_pure]
abbrev jW (n:Int):Value:=.int .i64 n
abbrev ez (s:List UInt8):Value:=.string (str s)
abbrev dq (m:Int×Int):Value:=.agg #[.int .i64 m.1,.int .i64 m.2]
theorem Ef {P:Program} {kt:TypeId} (hd:P.underlying kt=some (.int .i64)):k_ P kt Int jW:=by
 refine wi hd (fun a b=>by simp [Instr.sameNow,jW];exact(Bool.beq_eq_decide_eq a b)) (fun e k w=>?_);unfold Instr.checkKey;simp [run_underlying hd,Result.andThen]
theorem FE {a b:List UInt8} (h:str a=str b):a=b:=by
 have:=congrArg (fun x:ByteArray=>x.data.toList) h;simpa [str]using this
theorem CA {P:Program} {kt:TypeId} (hd:P.underlying kt=some .string):k_ P kt (List UInt8) ez:=by
 refine wi hd (fun a b=>?_) (fun e k w=>?_)
 ·simp only [Instr.sameNow,ez];congr 1;rw [Bool.eq_iff_iff,Go.MapKept.bytes_beq,decide_eq_true_eq];exact⟨FE,fun h=>by rw [h]⟩
 ·unfold Instr.checkKey;simp [run_underlying hd,Result.andThen]
theorem nN {P:Program} {kt:TypeId} (hf:qY P kt [.i,.i]=true) (k:Int×Int):∀(es:List MapEntry) (m:List ((Int×Int)×Value)) (i:Nat) (w:World),es.map (fun x=>(x.key,x.val))=m.map (fun p=>(dq p.1,p.2))→(Instr.findAsking kt (dq k) es i).run P w= .ok (fE k m i) w
 | [],m,i,w,h=>by
  have:m= []:=by simpa using h.symm
  subst this;rfl
 |e::es,[],i,w,h=>by simp at h
 |e::es,p::m,i,w,h=>by
  simp only [List.map_cons,List.cons.injEq,Prod.mk.injEq]at h;have hb:Fu [.i,.i] (#[Value.int .i64 k.1,Value.int .i64 k.2]:Array Value).toList (#[Value.int .i64 p.1.1,Value.int .i64 p.1.2]:Array Value).toList=some (decide (k=p.1)):=by
   have h1:(k.1==p.1.1&&(k.2==p.1.2&&true))=decide (k=p.1):=by
    rw [Bool.eq_iff_iff];simp [Prod.ext_iff]
   rw [←h1];rfl
  obtain⟨hr,_⟩:=lB (w:=w) hf hb;simp only [Instr.findAsking,Sem.run_bind,fE,h.1.1];unfold Op.equal;rw [show(Op.equalIn Op.maxDepth kt (dq k) (dq p.1)).run P w= .ok (decide (k=p.1)) w from hr];by_cases hk:k=p.1
  ·simp [hk,Result.andThen,h.1.2]
  ·simp only [Result.andThen,decide_eq_false hk,if_neg hk];exact nN hf k es m (i+1) w h.2
theorem Bc {P:Program} {kt:TypeId} {fs:Array Field} (hd:P.underlying kt=some (.struct fs)) (hf:qY P kt [.i,.i]=true) (hc:∀(e:Bool) (k:Int×Int) (w:World),(Instr.checkKey e 10000 kt (dq k)).run P w= .ok () w):k_ P kt (Int×Int) dq:=by
 refine⟨hc,fun k es m w h=>?_⟩;unfold Instr.findKey;simp only [Sem.run_bind,run_underlying hd,Result.andThen];cases es with
 |nil=>
  have:m= []:=by simpa using h.symm
  subst this;rfl
 |cons e es=>
  have:Instr.findNow (.struct fs) (dq k) (e::es) 0=none:=by simp [Instr.findNow,Instr.sameNow]
  rw [this];exact nN hf k (e::es) m 0 w h
end Go.Proofs.YtijbcdiffjjefaaGreatDoor.Eng
