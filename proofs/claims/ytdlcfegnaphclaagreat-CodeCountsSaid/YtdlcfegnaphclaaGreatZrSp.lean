/- Two tokens side by side: the walk along their spines, walked by the engine. -/
import Derived.Test.YtdlcfegnaphclaaGreatZrPf
import Derived.Test.YtdlcfegnaphclaaGreatZrBd
import Derived.Test.YtdlcfegnaphclaaGreatZrTab
set_option linter.unusedVariables false
set_option linter.unusedSimpArgs false
set_option maxRecDepth 100000
namespace Go.Proofs.YtdlcfegnaphclaaGreat.Eng
open Go Go.RowKit
abbrev JD:TypeId:=365
def dJ (w:World) (p tp:Nat) (a b limit steps:Int):Prop:=w.heap[p]? =some (.cells #[.int .i64 a,.int .i64 b,.pointer (some ⟨tp,0,none⟩),.int .i64 limit,.int .i64 steps] JD (0,0))
theorem dJ.on {w w':World} {p tp:Nat} {a b limit steps:Int} (h:dJ w p tp a b limit steps) (hb:Below w.heap.size w w'):dJ w' p tp a b limit steps:=ah hb h
def cN (T:List aP) (a:Int):Bool:=decide (bA T a∧bn T a≠(-1, -1))
theorem tE (w:World) (B p tp:Nat) (T:List aP) (a b limit steps:Int) (hT:di w tp T) (h:dJ w p tp a b limit steps) (hB:B≤p) (hs:0≤steps∧steps≤1000000) (hab: -1000000≤b∧b≤1000000):
  CP 276 #[.pointer (some ⟨p,0,none⟩)] w fun e w'=>e= .returned (.bool (cN T a))∧(if cN T a=true then dJ w' p tp (bn T a).2 b a (steps+1)else dJ w' p tp a b limit steps)∧au p w w':=by
 refine aR (vr (some ⟨p,0,none⟩) w (fun v w'=>v= .bool (cN T a)∧(if cN T a=true then dJ w' p tp (bn T a).2 b a (steps+1)else dJ w' p tp a b limit steps)∧au p w w') ?_) (by rintro v w' ⟨rfl,h⟩;exact⟨rfl,h⟩);intro w1 hw1;have hb1:Below w.heap.size w w1:=by subst hw1;exact aO w
 have h1:=h.on hb1;have hpl:p<w.heap.size:=(Array.getElem?_eq_some_iff.1 h).1;have rest:∀(x y:Int) (r1:Bool) (loc:Nat) (wq:World),r1=cN T a→(r1=true→y=(bn T a).2)→loc≠p→dJ wq p tp a b limit steps→wq.heap[loc]? =some (.cells #[.int .i64 x,.int .i64 y] nr (0,0))→au p w wq→
   ∀J:List Value→World→Prop,(∀w5:World,(Value.bool r1= .bool (cN T a)∧(if cN T a=true then dJ w5 p tp (bn T a).2 b a (steps+1)else dJ w5 p tp a b limit steps)∧au p w w5)→J [] w5)→
   ac r1
    (∀w6:World,w6=wq.drew→
     af (some ⟨p,0,none⟩) (fun pa_3=>
     ∃n_4:Int,w6.cell? (((pa_3.add 0).add 0).add 0)=some (Value.int .i64 n_4)∧
     ∃n_6:Int,w6.cell? ((⟨loc,0,none⟩:Addr).add 1)=some (Value.int .i64 n_6)∧
     af (some ⟨p,0,none⟩) (fun pa_6=>
     (Value.int .i64 n_4).oneCell'=true∧(∃u,w6.cell? (pa_6.add 3)=some u)∧w6.frozen? (pa_6.add 3)=false∧
     ∀w7:World,w7=(w6.setCell (pa_6.add 3) (Value.int .i64 n_4))→
     (w7.cell? ((⟨loc,0,none⟩:Addr).add 1)=some (Value.int .i64 n_6)∧True)∧
     af (some ⟨p,0,none⟩) (fun pa_7=>
     (Value.int .i64 n_6).oneCell'=true∧(∃u,w7.cell? (((pa_7.add 0).add 0).add 0)=some u)∧w7.frozen? (((pa_7.add 0).add 0).add 0)=false∧
     ∀w8:World,w8=(w7.setCell (((pa_7.add 0).add 0).add 0) (Value.int .i64 n_6))→
     af (some ⟨p,0,none⟩) (fun pa_8=>
     ∃n_9:Int,w8.cell? (pa_8.add 4)=some (Value.int .i64 n_9)∧
     Ar .i64 ((n_9:Int)+1) (fun n_10=>
     af (some ⟨p,0,none⟩) (fun pa_11=>
     (Value.int .i64 n_10).oneCell'=true∧(∃u,w8.cell? (pa_11.add 4)=some u)∧w8.frozen? (pa_11.add 4)=false∧
     ∀w9:World,w9=(w8.setCell (pa_11.add 4) (Value.int .i64 n_10))→
     J [] w9)))))))
    (J [] wq):=by
  intro x y r1 loc wq hr hy hloc hwq hlq htq J hJ;refine ac.mk (fun h0=>?_) fun h0=>?_
  ·intro w6 hw6;have h6:dJ w6 p tp a b limit steps:=by subst hw6;exact hwq
   have l6:w6.heap[loc]? =some (.cells #[.int .i64 x,.int .i64 y] nr (0,0)):=by subst hw6;exact hlq
   have t6:au p w w6:=by subst hw6;exact htq.trans (au.of_below (aO _))
   have c6:∀j,w6.cell? ⟨p,j,none⟩=_:=fun j=>aM h6;simp only [aC,Nat.zero_add,Nat.add_zero];refine af.mk _ rfl ⟨a,c6 0,⟨y,aM l6,af.mk _ rfl ⟨rfl,⟨_,c6 3⟩,bo h6,?_⟩⟩⟩;intro w7 hw7;have h7:dJ w7 p tp a b a steps:=by subst hw7;exact bD h6 _
   have s7:∀k,k≠p→w7.heap[k]? =w6.heap[k]? :=fun k hk=>by subst hw7;exact aq hk
   have t7:au p w w7:=t6.trans (by subst hw7;exact⟨rfl,rfl,rfl,by rw [aU];exact Nat.le_refl _,fun k _ hk=>aq hk⟩);have c7:∀j,w7.cell? ⟨p,j,none⟩=_:=fun j=>aM h7;refine⟨⟨aM (by rw [s7 loc hloc];exact l6),trivial⟩,af.mk _ rfl ⟨rfl,⟨_,c7 0⟩,bo h7,?_⟩⟩;intro w8 hw8;have h8:dJ w8 p tp y b a steps:=by subst hw8;exact bD h7 _
   have t8:au p w w8:=t7.trans (by subst hw8;exact⟨rfl,rfl,rfl,by rw [aU];exact Nat.le_refl _,fun k _ hk=>aq hk⟩);have c8:∀j,w8.cell? ⟨p,j,none⟩=_:=fun j=>aM h8;refine af.mk _ rfl ⟨steps,c8 4,Ar.ok64 (by omega) (by omega) (af.mk _ rfl ⟨rfl,⟨_,c8 4⟩,bo h8,?_⟩)⟩;intro w9 hw9;have h9:dJ w9 p tp y b a (steps+1):=by subst hw9;exact bD h8 _
   have t9:au p w w9:=t8.trans (by subst hw9;exact⟨rfl,rfl,rfl,by rw [aU];exact Nat.le_refl _,fun k _ hk=>aq hk⟩);refine hJ w9 ⟨by rw [hr],?_,t9⟩;rw [if_pos (by rw [←hr];exact h0), ←hy h0];exact h9
  ·refine hJ wq ⟨by rw [hr],?_,htq⟩;rw [if_neg (by rw [←hr,h0];simp)];exact hwq
 have c1:∀j,w1.cell? ⟨p,j,none⟩=_:=fun j=>aM h1;have hpar:∃(x y:Int),wP T a= .tuple #[.agg #[.int .i64 x,.int .i64 y],.bool (cN T a)]∧(cN T a=true→y=(bn T a).2):=by
  unfold wP cN;by_cases hc:bA T a∧bn T a≠(-1, -1)
  ·rw [if_pos hc,decide_eq_true hc];exact⟨_,_,rfl,fun _=>rfl⟩
  ·rw [if_neg hc,decide_eq_false hc];exact⟨0,0,rfl,fun h=>by cases h⟩
 obtain⟨x,y,hxy,hxy2⟩:=hpar;refine af.mk _ rfl ⟨some ⟨tp,0,none⟩,by simp only [aC,Nat.zero_add];exact c1 2,af.mk _ rfl ⟨a,by simp only [aC,Nat.zero_add,Nat.add_zero];exact c1 0,?_,?_⟩⟩
 ·refine(eL w1 tp T (hT.on hb1) a).mono ?_;rintro e w2 ⟨rfl,hb2⟩;rw [hxy];refine⟨x,y,_,rfl,?_⟩;intro w3 hw3;refine aT [.int .i64 0,.int .i64 0] [.int .i64 x,.int .i64 y] rfl (co _ _) w3 hw3 ?_;intro w4 h4 hz4 hB4;have hb14:=ae hb1 (ae hb2 hB4);have hz2:=(ae hb1 hb2).size;intro J hJ;exact rest x y _ w2.heap.size w4 rfl hxy2 (by omega) (h1.on (ae hb2 hB4)) h4 (au.of_below hb14) J hJ
 ·intro w10 hw10;have hb10:Below w1.heap.size w1 w10:=by subst hw10;exact ag _ _
  have h10:=h1.on hb10;have l10:w10.heap[w1.heap.size]? =some (.cells #[Value.int .i64 0,Value.int .i64 0] nr (0,0)):=by subst hw10;exact ak _ _
  have c10:∀j,w10.cell? ⟨p,j,none⟩=_:=fun j=>aM h10;refine⟨⟨by simp only [aC,Nat.zero_add,Nat.add_zero];exact c10 0,trivial⟩,⟨by simp only [aC,Nat.zero_add];exact c10 2,trivial⟩,?_⟩;refine(eL w10 tp T ((hT.on hb1).on hb10) a).mono ?_;rintro e w11 ⟨rfl,hb11⟩;rw [hxy];refine⟨x,y,_,rfl,?_⟩;have hz1:=hb1.size;refine aS (ah hb11 l10) [.int .i64 x,.int .i64 y] rfl (co _ _) ?_;intro w12 h12 hs12 hz12 hB12;have h12':dJ w12 p tp a b limit steps:=by
   unfold dJ;rw [hs12 p (by omega)];exact h10.on hb11
  have hb112:Below w1.heap.size w1 w12:=hB12 _ _ (Nat.le_refl _) (ae hb10 hb11);intro J hJ;exact rest x y _ w1.heap.size w12 rfl hxy2 (by omega) h12' h12 (au.of_below (ae hb1 hb112)) J hJ
theorem qB (w:World) (B p tp:Nat) (T:List aP) (a b limit steps:Int) (hT:di w tp T) (h:dJ w p tp a b limit steps) (hB:B≤p) (hs:0≤steps∧steps≤1000000) (hab: -1000000≤b∧b≤1000000):
  CP 277 #[.pointer (some ⟨p,0,none⟩)] w fun e w'=>e= .returned (.bool (cN T b))∧(if cN T b=true then dJ w' p tp a (bn T b).1 (b+1) (steps+1)else dJ w' p tp a b limit steps)∧au p w w':=by
 refine aR (zQ (some ⟨p,0,none⟩) w (fun v w'=>v= .bool (cN T b)∧(if cN T b=true then dJ w' p tp a (bn T b).1 (b+1) (steps+1)else dJ w' p tp a b limit steps)∧au p w w') ?_) (by rintro v w' ⟨rfl,h⟩;exact⟨rfl,h⟩);intro w1 hw1;have hb1:Below w.heap.size w w1:=by subst hw1;exact aO w
 have h1:=h.on hb1;have hpl:p<w.heap.size:=(Array.getElem?_eq_some_iff.1 h).1;have rest:∀(x y:Int) (r1:Bool) (loc:Nat) (wq:World),r1=cN T b→(r1=true→x=(bn T b).1)→loc≠p→dJ wq p tp a b limit steps→wq.heap[loc]? =some (.cells #[.int .i64 x,.int .i64 y] nr (0,0))→au p w wq→
   ∀J:List Value→World→Prop,(∀w5:World,(Value.bool r1= .bool (cN T b)∧(if cN T b=true then dJ w5 p tp a (bn T b).1 (b+1) (steps+1)else dJ w5 p tp a b limit steps)∧au p w w5)→J [] w5)→
   ac r1
    (∀w6:World,w6=wq.drew→
     af (some ⟨p,0,none⟩) (fun pa_3=>
     ∃n_4:Int,w6.cell? (((pa_3.add 0).add 0).add 1)=some (Value.int .i64 n_4)∧
     Ar .i64 ((n_4:Int)+1) (fun n_5=>
     ∃n_6:Int,w6.cell? ((⟨loc,0,none⟩:Addr).add 0)=some (Value.int .i64 n_6)∧
     af (some ⟨p,0,none⟩) (fun pa_6=>
     (Value.int .i64 n_5).oneCell'=true∧(∃u,w6.cell? (pa_6.add 3)=some u)∧w6.frozen? (pa_6.add 3)=false∧
     ∀w7:World,w7=(w6.setCell (pa_6.add 3) (Value.int .i64 n_5))→
     (w7.cell? ((⟨loc,0,none⟩:Addr).add 0)=some (Value.int .i64 n_6)∧True)∧
     af (some ⟨p,0,none⟩) (fun pa_7=>
     (Value.int .i64 n_6).oneCell'=true∧(∃u,w7.cell? (((pa_7.add 0).add 0).add 1)=some u)∧w7.frozen? (((pa_7.add 0).add 0).add 1)=false∧
     ∀w8:World,w8=(w7.setCell (((pa_7.add 0).add 0).add 1) (Value.int .i64 n_6))→
     af (some ⟨p,0,none⟩) (fun pa_8=>
     ∃n_9:Int,w8.cell? (pa_8.add 4)=some (Value.int .i64 n_9)∧
     Ar .i64 ((n_9:Int)+1) (fun n_10=>
     af (some ⟨p,0,none⟩) (fun pa_11=>
     (Value.int .i64 n_10).oneCell'=true∧(∃u,w8.cell? (pa_11.add 4)=some u)∧w8.frozen? (pa_11.add 4)=false∧
     ∀w9:World,w9=(w8.setCell (pa_11.add 4) (Value.int .i64 n_10))→
     J [] w9))))))))
    (J [] wq):=by
  intro x y r1 loc wq hr hy hloc hwq hlq htq J hJ;refine ac.mk (fun h0=>?_) fun h0=>?_
  ·intro w6 hw6;have h6:dJ w6 p tp a b limit steps:=by subst hw6;exact hwq
   have l6:w6.heap[loc]? =some (.cells #[.int .i64 x,.int .i64 y] nr (0,0)):=by subst hw6;exact hlq
   have t6:au p w w6:=by subst hw6;exact htq.trans (au.of_below (aO _))
   have c6:∀j,w6.cell? ⟨p,j,none⟩=_:=fun j=>aM h6;simp only [aC,Nat.zero_add,Nat.add_zero];refine af.mk _ rfl ⟨b,c6 1,Ar.ok64 (by omega) (by omega) ⟨x,aM l6,af.mk _ rfl ⟨rfl,⟨_,c6 3⟩,bo h6,?_⟩⟩⟩;intro w7 hw7;have h7:dJ w7 p tp a b (b+1) steps:=by subst hw7;exact bD h6 _
   have s7:∀k,k≠p→w7.heap[k]? =w6.heap[k]? :=fun k hk=>by subst hw7;exact aq hk
   have t7:au p w w7:=t6.trans (by subst hw7;exact⟨rfl,rfl,rfl,by rw [aU];exact Nat.le_refl _,fun k _ hk=>aq hk⟩);have c7:∀j,w7.cell? ⟨p,j,none⟩=_:=fun j=>aM h7;refine⟨⟨aM (by rw [s7 loc hloc];exact l6),trivial⟩,af.mk _ rfl ⟨rfl,⟨_,c7 1⟩,bo h7,?_⟩⟩;intro w8 hw8;have h8:dJ w8 p tp a x (b+1) steps:=by subst hw8;exact bD h7 _
   have t8:au p w w8:=t7.trans (by subst hw8;exact⟨rfl,rfl,rfl,by rw [aU];exact Nat.le_refl _,fun k _ hk=>aq hk⟩);have c8:∀j,w8.cell? ⟨p,j,none⟩=_:=fun j=>aM h8;refine af.mk _ rfl ⟨steps,c8 4,Ar.ok64 (by omega) (by omega) (af.mk _ rfl ⟨rfl,⟨_,c8 4⟩,bo h8,?_⟩)⟩;intro w9 hw9;have h9:dJ w9 p tp a x (b+1) (steps+1):=by subst hw9;exact bD h8 _
   have t9:au p w w9:=t8.trans (by subst hw9;exact⟨rfl,rfl,rfl,by rw [aU];exact Nat.le_refl _,fun k _ hk=>aq hk⟩);refine hJ w9 ⟨by rw [hr],?_,t9⟩;rw [if_pos (by rw [←hr];exact h0), ←hy h0];exact h9
  ·refine hJ wq ⟨by rw [hr],?_,htq⟩;rw [if_neg (by rw [←hr,h0];simp)];exact hwq
 have c1:∀j,w1.cell? ⟨p,j,none⟩=_:=fun j=>aM h1;have hpar:∃(x y:Int),wP T b= .tuple #[.agg #[.int .i64 x,.int .i64 y],.bool (cN T b)]∧(cN T b=true→x=(bn T b).1):=by
  unfold wP cN;by_cases hc:bA T b∧bn T b≠(-1, -1)
  ·rw [if_pos hc,decide_eq_true hc];exact⟨_,_,rfl,fun _=>rfl⟩
  ·rw [if_neg hc,decide_eq_false hc];exact⟨0,0,rfl,fun h=>by cases h⟩
 obtain⟨x,y,hxy,hxy2⟩:=hpar;refine af.mk _ rfl ⟨some ⟨tp,0,none⟩,by simp only [aC,Nat.zero_add];exact c1 2,af.mk _ rfl ⟨b,by simp only [aC,Nat.zero_add,Nat.add_zero];exact c1 1,?_,?_⟩⟩
 ·refine(eL w1 tp T (hT.on hb1) b).mono ?_;rintro e w2 ⟨rfl,hb2⟩;rw [hxy];refine⟨x,y,_,rfl,?_⟩;intro w3 hw3;refine aT [.int .i64 0,.int .i64 0] [.int .i64 x,.int .i64 y] rfl (co _ _) w3 hw3 ?_;intro w4 h4 hz4 hB4;have hb14:=ae hb1 (ae hb2 hB4);have hz2:=(ae hb1 hb2).size;intro J hJ;exact rest x y _ w2.heap.size w4 rfl hxy2 (by omega) (h1.on (ae hb2 hB4)) h4 (au.of_below hb14) J hJ
 ·intro w10 hw10;have hb10:Below w1.heap.size w1 w10:=by subst hw10;exact ag _ _
  have h10:=h1.on hb10;have l10:w10.heap[w1.heap.size]? =some (.cells #[Value.int .i64 0,Value.int .i64 0] nr (0,0)):=by subst hw10;exact ak _ _
  have c10:∀j,w10.cell? ⟨p,j,none⟩=_:=fun j=>aM h10;refine⟨⟨by simp only [aC,Nat.zero_add,Nat.add_zero];exact c10 1,trivial⟩,⟨by simp only [aC,Nat.zero_add];exact c10 2,trivial⟩,?_⟩;refine(eL w10 tp T ((hT.on hb1).on hb10) b).mono ?_;rintro e w11 ⟨rfl,hb11⟩;rw [hxy];refine⟨x,y,_,rfl,?_⟩;have hz1:=hb1.size;refine aS (ah hb11 l10) [.int .i64 x,.int .i64 y] rfl (co _ _) ?_;intro w12 h12 hs12 hz12 hB12;have h12':dJ w12 p tp a b limit steps:=by
   unfold dJ;rw [hs12 p (by omega)];exact h10.on hb11
  have hb112:Below w1.heap.size w1 w12:=hB12 _ _ (Nat.le_refl _) (ae hb10 hb11);intro J hJ;exact rest x y _ w1.heap.size w12 rfl hxy2 (by omega) h12' h12 (au.of_below (ae hb1 hb112)) J hJ
def vi (T:List aP) (t:Int):List Int:=de (bk T t)
theorem cu {T:List aP} (h:gz T):(ap T).length+256=T.length:=by
 have:=h.len;simp [ap];omega
theorem CV {T:List aP} (h:gz T) {i:Nat} (hi:i<256):T[i]? =some (cr i):=by
 have h1:(T.take 256)[i]? =T[i]? :=List.getElem?_take_of_lt hi;rw [←h1,h.low];simp [aG,hi]
theorem oC {T:List aP} (h:gz T) {i:Nat} (hi:i<256):bk T (i:Int)= [UInt8.ofNat i]:=by
 simp [bk,CV h hi,cr]
theorem F4 {T:List aP} (h:gz T) {k:Nat} {m:Int×Int} (hm:(ap T)[k]? =some m):∃e,T[256+k]? =some e∧e.2=m:=by
 simp only [ap,List.getElem?_map,List.getElem?_drop]at hm;obtain⟨e,he,rfl⟩:=Option.map_eq_some_iff.1 hm;exact⟨e,he,rfl⟩
theorem AV {T:List aP} (h:gz T) {k:Nat} {m:Int×Int} (hm:(ap T)[k]? =some m):bk T ((256:Int)+(k:Nat))=bk T m.1++bk T m.2:=by
 obtain⟨e,he,rfl⟩:=F4 h hm;obtain⟨_,_,hs⟩:=h.step (256+k) e he (by omega);rw [←hs];unfold bk;rw [show((256:Int)+(k:Nat)).toNat=256+k by omega,he];rfl
theorem Ah {T:List aP} (h:gz T):∀(n i:Nat),i≤n→i<T.length→bk T (i:Int)≠ []:=by
 intro n;induction n with
 |zero=>
  intro i hi hl;rw [oC h (by omega)];simp
 |succ n ih=>
  intro i hi hl;by_cases h256:i<256
  ·rw [oC h h256];simp
  ·obtain⟨h1,h2,h3⟩:=h.step i _ (List.getElem?_eq_getElem hl) (by omega);have:bk T (i:Int)=T[i].1:=by simp [bk,hl]
   rw [this,h3];have:=ih T[i].2.1.toNat (by omega) (by omega);rw [show((T[i].2.1.toNat:Nat):Int)=T[i].2.1 by omega]at this;simp [this]
theorem vt (a b:Bs):de (a++b)=de a++de b:=by simp [de]
theorem uh {T:List aP} (h:gz T):iE (ap T) (vi T):=by
 have ml:=cu h;refine⟨⟨fun t h0 h1=>?_,fun k m hm=>?_,h.sound,fun k m hm=>?_⟩,fun i m hm=>⟨(eG h hm).1.1,(eG h hm).2.1⟩⟩
 ·obtain⟨i,rfl⟩:∃i:Nat,t=i:=⟨t.toNat,by omega⟩;have hi:i<256:=by omega
  unfold vi;rw [oC h hi];simp [de];omega
 ·unfold vi;rw [AV h hm,vt]
 ·obtain⟨h1,h2⟩:=eG h hm;have hk:=(List.getElem?_eq_some_iff.1 hm).1;have n1:=Ah h m.1.toNat m.1.toNat (Nat.le_refl _) (by omega);have n2:=Ah h m.2.toNat m.2.toNat (Nat.le_refl _) (by omega);rw [show((m.1.toNat:Nat):Int)=m.1 by omega]at n1;rw [show((m.2.toNat:Nat):Int)=m.2 by omega]at n2;exact⟨by simpa [vi,de]using n1,by simpa [vi,de]using n2⟩
def aK (s:ar) (T:List aP):Voc:=⟨ap T,vi T,cutB s.classes s.joins,s.specials.map (·.1)⟩
theorem nO {w:World} {s:ar} {T:List aP} {x:ce} {tp bp mp:Nat} (h:cw w s T x tp bp mp):(aK s T).Ok:=by
 have ml:=cu h.ok;refine⟨uh h.ok,h.nodup,fun t ht=>?_⟩;obtain⟨y,hy,rfl⟩:=List.mem_map.1 ht;have:=h.ids y hy;show 256+((ap T).length:Int)≤y.1;omega
theorem iw {T:List aP} (h:gz T) (t:Int):bA T t↔nh (ap T) t:=by
 have ml:=cu h;unfold bA nh;omega
theorem uT {T:List aP} (h:gz T) (s:Bs):fw T s=after (ap T) (ap T).length (de s):=by
 have ml:=cu h;unfold fw rX after;rw [show((T.length:Int)-256).toNat=(ap T).length by omega]
theorem kS {cut:Int→Int→Bool}:∀l:List Int,dS cut l↔∀(j:Nat) (x y:Int),l[j]? =some x→l[j+1]? =some y→cut x y=false
 | []=>by simp [dS]
 | [x]=>by simp [dS]
 |x::y::r=>by
  simp only [dS,kS (y::r)];constructor
  ·rintro⟨h1,h2⟩ j a b ha hb;cases j with
   |zero=>
    simp at ha hb;rw [←ha, ←hb];exact h1
   |succ j=>exact h2 j a b (by simpa using ha) (by simpa using hb)
  ·intro h;exact⟨h 0 x y rfl rfl,fun j a b ha hb=>h (j+1) a b (by simpa using ha) (by simpa using hb)⟩
theorem uo {cut:Int→Int→Bool} {l:List Int} (hl:l≠ []):(chop cut l).length≤1↔dS cut l:=by
 constructor
 ·intro h;obtain⟨h1,h2⟩:=jx (cut:=cut) l
  match hc:chop cut l with
  | []=>rw [hc]at h2;exact absurd h2.symm hl
  | [p]=>
   rw [hc]at h1 h2;simp at h2;subst h2;exact h1.2
  |p::q::r=>rw [hc]at h;simp at h
 ·intro h;have:=kx (cut:=cut) [l] ⟨hl,h⟩;simp at this;rw [this];simp
theorem xS {c c':Int→Int→Bool} {l:List Int} (h:∀x∈l,∀y∈l,c x y=c' x y):dS c l↔dS c' l:=by
 rw [kS,kS];constructor
 ·intro k j x y hx hy;rw [←h x (List.mem_of_getElem? hx) y (List.mem_of_getElem? hy)];exact k j x y hx hy
 ·intro k j x y hx hy;rw [h x (List.mem_of_getElem? hx) y (List.mem_of_getElem? hy)];exact k j x y hx hy
theorem xU (cut:Int→Int→Bool) (b:Bs):lG cut b=true↔dS cut (de b):=by
 unfold lG;rw [decide_eq_true_eq,kS];have hget:∀j:Nat,(de b)[j]? =(b[j]?).map fun z:UInt8=>(z.toNat:Int):=fun j=>by simp [de]
 constructor
 ·intro h j x y hx hy;rw [hget]at hx hy;obtain⟨u,hu,rfl⟩:=Option.map_eq_some_iff.1 hx;obtain⟨v,hv,rfl⟩:=Option.map_eq_some_iff.1 hy;have hl:=(List.getElem?_eq_some_iff.1 hv).1;have:=h (j+1) hl;unfold fD at this;rw [if_neg (by omega),Nat.add_sub_cancel,hu,hv]at this;simpa using this
 ·intro h j hj;unfold fD;rw [if_neg (by omega)];cases j with
  |zero=>split<;>simp
  |succ j=>
   rw [Nat.add_sub_cancel,List.getElem?_eq_getElem hj,List.getElem?_eq_getElem (show j<b.length by omega)];have:=h j (b[j].toNat) (b[j+1].toNat) (by rw [hget,List.getElem?_eq_getElem (show j<b.length by omega)];rfl) (by rw [hget,List.getElem?_eq_getElem hj];rfl);simp [this]
theorem td (b:Bs):∀x∈de b,0≤x∧x<256:=by
 intro x hx;obtain⟨y,_,rfl⟩:=List.mem_map.1 hx;have:=y.toNat_lt;omega
theorem r_ (V:Voc) {x y:Int} (hx:0≤x) (hy:0≤y):V.cut x y=V.cutB x y:=by
 unfold Voc.cut;rw [decide_eq_false (by omega),decide_eq_false (by omega)];rfl
theorem BP {w:World} {s:ar} {T:List aP} {x:ce} {tp bp mp:Nat} (h:cw w s T x tp bp mp) {i:Nat} (hi:bA T (i:Int)):gC s T i=true↔(aK s T).Canon [(i:Int)]:=by
 have hT:=(iw h.ok _).1 hi;have hok:=nO h;rw [Voc.alone_iff hok (V:=aK s T) hT];have hne:vi T (i:Int)≠ []:=(hok.good.bytes hT).2;have hch:(chop (aK s T).cut ((aK s T).ex (i:Int))).length≤1↔lG (cutB s.classes s.joins) (bk T (i:Int))=true:=by
  show(chop (aK s T).cut (vi T (i:Int))).length≤1↔_;rw [uo hne,xU];exact xS fun x hx y hy=>r_ _ (td _ x hx).1 (td _ y hy).1
 rw [hch];unfold gC cF;rw [Bool.and_eq_true,decide_eq_true_eq,uT h.ok];exact Iff.rfl
theorem Hr {w:World} {s:ar} {T:List aP} {x:ce} {tp bp mp:Nat} (h:cw w s T x tp bp mp) (t:Int):fM s T t=true↔(aK s T).Has t:=by
 unfold fM Voc.Has;rw [decide_eq_true_eq,iw h.ok];exact Or.comm
theorem ie {w:World} {s:ar} {T:List aP} {x:ce} {tp bp mp:Nat} (h:cw w s T x tp bp mp) {t:Int} (ht:(aK s T).Has t):gw s T t=true↔(aK s T).Canon [t]:=by
 have hok:=nO h;unfold gw;rcases ht with ht |ht
 ·have hin:=(iw h.ok t).2 ht;have hn:t∉s.specials.map (·.1):=fun hm=>by
   have h1:256+((ap T).length:Int)≤t:=hok.above t hm;have h2:t<256+(((ap T).length:Nat):Int):=ht.2;omega
  rw [decide_eq_false hn,decide_eq_true hin];have:=BP h (i:=t.toNat) (by rw [show((t.toNat:Nat):Int)=t by have:=hin.1;omega];exact hin);rw [show((t.toNat:Nat):Int)=t by have:=hin.1;omega]at this;simpa using this
 ·have hm:t∈s.specials.map (·.1):=ht;rw [decide_eq_true hm];simp only [Bool.true_or,true_iff];exact Voc.alone_special hok ht
theorem qy {T:List aP} (h:gz T) {a:Int} (ha:bA T a):cN T a=true↔256≤a:=by
 unfold cN;rw [decide_eq_true_eq];have hlt:a.toNat<T.length:=by have:=ha.1;have:=ha.2;omega
 constructor
 ·rintro⟨_,h2⟩;rcases Int.lt_or_le a 256 with h' |h'
  ·exfalso;apply h2;have hl:a.toNat<256:=by have:=ha.1;omega
   simp [bn,CV h hl,cr]
  ·exact h'
 ·intro h256;refine⟨ha,fun e=>?_⟩;obtain⟨h1,_,_⟩:=h.step a.toNat _ (List.getElem?_eq_getElem hlt) (by omega);simp only [bn,List.getElem?_eq_getElem hlt,Option.map_some,Option.getD_some]at e;rw [e]at h1;simp at h1
theorem lz {T:List aP} (h:gz T) {a:Int} (ha:bA T a) (h256:256≤a):∃j:Nat,a=256+(j:Int)∧(ap T)[j]? =some (bn T a):=by
 have hlt:a.toNat<T.length:=by have:=ha.1;have:=ha.2;omega
 refine⟨a.toNat-256,by omega,?_⟩;simp only [ap,List.getElem?_map,List.getElem?_drop];rw [show 256+(a.toNat-256)=a.toNat by omega,List.getElem?_eq_getElem hlt];simp [bn,hlt]
def iV (T:List aP) (a b limit:Int):Bool:=match(ap T).idxOf? (a,b)with
 |some i=>decide (((256+i:Nat):Int) <limit)
 |none=>false
theorem vc (w:World) (p tp:Nat) (T:List aP) (a b limit steps:Int) (hT:di w tp T) (h:dJ w p tp a b limit steps):
  CP 259 #[.pointer (some ⟨p,0,none⟩)] w fun e w'=>e= .returned (.bool (iV T a b limit))∧Below w.heap.size w w':=by
 refine aL (wF (some ⟨p,0,none⟩) w) ?_;intro w1 hw1;have hb1:Below w.heap.size w w1:=by subst hw1;exact aO w
 have h1:=h.on hb1;have c1:∀j,w1.cell? ⟨p,j,none⟩=_:=fun j=>aM h1;refine af.mk _ rfl ⟨_,by simp only [aC,Nat.zero_add];exact c1 2,af.mk _ rfl ⟨a,by simp only [aC,Nat.zero_add,Nat.add_zero];exact c1 0,af.mk _ rfl ⟨b,by simp only [aC,Nat.zero_add,Nat.add_zero];exact c1 1,?_⟩⟩⟩;refine(m_ w1 tp T (hT.on hb1) a b).mono ?_;rintro e w2 ⟨rfl,hb2⟩;have c2:∀j,w2.cell? ⟨p,j,none⟩=_:=fun j=>aM (h1.on hb2);have hb:=ae hb1 hb2;unfold iV;cases hx:(ap T).idxOf? (a,b)with
 |none=>exact⟨_,_,rfl,ac.no rfl ⟨rfl,hb⟩⟩
 |some i=>exact⟨_,_,rfl,ac.yes rfl (af.mk _ rfl ⟨limit,by simp only [aC,Nat.zero_add];exact c2 3,rfl,hb⟩)⟩
theorem Bi (w:World) (B p tp:Nat) (T:List aP) (a b limit steps:Int) (hT:di w tp T) (hok:gz T) (ht:∀w',au p w w'→di w' tp T) (h:dJ w p tp a b limit steps) (hB:B≤p) (hs:0≤steps∧steps≤1000000) (ha:bA T a) (hb:bA T b):
  CP 260 #[.pointer (some ⟨p,0,none⟩)] w fun e w'=>∃r:Bool,e= .returned (.bool r)∧au p w w'∧((r=true∧b<a∧256≤a∧dJ w' p tp (bn T a).2 b a (steps+1))∨(r=true∧a≤b∧256≤b∧dJ w' p tp a (bn T b).1 (b+1) (steps+1))∨(r=false∧a<256∧b<256∧dJ w' p tp a b limit steps)):=by
 refine aL (xM (some ⟨p,0,none⟩) w) ?_;intro w1 hw1;have hb1:Below w.heap.size w w1:=by subst hw1;exact aO w
 have h1:=h.on hb1;have t1:au p w w1:=au.of_below hb1;have c1:∀j,w1.cell? ⟨p,j,none⟩=_:=fun j=>aM h1;have hmost:=hok.most;have a0:=ha.1;have a1:=ha.2;have b0:=hb.1;have b1:=hb.2;have sa:=qy hok ha;have sb:=qy hok hb;refine af.mk _ rfl ⟨a,by simp only [aC,Nat.zero_add,Nat.add_zero];exact c1 0,af.mk _ rfl ⟨b,by simp only [aC,Nat.zero_add,Nat.add_zero];exact c1 1,ac.mk (fun h0=>?_) fun h0=>?_⟩⟩
 ·have h0:=of_decide_eq_true h0;refine(tE w1 B p tp T a b limit steps (ht w1 t1) h1 hB hs (by omega)).mono ?_;rintro e w2 ⟨rfl,hw2,t2⟩;have t12:=t1.trans t2;refine⟨_,rfl,ac.mk (fun h2=>?_) fun h2=>?_⟩
  ·rw [if_pos h2]at hw2;exact⟨true,rfl,t12,.inl ⟨rfl,by omega,sa.1 h2,hw2⟩⟩
  ·rw [if_neg (by rw [h2];simp)]at hw2;have ha256:¬256≤a:=fun hh=>by rw [sa.2 hh]at h2;cases h2
   refine(qB w2 B p tp T a b limit steps (ht w2 t12) hw2 hB hs (by omega)).mono ?_;rintro e w3 ⟨rfl,hw3,t3⟩;have hsb:cN T b=false:=by
    cases hx:cN T b with
    |false=>rfl
    |true=>have:=sb.1 hx;omega
   rw [hsb]at hw3;rw [if_neg (by simp)]at hw3;exact⟨_,rfl,false,by rw [hsb],t12.trans t3,.inr (.inr ⟨rfl,by omega,by omega,hw3⟩)⟩
 ·have h0:=of_decide_eq_false h0;refine(qB w1 B p tp T a b limit steps (ht w1 t1) h1 hB hs (by omega)).mono ?_;rintro e w2 ⟨rfl,hw2,t2⟩;have t12:=t1.trans t2;refine⟨_,rfl,ac.mk (fun h2=>?_) fun h2=>?_⟩
  ·rw [if_pos h2]at hw2;exact⟨true,rfl,t12,.inr (.inl ⟨rfl,by omega,sb.1 h2,hw2⟩)⟩
  ·rw [if_neg (by rw [h2];simp)]at hw2;have hb256:¬256≤b:=fun hh=>by rw [sb.2 hh]at h2;cases h2
   refine(tE w2 B p tp T a b limit steps (ht w2 t12) hw2 hB hs (by omega)).mono ?_;rintro e w3 ⟨rfl,hw3,t3⟩;have hsa:cN T a=false:=by
    cases hx:cN T a with
    |false=>rfl
    |true=>have:=sa.1 hx;omega
   rw [hsa]at hw3;rw [if_neg (by simp)]at hw3;exact⟨_,rfl,false,by rw [hsa],t12.trans t3,.inr (.inr ⟨rfl,by omega,by omega,hw3⟩)⟩
theorem Dv (w:World) (B p tp:Nat) (T:List aP) (a b limit:Int) (hok:gz T) (ht:∀w',au p w w'→di w' tp T) (h:dJ w p tp a b limit 0) (hB:B≤p) (ha:bA T a) (hb:bA T b) (aa:cF (ap T) (vi T) a) (ab:cF (ap T) (vi T) b) (la:a≤limit) (lb:b+1≤limit):
  CP 243 #[.pointer (some ⟨p,0,none⟩)] w fun e w'=>∃r:Bool,e= .returned (.bool r)∧(r=true↔iL (ap T) (vi T) a b limit)∧au p w w':=by
 refine aL (vI (some ⟨p,0,none⟩) w) ?_;intro I hI;have hG:=uh hok;have hmost:=hok.most;have ml:=cu hok;have key:∀(n:Nat) (a' b' limit' steps:Int) (w1:World),a'.toNat+b'.toNat≤n→dJ w1 p tp a' b' limit' steps→au p w w1→bA T a'→bA T b'→cF (ap T) (vi T) a'→cF (ap T) (vi T) b'→a'≤limit'→b'+1≤limit'→0≤steps→steps+a'+b'≤10000→(iL (ap T) (vi T) a' b' limit'↔iL (ap T) (vi T) a b limit)→∀y2:Bool,I [.bool y2] w1:=by
  intro n;induction n using Nat.strongRecOn with
  |ind n ih=>
   intro a' b' limit' steps w1 hn h1 t1 ha' hb' aa' ab' la' lb' hs0 hs1 hF y2;have Ta:=(iw hok a').1 ha';have Tb:=(iw hok b').1 hb';refine hI y2 w1 ?_;refine(vc w1 p tp T a' b' limit' steps (ht w1 t1) h1).mono ?_;rintro e w2 ⟨rfl,hb2⟩;have h2:=h1.on hb2;have t2:=t1.trans (au.of_below hb2);refine⟨_,rfl,ac.mk (fun h0=>?_) fun h0=>?_⟩
   ·have h0:iV T a' b' limit'=false:=by simpa using h0
    have hno:∀i:Nat,(ap T)[i]? =some (a',b')→limit'≤256+(i:Int):=by
     intro i hi;unfold iV at h0;cases hx:(ap T).idxOf? (a',b')with
     |none=>exact absurd (List.mem_of_getElem? hi) (List.idxOf?_eq_none_iff.1 hx)
     |some j=>
      rw [hx]at h0;have h0:=of_decide_eq_false h0;obtain⟨hj,he,hmin⟩:=List.findIdx?_eq_some_iff_getElem.1 hx;have hij:j≤i:=by
       rcases Nat.lt_or_ge i j with hlt |hge
       ·exfalso;have:=hmin i hlt;have hil:=(List.getElem?_eq_some_iff.1 hi);apply this;rw [hil.2];simp
       ·exact hge
      omega
    refine(Bi w2 B p tp T a' b' limit' steps (ht w2 t2) hok (fun w' tt=>ht w' (t2.trans tt)) h2 hB ⟨hs0,by have:=ha'.1;have:=hb'.1;omega⟩ ha' hb').mono ?_;rintro e w3 ⟨r,rfl,t3,hcase⟩;have t13:=t2.trans t3;refine⟨r,rfl,?_⟩;rcases hcase with⟨rfl,hba,h256,hw3⟩ |⟨rfl,hab,h256,hw3⟩ |⟨rfl,h1a,h1b,hw3⟩
    ·obtain⟨j,rfl,hm⟩:=lz hok ha' h256;have hlt:=eG hok hm;obtain⟨q1,_,_,_⟩:=fi hG hm aa';have hj:=(List.getElem?_eq_some_iff.1 hm).1;have hp:=hb'.1;refine ac.no rfl (ih _ ?_ (bn T (256+(j:Int))).2 b' (256+(j:Int)) (steps+1) w3 (Nat.le_refl _) hw3 t13 ⟨hlt.2.1,by omega⟩ hb' ?_ ab' (by omega) (by omega) (by omega) (by omega) ?_ y2)
     ·omega
     ·exact(fi hG hm aa').2.2.2
     ·rw [←hF];exact(Em hG hm Tb aa' ab' hba la' hno).symm
    ·obtain⟨j,rfl,hm⟩:=lz hok hb' h256;have hlt:=eG hok hm;have hj:=(List.getElem?_eq_some_iff.1 hm).1;have hp:=ha'.1;refine ac.no rfl (ih _ ?_ a' (bn T (256+(j:Int))).1 (256+(j:Int)+1) (steps+1) w3 (Nat.le_refl _) hw3 t13 ha' ⟨hlt.1.1,by omega⟩ aa' ?_ (by omega) (by omega) (by omega) (by omega) ?_ y2)
     ·omega
     ·exact(fi hG hm ab').2.2.1
     ·rw [←hF];exact(AC hG hm Ta aa' ab' hab (by omega) hno).symm
    ·refine ac.yes rfl ⟨true,rfl,?_,t13⟩;rw [←hF];exact⟨fun _=>Am hG Ta Tb aa' ab' h1a h1b hno,fun _=>rfl⟩
   ·have h0:iV T a' b' limit'=true:=by simpa using h0
    refine⟨false,rfl,?_,t2⟩;rw [←hF];refine⟨(fun h=>by cases h),fun hfree=>?_⟩;unfold iV at h0;cases hx:(ap T).idxOf? (a',b')with
    |none=>rw [hx]at h0;cases h0
    |some j=>
     rw [hx]at h0;have h0:=of_decide_eq_true h0;obtain⟨hj,he,_⟩:=List.findIdx?_eq_some_iff_getElem.1 hx;exact absurd hfree (vb hG Ta Tb aa' ab' (i:=j) (by rw [List.getElem?_eq_getElem hj];congr 1;simpa using he) (by omega))
 exact key _ a b limit 0 w (Nat.le_refl _) h (au.of_below (Below.refl _ _)) ha hb aa ab la lb (Int.le_refl _) (by have:=ha.2;have:=hb.2;omega) Iff.rfl false
theorem sv (w:World) (tp:Nat) (T:List aP) (hT:di w tp T) (a b:Int):CP 241 #[.pointer (some ⟨tp,0,none⟩),.int .i64 a,.int .i64 b] w fun e w'=>e= .returned (.bool (decide (bA T a∧bA T b)))∧w'=w:=by
 refine aR (yJ (some ⟨tp,0,none⟩) a b w (fun v w'=>v= .bool (decide (bA T a∧bA T b))∧w'=w) ?_) (by rintro v w' ⟨rfl,h⟩;exact⟨rfl,h⟩);have off:¬(bA T a∧bA T b)→(Value.bool false= .bool (decide (bA T a∧bA T b))∧w=w):=fun h=>⟨by rw [decide_eq_false h],rfl⟩;refine ac.mk (fun h0=>?_) fun h0=>off fun h=>?_
 ·have h0:=of_decide_eq_true h0;refine(eX w tp T hT).mono ?_;rintro e w1 ⟨rfl,hw⟩;subst hw;refine⟨_,rfl,ac.mk (fun h1=>?_) fun h1=>off fun h=>?_⟩
  ·have h1:=of_decide_eq_true h1;refine ac.mk (fun h2=>?_) fun h2=>off fun h=>?_
   ·have h2:=of_decide_eq_true h2;refine(eX w1 tp T hT).mono ?_;rintro e w2 ⟨rfl,hw⟩;subst hw;refine⟨_,rfl,?_,rfl⟩;congr 1;exact decide_eq_decide.2 ⟨fun h=>⟨⟨h0,h1⟩,h2,h⟩,fun h=>h.2.2⟩
   ·exact of_decide_eq_false h2 h.2.1
  ·exact of_decide_eq_false h1 h.1.2
 ·exact of_decide_eq_false h0 h.1.1
theorem Dy (w:World) (tp:Nat) (T:List aP) (hT:di w tp T) (hok:gz T) (a b limit:Int) (ha:bA T a) (hb:bA T b) (aa:cF (ap T) (vi T) a) (ab:cF (ap T) (vi T) b) (la:a≤limit) (lb:b+1≤limit):
  CP 203 #[.pointer (some ⟨tp,0,none⟩),.int .i64 a,.int .i64 b,.int .i64 limit] w fun e w'=>∃r:Bool,e= .returned (.bool r)∧(r=true↔iL (ap T) (vi T) a b limit)∧Below w.heap.size w w':=by
 refine aL (xE (some ⟨tp,0,none⟩) a b limit w) ?_;refine(sv w tp T hT a b).mono ?_;rintro e w1 ⟨rfl,hw⟩;subst hw;refine⟨_,rfl,ac.yes (decide_eq_true ⟨ha,hb⟩) ?_⟩;have hbegin:CP 242 #[.pointer (some ⟨tp,0,none⟩),.int .i64 a,.int .i64 b,.int .i64 limit] w1 fun e w'=>e= .returned (.pointer (some (nb w1)))∧w'=w1.alloc (.cells #[Value.int .i64 a,Value.int .i64 b,Value.pointer (some ⟨tp,0,none⟩),Value.int .i64 limit,Value.int .i64 0] JD):=by
  refine aL (zd (some ⟨tp,0,none⟩) a b limit w1) ?_;rintro w2 rfl;exact⟨rfl,rfl⟩
 refine hbegin.mono ?_;rintro e w2 ⟨rfl,hw2⟩;have hb2:Below w1.heap.size w1 w2:=by subst hw2;exact ag _ _
 have h2:dJ w2 w1.heap.size tp a b limit 0:=by subst hw2;exact ak _ _
 refine⟨_,rfl,?_⟩;refine(Dv w2 w1.heap.size w1.heap.size tp T a b limit hok (fun w' t=>hT.on (hb2.trans (t.below (Nat.le_refl _) hb2.size))) h2 (Nat.le_refl _) ha hb aa ab la lb).mono ?_;rintro e w3 ⟨r,rfl,hr,t3⟩;exact⟨r,rfl,r,rfl,hr,hb2.trans (t3.below (Nat.le_refl _) hb2.size)⟩
theorem nz {w:World} {v:Nat} {c:Array Value} {tp bp mp:Nat} (h:mZ w v c tp bp mp) {s:ar} {T:List aP} {x:ce} (hp:cw w s T x tp bp mp) (id:Int):CP 200 #[.pointer (some ⟨v,0,none⟩),.int .i64 id] w fun e w'=>∃r:Bool,e= .returned (.bool r)∧(r=true↔id∈s.specials.map (·.1))∧w'=w:=by
 refine aL (ye (some ⟨v,0,none⟩) id w) ?_;refine(lg h).mono ?_;rintro e w1 ⟨rfl,hw⟩;subst hw;refine⟨_,rfl,(lx w1 mp s.specials hp.marks hp.few id).mono ?_⟩;rintro e w2 ⟨rfl,hw⟩;subst hw;exact⟨_,_,rfl,_,rfl,pS,rfl⟩
theorem Dp (b:Bs):(de b).getLast?=b.getLast?.map fun z:UInt8=>(z.toNat:Int):=by simp [de]
theorem En (b:Bs):(de b).head?=b.head?.map fun z:UInt8=>(z.toNat:Int):=by simp [de]
theorem wW {w:World} {v:Nat} {c:Array Value} {tp bp mp:Nat} (h:mZ w v c tp bp mp) {s:ar} {T:List aP} {x:ce} (hp:cw w s T x tp bp mp) (a b:Int) (ha:(aK s T).Has a) (hb:(aK s T).Has b) (ca:(aK s T).Canon [a]) (cb:(aK s T).Canon [b]):
  CP 150 #[.pointer (some ⟨v,0,none⟩),.int .i64 a,.int .i64 b] w fun e w'=>∃r:Bool,e= .returned (.bool r)∧(r=true↔(aK s T).Pair a b)∧Below w.heap.size w w':=by
 have hok:=nO hp;refine aL (vl (some ⟨v,0,none⟩) a b w) ?_;have mark_cut:∀t:Int,t∈s.specials.map (·.1)→∃z:Int,(aK s T).items t= [z]∧z<0:=by
  intro t ht;obtain⟨i,hi,_⟩:=Voc.place_some (V:=aK s T) ht;refine⟨-1- (i:Int),?_,by omega⟩;unfold Voc.items;rw [hi]
 refine(nz h hp a).mono ?_;rintro e w1 ⟨r1,rfl,hr1,hw⟩;subst hw;refine⟨_,rfl,ac.mk (fun h0=>?_) fun h0=>?_⟩
 ·refine⟨true,rfl,⟨fun _=>?_,fun _=>rfl⟩,Below.refl _ _⟩;obtain⟨z,hz,hneg⟩:=mark_cut a (hr1.1 h0);obtain⟨y,hy⟩:∃y,((aK s T).items b).head?=some y:=by
   cases hx:(aK s T).items b with
   |nil=>exact absurd hx (Voc.items_ne hok hb)
   |cons y t=>exact⟨y,rfl⟩
  exact .inl ⟨z,y,by rw [hz];rfl,hy,by unfold Voc.cut;rw [decide_eq_true hneg];rfl⟩
 have na:a∉s.specials.map (·.1):=fun hm=>by rw [hr1.2 hm]at h0;cases h0
 refine(nz h hp b).mono ?_;rintro e w2 ⟨r2,rfl,hr2,hw⟩;subst hw;refine⟨_,rfl,ac.mk (fun h1=>?_) fun h1=>?_⟩
 ·refine⟨true,rfl,⟨fun _=>?_,fun _=>rfl⟩,Below.refl _ _⟩;obtain⟨z,hz,hneg⟩:=mark_cut b (hr2.1 h1);obtain⟨y,hy⟩:∃y,((aK s T).items a).getLast?=some y:=by
   cases hx:((aK s T).items a).getLast? with
   |none=>exact absurd (List.getLast?_eq_none_iff.1 hx) (Voc.items_ne hok ha)
   |some y=>exact⟨y,rfl⟩
  exact .inl ⟨y,z,hy,by rw [hz];rfl,by unfold Voc.cut;rw [decide_eq_true hneg];simp⟩
 have nb':b∉s.specials.map (·.1):=fun hm=>by rw [hr2.2 hm]at h1;cases h1
 have Ta:nh (ap T) a:=ha.resolve_right na;have Tb:nh (ap T) b:=hb.resolve_right nb';have ia:=(iw hp.ok a).2 Ta;have ib:=(iw hp.ok b).2 Tb;have short:∀t,bA T t→(bk T t).length≤64:=by
  intro t ht;obtain⟨y,hy,hyb⟩:=eR ht;rw [hyb];exact hp.ok.short y (List.mem_of_getElem? hy)
 refine(fY h).mono ?_;rintro e w3 ⟨rfl,hw⟩;subst hw;refine⟨_,rfl,(iM w3 tp T hp.tab a).mono ?_⟩;rintro e w4 ⟨rfl,hw⟩;subst hw;rw [if_pos ia];refine⟨_,_,rfl,(fY h).mono ?_⟩;rintro e w5 ⟨rfl,hw⟩;subst hw;refine⟨_,rfl,(iM w5 tp T hp.tab b).mono ?_⟩;rintro e w6 ⟨rfl,hw⟩;subst hw;rw [if_pos ib];refine⟨_,_,rfl,(rH h).mono ?_⟩;rintro e w7 ⟨rfl,hw⟩;subst hw;refine⟨_,rfl,(um w7 bp s.classes s.joins hp.bound (qG hp.right).1 (bk T a) (bk T b) (by have:=short a ia;omega)).mono ?_⟩;rintro e w8 ⟨rfl,hb8⟩;have hpair:(aK s T).Pair a b↔kF (cutB s.classes s.joins) (bk T a) (bk T b)=true∨(aK s T).Free a b:=by
  unfold Voc.Pair;rw [Voc.items_tok hok (V:=aK s T) Ta,Voc.items_tok hok (V:=aK s T) Tb];show(∃x y,(de (bk T a)).getLast?=some x∧(de (bk T b)).head?=some y∧(aK s T).cut x y=true)∨_↔_;rw [Dp,En];unfold kF;cases h1:(bk T a).getLast? with
  |none=>
   simp only [Option.map_none];constructor
   ·rintro(⟨x,y,hx,_⟩ |h)
    ·cases hx
    ·exact .inr h.2.2
   ·rintro(h |h)
    ·cases h
    ·exact .inr ⟨Ta,Tb,h⟩
  |some z1=>
   cases h2:(bk T b).head? with
   |none=>
    simp only [Option.map_none];constructor
    ·rintro(⟨x,y,_,hy,_⟩ |h)
     ·cases hy
     ·exact .inr h.2.2
    ·rintro(h |h)
     ·cases h
     ·exact .inr ⟨Ta,Tb,h⟩
   |some z2=>
    simp only [Option.map_some];constructor
    ·rintro(⟨x,y,hx,hy,hc⟩ |h)
     ·cases hx;cases hy;rw [r_ _ (by omega) (by omega)]at hc;exact .inl hc
     ·exact .inr h.2.2
    ·rintro(h |h)
     ·exact .inl ⟨_,_,rfl,rfl,by rw [r_ _ (by omega) (by omega)];exact h⟩
     ·exact .inr ⟨Ta,Tb,h⟩
 refine⟨_,rfl,ac.mk (fun h2=>?_) fun h2=>?_⟩
 ·exact⟨true,rfl,⟨fun _=>hpair.2 (.inl h2),fun _=>rfl⟩,hb8⟩
 ·refine(fY (h.on hb8)).mono ?_;rintro e w9 ⟨rfl,hw⟩;subst hw;have hmost:=hp.ok.most;have ml:=cu hp.ok;have a1:=ia.2;have b1:=ib.2;refine⟨_,rfl,(Dy w9 tp T (hp.tab.on hb8) hp.ok a b 9223372036854775807 ia ib ((Voc.alone_iff hok (V:=aK s T) Ta).1 ca).1 ((Voc.alone_iff hok (V:=aK s T) Tb).1 cb).1 (by omega) (by omega)).mono ?_⟩;rintro e w10 ⟨r,rfl,hr,hb10⟩;refine⟨_,rfl,r,rfl,?_,ae hb8 hb10⟩;rw [hr,hpair,h2];constructor
  ·intro hf;exact .inr fun k hk hc=>hf k hk (by change k< (ap T).length at hk;omega) hc
  ·rintro(h |h)
   ·cases h
   ·exact fun k hk _ hc=>h k hk hc
theorem Rw.touch {α:Type} {enc:α→List Value} {sz:Nat} {w w':World} {a:Option Addr} {xs:List α} {v:Nat} (h:Rw enc sz w a xs) (t:au v w w') (ha:xs≠ []→∀p,a=some p→p.block≠v):Rw enc sz w' a xs:=by
 intro j x hj;obtain⟨p,rfl,hp,hc⟩:=h j x hj;refine⟨p,rfl,Nat.lt_of_lt_of_le hp t.size,fun k u hk=>?_⟩;rw [World.cell?_of_block (w:=w) (by rw [ax,ax];exact t.block p.block hp (ha (List.ne_nil_of_mem (List.mem_of_getElem? hj)) p rfl))];exact hc k u hk
instance (V:Voc) (ids:List Int):Decidable (V.Canon ids):=inferInstanceAs (Decidable (V.encode (V.itemsAll ids)=ids))
open Go Go.Value
def OT (a:OA) (b c:Nat) (d:OA) (f g:Nat) (h:OA) (i j:Nat) (k:OA) (l m:Nat) (w:World) (R:RW):Prop:=
 ∀n,n=w.alloc (.cells #[slice a b c,slice d f g,slice h i j,slice k l m] 27)→
 ∃o p q,n.cell? ((nb w).add 0)=some (slice o p q)∧
 ∃r s t,n.cell? ((nb w).add 1)=some (slice r s t)∧
 ∃u x y,n.cell? ((nb w).add 2)=some (slice u x y)∧
 ∃z a1 b1,n.cell? ((nb w).add 3)=some (slice z a1 b1)∧
 CP 57 #[slice o p q,slice r s t,slice u x y,slice z a1 b1] n (fun c1 d1=>
 ∃e1,c1= .returned (bool e1)∧
 ac e1
 (R (int .i64 1) d1)
 (R (int .i64 0) d1))
theorem A5 (a:OA) (b c:Nat) (d:OA) (f g:Nat) (h:OA) (i j:Nat) (k:OA) (l m:Nat) (w:World) (R:RW) (hh:OT a b c d f g h i j k l m w R):CR 11 #[agg #[slice a b c,slice d f g,slice h i j,slice k l m]] w R:=
 aD (fn:=Tryz.f11) (by kernel_rfl) (by kernel_rfl) (by kernel_rfl) (by kernel_rfl) (by kernel_rfl) hh
def Pf (a:OA) (b c:Nat) (d:OA) (f g:Nat) (h:OA) (i j:Nat) (k:OA) (l m:Nat) (w:World) (R:RW):Prop:=
 ac (decide ((b:Int)>60))
 (R (bool true) w)
 (ac (decide ((f:Int)>20))
 (R (bool true) w)
 (ac (decide ((i:Int)>20))
 (R (bool true) w)
 (CP 110 #[slice k l m] w (fun n o=>
 ∃p,n= .returned (bool p)∧
 R (bool p) o))))
theorem Bc (a:OA) (b c:Nat) (d:OA) (f g:Nat) (h:OA) (i j:Nat) (k:OA) (l m:Nat) (w:World) (R:RW) (hh:Pf a b c d f g h i j k l m w R):CR 57 #[slice a b c,slice d f g,slice h i j,slice k l m] w R:=
 aD (fn:=Tryz.f57) (by kernel_rfl) (by kernel_rfl) (by kernel_rfl) (by kernel_rfl) (by kernel_rfl) hh
def O9 (a:OA) (b c:Nat) (d:OA) (f g:Nat) (h:OA) (i j:Nat) (k:OA) (l m:Nat) (w:World) (R:RW):Prop:=
 ∀n,n=w.alloc (.cells #[slice a b c,slice d f g,slice h i j,slice k l m] 27)→
 ∀o,o=n.alloc (.cells #[slice none 0 0,slice none 0 0,slice none 0 0,slice none 0 0,slice none 0 0] 40)→
 ∃p q r,o.cell? ((nb w).add 0)=some (slice p q r)∧
 ∃s t u,o.cell? ((nb w).add 1)=some (slice s t u)∧
 ∃x y z,o.cell? ((nb w).add 2)=some (slice x y z)∧
 ∃a1 b1 c1,o.cell? ((nb w).add 3)=some (slice a1 b1 c1)∧
 CP 111 #[slice p q r,slice s t u,slice x y z,slice a1 b1 c1] o (fun d1 e1=>
 ∃f1 g1 h1 i1 j1 k1 l1 m1 n1 o1 p1 q1 r1 s1 t1 u1,d1= .returned (agg #[bool f1,slice g1 h1 i1,slice j1 k1 l1,slice m1 n1 o1,slice p1 q1 r1,slice s1 t1 u1])∧
 ∀v1,v1=e1.alloc (.cells #[bool false,slice none 0 0,slice none 0 0,slice none 0 0,slice none 0 0,slice none 0 0] 73)→
 aB v1 (nb e1) (fun x1=>
 ∃y1 z1 a2 b2 c2 d2 e2 f2 g2 h2 i2 j2 k2 l2 m2 n2,(x1.cell? (nb e1)=some (bool y1)∧x1.cell? ((nb e1).add 1)=some (slice z1 a2 b2)∧x1.cell? ((nb e1).add 2)=some (slice c2 d2 e2)∧x1.cell? ((nb e1).add 3)=some (slice f2 g2 h2)∧x1.cell? ((nb e1).add 4)=some (slice i2 j2 k2)∧x1.cell? ((nb e1).add 5)=some (slice l2 m2 n2)∧True)∧
 CP 31 #[agg #[bool y1,slice z1 a2 b2,slice c2 d2 e2,slice f2 g2 h2,slice i2 j2 k2,slice l2 m2 n2]] x1 (fun o2 p2=>
 ∃q2 r2 s2,o2= .returned (tuple #[pointer q2,int .i64 r2,int .i64 s2])∧
 ac (s2 != 0)
 (aB p2 (nb n) (fun t2=>
 ∃u2 v2 x2 y2 z2 a3 b3 c3 d3 e3 f3 g3 h3 i3 j3,(t2.cell? (nb n)=some (slice u2 v2 x2)∧t2.cell? ((nb n).add 1)=some (slice y2 z2 a3)∧t2.cell? ((nb n).add 2)=some (slice b3 c3 d3)∧t2.cell? ((nb n).add 3)=some (slice e3 f3 g3)∧t2.cell? ((nb n).add 4)=some (slice h3 i3 j3)∧True)∧
 R (tuple #[pointer none,agg #[slice u2 v2 x2,slice y2 z2 a3,slice b3 c3 d3,slice e3 f3 g3,slice h3 i3 j3]]) t2) [slice none 0 0,slice none 0 0,slice none 0 0,slice none 0 0,slice none 0 0] 0)
 (∃k3 l3 m3 n3 o3 p3 q3 r3 s3 t3 u3 v3 x3 y3 z3 a4,(p2.cell? (nb e1)=some (bool k3)∧p2.cell? ((nb e1).add 1)=some (slice l3 m3 n3)∧p2.cell? ((nb e1).add 2)=some (slice o3 p3 q3)∧p2.cell? ((nb e1).add 3)=some (slice r3 s3 t3)∧p2.cell? ((nb e1).add 4)=some (slice u3 v3 x3)∧p2.cell? ((nb e1).add 5)=some (slice y3 z3 a4)∧True)∧
 CP 112 #[agg #[bool k3,slice l3 m3 n3,slice o3 p3 q3,slice r3 s3 t3,slice u3 v3 x3,slice y3 z3 a4]] p2 (fun b4 c4=>
 ∃d4 e4 f4 g4 h4 i4 j4 k4 l4 m4 n4 o4 p4 q4 r4,b4= .returned (agg #[slice d4 e4 f4,slice g4 h4 i4,slice j4 k4 l4,slice m4 n4 o4,slice p4 q4 r4])∧
 aB c4 (nb n) (fun s4=>
 ∃t4 u4 v4 x4 y4 z4 a5 b5 c5 d5 e5 f5 g5 h5 i5,(s4.cell? (nb n)=some (slice t4 u4 v4)∧s4.cell? ((nb n).add 1)=some (slice x4 y4 z4)∧s4.cell? ((nb n).add 2)=some (slice a5 b5 c5)∧s4.cell? ((nb n).add 3)=some (slice d5 e5 f5)∧s4.cell? ((nb n).add 4)=some (slice g5 h5 i5)∧True)∧
 R (tuple #[pointer q2,agg #[slice t4 u4 v4,slice x4 y4 z4,slice a5 b5 c5,slice d5 e5 f5,slice g5 h5 i5]]) s4) [slice d4 e4 f4,slice g4 h4 i4,slice j4 k4 l4,slice m4 n4 o4,slice p4 q4 r4] 0)))) [bool f1,slice g1 h1 i1,slice j1 k1 l1,slice m1 n1 o1,slice p1 q1 r1,slice s1 t1 u1] 0)
theorem BF (a:OA) (b c:Nat) (d:OA) (f g:Nat) (h:OA) (i j:Nat) (k:OA) (l m:Nat) (w:World) (R:RW) (hh:O9 a b c d f g h i j k l m w R):CR 58 #[agg #[slice a b c,slice d f g,slice h i j,slice k l m]] w R:=
 aD (fn:=Tryz.f58) (by kernel_rfl) (by kernel_rfl) (by kernel_rfl) (by kernel_rfl) (by kernel_rfl) hh
def OS (a:OA) (b c:Nat) (d:OA) (f g:Nat) (h:Int) (w:World) (R:RW):Prop:=
 ∀i,i=w.alloc (.cells #[slice a b c,slice d f g] 36)→
 ac (decide (h≥0))
 (∃j k l,i.cell? ((nb w).add 0)=some (slice j k l)∧
 R (bool (decide (h< (k:Int)))) i)
 (R (bool false) i)
theorem Ca (a:OA) (b c:Nat) (d:OA) (f g:Nat) (h:Int) (w:World) (R:RW) (hh:OS a b c d f g h w R):CR 63 #[agg #[slice a b c,slice d f g],int .i64 h] w R:=
 aD (fn:=Tryz.f63) (by kernel_rfl) (by kernel_rfl) (by kernel_rfl) (by kernel_rfl) (by kernel_rfl) hh
def Mc (a:OA) (b c:Nat) (w:World) (R:RW):Prop:=
 ∀d:KW,(∀(f:Int) (g:Bool) (h:World),(ac (decide (f< (b:Int)))
 (af a (fun i=>
 (0:Int)≤f∧f< (b:Int)∧
 ∃j,h.cell? ((i.add (f.toNat*2)).add 1)=some (string j)∧
 ac (decide (((j.size:Int):Int)>100))
 (R (bool true) h)
 (Ar .i64 (f+1) (fun k=>
 d [int .i64 k,bool g] h))))
 (R (bool (decide ((b:Int)>40))) h))→d [int .i64 f,bool g] h)→
 d [int .i64 0,bool false] w
theorem zZ (a:OA) (b c:Nat) (w:World) (R:RW) (hh:Mc a b c w R):CR 110 #[slice a b c] w R:=
 aD (fn:=Tryz.f110) (by kernel_rfl) (by kernel_rfl) (by kernel_rfl) (by kernel_rfl) (by kernel_rfl) hh
def MP (a:OA) (b c:Nat) (d:OA) (f g:Nat) (h:OA) (i j:Nat) (k:OA) (l m:Nat) (w:World) (R:RW):Prop:=
 ∀n,n=w.alloc (.cells #[bool false,slice none 0 0,slice none 0 0,slice none 0 0,slice none 0 0,slice none 0 0] 73)→
 CP 165 #[slice a b c] n (fun o p=>
 ∃q r s t x y,o= .returned (agg #[slice q r s,slice t x y])∧
 ∀z,z=p.alloc (.cells #[slice none 0 0,slice none 0 0] 36)→
 aB z (nb p) (fun a1=>
 ∃b1 c1 d1,a1.cell? ((nb p).add 1)=some (slice b1 c1 d1)∧
 ∀e1,e1=a1.alloc (.cells #[bool false,slice none 0 0,slice none 0 0,slice none 0 0,slice none 0 0,slice none 0 0] 73)→
 aB e1 (nb a1) (fun f1=>
 ∀g1:KW,(∀(h1:Int) (i1:World),(ac (decide (h1< (f:Int)))
 (ac (decide (h1<8))
 (∀j1:KW,(∀k1:World,(Ar .i64 (h1+1) (fun l1=>
 g1 [int .i64 l1] k1))→j1 [] k1)→
 Ar .i64 (h1+1) (fun m1=>
 (0:Int)≤h1∧h1≤m1∧m1≤(g:Int)∧True∧True∧
 CP 166 #[agg #[slice (bh d h1.toNat (g:Int).toNat 3) (m1.toNat-h1.toNat) ((g:Int).toNat-h1.toNat),slice none 0 0]] i1 (fun n1 o1=>
 ∃p1,n1= .returned (bool p1)∧
 ac p1
 (∀q1,q1=o1.drew→
 ∃r1 s1 t1,q1.cell? ((nb a1).add 4)=some (slice r1 s1 t1)∧
 af d (fun u1=>
 (0:Int)≤h1∧h1< (f:Int)∧
 ∃v1 x1 y1,(q1.cell? (u1.add (h1.toNat*3))=some (int .i64 v1)∧q1.cell? ((u1.add (h1.toNat*3)).add 1)=some (int .i64 x1)∧q1.cell? ((u1.add (h1.toNat*3)).add 2)=some (int .i64 y1)∧True)∧
 ∀z1,z1=q1.alloc (.cells #[int .i64 v1,int .i64 x1,int .i64 y1] 215)→
 (z1.cell? ((nb a1).add 4)=some (slice r1 s1 t1)∧True)∧
 ∃a2 b2 c2 d2,(Builtin.append_ #[23,23] 23 #[slice r1 s1 t1,slice (some (nb q1)) 1 1]).run Tryz.prog z1= .ok (slice a2 b2 c2) d2∧
 (slice a2 b2 c2).oneCell'=true∧(∃u,d2.cell? ((nb a1).add 4)=some u)∧d2.frozen? ((nb a1).add 4)=false∧
 ∀e2,e2=(d2.setCell ((nb a1).add 4) (slice a2 b2 c2))→
 j1 [] e2))
 (j1 [] o1))))
 (∀f2:KW,(∀(g2:Int) (h2:World),(ac (decide (g2< (i:Int)))
 (ac (decide (g2<8))
 (∀i2:KW,(∀j2:World,(Ar .i64 (g2+1) (fun k2=>
 f2 [int .i64 k2] j2))→i2 [] j2)→
 Ar .i64 (g2+1) (fun l2=>
 (0:Int)≤g2∧g2≤l2∧l2≤(j:Int)∧True∧True∧
 CP 166 #[agg #[slice none 0 0,slice (bh h g2.toNat (j:Int).toNat 2) (l2.toNat-g2.toNat) ((j:Int).toNat-g2.toNat)]] h2 (fun m2 n2=>
 ∃o2,m2= .returned (bool o2)∧
 ac o2
 (∀p2,p2=n2.drew→
 ∃q2 r2 s2,p2.cell? ((nb a1).add 5)=some (slice q2 r2 s2)∧
 af h (fun t2=>
 (0:Int)≤g2∧g2< (i:Int)∧
 ∃u2 v2,(p2.cell? (t2.add (g2.toNat*2))=some (int .i64 u2)∧p2.cell? ((t2.add (g2.toNat*2)).add 1)=some (int .i64 v2)∧True)∧
 ∀x2,x2=p2.alloc (.cells #[int .i64 u2,int .i64 v2] 218)→
 (x2.cell? ((nb a1).add 5)=some (slice q2 r2 s2)∧True)∧
 ∃y2 z2 a3 b3,(Builtin.append_ #[24,24] 24 #[slice q2 r2 s2,slice (some (nb p2)) 1 1]).run Tryz.prog x2= .ok (slice y2 z2 a3) b3∧
 (slice y2 z2 a3).oneCell'=true∧(∃u,b3.cell? ((nb a1).add 5)=some u)∧b3.frozen? ((nb a1).add 5)=false∧
 ∀c3,c3=(b3.setCell ((nb a1).add 5) (slice y2 z2 a3))→
 i2 [] c3))
 (i2 [] n2))))
 (∀d3:KW,(∀(e3:Int) (f3:World),(ac (decide (e3< (l:Int)))
 (ac (decide (e3<6))
 (∀g3:KW,(∀h3:World,(Ar .i64 (e3+1) (fun i3=>
 d3 [int .i64 i3] h3))→g3 [] h3)→
 ∀j3,j3=f3.drew→
 ∃k3 l3 m3,j3.cell? ((nb a1).add 3)=some (slice k3 l3 m3)∧
 Ar .i64 ((1000:Int)+e3) (fun n3=>
 af k (fun o3=>
 (0:Int)≤e3∧e3< (l:Int)∧
 ∃p3,j3.cell? ((o3.add (e3.toNat*2)).add 1)=some (string p3)∧
 (∀q3,q3=j3.alloc (.cells #[] 75)→
 (q3.cell? ((o3.add (e3.toNat*2)).add 1)=some (string p3)∧True)∧
 (q3.cell? ((nb a1).add 3)=some (slice k3 l3 m3)∧True)∧
 (∃r3 s3 t3 u3,(Builtin.append_ #[25,25] 25 #[slice (some (nb j3)) 0 0,slice k3 l3 m3]).run Tryz.prog q3= .ok (slice r3 s3 t3) u3∧
 (u3.cell? ((o3.add (e3.toNat*2)).add 1)=some (string p3)∧True)∧
 ∀v3,v3=u3.alloc (.cells #[int .i64 n3,string p3] 75)→
 ∃x3 y3 z3 a4,(Builtin.append_ #[25,25] 25 #[slice r3 s3 t3,slice (some (nb u3)) 1 1]).run Tryz.prog v3= .ok (slice x3 y3 z3) a4∧
 CP 167 #[slice x3 y3 z3] a4 (fun b4 c4=>
 ∃d4 e4,b4= .returned (tuple #[int .i64 d4,int .i64 e4])∧
 ac (e4==0)
 ((slice x3 y3 z3).oneCell'=true∧(∃u,c4.cell? ((nb a1).add 3)=some u)∧c4.frozen? ((nb a1).add 3)=false∧
 ∀f4,f4=(c4.setCell ((nb a1).add 3) (slice x3 y3 z3))→
 g3 [] f4)
 (g3 [] c4)))∧
 (∀g4,g4=q3.alloc (.cells #[int .i64 n3,string p3] 75)→
 (g4.cell? ((nb a1).add 3)=some (slice k3 l3 m3)∧True)∧
 ∃h4 i4 j4 k4,(Builtin.append_ #[25,25] 25 #[slice (some (nb j3)) 0 0,slice k3 l3 m3]).run Tryz.prog g4= .ok (slice h4 i4 j4) k4∧
 ∃l4 m4 n4 o4,(Builtin.append_ #[25,25] 25 #[slice h4 i4 j4,slice (some (nb q3)) 1 1]).run Tryz.prog k4= .ok (slice l4 m4 n4) o4∧
 CP 167 #[slice l4 m4 n4] o4 (fun p4 q4=>
 ∃r4 s4,p4= .returned (tuple #[int .i64 r4,int .i64 s4])∧
 ac (s4==0)
 ((slice l4 m4 n4).oneCell'=true∧(∃u,q4.cell? ((nb a1).add 3)=some u)∧q4.frozen? ((nb a1).add 3)=false∧
 ∀t4,t4=(q4.setCell ((nb a1).add 3) (slice l4 m4 n4))→
 g3 [] t4)
 (g3 [] q4))))∧
 (∀u4,u4=j3.alloc (.cells #[int .i64 n3,string p3] 75)→
 (u4.cell? ((nb a1).add 3)=some (slice k3 l3 m3)∧True)∧
 ∀v4,v4=u4.alloc (.cells #[] 75)→
 (v4.cell? ((nb a1).add 3)=some (slice k3 l3 m3)∧True)∧
 ∃x4 y4 z4 a5,(Builtin.append_ #[25,25] 25 #[slice (some (nb u4)) 0 0,slice k3 l3 m3]).run Tryz.prog v4= .ok (slice x4 y4 z4) a5∧
 ∃b5 c5 d5 e5,(Builtin.append_ #[25,25] 25 #[slice x4 y4 z4,slice (some (nb j3)) 1 1]).run Tryz.prog a5= .ok (slice b5 c5 d5) e5∧
 CP 167 #[slice b5 c5 d5] e5 (fun f5 g5=>
 ∃h5 i5,f5= .returned (tuple #[int .i64 h5,int .i64 i5])∧
 ac (i5==0)
 ((slice b5 c5 d5).oneCell'=true∧(∃u,g5.cell? ((nb a1).add 3)=some u)∧g5.frozen? ((nb a1).add 3)=false∧
 ∀j5,j5=(g5.setCell ((nb a1).add 3) (slice b5 c5 d5))→
 g3 [] j5)
 (g3 [] g5))))))
 (∃k5 l5 m5 n5 o5 p5 q5 r5 s5 t5 u5 v5 x5 y5 z5 a6,(f3.cell? (nb a1)=some (bool k5)∧f3.cell? ((nb a1).add 1)=some (slice l5 m5 n5)∧f3.cell? ((nb a1).add 2)=some (slice o5 p5 q5)∧f3.cell? ((nb a1).add 3)=some (slice r5 s5 t5)∧f3.cell? ((nb a1).add 4)=some (slice u5 v5 x5)∧f3.cell? ((nb a1).add 5)=some (slice y5 z5 a6)∧True)∧
 aB f3 (nb w) (fun b6=>
 ∃c6 d6 e6 f6 g6 h6 i6 j6 k6 l6 m6 n6 o6 p6 q6 r6,(b6.cell? (nb w)=some (bool c6)∧b6.cell? ((nb w).add 1)=some (slice d6 e6 f6)∧b6.cell? ((nb w).add 2)=some (slice g6 h6 i6)∧b6.cell? ((nb w).add 3)=some (slice j6 k6 l6)∧b6.cell? ((nb w).add 4)=some (slice m6 n6 o6)∧b6.cell? ((nb w).add 5)=some (slice p6 q6 r6)∧True)∧
 R (agg #[bool c6,slice d6 e6 f6,slice g6 h6 i6,slice j6 k6 l6,slice m6 n6 o6,slice p6 q6 r6]) b6) [bool k5,slice l5 m5 n5,slice o5 p5 q5,slice r5 s5 t5,slice u5 v5 x5,slice y5 z5 a6] 0))
 (∃s6 t6 u6 v6 x6 y6 z6 a7 b7 c7 d7 e7 f7 g7 h7 i7,(f3.cell? (nb a1)=some (bool s6)∧f3.cell? ((nb a1).add 1)=some (slice t6 u6 v6)∧f3.cell? ((nb a1).add 2)=some (slice x6 y6 z6)∧f3.cell? ((nb a1).add 3)=some (slice a7 b7 c7)∧f3.cell? ((nb a1).add 4)=some (slice d7 e7 f7)∧f3.cell? ((nb a1).add 5)=some (slice g7 h7 i7)∧True)∧
 aB f3 (nb w) (fun j7=>
 ∃k7 l7 m7 n7 o7 p7 q7 r7 s7 t7 u7 v7 x7 y7 z7 a8,(j7.cell? (nb w)=some (bool k7)∧j7.cell? ((nb w).add 1)=some (slice l7 m7 n7)∧j7.cell? ((nb w).add 2)=some (slice o7 p7 q7)∧j7.cell? ((nb w).add 3)=some (slice r7 s7 t7)∧j7.cell? ((nb w).add 4)=some (slice u7 v7 x7)∧j7.cell? ((nb w).add 5)=some (slice y7 z7 a8)∧True)∧
 R (agg #[bool k7,slice l7 m7 n7,slice o7 p7 q7,slice r7 s7 t7,slice u7 v7 x7,slice y7 z7 a8]) j7) [bool s6,slice t6 u6 v6,slice x6 y6 z6,slice a7 b7 c7,slice d7 e7 f7,slice g7 h7 i7] 0))→d3 [int .i64 e3] f3)→
 d3 [int .i64 0] h2))
 (∀b8:KW,(∀(c8:Int) (d8:World),(ac (decide (c8< (l:Int)))
 (ac (decide (c8<6))
 (∀e8:KW,(∀f8:World,(Ar .i64 (c8+1) (fun g8=>
 b8 [int .i64 g8] f8))→e8 [] f8)→
 ∀h8,h8=d8.drew→
 ∃i8 j8 k8,h8.cell? ((nb a1).add 3)=some (slice i8 j8 k8)∧
 Ar .i64 ((1000:Int)+c8) (fun l8=>
 af k (fun m8=>
 (0:Int)≤c8∧c8< (l:Int)∧
 ∃n8,h8.cell? ((m8.add (c8.toNat*2)).add 1)=some (string n8)∧
 (∀o8,o8=h8.alloc (.cells #[] 75)→
 (o8.cell? ((m8.add (c8.toNat*2)).add 1)=some (string n8)∧True)∧
 (o8.cell? ((nb a1).add 3)=some (slice i8 j8 k8)∧True)∧
 (∃p8 q8 r8 s8,(Builtin.append_ #[25,25] 25 #[slice (some (nb h8)) 0 0,slice i8 j8 k8]).run Tryz.prog o8= .ok (slice p8 q8 r8) s8∧
 (s8.cell? ((m8.add (c8.toNat*2)).add 1)=some (string n8)∧True)∧
 ∀t8,t8=s8.alloc (.cells #[int .i64 l8,string n8] 75)→
 ∃u8 v8 x8 y8,(Builtin.append_ #[25,25] 25 #[slice p8 q8 r8,slice (some (nb s8)) 1 1]).run Tryz.prog t8= .ok (slice u8 v8 x8) y8∧
 CP 167 #[slice u8 v8 x8] y8 (fun z8 a9=>
 ∃b9 c9,z8= .returned (tuple #[int .i64 b9,int .i64 c9])∧
 ac (c9==0)
 ((slice u8 v8 x8).oneCell'=true∧(∃u,a9.cell? ((nb a1).add 3)=some u)∧a9.frozen? ((nb a1).add 3)=false∧
 ∀d9,d9=(a9.setCell ((nb a1).add 3) (slice u8 v8 x8))→
 e8 [] d9)
 (e8 [] a9)))∧
 (∀e9,e9=o8.alloc (.cells #[int .i64 l8,string n8] 75)→
 (e9.cell? ((nb a1).add 3)=some (slice i8 j8 k8)∧True)∧
 ∃f9 g9 h9 i9,(Builtin.append_ #[25,25] 25 #[slice (some (nb h8)) 0 0,slice i8 j8 k8]).run Tryz.prog e9= .ok (slice f9 g9 h9) i9∧
 ∃j9 k9 l9 m9,(Builtin.append_ #[25,25] 25 #[slice f9 g9 h9,slice (some (nb o8)) 1 1]).run Tryz.prog i9= .ok (slice j9 k9 l9) m9∧
 CP 167 #[slice j9 k9 l9] m9 (fun n9 o9=>
 ∃p9 q9,n9= .returned (tuple #[int .i64 p9,int .i64 q9])∧
 ac (q9==0)
 ((slice j9 k9 l9).oneCell'=true∧(∃u,o9.cell? ((nb a1).add 3)=some u)∧o9.frozen? ((nb a1).add 3)=false∧
 ∀r9,r9=(o9.setCell ((nb a1).add 3) (slice j9 k9 l9))→
 e8 [] r9)
 (e8 [] o9))))∧
 (∀s9,s9=h8.alloc (.cells #[int .i64 l8,string n8] 75)→
 (s9.cell? ((nb a1).add 3)=some (slice i8 j8 k8)∧True)∧
 ∀t9,t9=s9.alloc (.cells #[] 75)→
 (t9.cell? ((nb a1).add 3)=some (slice i8 j8 k8)∧True)∧
 ∃u9 v9 x9 y9,(Builtin.append_ #[25,25] 25 #[slice (some (nb s9)) 0 0,slice i8 j8 k8]).run Tryz.prog t9= .ok (slice u9 v9 x9) y9∧
 ∃z9 a10 b10 c10,(Builtin.append_ #[25,25] 25 #[slice u9 v9 x9,slice (some (nb h8)) 1 1]).run Tryz.prog y9= .ok (slice z9 a10 b10) c10∧
 CP 167 #[slice z9 a10 b10] c10 (fun d10 e10=>
 ∃f10 g10,d10= .returned (tuple #[int .i64 f10,int .i64 g10])∧
 ac (g10==0)
 ((slice z9 a10 b10).oneCell'=true∧(∃u,e10.cell? ((nb a1).add 3)=some u)∧e10.frozen? ((nb a1).add 3)=false∧
 ∀h10,h10=(e10.setCell ((nb a1).add 3) (slice z9 a10 b10))→
 e8 [] h10)
 (e8 [] e10))))))
 (∃i10 j10 k10 l10 m10 n10 o10 p10 q10 r10 s10 t10 u10 v10 x10 y10,(d8.cell? (nb a1)=some (bool i10)∧d8.cell? ((nb a1).add 1)=some (slice j10 k10 l10)∧d8.cell? ((nb a1).add 2)=some (slice m10 n10 o10)∧d8.cell? ((nb a1).add 3)=some (slice p10 q10 r10)∧d8.cell? ((nb a1).add 4)=some (slice s10 t10 u10)∧d8.cell? ((nb a1).add 5)=some (slice v10 x10 y10)∧True)∧
 aB d8 (nb w) (fun z10=>
 ∃a11 b11 c11 d11 e11 f11 g11 h11 i11 j11 k11 l11 m11 n11 o11 p11,(z10.cell? (nb w)=some (bool a11)∧z10.cell? ((nb w).add 1)=some (slice b11 c11 d11)∧z10.cell? ((nb w).add 2)=some (slice e11 f11 g11)∧z10.cell? ((nb w).add 3)=some (slice h11 i11 j11)∧z10.cell? ((nb w).add 4)=some (slice k11 l11 m11)∧z10.cell? ((nb w).add 5)=some (slice n11 o11 p11)∧True)∧
 R (agg #[bool a11,slice b11 c11 d11,slice e11 f11 g11,slice h11 i11 j11,slice k11 l11 m11,slice n11 o11 p11]) z10) [bool i10,slice j10 k10 l10,slice m10 n10 o10,slice p10 q10 r10,slice s10 t10 u10,slice v10 x10 y10] 0))
 (∃q11 r11 s11 t11 u11 v11 x11 y11 z11 a12 b12 c12 d12 e12 f12 g12,(d8.cell? (nb a1)=some (bool q11)∧d8.cell? ((nb a1).add 1)=some (slice r11 s11 t11)∧d8.cell? ((nb a1).add 2)=some (slice u11 v11 x11)∧d8.cell? ((nb a1).add 3)=some (slice y11 z11 a12)∧d8.cell? ((nb a1).add 4)=some (slice b12 c12 d12)∧d8.cell? ((nb a1).add 5)=some (slice e12 f12 g12)∧True)∧
 aB d8 (nb w) (fun h12=>
 ∃i12 j12 k12 l12 m12 n12 o12 p12 q12 r12 s12 t12 u12 v12 x12 y12,(h12.cell? (nb w)=some (bool i12)∧h12.cell? ((nb w).add 1)=some (slice j12 k12 l12)∧h12.cell? ((nb w).add 2)=some (slice m12 n12 o12)∧h12.cell? ((nb w).add 3)=some (slice p12 q12 r12)∧h12.cell? ((nb w).add 4)=some (slice s12 t12 u12)∧h12.cell? ((nb w).add 5)=some (slice v12 x12 y12)∧True)∧
 R (agg #[bool i12,slice j12 k12 l12,slice m12 n12 o12,slice p12 q12 r12,slice s12 t12 u12,slice v12 x12 y12]) h12) [bool q11,slice r11 s11 t11,slice u11 v11 x11,slice y11 z11 a12,slice b12 c12 d12,slice e12 f12 g12] 0))→b8 [int .i64 c8] d8)→
 b8 [int .i64 0] h2))→f2 [int .i64 g2] h2)→
 f2 [int .i64 0] i1))
 (∀z12:KW,(∀(a13:Int) (b13:World),(ac (decide (a13< (i:Int)))
 (ac (decide (a13<8))
 (∀c13:KW,(∀d13:World,(Ar .i64 (a13+1) (fun e13=>
 z12 [int .i64 e13] d13))→c13 [] d13)→
 Ar .i64 (a13+1) (fun f13=>
 (0:Int)≤a13∧a13≤f13∧f13≤(j:Int)∧True∧True∧
 CP 166 #[agg #[slice none 0 0,slice (bh h a13.toNat (j:Int).toNat 2) (f13.toNat-a13.toNat) ((j:Int).toNat-a13.toNat)]] b13 (fun g13 h13=>
 ∃i13,g13= .returned (bool i13)∧
 ac i13
 (∀j13,j13=h13.drew→
 ∃k13 l13 m13,j13.cell? ((nb a1).add 5)=some (slice k13 l13 m13)∧
 af h (fun n13=>
 (0:Int)≤a13∧a13< (i:Int)∧
 ∃o13 p13,(j13.cell? (n13.add (a13.toNat*2))=some (int .i64 o13)∧j13.cell? ((n13.add (a13.toNat*2)).add 1)=some (int .i64 p13)∧True)∧
 ∀q13,q13=j13.alloc (.cells #[int .i64 o13,int .i64 p13] 218)→
 (q13.cell? ((nb a1).add 5)=some (slice k13 l13 m13)∧True)∧
 ∃r13 s13 t13 u13,(Builtin.append_ #[24,24] 24 #[slice k13 l13 m13,slice (some (nb j13)) 1 1]).run Tryz.prog q13= .ok (slice r13 s13 t13) u13∧
 (slice r13 s13 t13).oneCell'=true∧(∃u,u13.cell? ((nb a1).add 5)=some u)∧u13.frozen? ((nb a1).add 5)=false∧
 ∀v13,v13=(u13.setCell ((nb a1).add 5) (slice r13 s13 t13))→
 c13 [] v13))
 (c13 [] h13))))
 (∀x13:KW,(∀(y13:Int) (z13:World),(ac (decide (y13< (l:Int)))
 (ac (decide (y13<6))
 (∀a14:KW,(∀b14:World,(Ar .i64 (y13+1) (fun c14=>
 x13 [int .i64 c14] b14))→a14 [] b14)→
 ∀d14,d14=z13.drew→
 ∃e14 f14 g14,d14.cell? ((nb a1).add 3)=some (slice e14 f14 g14)∧
 Ar .i64 ((1000:Int)+y13) (fun h14=>
 af k (fun i14=>
 (0:Int)≤y13∧y13< (l:Int)∧
 ∃j14,d14.cell? ((i14.add (y13.toNat*2)).add 1)=some (string j14)∧
 (∀k14,k14=d14.alloc (.cells #[] 75)→
 (k14.cell? ((i14.add (y13.toNat*2)).add 1)=some (string j14)∧True)∧
 (k14.cell? ((nb a1).add 3)=some (slice e14 f14 g14)∧True)∧
 (∃l14 m14 n14 o14,(Builtin.append_ #[25,25] 25 #[slice (some (nb d14)) 0 0,slice e14 f14 g14]).run Tryz.prog k14= .ok (slice l14 m14 n14) o14∧
 (o14.cell? ((i14.add (y13.toNat*2)).add 1)=some (string j14)∧True)∧
 ∀p14,p14=o14.alloc (.cells #[int .i64 h14,string j14] 75)→
 ∃q14 r14 s14 t14,(Builtin.append_ #[25,25] 25 #[slice l14 m14 n14,slice (some (nb o14)) 1 1]).run Tryz.prog p14= .ok (slice q14 r14 s14) t14∧
 CP 167 #[slice q14 r14 s14] t14 (fun u14 v14=>
 ∃x14 y14,u14= .returned (tuple #[int .i64 x14,int .i64 y14])∧
 ac (y14==0)
 ((slice q14 r14 s14).oneCell'=true∧(∃u,v14.cell? ((nb a1).add 3)=some u)∧v14.frozen? ((nb a1).add 3)=false∧
 ∀z14,z14=(v14.setCell ((nb a1).add 3) (slice q14 r14 s14))→
 a14 [] z14)
 (a14 [] v14)))∧
 (∀a15,a15=k14.alloc (.cells #[int .i64 h14,string j14] 75)→
 (a15.cell? ((nb a1).add 3)=some (slice e14 f14 g14)∧True)∧
 ∃b15 c15 d15 e15,(Builtin.append_ #[25,25] 25 #[slice (some (nb d14)) 0 0,slice e14 f14 g14]).run Tryz.prog a15= .ok (slice b15 c15 d15) e15∧
 ∃f15 g15 h15 i15,(Builtin.append_ #[25,25] 25 #[slice b15 c15 d15,slice (some (nb k14)) 1 1]).run Tryz.prog e15= .ok (slice f15 g15 h15) i15∧
 CP 167 #[slice f15 g15 h15] i15 (fun j15 k15=>
 ∃l15 m15,j15= .returned (tuple #[int .i64 l15,int .i64 m15])∧
 ac (m15==0)
 ((slice f15 g15 h15).oneCell'=true∧(∃u,k15.cell? ((nb a1).add 3)=some u)∧k15.frozen? ((nb a1).add 3)=false∧
 ∀n15,n15=(k15.setCell ((nb a1).add 3) (slice f15 g15 h15))→
 a14 [] n15)
 (a14 [] k15))))∧
 (∀o15,o15=d14.alloc (.cells #[int .i64 h14,string j14] 75)→
 (o15.cell? ((nb a1).add 3)=some (slice e14 f14 g14)∧True)∧
 ∀p15,p15=o15.alloc (.cells #[] 75)→
 (p15.cell? ((nb a1).add 3)=some (slice e14 f14 g14)∧True)∧
 ∃q15 r15 s15 t15,(Builtin.append_ #[25,25] 25 #[slice (some (nb o15)) 0 0,slice e14 f14 g14]).run Tryz.prog p15= .ok (slice q15 r15 s15) t15∧
 ∃u15 v15 x15 y15,(Builtin.append_ #[25,25] 25 #[slice q15 r15 s15,slice (some (nb d14)) 1 1]).run Tryz.prog t15= .ok (slice u15 v15 x15) y15∧
 CP 167 #[slice u15 v15 x15] y15 (fun z15 a16=>
 ∃b16 c16,z15= .returned (tuple #[int .i64 b16,int .i64 c16])∧
 ac (c16==0)
 ((slice u15 v15 x15).oneCell'=true∧(∃u,a16.cell? ((nb a1).add 3)=some u)∧a16.frozen? ((nb a1).add 3)=false∧
 ∀d16,d16=(a16.setCell ((nb a1).add 3) (slice u15 v15 x15))→
 a14 [] d16)
 (a14 [] a16))))))
 (∃e16 f16 g16 h16 i16 j16 k16 l16 m16 n16 o16 p16 q16 r16 s16 t16,(z13.cell? (nb a1)=some (bool e16)∧z13.cell? ((nb a1).add 1)=some (slice f16 g16 h16)∧z13.cell? ((nb a1).add 2)=some (slice i16 j16 k16)∧z13.cell? ((nb a1).add 3)=some (slice l16 m16 n16)∧z13.cell? ((nb a1).add 4)=some (slice o16 p16 q16)∧z13.cell? ((nb a1).add 5)=some (slice r16 s16 t16)∧True)∧
 aB z13 (nb w) (fun u16=>
 ∃v16 x16 y16 z16 a17 b17 c17 d17 e17 f17 g17 h17 i17 j17 k17 l17,(u16.cell? (nb w)=some (bool v16)∧u16.cell? ((nb w).add 1)=some (slice x16 y16 z16)∧u16.cell? ((nb w).add 2)=some (slice a17 b17 c17)∧u16.cell? ((nb w).add 3)=some (slice d17 e17 f17)∧u16.cell? ((nb w).add 4)=some (slice g17 h17 i17)∧u16.cell? ((nb w).add 5)=some (slice j17 k17 l17)∧True)∧
 R (agg #[bool v16,slice x16 y16 z16,slice a17 b17 c17,slice d17 e17 f17,slice g17 h17 i17,slice j17 k17 l17]) u16) [bool e16,slice f16 g16 h16,slice i16 j16 k16,slice l16 m16 n16,slice o16 p16 q16,slice r16 s16 t16] 0))
 (∃m17 n17 o17 p17 q17 r17 s17 t17 u17 v17 x17 y17 z17 a18 b18 c18,(z13.cell? (nb a1)=some (bool m17)∧z13.cell? ((nb a1).add 1)=some (slice n17 o17 p17)∧z13.cell? ((nb a1).add 2)=some (slice q17 r17 s17)∧z13.cell? ((nb a1).add 3)=some (slice t17 u17 v17)∧z13.cell? ((nb a1).add 4)=some (slice x17 y17 z17)∧z13.cell? ((nb a1).add 5)=some (slice a18 b18 c18)∧True)∧
 aB z13 (nb w) (fun d18=>
 ∃e18 f18 g18 h18 i18 j18 k18 l18 m18 n18 o18 p18 q18 r18 s18 t18,(d18.cell? (nb w)=some (bool e18)∧d18.cell? ((nb w).add 1)=some (slice f18 g18 h18)∧d18.cell? ((nb w).add 2)=some (slice i18 j18 k18)∧d18.cell? ((nb w).add 3)=some (slice l18 m18 n18)∧d18.cell? ((nb w).add 4)=some (slice o18 p18 q18)∧d18.cell? ((nb w).add 5)=some (slice r18 s18 t18)∧True)∧
 R (agg #[bool e18,slice f18 g18 h18,slice i18 j18 k18,slice l18 m18 n18,slice o18 p18 q18,slice r18 s18 t18]) d18) [bool m17,slice n17 o17 p17,slice q17 r17 s17,slice t17 u17 v17,slice x17 y17 z17,slice a18 b18 c18] 0))→x13 [int .i64 y13] z13)→
 x13 [int .i64 0] b13))
 (∀u18:KW,(∀(v18:Int) (x18:World),(ac (decide (v18< (l:Int)))
 (ac (decide (v18<6))
 (∀y18:KW,(∀z18:World,(Ar .i64 (v18+1) (fun a19=>
 u18 [int .i64 a19] z18))→y18 [] z18)→
 ∀b19,b19=x18.drew→
 ∃c19 d19 e19,b19.cell? ((nb a1).add 3)=some (slice c19 d19 e19)∧
 Ar .i64 ((1000:Int)+v18) (fun f19=>
 af k (fun g19=>
 (0:Int)≤v18∧v18< (l:Int)∧
 ∃h19,b19.cell? ((g19.add (v18.toNat*2)).add 1)=some (string h19)∧
 (∀i19,i19=b19.alloc (.cells #[] 75)→
 (i19.cell? ((g19.add (v18.toNat*2)).add 1)=some (string h19)∧True)∧
 (i19.cell? ((nb a1).add 3)=some (slice c19 d19 e19)∧True)∧
 (∃j19 k19 l19 m19,(Builtin.append_ #[25,25] 25 #[slice (some (nb b19)) 0 0,slice c19 d19 e19]).run Tryz.prog i19= .ok (slice j19 k19 l19) m19∧
 (m19.cell? ((g19.add (v18.toNat*2)).add 1)=some (string h19)∧True)∧
 ∀n19,n19=m19.alloc (.cells #[int .i64 f19,string h19] 75)→
 ∃o19 p19 q19 r19,(Builtin.append_ #[25,25] 25 #[slice j19 k19 l19,slice (some (nb m19)) 1 1]).run Tryz.prog n19= .ok (slice o19 p19 q19) r19∧
 CP 167 #[slice o19 p19 q19] r19 (fun s19 t19=>
 ∃u19 v19,s19= .returned (tuple #[int .i64 u19,int .i64 v19])∧
 ac (v19==0)
 ((slice o19 p19 q19).oneCell'=true∧(∃u,t19.cell? ((nb a1).add 3)=some u)∧t19.frozen? ((nb a1).add 3)=false∧
 ∀x19,x19=(t19.setCell ((nb a1).add 3) (slice o19 p19 q19))→
 y18 [] x19)
 (y18 [] t19)))∧
 (∀y19,y19=i19.alloc (.cells #[int .i64 f19,string h19] 75)→
 (y19.cell? ((nb a1).add 3)=some (slice c19 d19 e19)∧True)∧
 ∃z19 a20 b20 c20,(Builtin.append_ #[25,25] 25 #[slice (some (nb b19)) 0 0,slice c19 d19 e19]).run Tryz.prog y19= .ok (slice z19 a20 b20) c20∧
 ∃d20 e20 f20 g20,(Builtin.append_ #[25,25] 25 #[slice z19 a20 b20,slice (some (nb i19)) 1 1]).run Tryz.prog c20= .ok (slice d20 e20 f20) g20∧
 CP 167 #[slice d20 e20 f20] g20 (fun h20 i20=>
 ∃j20 k20,h20= .returned (tuple #[int .i64 j20,int .i64 k20])∧
 ac (k20==0)
 ((slice d20 e20 f20).oneCell'=true∧(∃u,i20.cell? ((nb a1).add 3)=some u)∧i20.frozen? ((nb a1).add 3)=false∧
 ∀l20,l20=(i20.setCell ((nb a1).add 3) (slice d20 e20 f20))→
 y18 [] l20)
 (y18 [] i20))))∧
 (∀m20,m20=b19.alloc (.cells #[int .i64 f19,string h19] 75)→
 (m20.cell? ((nb a1).add 3)=some (slice c19 d19 e19)∧True)∧
 ∀n20,n20=m20.alloc (.cells #[] 75)→
 (n20.cell? ((nb a1).add 3)=some (slice c19 d19 e19)∧True)∧
 ∃o20 p20 q20 r20,(Builtin.append_ #[25,25] 25 #[slice (some (nb m20)) 0 0,slice c19 d19 e19]).run Tryz.prog n20= .ok (slice o20 p20 q20) r20∧
 ∃s20 t20 u20 v20,(Builtin.append_ #[25,25] 25 #[slice o20 p20 q20,slice (some (nb b19)) 1 1]).run Tryz.prog r20= .ok (slice s20 t20 u20) v20∧
 CP 167 #[slice s20 t20 u20] v20 (fun x20 y20=>
 ∃z20 a21,x20= .returned (tuple #[int .i64 z20,int .i64 a21])∧
 ac (a21==0)
 ((slice s20 t20 u20).oneCell'=true∧(∃u,y20.cell? ((nb a1).add 3)=some u)∧y20.frozen? ((nb a1).add 3)=false∧
 ∀b21,b21=(y20.setCell ((nb a1).add 3) (slice s20 t20 u20))→
 y18 [] b21)
 (y18 [] y20))))))
 (∃c21 d21 e21 f21 g21 h21 i21 j21 k21 l21 m21 n21 o21 p21 q21 r21,(x18.cell? (nb a1)=some (bool c21)∧x18.cell? ((nb a1).add 1)=some (slice d21 e21 f21)∧x18.cell? ((nb a1).add 2)=some (slice g21 h21 i21)∧x18.cell? ((nb a1).add 3)=some (slice j21 k21 l21)∧x18.cell? ((nb a1).add 4)=some (slice m21 n21 o21)∧x18.cell? ((nb a1).add 5)=some (slice p21 q21 r21)∧True)∧
 aB x18 (nb w) (fun s21=>
 ∃t21 u21 v21 x21 y21 z21 a22 b22 c22 d22 e22 f22 g22 h22 i22 j22,(s21.cell? (nb w)=some (bool t21)∧s21.cell? ((nb w).add 1)=some (slice u21 v21 x21)∧s21.cell? ((nb w).add 2)=some (slice y21 z21 a22)∧s21.cell? ((nb w).add 3)=some (slice b22 c22 d22)∧s21.cell? ((nb w).add 4)=some (slice e22 f22 g22)∧s21.cell? ((nb w).add 5)=some (slice h22 i22 j22)∧True)∧
 R (agg #[bool t21,slice u21 v21 x21,slice y21 z21 a22,slice b22 c22 d22,slice e22 f22 g22,slice h22 i22 j22]) s21) [bool c21,slice d21 e21 f21,slice g21 h21 i21,slice j21 k21 l21,slice m21 n21 o21,slice p21 q21 r21] 0))
 (∃k22 l22 m22 n22 o22 p22 q22 r22 s22 t22 u22 v22 x22 y22 z22 a23,(x18.cell? (nb a1)=some (bool k22)∧x18.cell? ((nb a1).add 1)=some (slice l22 m22 n22)∧x18.cell? ((nb a1).add 2)=some (slice o22 p22 q22)∧x18.cell? ((nb a1).add 3)=some (slice r22 s22 t22)∧x18.cell? ((nb a1).add 4)=some (slice u22 v22 x22)∧x18.cell? ((nb a1).add 5)=some (slice y22 z22 a23)∧True)∧
 aB x18 (nb w) (fun b23=>
 ∃c23 d23 e23 f23 g23 h23 i23 j23 k23 l23 m23 n23 o23 p23 q23 r23,(b23.cell? (nb w)=some (bool c23)∧b23.cell? ((nb w).add 1)=some (slice d23 e23 f23)∧b23.cell? ((nb w).add 2)=some (slice g23 h23 i23)∧b23.cell? ((nb w).add 3)=some (slice j23 k23 l23)∧b23.cell? ((nb w).add 4)=some (slice m23 n23 o23)∧b23.cell? ((nb w).add 5)=some (slice p23 q23 r23)∧True)∧
 R (agg #[bool c23,slice d23 e23 f23,slice g23 h23 i23,slice j23 k23 l23,slice m23 n23 o23,slice p23 q23 r23]) b23) [bool k22,slice l22 m22 n22,slice o22 p22 q22,slice r22 s22 t22,slice u22 v22 x22,slice y22 z22 a23] 0))→u18 [int .i64 v18] x18)→
 u18 [int .i64 0] b13))→z12 [int .i64 a13] b13)→
 z12 [int .i64 0] i1))→g1 [int .i64 h1] i1)→
 g1 [int .i64 0] f1) [bool false,slice b1 c1 d1,slice none 0 0,slice none 0 0,slice none 0 0,slice none 0 0] 0) [slice q r s,slice t x y] 0)
theorem vu (a:OA) (b c:Nat) (d:OA) (f g:Nat) (h:OA) (i j:Nat) (k:OA) (l m:Nat) (w:World) (R:RW) (hh:MP a b c d f g h i j k l m w R):CR 111 #[slice a b c,slice d f g,slice h i j,slice k l m] w R:=
 aD (fn:=Tryz.f111) (by kernel_rfl) (by kernel_rfl) (by kernel_rfl) (by kernel_rfl) (by kernel_rfl) hh
def MS (a:Bool) (b:OA) (c d:Nat) (f:OA) (g h:Nat) (i:OA) (j k:Nat) (l:OA) (m n:Nat) (o:OA) (p q:Nat) (w:World) (R:RW):Prop:=
 ∀r,r=w.alloc (.cells #[bool a,slice b c d,slice f g h,slice i j k,slice l m n,slice o p q] 73)→
 ∀s,s=r.alloc (.cells #[slice none 0 0,slice none 0 0,slice none 0 0,slice none 0 0,slice none 0 0] 40)→
 ∃t u x y z a1 b1 c1 d1 e1 f1 g1 h1 i1 j1 k1,(s.cell? (nb w)=some (bool t)∧s.cell? ((nb w).add 1)=some (slice u x y)∧s.cell? ((nb w).add 2)=some (slice z a1 b1)∧s.cell? ((nb w).add 3)=some (slice c1 d1 e1)∧s.cell? ((nb w).add 4)=some (slice f1 g1 h1)∧s.cell? ((nb w).add 5)=some (slice i1 j1 k1)∧True)∧
 CP 168 #[agg #[bool t,slice u x y,slice z a1 b1,slice c1 d1 e1,slice f1 g1 h1,slice i1 j1 k1]] s (fun l1 m1=>
 ∃n1 o1 p1 q1 r1 s1 t1 u1 v1 x1 y1 z1 a2 b2 c2 d2 e2 f2,l1= .returned (tuple #[agg #[slice n1 o1 p1,slice q1 r1 s1,slice t1 u1 v1,slice x1 y1 z1,slice a2 b2 c2],int .i64 d2,int .i64 e2,int .i64 f2])∧
 ∀g2,g2=m1.alloc (.cells #[slice none 0 0,slice none 0 0,slice none 0 0,slice none 0 0,slice none 0 0] 40)→
 aB g2 (nb m1) (fun h2=>
 ∃i2 j2 k2 l2 m2 n2 o2 p2 q2 r2 s2 t2 u2 v2 x2,(h2.cell? (nb m1)=some (slice i2 j2 k2)∧h2.cell? ((nb m1).add 1)=some (slice l2 m2 n2)∧h2.cell? ((nb m1).add 2)=some (slice o2 p2 q2)∧h2.cell? ((nb m1).add 3)=some (slice r2 s2 t2)∧h2.cell? ((nb m1).add 4)=some (slice u2 v2 x2)∧True)∧
 aB h2 (nb r) (fun y2=>
 ∃z2 a3 b3 c3 d3 e3 f3 g3 h3 i3 j3 k3 l3 m3 n3,(y2.cell? (nb r)=some (slice z2 a3 b3)∧y2.cell? ((nb r).add 1)=some (slice c3 d3 e3)∧y2.cell? ((nb r).add 2)=some (slice f3 g3 h3)∧y2.cell? ((nb r).add 3)=some (slice i3 j3 k3)∧y2.cell? ((nb r).add 4)=some (slice l3 m3 n3)∧True)∧
 R (agg #[slice z2 a3 b3,slice c3 d3 e3,slice f3 g3 h3,slice i3 j3 k3,slice l3 m3 n3]) y2) [slice i2 j2 k2,slice l2 m2 n2,slice o2 p2 q2,slice r2 s2 t2,slice u2 v2 x2] 0) [slice n1 o1 p1,slice q1 r1 s1,slice t1 u1 v1,slice x1 y1 z1,slice a2 b2 c2] 0)
theorem wR (a:Bool) (b:OA) (c d:Nat) (f:OA) (g h:Nat) (i:OA) (j k:Nat) (l:OA) (m n:Nat) (o:OA) (p q:Nat) (w:World) (R:RW) (hh:MS a b c d f g h i j k l m n o p q w R):CR 112 #[agg #[bool a,slice b c d,slice f g h,slice i j k,slice l m n,slice o p q]] w R:=
 aD (fn:=Tryz.f112) (by kernel_rfl) (by kernel_rfl) (by kernel_rfl) (by kernel_rfl) (by kernel_rfl) hh
def Oh (a:OA) (b c:Nat) (w:World) (R:RW):Prop:=
 ∀d,d=w.alloc (.cells #[slice none 0 0,slice none 0 0] 36)→
 CP 215 #[] d (fun f g=>
 ∃h i j k l m,f= .returned (agg #[slice h i j,slice k l m])∧
 ∀n,n=g.alloc (.cells #[slice none 0 0,slice none 0 0] 36)→
 aB n (nb g) (fun o=>
 ∀p:KW,(∀(q:Int) (r:World),(Ar .i64 (q+1) (fun s=>
 ac (decide (s< (b:Int)))
 (ac (decide (q<60))
 (∀t:KW,(∀u:World,(Ar .i64 (q+2) (fun x=>
 p [int .i64 x] u))→t [] u)→
 ∀y,y=r.drew→
 af a (fun z=>
 (0:Int)≤q∧q< (b:Int)∧
 ∃a1,y.cell? (z.add (q.toNat*1))=some (int .u16 a1)∧
 ∃b1 c1 d1,y.cell? ((nb g).add 0)=some (slice b1 c1 d1)∧
 ∃e1 f1 g1,y.cell? ((nb g).add 1)=some (slice e1 f1 g1)∧
 Ar .i64 ((c1:Int)+(f1:Int)) (fun h1=>
 h1≠0∧
 Ar .i64 (q+1) (fun i1=>
 af a (fun j1=>
 (0:Int)≤i1∧i1< (b:Int)∧
 ∃k1,y.cell? (j1.add (i1.toNat*1))=some (int .u16 k1)∧
 ∃l1 m1 n1,y.cell? ((nb g).add 0)=some (slice l1 m1 n1)∧
 ∃o1 p1 q1,y.cell? ((nb g).add 1)=some (slice o1 p1 q1)∧
 Ar .i64 ((m1:Int)+(p1:Int)) (fun r1=>
 r1≠0∧
 ∀s1:KW,(∀(t1:Int) (u1:World),(∀v1:KW,(∀(x1:Int) (y1:World),(∃z1 a2 b2 c2 d2 e2,(y1.cell? (nb g)=some (slice z1 a2 b2)∧y1.cell? ((nb g).add 1)=some (slice c2 d2 e2)∧True)∧
 CP 216 #[agg #[slice z1 a2 b2,slice c2 d2 e2],agg #[int .i64 t1,int .i64 x1]] y1 (fun f2 g2=>
 ∃h2 i2 j2 k2 l2 m2 n2,f2= .returned (tuple #[agg #[slice h2 i2 j2,slice k2 l2 m2],int .i64 n2])∧
 ∀o2,o2=g2.alloc (.cells #[slice none 0 0,slice none 0 0] 36)→
 aB o2 (nb g2) (fun p2=>
 ac (n2==0)
 (∃q2 r2 s2 t2 u2 v2,(p2.cell? (nb g2)=some (slice q2 r2 s2)∧p2.cell? ((nb g2).add 1)=some (slice t2 u2 v2)∧True)∧
 aB p2 (nb g) (fun x2=>
 t [] x2) [slice q2 r2 s2,slice t2 u2 v2] 0)
 (t [] p2)) [slice h2 i2 j2,slice k2 l2 m2] 0))→v1 [int .i64 x1] y1)→
 ∃y2 z2 a3,u1.cell? ((nb g).add 0)=some (slice y2 z2 a3)∧
 ac (decide ((Int.tmod (IntKind.wrap .i64 k1) r1:Int)≥(z2:Int)))
 (Ar .i64 ((256:Int)+(Int.tmod (IntKind.wrap .i64 k1) r1)) (fun b3=>
 ∃c3 d3 e3,u1.cell? ((nb g).add 0)=some (slice c3 d3 e3)∧
 Ar .i64 (b3- (d3:Int)) (fun f3=>
 v1 [int .i64 f3] u1)))
 (v1 [int .i64 (Int.tmod (IntKind.wrap .i64 k1) r1)] u1))→s1 [int .i64 t1] u1)→
 ∃g3 h3 i3,y.cell? ((nb g).add 0)=some (slice g3 h3 i3)∧
 ac (decide ((Int.tmod (IntKind.wrap .i64 a1) h1:Int)≥(h3:Int)))
 (Ar .i64 ((256:Int)+(Int.tmod (IntKind.wrap .i64 a1) h1)) (fun j3=>
 ∃k3 l3 m3,y.cell? ((nb g).add 0)=some (slice k3 l3 m3)∧
 Ar .i64 (j3- (l3:Int)) (fun n3=>
 s1 [int .i64 n3] y)))
 (s1 [int .i64 (Int.tmod (IntKind.wrap .i64 a1) h1)] y)))))))
 (∃o3 p3 q3 r3 s3 t3,(r.cell? (nb g)=some (slice o3 p3 q3)∧r.cell? ((nb g).add 1)=some (slice r3 s3 t3)∧True)∧
 aB r (nb w) (fun u3=>
 ∃v3 x3 y3 z3 a4 b4,(u3.cell? (nb w)=some (slice v3 x3 y3)∧u3.cell? ((nb w).add 1)=some (slice z3 a4 b4)∧True)∧
 R (agg #[slice v3 x3 y3,slice z3 a4 b4]) u3) [slice o3 p3 q3,slice r3 s3 t3] 0))
 (∃c4 d4 e4 f4 g4 h4,(r.cell? (nb g)=some (slice c4 d4 e4)∧r.cell? ((nb g).add 1)=some (slice f4 g4 h4)∧True)∧
 aB r (nb w) (fun i4=>
 ∃j4 k4 l4 m4 n4 o4,(i4.cell? (nb w)=some (slice j4 k4 l4)∧i4.cell? ((nb w).add 1)=some (slice m4 n4 o4)∧True)∧
 R (agg #[slice j4 k4 l4,slice m4 n4 o4]) i4) [slice c4 d4 e4,slice f4 g4 h4] 0)))→p [int .i64 q] r)→
 p [int .i64 0] o) [slice h i j,slice k l m] 0)
theorem yx (a:OA) (b c:Nat) (w:World) (R:RW) (hh:Oh a b c w R):CR 165 #[slice a b c] w R:=
 aD (fn:=Tryz.f165) (by kernel_rfl) (by kernel_rfl) (by kernel_rfl) (by kernel_rfl) (by kernel_rfl) hh
def Ms (a:OA) (b c:Nat) (d:OA) (f g:Nat) (w:World) (R:RW):Prop:=
 ∀h,h=w.alloc (.cells #[slice a b c,slice d f g] 38)→
 ∀i:KW,(∀(j:Int) (k:Bool) (l:World),(∃m n o,l.cell? ((nb w).add 0)=some (slice m n o)∧
 ac (decide (j< (n:Int)))
 (∃p q r,l.cell? ((nb w).add 0)=some (slice p q r)∧
 af p (fun s=>
 (0:Int)≤j∧j< (q:Int)∧
 ∃t u x,(l.cell? (s.add (j.toNat*3))=some (int .i64 t)∧l.cell? ((s.add (j.toNat*3)).add 1)=some (int .i64 u)∧l.cell? ((s.add (j.toNat*3)).add 2)=some (int .i64 x)∧True)∧
 ∀y,y=l.alloc (.cells #[int .i64 0,int .i64 0,int .i64 0] 215)→
 aB y (nb l) (fun z=>
 ∃a1,z.cell? ((nb l).add 0)=some (int .i64 a1)∧
 ac (decide (a1<0))
 (R (bool false) z)
 (∃b1,z.cell? ((nb l).add 1)=some (int .i64 b1)∧
 ∃c1,z.cell? ((nb l).add 0)=some (int .i64 c1)∧
 ac (decide (b1<c1))
 (R (bool false) z)
 (∃d1,z.cell? ((nb l).add 1)=some (int .i64 d1)∧
 ac (decide (d1>255))
 (R (bool false) z)
 (∃e1,z.cell? ((nb l).add 2)=some (int .i64 e1)∧
 ac (decide (e1<0))
 (R (bool false) z)
 (∃f1,z.cell? ((nb l).add 2)=some (int .i64 f1)∧
 ac (decide (f1>15))
 (R (bool false) z)
 (Ar .i64 (j+1) (fun g1=>
 i [int .i64 g1,bool k] z))))))) [int .i64 t,int .i64 u,int .i64 x] 0))
 (∀h1:KW,(∀(i1:Int) (j1:Bool) (k1:World),(∃l1 m1 n1,k1.cell? ((nb w).add 1)=some (slice l1 m1 n1)∧
 ac (decide (i1< (m1:Int)))
 (∃o1 p1 q1,k1.cell? ((nb w).add 1)=some (slice o1 p1 q1)∧
 af o1 (fun r1=>
 (0:Int)≤i1∧i1< (p1:Int)∧
 ∃s1 t1,(k1.cell? (r1.add (i1.toNat*2))=some (int .i64 s1)∧k1.cell? ((r1.add (i1.toNat*2)).add 1)=some (int .i64 t1)∧True)∧
 ∀u1,u1=k1.alloc (.cells #[int .i64 0,int .i64 0] 218)→
 aB u1 (nb k1) (fun v1=>
 ∃x1,v1.cell? ((nb k1).add 0)=some (int .i64 x1)∧
 ac (decide (x1<0))
 (R (bool false) v1)
 (∃y1,v1.cell? ((nb k1).add 0)=some (int .i64 y1)∧
 ac (decide (y1>15))
 (R (bool false) v1)
 (∃z1,v1.cell? ((nb k1).add 1)=some (int .i64 z1)∧
 ac (decide (z1<0))
 (R (bool false) v1)
 (∃a2,v1.cell? ((nb k1).add 1)=some (int .i64 a2)∧
 ac (decide (a2>15))
 (R (bool false) v1)
 (Ar .i64 (i1+1) (fun b2=>
 h1 [int .i64 b2,bool j1] v1)))))) [int .i64 s1,int .i64 t1] 0))
 (R (bool true) k1))→h1 [int .i64 i1,bool j1] k1)→
 h1 [int .i64 0,bool k] l))→i [int .i64 j,bool k] l)→
 i [int .i64 0,bool false] h
theorem vV (a:OA) (b c:Nat) (d:OA) (f g:Nat) (w:World) (R:RW) (hh:Ms a b c d f g w R):CR 166 #[agg #[slice a b c,slice d f g]] w R:=
 aD (fn:=Tryz.f166) (by kernel_rfl) (by kernel_rfl) (by kernel_rfl) (by kernel_rfl) (by kernel_rfl) hh
def LY (a:OA) (b c:Nat) (w:World) (R:RW):Prop:=
 ∀d:KW,(∀(f g h:Int) (i:World),(ac (decide (f< (b:Int)))
 (af a (fun j=>
 (0:Int)≤f∧f< (b:Int)∧
 ∃k,i.cell? ((j.add (f.toNat*2)).add 0)=some (int .i64 k)∧
 ac (decide (k<0))
 (R (tuple #[int .i64 f,int .i64 1]) i)
 (af a (fun l=>
 (0:Int)≤f∧f< (b:Int)∧
 ∃m,i.cell? ((l.add (f.toNat*2)).add 0)=some (int .i64 m)∧
 ac (decide (m>1073741824))
 (R (tuple #[int .i64 f,int .i64 1]) i)
 (af a (fun n=>
 (0:Int)≤f∧f< (b:Int)∧
 ∃o,i.cell? ((n.add (f.toNat*2)).add 1)=some (string o)∧
 ac (decide (((o.size:Int):Int) <1))
 (R (tuple #[int .i64 f,int .i64 1]) i)
 (af a (fun p=>
 (0:Int)≤f∧f< (b:Int)∧
 ∃q,i.cell? ((p.add (f.toNat*2)).add 1)=some (string q)∧
 ac (decide (((q.size:Int):Int)>64))
 (R (tuple #[int .i64 f,int .i64 1]) i)
 (ac (decide (f≥32))
 (R (tuple #[int .i64 f,int .i64 3]) i)
 (∀r:KW,(∀(s t u:Int) (x:World),(ac (decide (s<f))
 (∀y,y=x.drew→
 af a (fun z=>
 (0:Int)≤s∧s< (b:Int)∧
 ∃a1,y.cell? ((z.add (s.toNat*2)).add 0)=some (int .i64 a1)∧
 af a (fun b1=>
 (0:Int)≤f∧f< (b:Int)∧
 ∃c1,y.cell? ((b1.add (f.toNat*2)).add 0)=some (int .i64 c1)∧
 ac (a1==c1)
 (R (tuple #[int .i64 f,int .i64 10]) y)
 (af a (fun d1=>
 (0:Int)≤s∧s< (b:Int)∧
 ∃e1,y.cell? ((d1.add (s.toNat*2)).add 1)=some (string e1)∧
 af a (fun f1=>
 (0:Int)≤f∧f< (b:Int)∧
 ∃g1,y.cell? ((f1.add (f.toNat*2)).add 1)=some (string g1)∧
 ac (e1.toList==g1.toList)
 (R (tuple #[int .i64 f,int .i64 10]) y)
 (Ar .i64 (s+1) (fun h1=>
 r [int .i64 h1,int .i64 t,int .i64 u] y))))))))
 (Ar .i64 (f+1) (fun i1=>
 d [int .i64 i1,int .i64 t,int .i64 u] x)))→r [int .i64 s,int .i64 t,int .i64 u] x)→
 r [int .i64 0,int .i64 g,int .i64 h] i))))))))))
 (R (tuple #[int .i64 (b:Int),int .i64 0]) i))→d [int .i64 f,int .i64 g,int .i64 h] i)→
 d [int .i64 0,int .i64 0,int .i64 0] w
theorem wZ (a:OA) (b c:Nat) (w:World) (R:RW) (hh:LY a b c w R):CR 167 #[slice a b c] w R:=
 aD (fn:=Tryz.f167) (by kernel_rfl) (by kernel_rfl) (by kernel_rfl) (by kernel_rfl) (by kernel_rfl) hh
def Ls (a:Bool) (b:OA) (c d:Nat) (f:OA) (g h:Nat) (i:OA) (j k:Nat) (l:OA) (m n:Nat) (o:OA) (p q:Nat) (w:World) (R:RW):Prop:=
 ∀r,r=w.alloc (.cells #[bool a,slice b c d,slice f g h,slice i j k,slice l m n,slice o p q] 73)→
 ∀s,s=r.alloc (.cells #[slice none 0 0,slice none 0 0,slice none 0 0,slice none 0 0,slice none 0 0] 40)→
 ∃t u x y z a1 b1 c1 d1 e1 f1 g1 h1 i1 j1 k1,(s.cell? (nb w)=some (bool t)∧s.cell? ((nb w).add 1)=some (slice u x y)∧s.cell? ((nb w).add 2)=some (slice z a1 b1)∧s.cell? ((nb w).add 3)=some (slice c1 d1 e1)∧s.cell? ((nb w).add 4)=some (slice f1 g1 h1)∧s.cell? ((nb w).add 5)=some (slice i1 j1 k1)∧True)∧
 CP 217 #[agg #[bool t,slice u x y,slice z a1 b1,slice c1 d1 e1,slice f1 g1 h1,slice i1 j1 k1]] s (fun l1 m1=>
 ∃n1 o1 p1 q1 r1 s1 t1 u1,l1= .returned (tuple #[agg #[slice n1 o1 p1,slice q1 r1 s1],int .i64 t1,int .i64 u1])∧
 ∀v1,v1=m1.alloc (.cells #[slice none 0 0,slice none 0 0] 36)→
 aB v1 (nb m1) (fun x1=>
 ac (u1 != 0)
 (aB x1 (nb r) (fun y1=>
 ∃z1 a2 b2 c2 d2 e2 f2 g2 h2 i2 j2 k2 l2 m2 n2,(y1.cell? (nb r)=some (slice z1 a2 b2)∧y1.cell? ((nb r).add 1)=some (slice c2 d2 e2)∧y1.cell? ((nb r).add 2)=some (slice f2 g2 h2)∧y1.cell? ((nb r).add 3)=some (slice i2 j2 k2)∧y1.cell? ((nb r).add 4)=some (slice l2 m2 n2)∧True)∧
 R (tuple #[agg #[slice z1 a2 b2,slice c2 d2 e2,slice f2 g2 h2,slice i2 j2 k2,slice l2 m2 n2],int .i64 1,int .i64 t1,int .i64 u1]) y1) [slice none 0 0,slice none 0 0,slice none 0 0,slice none 0 0,slice none 0 0] 0)
 (∃o2 p2 q2,x1.cell? ((nb w).add 3)=some (slice o2 p2 q2)∧
 CP 167 #[slice o2 p2 q2] x1 (fun r2 s2=>
 ∃t2 u2,r2= .returned (tuple #[int .i64 t2,int .i64 u2])∧
 ac (u2 != 0)
 (aB s2 (nb r) (fun v2=>
 ∃x2 y2 z2 a3 b3 c3 d3 e3 f3 g3 h3 i3 j3 k3 l3,(v2.cell? (nb r)=some (slice x2 y2 z2)∧v2.cell? ((nb r).add 1)=some (slice a3 b3 c3)∧v2.cell? ((nb r).add 2)=some (slice d3 e3 f3)∧v2.cell? ((nb r).add 3)=some (slice g3 h3 i3)∧v2.cell? ((nb r).add 4)=some (slice j3 k3 l3)∧True)∧
 R (tuple #[agg #[slice x2 y2 z2,slice a3 b3 c3,slice d3 e3 f3,slice g3 h3 i3,slice j3 k3 l3],int .i64 2,int .i64 t2,int .i64 u2]) v2) [slice none 0 0,slice none 0 0,slice none 0 0,slice none 0 0,slice none 0 0] 0)
 (∀m3:KW,(∀(n3 o3 p3 q3:Int) (r3:World),(∃s3 t3 u3,r3.cell? ((nb w).add 3)=some (slice s3 t3 u3)∧
 ac (decide (n3< (t3:Int)))
 (∀v3,v3=r3.drew→
 ∃x3 y3 z3,v3.cell? ((nb w).add 3)=some (slice x3 y3 z3)∧
 af x3 (fun a4=>
 (0:Int)≤n3∧n3< (y3:Int)∧
 ∃b4,v3.cell? ((a4.add (n3.toNat*2)).add 0)=some (int .i64 b4)∧
 ∃c4 d4 e4,v3.cell? ((nb m1).add 0)=some (slice c4 d4 e4)∧
 ac (decide (b4< (d4:Int)))
 (aB v3 (nb r) (fun f4=>
 ∃g4 h4 i4 j4 k4 l4 m4 n4 o4 p4 q4 r4 s4 t4 u4,(f4.cell? (nb r)=some (slice g4 h4 i4)∧f4.cell? ((nb r).add 1)=some (slice j4 k4 l4)∧f4.cell? ((nb r).add 2)=some (slice m4 n4 o4)∧f4.cell? ((nb r).add 3)=some (slice p4 q4 r4)∧f4.cell? ((nb r).add 4)=some (slice s4 t4 u4)∧True)∧
 R (tuple #[agg #[slice g4 h4 i4,slice j4 k4 l4,slice m4 n4 o4,slice p4 q4 r4,slice s4 t4 u4],int .i64 2,int .i64 n3,int .i64 4]) f4) [slice none 0 0,slice none 0 0,slice none 0 0,slice none 0 0,slice none 0 0] 0)
 (Ar .i64 (n3+1) (fun v4=>
 m3 [int .i64 v4,int .i64 o3,int .i64 p3,int .i64 q3] v3))))
 (∃x4 y4 z4 a5 b5 c5,(r3.cell? (nb m1)=some (slice x4 y4 z4)∧r3.cell? ((nb m1).add 1)=some (slice a5 b5 c5)∧True)∧
 ∃d5 e5 f5,r3.cell? ((nb w).add 4)=some (slice d5 e5 f5)∧
 ∃g5 h5 i5,r3.cell? ((nb w).add 5)=some (slice g5 h5 i5)∧
 ∃j5 k5 l5,r3.cell? ((nb w).add 3)=some (slice j5 k5 l5)∧
 aB r3 (nb r) (fun m5=>
 ∃n5 o5 p5 q5 r5 s5 t5 u5 v5 x5 y5 z5 a6 b6 c6,(m5.cell? (nb r)=some (slice n5 o5 p5)∧m5.cell? ((nb r).add 1)=some (slice q5 r5 s5)∧m5.cell? ((nb r).add 2)=some (slice t5 u5 v5)∧m5.cell? ((nb r).add 3)=some (slice x5 y5 z5)∧m5.cell? ((nb r).add 4)=some (slice a6 b6 c6)∧True)∧
 R (tuple #[agg #[slice n5 o5 p5,slice q5 r5 s5,slice t5 u5 v5,slice x5 y5 z5,slice a6 b6 c6],int .i64 0,int .i64 0,int .i64 0]) m5) [slice x4 y4 z4,slice a5 b5 c5,slice d5 e5 f5,slice g5 h5 i5,slice j5 k5 l5] 0))→m3 [int .i64 n3,int .i64 o3,int .i64 p3,int .i64 q3] r3)→
 m3 [int .i64 0,int .i64 0,int .i64 0,int .i64 0] s2)))) [slice n1 o1 p1,slice q1 r1 s1] 0)
theorem Ai (a:Bool) (b:OA) (c d:Nat) (f:OA) (g h:Nat) (i:OA) (j k:Nat) (l:OA) (m n:Nat) (o:OA) (p q:Nat) (w:World) (R:RW) (hh:Ls a b c d f g h i j k l m n o p q w R):CR 168 #[agg #[bool a,slice b c d,slice f g h,slice i j k,slice l m n,slice o p q]] w R:=
 aD (fn:=Tryz.f168) (by kernel_rfl) (by kernel_rfl) (by kernel_rfl) (by kernel_rfl) (by kernel_rfl) hh
def NO (w:World) (R:RW):Prop:=
 ∀a,a=w.alloc (.cells #[slice none 0 0,slice none 0 0] 36)→
 ∀b,b=a.alloc (.cells #[slice none 0 0,slice none 0 0] 36)→
 aB b (nb a) (fun c=>
 ∀d:KW,(∀(f:Int) (g:World),(ac (decide (f<256))
 (∃h i j,g.cell? ((nb a).add 0)=some (slice h i j)∧
 ∀k,k=g.alloc (.cells #[int .u8 (IntKind.wrap .u8 f)] 5)→
 ∃l m,(convert 97 9 (slice (some (nb g)) 1 1)).run Tryz.prog k= .ok (string l) m∧
 ∀n,n=m.alloc (.cells #[string l] 9)→
 ∃o p q r,(Builtin.append_ #[33,33] 33 #[slice h i j,slice (some (nb m)) 1 1]).run Tryz.prog n= .ok (slice o p q) r∧
 (slice o p q).oneCell'=true∧(∃u,r.cell? ((nb a).add 0)=some u)∧r.frozen? ((nb a).add 0)=false∧
 ∀s,s=(r.setCell ((nb a).add 0) (slice o p q))→
 Ar .i64 (f+1) (fun t=>
 d [int .i64 t] s))
 (∃x y z a1 b1 c1,(g.cell? (nb a)=some (slice x y z)∧g.cell? ((nb a).add 1)=some (slice a1 b1 c1)∧True)∧
 aB g (nb w) (fun d1=>
 ∃e1 f1 g1 h1 i1 j1,(d1.cell? (nb w)=some (slice e1 f1 g1)∧d1.cell? ((nb w).add 1)=some (slice h1 i1 j1)∧True)∧
 R (agg #[slice e1 f1 g1,slice h1 i1 j1]) d1) [slice x y z,slice a1 b1 c1] 0))→d [int .i64 f] g)→
 d [int .i64 0] c) [slice none 0 0,slice none 0 0] 0
theorem yh (w:World) (R:RW) (hh:NO w R):CR 215 #[] w R:=
 aD (fn:=Tryz.f215) (by kernel_rfl) (by kernel_rfl) (by kernel_rfl) (by kernel_rfl) (by kernel_rfl) hh
def L8 (a:OA) (b c:Nat) (d:OA) (f g:Nat) (h i:Int) (w:World) (R:RW):Prop:=
 ∀j,j=w.alloc (.cells #[slice a b c,slice d f g] 36)→
 ∀k,k=j.alloc (.cells #[int .i64 h,int .i64 i] 118)→
 ∀l,l=k.alloc (.cells #[slice none 0 0,slice none 0 0] 36)→
 ∃m n o p q r,(l.cell? (nb w)=some (slice m n o)∧l.cell? ((nb w).add 1)=some (slice p q r)∧True)∧
 ∃s,l.cell? ((nb j).add 0)=some (int .i64 s)∧
 CP 63 #[agg #[slice m n o,slice p q r],int .i64 s] l (fun t u=>
 ∃x,t= .returned (bool x)∧
 ac (!x)
 (∃y z a1 b1 c1 d1,(u.cell? (nb w)=some (slice y z a1)∧u.cell? ((nb w).add 1)=some (slice b1 c1 d1)∧True)∧
 aB u (nb k) (fun e1=>
 ∃f1 g1 h1 i1 j1 k1,(e1.cell? (nb k)=some (slice f1 g1 h1)∧e1.cell? ((nb k).add 1)=some (slice i1 j1 k1)∧True)∧
 R (tuple #[agg #[slice f1 g1 h1,slice i1 j1 k1],int .i64 4]) e1) [slice y z a1,slice b1 c1 d1] 0)
 (∃l1 m1 n1 o1 p1 q1,(u.cell? (nb w)=some (slice l1 m1 n1)∧u.cell? ((nb w).add 1)=some (slice o1 p1 q1)∧True)∧
 ∃r1,u.cell? ((nb j).add 1)=some (int .i64 r1)∧
 CP 63 #[agg #[slice l1 m1 n1,slice o1 p1 q1],int .i64 r1] u (fun s1 t1=>
 ∃u1,s1= .returned (bool u1)∧
 ac (!u1)
 (∃v1 x1 y1 z1 a2 b2,(t1.cell? (nb w)=some (slice v1 x1 y1)∧t1.cell? ((nb w).add 1)=some (slice z1 a2 b2)∧True)∧
 aB t1 (nb k) (fun c2=>
 ∃d2 e2 f2 g2 h2 i2,(c2.cell? (nb k)=some (slice d2 e2 f2)∧c2.cell? ((nb k).add 1)=some (slice g2 h2 i2)∧True)∧
 R (tuple #[agg #[slice d2 e2 f2,slice g2 h2 i2],int .i64 4]) c2) [slice v1 x1 y1,slice z1 a2 b2] 0)
 (∀j2,j2=t1.drew→
 ∃k2 l2 m2,j2.cell? ((nb w).add 0)=some (slice k2 l2 m2)∧
 ∃n2,j2.cell? ((nb j).add 0)=some (int .i64 n2)∧
 af k2 (fun o2=>
 (0:Int)≤n2∧n2< (l2:Int)∧
 ∃p2,j2.cell? (o2.add (n2.toNat*1))=some (string p2)∧
 ∃q2 r2 s2,j2.cell? ((nb w).add 0)=some (slice q2 r2 s2)∧
 ∃t2,j2.cell? ((nb j).add 1)=some (int .i64 t2)∧
 af q2 (fun u2=>
 (0:Int)≤t2∧t2< (r2:Int)∧
 ∃v2,j2.cell? (u2.add (t2.toNat*1))=some (string v2)∧
 ((p2.size+v2.size:Nat):Int)≤IntKind.i64.max∧
 ac (decide ((((p2++v2:ByteArray).size:Int):Int)>64))
 (∃x2 y2 z2 a3 b3 c3,(j2.cell? (nb w)=some (slice x2 y2 z2)∧j2.cell? ((nb w).add 1)=some (slice a3 b3 c3)∧True)∧
 aB j2 (nb k) (fun d3=>
 ∃e3 f3 g3 h3 i3 j3,(d3.cell? (nb k)=some (slice e3 f3 g3)∧d3.cell? ((nb k).add 1)=some (slice h3 i3 j3)∧True)∧
 R (tuple #[agg #[slice e3 f3 g3,slice h3 i3 j3],int .i64 3]) d3) [slice x2 y2 z2,slice a3 b3 c3] 0)
 (∃k3 l3 m3,j2.cell? ((nb w).add 0)=some (slice k3 l3 m3)∧
 ac (decide ((l3:Int)≥1000))
 (∃n3 o3 p3 q3 r3 s3,(j2.cell? (nb w)=some (slice n3 o3 p3)∧j2.cell? ((nb w).add 1)=some (slice q3 r3 s3)∧True)∧
 aB j2 (nb k) (fun t3=>
 ∃u3 v3 x3 y3 z3 a4,(t3.cell? (nb k)=some (slice u3 v3 x3)∧t3.cell? ((nb k).add 1)=some (slice y3 z3 a4)∧True)∧
 R (tuple #[agg #[slice u3 v3 x3,slice y3 z3 a4],int .i64 5]) t3) [slice n3 o3 p3,slice q3 r3 s3] 0)
 (∃b4 c4 d4 e4 f4 g4,(j2.cell? (nb w)=some (slice b4 c4 d4)∧j2.cell? ((nb w).add 1)=some (slice e4 f4 g4)∧True)∧
 CP 248 #[agg #[slice b4 c4 d4,slice e4 f4 g4],string (p2++v2)] j2 (fun h4 i4=>
 ∃j4,h4= .returned (int .i64 j4)∧
 ac (decide (j4≥0))
 (∃k4 l4 m4 n4 o4 p4,(i4.cell? (nb w)=some (slice k4 l4 m4)∧i4.cell? ((nb w).add 1)=some (slice n4 o4 p4)∧True)∧
 aB i4 (nb k) (fun q4=>
 ∃r4 s4 t4 u4 v4 x4,(q4.cell? (nb k)=some (slice r4 s4 t4)∧q4.cell? ((nb k).add 1)=some (slice u4 v4 x4)∧True)∧
 R (tuple #[agg #[slice r4 s4 t4,slice u4 v4 x4],int .i64 10]) q4) [slice k4 l4 m4,slice n4 o4 p4] 0)
 (∃y4 z4 a5,i4.cell? ((nb w).add 0)=some (slice y4 z4 a5)∧
 ∃b5 c5 d5 e5,(Builtin.append_ #[33,33] 33 #[slice none 0 0,slice y4 z4 a5]).run Tryz.prog i4= .ok (slice b5 c5 d5) e5∧
 ∃f5 g5 h5,e5.cell? ((nb w).add 1)=some (slice f5 g5 h5)∧
 ∃i5 j5 k5 l5,(Builtin.append_ #[34,34] 34 #[slice none 0 0,slice f5 g5 h5]).run Tryz.prog e5= .ok (slice i5 j5 k5) l5∧
 ∀m5,m5=l5.drew→
 ∃n5 o5,(m5.cell? (nb j)=some (int .i64 n5)∧m5.cell? ((nb j).add 1)=some (int .i64 o5)∧True)∧
 (∀p5,p5=m5.alloc (.cells #[string (p2++v2)] 9)→
 (p5.cell? (nb j)=some (int .i64 n5)∧p5.cell? ((nb j).add 1)=some (int .i64 o5)∧True)∧
 (∃q5 r5 s5 t5,(Builtin.append_ #[33,33] 33 #[slice b5 c5 d5,slice (some (nb m5)) 1 1]).run Tryz.prog p5= .ok (slice q5 r5 s5) t5∧
 (t5.cell? (nb j)=some (int .i64 n5)∧t5.cell? ((nb j).add 1)=some (int .i64 o5)∧True)∧
 ∀u5,u5=t5.alloc (.cells #[int .i64 n5,int .i64 o5] 118)→
 ∃v5 x5 y5 z5,(Builtin.append_ #[34,34] 34 #[slice i5 j5 k5,slice (some (nb t5)) 1 1]).run Tryz.prog u5= .ok (slice v5 x5 y5) z5∧
 aB z5 (nb k) (fun a6=>
 ∃b6 c6 d6 e6 f6 g6,(a6.cell? (nb k)=some (slice b6 c6 d6)∧a6.cell? ((nb k).add 1)=some (slice e6 f6 g6)∧True)∧
 R (tuple #[agg #[slice b6 c6 d6,slice e6 f6 g6],int .i64 0]) a6) [slice q5 r5 s5,slice v5 x5 y5] 0)∧
 (∀h6,h6=p5.alloc (.cells #[int .i64 n5,int .i64 o5] 118)→
 ∃i6 j6 k6 l6,(Builtin.append_ #[33,33] 33 #[slice b5 c5 d5,slice (some (nb m5)) 1 1]).run Tryz.prog h6= .ok (slice i6 j6 k6) l6∧
 ∃m6 n6 o6 p6,(Builtin.append_ #[34,34] 34 #[slice i5 j5 k5,slice (some (nb p5)) 1 1]).run Tryz.prog l6= .ok (slice m6 n6 o6) p6∧
 aB p6 (nb k) (fun q6=>
 ∃r6 s6 t6 u6 v6 x6,(q6.cell? (nb k)=some (slice r6 s6 t6)∧q6.cell? ((nb k).add 1)=some (slice u6 v6 x6)∧True)∧
 R (tuple #[agg #[slice r6 s6 t6,slice u6 v6 x6],int .i64 0]) q6) [slice i6 j6 k6,slice m6 n6 o6] 0))∧
 (∀y6,y6=m5.alloc (.cells #[int .i64 n5,int .i64 o5] 118)→
 ∀z6,z6=y6.alloc (.cells #[string (p2++v2)] 9)→
 ∃a7 b7 c7 d7,(Builtin.append_ #[33,33] 33 #[slice b5 c5 d5,slice (some (nb y6)) 1 1]).run Tryz.prog z6= .ok (slice a7 b7 c7) d7∧
 ∃e7 f7 g7 h7,(Builtin.append_ #[34,34] 34 #[slice i5 j5 k5,slice (some (nb m5)) 1 1]).run Tryz.prog d7= .ok (slice e7 f7 g7) h7∧
 aB h7 (nb k) (fun i7=>
 ∃j7 k7 l7 m7 n7 o7,(i7.cell? (nb k)=some (slice j7 k7 l7)∧i7.cell? ((nb k).add 1)=some (slice m7 n7 o7)∧True)∧
 R (tuple #[agg #[slice j7 k7 l7,slice m7 n7 o7],int .i64 0]) i7) [slice a7 b7 c7,slice e7 f7 g7] 0)))))))))))
theorem zu (a:OA) (b c:Nat) (d:OA) (f g:Nat) (h i:Int) (w:World) (R:RW) (hh:L8 a b c d f g h i w R):CR 216 #[agg #[slice a b c,slice d f g],agg #[int .i64 h,int .i64 i]] w R:=
 aD (fn:=Tryz.f216) (by kernel_rfl) (by kernel_rfl) (by kernel_rfl) (by kernel_rfl) (by kernel_rfl) hh
def L2 (a:Bool) (b:OA) (c d:Nat) (f:OA) (g h:Nat) (i:OA) (j k:Nat) (l:OA) (m n:Nat) (o:OA) (p q:Nat) (w:World) (R:RW):Prop:=
 ∀r,r=w.alloc (.cells #[bool a,slice b c d,slice f g h,slice i j k,slice l m n,slice o p q] 73)→
 ∀s,s=r.alloc (.cells #[slice none 0 0,slice none 0 0] 36)→
 ∃t,s.cell? ((nb w).add 0)=some (bool t)∧
 ac t
 (∃u x y,s.cell? ((nb w).add 2)=some (slice u x y)∧
 CP 249 #[slice u x y] s (fun z a1=>
 ∃b1 c1 d1 e1 f1 g1 h1 i1,z= .returned (tuple #[agg #[slice b1 c1 d1,slice e1 f1 g1],int .i64 h1,int .i64 i1])∧
 aB a1 (nb r) (fun j1=>
 ∃k1 l1 m1 n1 o1 p1,(j1.cell? (nb r)=some (slice k1 l1 m1)∧j1.cell? ((nb r).add 1)=some (slice n1 o1 p1)∧True)∧
 R (tuple #[agg #[slice k1 l1 m1,slice n1 o1 p1],int .i64 h1,int .i64 i1]) j1) [slice b1 c1 d1,slice e1 f1 g1] 0))
 (∃q1 r1 s1,s.cell? ((nb w).add 1)=some (slice q1 r1 s1)∧
 CP 250 #[slice q1 r1 s1] s (fun t1 u1=>
 ∃v1 x1 y1 z1 a2 b2 c2 d2,t1= .returned (tuple #[agg #[slice v1 x1 y1,slice z1 a2 b2],int .i64 c2,int .i64 d2])∧
 aB u1 (nb r) (fun e2=>
 ∃f2 g2 h2 i2 j2 k2,(e2.cell? (nb r)=some (slice f2 g2 h2)∧e2.cell? ((nb r).add 1)=some (slice i2 j2 k2)∧True)∧
 R (tuple #[agg #[slice f2 g2 h2,slice i2 j2 k2],int .i64 c2,int .i64 d2]) e2) [slice v1 x1 y1,slice z1 a2 b2] 0))
theorem yl (a:Bool) (b:OA) (c d:Nat) (f:OA) (g h:Nat) (i:OA) (j k:Nat) (l:OA) (m n:Nat) (o:OA) (p q:Nat) (w:World) (R:RW) (hh:L2 a b c d f g h i j k l m n o p q w R):CR 217 #[agg #[bool a,slice b c d,slice f g h,slice i j k,slice l m n,slice o p q]] w R:=
 aD (fn:=Tryz.f217) (by kernel_rfl) (by kernel_rfl) (by kernel_rfl) (by kernel_rfl) (by kernel_rfl) hh
def NB (a:OA) (b c:Nat) (d:OA) (f g:Nat) (h:ByteArray) (w:World) (R:RW):Prop:=
 ∀i,i=w.alloc (.cells #[slice a b c,slice d f g] 36)→
 ∀j:KW,(∀(k l:Int) (m:World),(∃n o p,m.cell? ((nb w).add 0)=some (slice n o p)∧
 ac (decide (k< (o:Int)))
 (∃q r s,m.cell? ((nb w).add 0)=some (slice q r s)∧
 af q (fun t=>
 (0:Int)≤k∧k< (r:Int)∧
 ∃u,m.cell? (t.add (k.toNat*1))=some (string u)∧
 ac (u.toList==h.toList)
 (R (int .i64 k) m)
 (Ar .i64 (k+1) (fun x=>
 j [int .i64 x,int .i64 l] m))))
 (R (int .i64 (-1)) m))→j [int .i64 k,int .i64 l] m)→
 j [int .i64 0,int .i64 0] i
theorem ym (a:OA) (b c:Nat) (d:OA) (f g:Nat) (h:ByteArray) (w:World) (R:RW) (hh:NB a b c d f g h w R):CR 248 #[agg #[slice a b c,slice d f g],string h] w R:=
 aD (fn:=Tryz.f248) (by kernel_rfl) (by kernel_rfl) (by kernel_rfl) (by kernel_rfl) (by kernel_rfl) hh
def NA (a:OA) (b c:Nat) (w:World) (R:RW):Prop:=
 ∀d,d=w.alloc (.cells #[slice none 0 0,slice none 0 0] 36)→
 CP 215 #[] d (fun f g=>
 ∃h i j k l m,f= .returned (agg #[slice h i j,slice k l m])∧
 ∀n,n=g.alloc (.cells #[slice none 0 0,slice none 0 0] 36)→
 aB n (nb g) (fun o=>
 ∀p:KW,(∀(q r s:Int) (t:World),(ac (decide (q< (b:Int)))
 (∀u,u=t.drew→
 ∃x y z a1 b1 c1,(u.cell? (nb g)=some (slice x y z)∧u.cell? ((nb g).add 1)=some (slice a1 b1 c1)∧True)∧
 af a (fun d1=>
 (0:Int)≤q∧q< (b:Int)∧
 ∃e1 f1,(u.cell? (d1.add (q.toNat*2))=some (int .i64 e1)∧u.cell? ((d1.add (q.toNat*2)).add 1)=some (int .i64 f1)∧True)∧
 (CP 216 #[agg #[slice x y z,slice a1 b1 c1],agg #[int .i64 e1,int .i64 f1]] u (fun g1 h1=>
 ∃i1 j1 k1 l1 m1 n1 o1,g1= .returned (tuple #[agg #[slice i1 j1 k1,slice l1 m1 n1],int .i64 o1])∧
 ∀p1,p1=h1.alloc (.cells #[slice none 0 0,slice none 0 0] 36)→
 aB p1 (nb h1) (fun q1=>
 ac (o1 != 0)
 (∃r1 s1 t1 u1 v1 x1,(q1.cell? (nb g)=some (slice r1 s1 t1)∧q1.cell? ((nb g).add 1)=some (slice u1 v1 x1)∧True)∧
 aB q1 (nb w) (fun y1=>
 ∃z1 a2 b2 c2 d2 e2,(y1.cell? (nb w)=some (slice z1 a2 b2)∧y1.cell? ((nb w).add 1)=some (slice c2 d2 e2)∧True)∧
 R (tuple #[agg #[slice z1 a2 b2,slice c2 d2 e2],int .i64 q,int .i64 o1]) y1) [slice r1 s1 t1,slice u1 v1 x1] 0)
 (∃f2 g2 h2 i2 j2 k2,(q1.cell? (nb h1)=some (slice f2 g2 h2)∧q1.cell? ((nb h1).add 1)=some (slice i2 j2 k2)∧True)∧
 aB q1 (nb g) (fun l2=>
 Ar .i64 (q+1) (fun m2=>
 p [int .i64 m2,int .i64 r,int .i64 s] l2)) [slice f2 g2 h2,slice i2 j2 k2] 0)) [slice i1 j1 k1,slice l1 m1 n1] 0))∧
 (∀n2,n2=u.alloc (.cells #[slice none 0 0,slice none 0 0] 36)→
 (n2.cell? (d1.add (q.toNat*2))=some (int .i64 e1)∧n2.cell? ((d1.add (q.toNat*2)).add 1)=some (int .i64 f1)∧True)∧
 (n2.cell? (nb g)=some (slice x y z)∧n2.cell? ((nb g).add 1)=some (slice a1 b1 c1)∧True)∧
 CP 216 #[agg #[slice x y z,slice a1 b1 c1],agg #[int .i64 e1,int .i64 f1]] n2 (fun o2 p2=>
 ∃q2 r2 s2 t2 u2 v2 x2,o2= .returned (tuple #[agg #[slice q2 r2 s2,slice t2 u2 v2],int .i64 x2])∧
 aB p2 (nb u) (fun y2=>
 ac (x2 != 0)
 (∃z2 a3 b3 c3 d3 e3,(y2.cell? (nb g)=some (slice z2 a3 b3)∧y2.cell? ((nb g).add 1)=some (slice c3 d3 e3)∧True)∧
 aB y2 (nb w) (fun f3=>
 ∃g3 h3 i3 j3 k3 l3,(f3.cell? (nb w)=some (slice g3 h3 i3)∧f3.cell? ((nb w).add 1)=some (slice j3 k3 l3)∧True)∧
 R (tuple #[agg #[slice g3 h3 i3,slice j3 k3 l3],int .i64 q,int .i64 x2]) f3) [slice z2 a3 b3,slice c3 d3 e3] 0)
 (∃m3 n3 o3 p3 q3 r3,(y2.cell? (nb u)=some (slice m3 n3 o3)∧y2.cell? ((nb u).add 1)=some (slice p3 q3 r3)∧True)∧
 aB y2 (nb g) (fun s3=>
 Ar .i64 (q+1) (fun t3=>
 p [int .i64 t3,int .i64 r,int .i64 s] s3)) [slice m3 n3 o3,slice p3 q3 r3] 0)) [slice q2 r2 s2,slice t2 u2 v2] 0))))
 (∃u3 v3 x3 y3 z3 a4,(t.cell? (nb g)=some (slice u3 v3 x3)∧t.cell? ((nb g).add 1)=some (slice y3 z3 a4)∧True)∧
 aB t (nb w) (fun b4=>
 ∃c4 d4 e4 f4 g4 h4,(b4.cell? (nb w)=some (slice c4 d4 e4)∧b4.cell? ((nb w).add 1)=some (slice f4 g4 h4)∧True)∧
 R (tuple #[agg #[slice c4 d4 e4,slice f4 g4 h4],int .i64 (b:Int),int .i64 0]) b4) [slice u3 v3 x3,slice y3 z3 a4] 0))→p [int .i64 q,int .i64 r,int .i64 s] t)→
 p [int .i64 0,int .i64 0,int .i64 0] o) [slice h i j,slice k l m] 0)
theorem wC (a:OA) (b c:Nat) (w:World) (R:RW) (hh:NA a b c w R):CR 250 #[slice a b c] w R:=
 aD (fn:=Tryz.f250) (by kernel_rfl) (by kernel_rfl) (by kernel_rfl) (by kernel_rfl) (by kernel_rfl) hh
structure nF where
 b:Sl
 m:Sl
abbrev nF.v (x:nF):Value:=.agg #[x.b.v,x.m.v]
structure g_ (w:World) (x:nF) (es:List aP):Prop where
 n1:x.b.n=es.length
 r1:Rw eJ 1 w x.b.a (es.map (·.1))
 k1:tU x.b
 n2:x.m.n=(ap es).length
 r2:Rw bE 2 w x.m.a (ap es)
 k2:tU x.m
theorem g_.on {w w':World} {x:nF} {es:List aP} (h:g_ w x es) (hb:Below w.heap.size w w'):g_ w' x es:=⟨h.n1,h.r1.on hb,h.k1,h.n2,h.r2.on hb,h.k2⟩
def kD (B:Nat) (x:nF):Prop:=(∀p,x.b.a=some p→B≤p.block)∧∀p,x.m.a=some p→B≤p.block
theorem kD.mono {B B':Nat} {x:nF} (h:kD B x) (hB:B'≤B):kD B' x:=⟨fun p hp=>Nat.le_trans hB (h.1 p hp),fun p hp=>Nat.le_trans hB (h.2 p hp)⟩
theorem nR {w:World} {B:Nat} {e:TypeId} {sz:Nat} {l:Sl} {xs:List Value} (h:w.ownsRow B e sz l.v l.n xs):∀p,l.a=some p→B≤p.block:=by
 intro p hp;obtain⟨la,ln,lc⟩:=l;rcases h.2 with⟨hv,_⟩ |⟨g,cap,cur,hv,hB,_⟩
 ·cases hv;cases hp
 ·cases hv;cases hp;exact hB
theorem oI (w:World) (x:nF) (es:List aP) (h:g_ w x es) (id:Int):CP 63 #[x.v,.int .i64 id] w fun e w'=>e= .returned (.bool (decide (bA es id)))∧Below w.heap.size w w':=by
 refine aR (Ca x.b.a x.b.n x.b.c x.m.a x.m.n x.m.c id w (fun u w'=>u= .bool (decide (bA es id))∧Below w.heap.size w w') ?_) (by rintro v w' ⟨rfl,h⟩;exact⟨rfl,h⟩);intro w1 hw1;have hb1:Below w.heap.size w w1:=by subst hw1;exact ag _ _
 refine ac.mk (fun h0=>?_) fun h0=>?_
 ·have h0:=of_decide_eq_true h0;refine⟨_,_,_,by subst hw1;rw [aC,aY];rfl,?_,hb1⟩;congr 1;rw [h.n1];exact decide_eq_decide.2 ⟨fun h=>⟨h0,h⟩,fun h=>h.2⟩
 ·have h0:=of_decide_eq_false h0;refine⟨?_,hb1⟩;rw [decide_eq_false (fun h=>h0 h.1)]
def yL (es:List aP) (s:Bs):Int:=CJ (fun b=>decide (b=s)) (es.map (·.1))
theorem uy (w:World) (x:nF) (es:List aP) (h:g_ w x es) (hl:es.length≤1000000) (s:Bs):CP 248 #[x.v,.string (str s)] w fun e w'=>e= .returned (.int .i64 (yL es s))∧Below w.heap.size w w':=by
 refine aL (ym x.b.a x.b.n x.b.c x.m.a x.m.n x.m.c (str s) w) ?_;intro w1 hw1;have hb1:Below w.heap.size w w1:=by subst hw1;exact ag _ _
 have c0:w1.cell? ((nb w).add 0)=some (.slice x.b.a x.b.n x.b.c):=by subst hw1;rw [aC,aY];rfl
 have hlen:(es.map (·.1)).length=es.length:=by simp
 have hn:=h.n1;intro I hI;have key:=aX (α:=Int) es.length (fun i _=>∀j (hj:j< (es.map (·.1)).length),j<i→decide ((es.map (·.1))[j]=s)=false) (fun i y=>I [.int .i64 (i:Int),.int .i64 y] w1) 0 (fun j _ hj=>absurd hj (Nat.not_lt_zero j)) ?_ ?_
 ·exact key
 ·rintro i hi ih y hb;obtain⟨q,hq,_,hcx⟩:=(h.r1.on hb1) i _ (List.getElem?_eq_getElem (show i< (es.map (·.1)).length by omega));have h0:=hcx 0 _ rfl;rw [ay]at h0;refine hI _ _ _ ⟨_,_,_,c0,ac.yes (by simp;omega) ⟨_,_,_,c0,af.mk q hq ⟨by omega,by omega,_,h0,ac.mk (fun h1=>?_) fun h1=>?_⟩⟩⟩
  ·rw [cn,cn]at h1;have h1:(es.map (·.1))[i]'(by omega)=s:=by simpa using h1
   refine⟨?_,hb1⟩;unfold yL;rw [iW (p:=fun b=>decide (b=s)) (xs:=es.map (·.1)) (i:=i) (by omega) (decide_eq_true h1) fun j hj=>hb j (by omega) hj]
  ·rw [cn,cn]at h1;have h1:¬(es.map (·.1))[i]'(by omega)=s:=by simpa using h1
   refine Ar.ok64 (by omega) (by omega) (ih y fun j hj hji=>?_);by_cases he:j=i
   ·subst he;exact decide_eq_false h1
   ·exact hb j hj (by omega)
 ·rintro y hb;refine hI _ _ _ ⟨_,_,_,c0,ac.no (by simp;omega) ⟨?_,hb1⟩⟩;unfold yL;rw [je (p:=fun b=>decide (b=s)) (xs:=es.map (·.1)) fun j hj=>hb j hj (by omega)]
theorem tm (es:List aP) (s:Bs):yL es s≥0↔s∈es.map (·.1):=by
 have:=kN (fun b=>decide (b=s)) (es.map (·.1));unfold yL;rw [←decide_eq_true_iff (p:=CJ _ _≥0),this,List.any_eq_true];constructor
 ·rintro⟨b,hb,e⟩;rw [←of_decide_eq_true e];exact hb
 ·intro h;exact⟨s,h,decide_eq_true rfl⟩
abbrev vX:TypeId:=36
theorem bI (a b:Sl):∀v∈ [a.v,b.v],v.oneCell'=true:=by
 intro v hv;simp only [List.mem_cons,List.not_mem_nil,or_false]at hv;rcases hv with rfl |rfl<;>rfl
theorem gE {w:World} {b:Nat} {x y:Value} {e:TypeId} {fz:Nat×Nat} (h:w.heap[b]? =some (.cells #[x,y] e fz)):w.cell? ⟨b,0,none⟩=some x∧w.cell? ((⟨b,0,none⟩:Addr).add 1)=some y∧True:=
 ⟨by have:=aj _ _ h 0;rw [ay]at this;exact this,aj _ _ h 1,trivial⟩
theorem mu {w:World} {B:Nat} {e:TypeId} {sz:Nat} {l:Sl} {xs:List Value} (h:w.ownsRow B e sz l.v l.n xs):tU l:=by
 obtain⟨la,ln,lc⟩:=l;rcases h.2 with⟨hv,_⟩ |⟨g,cap,cur,hv,_⟩
 ·cases hv;exact .inl rfl
 ·cases hv;exact .inr ⟨_,rfl⟩
theorem lj (w:World):CP 215 #[] w fun e w'=>∃x:nF,e= .returned x.v∧g_ w' x aG∧Below w.heap.size w w'∧kD w.heap.size x:=by
 refine aL (yh w) ?_;intro w1 hw1 w2 hw2;have hz1:w1.heap.size=w.heap.size+1:=by subst hw1;exact av _ _
 have hb1:Below w.heap.size w w1:=by subst hw1;exact ag _ _
 have l1:w1.heap[w.heap.size]? =some (.cells #[Value.slice none 0 0,Value.slice none 0 0] vX (0,0)):=by subst hw1;exact ak _ _
 refine aT [.slice none 0 0,.slice none 0 0] [.slice none 0 0,.slice none 0 0] rfl (bI ⟨none,0,0⟩ ⟨none,0,0⟩) w2 hw2 ?_;intro w3 h3 hz3 hB3;have l3:=ah hB3 l1;intro I hI;have key:=aX (α:=World) 256 (fun i x=>∃l:Sl,x.heap[w1.heap.size]? =some (.cells #[l.v,Value.slice none 0 0] vX (0,0))∧x.ownsRow w1.heap.size iT 1 l.v l.n ((((List.range i).map cr).map (·.1)).flatMap eJ)∧l.n=i∧l.v.ownBlock≠some w1.heap.size∧x.heap[w.heap.size]? =some (.cells #[Value.slice none 0 0,Value.slice none 0 0] vX (0,0))∧Below w.heap.size w x∧w1.heap.size<x.heap.size) (fun i x=>I [.int .i64 (i:Int)] x) w3 ⟨⟨none,0,0⟩,h3,cP _ _ _ _,rfl,(by intro h;cases h),l3,hb1.trans (hB3.mono hb1.size),by omega⟩ ?_ ?_
 ·exact key
 ·rintro i hi ih w4 ⟨l,h4,hown,hln,hoff,hl4,hB,hlt4⟩;have hwr:IntKind.wrap .u8 (i:Int)=(i:Int):=dm (by show(0:Int)≤_;omega) (by show _≤(255:Int);omega);refine hI _ _ (ac.yes (by simp;omega) ⟨_,_,_,aj _ _ h4 0,?_⟩);rw [hwr];rintro w5 rfl;have hb5:=ag w4 (.cells #[Value.int .u8 (i:Int)] 5);refine⟨_,_,mV (P:=Tryz.prog) (by kernel_rfl) (by kernel_rfl) (by kernel_rfl) w4 i hi,?_⟩;rintro w7 rfl;have hrow5:=aE hown hb5;have h5:=ah hb5 h4;have hl5:=ah hb5 hl4;obtain⟨a',c',w8,hr8,hu8,hf8,h9⟩:=fe (P:=Tryz.prog) (s:=l) 0 h5 (show 0<2 by decide) hrow5 hoff (Nat.le_refl _) nt nf mI rfl (by decide) (eJ [UInt8.ofNat i]) rfl (by intro u hu;rw [List.mem_singleton.1 hu];rfl) (by omega) (by omega);refine⟨a',l.n+1,c',w8,hr8,rfl,hu8,hf8,?_⟩;intro w9 hw9;obtain⟨hblk9,hrow9,hoff9,hB9,hkeep9,hsz9,hnew9⟩:=h9 w9 hw9;have hrange:((List.range (i+1)).map cr).map (·.1)=((List.range i).map cr).map (·.1)++ [[UInt8.ofNat i]]:=by rw [List.range_succ];simp [cr]
  have hzz:(w4.alloc (.cells #[Value.int .u8 (i:Int)] 5)).heap.size=w4.heap.size+1:=av _ _;have hne:l.v.ownBlock≠some w.heap.size:=fun e=>by have:=(b_ hrow5 _ e).1;omega
  have hl9:w9.heap[w.heap.size]? =some (.cells #[Value.slice none 0 0,Value.slice none 0 0] vX (0,0)):=by
   rw [hkeep9 w.heap.size (by omega) (by omega) hne];exact hl5
  refine Ar.ok64 (by omega) (by omega) (ih w9 ⟨⟨a',l.n+1,c'⟩,hblk9,?_,by show l.n+1=i+1;omega,hoff9,hl9,?_,by omega⟩)
  ·rw [hrange,List.flatMap_append];simpa using hrow9
  ·have hb45:Below w1.heap.size w4 (w4.alloc (.cells #[Value.int .u8 (i:Int)] 5)):=hb5.mono (by omega);exact hB.trans ((hB9 w4 hb45).mono (by omega))
 ·rintro w4 ⟨l,h4,hown,hln,hoff,hl4,hB,hlt4⟩;refine hI _ _ (ac.no (by simp) ⟨_,_,_,_,_,_,gE h4,?_⟩);refine aS hl4 [l.v,.slice none 0 0] rfl (bI l ⟨none,0,0⟩) ?_;intro w10 h10 hs10 hz10 hB10;refine⟨_,_,_,_,_,_,gE h10,⟨l,⟨none,0,0⟩⟩,rfl,⟨?_,?_,mu hown,?_,?_,.inl rfl⟩,hB10 _ _ (Nat.le_refl _) hB,fun p hp=>Nat.le_trans hb1.size (nR hown p hp),fun p hp=>(by cases hp)⟩
  ·rw [hln];simp [aG]
  ·have:=aN hown fun k hk=>hs10 k fun e=>by have:=(b_ hown k hk).1;omega
   exact(Rw.of_own this (fun _=>rfl) (by decide)).1
  ·simp [ap,aG]
  ·intro j y hj;simp [ap,aG]at hj
theorem m0 {α:Type} {enc:α→List Value} {sz:Nat} (hsz:∀x,(enc x).length=sz) (h0:0<sz) (h1:∀x,∀u∈enc x,u.oneCell'=true) (t e:TypeId) {z:Value} {bytes:Nat} (ht:Tryz.prog.underlying t=some (.slice e)) (hi:(Tryz.prog.info? e).map (fun i=>(i.zero,i.size,i.bytes))=some (some z,sz,bytes)) (hzs:z.cells.size=sz)
  {B:Nat} {w:World} {s:Sl} {xs:List α} (hown:w.ownsRow B e sz s.v s.n (xs.flatMap enc)) (x:α) {b:Nat} {T:TypeId} {fz:Nat×Nat} (hb:w.heap[b]? =some (.cells (enc x).toArray T fz)) (hB:B≤w.heap.size) (hbytes:(s.n+1)*bytes≤140737488355328) (h63:s.n+1≤140737488355328):
  ∃A C w',(Builtin.append_ #[t,t] t #[.slice s.a s.n s.c,.slice (some ⟨b,0,none⟩) 1 1]).run Tryz.prog w= .ok (.slice A (s.n+1) C) w'∧w'.ownsRow B e sz (.slice A (s.n+1) C) (s.n+1) ((xs++ [x]).flatMap enc)∧(∀w0,Below B w0 w→Below B w0 w')∧(∀k,k<w.heap.size→s.v.ownBlock≠some k→w'.heap[k]? =w.heap[k]?):=by
 obtain⟨A,C,w',h2,h3,h4,h5⟩:=lM (P:=Tryz.prog) t e ht hi hzs h0 hown ⟨some ⟨b,0,none⟩,1,1⟩ (.inr ⟨_,rfl⟩) (enc x) (by rw [hsz,Nat.one_mul]) (by
  intro a ha j u hj;cases ha;rw [aj _ _ hb];simpa using hj) (h1 x) hbytes h63 hB
 exact⟨A,C,w',h2,by simpa using h3,h4,h5⟩
theorem xJ {α:Type} {enc:α→List Value} {sz:Nat} (hsz:∀x,(enc x).length=sz) (h0:0<sz) (h1:∀x,∀u∈enc x,u.oneCell'=true) (t e:TypeId) {z:Value} {bytes:Nat} (ht:Tryz.prog.underlying t=some (.slice e)) (hi:(Tryz.prog.info? e).map (fun i=>(i.zero,i.size,i.bytes))=some (some z,sz,bytes)) (hzs:z.cells.size=sz)
  (w:World) (s:Sl) (xs:List α) (hs:tU s) (hr:Rw enc sz w s.a xs) (hn:s.n=xs.length) (hbytes:s.n*bytes≤140737488355328) (h63:s.n≤140737488355328):
  ∃A C w',(Builtin.append_ #[t,t] t #[.slice none 0 0,.slice s.a s.n s.c]).run Tryz.prog w= .ok (.slice A s.n C) w'∧w'.ownsRow w.heap.size e sz (.slice A s.n C) s.n (xs.flatMap enc)∧Below w.heap.size w w':=by
 obtain⟨A,C,w',h2,h3,h4,_⟩:=lM (P:=Tryz.prog) t e ht hi hzs h0 (cP w w.heap.size e sz) s hs (xs.flatMap enc) (by rw [bR hsz,hn]) (by
  intro a ha j u hj;rw [ha]at hr;exact hr.flat hsz h0 j u hj) (by
  intro u hu;obtain⟨x,_,hx⟩:=List.mem_flatMap.1 hu;exact h1 x u hx) (by rw [Nat.zero_add];exact hbytes) (by rw [Nat.zero_add];exact h63) (Nat.le_refl _)
 rw [Nat.zero_add]at h2 h3;exact⟨A,C,w',h2,by simpa using h3,h4 w (Below.refl _ _)⟩
def pX (w:World) (x:nF) (es:List aP) (m:Int×Int) (u:Value) (w':World):Prop:=∃(x':nF) (n:Int),u= .tuple #[x'.v,.int .i64 n]∧Below w.heap.size w w'∧(match bP es m with
 | .error n0=>n=n0∧x'=x
 | .ok y=>n=0∧g_ w' x' (es++ [y])∧kD w.heap.size x')
theorem jV (w:World) (x:nF) (es:List aP) (h:g_ w x es) (hok:gz es) (m:Int×Int):CP 216 #[x.v,.agg #[.int .i64 m.1,.int .i64 m.2]] w fun e w'=>∃u,e= .returned u∧pX w x es m u w':=by
 refine zu x.b.a x.b.n x.b.c x.m.a x.m.n x.m.c m.1 m.2 w (pX w x es m) ?_;intro w1 hw1 w2 hw2 w3 hw3;have hz1:w1.heap.size=w.heap.size+1:=by subst hw1;exact av _ _
 have hz2:w2.heap.size=w.heap.size+2:=by subst hw2;rw [av,hz1]
 have hz3:w3.heap.size=w.heap.size+3:=by subst hw3;rw [av,hz2]
 have hb1:Below w.heap.size w w1:=by subst hw1;exact ag _ _
 have hb2:Below w1.heap.size w1 w2:=by subst hw2;exact ag _ _
 have hb3:Below w2.heap.size w2 w3:=by subst hw3;exact ag _ _
 have l0:w3.heap[w.heap.size]? =some (.cells #[x.b.v,x.m.v] vX (0,0)):=ah hb3 (ah hb2 (by subst hw1;exact ak _ _));have l1:w3.heap[w1.heap.size]? =some (.cells #[.int .i64 m.1,.int .i64 m.2] nr (0,0)):=ah hb3 (by subst hw2;exact ak _ _);have l2:w3.heap[w2.heap.size]? =some (.cells #[Value.slice none 0 0,Value.slice none 0 0] vX (0,0)):=by subst hw3;exact ak _ _
 have hb03:Below w.heap.size w w3:=ae hb1 (ae hb2 hb3);have h3:=h.on hb03;have hmost:=hok.most;have hlen:=h.n1;have fail:∀(n:Int) (wq:World),bP es m= .error n→Below w3.heap.size w3 wq→
   ∃g0A:Option Addr,∃g0N:Nat,∃g0C:Nat,∃g1A:Option Addr,∃g1N:Nat,∃g1C:Nat,(wq.cell? (nb w)=some (Value.slice g0A g0N g0C)∧wq.cell? ((nb w).add 1)=some (Value.slice g1A g1N g1C)∧True)∧
   aB wq (nb w2) (fun w5=>
   ∃res0A:Option Addr,∃res0N:Nat,∃res0C:Nat,∃res1A:Option Addr,∃res1N:Nat,∃res1C:Nat,(w5.cell? (nb w2)=some (Value.slice res0A res0N res0C)∧w5.cell? ((nb w2).add 1)=some (Value.slice res1A res1N res1C)∧True)∧
   pX w x es m (Value.tuple #[Value.agg #[Value.slice res0A res0N res0C,Value.slice res1A res1N res1C],Value.int .i64 n]) w5) [Value.slice g0A g0N g0C,Value.slice g1A g1N g1C] 0:=by
  intro n wq hn hbq;refine⟨_,_,_,_,_,_,gE (ah hbq l0),?_⟩;refine aS (ah hbq l2) [x.b.v,x.m.v] rfl (bI _ _) ?_;intro w5 h5 hs5 hz5 hB5;refine⟨_,_,_,_,_,_,gE h5,x,n,rfl,(hB5 _ _ (by omega) (ae hb03 hbq)),?_⟩;rw [hn];exact⟨rfl,rfl⟩
 refine⟨_,_,_,_,_,_,gE l0,m.1,aj _ _ l1 0,?_⟩;refine(oI w3 x es h3 m.1).mono ?_;rintro e w4 ⟨rfl,b4⟩;refine⟨_,rfl,ac.mk (fun h0=>?_) fun h0=>⟨_,_,_,_,_,_,gE (ah b4 l0),m.2,aj _ _ (ah b4 l1) 1,?_⟩⟩
 ·have h0:¬bA es m.1:=by simpa using h0
  exact fail 4 w4 (by rw [bP,if_pos fun h=>h0 h.1]) b4
 have i1:bA es m.1:=by simpa using h0
 refine(oI w4 x es (h3.on b4) m.2).mono ?_;rintro e w6 ⟨rfl,b6⟩;have b36:=ae b4 b6;refine⟨_,rfl,ac.mk (fun h0=>?_) fun h0=>?_⟩
 ·have h0:¬bA es m.2:=by simpa using h0
  exact fail 4 w6 (by rw [bP,if_pos fun h=>h0 h.2]) b36
 have i2:bA es m.2:=by simpa using h0
 intro w8 hw8;have b38:Below w3.heap.size w3 w8:=by subst hw8;exact b36.drew
 have h8:=h3.on b38;have l08:=ah b38 l0;have l18:=ah b38 l1;obtain⟨x1,hx1,e1⟩:=eR i1;obtain⟨x2,hx2,e2⟩:=eR i2;have hmap:∀(i:Nat) (y:aP),es[i]? =some y→(es.map (·.1))[i]? =some y.1:=fun i y hy=>by rw [List.getElem?_map,hy];rfl
 obtain⟨a1,ha1,_,hc1⟩:=h8.r1 _ _ (hmap _ _ hx1);obtain⟨a2,ha2,_,hc2⟩:=h8.r1 _ _ (hmap _ _ hx2);have c1:=hc1 0 _ rfl;have c2:=hc2 0 _ rfl;rw [ay]at c1 c2;have:=i1.1;have:=i1.2;have:=i2.1;have:=i2.2;have s1:=hok.short x1 (List.mem_of_getElem? hx1);have s2:=hok.short x2 (List.mem_of_getElem? hx2);refine⟨_,_,_,aj _ _ l08 0,m.1,aj _ _ l18 0,af.mk a1 ha1 ⟨by omega,by omega,str x1.1,c1,_,_,_,aj _ _ l08 0,m.2,aj _ _ l18 1,af.mk a2 ha2 ⟨by omega,by omega,str x2.1,c2,?_⟩⟩⟩;have hj:str x1.1++str x2.1=str (bM es m):=by rw [mg,bM,e1,e2]
 have hjl:(bM es m).length=x1.1.length+x2.1.length:=by rw [bM,e1,e2,List.length_append]
 rw [hj];refine⟨by rw [bO,bO];show _≤(9223372036854775807:Int);omega,ac.mk (fun h0=>?_) fun h0=>?_⟩
 ·have h0:=of_decide_eq_true h0;rw [bO]at h0;exact fail 3 w8 (by rw [bP,if_neg (Classical.not_not.2 ⟨i1,i2⟩),if_pos (by omega)]) b38
 have hs:=of_decide_eq_false h0;rw [bO]at hs;have hs:¬64< (bM es m).length:=by omega
 refine⟨_,_,_,aj _ _ l08 0,ac.mk (fun h0=>?_) fun h0=>⟨_,_,_,_,_,_,gE l08,?_⟩⟩
 ·have h0:=of_decide_eq_true h0;exact fail 5 w8 (by rw [bP,if_neg (Classical.not_not.2 ⟨i1,i2⟩),if_neg hs,if_pos (by omega)]) b38
 have h0:=of_decide_eq_false h0;have hk:¬1000≤es.length:=by omega
 refine(uy w8 x es h8 (by omega) (bM es m)).mono ?_;rintro e w11 ⟨rfl,b11⟩;have b311:=ae b38 b11;refine⟨_,rfl,ac.mk (fun h1=>?_) fun h1=>?_⟩
 ·have h1:=(tm es _).1 (of_decide_eq_true h1);exact fail 10 w11 (by rw [bP,if_neg (Classical.not_not.2 ⟨i1,i2⟩),if_neg hs,if_neg hk,if_pos h1]) b311
 have hnew:bM es m∉es.map (·.1):=fun hm=>of_decide_eq_false h1 ((tm es _).2 hm);have hadd:bP es m= .ok (bM es m,m):=by rw [bP,if_neg (Classical.not_not.2 ⟨i1,i2⟩),if_neg hs,if_neg hk,if_neg hnew]
 have h11:=h8.on b11;have l011:=ah b11 l08;have l111:=ah b11 l18;have l211:=ah b311 l2;have hz11:=b311.size;obtain⟨A1,C1,w13,hr13,o13,b13⟩:=xJ (enc:=eJ) (sz:=1) (fun _=>rfl) (by decide) (fun y u hu=>by rw [List.mem_singleton.1 hu];rfl) nt iT nf mI rfl w11 x.b (es.map (·.1)) h11.k1 h11.r1 (by rw [h11.n1];simp) (by omega) (by omega);have h13:=h11.on b13;have hmlen:(ap es).length≤1000:=by have:=cu hok;omega
 have hn2:=h.n2;obtain⟨A2,C2,w14,hr14,o14,b14⟩:=xJ (enc:=bE) (sz:=2) (fun _=>rfl) (by decide) (fun y=>co _ _) 34 nr Bp Ax rfl w13 x.m (ap es) h13.k2 h13.r2 h13.n2 (by omega) (by omega);refine⟨_,_,_,aj _ _ l011 0,A1,x.b.n,C1,w13,hr13,_,_,_,aj _ _ (ah b13 l011) 1,A2,x.m.n,C2,w14,hr14,?_⟩;intro w15 hw15;have b15:Below w11.heap.size w11 w15:=by subst hw15;exact(ae b13 b14).drew
 have S15:w15.ownsRow w11.heap.size iT 1 (.slice A1 x.b.n C1) x.b.n ((es.map (·.1)).flatMap eJ):=by subst hw15;exact kE (aE o13 b14)
 have P15:w15.ownsRow w11.heap.size nr 2 (.slice A2 x.m.n C2) x.m.n ((ap es).flatMap bE):=by subst hw15;exact bG (kE o14) b13.size
 have pair_at:∀ {wq:World},Below w11.heap.size w11 wq→wq.heap[w1.heap.size]? =some (.cells #[.int .i64 m.1,.int .i64 m.2] nr (0,0)):=fun hb=>Below.keeps hb (by omega) l111;have fin:∀(wq:World) (S P:Sl),wq.ownsRow w11.heap.size iT 1 S.v S.n (((es.map (·.1))++ [bM es m]).flatMap eJ)→wq.ownsRow w11.heap.size nr 2 P.v P.n ((ap es++ [m]).flatMap bE)→Below w11.heap.size w11 wq→
   aB wq (nb w2) (fun w5=>
   ∃res0A:Option Addr,∃res0N:Nat,∃res0C:Nat,∃res1A:Option Addr,∃res1N:Nat,∃res1C:Nat,(w5.cell? (nb w2)=some (Value.slice res0A res0N res0C)∧w5.cell? ((nb w2).add 1)=some (Value.slice res1A res1N res1C)∧True)∧
   pX w x es m (Value.tuple #[Value.agg #[Value.slice res0A res0N res0C,Value.slice res1A res1N res1C],Value.int .i64 0]) w5) [Value.slice S.a S.n S.c,Value.slice P.a P.n P.c] 0:=by
  intro wq S P hS hP hbq;refine aS (Below.keeps hbq (by omega) l211) [S.v,P.v] rfl (bI _ _) ?_;intro w5 h5 hs5 hz5 hB5;have S5:=aN hS fun k hk=>hs5 k fun e=>by have:=(b_ hS k hk).1;omega
  have P5:=aN hP fun k hk=>hs5 k fun e=>by have:=(b_ hP k hk).1;omega
  obtain⟨rS,nS⟩:=Rw.of_own S5 (fun _=>rfl) (by decide);obtain⟨rP,nP⟩:=Rw.of_own P5 (fun _=>rfl) (by decide);have hmap:(es++ [(bM es m,m)]).map (·.1)=es.map (·.1)++ [bM es m]:=by simp
  have hmer:ap (es++ [(bM es m,m)])=ap es++ [m]:=by
   simp [ap,List.drop_append_of_le_length hok.len]
  refine⟨_,_,_,_,_,_,gE h5,⟨S,P⟩,0,rfl,hB5 _ _ (by omega) ((hb03.trans (b311.mono hb03.size)).trans (hbq.mono (by omega))),?_⟩;rw [hadd];refine⟨rfl,⟨by rw [nS];simp,by rw [hmap];exact rS,mu S5,by rw [nP,hmer],by rw [hmer];exact rP,mu P5⟩,fun p hp=>Nat.le_trans (hb03.trans (b311.mono hb03.size)).size (nR S5 p hp),fun p hp=>Nat.le_trans (hb03.trans (b311.mono hb03.size)).size (nR P5 p hp)⟩
 have pushS:∀ {wq:World} {b:Nat},wq.ownsRow w11.heap.size iT 1 (.slice A1 x.b.n C1) x.b.n ((es.map (·.1)).flatMap eJ)→wq.heap[b]? =some (.cells #[Value.string (str (bM es m))] iT (0,0))→Below w11.heap.size w11 wq→_:=fun {wq} {b} h1 h2 h3=>
  m0 (enc:=eJ) (sz:=1) (fun _=>rfl) (by decide) (fun y u hu=>by rw [List.mem_singleton.1 hu];rfl) nt iT nf mI rfl (s:=⟨A1,x.b.n,C1⟩) h1 (bM es m) h2 h3.size (by show(x.b.n+1)*16≤_;omega) (by show x.b.n+1≤_;omega)
 have pushP:∀ {wq:World} {b:Nat},wq.ownsRow w11.heap.size nr 2 (.slice A2 x.m.n C2) x.m.n ((ap es).flatMap bE)→wq.heap[b]? =some (.cells #[Value.int .i64 m.1,Value.int .i64 m.2] nr (0,0))→Below w11.heap.size w11 wq→_:=fun {wq} {b} h1 h2 h3=>
  m0 (enc:=bE) (sz:=2) (fun _=>rfl) (by decide) (fun y=>co _ _) 34 nr Bp Ax rfl (s:=⟨A2,x.m.n,C2⟩) h1 m h2 h3.size (by show(x.m.n+1)*16≤_;omega) (by show x.m.n+1≤_;omega)
 refine⟨m.1,m.2,gE (pair_at b15),?_,?_⟩
 ·intro w16 hw16;have b16:Below w11.heap.size w11 w16:=by subst hw16;exact b15.alloc b15.size _
  have c16:Below w15.heap.size w15 w16:=by subst hw16;exact ag _ _
  have s16:w16.heap[w15.heap.size]? =some (.cells #[Value.string (str (bM es m))] iT (0,0)):=by subst hw16;exact ak _ _
  refine⟨gE (pair_at b16),?_,?_⟩
  ·obtain⟨A3,C3,w17,hr17,o17,b17,k17⟩:=pushS (aE S15 c16) s16 b16;have bb17:=b17 _ b16;refine⟨A3,_,C3,w17,hr17,gE (pair_at bb17),?_⟩;intro w18 hw18;have c18:Below w17.heap.size w17 w18:=by subst hw18;exact ag _ _
   have b18:Below w11.heap.size w11 w18:=by subst hw18;exact bb17.alloc bb17.size _
   have m18:w18.heap[w17.heap.size]? =some (.cells #[Value.int .i64 m.1,Value.int .i64 m.2] nr (0,0)):=by subst hw18;exact ak _ _
   have P17:=aN (aE P15 c16) fun k hk=>k17 k (b_ (aE P15 c16) k hk).2 (bW (aE P15 c16) (aE S15 c16) (by decide) k hk);obtain⟨A4,C4,w19,hr19,o19,b19,k19⟩:=pushP (aE P17 c18) m18 b18;refine⟨A4,_,C4,w19,hr19,?_⟩;have S18:=aE o17 c18;exact fin w19 ⟨A3,x.b.n+1,C3⟩ ⟨A4,x.m.n+1,C4⟩ (aN S18 fun k hk=>k19 k (b_ S18 k hk).2 (bW S18 (aE P17 c18) (by decide) k hk)) o19 (b19 _ b18)
  ·intro w21 hw21;have c21:Below w16.heap.size w16 w21:=by subst hw21;exact ag _ _
   have b21:Below w11.heap.size w11 w21:=by subst hw21;exact b16.alloc b16.size _
   have m21:w21.heap[w16.heap.size]? =some (.cells #[Value.int .i64 m.1,Value.int .i64 m.2] nr (0,0)):=by subst hw21;exact ak _ _
   have S21:=aE (aE S15 c16) c21;have P21:=aE (aE P15 c16) c21;obtain⟨A3,C3,w22,hr22,o22,b22,k22⟩:=pushS S21 (ah c21 s16) b21;have P22:=aN P21 fun k hk=>k22 k (b_ P21 k hk).2 (bW P21 S21 (by decide) k hk);have m22:w22.heap[w16.heap.size]? =some (.cells #[Value.int .i64 m.1,Value.int .i64 m.2] nr (0,0)):=by
    rw [k22 _ (Array.getElem?_eq_some_iff.1 m21).1 (az S21 m21 (by decide))];exact m21
   obtain⟨A4,C4,w23,hr23,o23,b23,k23⟩:=pushP P22 m22 (b22 _ b21);exact⟨A3,_,C3,w22,hr22,A4,_,C4,w23,hr23,fin w23 ⟨A3,x.b.n+1,C3⟩ ⟨A4,x.m.n+1,C4⟩ (aN o22 fun k hk=>k23 k (b_ o22 k hk).2 (bW o22 P22 (by decide) k hk)) o23 (b23 _ (b22 _ b21))⟩
 ·intro w25 hw25 w26 hw26;have c25:Below w15.heap.size w15 w25:=by subst hw25;exact ag _ _
  have b25:Below w11.heap.size w11 w25:=by subst hw25;exact b15.alloc b15.size _
  have m25:w25.heap[w15.heap.size]? =some (.cells #[Value.int .i64 m.1,Value.int .i64 m.2] nr (0,0)):=by subst hw25;exact ak _ _
  have c26:Below w25.heap.size w25 w26:=by subst hw26;exact ag _ _
  have b26:Below w11.heap.size w11 w26:=by subst hw26;exact b25.alloc b25.size _
  have s26:w26.heap[w25.heap.size]? =some (.cells #[Value.string (str (bM es m))] iT (0,0)):=by subst hw26;exact ak _ _
  have S26:=aE (aE S15 c25) c26;have P26:=aE (aE P15 c25) c26;have m26:=ah c26 m25;obtain⟨A3,C3,w27,hr27,o27,b27,k27⟩:=pushS S26 s26 b26;have P27:=aN P26 fun k hk=>k27 k (b_ P26 k hk).2 (bW P26 S26 (by decide) k hk);have m27:w27.heap[w15.heap.size]? =some (.cells #[Value.int .i64 m.1,Value.int .i64 m.2] nr (0,0)):=by
   rw [k27 _ (Array.getElem?_eq_some_iff.1 m26).1 (az S26 m26 (by decide))];exact m26
  obtain⟨A4,C4,w28,hr28,o28,b28,k28⟩:=pushP P27 m27 (b27 _ b26);exact⟨A3,_,C3,w27,hr27,A4,_,C4,w28,hr28,fin w28 ⟨A3,x.b.n+1,C3⟩ ⟨A4,x.m.n+1,C4⟩ (aN o27 fun k hk=>k28 k (b_ o27 k hk).2 (bW o27 P27 (by decide) k hk)) o28 (b28 _ (b27 _ b26))⟩
theorem pf (a b:Sl):∀v∈(#[a.v,b.v]:Array Value),¬li v:=by
 intro v hv;have hv:v=a.v∨v=b.v:=by simpa using hv
 rcases hv with rfl |rfl<;>(rintro(⟨k,n,h⟩ |⟨s,h⟩)<;>cases h)
theorem g_.past {w w':World} {x:nF} {es:List aP} {b:Nat} {p q:Sl} {T:TypeId} {fz:Nat×Nat} (h:g_ w x es) (hb:w.heap[b]? =some (.cells #[p.v,q.v] T fz)) (hne:∀j,j<w.heap.size→j≠b→w'.heap[j]? =w.heap[j]?) (hs:w.heap.size≤w'.heap.size):g_ w' x es:=
 ⟨h.n1,h.r1.past (fun y=>⟨_,rfl,.inr ⟨_,rfl⟩⟩) hb (pf p q) hne hs,h.k1,h.n2,h.r2.past (fun y=>⟨_,rfl,.inl ⟨_,_,rfl⟩⟩) hb (pf p q) hne hs,h.k2⟩
def yW (w:World) (ms:List (Int×Int)) (u:Value) (w':World):Prop:=∃(x:nF) (n e:Int),u= .tuple #[x.v,.int .i64 n,.int .i64 e]∧Below w.heap.size w w'∧(match bU aG 0 ms with
 | .error q=>n=q.1∧e=q.2
 | .ok es=>n=ms.length∧e=0∧g_ w' x es∧gz es∧kD w.heap.size x)
theorem zV (w:World) (A:Option Addr) (C:Nat) (ms:List (Int×Int)) (hr:Rw bE 2 w A ms) (hl:ms.length≤1000000):CP 250 #[.slice A ms.length C] w fun e w'=>∃u,e= .returned u∧yW w ms u w':=by
 refine wC A ms.length C w (yW w ms) ?_;intro w1 hw1;have hb1:Below w.heap.size w w1:=by subst hw1;exact ag _ _
 have z1:w1.heap[w.heap.size]? =some (.cells #[(⟨none,0,0⟩:Sl).v,(⟨none,0,0⟩:Sl).v] vX (0,0)):=by subst hw1;exact ak _ _
 refine(lj w1).mono ?_;rintro e w2 ⟨x0,rfl,h2,b2,f2⟩;have z2:=ah b2 z1;have hlt2:w.heap.size<w2.heap.size:=(Array.getElem?_eq_some_iff.1 z2).1;refine⟨_,_,_,_,_,_,rfl,?_⟩;intro w3 hw3;refine aT [.slice none 0 0,.slice none 0 0] [x0.b.v,x0.m.v] rfl (bI _ _) w3 hw3 ?_;intro w4 h4 hz4 b4;have hb14:Below w.heap.size w w4:=ae hb1 (ae b2 b4);intro I hI;have key:=aX (α:=Int×Int×World) ms.length (fun i y=>∃(x:nF) (es:List aP),y.2.2.heap[w2.heap.size]? =some (.cells #[x.b.v,x.m.v] vX (0,0))∧y.2.2.heap[w.heap.size]? =some (.cells #[(⟨none,0,0⟩:Sl).v,(⟨none,0,0⟩:Sl).v] vX (0,0))∧g_ y.2.2 x es∧gz es∧bU aG 0 ms=bU es i (ms.drop i)∧Below w.heap.size w y.2.2∧kD w.heap.size x) (fun i y=>I [.int .i64 (i:Int),.int .i64 y.1,.int .i64 y.2.1] y.2.2) (0,0,w4) ⟨x0,aG,h4,ah b4 z2,h2.on b4,n_,by rw [List.drop_zero],hb14,f2.mono hb1.size⟩ ?_ ?_
 ·exact key
 ·rintro i hi ih ⟨y4,y3,w5⟩ ⟨x,es,h5,z5,hx5,hok,heq,hB5,f5⟩;change w5.heap[w2.heap.size]? =_ at h5;change w5.heap[w.heap.size]? =_ at z5;change g_ w5 x es at hx5;change Below w.heap.size w w5 at hB5;have hdrop:ms.drop i=ms[i]::ms.drop (i+1):=List.drop_eq_getElem_cons hi;refine hI _ _ _ _ (ac.yes (by simp;omega) ?_);intro w6 hw6;have b6:Below w5.heap.size w5 w6:=by subst hw6;exact aO w5
  have h6:=ah b6 h5;have z6:=ah b6 z5;have hx6:=hx5.on b6;have hB6:Below w.heap.size w w6:=hB5.trans (b6.mono hB5.size);obtain⟨q,hq,_,hc⟩:=(hr.on hB6) i _ (List.getElem?_eq_getElem hi);have c0:=hc 0 _ rfl;rw [ay]at c0;have hlt6:w2.heap.size<w6.heap.size:=(Array.getElem?_eq_some_iff.1 h6).1;have rest:∀(loc:Nat) (wq:World) (x':nF) (n:Int),loc≠w2.heap.size→wq.heap[loc]? =some (.cells #[x'.b.v,x'.m.v] vX (0,0))→wq.heap[w2.heap.size]? =some (.cells #[x.b.v,x.m.v] vX (0,0))→wq.heap[w.heap.size]? =some (.cells #[(⟨none,0,0⟩:Sl).v,(⟨none,0,0⟩:Sl).v] vX (0,0))→Below w.heap.size w wq→(match bP es ms[i]with
    | .error n0=>n=n0∧x'=x
    | .ok y=>n=0∧g_ wq x' (es++ [y])∧kD w.heap.size x')→
    ac ((n:Int) != 0)
     (∃g0A:Option Addr,∃g0N:Nat,∃g0C:Nat,∃g1A:Option Addr,∃g1N:Nat,∃g1C:Nat,(wq.cell? (nb w2)=some (Value.slice g0A g0N g0C)∧wq.cell? ((nb w2).add 1)=some (Value.slice g1A g1N g1C)∧True)∧
      aB wq (nb w) (fun w10=>
      ∃res0A:Option Addr,∃res0N:Nat,∃res0C:Nat,∃res1A:Option Addr,∃res1N:Nat,∃res1C:Nat,(w10.cell? (nb w)=some (Value.slice res0A res0N res0C)∧w10.cell? ((nb w).add 1)=some (Value.slice res1A res1N res1C)∧True)∧
      yW w ms (Value.tuple #[Value.agg #[Value.slice res0A res0N res0C,Value.slice res1A res1N res1C],Value.int .i64 (i:Int),Value.int .i64 n]) w10) [Value.slice g0A g0N g0C,Value.slice g1A g1N g1C] 0)
     (∃g0A:Option Addr,∃g0N:Nat,∃g0C:Nat,∃g1A:Option Addr,∃g1N:Nat,∃g1C:Nat,(wq.cell? ⟨loc,0,none⟩=some (Value.slice g0A g0N g0C)∧wq.cell? ((⟨loc,0,none⟩:Addr).add 1)=some (Value.slice g1A g1N g1C)∧True)∧
      aB wq (nb w2) (fun w11=>
      Ar .i64 ((i:Int)+1) (fun n=>
      I [Value.int .i64 n,Value.int .i64 y4,Value.int .i64 y3] w11)) [Value.slice g0A g0N g0C,Value.slice g1A g1N g1C] 0):=by
   intro loc wq x' n hloc hl hb2 hb0 hBq hm;cases hx:bP es ms[i]with
   |error n0=>
    rw [hx]at hm;obtain⟨rfl,rfl⟩:=hm;refine ac.yes (by simpa using fO hx) ⟨_,_,_,_,_,_,gE hb2,?_⟩;refine aS hb0 [x'.b.v,x'.m.v] rfl (bI _ _) ?_;intro w10 h10 hs10 hz10 hB10;refine⟨_,_,_,_,_,_,gE h10,x',_,_,rfl,hB10 _ _ (Nat.le_refl _) hBq,?_⟩;rw [heq,hdrop,bU,hx];exact⟨rfl,rfl⟩
   |ok y=>
    rw [hx]at hm;obtain⟨rfl,hx',fx⟩:=hm;refine ac.no rfl ⟨_,_,_,_,_,_,gE hl,?_⟩;refine aS hb2 [x'.b.v,x'.m.v] rfl (bI _ _) ?_;intro w11 h11 hs11 hz11 hB11;refine Ar.ok64 (by omega) (by omega) (ih (y4,y3,w11) ⟨x',es++ [y],h11,?_,hx'.past hb2 (fun j _ hj=>hs11 j hj) (Nat.le_of_eq hz11.symm),(kP hok hx).1,?_,hB11 _ _ (by omega) hBq,fx⟩)
    ·show w11.heap[w.heap.size]? =_;rw [hs11 _ (by omega)];exact hb0
    ·rw [heq,hdrop,bU,hx]
  refine⟨_,_,_,_,_,_,gE h6,af.mk q hq ⟨by omega,by omega,_,_,⟨c0,hc 1 _ rfl,trivial⟩,?_,?_⟩⟩
  ·refine(jV w6 x es hx6 hok ms[i]).mono ?_;rintro e w7 ⟨u,rfl,x',n,rfl,b7,hp⟩;refine⟨_,_,_,_,_,_,n,rfl,?_⟩;intro w8 hw8;refine aT [.slice none 0 0,.slice none 0 0] [x'.b.v,x'.m.v] rfl (bI _ _) w8 hw8 ?_;intro w9 h9 hz9 b9;have hz7:=b7.size;refine rest w7.heap.size w9 x' n (by omega) h9 (ah b9 (ah b7 h6)) (ah b9 (ah b7 z6)) ((hB6.trans (b7.mono hB6.size)).trans (b9.mono (Nat.le_trans hB6.size hz7))) ?_;cases hx:bP es ms[i]with
   |error n0=>rw [hx]at hp;exact hp
   |ok y=>rw [hx]at hp;exact⟨hp.1,hp.2.1.on b9,hp.2.2.mono hB6.size⟩
  ·intro w12 hw12;have b12:Below w6.heap.size w6 w12:=by subst hw12;exact ag _ _
   have l12:w12.heap[w6.heap.size]? =some (.cells #[Value.slice none 0 0,Value.slice none 0 0] vX (0,0)):=by subst hw12;exact ak _ _
   have hB12:Below w.heap.size w w12:=hB6.trans (b12.mono hB6.size);obtain⟨q',hq',_,hc'⟩:=(hr.on hB12) i _ (List.getElem?_eq_getElem hi);have hqq:q'=q:=by rw [hq]at hq';exact(Option.some.inj hq').symm
   subst hqq;have c0':=hc' 0 _ rfl;rw [ay]at c0';refine⟨⟨c0',hc' 1 _ rfl,trivial⟩,gE (ah b12 h6),?_⟩;refine(jV w12 x es (hx6.on b12) hok ms[i]).mono ?_;rintro e w13 ⟨u,rfl,x',n,rfl,b13,hp⟩;refine⟨_,_,_,_,_,_,n,rfl,?_⟩;refine aS (ah b13 l12) [x'.b.v,x'.m.v] rfl (bI _ _) ?_;intro w14 h14 hs14 hz14 hB14;refine rest w6.heap.size w14 x' n (by omega) h14 (by rw [hs14 _ (by omega)];exact ah b13 (ah b12 h6)) (by rw [hs14 _ (by omega)];exact ah b13 (ah b12 z6)) (hB14 _ _ (by omega) (hB12.trans (b13.mono hB12.size))) ?_;cases hx:bP es ms[i]with
   |error n0=>rw [hx]at hp;exact hp
   |ok y=>rw [hx]at hp;exact⟨hp.1,hp.2.1.past (p:=⟨none,0,0⟩) (q:=⟨none,0,0⟩) (ah b13 l12) (fun j _ hj=>hs14 j hj) (Nat.le_of_eq hz14.symm),hp.2.2.mono hB12.size⟩
 ·rintro⟨y4,y3,w5⟩ ⟨x,es,h5,z5,hx5,hok,heq,hB5,f5⟩;change w5.heap[w2.heap.size]? =_ at h5;change w5.heap[w.heap.size]? =_ at z5;refine hI _ _ _ _ (ac.no (by simp) ⟨_,_,_,_,_,_,gE h5,?_⟩);refine aS z5 [x.b.v,x.m.v] rfl (bI _ _) ?_;intro w17 h17 hs17 hz17 hB17;refine⟨_,_,_,_,_,_,gE h17,x,_,_,rfl,hB17 _ _ (Nat.le_refl _) hB5,?_⟩;rw [heq,List.drop_length,bU];exact⟨rfl,rfl,hx5.past z5 (fun j _ hj=>hs17 j hj) (Nat.le_of_eq hz17.symm),hok,f5⟩
end Go.Proofs.YtdlcfegnaphclaaGreat.Eng
