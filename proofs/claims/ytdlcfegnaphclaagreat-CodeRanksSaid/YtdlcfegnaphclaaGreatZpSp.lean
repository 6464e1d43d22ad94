/- Two tokens side by side: the walk along their spines, walked by the engine. -/
import Derived.Test.YtdlcfegnaphclaaGreatZpPf
import Derived.Test.YtdlcfegnaphclaaGreatZpBd
import Derived.Test.YtdlcfegnaphclaaGreatZpTab
set_option linter.unusedVariables false
set_option linter.unusedSimpArgs false
set_option maxRecDepth 100000
namespace Go.Proofs.YtdlcfegnaphclaaGreat.Eng
open Go Go.RowKit
abbrev JF:TypeId:=365
def dM (w:World) (p tp:Nat) (a b limit steps:Int):Prop:=w.heap[p]? =some (.cells #[.int .i64 a,.int .i64 b,.pointer (some ⟨tp,0,none⟩),.int .i64 limit,.int .i64 steps] JF (0,0))
theorem dM.on {w w':World} {p tp:Nat} {a b limit steps:Int} (h:dM w p tp a b limit steps) (hb:Below w.heap.size w w'):dM w' p tp a b limit steps:=ag hb h
def cT (T:List aP) (a:Int):Bool:=decide (bA T a∧br T a≠(-1, -1))
theorem ub (w:World) (B p tp:Nat) (T:List aP) (a b limit steps:Int) (hT:dk w tp T) (h:dM w p tp a b limit steps) (hB:B≤p) (hs:0≤steps∧steps≤1000000) (hab: -1000000≤b∧b≤1000000):
  CP 276 #[.pointer (some ⟨p,0,none⟩)] w fun e w'=>e= .returned (.bool (cT T a))∧(if cT T a=true then dM w' p tp (br T a).2 b a (steps+1)else dM w' p tp a b limit steps)∧ap p w w':=by
 refine aT (xp (some ⟨p,0,none⟩) w (fun v w'=>v= .bool (cT T a)∧(if cT T a=true then dM w' p tp (br T a).2 b a (steps+1)else dM w' p tp a b limit steps)∧ap p w w') ?_) (by rintro v w' ⟨rfl,h⟩;exact⟨rfl,h⟩);intro w1 hw1;have hb1:Below w.heap.size w w1:=by subst hw1;exact aI w
 have h1:=h.on hb1;have hpl:p<w.heap.size:=(QV.1 h).1;have rest:∀(x y:Int) (r1:Bool) (loc:Nat) (wq:World),r1=cT T a→(r1=true→y=(br T a).2)→loc≠p→dM wq p tp a b limit steps→wq.heap[loc]? =some (.cells #[.int .i64 x,.int .i64 y] nn (0,0))→ap p w wq→
   ∀J:List Value→World→Prop,(∀w5:World,(Value.bool r1= .bool (cT T a)∧(if cT T a=true then dM w5 p tp (br T a).2 b a (steps+1)else dM w5 p tp a b limit steps)∧ap p w w5)→J [] w5)→
   ac r1
    (∀w6:World,w6=wq.drew→
     ah (some ⟨p,0,none⟩) (fun pa_3=>
     ∃n_4:Int,w6.cell? (((pa_3.add 0).add 0).add 0)=some (Value.int .i64 n_4)∧
     ∃n_6:Int,w6.cell? ((⟨loc,0,none⟩:Addr).add 1)=some (Value.int .i64 n_6)∧
     ah (some ⟨p,0,none⟩) (fun pa_6=>
     (Value.int .i64 n_4).oneCell'=true∧(∃u,w6.cell? (pa_6.add 3)=some u)∧w6.frozen? (pa_6.add 3)=false∧
     ∀w7:World,w7=(w6.setCell (pa_6.add 3) (Value.int .i64 n_4))→
     (w7.cell? ((⟨loc,0,none⟩:Addr).add 1)=some (Value.int .i64 n_6)∧True)∧
     ah (some ⟨p,0,none⟩) (fun pa_7=>
     (Value.int .i64 n_6).oneCell'=true∧(∃u,w7.cell? (((pa_7.add 0).add 0).add 0)=some u)∧w7.frozen? (((pa_7.add 0).add 0).add 0)=false∧
     ∀w8:World,w8=(w7.setCell (((pa_7.add 0).add 0).add 0) (Value.int .i64 n_6))→
     ah (some ⟨p,0,none⟩) (fun pa_8=>
     ∃n_9:Int,w8.cell? (pa_8.add 4)=some (Value.int .i64 n_9)∧
     Ar .i64 ((n_9:Int)+1) (fun n_10=>
     ah (some ⟨p,0,none⟩) (fun pa_11=>
     (Value.int .i64 n_10).oneCell'=true∧(∃u,w8.cell? (pa_11.add 4)=some u)∧w8.frozen? (pa_11.add 4)=false∧
     ∀w9:World,w9=(w8.setCell (pa_11.add 4) (Value.int .i64 n_10))→
     J [] w9)))))))
    (J [] wq):=by
  intro x y r1 loc wq hr hy hloc hwq hlq htq J hJ;refine ac.mk (fun h0=>?_) fun h0=>?_
  ·intro w6 hw6;have h6:dM w6 p tp a b limit steps:=by subst hw6;exact hwq
   have l6:w6.heap[loc]? =some (.cells #[.int .i64 x,.int .i64 y] nn (0,0)):=by subst hw6;exact hlq
   have t6:ap p w w6:=by subst hw6;exact htq.trans (ap.of_below (aI _))
   have c6:∀j,w6.cell? ⟨p,j,none⟩=_:=fun j=>aL h6;simp only [aG,Nat.zero_add,Nat.add_zero];refine ah.mk _ rfl ⟨a,c6 0,⟨y,aL l6,ah.mk _ rfl ⟨rfl,⟨_,c6 3⟩,bu h6,?_⟩⟩⟩;intro w7 hw7;have h7:dM w7 p tp a b a steps:=by subst hw7;exact bJ h6 _
   have s7:∀k,k≠p→w7.heap[k]? =w6.heap[k]? :=fun k hk=>by subst hw7;exact au hk
   have t7:ap p w w7:=t6.trans (by subst hw7;exact⟨rfl,rfl,rfl,by rw [aY];exact Q0 _,fun k _ hk=>au hk⟩);have c7:∀j,w7.cell? ⟨p,j,none⟩=_:=fun j=>aL h7;refine⟨⟨aL (by rw [s7 loc hloc];exact l6),trivial⟩,ah.mk _ rfl ⟨rfl,⟨_,c7 0⟩,bu h7,?_⟩⟩;intro w8 hw8;have h8:dM w8 p tp y b a steps:=by subst hw8;exact bJ h7 _
   have t8:ap p w w8:=t7.trans (by subst hw8;exact⟨rfl,rfl,rfl,by rw [aY];exact Q0 _,fun k _ hk=>au hk⟩);have c8:∀j,w8.cell? ⟨p,j,none⟩=_:=fun j=>aL h8;refine ah.mk _ rfl ⟨steps,c8 4,Ar.ok64 (by omega) (by omega) (ah.mk _ rfl ⟨rfl,⟨_,c8 4⟩,bu h8,?_⟩)⟩;intro w9 hw9;have h9:dM w9 p tp y b a (steps+1):=by subst hw9;exact bJ h8 _
   have t9:ap p w w9:=t8.trans (by subst hw9;exact⟨rfl,rfl,rfl,by rw [aY];exact Q0 _,fun k _ hk=>au hk⟩);refine hJ w9 ⟨by rw [hr],?_,t9⟩;rw [if_pos (by rw [←hr];exact h0), ←hy h0];exact h9
  ·refine hJ wq ⟨by rw [hr],?_,htq⟩;rw [if_neg (by rw [←hr,h0];simp)];exact hwq
 have c1:∀j,w1.cell? ⟨p,j,none⟩=_:=fun j=>aL h1;have hpar:∃(x y:Int),zQ T a= .tuple #[.agg #[.int .i64 x,.int .i64 y],.bool (cT T a)]∧(cT T a=true→y=(br T a).2):=by
  unfold zQ cT;by_cases hc:bA T a∧br T a≠(-1, -1)
  ·rw [if_pos hc,QY hc];exact⟨_,_,rfl,fun _=>rfl⟩
  ·rw [if_neg hc,QZ hc];exact⟨0,0,rfl,fun h=>by cases h⟩
 obtain⟨x,y,hxy,hxy2⟩:=hpar;refine ah.mk _ rfl ⟨some ⟨tp,0,none⟩,by simp only [aG,Nat.zero_add];exact c1 2,ah.mk _ rfl ⟨a,by simp only [aG,Nat.zero_add,Nat.add_zero];exact c1 0,?_,?_⟩⟩
 ·refine(eW w1 tp T (hT.on hb1) a).mono ?_;rintro e w2 ⟨rfl,hb2⟩;rw [hxy];refine⟨x,y,_,rfl,?_⟩;intro w3 hw3;refine aX [.int .i64 0,.int .i64 0] [.int .i64 x,.int .i64 y] rfl (cz _ _) w3 hw3 ?_;intro w4 h4 hz4 hB4;have hb14:=ae hb1 (ae hb2 hB4);have hz2:=(ae hb1 hb2).size;intro J hJ;exact rest x y _ w2.heap.size w4 rfl hxy2 (by omega) (h1.on (ae hb2 hB4)) h4 (ap.of_below hb14) J hJ
 ·intro w10 hw10;have hb10:Below w1.heap.size w1 w10:=by subst hw10;exact af _ _
  have h10:=h1.on hb10;have l10:w10.heap[w1.heap.size]? =some (.cells #[Value.int .i64 0,Value.int .i64 0] nn (0,0)):=by subst hw10;exact ak _ _
  have c10:∀j,w10.cell? ⟨p,j,none⟩=_:=fun j=>aL h10;refine⟨⟨by simp only [aG,Nat.zero_add,Nat.add_zero];exact c10 0,trivial⟩,⟨by simp only [aG,Nat.zero_add];exact c10 2,trivial⟩,?_⟩;refine(eW w10 tp T ((hT.on hb1).on hb10) a).mono ?_;rintro e w11 ⟨rfl,hb11⟩;rw [hxy];refine⟨x,y,_,rfl,?_⟩;have hz1:=hb1.size;refine aW (ag hb11 l10) [.int .i64 x,.int .i64 y] rfl (cz _ _) ?_;intro w12 h12 hs12 hz12 hB12;have h12':dM w12 p tp a b limit steps:=by
   unfold dM;rw [hs12 p (by omega)];exact h10.on hb11
  have hb112:Below w1.heap.size w1 w12:=hB12 _ _ (Q0 _) (ae hb10 hb11);intro J hJ;exact rest x y _ w1.heap.size w12 rfl hxy2 (by omega) h12' h12 (ap.of_below (ae hb1 hb112)) J hJ
theorem rU (w:World) (B p tp:Nat) (T:List aP) (a b limit steps:Int) (hT:dk w tp T) (h:dM w p tp a b limit steps) (hB:B≤p) (hs:0≤steps∧steps≤1000000) (hab: -1000000≤b∧b≤1000000):
  CP 277 #[.pointer (some ⟨p,0,none⟩)] w fun e w'=>e= .returned (.bool (cT T b))∧(if cT T b=true then dM w' p tp a (br T b).1 (b+1) (steps+1)else dM w' p tp a b limit steps)∧ap p w w':=by
 refine aT (AI (some ⟨p,0,none⟩) w (fun v w'=>v= .bool (cT T b)∧(if cT T b=true then dM w' p tp a (br T b).1 (b+1) (steps+1)else dM w' p tp a b limit steps)∧ap p w w') ?_) (by rintro v w' ⟨rfl,h⟩;exact⟨rfl,h⟩);intro w1 hw1;have hb1:Below w.heap.size w w1:=by subst hw1;exact aI w
 have h1:=h.on hb1;have hpl:p<w.heap.size:=(QV.1 h).1;have rest:∀(x y:Int) (r1:Bool) (loc:Nat) (wq:World),r1=cT T b→(r1=true→x=(br T b).1)→loc≠p→dM wq p tp a b limit steps→wq.heap[loc]? =some (.cells #[.int .i64 x,.int .i64 y] nn (0,0))→ap p w wq→
   ∀J:List Value→World→Prop,(∀w5:World,(Value.bool r1= .bool (cT T b)∧(if cT T b=true then dM w5 p tp a (br T b).1 (b+1) (steps+1)else dM w5 p tp a b limit steps)∧ap p w w5)→J [] w5)→
   ac r1
    (∀w6:World,w6=wq.drew→
     ah (some ⟨p,0,none⟩) (fun pa_3=>
     ∃n_4:Int,w6.cell? (((pa_3.add 0).add 0).add 1)=some (Value.int .i64 n_4)∧
     Ar .i64 ((n_4:Int)+1) (fun n_5=>
     ∃n_6:Int,w6.cell? ((⟨loc,0,none⟩:Addr).add 0)=some (Value.int .i64 n_6)∧
     ah (some ⟨p,0,none⟩) (fun pa_6=>
     (Value.int .i64 n_5).oneCell'=true∧(∃u,w6.cell? (pa_6.add 3)=some u)∧w6.frozen? (pa_6.add 3)=false∧
     ∀w7:World,w7=(w6.setCell (pa_6.add 3) (Value.int .i64 n_5))→
     (w7.cell? ((⟨loc,0,none⟩:Addr).add 0)=some (Value.int .i64 n_6)∧True)∧
     ah (some ⟨p,0,none⟩) (fun pa_7=>
     (Value.int .i64 n_6).oneCell'=true∧(∃u,w7.cell? (((pa_7.add 0).add 0).add 1)=some u)∧w7.frozen? (((pa_7.add 0).add 0).add 1)=false∧
     ∀w8:World,w8=(w7.setCell (((pa_7.add 0).add 0).add 1) (Value.int .i64 n_6))→
     ah (some ⟨p,0,none⟩) (fun pa_8=>
     ∃n_9:Int,w8.cell? (pa_8.add 4)=some (Value.int .i64 n_9)∧
     Ar .i64 ((n_9:Int)+1) (fun n_10=>
     ah (some ⟨p,0,none⟩) (fun pa_11=>
     (Value.int .i64 n_10).oneCell'=true∧(∃u,w8.cell? (pa_11.add 4)=some u)∧w8.frozen? (pa_11.add 4)=false∧
     ∀w9:World,w9=(w8.setCell (pa_11.add 4) (Value.int .i64 n_10))→
     J [] w9))))))))
    (J [] wq):=by
  intro x y r1 loc wq hr hy hloc hwq hlq htq J hJ;refine ac.mk (fun h0=>?_) fun h0=>?_
  ·intro w6 hw6;have h6:dM w6 p tp a b limit steps:=by subst hw6;exact hwq
   have l6:w6.heap[loc]? =some (.cells #[.int .i64 x,.int .i64 y] nn (0,0)):=by subst hw6;exact hlq
   have t6:ap p w w6:=by subst hw6;exact htq.trans (ap.of_below (aI _))
   have c6:∀j,w6.cell? ⟨p,j,none⟩=_:=fun j=>aL h6;simp only [aG,Nat.zero_add,Nat.add_zero];refine ah.mk _ rfl ⟨b,c6 1,Ar.ok64 (by omega) (by omega) ⟨x,aL l6,ah.mk _ rfl ⟨rfl,⟨_,c6 3⟩,bu h6,?_⟩⟩⟩;intro w7 hw7;have h7:dM w7 p tp a b (b+1) steps:=by subst hw7;exact bJ h6 _
   have s7:∀k,k≠p→w7.heap[k]? =w6.heap[k]? :=fun k hk=>by subst hw7;exact au hk
   have t7:ap p w w7:=t6.trans (by subst hw7;exact⟨rfl,rfl,rfl,by rw [aY];exact Q0 _,fun k _ hk=>au hk⟩);have c7:∀j,w7.cell? ⟨p,j,none⟩=_:=fun j=>aL h7;refine⟨⟨aL (by rw [s7 loc hloc];exact l6),trivial⟩,ah.mk _ rfl ⟨rfl,⟨_,c7 1⟩,bu h7,?_⟩⟩;intro w8 hw8;have h8:dM w8 p tp a x (b+1) steps:=by subst hw8;exact bJ h7 _
   have t8:ap p w w8:=t7.trans (by subst hw8;exact⟨rfl,rfl,rfl,by rw [aY];exact Q0 _,fun k _ hk=>au hk⟩);have c8:∀j,w8.cell? ⟨p,j,none⟩=_:=fun j=>aL h8;refine ah.mk _ rfl ⟨steps,c8 4,Ar.ok64 (by omega) (by omega) (ah.mk _ rfl ⟨rfl,⟨_,c8 4⟩,bu h8,?_⟩)⟩;intro w9 hw9;have h9:dM w9 p tp a x (b+1) (steps+1):=by subst hw9;exact bJ h8 _
   have t9:ap p w w9:=t8.trans (by subst hw9;exact⟨rfl,rfl,rfl,by rw [aY];exact Q0 _,fun k _ hk=>au hk⟩);refine hJ w9 ⟨by rw [hr],?_,t9⟩;rw [if_pos (by rw [←hr];exact h0), ←hy h0];exact h9
  ·refine hJ wq ⟨by rw [hr],?_,htq⟩;rw [if_neg (by rw [←hr,h0];simp)];exact hwq
 have c1:∀j,w1.cell? ⟨p,j,none⟩=_:=fun j=>aL h1;have hpar:∃(x y:Int),zQ T b= .tuple #[.agg #[.int .i64 x,.int .i64 y],.bool (cT T b)]∧(cT T b=true→x=(br T b).1):=by
  unfold zQ cT;by_cases hc:bA T b∧br T b≠(-1, -1)
  ·rw [if_pos hc,QY hc];exact⟨_,_,rfl,fun _=>rfl⟩
  ·rw [if_neg hc,QZ hc];exact⟨0,0,rfl,fun h=>by cases h⟩
 obtain⟨x,y,hxy,hxy2⟩:=hpar;refine ah.mk _ rfl ⟨some ⟨tp,0,none⟩,by simp only [aG,Nat.zero_add];exact c1 2,ah.mk _ rfl ⟨b,by simp only [aG,Nat.zero_add,Nat.add_zero];exact c1 1,?_,?_⟩⟩
 ·refine(eW w1 tp T (hT.on hb1) b).mono ?_;rintro e w2 ⟨rfl,hb2⟩;rw [hxy];refine⟨x,y,_,rfl,?_⟩;intro w3 hw3;refine aX [.int .i64 0,.int .i64 0] [.int .i64 x,.int .i64 y] rfl (cz _ _) w3 hw3 ?_;intro w4 h4 hz4 hB4;have hb14:=ae hb1 (ae hb2 hB4);have hz2:=(ae hb1 hb2).size;intro J hJ;exact rest x y _ w2.heap.size w4 rfl hxy2 (by omega) (h1.on (ae hb2 hB4)) h4 (ap.of_below hb14) J hJ
 ·intro w10 hw10;have hb10:Below w1.heap.size w1 w10:=by subst hw10;exact af _ _
  have h10:=h1.on hb10;have l10:w10.heap[w1.heap.size]? =some (.cells #[Value.int .i64 0,Value.int .i64 0] nn (0,0)):=by subst hw10;exact ak _ _
  have c10:∀j,w10.cell? ⟨p,j,none⟩=_:=fun j=>aL h10;refine⟨⟨by simp only [aG,Nat.zero_add,Nat.add_zero];exact c10 1,trivial⟩,⟨by simp only [aG,Nat.zero_add];exact c10 2,trivial⟩,?_⟩;refine(eW w10 tp T ((hT.on hb1).on hb10) b).mono ?_;rintro e w11 ⟨rfl,hb11⟩;rw [hxy];refine⟨x,y,_,rfl,?_⟩;have hz1:=hb1.size;refine aW (ag hb11 l10) [.int .i64 x,.int .i64 y] rfl (cz _ _) ?_;intro w12 h12 hs12 hz12 hB12;have h12':dM w12 p tp a b limit steps:=by
   unfold dM;rw [hs12 p (by omega)];exact h10.on hb11
  have hb112:Below w1.heap.size w1 w12:=hB12 _ _ (Q0 _) (ae hb10 hb11);intro J hJ;exact rest x y _ w1.heap.size w12 rfl hxy2 (by omega) h12' h12 (ap.of_below (ae hb1 hb112)) J hJ
def vW (T:List aP) (t:Int):List Int:=a_ (bg T t)
theorem ct {T:List aP} (h:fW T):(ao T).length+256=T.length:=by
 have:=h.len;simp [ao];omega
theorem DX {T:List aP} (h:fW T) {i:Nat} (hi:i<256):T[i]? =some (cC i):=by
 have h1:(T.take 256)[i]? =T[i]? :=List.getElem?_take_of_lt hi;rw [←h1,h.low];simp [aK,hi]
theorem pe {T:List aP} (h:fW T) {i:Nat} (hi:i<256):bg T (i:Int)= [UInt8.ofNat i]:=by
 simp [bg,DX h hi,cC]
theorem Hv {T:List aP} (h:fW T) {k:Nat} {m:Int×Int} (hm:(ao T)[k]? =some m):∃e,T[256+k]? =some e∧e.2=m:=by
 simp only [ao,List.getElem?_map,List.getElem?_drop]at hm;obtain⟨e,he,rfl⟩:=Option.map_eq_some_iff.1 hm;exact⟨e,he,rfl⟩
theorem Cj {T:List aP} (h:fW T) {k:Nat} {m:Int×Int} (hm:(ao T)[k]? =some m):bg T ((256:Int)+(k:Nat))=bg T m.1++bg T m.2:=by
 obtain⟨e,he,rfl⟩:=Hv h hm;obtain⟨_,_,hs⟩:=h.step (256+k) e he (by omega);rw [←hs];unfold bg;rw [show((256:Int)+(k:Nat)).toNat=256+k by omega,he];rfl
theorem yU {T:List aP} (h:fW T):∀(n i:Nat),i≤n→i<T.length→bg T (i:Int)≠ []:=by
 intro n;induction n with
 |zero=>
  intro i hi hl;rw [pe h (by omega)];simp
 |succ n ih=>
  intro i hi hl;by_cases h256:i<256
  ·rw [pe h h256];simp
  ·obtain⟨h1,h2,h3⟩:=h.step i _ (QW hl) (by omega);have:bg T (i:Int)=T[i].1:=by simp [bg,hl]
   rw [this,h3];have:=ih T[i].2.1.toNat (by omega) (by omega);rw [show((T[i].2.1.toNat:Nat):Int)=T[i].2.1 by omega]at this;simp [this]
theorem kK (a b:Bs):a_ (a++b)=a_ a++a_ b:=by simp [a_]
theorem vC {T:List aP} (h:fW T):iQ (ao T) (vW T):=by
 have ml:=ct h;refine⟨⟨fun t h0 h1=>?_,fun k m hm=>?_,h.sound,fun k m hm=>?_⟩,fun i m hm=>⟨(eF h hm).1.1,(eF h hm).2.1⟩⟩
 ·obtain⟨i,rfl⟩:∃i:Nat,t=i:=⟨t.toNat,by omega⟩;have hi:i<256:=by omega
  unfold vW;rw [pe h hi];simp [a_];omega
 ·unfold vW;rw [Cj h hm,kK]
 ·obtain⟨h1,h2⟩:=eF h hm;have hk:=(List.getElem?_eq_some_iff.1 hm).1;have n1:=yU h m.1.toNat m.1.toNat (Q0 _) (by omega);have n2:=yU h m.2.toNat m.2.toNat (Q0 _) (by omega);rw [show((m.1.toNat:Nat):Int)=m.1 by omega]at n1;rw [show((m.2.toNat:Nat):Int)=m.2 by omega]at n2;exact⟨by simpa [vW,a_]using n1,by simpa [vW,a_]using n2⟩
def az (s:ar) (T:List aP):Voc:=⟨ao T,vW T,cutB s.classes s.joins,s.specials.map (·.1)⟩
theorem pA {w:World} {s:ar} {T:List aP} {x:cw} {tp bp mp:Nat} (h:cF w s T x tp bp mp):(az s T).Ok:=by
 have ml:=ct h.ok;refine⟨vC h.ok,h.nodup,fun t ht=>?_⟩;obtain⟨y,hy,rfl⟩:=List.mem_map.1 ht;have:=h.ids y hy;show 256+((ao T).length:Int)≤y.1;omega
theorem gY {T:List aP} (h:fW T) (t:Int):bA T t↔oc (ao T) t:=by
 have ml:=ct h;unfold bA oc;omega
theorem vg {T:List aP} (h:fW T) (s:Bs):fF T s=after (ao T) (ao T).length (a_ s):=by
 have ml:=ct h;unfold fF rp after;rw [show((T.length:Int)-256).toNat=(ao T).length by omega]
theorem lm {cut:Int→Int→Bool}:∀l:List Int,dL cut l↔∀(j:Nat) (x y:Int),l[j]? =some x→l[j+1]? =some y→cut x y=false
 | []=>by simp [dL]
 | [x]=>by simp [dL]
 |x::y::r=>by
  simp only [dL,lm (y::r)];constructor
  ·rintro⟨h1,h2⟩ j a b ha hb;cases j with
   |zero=>
    simp at ha hb;rw [←ha, ←hb];exact h1
   |succ j=>exact h2 j a b (by simpa using ha) (by simpa using hb)
  ·intro h;exact⟨h 0 x y rfl rfl,fun j a b ha hb=>h (j+1) a b (by simpa using ha) (by simpa using hb)⟩
theorem vb {cut:Int→Int→Bool} {l:List Int} (hl:l≠ []):(chop cut l).length≤1↔dL cut l:=by
 constructor
 ·intro h;obtain⟨h1,h2⟩:=d_ (cut:=cut) l
  match hc:chop cut l with
  | []=>rw [hc]at h2;exact absurd h2.symm hl
  | [p]=>
   rw [hc]at h1 h2;simp at h2;subst h2;exact h1.2
  |p::q::r=>rw [hc]at h;simp at h
 ·intro h;have:=fr (cut:=cut) [l] ⟨hl,h⟩;simp at this;rw [this];simp
theorem wL {c c':Int→Int→Bool} {l:List Int} (h:∀x∈l,∀y∈l,c x y=c' x y):dL c l↔dL c' l:=by
 rw [lm,lm];constructor
 ·intro k j x y hx hy;rw [←h x (List.mem_of_getElem? hx) y (List.mem_of_getElem? hy)];exact k j x y hx hy
 ·intro k j x y hx hy;rw [h x (List.mem_of_getElem? hx) y (List.mem_of_getElem? hy)];exact k j x y hx hy
theorem yg (cut:Int→Int→Bool) (b:Bs):mW cut b=true↔dL cut (a_ b):=by
 unfold mW;rw [decide_eq_true_eq,lm];have hget:∀j:Nat,(a_ b)[j]? =(b[j]?).map fun z:UInt8=>(z.toNat:Int):=fun j=>by simp [a_]
 constructor
 ·intro h j x y hx hy;rw [hget]at hx hy;obtain⟨u,hu,rfl⟩:=Option.map_eq_some_iff.1 hx;obtain⟨v,hv,rfl⟩:=Option.map_eq_some_iff.1 hy;have hl:=(List.getElem?_eq_some_iff.1 hv).1;have:=h (j+1) hl;unfold fA at this;rw [if_neg (by omega),Nat.add_sub_cancel,hu,hv]at this;simpa using this
 ·intro h j hj;unfold fA;rw [if_neg (by omega)];cases j with
  |zero=>split<;>simp
  |succ j=>
   rw [Nat.add_sub_cancel,QW hj,QW (show j<b.length by omega)];have:=h j (b[j].toNat) (b[j+1].toNat) (by rw [hget,QW (show j<b.length by omega)];rfl) (by rw [hget,QW hj];rfl);simp [this]
theorem jq (b:Bs):∀x∈a_ b,0≤x∧x<256:=by
 intro x hx;obtain⟨y,_,rfl⟩:=List.mem_map.1 hx;have:=y.toNat_lt;omega
theorem ny (V:Voc) {x y:Int} (hx:0≤x) (hy:0≤y):V.cut x y=V.cutB x y:=by
 unfold Voc.cut;rw [QZ (by omega),QZ (by omega)];rfl
theorem Br {w:World} {s:ar} {T:List aP} {x:cw} {tp bp mp:Nat} (h:cF w s T x tp bp mp) {i:Nat} (hi:bA T (i:Int)):gH s T i=true↔(az s T).Canon [(i:Int)]:=by
 have hT:=(gY h.ok _).1 hi;have hok:=pA h;rw [Voc.alone_iff hok (V:=az s T) hT];have hne:vW T (i:Int)≠ []:=(hok.good.bytes hT).2;have hch:(chop (az s T).cut ((az s T).ex (i:Int))).length≤1↔mW (cutB s.classes s.joins) (bg T (i:Int))=true:=by
  show(chop (az s T).cut (vW T (i:Int))).length≤1↔_;rw [vb hne,yg];exact wL fun x hx y hy=>ny _ (jq _ x hx).1 (jq _ y hy).1
 rw [hch];unfold gH cK;rw [Bool.and_eq_true,decide_eq_true_eq,vg h.ok];exact Iff.rfl
theorem Ie {w:World} {s:ar} {T:List aP} {x:cw} {tp bp mp:Nat} (h:cF w s T x tp bp mp) (t:Int):di s T t=true↔(az s T).Has t:=by
 unfold di Voc.Has;rw [decide_eq_true_eq,gY h.ok];exact Or.comm
theorem ik {w:World} {s:ar} {T:List aP} {x:cw} {tp bp mp:Nat} (h:cF w s T x tp bp mp) {t:Int} (ht:(az s T).Has t):gM s T t=true↔(az s T).Canon [t]:=by
 have hok:=pA h;unfold gM;rcases ht with ht |ht
 ·have hin:=(gY h.ok t).2 ht;have hn:t∉s.specials.map (·.1):=fun hm=>by
   have h1:256+((ao T).length:Int)≤t:=hok.above t hm;have h2:t<256+(((ao T).length:Nat):Int):=ht.2;omega
  rw [QZ hn,QY hin];have:=Br h (i:=t.toNat) (by rw [show((t.toNat:Nat):Int)=t by have:=hin.1;omega];exact hin);rw [show((t.toNat:Nat):Int)=t by have:=hin.1;omega]at this;simpa using this
 ·have hm:t∈s.specials.map (·.1):=ht;rw [QY hm];simp only [Bool.true_or,true_iff];exact Voc.alone_special hok ht
theorem rQ {T:List aP} (h:fW T) {a:Int} (ha:bA T a):cT T a=true↔256≤a:=by
 unfold cT;rw [decide_eq_true_eq];have hlt:a.toNat<T.length:=by have:=ha.1;have:=ha.2;omega
 constructor
 ·rintro⟨_,h2⟩;rcases Int.lt_or_le a 256 with h' |h'
  ·exfalso;apply h2;have hl:a.toNat<256:=by have:=ha.1;omega
   simp [br,DX h hl,cC]
  ·exact h'
 ·intro h256;refine⟨ha,fun e=>?_⟩;obtain⟨h1,_,_⟩:=h.step a.toNat _ (QW hlt) (by omega);simp only [br,QW hlt,Option.map_some,Option.getD_some]at e;rw [e]at h1;simp at h1
theorem mh {T:List aP} (h:fW T) {a:Int} (ha:bA T a) (h256:256≤a):∃j:Nat,a=256+(j:Int)∧(ao T)[j]? =some (br T a):=by
 have hlt:a.toNat<T.length:=by have:=ha.1;have:=ha.2;omega
 refine⟨a.toNat-256,by omega,?_⟩;simp only [ao,List.getElem?_map,List.getElem?_drop];rw [show 256+(a.toNat-256)=a.toNat by omega,QW hlt];simp [br,hlt]
def jm (T:List aP) (a b limit:Int):Bool:=match(ao T).idxOf? (a,b)with
 |some i=>decide (((256+i:Nat):Int) <limit)
 |none=>false
theorem vB (w:World) (p tp:Nat) (T:List aP) (a b limit steps:Int) (hT:dk w tp T) (h:dM w p tp a b limit steps):
  CP 259 #[.pointer (some ⟨p,0,none⟩)] w fun e w'=>e= .returned (.bool (jm T a b limit))∧Below w.heap.size w w':=by
 refine aO (xg (some ⟨p,0,none⟩) w) ?_;intro w1 hw1;have hb1:Below w.heap.size w w1:=by subst hw1;exact aI w
 have h1:=h.on hb1;have c1:∀j,w1.cell? ⟨p,j,none⟩=_:=fun j=>aL h1;refine ah.mk _ rfl ⟨_,by simp only [aG,Nat.zero_add];exact c1 2,ah.mk _ rfl ⟨a,by simp only [aG,Nat.zero_add,Nat.add_zero];exact c1 0,ah.mk _ rfl ⟨b,by simp only [aG,Nat.zero_add,Nat.add_zero];exact c1 1,?_⟩⟩⟩;refine(nm w1 tp T (hT.on hb1) a b).mono ?_;rintro e w2 ⟨rfl,hb2⟩;have c2:∀j,w2.cell? ⟨p,j,none⟩=_:=fun j=>aL (h1.on hb2);have hb:=ae hb1 hb2;unfold jm;cases hx:(ao T).idxOf? (a,b)with
 |none=>exact⟨_,_,rfl,ac.no rfl ⟨rfl,hb⟩⟩
 |some i=>exact⟨_,_,rfl,ac.yes rfl (ah.mk _ rfl ⟨limit,by simp only [aG,Nat.zero_add];exact c2 3,rfl,hb⟩)⟩
theorem Dj (w:World) (B p tp:Nat) (T:List aP) (a b limit steps:Int) (hT:dk w tp T) (hok:fW T) (ht:∀w',ap p w w'→dk w' tp T) (h:dM w p tp a b limit steps) (hB:B≤p) (hs:0≤steps∧steps≤1000000) (ha:bA T a) (hb:bA T b):
  CP 260 #[.pointer (some ⟨p,0,none⟩)] w fun e w'=>∃r:Bool,e= .returned (.bool r)∧ap p w w'∧((r=true∧b<a∧256≤a∧dM w' p tp (br T a).2 b a (steps+1))∨(r=true∧a≤b∧256≤b∧dM w' p tp a (br T b).1 (b+1) (steps+1))∨(r=false∧a<256∧b<256∧dM w' p tp a b limit steps)):=by
 refine aO (AS (some ⟨p,0,none⟩) w) ?_;intro w1 hw1;have hb1:Below w.heap.size w w1:=by subst hw1;exact aI w
 have h1:=h.on hb1;have t1:ap p w w1:=ap.of_below hb1;have c1:∀j,w1.cell? ⟨p,j,none⟩=_:=fun j=>aL h1;have hmost:=hok.most;have a0:=ha.1;have a1:=ha.2;have b0:=hb.1;have b1:=hb.2;have sa:=rQ hok ha;have sb:=rQ hok hb;refine ah.mk _ rfl ⟨a,by simp only [aG,Nat.zero_add,Nat.add_zero];exact c1 0,ah.mk _ rfl ⟨b,by simp only [aG,Nat.zero_add,Nat.add_zero];exact c1 1,ac.mk (fun h0=>?_) fun h0=>?_⟩⟩
 ·have h0:=QQ h0;refine(ub w1 B p tp T a b limit steps (ht w1 t1) h1 hB hs (by omega)).mono ?_;rintro e w2 ⟨rfl,hw2,t2⟩;have t12:=t1.trans t2;refine⟨_,rfl,ac.mk (fun h2=>?_) fun h2=>?_⟩
  ·rw [if_pos h2]at hw2;exact⟨true,rfl,t12,.inl ⟨rfl,by omega,sa.1 h2,hw2⟩⟩
  ·rw [if_neg (by rw [h2];simp)]at hw2;have ha256:¬256≤a:=fun hh=>by rw [sa.2 hh]at h2;cases h2
   refine(rU w2 B p tp T a b limit steps (ht w2 t12) hw2 hB hs (by omega)).mono ?_;rintro e w3 ⟨rfl,hw3,t3⟩;have hsb:cT T b=false:=by
    cases hx:cT T b with
    |false=>rfl
    |true=>have:=sb.1 hx;omega
   rw [hsb]at hw3;rw [if_neg (by simp)]at hw3;exact⟨_,rfl,false,by rw [hsb],t12.trans t3,.inr (.inr ⟨rfl,by omega,by omega,hw3⟩)⟩
 ·have h0:=QX h0;refine(rU w1 B p tp T a b limit steps (ht w1 t1) h1 hB hs (by omega)).mono ?_;rintro e w2 ⟨rfl,hw2,t2⟩;have t12:=t1.trans t2;refine⟨_,rfl,ac.mk (fun h2=>?_) fun h2=>?_⟩
  ·rw [if_pos h2]at hw2;exact⟨true,rfl,t12,.inr (.inl ⟨rfl,by omega,sb.1 h2,hw2⟩)⟩
  ·rw [if_neg (by rw [h2];simp)]at hw2;have hb256:¬256≤b:=fun hh=>by rw [sb.2 hh]at h2;cases h2
   refine(ub w2 B p tp T a b limit steps (ht w2 t12) hw2 hB hs (by omega)).mono ?_;rintro e w3 ⟨rfl,hw3,t3⟩;have hsa:cT T a=false:=by
    cases hx:cT T a with
    |false=>rfl
    |true=>have:=sa.1 hx;omega
   rw [hsa]at hw3;rw [if_neg (by simp)]at hw3;exact⟨_,rfl,false,by rw [hsa],t12.trans t3,.inr (.inr ⟨rfl,by omega,by omega,hw3⟩)⟩
theorem E9 (w:World) (B p tp:Nat) (T:List aP) (a b limit:Int) (hok:fW T) (ht:∀w',ap p w w'→dk w' tp T) (h:dM w p tp a b limit 0) (hB:B≤p) (ha:bA T a) (hb:bA T b) (aa:cK (ao T) (vW T) a) (ab:cK (ao T) (vW T) b) (la:a≤limit) (lb:b+1≤limit):
  CP 243 #[.pointer (some ⟨p,0,none⟩)] w fun e w'=>∃r:Bool,e= .returned (.bool r)∧(r=true↔iX (ao T) (vW T) a b limit)∧ap p w w':=by
 refine aO (zR (some ⟨p,0,none⟩) w) ?_;intro I hI;have hG:=vC hok;have hmost:=hok.most;have ml:=ct hok;have key:∀(n:Nat) (a' b' limit' steps:Int) (w1:World),a'.toNat+b'.toNat≤n→dM w1 p tp a' b' limit' steps→ap p w w1→bA T a'→bA T b'→cK (ao T) (vW T) a'→cK (ao T) (vW T) b'→a'≤limit'→b'+1≤limit'→0≤steps→steps+a'+b'≤10000→(iX (ao T) (vW T) a' b' limit'↔iX (ao T) (vW T) a b limit)→∀y2:Bool,I [.bool y2] w1:=by
  intro n;induction n using Nat.strongRecOn with
  |ind n ih=>
   intro a' b' limit' steps w1 hn h1 t1 ha' hb' aa' ab' la' lb' hs0 hs1 hF y2;have Ta:=(gY hok a').1 ha';have Tb:=(gY hok b').1 hb';refine hI y2 w1 ?_;refine(vB w1 p tp T a' b' limit' steps (ht w1 t1) h1).mono ?_;rintro e w2 ⟨rfl,hb2⟩;have h2:=h1.on hb2;have t2:=t1.trans (ap.of_below hb2);refine⟨_,rfl,ac.mk (fun h0=>?_) fun h0=>?_⟩
   ·have h0:jm T a' b' limit'=false:=by simpa using h0
    have hno:∀i:Nat,(ao T)[i]? =some (a',b')→limit'≤256+(i:Int):=by
     intro i hi;unfold jm at h0;cases hx:(ao T).idxOf? (a',b')with
     |none=>exact absurd (List.mem_of_getElem? hi) (List.idxOf?_eq_none_iff.1 hx)
     |some j=>
      rw [hx]at h0;have h0:=QX h0;obtain⟨hj,he,hmin⟩:=List.findIdx?_eq_some_iff_getElem.1 hx;have hij:j≤i:=by
       rcases Nat.lt_or_ge i j with hlt |hge
       ·exfalso;have:=hmin i hlt;have hil:=(List.getElem?_eq_some_iff.1 hi);apply this;rw [hil.2];simp
       ·exact hge
      omega
    refine(Dj w2 B p tp T a' b' limit' steps (ht w2 t2) hok (fun w' tt=>ht w' (t2.trans tt)) h2 hB ⟨hs0,by have:=ha'.1;have:=hb'.1;omega⟩ ha' hb').mono ?_;rintro e w3 ⟨r,rfl,t3,hcase⟩;have t13:=t2.trans t3;refine⟨r,rfl,?_⟩;rcases hcase with⟨rfl,hba,h256,hw3⟩ |⟨rfl,hab,h256,hw3⟩ |⟨rfl,h1a,h1b,hw3⟩
    ·obtain⟨j,rfl,hm⟩:=mh hok ha' h256;have hlt:=eF hok hm;obtain⟨q1,_,_,_⟩:=fg hG hm aa';have hj:=(List.getElem?_eq_some_iff.1 hm).1;have hp:=hb'.1;refine ac.no rfl (ih _ ?_ (br T (256+(j:Int))).2 b' (256+(j:Int)) (steps+1) w3 (Q0 _) hw3 t13 ⟨hlt.2.1,by omega⟩ hb' ?_ ab' (by omega) (by omega) (by omega) (by omega) ?_ y2)
     ·omega
     ·exact(fg hG hm aa').2.2.2
     ·rw [←hF];exact(Ek hG hm Tb aa' ab' hba la' hno).symm
    ·obtain⟨j,rfl,hm⟩:=mh hok hb' h256;have hlt:=eF hok hm;have hj:=(List.getElem?_eq_some_iff.1 hm).1;have hp:=ha'.1;refine ac.no rfl (ih _ ?_ a' (br T (256+(j:Int))).1 (256+(j:Int)+1) (steps+1) w3 (Q0 _) hw3 t13 ha' ⟨hlt.1.1,by omega⟩ aa' ?_ (by omega) (by omega) (by omega) (by omega) ?_ y2)
     ·omega
     ·exact(fg hG hm ab').2.2.1
     ·rw [←hF];exact(Bv hG hm Ta aa' ab' hab (by omega) hno).symm
    ·refine ac.yes rfl ⟨true,rfl,?_,t13⟩;rw [←hF];exact⟨fun _=>Da hG Ta Tb aa' ab' h1a h1b hno,fun _=>rfl⟩
   ·have h0:jm T a' b' limit'=true:=by simpa using h0
    refine⟨false,rfl,?_,t2⟩;rw [←hF];refine⟨(fun h=>by cases h),fun hfree=>?_⟩;unfold jm at h0;cases hx:(ao T).idxOf? (a',b')with
    |none=>rw [hx]at h0;cases h0
    |some j=>
     rw [hx]at h0;have h0:=QQ h0;obtain⟨hj,he,_⟩:=List.findIdx?_eq_some_iff_getElem.1 hx;exact absurd hfree (vF hG Ta Tb aa' ab' (i:=j) (by rw [QW hj];congr 1;simpa using he) (by omega))
 exact key _ a b limit 0 w (Q0 _) h (ap.of_below (Below.refl _ _)) ha hb aa ab la lb (Int.le_refl _) (by have:=ha.2;have:=hb.2;omega) Iff.rfl false
theorem tr (w:World) (tp:Nat) (T:List aP) (hT:dk w tp T) (a b:Int):CP 241 #[.pointer (some ⟨tp,0,none⟩),.int .i64 a,.int .i64 b] w fun e w'=>e= .returned (.bool (decide (bA T a∧bA T b)))∧w'=w:=by
 refine aT (yX (some ⟨tp,0,none⟩) a b w (fun v w'=>v= .bool (decide (bA T a∧bA T b))∧w'=w) ?_) (by rintro v w' ⟨rfl,h⟩;exact⟨rfl,h⟩);have off:¬(bA T a∧bA T b)→(Value.bool false= .bool (decide (bA T a∧bA T b))∧w=w):=fun h=>⟨by rw [QZ h],rfl⟩;refine ac.mk (fun h0=>?_) fun h0=>off fun h=>?_
 ·have h0:=QQ h0;refine(fc w tp T hT).mono ?_;rintro e w1 ⟨rfl,hw⟩;subst hw;refine⟨_,rfl,ac.mk (fun h1=>?_) fun h1=>off fun h=>?_⟩
  ·have h1:=QQ h1;refine ac.mk (fun h2=>?_) fun h2=>off fun h=>?_
   ·have h2:=QQ h2;refine(fc w1 tp T hT).mono ?_;rintro e w2 ⟨rfl,hw⟩;subst hw;refine⟨_,rfl,?_,rfl⟩;congr 1;exact decide_eq_decide.2 ⟨fun h=>⟨⟨h0,h1⟩,h2,h⟩,fun h=>h.2.2⟩
   ·exact QX h2 h.2.1
  ·exact QX h1 h.1.2
 ·exact QX h0 h.1.1
theorem EG (w:World) (tp:Nat) (T:List aP) (hT:dk w tp T) (hok:fW T) (a b limit:Int) (ha:bA T a) (hb:bA T b) (aa:cK (ao T) (vW T) a) (ab:cK (ao T) (vW T) b) (la:a≤limit) (lb:b+1≤limit):
  CP 203 #[.pointer (some ⟨tp,0,none⟩),.int .i64 a,.int .i64 b,.int .i64 limit] w fun e w'=>∃r:Bool,e= .returned (.bool r)∧(r=true↔iX (ao T) (vW T) a b limit)∧Below w.heap.size w w':=by
 refine aO (xf (some ⟨tp,0,none⟩) a b limit w) ?_;refine(tr w tp T hT a b).mono ?_;rintro e w1 ⟨rfl,hw⟩;subst hw;refine⟨_,rfl,ac.yes (QY ⟨ha,hb⟩) ?_⟩;have hbegin:CP 242 #[.pointer (some ⟨tp,0,none⟩),.int .i64 a,.int .i64 b,.int .i64 limit] w1 fun e w'=>e= .returned (.pointer (some (nb w1)))∧w'=w1.alloc (.cells #[Value.int .i64 a,Value.int .i64 b,Value.pointer (some ⟨tp,0,none⟩),Value.int .i64 limit,Value.int .i64 0] JF):=by
  refine aO (wH (some ⟨tp,0,none⟩) a b limit w1) ?_;rintro w2 rfl;exact⟨rfl,rfl⟩
 refine hbegin.mono ?_;rintro e w2 ⟨rfl,hw2⟩;have hb2:Below w1.heap.size w1 w2:=by subst hw2;exact af _ _
 have h2:dM w2 w1.heap.size tp a b limit 0:=by subst hw2;exact ak _ _
 refine⟨_,rfl,?_⟩;refine(E9 w2 w1.heap.size w1.heap.size tp T a b limit hok (fun w' t=>hT.on (hb2.trans (t.below (Q0 _) hb2.size))) h2 (Q0 _) ha hb aa ab la lb).mono ?_;rintro e w3 ⟨r,rfl,hr,t3⟩;exact⟨r,rfl,r,rfl,hr,hb2.trans (t3.below (Q0 _) hb2.size)⟩
theorem oE {w:World} {v:Nat} {c:Array Value} {tp bp mp:Nat} (h:oy w v c tp bp mp) {s:ar} {T:List aP} {x:cw} (hp:cF w s T x tp bp mp) (id:Int):CP 200 #[.pointer (some ⟨v,0,none⟩),.int .i64 id] w fun e w'=>∃r:Bool,e= .returned (.bool r)∧(r=true↔id∈s.specials.map (·.1))∧w'=w:=by
 refine aO (Ax (some ⟨v,0,none⟩) id w) ?_;refine(mf h).mono ?_;rintro e w1 ⟨rfl,hw⟩;subst hw;refine⟨_,rfl,(lZ w1 mp s.specials hp.marks hp.few id).mono ?_⟩;rintro e w2 ⟨rfl,hw⟩;subst hw;exact⟨_,_,rfl,_,rfl,qM,rfl⟩
theorem EN (b:Bs):(a_ b).getLast?=b.getLast?.map fun z:UInt8=>(z.toNat:Int):=by simp [a_]
theorem EC (b:Bs):(a_ b).head?=b.head?.map fun z:UInt8=>(z.toNat:Int):=by simp [a_]
theorem Ad {w:World} {v:Nat} {c:Array Value} {tp bp mp:Nat} (h:oy w v c tp bp mp) {s:ar} {T:List aP} {x:cw} (hp:cF w s T x tp bp mp) (a b:Int) (ha:(az s T).Has a) (hb:(az s T).Has b) (ca:(az s T).Canon [a]) (cb:(az s T).Canon [b]):
  CP 150 #[.pointer (some ⟨v,0,none⟩),.int .i64 a,.int .i64 b] w fun e w'=>∃r:Bool,e= .returned (.bool r)∧(r=true↔(az s T).Pair a b)∧Below w.heap.size w w':=by
 have hok:=pA hp;refine aO (AE (some ⟨v,0,none⟩) a b w) ?_;have mark_cut:∀t:Int,t∈s.specials.map (·.1)→∃z:Int,(az s T).items t= [z]∧z<0:=by
  intro t ht;obtain⟨i,hi,_⟩:=Voc.place_some (V:=az s T) ht;refine⟨-1- (i:Int),?_,by omega⟩;unfold Voc.items;rw [hi]
 refine(oE h hp a).mono ?_;rintro e w1 ⟨r1,rfl,hr1,hw⟩;subst hw;refine⟨_,rfl,ac.mk (fun h0=>?_) fun h0=>?_⟩
 ·refine⟨true,rfl,⟨fun _=>?_,fun _=>rfl⟩,Below.refl _ _⟩;obtain⟨z,hz,hneg⟩:=mark_cut a (hr1.1 h0);obtain⟨y,hy⟩:∃y,((az s T).items b).head?=some y:=by
   cases hx:(az s T).items b with
   |nil=>exact absurd hx (Voc.items_ne hok hb)
   |cons y t=>exact⟨y,rfl⟩
  exact .inl ⟨z,y,by rw [hz];rfl,hy,by unfold Voc.cut;rw [QY hneg];rfl⟩
 have na:a∉s.specials.map (·.1):=fun hm=>by rw [hr1.2 hm]at h0;cases h0
 refine(oE h hp b).mono ?_;rintro e w2 ⟨r2,rfl,hr2,hw⟩;subst hw;refine⟨_,rfl,ac.mk (fun h1=>?_) fun h1=>?_⟩
 ·refine⟨true,rfl,⟨fun _=>?_,fun _=>rfl⟩,Below.refl _ _⟩;obtain⟨z,hz,hneg⟩:=mark_cut b (hr2.1 h1);obtain⟨y,hy⟩:∃y,((az s T).items a).getLast?=some y:=by
   cases hx:((az s T).items a).getLast? with
   |none=>exact absurd (List.getLast?_eq_none_iff.1 hx) (Voc.items_ne hok ha)
   |some y=>exact⟨y,rfl⟩
  exact .inl ⟨y,z,hy,by rw [hz];rfl,by unfold Voc.cut;rw [QY hneg];simp⟩
 have nb':b∉s.specials.map (·.1):=fun hm=>by rw [hr2.2 hm]at h1;cases h1
 have Ta:oc (ao T) a:=ha.resolve_right na;have Tb:oc (ao T) b:=hb.resolve_right nb';have ia:=(gY hp.ok a).2 Ta;have ib:=(gY hp.ok b).2 Tb;have short:∀t,bA T t→(bg T t).length≤64:=by
  intro t ht;obtain⟨y,hy,hyb⟩:=eB ht;rw [hyb];exact hp.ok.short y (List.mem_of_getElem? hy)
 refine(gq h).mono ?_;rintro e w3 ⟨rfl,hw⟩;subst hw;refine⟨_,rfl,(iV w3 tp T hp.tab a).mono ?_⟩;rintro e w4 ⟨rfl,hw⟩;subst hw;rw [if_pos ia];refine⟨_,_,rfl,(gq h).mono ?_⟩;rintro e w5 ⟨rfl,hw⟩;subst hw;refine⟨_,rfl,(iV w5 tp T hp.tab b).mono ?_⟩;rintro e w6 ⟨rfl,hw⟩;subst hw;rw [if_pos ib];refine⟨_,_,rfl,(sm h).mono ?_⟩;rintro e w7 ⟨rfl,hw⟩;subst hw;refine⟨_,rfl,(vU w7 bp s.classes s.joins hp.bound (rB hp.right).1 (bg T a) (bg T b) (by have:=short a ia;omega)).mono ?_⟩;rintro e w8 ⟨rfl,hb8⟩;have hpair:(az s T).Pair a b↔kE (cutB s.classes s.joins) (bg T a) (bg T b)=true∨(az s T).Free a b:=by
  unfold Voc.Pair;rw [Voc.items_tok hok (V:=az s T) Ta,Voc.items_tok hok (V:=az s T) Tb];show(∃x y,(a_ (bg T a)).getLast?=some x∧(a_ (bg T b)).head?=some y∧(az s T).cut x y=true)∨_↔_;rw [EN,EC];unfold kE;cases h1:(bg T a).getLast? with
  |none=>
   simp only [Option.map_none];constructor
   ·rintro(⟨x,y,hx,_⟩ |h)
    ·cases hx
    ·exact .inr h.2.2
   ·rintro(h |h)
    ·cases h
    ·exact .inr ⟨Ta,Tb,h⟩
  |some z1=>
   cases h2:(bg T b).head? with
   |none=>
    simp only [Option.map_none];constructor
    ·rintro(⟨x,y,_,hy,_⟩ |h)
     ·cases hy
     ·exact .inr h.2.2
    ·rintro(h |h)
     ·cases h
     ·exact .inr ⟨Ta,Tb,h⟩
   |some z2=>
    simp only [Option.map_some];constructor
    ·rintro(⟨x,y,hx,hy,hc⟩ |h)
     ·cases hx;cases hy;rw [ny _ (by omega) (by omega)]at hc;exact .inl hc
     ·exact .inr h.2.2
    ·rintro(h |h)
     ·exact .inl ⟨_,_,rfl,rfl,by rw [ny _ (by omega) (by omega)];exact h⟩
     ·exact .inr ⟨Ta,Tb,h⟩
 refine⟨_,rfl,ac.mk (fun h2=>?_) fun h2=>?_⟩
 ·exact⟨true,rfl,⟨fun _=>hpair.2 (.inl h2),fun _=>rfl⟩,hb8⟩
 ·refine(gq (h.on hb8)).mono ?_;rintro e w9 ⟨rfl,hw⟩;subst hw;have hmost:=hp.ok.most;have ml:=ct hp.ok;have a1:=ia.2;have b1:=ib.2;refine⟨_,rfl,(EG w9 tp T (hp.tab.on hb8) hp.ok a b 9223372036854775807 ia ib ((Voc.alone_iff hok (V:=az s T) Ta).1 ca).1 ((Voc.alone_iff hok (V:=az s T) Tb).1 cb).1 (by omega) (by omega)).mono ?_⟩;rintro e w10 ⟨r,rfl,hr,hb10⟩;refine⟨_,rfl,r,rfl,?_,ae hb8 hb10⟩;rw [hr,hpair,h2];constructor
  ·intro hf;exact .inr fun k hk hc=>hf k hk (by change k< (ao T).length at hk;omega) hc
  ·rintro(h |h)
   ·cases h
   ·exact fun k hk _ hc=>h k hk hc
theorem Rw.touch {α:Type} {enc:α→List Value} {sz:Nat} {w w':World} {a:Option Addr} {xs:List α} {v:Nat} (h:Rw enc sz w a xs) (t:ap v w w') (ha:xs≠ []→∀p,a=some p→p.block≠v):Rw enc sz w' a xs:=by
 intro j x hj;obtain⟨p,rfl,hp,hc⟩:=h j x hj;refine⟨p,rfl,Nat.lt_of_lt_of_le hp t.size,fun k u hk=>?_⟩;rw [World.cell?_of_block (w:=w) (by rw [ay,ay];exact t.block p.block hp (ha (List.ne_nil_of_mem (List.mem_of_getElem? hj)) p rfl))];exact hc k u hk
def rK (s:ar) (T:List aP) (ids:List Int):Int:=AZ (fun id=> !di s T id) ids
def LF:Option Nat→Int
 |none=> -1
 |some k=>(k:Int)
theorem Cu {s:ar} {T:List aP} {ids:List Int} (h:¬rK s T ids≥0):∀t∈ids,di s T t=true:=by
 intro t ht;unfold rK AZ at h;cases hx:ids.findIdx? (fun id=> !di s T id)with
 |some i=>rw [hx]at h;exact absurd (show((i:Nat):Int)≥0 by omega) h
 |none=>
  have:=List.findIdx?_eq_none_iff.1 hx t ht;simpa using this
instance (V:Voc) (ids:List Int):Decidable (V.Canon ids):=inferInstanceAs (Decidable (V.encode (V.itemsAll ids)=ids))
open Go Go.Value
def Pu (a:OA) (b c:Nat) (d:OA) (f g:Nat) (h:OA) (i j:Nat) (k:OA) (l m:Nat) (w:World) (R:RW):Prop:=
 ∀n,n=w.alloc (.cells #[slice a b c,slice d f g,slice h i j,slice k l m] 27)→
 ∃o p q,n.cell? ((nb w).add 0)=some (slice o p q)∧
 ∃r s t,n.cell? ((nb w).add 1)=some (slice r s t)∧
 ∃u x y,n.cell? ((nb w).add 2)=some (slice u x y)∧
 ∃z a1 b1,n.cell? ((nb w).add 3)=some (slice z a1 b1)∧
 CP 57 #[slice o p q,slice r s t,slice u x y,slice z a1 b1] n (fun c1 d1=>
 ∃e1,c1= .returned (bool e1)∧
 ac e1
 (R (int .i64 1) d1)
 (R (int .i64 0) d1))
theorem CX (a:OA) (b c:Nat) (d:OA) (f g:Nat) (h:OA) (i j:Nat) (k:OA) (l m:Nat) (w:World) (R:RW) (hh:Pu a b c d f g h i j k l m w R):CR 11 #[agg #[slice a b c,slice d f g,slice h i j,slice k l m]] w R:=
 aF (fn:=Tryz.f11) (by kernel_rfl) (by kernel_rfl) (by kernel_rfl) (by kernel_rfl) (by kernel_rfl) hh
def Qm (a:OA) (b c:Nat) (d:OA) (f g:Nat) (h:OA) (i j:Nat) (k:OA) (l m:Nat) (n:OA) (o p:Nat) (q:OA) (r s:Nat) (w:World) (R:RW):Prop:=
 ∀t,t=w.alloc (.cells #[slice a b c,slice d f g,slice h i j,slice k l m,slice n o p] 40)→
 ∀u:KW,(∀(x y:Int) (z:World),(ac (decide (x< (r:Int)))
 (∀a1,a1=z.drew→
 ∃b1 c1 d1 e1 f1 g1 h1 i1 j1 k1 l1 m1 n1 o1 p1,(a1.cell? (nb w)=some (slice b1 c1 d1)∧a1.cell? ((nb w).add 1)=some (slice e1 f1 g1)∧a1.cell? ((nb w).add 2)=some (slice h1 i1 j1)∧a1.cell? ((nb w).add 3)=some (slice k1 l1 m1)∧a1.cell? ((nb w).add 4)=some (slice n1 o1 p1)∧True)∧
 ah q (fun q1=>
 (0:Int)≤x∧x< (r:Int)∧
 ∃r1,a1.cell? (q1.add (x.toNat*1))=some (int .i64 r1)∧
 CP 21 #[agg #[slice b1 c1 d1,slice e1 f1 g1,slice h1 i1 j1,slice k1 l1 m1,slice n1 o1 p1],int .i64 r1] a1 (fun s1 t1=>
 ∃u1,s1= .returned (bool u1)∧
 ac (!u1)
 (R (int .i64 x) t1)
 (Ar .i64 (x+1) (fun v1=>
 u [int .i64 v1,int .i64 y] t1)))))
 (R (int .i64 (-1)) z))→u [int .i64 x,int .i64 y] z)→
 u [int .i64 0,int .i64 0] t
theorem BY (a:OA) (b c:Nat) (d:OA) (f g:Nat) (h:OA) (i j:Nat) (k:OA) (l m:Nat) (n:OA) (o p:Nat) (q:OA) (r s:Nat) (w:World) (R:RW) (hh:Qm a b c d f g h i j k l m n o p q r s w R):CR 17 #[agg #[slice a b c,slice d f g,slice h i j,slice k l m,slice n o p],slice q r s] w R:=
 aF (fn:=Tryz.f17) (by kernel_rfl) (by kernel_rfl) (by kernel_rfl) (by kernel_rfl) (by kernel_rfl) hh
def PZ (a:OA) (b c:Nat) (d:OA) (f g:Nat) (h:OA) (i j:Nat) (k:OA) (l m:Nat) (n:OA) (o p:Nat) (q:OA) (r s:Nat) (w:World) (R:RW):Prop:=
 ∀t,t=w.alloc (.cells #[slice a b c,slice d f g,slice h i j,slice k l m,slice n o p] 40)→
 ∀u:KW,(∀(x y:Int) (z:World),(ac (decide (x< (r:Int)))
 (∀a1,a1=z.drew→
 ∃b1 c1 d1 e1 f1 g1 h1 i1 j1 k1 l1 m1 n1 o1 p1,(a1.cell? (nb w)=some (slice b1 c1 d1)∧a1.cell? ((nb w).add 1)=some (slice e1 f1 g1)∧a1.cell? ((nb w).add 2)=some (slice h1 i1 j1)∧a1.cell? ((nb w).add 3)=some (slice k1 l1 m1)∧a1.cell? ((nb w).add 4)=some (slice n1 o1 p1)∧True)∧
 ah q (fun q1=>
 (0:Int)≤x∧x< (r:Int)∧
 ∃r1,a1.cell? (q1.add (x.toNat*1))=some (int .i64 r1)∧
 CP 21 #[agg #[slice b1 c1 d1,slice e1 f1 g1,slice h1 i1 j1,slice k1 l1 m1,slice n1 o1 p1],int .i64 r1] a1 (fun s1 t1=>
 ∃u1,s1= .returned (bool u1)∧
 ac (!u1)
 (R (int .i64 x) t1)
 (∃v1 x1 y1 z1 a2 b2 c2 d2 e2 f2 g2 h2 i2 j2 k2,(t1.cell? (nb w)=some (slice v1 x1 y1)∧t1.cell? ((nb w).add 1)=some (slice z1 a2 b2)∧t1.cell? ((nb w).add 2)=some (slice c2 d2 e2)∧t1.cell? ((nb w).add 3)=some (slice f2 g2 h2)∧t1.cell? ((nb w).add 4)=some (slice i2 j2 k2)∧True)∧
 Ar .i64 (x+1) (fun l2=>
 (0:Int)≤(0:Int)∧(0:Int)≤l2∧l2≤(s:Int)∧True∧True∧
 CP 29 #[agg #[slice v1 x1 y1,slice z1 a2 b2,slice c2 d2 e2,slice f2 g2 h2,slice i2 j2 k2],slice (bE q (0:Int).toNat (s:Int).toNat 1) (l2.toNat- (0:Int).toNat) ((s:Int).toNat- (0:Int).toNat)] t1 (fun m2 n2=>
 ∃o2,m2= .returned (bool o2)∧
 ac (!o2)
 (R (int .i64 x) n2)
 (Ar .i64 (x+1) (fun p2=>
 u [int .i64 p2,int .i64 y] n2))))))))
 (R (int .i64 (-1)) z))→u [int .i64 x,int .i64 y] z)→
 u [int .i64 0,int .i64 0] t
theorem Bf (a:OA) (b c:Nat) (d:OA) (f g:Nat) (h:OA) (i j:Nat) (k:OA) (l m:Nat) (n:OA) (o p:Nat) (q:OA) (r s:Nat) (w:World) (R:RW) (hh:PZ a b c d f g h i j k l m n o p q r s w R):CR 18 #[agg #[slice a b c,slice d f g,slice h i j,slice k l m,slice n o p],slice q r s] w R:=
 aF (fn:=Tryz.f18) (by kernel_rfl) (by kernel_rfl) (by kernel_rfl) (by kernel_rfl) (by kernel_rfl) hh
def PS (a:OA) (b c:Nat) (d:OA) (f g:Nat) (h:OA) (i j:Nat) (k:OA) (l m:Nat) (n:OA) (o p:Nat) (q:Int) (w:World) (R:RW):Prop:=
 ∀r,r=w.alloc (.cells #[slice a b c,slice d f g,slice h i j,slice k l m,slice n o p] 40)→
 ∃s t u x y z,(r.cell? ((nb w).add 0)=some (slice s t u)∧r.cell? (((nb w).add 0).add 1)=some (slice x y z)∧True)∧
 CP 63 #[agg #[slice s t u,slice x y z],int .i64 q] r (fun a1 b1=>
 ∃c1,a1= .returned (bool c1)∧
 ac c1
 (R (bool true) b1)
 (∃d1 e1 f1 g1 h1 i1 j1 k1 l1 m1 n1 o1 p1 q1 r1,(b1.cell? (nb w)=some (slice d1 e1 f1)∧b1.cell? ((nb w).add 1)=some (slice g1 h1 i1)∧b1.cell? ((nb w).add 2)=some (slice j1 k1 l1)∧b1.cell? ((nb w).add 3)=some (slice m1 n1 o1)∧b1.cell? ((nb w).add 4)=some (slice p1 q1 r1)∧True)∧
 CP 64 #[agg #[slice d1 e1 f1,slice g1 h1 i1,slice j1 k1 l1,slice m1 n1 o1,slice p1 q1 r1],int .i64 q] b1 (fun s1 t1=>
 ∃u1,s1= .returned (int .i64 u1)∧
 R (bool (decide (u1<0))) t1)))
theorem Cn (a:OA) (b c:Nat) (d:OA) (f g:Nat) (h:OA) (i j:Nat) (k:OA) (l m:Nat) (n:OA) (o p:Nat) (q:Int) (w:World) (R:RW) (hh:PS a b c d f g h i j k l m n o p q w R):CR 21 #[agg #[slice a b c,slice d f g,slice h i j,slice k l m,slice n o p],int .i64 q] w R:=
 aF (fn:=Tryz.f21) (by kernel_rfl) (by kernel_rfl) (by kernel_rfl) (by kernel_rfl) (by kernel_rfl) hh
def Qn (a:OA) (b c:Nat) (d:OA) (f g:Nat) (h:OA) (i j:Nat) (k:OA) (l m:Nat) (n:OA) (o p:Nat) (q:OA) (r s:Nat) (w:World) (R:RW):Prop:=
 ∀t,t=w.alloc (.cells #[slice a b c,slice d f g,slice h i j,slice k l m,slice n o p] 40)→
 ∀u,u=t.alloc (.cells #[] 5)→
 ∀x:KW,(∀(y:Int) (z:OA) (a1 b1:Nat) (c1:OA) (d1 e1:Nat) (f1:World),(ac (decide (y≤(r:Int)))
 (∀g1:KW,(∀(h1:OA) (i1 j1:Nat) (k1:OA) (l1 m1:Nat) (n1:World),(Ar .i64 (y+1) (fun o1=>
 x [int .i64 o1,slice h1 i1 j1,slice k1 l1 m1] n1))→g1 [slice h1 i1 j1,slice k1 l1 m1] n1)→
 ac (decide (y< (r:Int)))
 (ah q (fun p1=>
 (0:Int)≤y∧y< (r:Int)∧
 ∃q1,f1.cell? (p1.add (y.toNat*1))=some (int .i64 q1)∧
 ac (decide (q1≥0))
 (ah q (fun r1=>
 (0:Int)≤y∧y< (r:Int)∧
 ∃s1,f1.cell? (r1.add (y.toNat*1))=some (int .i64 s1)∧
 ∀t1,t1=f1.alloc (.cells #[int .u8 (IntKind.wrap .u8 s1)] 5)→
 ∃u1 v1 x1 y1,(Builtin.append_ #[97,97] 97 #[slice z a1 b1,slice (some (nb f1)) 1 1]).run Tryz.prog t1= .ok (slice u1 v1 x1) y1∧
 g1 [slice u1 v1 x1,slice c1 d1 e1] y1))
 (∃z1 a2 b2 c2 d2 e2,(f1.cell? ((nb w).add 2)=some (slice z1 a2 b2)∧f1.cell? (((nb w).add 2).add 1)=some (slice c2 d2 e2)∧True)∧
 ∃f2 g2,(convert 97 9 (slice z a1 b1)).run Tryz.prog f1= .ok (string f2) g2∧
 CP 67 #[agg #[slice z1 a2 b2,slice c2 d2 e2],string f2] g2 (fun h2 i2=>
 ∃j2 k2 l2,h2= .returned (slice j2 k2 l2)∧
 ∀m2:KW,(∀(n2:Int) (o2:OA) (p2 q2:Nat) (r2:World),(ac (decide (n2< (k2:Int)))
 (∀s2,s2=r2.drew→
 ∃t2 u2 v2 x2 y2 z2,(s2.cell? ((nb w).add 0)=some (slice t2 u2 v2)∧s2.cell? (((nb w).add 0).add 1)=some (slice x2 y2 z2)∧True)∧
 ah j2 (fun a3=>
 (0:Int)≤n2∧n2< (k2:Int)∧
 ∃b3,s2.cell? (a3.add (n2.toNat*1))=some (string b3)∧
 CP 68 #[agg #[slice t2 u2 v2,slice x2 y2 z2],string b3] s2 (fun c3 d3=>
 ∃e3 f3 g3,c3= .returned (slice e3 f3 g3)∧
 ∃h3 i3 j3 k3,(Builtin.append_ #[28,28] 28 #[slice o2 p2 q2,slice e3 f3 g3]).run Tryz.prog d3= .ok (slice h3 i3 j3) k3∧
 Ar .i64 (n2+1) (fun l3=>
 m2 [int .i64 l3,slice h3 i3 j3] k3))))
 (∀m3,m3=r2.alloc (.cells #[] 5)→
 ac (decide (y< (r:Int)))
 (∀n3,n3=m3.drew→
 ∃o3 p3 q3,n3.cell? ((nb w).add 4)=some (slice o3 p3 q3)∧
 ah q (fun r3=>
 (0:Int)≤y∧y< (r:Int)∧
 ∃s3,n3.cell? (r3.add (y.toNat*1))=some (int .i64 s3)∧
 Ar .i64 ((-1:Int)-s3) (fun t3=>
 ah o3 (fun u3=>
 (0:Int)≤t3∧t3< (p3:Int)∧
 ∃v3,n3.cell? ((u3.add (t3.toNat*2)).add 0)=some (int .i64 v3)∧
 ∀x3,x3=n3.alloc (.cells #[int .i64 v3] 3)→
 ∃y3 z3 a4 b4,(Builtin.append_ #[28,28] 28 #[slice o2 p2 q2,slice (some (nb n3)) 1 1]).run Tryz.prog x3= .ok (slice y3 z3 a4) b4∧
 g1 [slice (some (nb r2)) 0 0,slice y3 z3 a4] b4))))
 (g1 [slice (some (nb r2)) 0 0,slice o2 p2 q2] m3)))→m2 [int .i64 n2,slice o2 p2 q2] r2)→
 m2 [int .i64 0,slice c1 d1 e1] i2))))
 (∃c4 d4 e4 f4 g4 h4,(f1.cell? ((nb w).add 2)=some (slice c4 d4 e4)∧f1.cell? (((nb w).add 2).add 1)=some (slice f4 g4 h4)∧True)∧
 ∃i4 j4,(convert 97 9 (slice z a1 b1)).run Tryz.prog f1= .ok (string i4) j4∧
 CP 67 #[agg #[slice c4 d4 e4,slice f4 g4 h4],string i4] j4 (fun k4 l4=>
 ∃m4 n4 o4,k4= .returned (slice m4 n4 o4)∧
 ∀p4:KW,(∀(q4:Int) (r4:OA) (s4 t4:Nat) (u4:World),(ac (decide (q4< (n4:Int)))
 (∀v4,v4=u4.drew→
 ∃x4 y4 z4 a5 b5 c5,(v4.cell? ((nb w).add 0)=some (slice x4 y4 z4)∧v4.cell? (((nb w).add 0).add 1)=some (slice a5 b5 c5)∧True)∧
 ah m4 (fun d5=>
 (0:Int)≤q4∧q4< (n4:Int)∧
 ∃e5,v4.cell? (d5.add (q4.toNat*1))=some (string e5)∧
 CP 68 #[agg #[slice x4 y4 z4,slice a5 b5 c5],string e5] v4 (fun f5 g5=>
 ∃h5 i5 j5,f5= .returned (slice h5 i5 j5)∧
 ∃k5 l5 m5 n5,(Builtin.append_ #[28,28] 28 #[slice r4 s4 t4,slice h5 i5 j5]).run Tryz.prog g5= .ok (slice k5 l5 m5) n5∧
 Ar .i64 (q4+1) (fun o5=>
 p4 [int .i64 o5,slice k5 l5 m5] n5))))
 (∀p5,p5=u4.alloc (.cells #[] 5)→
 ac (decide (y< (r:Int)))
 (∀q5,q5=p5.drew→
 ∃r5 s5 t5,q5.cell? ((nb w).add 4)=some (slice r5 s5 t5)∧
 ah q (fun u5=>
 (0:Int)≤y∧y< (r:Int)∧
 ∃v5,q5.cell? (u5.add (y.toNat*1))=some (int .i64 v5)∧
 Ar .i64 ((-1:Int)-v5) (fun x5=>
 ah r5 (fun y5=>
 (0:Int)≤x5∧x5< (s5:Int)∧
 ∃z5,q5.cell? ((y5.add (x5.toNat*2)).add 0)=some (int .i64 z5)∧
 ∀a6,a6=q5.alloc (.cells #[int .i64 z5] 3)→
 ∃b6 c6 d6 e6,(Builtin.append_ #[28,28] 28 #[slice r4 s4 t4,slice (some (nb q5)) 1 1]).run Tryz.prog a6= .ok (slice b6 c6 d6) e6∧
 g1 [slice (some (nb u4)) 0 0,slice b6 c6 d6] e6))))
 (g1 [slice (some (nb u4)) 0 0,slice r4 s4 t4] p5)))→p4 [int .i64 q4,slice r4 s4 t4] u4)→
 p4 [int .i64 0,slice c1 d1 e1] l4)))
 (R (slice c1 d1 e1) f1))→x [int .i64 y,slice z a1 b1,slice c1 d1 e1] f1)→
 x [int .i64 0,slice (some (nb t)) 0 0,slice none 0 0] u
theorem B8 (a:OA) (b c:Nat) (d:OA) (f g:Nat) (h:OA) (i j:Nat) (k:OA) (l m:Nat) (n:OA) (o p:Nat) (q:OA) (r s:Nat) (w:World) (R:RW) (hh:Qn a b c d f g h i j k l m n o p q r s w R):CR 26 #[agg #[slice a b c,slice d f g,slice h i j,slice k l m,slice n o p],slice q r s] w R:=
 aF (fn:=Tryz.f26) (by kernel_rfl) (by kernel_rfl) (by kernel_rfl) (by kernel_rfl) (by kernel_rfl) hh
def P9 (a:OA) (b c:Nat) (d:OA) (f g:Nat) (h:OA) (i j:Nat) (k:OA) (l m:Nat) (n:OA) (o p:Nat) (q:OA) (r s:Nat) (w:World) (R:RW):Prop:=
 ∀t,t=w.alloc (.cells #[slice a b c,slice d f g,slice h i j,slice k l m,slice n o p] 40)→
 ∀u,u=t.drew→
 ∃x y z a1 b1 c1 d1 e1 f1 g1 h1 i1 j1 k1 l1,(u.cell? (nb w)=some (slice x y z)∧u.cell? ((nb w).add 1)=some (slice a1 b1 c1)∧u.cell? ((nb w).add 2)=some (slice d1 e1 f1)∧u.cell? ((nb w).add 3)=some (slice g1 h1 i1)∧u.cell? ((nb w).add 4)=some (slice j1 k1 l1)∧True)∧
 ∃m1 n1 o1 p1 q1 r1 s1 t1 u1 v1 x1 y1 z1 a2 b2,(u.cell? (nb w)=some (slice m1 n1 o1)∧u.cell? ((nb w).add 1)=some (slice p1 q1 r1)∧u.cell? ((nb w).add 2)=some (slice s1 t1 u1)∧u.cell? ((nb w).add 3)=some (slice v1 x1 y1)∧u.cell? ((nb w).add 4)=some (slice z1 a2 b2)∧True)∧
 CP 30 #[agg #[slice m1 n1 o1,slice p1 q1 r1,slice s1 t1 u1,slice v1 x1 y1,slice z1 a2 b2],slice q r s] u (fun c2 d2=>
 ∃e2 f2 g2,c2= .returned (slice e2 f2 g2)∧
 (d2.cell? (nb w)=some (slice x y z)∧d2.cell? ((nb w).add 1)=some (slice a1 b1 c1)∧d2.cell? ((nb w).add 2)=some (slice d1 e1 f1)∧d2.cell? ((nb w).add 3)=some (slice g1 h1 i1)∧d2.cell? ((nb w).add 4)=some (slice j1 k1 l1)∧True)∧
 CP 26 #[agg #[slice x y z,slice a1 b1 c1,slice d1 e1 f1,slice g1 h1 i1,slice j1 k1 l1],slice e2 f2 g2] d2 (fun h2 i2=>
 ∃j2 k2 l2,h2= .returned (slice j2 k2 l2)∧
 ac ((k2:Int) != (r:Int))
 (R (bool false) i2)
 (∀m2:KW,(∀(n2:Int) (o2:Bool) (p2:World),(ac (decide (n2< (k2:Int)))
 (∀q2,q2=p2.drew→
 ah j2 (fun r2=>
 (0:Int)≤n2∧n2< (k2:Int)∧
 ∃s2,q2.cell? (r2.add (n2.toNat*1))=some (int .i64 s2)∧
 ah q (fun t2=>
 (0:Int)≤n2∧n2< (r:Int)∧
 ∃u2,q2.cell? (t2.add (n2.toNat*1))=some (int .i64 u2)∧
 ac (s2 != u2)
 (R (bool false) q2)
 (Ar .i64 (n2+1) (fun v2=>
 m2 [int .i64 v2,bool o2] q2)))))
 (R (bool true) p2))→m2 [int .i64 n2,bool o2] p2)→
 m2 [int .i64 0,bool false] i2)))
theorem BE (a:OA) (b c:Nat) (d:OA) (f g:Nat) (h:OA) (i j:Nat) (k:OA) (l m:Nat) (n:OA) (o p:Nat) (q:OA) (r s:Nat) (w:World) (R:RW) (hh:P9 a b c d f g h i j k l m n o p q r s w R):CR 29 #[agg #[slice a b c,slice d f g,slice h i j,slice k l m,slice n o p],slice q r s] w R:=
 aF (fn:=Tryz.f29) (by kernel_rfl) (by kernel_rfl) (by kernel_rfl) (by kernel_rfl) (by kernel_rfl) hh
def Ql (a:OA) (b c:Nat) (d:OA) (f g:Nat) (h:OA) (i j:Nat) (k:OA) (l m:Nat) (n:OA) (o p:Nat) (q:OA) (r s:Nat) (w:World) (R:RW):Prop:=
 ∀t,t=w.alloc (.cells #[slice a b c,slice d f g,slice h i j,slice k l m,slice n o p] 40)→
 ∀u:KW,(∀(x:Int) (y:OA) (z a1:Nat) (b1:World),(ac (decide (x< (r:Int)))
 (∀c1:KW,(∀(d1:OA) (e1 f1:Nat) (g1:World),(Ar .i64 (x+1) (fun h1=>
 u [int .i64 h1,slice d1 e1 f1] g1))→c1 [slice d1 e1 f1] g1)→
 ∀i1,i1=b1.drew→
 ∃j1 k1 l1 m1 n1 o1 p1 q1 r1 s1 t1 u1 v1 x1 y1,(i1.cell? (nb w)=some (slice j1 k1 l1)∧i1.cell? ((nb w).add 1)=some (slice m1 n1 o1)∧i1.cell? ((nb w).add 2)=some (slice p1 q1 r1)∧i1.cell? ((nb w).add 3)=some (slice s1 t1 u1)∧i1.cell? ((nb w).add 4)=some (slice v1 x1 y1)∧True)∧
 ah q (fun z1=>
 (0:Int)≤x∧x< (r:Int)∧
 ∃a2,i1.cell? (z1.add (x.toNat*1))=some (int .i64 a2)∧
 CP 64 #[agg #[slice j1 k1 l1,slice m1 n1 o1,slice p1 q1 r1,slice s1 t1 u1,slice v1 x1 y1],int .i64 a2] i1 (fun b2 c2=>
 ∃d2,b2= .returned (int .i64 d2)∧
 ac (decide (d2<0))
 (∀e2,e2=c2.alloc (.cells #[int .i64 d2] 3)→
 ∃f2 g2 h2 i2,(Builtin.append_ #[28,28] 28 #[slice y z a1,slice (some (nb c2)) 1 1]).run Tryz.prog e2= .ok (slice f2 g2 h2) i2∧
 c1 [slice f2 g2 h2] i2)
 (∀j2,j2=c2.drew→
 ∃k2 l2 m2,j2.cell? (((nb w).add 0).add 0)=some (slice k2 l2 m2)∧
 ah q (fun n2=>
 (0:Int)≤x∧x< (r:Int)∧
 ∃o2,j2.cell? (n2.add (x.toNat*1))=some (int .i64 o2)∧
 ah k2 (fun p2=>
 (0:Int)≤o2∧o2< (l2:Int)∧
 ∃q2,j2.cell? (p2.add (o2.toNat*1))=some (string q2)∧
 ∀r2:KW,(∀(s2:Int) (t2:OA) (u2 v2:Nat) (x2:World),(ac (decide (s2< (q2.size:Int)))
 ((0:Int)≤s2∧s2< (q2.size:Int)∧
 ∀y2,y2=x2.alloc (.cells #[int .i64 (IntKind.wrap .i64 (eN q2 s2))] 3)→
 ∃z2 a3 b3 c3,(Builtin.append_ #[28,28] 28 #[slice t2 u2 v2,slice (some (nb x2)) 1 1]).run Tryz.prog y2= .ok (slice z2 a3 b3) c3∧
 Ar .i64 (s2+1) (fun d3=>
 r2 [int .i64 d3,slice z2 a3 b3] c3))
 (c1 [slice t2 u2 v2] x2))→r2 [int .i64 s2,slice t2 u2 v2] x2)→
 r2 [int .i64 0,slice y z a1] j2))))))
 (R (slice y z a1) b1))→u [int .i64 x,slice y z a1] b1)→
 u [int .i64 0,slice none 0 0] t
theorem Cl (a:OA) (b c:Nat) (d:OA) (f g:Nat) (h:OA) (i j:Nat) (k:OA) (l m:Nat) (n:OA) (o p:Nat) (q:OA) (r s:Nat) (w:World) (R:RW) (hh:Ql a b c d f g h i j k l m n o p q r s w R):CR 30 #[agg #[slice a b c,slice d f g,slice h i j,slice k l m,slice n o p],slice q r s] w R:=
 aF (fn:=Tryz.f30) (by kernel_rfl) (by kernel_rfl) (by kernel_rfl) (by kernel_rfl) (by kernel_rfl) hh
def PM (a:OA) (b c:Nat) (d:OA) (f g:Nat) (h:OA) (i j:Nat) (k:OA) (l m:Nat) (w:World) (R:RW):Prop:=
 ac (decide ((b:Int)>60))
 (R (bool true) w)
 (ac (decide ((f:Int)>20))
 (R (bool true) w)
 (ac (decide ((i:Int)>20))
 (R (bool true) w)
 (CP 110 #[slice k l m] w (fun n o=>
 ∃p,n= .returned (bool p)∧
 R (bool p) o))))
theorem Bb (a:OA) (b c:Nat) (d:OA) (f g:Nat) (h:OA) (i j:Nat) (k:OA) (l m:Nat) (w:World) (R:RW) (hh:PM a b c d f g h i j k l m w R):CR 57 #[slice a b c,slice d f g,slice h i j,slice k l m] w R:=
 aF (fn:=Tryz.f57) (by kernel_rfl) (by kernel_rfl) (by kernel_rfl) (by kernel_rfl) (by kernel_rfl) hh
def PC (a:OA) (b c:Nat) (d:OA) (f g:Nat) (h:OA) (i j:Nat) (k:OA) (l m:Nat) (w:World) (R:RW):Prop:=
 ∀n,n=w.alloc (.cells #[slice a b c,slice d f g,slice h i j,slice k l m] 27)→
 ∀o,o=n.alloc (.cells #[slice none 0 0,slice none 0 0,slice none 0 0,slice none 0 0,slice none 0 0] 40)→
 ∃p q r,o.cell? ((nb w).add 0)=some (slice p q r)∧
 ∃s t u,o.cell? ((nb w).add 1)=some (slice s t u)∧
 ∃x y z,o.cell? ((nb w).add 2)=some (slice x y z)∧
 ∃a1 b1 c1,o.cell? ((nb w).add 3)=some (slice a1 b1 c1)∧
 CP 111 #[slice p q r,slice s t u,slice x y z,slice a1 b1 c1] o (fun d1 e1=>
 ∃f1 g1 h1 i1 j1 k1 l1 m1 n1 o1 p1 q1 r1 s1 t1 u1,d1= .returned (agg #[bool f1,slice g1 h1 i1,slice j1 k1 l1,slice m1 n1 o1,slice p1 q1 r1,slice s1 t1 u1])∧
 ∀v1,v1=e1.alloc (.cells #[bool false,slice none 0 0,slice none 0 0,slice none 0 0,slice none 0 0,slice none 0 0] 73)→
 aE v1 (nb e1) (fun x1=>
 ∃y1 z1 a2 b2 c2 d2 e2 f2 g2 h2 i2 j2 k2 l2 m2 n2,(x1.cell? (nb e1)=some (bool y1)∧x1.cell? ((nb e1).add 1)=some (slice z1 a2 b2)∧x1.cell? ((nb e1).add 2)=some (slice c2 d2 e2)∧x1.cell? ((nb e1).add 3)=some (slice f2 g2 h2)∧x1.cell? ((nb e1).add 4)=some (slice i2 j2 k2)∧x1.cell? ((nb e1).add 5)=some (slice l2 m2 n2)∧True)∧
 CP 31 #[agg #[bool y1,slice z1 a2 b2,slice c2 d2 e2,slice f2 g2 h2,slice i2 j2 k2,slice l2 m2 n2]] x1 (fun o2 p2=>
 ∃q2 r2 s2,o2= .returned (tuple #[pointer q2,int .i64 r2,int .i64 s2])∧
 ac (s2 != 0)
 (aE p2 (nb n) (fun t2=>
 ∃u2 v2 x2 y2 z2 a3 b3 c3 d3 e3 f3 g3 h3 i3 j3,(t2.cell? (nb n)=some (slice u2 v2 x2)∧t2.cell? ((nb n).add 1)=some (slice y2 z2 a3)∧t2.cell? ((nb n).add 2)=some (slice b3 c3 d3)∧t2.cell? ((nb n).add 3)=some (slice e3 f3 g3)∧t2.cell? ((nb n).add 4)=some (slice h3 i3 j3)∧True)∧
 R (tuple #[pointer none,agg #[slice u2 v2 x2,slice y2 z2 a3,slice b3 c3 d3,slice e3 f3 g3,slice h3 i3 j3]]) t2) [slice none 0 0,slice none 0 0,slice none 0 0,slice none 0 0,slice none 0 0] 0)
 (∃k3 l3 m3 n3 o3 p3 q3 r3 s3 t3 u3 v3 x3 y3 z3 a4,(p2.cell? (nb e1)=some (bool k3)∧p2.cell? ((nb e1).add 1)=some (slice l3 m3 n3)∧p2.cell? ((nb e1).add 2)=some (slice o3 p3 q3)∧p2.cell? ((nb e1).add 3)=some (slice r3 s3 t3)∧p2.cell? ((nb e1).add 4)=some (slice u3 v3 x3)∧p2.cell? ((nb e1).add 5)=some (slice y3 z3 a4)∧True)∧
 CP 112 #[agg #[bool k3,slice l3 m3 n3,slice o3 p3 q3,slice r3 s3 t3,slice u3 v3 x3,slice y3 z3 a4]] p2 (fun b4 c4=>
 ∃d4 e4 f4 g4 h4 i4 j4 k4 l4 m4 n4 o4 p4 q4 r4,b4= .returned (agg #[slice d4 e4 f4,slice g4 h4 i4,slice j4 k4 l4,slice m4 n4 o4,slice p4 q4 r4])∧
 aE c4 (nb n) (fun s4=>
 ∃t4 u4 v4 x4 y4 z4 a5 b5 c5 d5 e5 f5 g5 h5 i5,(s4.cell? (nb n)=some (slice t4 u4 v4)∧s4.cell? ((nb n).add 1)=some (slice x4 y4 z4)∧s4.cell? ((nb n).add 2)=some (slice a5 b5 c5)∧s4.cell? ((nb n).add 3)=some (slice d5 e5 f5)∧s4.cell? ((nb n).add 4)=some (slice g5 h5 i5)∧True)∧
 R (tuple #[pointer q2,agg #[slice t4 u4 v4,slice x4 y4 z4,slice a5 b5 c5,slice d5 e5 f5,slice g5 h5 i5]]) s4) [slice d4 e4 f4,slice g4 h4 i4,slice j4 k4 l4,slice m4 n4 o4,slice p4 q4 r4] 0)))) [bool f1,slice g1 h1 i1,slice j1 k1 l1,slice m1 n1 o1,slice p1 q1 r1,slice s1 t1 u1] 0)
theorem Do (a:OA) (b c:Nat) (d:OA) (f g:Nat) (h:OA) (i j:Nat) (k:OA) (l m:Nat) (w:World) (R:RW) (hh:PC a b c d f g h i j k l m w R):CR 58 #[agg #[slice a b c,slice d f g,slice h i j,slice k l m]] w R:=
 aF (fn:=Tryz.f58) (by kernel_rfl) (by kernel_rfl) (by kernel_rfl) (by kernel_rfl) (by kernel_rfl) hh
def PP (a:OA) (b c:Nat) (d:OA) (f g:Nat) (h:Int) (w:World) (R:RW):Prop:=
 ∀i,i=w.alloc (.cells #[slice a b c,slice d f g] 36)→
 ac (decide (h≥0))
 (∃j k l,i.cell? ((nb w).add 0)=some (slice j k l)∧
 R (bool (decide (h< (k:Int)))) i)
 (R (bool false) i)
theorem A5 (a:OA) (b c:Nat) (d:OA) (f g:Nat) (h:Int) (w:World) (R:RW) (hh:PP a b c d f g h w R):CR 63 #[agg #[slice a b c,slice d f g],int .i64 h] w R:=
 aF (fn:=Tryz.f63) (by kernel_rfl) (by kernel_rfl) (by kernel_rfl) (by kernel_rfl) (by kernel_rfl) hh
def P2 (a:OA) (b c:Nat) (d:OA) (f g:Nat) (h:OA) (i j:Nat) (k:OA) (l m:Nat) (n:OA) (o p:Nat) (q:Int) (w:World) (R:RW):Prop:=
 ∀r,r=w.alloc (.cells #[slice a b c,slice d f g,slice h i j,slice k l m,slice n o p] 40)→
 ∀s:KW,(∀(t u:Int) (x:World),(∃y z a1,x.cell? ((nb w).add 4)=some (slice y z a1)∧
 ac (decide (t< (z:Int)))
 (∃b1 c1 d1,x.cell? ((nb w).add 4)=some (slice b1 c1 d1)∧
 ah b1 (fun e1=>
 (0:Int)≤t∧t< (c1:Int)∧
 ∃f1,x.cell? ((e1.add (t.toNat*2)).add 0)=some (int .i64 f1)∧
 ac (f1==q)
 (Ar .i64 ((-1:Int)-t) (fun g1=>
 R (int .i64 g1) x))
 (Ar .i64 (t+1) (fun h1=>
 s [int .i64 h1,int .i64 u] x))))
 (R (int .i64 0) x))→s [int .i64 t,int .i64 u] x)→
 s [int .i64 0,int .i64 0] r
theorem Bg (a:OA) (b c:Nat) (d:OA) (f g:Nat) (h:OA) (i j:Nat) (k:OA) (l m:Nat) (n:OA) (o p:Nat) (q:Int) (w:World) (R:RW) (hh:P2 a b c d f g h i j k l m n o p q w R):CR 64 #[agg #[slice a b c,slice d f g,slice h i j,slice k l m,slice n o p],int .i64 q] w R:=
 aF (fn:=Tryz.f64) (by kernel_rfl) (by kernel_rfl) (by kernel_rfl) (by kernel_rfl) (by kernel_rfl) hh
def P0 (a:OA) (b c:Nat) (d:OA) (f g:Nat) (h:ByteArray) (w:World) (R:RW):Prop:=
 ∀i,i=w.alloc (.cells #[slice a b c,slice d f g] 38)→
 ∀j:KW,(∀(k:Int) (l:OA) (m n:Nat) (o:World),(ac (decide (k< (h.size:Int)))
 (∀p:KW,(∀(q:OA) (r s:Nat) (t:World),(∀x,x=t.drew→
 Ar .i64 ((r:Int)-1) (fun y=>
 Ar .i64 ((r:Int)-1) (fun z=>
 ah q (fun a1=>
 (0:Int)≤z∧z< (r:Int)∧
 ∃b1,x.cell? (a1.add (z.toNat*1))=some (string b1)∧
 Ar .i64 (k+1) (fun c1=>
 (0:Int)≤k∧k≤c1∧c1≤(h.size:Int)∧
 ((b1.size+(h.extract k.toNat c1.toNat:ByteArray).size:Nat):Int)≤IntKind.i64.max∧
 ah q (fun d1=>
 (0:Int)≤y∧y< (r:Int)∧
 (string (b1++(h.extract k.toNat c1.toNat:ByteArray))).oneCell'=true∧(∃u,x.cell? (d1.add (y.toNat*1))=some u)∧x.frozen? (d1.add (y.toNat*1))=false∧
 ∀e1,e1=(x.setCell (d1.add (y.toNat*1)) (string (b1++(h.extract k.toNat c1.toNat:ByteArray))))→
 Ar .i64 (k+1) (fun f1=>
 j [int .i64 f1,slice q r s] e1)))))))→p [slice q r s] t)→
 ∀g1,g1=o.drew→
 ac (k==0)
 (∀h1,h1=g1.alloc (.cells #[string ⟨#[]⟩] 9)→
 ∃i1 j1 k1 l1,(Builtin.append_ #[33,33] 33 #[slice l m n,slice (some (nb g1)) 1 1]).run Tryz.prog h1= .ok (slice i1 j1 k1) l1∧
 p [slice i1 j1 k1] l1)
 (∃m1 n1 o1 p1 q1 r1,(g1.cell? (nb w)=some (slice m1 n1 o1)∧g1.cell? ((nb w).add 1)=some (slice p1 q1 r1)∧True)∧
 Ar .i64 (k-1) (fun s1=>
 (0:Int)≤s1∧s1< (h.size:Int)∧
 (0:Int)≤k∧k< (h.size:Int)∧
 CP 127 #[agg #[slice m1 n1 o1,slice p1 q1 r1],int .u8 (eN h s1),int .u8 (eN h k)] g1 (fun t1 u1=>
 ∃v1,t1= .returned (bool v1)∧
 ac v1
 (∀x1,x1=u1.alloc (.cells #[string ⟨#[]⟩] 9)→
 ∃y1 z1 a2 b2,(Builtin.append_ #[33,33] 33 #[slice l m n,slice (some (nb u1)) 1 1]).run Tryz.prog x1= .ok (slice y1 z1 a2) b2∧
 p [slice y1 z1 a2] b2)
 (p [slice l m n] u1)))))
 (R (slice l m n) o))→j [int .i64 k,slice l m n] o)→
 j [int .i64 0,slice none 0 0] i
theorem CU (a:OA) (b c:Nat) (d:OA) (f g:Nat) (h:ByteArray) (w:World) (R:RW) (hh:P0 a b c d f g h w R):CR 67 #[agg #[slice a b c,slice d f g],string h] w R:=
 aF (fn:=Tryz.f67) (by kernel_rfl) (by kernel_rfl) (by kernel_rfl) (by kernel_rfl) (by kernel_rfl) hh
def Qa (a:OA) (b c:Nat) (d:OA) (f g:Nat) (h:ByteArray) (w:World) (R:RW):Prop:=
 ∀i,i=w.alloc (.cells #[slice a b c,slice d f g] 36)→
 ∃j k l m n o,(i.cell? (nb w)=some (slice j k l)∧i.cell? ((nb w).add 1)=some (slice m n o)∧True)∧
 ∃p q r,i.cell? ((nb w).add 0)=some (slice p q r)∧
 CP 128 #[agg #[slice j k l,slice m n o],string h,int .i64 (q:Int)] i (fun s t=>
 ∃u x y,s= .returned (slice u x y)∧
 R (slice u x y) t)
theorem Be (a:OA) (b c:Nat) (d:OA) (f g:Nat) (h:ByteArray) (w:World) (R:RW) (hh:Qa a b c d f g h w R):CR 68 #[agg #[slice a b c,slice d f g],string h] w R:=
 aF (fn:=Tryz.f68) (by kernel_rfl) (by kernel_rfl) (by kernel_rfl) (by kernel_rfl) (by kernel_rfl) hh
def Mu (a:OA) (b c:Nat) (w:World) (R:RW):Prop:=
 ∀d:KW,(∀(f:Int) (g:Bool) (h:World),(ac (decide (f< (b:Int)))
 (ah a (fun i=>
 (0:Int)≤f∧f< (b:Int)∧
 ∃j,h.cell? ((i.add (f.toNat*2)).add 1)=some (string j)∧
 ac (decide (((j.size:Int):Int)>100))
 (R (bool true) h)
 (Ar .i64 (f+1) (fun k=>
 d [int .i64 k,bool g] h))))
 (R (bool (decide ((b:Int)>40))) h))→d [int .i64 f,bool g] h)→
 d [int .i64 0,bool false] w
theorem xM (a:OA) (b c:Nat) (w:World) (R:RW) (hh:Mu a b c w R):CR 110 #[slice a b c] w R:=
 aF (fn:=Tryz.f110) (by kernel_rfl) (by kernel_rfl) (by kernel_rfl) (by kernel_rfl) (by kernel_rfl) hh
def My (a:OA) (b c:Nat) (d:OA) (f g:Nat) (h:OA) (i j:Nat) (k:OA) (l m:Nat) (w:World) (R:RW):Prop:=
 ∀n,n=w.alloc (.cells #[bool false,slice none 0 0,slice none 0 0,slice none 0 0,slice none 0 0,slice none 0 0] 73)→
 CP 165 #[slice a b c] n (fun o p=>
 ∃q r s t x y,o= .returned (agg #[slice q r s,slice t x y])∧
 ∀z,z=p.alloc (.cells #[slice none 0 0,slice none 0 0] 36)→
 aE z (nb p) (fun a1=>
 ∃b1 c1 d1,a1.cell? ((nb p).add 1)=some (slice b1 c1 d1)∧
 ∀e1,e1=a1.alloc (.cells #[bool false,slice none 0 0,slice none 0 0,slice none 0 0,slice none 0 0,slice none 0 0] 73)→
 aE e1 (nb a1) (fun f1=>
 ∀g1:KW,(∀(h1:Int) (i1:World),(ac (decide (h1< (f:Int)))
 (ac (decide (h1<8))
 (∀j1:KW,(∀k1:World,(Ar .i64 (h1+1) (fun l1=>
 g1 [int .i64 l1] k1))→j1 [] k1)→
 Ar .i64 (h1+1) (fun m1=>
 (0:Int)≤h1∧h1≤m1∧m1≤(g:Int)∧True∧True∧
 CP 166 #[agg #[slice (bE d h1.toNat (g:Int).toNat 3) (m1.toNat-h1.toNat) ((g:Int).toNat-h1.toNat),slice none 0 0]] i1 (fun n1 o1=>
 ∃p1,n1= .returned (bool p1)∧
 ac p1
 (∀q1,q1=o1.drew→
 ∃r1 s1 t1,q1.cell? ((nb a1).add 4)=some (slice r1 s1 t1)∧
 ah d (fun u1=>
 (0:Int)≤h1∧h1< (f:Int)∧
 ∃v1 x1 y1,(q1.cell? (u1.add (h1.toNat*3))=some (int .i64 v1)∧q1.cell? ((u1.add (h1.toNat*3)).add 1)=some (int .i64 x1)∧q1.cell? ((u1.add (h1.toNat*3)).add 2)=some (int .i64 y1)∧True)∧
 ∀z1,z1=q1.alloc (.cells #[int .i64 v1,int .i64 x1,int .i64 y1] 215)→
 (z1.cell? ((nb a1).add 4)=some (slice r1 s1 t1)∧True)∧
 ∃a2 b2 c2 d2,(Builtin.append_ #[23,23] 23 #[slice r1 s1 t1,slice (some (nb q1)) 1 1]).run Tryz.prog z1= .ok (slice a2 b2 c2) d2∧
 (slice a2 b2 c2).oneCell'=true∧(∃u,d2.cell? ((nb a1).add 4)=some u)∧d2.frozen? ((nb a1).add 4)=false∧
 ∀e2,e2=(d2.setCell ((nb a1).add 4) (slice a2 b2 c2))→
 j1 [] e2))
 (j1 [] o1))))
 (∀f2:KW,(∀(g2:Int) (h2:World),(ac (decide (g2< (i:Int)))
 (ac (decide (g2<8))
 (∀i2:KW,(∀j2:World,(Ar .i64 (g2+1) (fun k2=>
 f2 [int .i64 k2] j2))→i2 [] j2)→
 Ar .i64 (g2+1) (fun l2=>
 (0:Int)≤g2∧g2≤l2∧l2≤(j:Int)∧True∧True∧
 CP 166 #[agg #[slice none 0 0,slice (bE h g2.toNat (j:Int).toNat 2) (l2.toNat-g2.toNat) ((j:Int).toNat-g2.toNat)]] h2 (fun m2 n2=>
 ∃o2,m2= .returned (bool o2)∧
 ac o2
 (∀p2,p2=n2.drew→
 ∃q2 r2 s2,p2.cell? ((nb a1).add 5)=some (slice q2 r2 s2)∧
 ah h (fun t2=>
 (0:Int)≤g2∧g2< (i:Int)∧
 ∃u2 v2,(p2.cell? (t2.add (g2.toNat*2))=some (int .i64 u2)∧p2.cell? ((t2.add (g2.toNat*2)).add 1)=some (int .i64 v2)∧True)∧
 ∀x2,x2=p2.alloc (.cells #[int .i64 u2,int .i64 v2] 218)→
 (x2.cell? ((nb a1).add 5)=some (slice q2 r2 s2)∧True)∧
 ∃y2 z2 a3 b3,(Builtin.append_ #[24,24] 24 #[slice q2 r2 s2,slice (some (nb p2)) 1 1]).run Tryz.prog x2= .ok (slice y2 z2 a3) b3∧
 (slice y2 z2 a3).oneCell'=true∧(∃u,b3.cell? ((nb a1).add 5)=some u)∧b3.frozen? ((nb a1).add 5)=false∧
 ∀c3,c3=(b3.setCell ((nb a1).add 5) (slice y2 z2 a3))→
 i2 [] c3))
 (i2 [] n2))))
 (∀d3:KW,(∀(e3:Int) (f3:World),(ac (decide (e3< (l:Int)))
 (ac (decide (e3<6))
 (∀g3:KW,(∀h3:World,(Ar .i64 (e3+1) (fun i3=>
 d3 [int .i64 i3] h3))→g3 [] h3)→
 ∀j3,j3=f3.drew→
 ∃k3 l3 m3,j3.cell? ((nb a1).add 3)=some (slice k3 l3 m3)∧
 Ar .i64 ((1000:Int)+e3) (fun n3=>
 ah k (fun o3=>
 (0:Int)≤e3∧e3< (l:Int)∧
 ∃p3,j3.cell? ((o3.add (e3.toNat*2)).add 1)=some (string p3)∧
 (∀q3,q3=j3.alloc (.cells #[] 75)→
 (q3.cell? ((o3.add (e3.toNat*2)).add 1)=some (string p3)∧True)∧
 (q3.cell? ((nb a1).add 3)=some (slice k3 l3 m3)∧True)∧
 (∃r3 s3 t3 u3,(Builtin.append_ #[25,25] 25 #[slice (some (nb j3)) 0 0,slice k3 l3 m3]).run Tryz.prog q3= .ok (slice r3 s3 t3) u3∧
 (u3.cell? ((o3.add (e3.toNat*2)).add 1)=some (string p3)∧True)∧
 ∀v3,v3=u3.alloc (.cells #[int .i64 n3,string p3] 75)→
 ∃x3 y3 z3 a4,(Builtin.append_ #[25,25] 25 #[slice r3 s3 t3,slice (some (nb u3)) 1 1]).run Tryz.prog v3= .ok (slice x3 y3 z3) a4∧
 CP 167 #[slice x3 y3 z3] a4 (fun b4 c4=>
 ∃d4 e4,b4= .returned (tuple #[int .i64 d4,int .i64 e4])∧
 ac (e4==0)
 ((slice x3 y3 z3).oneCell'=true∧(∃u,c4.cell? ((nb a1).add 3)=some u)∧c4.frozen? ((nb a1).add 3)=false∧
 ∀f4,f4=(c4.setCell ((nb a1).add 3) (slice x3 y3 z3))→
 g3 [] f4)
 (g3 [] c4)))∧
 (∀g4,g4=q3.alloc (.cells #[int .i64 n3,string p3] 75)→
 (g4.cell? ((nb a1).add 3)=some (slice k3 l3 m3)∧True)∧
 ∃h4 i4 j4 k4,(Builtin.append_ #[25,25] 25 #[slice (some (nb j3)) 0 0,slice k3 l3 m3]).run Tryz.prog g4= .ok (slice h4 i4 j4) k4∧
 ∃l4 m4 n4 o4,(Builtin.append_ #[25,25] 25 #[slice h4 i4 j4,slice (some (nb q3)) 1 1]).run Tryz.prog k4= .ok (slice l4 m4 n4) o4∧
 CP 167 #[slice l4 m4 n4] o4 (fun p4 q4=>
 ∃r4 s4,p4= .returned (tuple #[int .i64 r4,int .i64 s4])∧
 ac (s4==0)
 ((slice l4 m4 n4).oneCell'=true∧(∃u,q4.cell? ((nb a1).add 3)=some u)∧q4.frozen? ((nb a1).add 3)=false∧
 ∀t4,t4=(q4.setCell ((nb a1).add 3) (slice l4 m4 n4))→
 g3 [] t4)
 (g3 [] q4))))∧
 (∀u4,u4=j3.alloc (.cells #[int .i64 n3,string p3] 75)→
 (u4.cell? ((nb a1).add 3)=some (slice k3 l3 m3)∧True)∧
 ∀v4,v4=u4.alloc (.cells #[] 75)→
 (v4.cell? ((nb a1).add 3)=some (slice k3 l3 m3)∧True)∧
 ∃x4 y4 z4 a5,(Builtin.append_ #[25,25] 25 #[slice (some (nb u4)) 0 0,slice k3 l3 m3]).run Tryz.prog v4= .ok (slice x4 y4 z4) a5∧
 ∃b5 c5 d5 e5,(Builtin.append_ #[25,25] 25 #[slice x4 y4 z4,slice (some (nb j3)) 1 1]).run Tryz.prog a5= .ok (slice b5 c5 d5) e5∧
 CP 167 #[slice b5 c5 d5] e5 (fun f5 g5=>
 ∃h5 i5,f5= .returned (tuple #[int .i64 h5,int .i64 i5])∧
 ac (i5==0)
 ((slice b5 c5 d5).oneCell'=true∧(∃u,g5.cell? ((nb a1).add 3)=some u)∧g5.frozen? ((nb a1).add 3)=false∧
 ∀j5,j5=(g5.setCell ((nb a1).add 3) (slice b5 c5 d5))→
 g3 [] j5)
 (g3 [] g5))))))
 (∃k5 l5 m5 n5 o5 p5 q5 r5 s5 t5 u5 v5 x5 y5 z5 a6,(f3.cell? (nb a1)=some (bool k5)∧f3.cell? ((nb a1).add 1)=some (slice l5 m5 n5)∧f3.cell? ((nb a1).add 2)=some (slice o5 p5 q5)∧f3.cell? ((nb a1).add 3)=some (slice r5 s5 t5)∧f3.cell? ((nb a1).add 4)=some (slice u5 v5 x5)∧f3.cell? ((nb a1).add 5)=some (slice y5 z5 a6)∧True)∧
 aE f3 (nb w) (fun b6=>
 ∃c6 d6 e6 f6 g6 h6 i6 j6 k6 l6 m6 n6 o6 p6 q6 r6,(b6.cell? (nb w)=some (bool c6)∧b6.cell? ((nb w).add 1)=some (slice d6 e6 f6)∧b6.cell? ((nb w).add 2)=some (slice g6 h6 i6)∧b6.cell? ((nb w).add 3)=some (slice j6 k6 l6)∧b6.cell? ((nb w).add 4)=some (slice m6 n6 o6)∧b6.cell? ((nb w).add 5)=some (slice p6 q6 r6)∧True)∧
 R (agg #[bool c6,slice d6 e6 f6,slice g6 h6 i6,slice j6 k6 l6,slice m6 n6 o6,slice p6 q6 r6]) b6) [bool k5,slice l5 m5 n5,slice o5 p5 q5,slice r5 s5 t5,slice u5 v5 x5,slice y5 z5 a6] 0))
 (∃s6 t6 u6 v6 x6 y6 z6 a7 b7 c7 d7 e7 f7 g7 h7 i7,(f3.cell? (nb a1)=some (bool s6)∧f3.cell? ((nb a1).add 1)=some (slice t6 u6 v6)∧f3.cell? ((nb a1).add 2)=some (slice x6 y6 z6)∧f3.cell? ((nb a1).add 3)=some (slice a7 b7 c7)∧f3.cell? ((nb a1).add 4)=some (slice d7 e7 f7)∧f3.cell? ((nb a1).add 5)=some (slice g7 h7 i7)∧True)∧
 aE f3 (nb w) (fun j7=>
 ∃k7 l7 m7 n7 o7 p7 q7 r7 s7 t7 u7 v7 x7 y7 z7 a8,(j7.cell? (nb w)=some (bool k7)∧j7.cell? ((nb w).add 1)=some (slice l7 m7 n7)∧j7.cell? ((nb w).add 2)=some (slice o7 p7 q7)∧j7.cell? ((nb w).add 3)=some (slice r7 s7 t7)∧j7.cell? ((nb w).add 4)=some (slice u7 v7 x7)∧j7.cell? ((nb w).add 5)=some (slice y7 z7 a8)∧True)∧
 R (agg #[bool k7,slice l7 m7 n7,slice o7 p7 q7,slice r7 s7 t7,slice u7 v7 x7,slice y7 z7 a8]) j7) [bool s6,slice t6 u6 v6,slice x6 y6 z6,slice a7 b7 c7,slice d7 e7 f7,slice g7 h7 i7] 0))→d3 [int .i64 e3] f3)→
 d3 [int .i64 0] h2))
 (∀b8:KW,(∀(c8:Int) (d8:World),(ac (decide (c8< (l:Int)))
 (ac (decide (c8<6))
 (∀e8:KW,(∀f8:World,(Ar .i64 (c8+1) (fun g8=>
 b8 [int .i64 g8] f8))→e8 [] f8)→
 ∀h8,h8=d8.drew→
 ∃i8 j8 k8,h8.cell? ((nb a1).add 3)=some (slice i8 j8 k8)∧
 Ar .i64 ((1000:Int)+c8) (fun l8=>
 ah k (fun m8=>
 (0:Int)≤c8∧c8< (l:Int)∧
 ∃n8,h8.cell? ((m8.add (c8.toNat*2)).add 1)=some (string n8)∧
 (∀o8,o8=h8.alloc (.cells #[] 75)→
 (o8.cell? ((m8.add (c8.toNat*2)).add 1)=some (string n8)∧True)∧
 (o8.cell? ((nb a1).add 3)=some (slice i8 j8 k8)∧True)∧
 (∃p8 q8 r8 s8,(Builtin.append_ #[25,25] 25 #[slice (some (nb h8)) 0 0,slice i8 j8 k8]).run Tryz.prog o8= .ok (slice p8 q8 r8) s8∧
 (s8.cell? ((m8.add (c8.toNat*2)).add 1)=some (string n8)∧True)∧
 ∀t8,t8=s8.alloc (.cells #[int .i64 l8,string n8] 75)→
 ∃u8 v8 x8 y8,(Builtin.append_ #[25,25] 25 #[slice p8 q8 r8,slice (some (nb s8)) 1 1]).run Tryz.prog t8= .ok (slice u8 v8 x8) y8∧
 CP 167 #[slice u8 v8 x8] y8 (fun z8 a9=>
 ∃b9 c9,z8= .returned (tuple #[int .i64 b9,int .i64 c9])∧
 ac (c9==0)
 ((slice u8 v8 x8).oneCell'=true∧(∃u,a9.cell? ((nb a1).add 3)=some u)∧a9.frozen? ((nb a1).add 3)=false∧
 ∀d9,d9=(a9.setCell ((nb a1).add 3) (slice u8 v8 x8))→
 e8 [] d9)
 (e8 [] a9)))∧
 (∀e9,e9=o8.alloc (.cells #[int .i64 l8,string n8] 75)→
 (e9.cell? ((nb a1).add 3)=some (slice i8 j8 k8)∧True)∧
 ∃f9 g9 h9 i9,(Builtin.append_ #[25,25] 25 #[slice (some (nb h8)) 0 0,slice i8 j8 k8]).run Tryz.prog e9= .ok (slice f9 g9 h9) i9∧
 ∃j9 k9 l9 m9,(Builtin.append_ #[25,25] 25 #[slice f9 g9 h9,slice (some (nb o8)) 1 1]).run Tryz.prog i9= .ok (slice j9 k9 l9) m9∧
 CP 167 #[slice j9 k9 l9] m9 (fun n9 o9=>
 ∃p9 q9,n9= .returned (tuple #[int .i64 p9,int .i64 q9])∧
 ac (q9==0)
 ((slice j9 k9 l9).oneCell'=true∧(∃u,o9.cell? ((nb a1).add 3)=some u)∧o9.frozen? ((nb a1).add 3)=false∧
 ∀r9,r9=(o9.setCell ((nb a1).add 3) (slice j9 k9 l9))→
 e8 [] r9)
 (e8 [] o9))))∧
 (∀s9,s9=h8.alloc (.cells #[int .i64 l8,string n8] 75)→
 (s9.cell? ((nb a1).add 3)=some (slice i8 j8 k8)∧True)∧
 ∀t9,t9=s9.alloc (.cells #[] 75)→
 (t9.cell? ((nb a1).add 3)=some (slice i8 j8 k8)∧True)∧
 ∃u9 v9 x9 y9,(Builtin.append_ #[25,25] 25 #[slice (some (nb s9)) 0 0,slice i8 j8 k8]).run Tryz.prog t9= .ok (slice u9 v9 x9) y9∧
 ∃z9 a10 b10 c10,(Builtin.append_ #[25,25] 25 #[slice u9 v9 x9,slice (some (nb h8)) 1 1]).run Tryz.prog y9= .ok (slice z9 a10 b10) c10∧
 CP 167 #[slice z9 a10 b10] c10 (fun d10 e10=>
 ∃f10 g10,d10= .returned (tuple #[int .i64 f10,int .i64 g10])∧
 ac (g10==0)
 ((slice z9 a10 b10).oneCell'=true∧(∃u,e10.cell? ((nb a1).add 3)=some u)∧e10.frozen? ((nb a1).add 3)=false∧
 ∀h10,h10=(e10.setCell ((nb a1).add 3) (slice z9 a10 b10))→
 e8 [] h10)
 (e8 [] e10))))))
 (∃i10 j10 k10 l10 m10 n10 o10 p10 q10 r10 s10 t10 u10 v10 x10 y10,(d8.cell? (nb a1)=some (bool i10)∧d8.cell? ((nb a1).add 1)=some (slice j10 k10 l10)∧d8.cell? ((nb a1).add 2)=some (slice m10 n10 o10)∧d8.cell? ((nb a1).add 3)=some (slice p10 q10 r10)∧d8.cell? ((nb a1).add 4)=some (slice s10 t10 u10)∧d8.cell? ((nb a1).add 5)=some (slice v10 x10 y10)∧True)∧
 aE d8 (nb w) (fun z10=>
 ∃a11 b11 c11 d11 e11 f11 g11 h11 i11 j11 k11 l11 m11 n11 o11 p11,(z10.cell? (nb w)=some (bool a11)∧z10.cell? ((nb w).add 1)=some (slice b11 c11 d11)∧z10.cell? ((nb w).add 2)=some (slice e11 f11 g11)∧z10.cell? ((nb w).add 3)=some (slice h11 i11 j11)∧z10.cell? ((nb w).add 4)=some (slice k11 l11 m11)∧z10.cell? ((nb w).add 5)=some (slice n11 o11 p11)∧True)∧
 R (agg #[bool a11,slice b11 c11 d11,slice e11 f11 g11,slice h11 i11 j11,slice k11 l11 m11,slice n11 o11 p11]) z10) [bool i10,slice j10 k10 l10,slice m10 n10 o10,slice p10 q10 r10,slice s10 t10 u10,slice v10 x10 y10] 0))
 (∃q11 r11 s11 t11 u11 v11 x11 y11 z11 a12 b12 c12 d12 e12 f12 g12,(d8.cell? (nb a1)=some (bool q11)∧d8.cell? ((nb a1).add 1)=some (slice r11 s11 t11)∧d8.cell? ((nb a1).add 2)=some (slice u11 v11 x11)∧d8.cell? ((nb a1).add 3)=some (slice y11 z11 a12)∧d8.cell? ((nb a1).add 4)=some (slice b12 c12 d12)∧d8.cell? ((nb a1).add 5)=some (slice e12 f12 g12)∧True)∧
 aE d8 (nb w) (fun h12=>
 ∃i12 j12 k12 l12 m12 n12 o12 p12 q12 r12 s12 t12 u12 v12 x12 y12,(h12.cell? (nb w)=some (bool i12)∧h12.cell? ((nb w).add 1)=some (slice j12 k12 l12)∧h12.cell? ((nb w).add 2)=some (slice m12 n12 o12)∧h12.cell? ((nb w).add 3)=some (slice p12 q12 r12)∧h12.cell? ((nb w).add 4)=some (slice s12 t12 u12)∧h12.cell? ((nb w).add 5)=some (slice v12 x12 y12)∧True)∧
 R (agg #[bool i12,slice j12 k12 l12,slice m12 n12 o12,slice p12 q12 r12,slice s12 t12 u12,slice v12 x12 y12]) h12) [bool q11,slice r11 s11 t11,slice u11 v11 x11,slice y11 z11 a12,slice b12 c12 d12,slice e12 f12 g12] 0))→b8 [int .i64 c8] d8)→
 b8 [int .i64 0] h2))→f2 [int .i64 g2] h2)→
 f2 [int .i64 0] i1))
 (∀z12:KW,(∀(a13:Int) (b13:World),(ac (decide (a13< (i:Int)))
 (ac (decide (a13<8))
 (∀c13:KW,(∀d13:World,(Ar .i64 (a13+1) (fun e13=>
 z12 [int .i64 e13] d13))→c13 [] d13)→
 Ar .i64 (a13+1) (fun f13=>
 (0:Int)≤a13∧a13≤f13∧f13≤(j:Int)∧True∧True∧
 CP 166 #[agg #[slice none 0 0,slice (bE h a13.toNat (j:Int).toNat 2) (f13.toNat-a13.toNat) ((j:Int).toNat-a13.toNat)]] b13 (fun g13 h13=>
 ∃i13,g13= .returned (bool i13)∧
 ac i13
 (∀j13,j13=h13.drew→
 ∃k13 l13 m13,j13.cell? ((nb a1).add 5)=some (slice k13 l13 m13)∧
 ah h (fun n13=>
 (0:Int)≤a13∧a13< (i:Int)∧
 ∃o13 p13,(j13.cell? (n13.add (a13.toNat*2))=some (int .i64 o13)∧j13.cell? ((n13.add (a13.toNat*2)).add 1)=some (int .i64 p13)∧True)∧
 ∀q13,q13=j13.alloc (.cells #[int .i64 o13,int .i64 p13] 218)→
 (q13.cell? ((nb a1).add 5)=some (slice k13 l13 m13)∧True)∧
 ∃r13 s13 t13 u13,(Builtin.append_ #[24,24] 24 #[slice k13 l13 m13,slice (some (nb j13)) 1 1]).run Tryz.prog q13= .ok (slice r13 s13 t13) u13∧
 (slice r13 s13 t13).oneCell'=true∧(∃u,u13.cell? ((nb a1).add 5)=some u)∧u13.frozen? ((nb a1).add 5)=false∧
 ∀v13,v13=(u13.setCell ((nb a1).add 5) (slice r13 s13 t13))→
 c13 [] v13))
 (c13 [] h13))))
 (∀x13:KW,(∀(y13:Int) (z13:World),(ac (decide (y13< (l:Int)))
 (ac (decide (y13<6))
 (∀a14:KW,(∀b14:World,(Ar .i64 (y13+1) (fun c14=>
 x13 [int .i64 c14] b14))→a14 [] b14)→
 ∀d14,d14=z13.drew→
 ∃e14 f14 g14,d14.cell? ((nb a1).add 3)=some (slice e14 f14 g14)∧
 Ar .i64 ((1000:Int)+y13) (fun h14=>
 ah k (fun i14=>
 (0:Int)≤y13∧y13< (l:Int)∧
 ∃j14,d14.cell? ((i14.add (y13.toNat*2)).add 1)=some (string j14)∧
 (∀k14,k14=d14.alloc (.cells #[] 75)→
 (k14.cell? ((i14.add (y13.toNat*2)).add 1)=some (string j14)∧True)∧
 (k14.cell? ((nb a1).add 3)=some (slice e14 f14 g14)∧True)∧
 (∃l14 m14 n14 o14,(Builtin.append_ #[25,25] 25 #[slice (some (nb d14)) 0 0,slice e14 f14 g14]).run Tryz.prog k14= .ok (slice l14 m14 n14) o14∧
 (o14.cell? ((i14.add (y13.toNat*2)).add 1)=some (string j14)∧True)∧
 ∀p14,p14=o14.alloc (.cells #[int .i64 h14,string j14] 75)→
 ∃q14 r14 s14 t14,(Builtin.append_ #[25,25] 25 #[slice l14 m14 n14,slice (some (nb o14)) 1 1]).run Tryz.prog p14= .ok (slice q14 r14 s14) t14∧
 CP 167 #[slice q14 r14 s14] t14 (fun u14 v14=>
 ∃x14 y14,u14= .returned (tuple #[int .i64 x14,int .i64 y14])∧
 ac (y14==0)
 ((slice q14 r14 s14).oneCell'=true∧(∃u,v14.cell? ((nb a1).add 3)=some u)∧v14.frozen? ((nb a1).add 3)=false∧
 ∀z14,z14=(v14.setCell ((nb a1).add 3) (slice q14 r14 s14))→
 a14 [] z14)
 (a14 [] v14)))∧
 (∀a15,a15=k14.alloc (.cells #[int .i64 h14,string j14] 75)→
 (a15.cell? ((nb a1).add 3)=some (slice e14 f14 g14)∧True)∧
 ∃b15 c15 d15 e15,(Builtin.append_ #[25,25] 25 #[slice (some (nb d14)) 0 0,slice e14 f14 g14]).run Tryz.prog a15= .ok (slice b15 c15 d15) e15∧
 ∃f15 g15 h15 i15,(Builtin.append_ #[25,25] 25 #[slice b15 c15 d15,slice (some (nb k14)) 1 1]).run Tryz.prog e15= .ok (slice f15 g15 h15) i15∧
 CP 167 #[slice f15 g15 h15] i15 (fun j15 k15=>
 ∃l15 m15,j15= .returned (tuple #[int .i64 l15,int .i64 m15])∧
 ac (m15==0)
 ((slice f15 g15 h15).oneCell'=true∧(∃u,k15.cell? ((nb a1).add 3)=some u)∧k15.frozen? ((nb a1).add 3)=false∧
 ∀n15,n15=(k15.setCell ((nb a1).add 3) (slice f15 g15 h15))→
 a14 [] n15)
 (a14 [] k15))))∧
 (∀o15,o15=d14.alloc (.cells #[int .i64 h14,string j14] 75)→
 (o15.cell? ((nb a1).add 3)=some (slice e14 f14 g14)∧True)∧
 ∀p15,p15=o15.alloc (.cells #[] 75)→
 (p15.cell? ((nb a1).add 3)=some (slice e14 f14 g14)∧True)∧
 ∃q15 r15 s15 t15,(Builtin.append_ #[25,25] 25 #[slice (some (nb o15)) 0 0,slice e14 f14 g14]).run Tryz.prog p15= .ok (slice q15 r15 s15) t15∧
 ∃u15 v15 x15 y15,(Builtin.append_ #[25,25] 25 #[slice q15 r15 s15,slice (some (nb d14)) 1 1]).run Tryz.prog t15= .ok (slice u15 v15 x15) y15∧
 CP 167 #[slice u15 v15 x15] y15 (fun z15 a16=>
 ∃b16 c16,z15= .returned (tuple #[int .i64 b16,int .i64 c16])∧
 ac (c16==0)
 ((slice u15 v15 x15).oneCell'=true∧(∃u,a16.cell? ((nb a1).add 3)=some u)∧a16.frozen? ((nb a1).add 3)=false∧
 ∀d16,d16=(a16.setCell ((nb a1).add 3) (slice u15 v15 x15))→
 a14 [] d16)
 (a14 [] a16))))))
 (∃e16 f16 g16 h16 i16 j16 k16 l16 m16 n16 o16 p16 q16 r16 s16 t16,(z13.cell? (nb a1)=some (bool e16)∧z13.cell? ((nb a1).add 1)=some (slice f16 g16 h16)∧z13.cell? ((nb a1).add 2)=some (slice i16 j16 k16)∧z13.cell? ((nb a1).add 3)=some (slice l16 m16 n16)∧z13.cell? ((nb a1).add 4)=some (slice o16 p16 q16)∧z13.cell? ((nb a1).add 5)=some (slice r16 s16 t16)∧True)∧
 aE z13 (nb w) (fun u16=>
 ∃v16 x16 y16 z16 a17 b17 c17 d17 e17 f17 g17 h17 i17 j17 k17 l17,(u16.cell? (nb w)=some (bool v16)∧u16.cell? ((nb w).add 1)=some (slice x16 y16 z16)∧u16.cell? ((nb w).add 2)=some (slice a17 b17 c17)∧u16.cell? ((nb w).add 3)=some (slice d17 e17 f17)∧u16.cell? ((nb w).add 4)=some (slice g17 h17 i17)∧u16.cell? ((nb w).add 5)=some (slice j17 k17 l17)∧True)∧
 R (agg #[bool v16,slice x16 y16 z16,slice a17 b17 c17,slice d17 e17 f17,slice g17 h17 i17,slice j17 k17 l17]) u16) [bool e16,slice f16 g16 h16,slice i16 j16 k16,slice l16 m16 n16,slice o16 p16 q16,slice r16 s16 t16] 0))
 (∃m17 n17 o17 p17 q17 r17 s17 t17 u17 v17 x17 y17 z17 a18 b18 c18,(z13.cell? (nb a1)=some (bool m17)∧z13.cell? ((nb a1).add 1)=some (slice n17 o17 p17)∧z13.cell? ((nb a1).add 2)=some (slice q17 r17 s17)∧z13.cell? ((nb a1).add 3)=some (slice t17 u17 v17)∧z13.cell? ((nb a1).add 4)=some (slice x17 y17 z17)∧z13.cell? ((nb a1).add 5)=some (slice a18 b18 c18)∧True)∧
 aE z13 (nb w) (fun d18=>
 ∃e18 f18 g18 h18 i18 j18 k18 l18 m18 n18 o18 p18 q18 r18 s18 t18,(d18.cell? (nb w)=some (bool e18)∧d18.cell? ((nb w).add 1)=some (slice f18 g18 h18)∧d18.cell? ((nb w).add 2)=some (slice i18 j18 k18)∧d18.cell? ((nb w).add 3)=some (slice l18 m18 n18)∧d18.cell? ((nb w).add 4)=some (slice o18 p18 q18)∧d18.cell? ((nb w).add 5)=some (slice r18 s18 t18)∧True)∧
 R (agg #[bool e18,slice f18 g18 h18,slice i18 j18 k18,slice l18 m18 n18,slice o18 p18 q18,slice r18 s18 t18]) d18) [bool m17,slice n17 o17 p17,slice q17 r17 s17,slice t17 u17 v17,slice x17 y17 z17,slice a18 b18 c18] 0))→x13 [int .i64 y13] z13)→
 x13 [int .i64 0] b13))
 (∀u18:KW,(∀(v18:Int) (x18:World),(ac (decide (v18< (l:Int)))
 (ac (decide (v18<6))
 (∀y18:KW,(∀z18:World,(Ar .i64 (v18+1) (fun a19=>
 u18 [int .i64 a19] z18))→y18 [] z18)→
 ∀b19,b19=x18.drew→
 ∃c19 d19 e19,b19.cell? ((nb a1).add 3)=some (slice c19 d19 e19)∧
 Ar .i64 ((1000:Int)+v18) (fun f19=>
 ah k (fun g19=>
 (0:Int)≤v18∧v18< (l:Int)∧
 ∃h19,b19.cell? ((g19.add (v18.toNat*2)).add 1)=some (string h19)∧
 (∀i19,i19=b19.alloc (.cells #[] 75)→
 (i19.cell? ((g19.add (v18.toNat*2)).add 1)=some (string h19)∧True)∧
 (i19.cell? ((nb a1).add 3)=some (slice c19 d19 e19)∧True)∧
 (∃j19 k19 l19 m19,(Builtin.append_ #[25,25] 25 #[slice (some (nb b19)) 0 0,slice c19 d19 e19]).run Tryz.prog i19= .ok (slice j19 k19 l19) m19∧
 (m19.cell? ((g19.add (v18.toNat*2)).add 1)=some (string h19)∧True)∧
 ∀n19,n19=m19.alloc (.cells #[int .i64 f19,string h19] 75)→
 ∃o19 p19 q19 r19,(Builtin.append_ #[25,25] 25 #[slice j19 k19 l19,slice (some (nb m19)) 1 1]).run Tryz.prog n19= .ok (slice o19 p19 q19) r19∧
 CP 167 #[slice o19 p19 q19] r19 (fun s19 t19=>
 ∃u19 v19,s19= .returned (tuple #[int .i64 u19,int .i64 v19])∧
 ac (v19==0)
 ((slice o19 p19 q19).oneCell'=true∧(∃u,t19.cell? ((nb a1).add 3)=some u)∧t19.frozen? ((nb a1).add 3)=false∧
 ∀x19,x19=(t19.setCell ((nb a1).add 3) (slice o19 p19 q19))→
 y18 [] x19)
 (y18 [] t19)))∧
 (∀y19,y19=i19.alloc (.cells #[int .i64 f19,string h19] 75)→
 (y19.cell? ((nb a1).add 3)=some (slice c19 d19 e19)∧True)∧
 ∃z19 a20 b20 c20,(Builtin.append_ #[25,25] 25 #[slice (some (nb b19)) 0 0,slice c19 d19 e19]).run Tryz.prog y19= .ok (slice z19 a20 b20) c20∧
 ∃d20 e20 f20 g20,(Builtin.append_ #[25,25] 25 #[slice z19 a20 b20,slice (some (nb i19)) 1 1]).run Tryz.prog c20= .ok (slice d20 e20 f20) g20∧
 CP 167 #[slice d20 e20 f20] g20 (fun h20 i20=>
 ∃j20 k20,h20= .returned (tuple #[int .i64 j20,int .i64 k20])∧
 ac (k20==0)
 ((slice d20 e20 f20).oneCell'=true∧(∃u,i20.cell? ((nb a1).add 3)=some u)∧i20.frozen? ((nb a1).add 3)=false∧
 ∀l20,l20=(i20.setCell ((nb a1).add 3) (slice d20 e20 f20))→
 y18 [] l20)
 (y18 [] i20))))∧
 (∀m20,m20=b19.alloc (.cells #[int .i64 f19,string h19] 75)→
 (m20.cell? ((nb a1).add 3)=some (slice c19 d19 e19)∧True)∧
 ∀n20,n20=m20.alloc (.cells #[] 75)→
 (n20.cell? ((nb a1).add 3)=some (slice c19 d19 e19)∧True)∧
 ∃o20 p20 q20 r20,(Builtin.append_ #[25,25] 25 #[slice (some (nb m20)) 0 0,slice c19 d19 e19]).run Tryz.prog n20= .ok (slice o20 p20 q20) r20∧
 ∃s20 t20 u20 v20,(Builtin.append_ #[25,25] 25 #[slice o20 p20 q20,slice (some (nb b19)) 1 1]).run Tryz.prog r20= .ok (slice s20 t20 u20) v20∧
 CP 167 #[slice s20 t20 u20] v20 (fun x20 y20=>
 ∃z20 a21,x20= .returned (tuple #[int .i64 z20,int .i64 a21])∧
 ac (a21==0)
 ((slice s20 t20 u20).oneCell'=true∧(∃u,y20.cell? ((nb a1).add 3)=some u)∧y20.frozen? ((nb a1).add 3)=false∧
 ∀b21,b21=(y20.setCell ((nb a1).add 3) (slice s20 t20 u20))→
 y18 [] b21)
 (y18 [] y20))))))
 (∃c21 d21 e21 f21 g21 h21 i21 j21 k21 l21 m21 n21 o21 p21 q21 r21,(x18.cell? (nb a1)=some (bool c21)∧x18.cell? ((nb a1).add 1)=some (slice d21 e21 f21)∧x18.cell? ((nb a1).add 2)=some (slice g21 h21 i21)∧x18.cell? ((nb a1).add 3)=some (slice j21 k21 l21)∧x18.cell? ((nb a1).add 4)=some (slice m21 n21 o21)∧x18.cell? ((nb a1).add 5)=some (slice p21 q21 r21)∧True)∧
 aE x18 (nb w) (fun s21=>
 ∃t21 u21 v21 x21 y21 z21 a22 b22 c22 d22 e22 f22 g22 h22 i22 j22,(s21.cell? (nb w)=some (bool t21)∧s21.cell? ((nb w).add 1)=some (slice u21 v21 x21)∧s21.cell? ((nb w).add 2)=some (slice y21 z21 a22)∧s21.cell? ((nb w).add 3)=some (slice b22 c22 d22)∧s21.cell? ((nb w).add 4)=some (slice e22 f22 g22)∧s21.cell? ((nb w).add 5)=some (slice h22 i22 j22)∧True)∧
 R (agg #[bool t21,slice u21 v21 x21,slice y21 z21 a22,slice b22 c22 d22,slice e22 f22 g22,slice h22 i22 j22]) s21) [bool c21,slice d21 e21 f21,slice g21 h21 i21,slice j21 k21 l21,slice m21 n21 o21,slice p21 q21 r21] 0))
 (∃k22 l22 m22 n22 o22 p22 q22 r22 s22 t22 u22 v22 x22 y22 z22 a23,(x18.cell? (nb a1)=some (bool k22)∧x18.cell? ((nb a1).add 1)=some (slice l22 m22 n22)∧x18.cell? ((nb a1).add 2)=some (slice o22 p22 q22)∧x18.cell? ((nb a1).add 3)=some (slice r22 s22 t22)∧x18.cell? ((nb a1).add 4)=some (slice u22 v22 x22)∧x18.cell? ((nb a1).add 5)=some (slice y22 z22 a23)∧True)∧
 aE x18 (nb w) (fun b23=>
 ∃c23 d23 e23 f23 g23 h23 i23 j23 k23 l23 m23 n23 o23 p23 q23 r23,(b23.cell? (nb w)=some (bool c23)∧b23.cell? ((nb w).add 1)=some (slice d23 e23 f23)∧b23.cell? ((nb w).add 2)=some (slice g23 h23 i23)∧b23.cell? ((nb w).add 3)=some (slice j23 k23 l23)∧b23.cell? ((nb w).add 4)=some (slice m23 n23 o23)∧b23.cell? ((nb w).add 5)=some (slice p23 q23 r23)∧True)∧
 R (agg #[bool c23,slice d23 e23 f23,slice g23 h23 i23,slice j23 k23 l23,slice m23 n23 o23,slice p23 q23 r23]) b23) [bool k22,slice l22 m22 n22,slice o22 p22 q22,slice r22 s22 t22,slice u22 v22 x22,slice y22 z22 a23] 0))→u18 [int .i64 v18] x18)→
 u18 [int .i64 0] b13))→z12 [int .i64 a13] b13)→
 z12 [int .i64 0] i1))→g1 [int .i64 h1] i1)→
 g1 [int .i64 0] f1) [bool false,slice b1 c1 d1,slice none 0 0,slice none 0 0,slice none 0 0,slice none 0 0] 0) [slice q r s,slice t x y] 0)
theorem AN (a:OA) (b c:Nat) (d:OA) (f g:Nat) (h:OA) (i j:Nat) (k:OA) (l m:Nat) (w:World) (R:RW) (hh:My a b c d f g h i j k l m w R):CR 111 #[slice a b c,slice d f g,slice h i j,slice k l m] w R:=
 aF (fn:=Tryz.f111) (by kernel_rfl) (by kernel_rfl) (by kernel_rfl) (by kernel_rfl) (by kernel_rfl) hh
def Nv (a:Bool) (b:OA) (c d:Nat) (f:OA) (g h:Nat) (i:OA) (j k:Nat) (l:OA) (m n:Nat) (o:OA) (p q:Nat) (w:World) (R:RW):Prop:=
 ∀r,r=w.alloc (.cells #[bool a,slice b c d,slice f g h,slice i j k,slice l m n,slice o p q] 73)→
 ∀s,s=r.alloc (.cells #[slice none 0 0,slice none 0 0,slice none 0 0,slice none 0 0,slice none 0 0] 40)→
 ∃t u x y z a1 b1 c1 d1 e1 f1 g1 h1 i1 j1 k1,(s.cell? (nb w)=some (bool t)∧s.cell? ((nb w).add 1)=some (slice u x y)∧s.cell? ((nb w).add 2)=some (slice z a1 b1)∧s.cell? ((nb w).add 3)=some (slice c1 d1 e1)∧s.cell? ((nb w).add 4)=some (slice f1 g1 h1)∧s.cell? ((nb w).add 5)=some (slice i1 j1 k1)∧True)∧
 CP 168 #[agg #[bool t,slice u x y,slice z a1 b1,slice c1 d1 e1,slice f1 g1 h1,slice i1 j1 k1]] s (fun l1 m1=>
 ∃n1 o1 p1 q1 r1 s1 t1 u1 v1 x1 y1 z1 a2 b2 c2 d2 e2 f2,l1= .returned (tuple #[agg #[slice n1 o1 p1,slice q1 r1 s1,slice t1 u1 v1,slice x1 y1 z1,slice a2 b2 c2],int .i64 d2,int .i64 e2,int .i64 f2])∧
 ∀g2,g2=m1.alloc (.cells #[slice none 0 0,slice none 0 0,slice none 0 0,slice none 0 0,slice none 0 0] 40)→
 aE g2 (nb m1) (fun h2=>
 ∃i2 j2 k2 l2 m2 n2 o2 p2 q2 r2 s2 t2 u2 v2 x2,(h2.cell? (nb m1)=some (slice i2 j2 k2)∧h2.cell? ((nb m1).add 1)=some (slice l2 m2 n2)∧h2.cell? ((nb m1).add 2)=some (slice o2 p2 q2)∧h2.cell? ((nb m1).add 3)=some (slice r2 s2 t2)∧h2.cell? ((nb m1).add 4)=some (slice u2 v2 x2)∧True)∧
 aE h2 (nb r) (fun y2=>
 ∃z2 a3 b3 c3 d3 e3 f3 g3 h3 i3 j3 k3 l3 m3 n3,(y2.cell? (nb r)=some (slice z2 a3 b3)∧y2.cell? ((nb r).add 1)=some (slice c3 d3 e3)∧y2.cell? ((nb r).add 2)=some (slice f3 g3 h3)∧y2.cell? ((nb r).add 3)=some (slice i3 j3 k3)∧y2.cell? ((nb r).add 4)=some (slice l3 m3 n3)∧True)∧
 R (agg #[slice z2 a3 b3,slice c3 d3 e3,slice f3 g3 h3,slice i3 j3 k3,slice l3 m3 n3]) y2) [slice i2 j2 k2,slice l2 m2 n2,slice o2 p2 q2,slice r2 s2 t2,slice u2 v2 x2] 0) [slice n1 o1 p1,slice q1 r1 s1,slice t1 u1 v1,slice x1 y1 z1,slice a2 b2 c2] 0)
theorem vY (a:Bool) (b:OA) (c d:Nat) (f:OA) (g h:Nat) (i:OA) (j k:Nat) (l:OA) (m n:Nat) (o:OA) (p q:Nat) (w:World) (R:RW) (hh:Nv a b c d f g h i j k l m n o p q w R):CR 112 #[agg #[bool a,slice b c d,slice f g h,slice i j k,slice l m n,slice o p q]] w R:=
 aF (fn:=Tryz.f112) (by kernel_rfl) (by kernel_rfl) (by kernel_rfl) (by kernel_rfl) (by kernel_rfl) hh
def Nx (a:OA) (b c:Nat) (d:OA) (f g:Nat) (h i:Int) (w:World) (R:RW):Prop:=
 ∀j,j=w.alloc (.cells #[slice a b c,slice d f g] 38)→
 ∀k,k=j.drew→
 ∃l m n o p q,(k.cell? (nb w)=some (slice l m n)∧k.cell? ((nb w).add 1)=some (slice o p q)∧True)∧
 ∃r s t u x y,(k.cell? (nb w)=some (slice r s t)∧k.cell? ((nb w).add 1)=some (slice u x y)∧True)∧
 CP 175 #[agg #[slice l m n,slice o p q],int .u8 h] k (fun z a1=>
 ∃b1,z= .returned (int .i64 b1)∧
 (a1.cell? (nb w)=some (slice r s t)∧a1.cell? ((nb w).add 1)=some (slice u x y)∧True)∧
 CP 175 #[agg #[slice r s t,slice u x y],int .u8 i] a1 (fun c1 d1=>
 ∃e1,c1= .returned (int .i64 e1)∧
 ∀f1:KW,(∀(g1:Int) (h1:Bool) (i1:World),(∃j1 k1 l1,i1.cell? ((nb w).add 1)=some (slice j1 k1 l1)∧
 ac (decide (g1< (k1:Int)))
 (∃m1 n1 o1,i1.cell? ((nb w).add 1)=some (slice m1 n1 o1)∧
 ah m1 (fun p1=>
 (0:Int)≤g1∧g1< (n1:Int)∧
 ∃q1,i1.cell? ((p1.add (g1.toNat*2)).add 0)=some (int .i64 q1)∧
 ac (q1==b1)
 (∃r1 s1 t1,i1.cell? ((nb w).add 1)=some (slice r1 s1 t1)∧
 ah r1 (fun u1=>
 (0:Int)≤g1∧g1< (s1:Int)∧
 ∃v1,i1.cell? ((u1.add (g1.toNat*2)).add 1)=some (int .i64 v1)∧
 ac (v1==e1)
 (R (bool false) i1)
 (Ar .i64 (g1+1) (fun x1=>
 f1 [int .i64 x1,bool h1] i1))))
 (Ar .i64 (g1+1) (fun y1=>
 f1 [int .i64 y1,bool h1] i1))))
 (R (bool (b1 != e1)) i1))→f1 [int .i64 g1,bool h1] i1)→
 f1 [int .i64 0,bool false] d1))
theorem zP (a:OA) (b c:Nat) (d:OA) (f g:Nat) (h i:Int) (w:World) (R:RW) (hh:Nx a b c d f g h i w R):CR 127 #[agg #[slice a b c,slice d f g],int .u8 h,int .u8 i] w R:=
 aF (fn:=Tryz.f127) (by kernel_rfl) (by kernel_rfl) (by kernel_rfl) (by kernel_rfl) (by kernel_rfl) hh
def L6 (a:OA) (b c:Nat) (d:OA) (f g:Nat) (h:ByteArray) (i:Int) (w:World) (R:RW):Prop:=
 ∀j,j=w.alloc (.cells #[slice a b c,slice d f g] 36)→
 ∀k:KW,(∀(l:Int) (m:OA) (n o:Nat) (p:World),(ac (decide (l< (h.size:Int)))
 ((0:Int)≤l∧l< (h.size:Int)∧
 ∀q,q=p.alloc (.cells #[int .i64 (IntKind.wrap .i64 (eN h l))] 3)→
 ∃r s t u,(Builtin.append_ #[28,28] 28 #[slice m n o,slice (some (nb p)) 1 1]).run Tryz.prog q= .ok (slice r s t) u∧
 Ar .i64 (l+1) (fun x=>
 k [int .i64 x,slice r s t] u))
 (∀y:KW,(∀(z:Int) (a1:OA) (b1 c1:Nat) (d1:World),(∃e1 f1 g1,d1.cell? ((nb w).add 1)=some (slice e1 f1 g1)∧
 ac (decide (z< (f1:Int)))
 (Ar .i64 ((256:Int)+z) (fun h1=>
 ac (decide (h1<i))
 (∀i1:KW,(∀(j1:Int) (k1:OA) (l1 m1:Nat) (n1:World),(ac (decide (j1< (b1:Int)))
 (∀o1:KW,(∀(p1:Int) (q1:OA) (r1 s1:Nat) (t1:World),(Ar .i64 (p1+1) (fun u1=>
 i1 [int .i64 u1,slice q1 r1 s1] t1))→o1 [int .i64 p1,slice q1 r1 s1] t1)→
 ∀v1,v1=n1.drew→
 Ar .i64 (j1+1) (fun x1=>
 ac (decide (x1< (b1:Int)))
 (ah a1 (fun y1=>
 (0:Int)≤j1∧j1< (b1:Int)∧
 ∃z1,v1.cell? (y1.add (j1.toNat*1))=some (int .i64 z1)∧
 ∃a2 b2 c2,v1.cell? ((nb w).add 1)=some (slice a2 b2 c2)∧
 ah a2 (fun d2=>
 (0:Int)≤z∧z< (b2:Int)∧
 ∃e2,v1.cell? ((d2.add (z.toNat*2)).add 0)=some (int .i64 e2)∧
 ac (z1==e2)
 (Ar .i64 (j1+1) (fun f2=>
 ah a1 (fun g2=>
 (0:Int)≤f2∧f2< (b1:Int)∧
 ∃h2,v1.cell? (g2.add (f2.toNat*1))=some (int .i64 h2)∧
 ∃i2 j2 k2,v1.cell? ((nb w).add 1)=some (slice i2 j2 k2)∧
 ah i2 (fun l2=>
 (0:Int)≤z∧z< (j2:Int)∧
 ∃m2,v1.cell? ((l2.add (z.toNat*2)).add 1)=some (int .i64 m2)∧
 ac (h2==m2)
 (Ar .i64 ((256:Int)+z) (fun n2=>
 ∀o2,o2=v1.alloc (.cells #[int .i64 n2] 3)→
 ∃p2 q2 r2 s2,(Builtin.append_ #[28,28] 28 #[slice k1 l1 m1,slice (some (nb v1)) 1 1]).run Tryz.prog o2= .ok (slice p2 q2 r2) s2∧
 Ar .i64 (j1+1) (fun t2=>
 o1 [int .i64 t2,slice p2 q2 r2] s2)))
 (ah a1 (fun u2=>
 (0:Int)≤j1∧j1< (b1:Int)∧
 ∃v2,v1.cell? (u2.add (j1.toNat*1))=some (int .i64 v2)∧
 ∀x2,x2=v1.alloc (.cells #[int .i64 v2] 3)→
 ∃y2 z2 a3 b3,(Builtin.append_ #[28,28] 28 #[slice k1 l1 m1,slice (some (nb v1)) 1 1]).run Tryz.prog x2= .ok (slice y2 z2 a3) b3∧
 o1 [int .i64 j1,slice y2 z2 a3] b3))))))
 (ah a1 (fun c3=>
 (0:Int)≤j1∧j1< (b1:Int)∧
 ∃d3,v1.cell? (c3.add (j1.toNat*1))=some (int .i64 d3)∧
 ∀e3,e3=v1.alloc (.cells #[int .i64 d3] 3)→
 ∃f3 g3 h3 i3,(Builtin.append_ #[28,28] 28 #[slice k1 l1 m1,slice (some (nb v1)) 1 1]).run Tryz.prog e3= .ok (slice f3 g3 h3) i3∧
 o1 [int .i64 j1,slice f3 g3 h3] i3)))))
 (ah a1 (fun j3=>
 (0:Int)≤j1∧j1< (b1:Int)∧
 ∃k3,v1.cell? (j3.add (j1.toNat*1))=some (int .i64 k3)∧
 ∀l3,l3=v1.alloc (.cells #[int .i64 k3] 3)→
 ∃m3 n3 o3 p3,(Builtin.append_ #[28,28] 28 #[slice k1 l1 m1,slice (some (nb v1)) 1 1]).run Tryz.prog l3= .ok (slice m3 n3 o3) p3∧
 o1 [int .i64 j1,slice m3 n3 o3] p3))))
 (Ar .i64 (z+1) (fun q3=>
 y [int .i64 q3,slice k1 l1 m1] n1)))→i1 [int .i64 j1,slice k1 l1 m1] n1)→
 i1 [int .i64 0,slice none 0 0] d1)
 (R (slice a1 b1 c1) d1)))
 (R (slice a1 b1 c1) d1))→y [int .i64 z,slice a1 b1 c1] d1)→
 y [int .i64 0,slice m n o] p))→k [int .i64 l,slice m n o] p)→
 k [int .i64 0,slice none 0 0] j
theorem Ae (a:OA) (b c:Nat) (d:OA) (f g:Nat) (h:ByteArray) (i:Int) (w:World) (R:RW) (hh:L6 a b c d f g h i w R):CR 128 #[agg #[slice a b c,slice d f g],string h,int .i64 i] w R:=
 aF (fn:=Tryz.f128) (by kernel_rfl) (by kernel_rfl) (by kernel_rfl) (by kernel_rfl) (by kernel_rfl) hh
def MI (a:OA) (b c:Nat) (w:World) (R:RW):Prop:=
 ∀d,d=w.alloc (.cells #[slice none 0 0,slice none 0 0] 36)→
 CP 215 #[] d (fun f g=>
 ∃h i j k l m,f= .returned (agg #[slice h i j,slice k l m])∧
 ∀n,n=g.alloc (.cells #[slice none 0 0,slice none 0 0] 36)→
 aE n (nb g) (fun o=>
 ∀p:KW,(∀(q:Int) (r:World),(Ar .i64 (q+1) (fun s=>
 ac (decide (s< (b:Int)))
 (ac (decide (q<60))
 (∀t:KW,(∀u:World,(Ar .i64 (q+2) (fun x=>
 p [int .i64 x] u))→t [] u)→
 ∀y,y=r.drew→
 ah a (fun z=>
 (0:Int)≤q∧q< (b:Int)∧
 ∃a1,y.cell? (z.add (q.toNat*1))=some (int .u16 a1)∧
 ∃b1 c1 d1,y.cell? ((nb g).add 0)=some (slice b1 c1 d1)∧
 ∃e1 f1 g1,y.cell? ((nb g).add 1)=some (slice e1 f1 g1)∧
 Ar .i64 ((c1:Int)+(f1:Int)) (fun h1=>
 h1≠0∧
 Ar .i64 (q+1) (fun i1=>
 ah a (fun j1=>
 (0:Int)≤i1∧i1< (b:Int)∧
 ∃k1,y.cell? (j1.add (i1.toNat*1))=some (int .u16 k1)∧
 ∃l1 m1 n1,y.cell? ((nb g).add 0)=some (slice l1 m1 n1)∧
 ∃o1 p1 q1,y.cell? ((nb g).add 1)=some (slice o1 p1 q1)∧
 Ar .i64 ((m1:Int)+(p1:Int)) (fun r1=>
 r1≠0∧
 ∀s1:KW,(∀(t1:Int) (u1:World),(∀v1:KW,(∀(x1:Int) (y1:World),(∃z1 a2 b2 c2 d2 e2,(y1.cell? (nb g)=some (slice z1 a2 b2)∧y1.cell? ((nb g).add 1)=some (slice c2 d2 e2)∧True)∧
 CP 216 #[agg #[slice z1 a2 b2,slice c2 d2 e2],agg #[int .i64 t1,int .i64 x1]] y1 (fun f2 g2=>
 ∃h2 i2 j2 k2 l2 m2 n2,f2= .returned (tuple #[agg #[slice h2 i2 j2,slice k2 l2 m2],int .i64 n2])∧
 ∀o2,o2=g2.alloc (.cells #[slice none 0 0,slice none 0 0] 36)→
 aE o2 (nb g2) (fun p2=>
 ac (n2==0)
 (∃q2 r2 s2 t2 u2 v2,(p2.cell? (nb g2)=some (slice q2 r2 s2)∧p2.cell? ((nb g2).add 1)=some (slice t2 u2 v2)∧True)∧
 aE p2 (nb g) (fun x2=>
 t [] x2) [slice q2 r2 s2,slice t2 u2 v2] 0)
 (t [] p2)) [slice h2 i2 j2,slice k2 l2 m2] 0))→v1 [int .i64 x1] y1)→
 ∃y2 z2 a3,u1.cell? ((nb g).add 0)=some (slice y2 z2 a3)∧
 ac (decide ((Int.tmod (IntKind.wrap .i64 k1) r1:Int)≥(z2:Int)))
 (Ar .i64 ((256:Int)+(Int.tmod (IntKind.wrap .i64 k1) r1)) (fun b3=>
 ∃c3 d3 e3,u1.cell? ((nb g).add 0)=some (slice c3 d3 e3)∧
 Ar .i64 (b3- (d3:Int)) (fun f3=>
 v1 [int .i64 f3] u1)))
 (v1 [int .i64 (Int.tmod (IntKind.wrap .i64 k1) r1)] u1))→s1 [int .i64 t1] u1)→
 ∃g3 h3 i3,y.cell? ((nb g).add 0)=some (slice g3 h3 i3)∧
 ac (decide ((Int.tmod (IntKind.wrap .i64 a1) h1:Int)≥(h3:Int)))
 (Ar .i64 ((256:Int)+(Int.tmod (IntKind.wrap .i64 a1) h1)) (fun j3=>
 ∃k3 l3 m3,y.cell? ((nb g).add 0)=some (slice k3 l3 m3)∧
 Ar .i64 (j3- (l3:Int)) (fun n3=>
 s1 [int .i64 n3] y)))
 (s1 [int .i64 (Int.tmod (IntKind.wrap .i64 a1) h1)] y)))))))
 (∃o3 p3 q3 r3 s3 t3,(r.cell? (nb g)=some (slice o3 p3 q3)∧r.cell? ((nb g).add 1)=some (slice r3 s3 t3)∧True)∧
 aE r (nb w) (fun u3=>
 ∃v3 x3 y3 z3 a4 b4,(u3.cell? (nb w)=some (slice v3 x3 y3)∧u3.cell? ((nb w).add 1)=some (slice z3 a4 b4)∧True)∧
 R (agg #[slice v3 x3 y3,slice z3 a4 b4]) u3) [slice o3 p3 q3,slice r3 s3 t3] 0))
 (∃c4 d4 e4 f4 g4 h4,(r.cell? (nb g)=some (slice c4 d4 e4)∧r.cell? ((nb g).add 1)=some (slice f4 g4 h4)∧True)∧
 aE r (nb w) (fun i4=>
 ∃j4 k4 l4 m4 n4 o4,(i4.cell? (nb w)=some (slice j4 k4 l4)∧i4.cell? ((nb w).add 1)=some (slice m4 n4 o4)∧True)∧
 R (agg #[slice j4 k4 l4,slice m4 n4 o4]) i4) [slice c4 d4 e4,slice f4 g4 h4] 0)))→p [int .i64 q] r)→
 p [int .i64 0] o) [slice h i j,slice k l m] 0)
theorem xw (a:OA) (b c:Nat) (w:World) (R:RW) (hh:MI a b c w R):CR 165 #[slice a b c] w R:=
 aF (fn:=Tryz.f165) (by kernel_rfl) (by kernel_rfl) (by kernel_rfl) (by kernel_rfl) (by kernel_rfl) hh
def ME (a:OA) (b c:Nat) (d:OA) (f g:Nat) (w:World) (R:RW):Prop:=
 ∀h,h=w.alloc (.cells #[slice a b c,slice d f g] 38)→
 ∀i:KW,(∀(j:Int) (k:Bool) (l:World),(∃m n o,l.cell? ((nb w).add 0)=some (slice m n o)∧
 ac (decide (j< (n:Int)))
 (∃p q r,l.cell? ((nb w).add 0)=some (slice p q r)∧
 ah p (fun s=>
 (0:Int)≤j∧j< (q:Int)∧
 ∃t u x,(l.cell? (s.add (j.toNat*3))=some (int .i64 t)∧l.cell? ((s.add (j.toNat*3)).add 1)=some (int .i64 u)∧l.cell? ((s.add (j.toNat*3)).add 2)=some (int .i64 x)∧True)∧
 ∀y,y=l.alloc (.cells #[int .i64 0,int .i64 0,int .i64 0] 215)→
 aE y (nb l) (fun z=>
 ∃a1,z.cell? ((nb l).add 0)=some (int .i64 a1)∧
 ac (decide (a1<0))
 (R (bool false) z)
 (∃b1,z.cell? ((nb l).add 1)=some (int .i64 b1)∧
 ∃c1,z.cell? ((nb l).add 0)=some (int .i64 c1)∧
 ac (decide (b1<c1))
 (R (bool false) z)
 (∃d1,z.cell? ((nb l).add 1)=some (int .i64 d1)∧
 ac (decide (d1>255))
 (R (bool false) z)
 (∃e1,z.cell? ((nb l).add 2)=some (int .i64 e1)∧
 ac (decide (e1<0))
 (R (bool false) z)
 (∃f1,z.cell? ((nb l).add 2)=some (int .i64 f1)∧
 ac (decide (f1>15))
 (R (bool false) z)
 (Ar .i64 (j+1) (fun g1=>
 i [int .i64 g1,bool k] z))))))) [int .i64 t,int .i64 u,int .i64 x] 0))
 (∀h1:KW,(∀(i1:Int) (j1:Bool) (k1:World),(∃l1 m1 n1,k1.cell? ((nb w).add 1)=some (slice l1 m1 n1)∧
 ac (decide (i1< (m1:Int)))
 (∃o1 p1 q1,k1.cell? ((nb w).add 1)=some (slice o1 p1 q1)∧
 ah o1 (fun r1=>
 (0:Int)≤i1∧i1< (p1:Int)∧
 ∃s1 t1,(k1.cell? (r1.add (i1.toNat*2))=some (int .i64 s1)∧k1.cell? ((r1.add (i1.toNat*2)).add 1)=some (int .i64 t1)∧True)∧
 ∀u1,u1=k1.alloc (.cells #[int .i64 0,int .i64 0] 218)→
 aE u1 (nb k1) (fun v1=>
 ∃x1,v1.cell? ((nb k1).add 0)=some (int .i64 x1)∧
 ac (decide (x1<0))
 (R (bool false) v1)
 (∃y1,v1.cell? ((nb k1).add 0)=some (int .i64 y1)∧
 ac (decide (y1>15))
 (R (bool false) v1)
 (∃z1,v1.cell? ((nb k1).add 1)=some (int .i64 z1)∧
 ac (decide (z1<0))
 (R (bool false) v1)
 (∃a2,v1.cell? ((nb k1).add 1)=some (int .i64 a2)∧
 ac (decide (a2>15))
 (R (bool false) v1)
 (Ar .i64 (i1+1) (fun b2=>
 h1 [int .i64 b2,bool j1] v1)))))) [int .i64 s1,int .i64 t1] 0))
 (R (bool true) k1))→h1 [int .i64 i1,bool j1] k1)→
 h1 [int .i64 0,bool k] l))→i [int .i64 j,bool k] l)→
 i [int .i64 0,bool false] h
theorem yv (a:OA) (b c:Nat) (d:OA) (f g:Nat) (w:World) (R:RW) (hh:ME a b c d f g w R):CR 166 #[agg #[slice a b c,slice d f g]] w R:=
 aF (fn:=Tryz.f166) (by kernel_rfl) (by kernel_rfl) (by kernel_rfl) (by kernel_rfl) (by kernel_rfl) hh
def OP (a:OA) (b c:Nat) (w:World) (R:RW):Prop:=
 ∀d:KW,(∀(f g h:Int) (i:World),(ac (decide (f< (b:Int)))
 (ah a (fun j=>
 (0:Int)≤f∧f< (b:Int)∧
 ∃k,i.cell? ((j.add (f.toNat*2)).add 0)=some (int .i64 k)∧
 ac (decide (k<0))
 (R (tuple #[int .i64 f,int .i64 1]) i)
 (ah a (fun l=>
 (0:Int)≤f∧f< (b:Int)∧
 ∃m,i.cell? ((l.add (f.toNat*2)).add 0)=some (int .i64 m)∧
 ac (decide (m>1073741824))
 (R (tuple #[int .i64 f,int .i64 1]) i)
 (ah a (fun n=>
 (0:Int)≤f∧f< (b:Int)∧
 ∃o,i.cell? ((n.add (f.toNat*2)).add 1)=some (string o)∧
 ac (decide (((o.size:Int):Int) <1))
 (R (tuple #[int .i64 f,int .i64 1]) i)
 (ah a (fun p=>
 (0:Int)≤f∧f< (b:Int)∧
 ∃q,i.cell? ((p.add (f.toNat*2)).add 1)=some (string q)∧
 ac (decide (((q.size:Int):Int)>64))
 (R (tuple #[int .i64 f,int .i64 1]) i)
 (ac (decide (f≥32))
 (R (tuple #[int .i64 f,int .i64 3]) i)
 (∀r:KW,(∀(s t u:Int) (x:World),(ac (decide (s<f))
 (∀y,y=x.drew→
 ah a (fun z=>
 (0:Int)≤s∧s< (b:Int)∧
 ∃a1,y.cell? ((z.add (s.toNat*2)).add 0)=some (int .i64 a1)∧
 ah a (fun b1=>
 (0:Int)≤f∧f< (b:Int)∧
 ∃c1,y.cell? ((b1.add (f.toNat*2)).add 0)=some (int .i64 c1)∧
 ac (a1==c1)
 (R (tuple #[int .i64 f,int .i64 10]) y)
 (ah a (fun d1=>
 (0:Int)≤s∧s< (b:Int)∧
 ∃e1,y.cell? ((d1.add (s.toNat*2)).add 1)=some (string e1)∧
 ah a (fun f1=>
 (0:Int)≤f∧f< (b:Int)∧
 ∃g1,y.cell? ((f1.add (f.toNat*2)).add 1)=some (string g1)∧
 ac (e1.toList==g1.toList)
 (R (tuple #[int .i64 f,int .i64 10]) y)
 (Ar .i64 (s+1) (fun h1=>
 r [int .i64 h1,int .i64 t,int .i64 u] y))))))))
 (Ar .i64 (f+1) (fun i1=>
 d [int .i64 i1,int .i64 t,int .i64 u] x)))→r [int .i64 s,int .i64 t,int .i64 u] x)→
 r [int .i64 0,int .i64 g,int .i64 h] i))))))))))
 (R (tuple #[int .i64 (b:Int),int .i64 0]) i))→d [int .i64 f,int .i64 g,int .i64 h] i)→
 d [int .i64 0,int .i64 0,int .i64 0] w
theorem yK (a:OA) (b c:Nat) (w:World) (R:RW) (hh:OP a b c w R):CR 167 #[slice a b c] w R:=
 aF (fn:=Tryz.f167) (by kernel_rfl) (by kernel_rfl) (by kernel_rfl) (by kernel_rfl) (by kernel_rfl) hh
def MR (a:Bool) (b:OA) (c d:Nat) (f:OA) (g h:Nat) (i:OA) (j k:Nat) (l:OA) (m n:Nat) (o:OA) (p q:Nat) (w:World) (R:RW):Prop:=
 ∀r,r=w.alloc (.cells #[bool a,slice b c d,slice f g h,slice i j k,slice l m n,slice o p q] 73)→
 ∀s,s=r.alloc (.cells #[slice none 0 0,slice none 0 0,slice none 0 0,slice none 0 0,slice none 0 0] 40)→
 ∃t u x y z a1 b1 c1 d1 e1 f1 g1 h1 i1 j1 k1,(s.cell? (nb w)=some (bool t)∧s.cell? ((nb w).add 1)=some (slice u x y)∧s.cell? ((nb w).add 2)=some (slice z a1 b1)∧s.cell? ((nb w).add 3)=some (slice c1 d1 e1)∧s.cell? ((nb w).add 4)=some (slice f1 g1 h1)∧s.cell? ((nb w).add 5)=some (slice i1 j1 k1)∧True)∧
 CP 217 #[agg #[bool t,slice u x y,slice z a1 b1,slice c1 d1 e1,slice f1 g1 h1,slice i1 j1 k1]] s (fun l1 m1=>
 ∃n1 o1 p1 q1 r1 s1 t1 u1,l1= .returned (tuple #[agg #[slice n1 o1 p1,slice q1 r1 s1],int .i64 t1,int .i64 u1])∧
 ∀v1,v1=m1.alloc (.cells #[slice none 0 0,slice none 0 0] 36)→
 aE v1 (nb m1) (fun x1=>
 ac (u1 != 0)
 (aE x1 (nb r) (fun y1=>
 ∃z1 a2 b2 c2 d2 e2 f2 g2 h2 i2 j2 k2 l2 m2 n2,(y1.cell? (nb r)=some (slice z1 a2 b2)∧y1.cell? ((nb r).add 1)=some (slice c2 d2 e2)∧y1.cell? ((nb r).add 2)=some (slice f2 g2 h2)∧y1.cell? ((nb r).add 3)=some (slice i2 j2 k2)∧y1.cell? ((nb r).add 4)=some (slice l2 m2 n2)∧True)∧
 R (tuple #[agg #[slice z1 a2 b2,slice c2 d2 e2,slice f2 g2 h2,slice i2 j2 k2,slice l2 m2 n2],int .i64 1,int .i64 t1,int .i64 u1]) y1) [slice none 0 0,slice none 0 0,slice none 0 0,slice none 0 0,slice none 0 0] 0)
 (∃o2 p2 q2,x1.cell? ((nb w).add 3)=some (slice o2 p2 q2)∧
 CP 167 #[slice o2 p2 q2] x1 (fun r2 s2=>
 ∃t2 u2,r2= .returned (tuple #[int .i64 t2,int .i64 u2])∧
 ac (u2 != 0)
 (aE s2 (nb r) (fun v2=>
 ∃x2 y2 z2 a3 b3 c3 d3 e3 f3 g3 h3 i3 j3 k3 l3,(v2.cell? (nb r)=some (slice x2 y2 z2)∧v2.cell? ((nb r).add 1)=some (slice a3 b3 c3)∧v2.cell? ((nb r).add 2)=some (slice d3 e3 f3)∧v2.cell? ((nb r).add 3)=some (slice g3 h3 i3)∧v2.cell? ((nb r).add 4)=some (slice j3 k3 l3)∧True)∧
 R (tuple #[agg #[slice x2 y2 z2,slice a3 b3 c3,slice d3 e3 f3,slice g3 h3 i3,slice j3 k3 l3],int .i64 2,int .i64 t2,int .i64 u2]) v2) [slice none 0 0,slice none 0 0,slice none 0 0,slice none 0 0,slice none 0 0] 0)
 (∀m3:KW,(∀(n3 o3 p3 q3:Int) (r3:World),(∃s3 t3 u3,r3.cell? ((nb w).add 3)=some (slice s3 t3 u3)∧
 ac (decide (n3< (t3:Int)))
 (∀v3,v3=r3.drew→
 ∃x3 y3 z3,v3.cell? ((nb w).add 3)=some (slice x3 y3 z3)∧
 ah x3 (fun a4=>
 (0:Int)≤n3∧n3< (y3:Int)∧
 ∃b4,v3.cell? ((a4.add (n3.toNat*2)).add 0)=some (int .i64 b4)∧
 ∃c4 d4 e4,v3.cell? ((nb m1).add 0)=some (slice c4 d4 e4)∧
 ac (decide (b4< (d4:Int)))
 (aE v3 (nb r) (fun f4=>
 ∃g4 h4 i4 j4 k4 l4 m4 n4 o4 p4 q4 r4 s4 t4 u4,(f4.cell? (nb r)=some (slice g4 h4 i4)∧f4.cell? ((nb r).add 1)=some (slice j4 k4 l4)∧f4.cell? ((nb r).add 2)=some (slice m4 n4 o4)∧f4.cell? ((nb r).add 3)=some (slice p4 q4 r4)∧f4.cell? ((nb r).add 4)=some (slice s4 t4 u4)∧True)∧
 R (tuple #[agg #[slice g4 h4 i4,slice j4 k4 l4,slice m4 n4 o4,slice p4 q4 r4,slice s4 t4 u4],int .i64 2,int .i64 n3,int .i64 4]) f4) [slice none 0 0,slice none 0 0,slice none 0 0,slice none 0 0,slice none 0 0] 0)
 (Ar .i64 (n3+1) (fun v4=>
 m3 [int .i64 v4,int .i64 o3,int .i64 p3,int .i64 q3] v3))))
 (∃x4 y4 z4 a5 b5 c5,(r3.cell? (nb m1)=some (slice x4 y4 z4)∧r3.cell? ((nb m1).add 1)=some (slice a5 b5 c5)∧True)∧
 ∃d5 e5 f5,r3.cell? ((nb w).add 4)=some (slice d5 e5 f5)∧
 ∃g5 h5 i5,r3.cell? ((nb w).add 5)=some (slice g5 h5 i5)∧
 ∃j5 k5 l5,r3.cell? ((nb w).add 3)=some (slice j5 k5 l5)∧
 aE r3 (nb r) (fun m5=>
 ∃n5 o5 p5 q5 r5 s5 t5 u5 v5 x5 y5 z5 a6 b6 c6,(m5.cell? (nb r)=some (slice n5 o5 p5)∧m5.cell? ((nb r).add 1)=some (slice q5 r5 s5)∧m5.cell? ((nb r).add 2)=some (slice t5 u5 v5)∧m5.cell? ((nb r).add 3)=some (slice x5 y5 z5)∧m5.cell? ((nb r).add 4)=some (slice a6 b6 c6)∧True)∧
 R (tuple #[agg #[slice n5 o5 p5,slice q5 r5 s5,slice t5 u5 v5,slice x5 y5 z5,slice a6 b6 c6],int .i64 0,int .i64 0,int .i64 0]) m5) [slice x4 y4 z4,slice a5 b5 c5,slice d5 e5 f5,slice g5 h5 i5,slice j5 k5 l5] 0))→m3 [int .i64 n3,int .i64 o3,int .i64 p3,int .i64 q3] r3)→
 m3 [int .i64 0,int .i64 0,int .i64 0,int .i64 0] s2)))) [slice n1 o1 p1,slice q1 r1 s1] 0)
theorem wS (a:Bool) (b:OA) (c d:Nat) (f:OA) (g h:Nat) (i:OA) (j k:Nat) (l:OA) (m n:Nat) (o:OA) (p q:Nat) (w:World) (R:RW) (hh:MR a b c d f g h i j k l m n o p q w R):CR 168 #[agg #[bool a,slice b c d,slice f g h,slice i j k,slice l m n,slice o p q]] w R:=
 aF (fn:=Tryz.f168) (by kernel_rfl) (by kernel_rfl) (by kernel_rfl) (by kernel_rfl) (by kernel_rfl) hh
def MH (a:OA) (b c:Nat) (d:OA) (f g:Nat) (h:Int) (w:World) (R:RW):Prop:=
 ∀i,i=w.alloc (.cells #[slice a b c,slice d f g] 38)→
 ∃j k l,i.cell? ((nb w).add 0)=some (slice j k l)∧
 Ar .i64 ((k:Int)-1) (fun m=>
 ∀n:KW,(∀(o p:Int) (q:World),(ac (decide (o≥0))
 (∃r s t,q.cell? ((nb w).add 0)=some (slice r s t)∧
 ah r (fun u=>
 (0:Int)≤o∧o< (s:Int)∧
 ∃x,q.cell? ((u.add (o.toNat*3)).add 0)=some (int .i64 x)∧
 ac (decide ((IntKind.wrap .i64 h:Int)≥x))
 (∃y z a1,q.cell? ((nb w).add 0)=some (slice y z a1)∧
 ah y (fun b1=>
 (0:Int)≤o∧o< (z:Int)∧
 ∃c1,q.cell? ((b1.add (o.toNat*3)).add 1)=some (int .i64 c1)∧
 ac (decide ((IntKind.wrap .i64 h:Int)≤c1))
 (∃d1 e1 f1,q.cell? ((nb w).add 0)=some (slice d1 e1 f1)∧
 ah d1 (fun g1=>
 (0:Int)≤o∧o< (e1:Int)∧
 ∃h1,q.cell? ((g1.add (o.toNat*3)).add 2)=some (int .i64 h1)∧
 R (int .i64 h1) q))
 (Ar .i64 (o-1) (fun i1=>
 n [int .i64 i1,int .i64 p] q))))
 (Ar .i64 (o-1) (fun j1=>
 n [int .i64 j1,int .i64 p] q))))
 (R (int .i64 0) q))→n [int .i64 o,int .i64 p] q)→
 n [int .i64 m,int .i64 0] i)
theorem AT (a:OA) (b c:Nat) (d:OA) (f g:Nat) (h:Int) (w:World) (R:RW) (hh:MH a b c d f g h w R):CR 175 #[agg #[slice a b c,slice d f g],int .u8 h] w R:=
 aF (fn:=Tryz.f175) (by kernel_rfl) (by kernel_rfl) (by kernel_rfl) (by kernel_rfl) (by kernel_rfl) hh
def M3 (w:World) (R:RW):Prop:=
 ∀a,a=w.alloc (.cells #[slice none 0 0,slice none 0 0] 36)→
 ∀b,b=a.alloc (.cells #[slice none 0 0,slice none 0 0] 36)→
 aE b (nb a) (fun c=>
 ∀d:KW,(∀(f:Int) (g:World),(ac (decide (f<256))
 (∃h i j,g.cell? ((nb a).add 0)=some (slice h i j)∧
 ∀k,k=g.alloc (.cells #[int .u8 (IntKind.wrap .u8 f)] 5)→
 ∃l m,(convert 97 9 (slice (some (nb g)) 1 1)).run Tryz.prog k= .ok (string l) m∧
 ∀n,n=m.alloc (.cells #[string l] 9)→
 ∃o p q r,(Builtin.append_ #[33,33] 33 #[slice h i j,slice (some (nb m)) 1 1]).run Tryz.prog n= .ok (slice o p q) r∧
 (slice o p q).oneCell'=true∧(∃u,r.cell? ((nb a).add 0)=some u)∧r.frozen? ((nb a).add 0)=false∧
 ∀s,s=(r.setCell ((nb a).add 0) (slice o p q))→
 Ar .i64 (f+1) (fun t=>
 d [int .i64 t] s))
 (∃x y z a1 b1 c1,(g.cell? (nb a)=some (slice x y z)∧g.cell? ((nb a).add 1)=some (slice a1 b1 c1)∧True)∧
 aE g (nb w) (fun d1=>
 ∃e1 f1 g1 h1 i1 j1,(d1.cell? (nb w)=some (slice e1 f1 g1)∧d1.cell? ((nb w).add 1)=some (slice h1 i1 j1)∧True)∧
 R (agg #[slice e1 f1 g1,slice h1 i1 j1]) d1) [slice x y z,slice a1 b1 c1] 0))→d [int .i64 f] g)→
 d [int .i64 0] c) [slice none 0 0,slice none 0 0] 0
theorem wC (w:World) (R:RW) (hh:M3 w R):CR 215 #[] w R:=
 aF (fn:=Tryz.f215) (by kernel_rfl) (by kernel_rfl) (by kernel_rfl) (by kernel_rfl) (by kernel_rfl) hh
def Ox (a:OA) (b c:Nat) (d:OA) (f g:Nat) (h i:Int) (w:World) (R:RW):Prop:=
 ∀j,j=w.alloc (.cells #[slice a b c,slice d f g] 36)→
 ∀k,k=j.alloc (.cells #[int .i64 h,int .i64 i] 118)→
 ∀l,l=k.alloc (.cells #[slice none 0 0,slice none 0 0] 36)→
 ∃m n o p q r,(l.cell? (nb w)=some (slice m n o)∧l.cell? ((nb w).add 1)=some (slice p q r)∧True)∧
 ∃s,l.cell? ((nb j).add 0)=some (int .i64 s)∧
 CP 63 #[agg #[slice m n o,slice p q r],int .i64 s] l (fun t u=>
 ∃x,t= .returned (bool x)∧
 ac (!x)
 (∃y z a1 b1 c1 d1,(u.cell? (nb w)=some (slice y z a1)∧u.cell? ((nb w).add 1)=some (slice b1 c1 d1)∧True)∧
 aE u (nb k) (fun e1=>
 ∃f1 g1 h1 i1 j1 k1,(e1.cell? (nb k)=some (slice f1 g1 h1)∧e1.cell? ((nb k).add 1)=some (slice i1 j1 k1)∧True)∧
 R (tuple #[agg #[slice f1 g1 h1,slice i1 j1 k1],int .i64 4]) e1) [slice y z a1,slice b1 c1 d1] 0)
 (∃l1 m1 n1 o1 p1 q1,(u.cell? (nb w)=some (slice l1 m1 n1)∧u.cell? ((nb w).add 1)=some (slice o1 p1 q1)∧True)∧
 ∃r1,u.cell? ((nb j).add 1)=some (int .i64 r1)∧
 CP 63 #[agg #[slice l1 m1 n1,slice o1 p1 q1],int .i64 r1] u (fun s1 t1=>
 ∃u1,s1= .returned (bool u1)∧
 ac (!u1)
 (∃v1 x1 y1 z1 a2 b2,(t1.cell? (nb w)=some (slice v1 x1 y1)∧t1.cell? ((nb w).add 1)=some (slice z1 a2 b2)∧True)∧
 aE t1 (nb k) (fun c2=>
 ∃d2 e2 f2 g2 h2 i2,(c2.cell? (nb k)=some (slice d2 e2 f2)∧c2.cell? ((nb k).add 1)=some (slice g2 h2 i2)∧True)∧
 R (tuple #[agg #[slice d2 e2 f2,slice g2 h2 i2],int .i64 4]) c2) [slice v1 x1 y1,slice z1 a2 b2] 0)
 (∀j2,j2=t1.drew→
 ∃k2 l2 m2,j2.cell? ((nb w).add 0)=some (slice k2 l2 m2)∧
 ∃n2,j2.cell? ((nb j).add 0)=some (int .i64 n2)∧
 ah k2 (fun o2=>
 (0:Int)≤n2∧n2< (l2:Int)∧
 ∃p2,j2.cell? (o2.add (n2.toNat*1))=some (string p2)∧
 ∃q2 r2 s2,j2.cell? ((nb w).add 0)=some (slice q2 r2 s2)∧
 ∃t2,j2.cell? ((nb j).add 1)=some (int .i64 t2)∧
 ah q2 (fun u2=>
 (0:Int)≤t2∧t2< (r2:Int)∧
 ∃v2,j2.cell? (u2.add (t2.toNat*1))=some (string v2)∧
 ((p2.size+v2.size:Nat):Int)≤IntKind.i64.max∧
 ac (decide ((((p2++v2:ByteArray).size:Int):Int)>64))
 (∃x2 y2 z2 a3 b3 c3,(j2.cell? (nb w)=some (slice x2 y2 z2)∧j2.cell? ((nb w).add 1)=some (slice a3 b3 c3)∧True)∧
 aE j2 (nb k) (fun d3=>
 ∃e3 f3 g3 h3 i3 j3,(d3.cell? (nb k)=some (slice e3 f3 g3)∧d3.cell? ((nb k).add 1)=some (slice h3 i3 j3)∧True)∧
 R (tuple #[agg #[slice e3 f3 g3,slice h3 i3 j3],int .i64 3]) d3) [slice x2 y2 z2,slice a3 b3 c3] 0)
 (∃k3 l3 m3,j2.cell? ((nb w).add 0)=some (slice k3 l3 m3)∧
 ac (decide ((l3:Int)≥1000))
 (∃n3 o3 p3 q3 r3 s3,(j2.cell? (nb w)=some (slice n3 o3 p3)∧j2.cell? ((nb w).add 1)=some (slice q3 r3 s3)∧True)∧
 aE j2 (nb k) (fun t3=>
 ∃u3 v3 x3 y3 z3 a4,(t3.cell? (nb k)=some (slice u3 v3 x3)∧t3.cell? ((nb k).add 1)=some (slice y3 z3 a4)∧True)∧
 R (tuple #[agg #[slice u3 v3 x3,slice y3 z3 a4],int .i64 5]) t3) [slice n3 o3 p3,slice q3 r3 s3] 0)
 (∃b4 c4 d4 e4 f4 g4,(j2.cell? (nb w)=some (slice b4 c4 d4)∧j2.cell? ((nb w).add 1)=some (slice e4 f4 g4)∧True)∧
 CP 248 #[agg #[slice b4 c4 d4,slice e4 f4 g4],string (p2++v2)] j2 (fun h4 i4=>
 ∃j4,h4= .returned (int .i64 j4)∧
 ac (decide (j4≥0))
 (∃k4 l4 m4 n4 o4 p4,(i4.cell? (nb w)=some (slice k4 l4 m4)∧i4.cell? ((nb w).add 1)=some (slice n4 o4 p4)∧True)∧
 aE i4 (nb k) (fun q4=>
 ∃r4 s4 t4 u4 v4 x4,(q4.cell? (nb k)=some (slice r4 s4 t4)∧q4.cell? ((nb k).add 1)=some (slice u4 v4 x4)∧True)∧
 R (tuple #[agg #[slice r4 s4 t4,slice u4 v4 x4],int .i64 10]) q4) [slice k4 l4 m4,slice n4 o4 p4] 0)
 (∃y4 z4 a5,i4.cell? ((nb w).add 0)=some (slice y4 z4 a5)∧
 ∃b5 c5 d5 e5,(Builtin.append_ #[33,33] 33 #[slice none 0 0,slice y4 z4 a5]).run Tryz.prog i4= .ok (slice b5 c5 d5) e5∧
 ∃f5 g5 h5,e5.cell? ((nb w).add 1)=some (slice f5 g5 h5)∧
 ∃i5 j5 k5 l5,(Builtin.append_ #[34,34] 34 #[slice none 0 0,slice f5 g5 h5]).run Tryz.prog e5= .ok (slice i5 j5 k5) l5∧
 ∀m5,m5=l5.drew→
 ∃n5 o5,(m5.cell? (nb j)=some (int .i64 n5)∧m5.cell? ((nb j).add 1)=some (int .i64 o5)∧True)∧
 (∀p5,p5=m5.alloc (.cells #[string (p2++v2)] 9)→
 (p5.cell? (nb j)=some (int .i64 n5)∧p5.cell? ((nb j).add 1)=some (int .i64 o5)∧True)∧
 (∃q5 r5 s5 t5,(Builtin.append_ #[33,33] 33 #[slice b5 c5 d5,slice (some (nb m5)) 1 1]).run Tryz.prog p5= .ok (slice q5 r5 s5) t5∧
 (t5.cell? (nb j)=some (int .i64 n5)∧t5.cell? ((nb j).add 1)=some (int .i64 o5)∧True)∧
 ∀u5,u5=t5.alloc (.cells #[int .i64 n5,int .i64 o5] 118)→
 ∃v5 x5 y5 z5,(Builtin.append_ #[34,34] 34 #[slice i5 j5 k5,slice (some (nb t5)) 1 1]).run Tryz.prog u5= .ok (slice v5 x5 y5) z5∧
 aE z5 (nb k) (fun a6=>
 ∃b6 c6 d6 e6 f6 g6,(a6.cell? (nb k)=some (slice b6 c6 d6)∧a6.cell? ((nb k).add 1)=some (slice e6 f6 g6)∧True)∧
 R (tuple #[agg #[slice b6 c6 d6,slice e6 f6 g6],int .i64 0]) a6) [slice q5 r5 s5,slice v5 x5 y5] 0)∧
 (∀h6,h6=p5.alloc (.cells #[int .i64 n5,int .i64 o5] 118)→
 ∃i6 j6 k6 l6,(Builtin.append_ #[33,33] 33 #[slice b5 c5 d5,slice (some (nb m5)) 1 1]).run Tryz.prog h6= .ok (slice i6 j6 k6) l6∧
 ∃m6 n6 o6 p6,(Builtin.append_ #[34,34] 34 #[slice i5 j5 k5,slice (some (nb p5)) 1 1]).run Tryz.prog l6= .ok (slice m6 n6 o6) p6∧
 aE p6 (nb k) (fun q6=>
 ∃r6 s6 t6 u6 v6 x6,(q6.cell? (nb k)=some (slice r6 s6 t6)∧q6.cell? ((nb k).add 1)=some (slice u6 v6 x6)∧True)∧
 R (tuple #[agg #[slice r6 s6 t6,slice u6 v6 x6],int .i64 0]) q6) [slice i6 j6 k6,slice m6 n6 o6] 0))∧
 (∀y6,y6=m5.alloc (.cells #[int .i64 n5,int .i64 o5] 118)→
 ∀z6,z6=y6.alloc (.cells #[string (p2++v2)] 9)→
 ∃a7 b7 c7 d7,(Builtin.append_ #[33,33] 33 #[slice b5 c5 d5,slice (some (nb y6)) 1 1]).run Tryz.prog z6= .ok (slice a7 b7 c7) d7∧
 ∃e7 f7 g7 h7,(Builtin.append_ #[34,34] 34 #[slice i5 j5 k5,slice (some (nb m5)) 1 1]).run Tryz.prog d7= .ok (slice e7 f7 g7) h7∧
 aE h7 (nb k) (fun i7=>
 ∃j7 k7 l7 m7 n7 o7,(i7.cell? (nb k)=some (slice j7 k7 l7)∧i7.cell? ((nb k).add 1)=some (slice m7 n7 o7)∧True)∧
 R (tuple #[agg #[slice j7 k7 l7,slice m7 n7 o7],int .i64 0]) i7) [slice a7 b7 c7,slice e7 f7 g7] 0)))))))))))
theorem zx (a:OA) (b c:Nat) (d:OA) (f g:Nat) (h i:Int) (w:World) (R:RW) (hh:Ox a b c d f g h i w R):CR 216 #[agg #[slice a b c,slice d f g],agg #[int .i64 h,int .i64 i]] w R:=
 aF (fn:=Tryz.f216) (by kernel_rfl) (by kernel_rfl) (by kernel_rfl) (by kernel_rfl) (by kernel_rfl) hh
def OD (a:Bool) (b:OA) (c d:Nat) (f:OA) (g h:Nat) (i:OA) (j k:Nat) (l:OA) (m n:Nat) (o:OA) (p q:Nat) (w:World) (R:RW):Prop:=
 ∀r,r=w.alloc (.cells #[bool a,slice b c d,slice f g h,slice i j k,slice l m n,slice o p q] 73)→
 ∀s,s=r.alloc (.cells #[slice none 0 0,slice none 0 0] 36)→
 ∃t,s.cell? ((nb w).add 0)=some (bool t)∧
 ac t
 (∃u x y,s.cell? ((nb w).add 2)=some (slice u x y)∧
 CP 249 #[slice u x y] s (fun z a1=>
 ∃b1 c1 d1 e1 f1 g1 h1 i1,z= .returned (tuple #[agg #[slice b1 c1 d1,slice e1 f1 g1],int .i64 h1,int .i64 i1])∧
 aE a1 (nb r) (fun j1=>
 ∃k1 l1 m1 n1 o1 p1,(j1.cell? (nb r)=some (slice k1 l1 m1)∧j1.cell? ((nb r).add 1)=some (slice n1 o1 p1)∧True)∧
 R (tuple #[agg #[slice k1 l1 m1,slice n1 o1 p1],int .i64 h1,int .i64 i1]) j1) [slice b1 c1 d1,slice e1 f1 g1] 0))
 (∃q1 r1 s1,s.cell? ((nb w).add 1)=some (slice q1 r1 s1)∧
 CP 250 #[slice q1 r1 s1] s (fun t1 u1=>
 ∃v1 x1 y1 z1 a2 b2 c2 d2,t1= .returned (tuple #[agg #[slice v1 x1 y1,slice z1 a2 b2],int .i64 c2,int .i64 d2])∧
 aE u1 (nb r) (fun e2=>
 ∃f2 g2 h2 i2 j2 k2,(e2.cell? (nb r)=some (slice f2 g2 h2)∧e2.cell? ((nb r).add 1)=some (slice i2 j2 k2)∧True)∧
 R (tuple #[agg #[slice f2 g2 h2,slice i2 j2 k2],int .i64 c2,int .i64 d2]) e2) [slice v1 x1 y1,slice z1 a2 b2] 0))
theorem Av (a:Bool) (b:OA) (c d:Nat) (f:OA) (g h:Nat) (i:OA) (j k:Nat) (l:OA) (m n:Nat) (o:OA) (p q:Nat) (w:World) (R:RW) (hh:OD a b c d f g h i j k l m n o p q w R):CR 217 #[agg #[bool a,slice b c d,slice f g h,slice i j k,slice l m n,slice o p q]] w R:=
 aF (fn:=Tryz.f217) (by kernel_rfl) (by kernel_rfl) (by kernel_rfl) (by kernel_rfl) (by kernel_rfl) hh
def Ml (a:OA) (b c:Nat) (d:OA) (f g:Nat) (h:ByteArray) (w:World) (R:RW):Prop:=
 ∀i,i=w.alloc (.cells #[slice a b c,slice d f g] 36)→
 ∀j:KW,(∀(k l:Int) (m:World),(∃n o p,m.cell? ((nb w).add 0)=some (slice n o p)∧
 ac (decide (k< (o:Int)))
 (∃q r s,m.cell? ((nb w).add 0)=some (slice q r s)∧
 ah q (fun t=>
 (0:Int)≤k∧k< (r:Int)∧
 ∃u,m.cell? (t.add (k.toNat*1))=some (string u)∧
 ac (u.toList==h.toList)
 (R (int .i64 k) m)
 (Ar .i64 (k+1) (fun x=>
 j [int .i64 x,int .i64 l] m))))
 (R (int .i64 (-1)) m))→j [int .i64 k,int .i64 l] m)→
 j [int .i64 0,int .i64 0] i
theorem zz (a:OA) (b c:Nat) (d:OA) (f g:Nat) (h:ByteArray) (w:World) (R:RW) (hh:Ml a b c d f g h w R):CR 248 #[agg #[slice a b c,slice d f g],string h] w R:=
 aF (fn:=Tryz.f248) (by kernel_rfl) (by kernel_rfl) (by kernel_rfl) (by kernel_rfl) (by kernel_rfl) hh
def O1 (a:OA) (b c:Nat) (w:World) (R:RW):Prop:=
 ∀d,d=w.alloc (.cells #[slice none 0 0,slice none 0 0] 36)→
 CP 215 #[] d (fun f g=>
 ∃h i j k l m,f= .returned (agg #[slice h i j,slice k l m])∧
 ∀n,n=g.alloc (.cells #[slice none 0 0,slice none 0 0] 36)→
 aE n (nb g) (fun o=>
 ∀p:KW,(∀(q r s:Int) (t:World),(ac (decide (q< (b:Int)))
 (∀u,u=t.drew→
 ∃x y z a1 b1 c1,(u.cell? (nb g)=some (slice x y z)∧u.cell? ((nb g).add 1)=some (slice a1 b1 c1)∧True)∧
 ah a (fun d1=>
 (0:Int)≤q∧q< (b:Int)∧
 ∃e1 f1,(u.cell? (d1.add (q.toNat*2))=some (int .i64 e1)∧u.cell? ((d1.add (q.toNat*2)).add 1)=some (int .i64 f1)∧True)∧
 (CP 216 #[agg #[slice x y z,slice a1 b1 c1],agg #[int .i64 e1,int .i64 f1]] u (fun g1 h1=>
 ∃i1 j1 k1 l1 m1 n1 o1,g1= .returned (tuple #[agg #[slice i1 j1 k1,slice l1 m1 n1],int .i64 o1])∧
 ∀p1,p1=h1.alloc (.cells #[slice none 0 0,slice none 0 0] 36)→
 aE p1 (nb h1) (fun q1=>
 ac (o1 != 0)
 (∃r1 s1 t1 u1 v1 x1,(q1.cell? (nb g)=some (slice r1 s1 t1)∧q1.cell? ((nb g).add 1)=some (slice u1 v1 x1)∧True)∧
 aE q1 (nb w) (fun y1=>
 ∃z1 a2 b2 c2 d2 e2,(y1.cell? (nb w)=some (slice z1 a2 b2)∧y1.cell? ((nb w).add 1)=some (slice c2 d2 e2)∧True)∧
 R (tuple #[agg #[slice z1 a2 b2,slice c2 d2 e2],int .i64 q,int .i64 o1]) y1) [slice r1 s1 t1,slice u1 v1 x1] 0)
 (∃f2 g2 h2 i2 j2 k2,(q1.cell? (nb h1)=some (slice f2 g2 h2)∧q1.cell? ((nb h1).add 1)=some (slice i2 j2 k2)∧True)∧
 aE q1 (nb g) (fun l2=>
 Ar .i64 (q+1) (fun m2=>
 p [int .i64 m2,int .i64 r,int .i64 s] l2)) [slice f2 g2 h2,slice i2 j2 k2] 0)) [slice i1 j1 k1,slice l1 m1 n1] 0))∧
 (∀n2,n2=u.alloc (.cells #[slice none 0 0,slice none 0 0] 36)→
 (n2.cell? (d1.add (q.toNat*2))=some (int .i64 e1)∧n2.cell? ((d1.add (q.toNat*2)).add 1)=some (int .i64 f1)∧True)∧
 (n2.cell? (nb g)=some (slice x y z)∧n2.cell? ((nb g).add 1)=some (slice a1 b1 c1)∧True)∧
 CP 216 #[agg #[slice x y z,slice a1 b1 c1],agg #[int .i64 e1,int .i64 f1]] n2 (fun o2 p2=>
 ∃q2 r2 s2 t2 u2 v2 x2,o2= .returned (tuple #[agg #[slice q2 r2 s2,slice t2 u2 v2],int .i64 x2])∧
 aE p2 (nb u) (fun y2=>
 ac (x2 != 0)
 (∃z2 a3 b3 c3 d3 e3,(y2.cell? (nb g)=some (slice z2 a3 b3)∧y2.cell? ((nb g).add 1)=some (slice c3 d3 e3)∧True)∧
 aE y2 (nb w) (fun f3=>
 ∃g3 h3 i3 j3 k3 l3,(f3.cell? (nb w)=some (slice g3 h3 i3)∧f3.cell? ((nb w).add 1)=some (slice j3 k3 l3)∧True)∧
 R (tuple #[agg #[slice g3 h3 i3,slice j3 k3 l3],int .i64 q,int .i64 x2]) f3) [slice z2 a3 b3,slice c3 d3 e3] 0)
 (∃m3 n3 o3 p3 q3 r3,(y2.cell? (nb u)=some (slice m3 n3 o3)∧y2.cell? ((nb u).add 1)=some (slice p3 q3 r3)∧True)∧
 aE y2 (nb g) (fun s3=>
 Ar .i64 (q+1) (fun t3=>
 p [int .i64 t3,int .i64 r,int .i64 s] s3)) [slice m3 n3 o3,slice p3 q3 r3] 0)) [slice q2 r2 s2,slice t2 u2 v2] 0))))
 (∃u3 v3 x3 y3 z3 a4,(t.cell? (nb g)=some (slice u3 v3 x3)∧t.cell? ((nb g).add 1)=some (slice y3 z3 a4)∧True)∧
 aE t (nb w) (fun b4=>
 ∃c4 d4 e4 f4 g4 h4,(b4.cell? (nb w)=some (slice c4 d4 e4)∧b4.cell? ((nb w).add 1)=some (slice f4 g4 h4)∧True)∧
 R (tuple #[agg #[slice c4 d4 e4,slice f4 g4 h4],int .i64 (b:Int),int .i64 0]) b4) [slice u3 v3 x3,slice y3 z3 a4] 0))→p [int .i64 q,int .i64 r,int .i64 s] t)→
 p [int .i64 0,int .i64 0,int .i64 0] o) [slice h i j,slice k l m] 0)
theorem yk (a:OA) (b c:Nat) (w:World) (R:RW) (hh:O1 a b c w R):CR 250 #[slice a b c] w R:=
 aF (fn:=Tryz.f250) (by kernel_rfl) (by kernel_rfl) (by kernel_rfl) (by kernel_rfl) (by kernel_rfl) hh
end Go.Proofs.YtdlcfegnaphclaaGreat.Eng
