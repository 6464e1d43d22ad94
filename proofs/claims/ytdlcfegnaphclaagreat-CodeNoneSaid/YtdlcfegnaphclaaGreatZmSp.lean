/- Two tokens side by side: the walk along their spines, walked by the engine. -/
import Derived.Test.YtdlcfegnaphclaaGreatZmPf
import Derived.Test.YtdlcfegnaphclaaGreatZmBd
import Derived.Test.YtdlcfegnaphclaaGreatZmTab
set_option linter.unusedVariables false
set_option linter.unusedSimpArgs false
set_option maxRecDepth 100000
namespace Go.Proofs.YtdlcfegnaphclaaGreat.Eng
open Go Go.RowKit
abbrev Gs:TypeId:=365
def di (w:World) (p tp:Nat) (a b limit steps:Int):Prop:=w.heap[p]? =some (.cells #[.int .i64 a,.int .i64 b,.pointer (some ⟨tp,0,none⟩),.int .i64 limit,.int .i64 steps] Gs (0,0))
theorem di.on {w w':World} {p tp:Nat} {a b limit steps:Int} (h:di w p tp a b limit steps) (hb:Below w.heap.size w w'):di w' p tp a b limit steps:=ai hb h
def cn (T:List aQ) (a:Int):Bool:=decide (br T a∧a_ T a≠(-1, -1))
theorem qB (w:World) (B p tp:Nat) (T:List aQ) (a b limit steps:Int) (hT:cI w tp T) (h:di w p tp a b limit steps) (hB:B≤p) (hs:0≤steps∧steps≤1000000) (hab: -1000000≤b∧b≤1000000):
  CP 276 #[.pointer (some ⟨p,0,none⟩)] w fun e w'=>e= .returned (.bool (cn T a))∧(if cn T a=true then di w' p tp (a_ T a).2 b a (steps+1)else di w' p tp a b limit steps)∧aq p w w':=by
 refine aN (vB (some ⟨p,0,none⟩) w (fun v w'=>v= .bool (cn T a)∧(if cn T a=true then di w' p tp (a_ T a).2 b a (steps+1)else di w' p tp a b limit steps)∧aq p w w') ?_) (by rintro v w' ⟨rfl,h⟩;exact⟨rfl,h⟩);intro w1 hw1;have hb1:Below w.heap.size w w1:=by subst hw1;exact aP w
 have h1:=h.on hb1;have hpl:p<w.heap.size:=(Array.getElem?_eq_some_iff.1 h).1;have rest:∀(x y:Int) (r1:Bool) (loc:Nat) (wq:World),r1=cn T a→(r1=true→y=(a_ T a).2)→loc≠p→di wq p tp a b limit steps→wq.heap[loc]? =some (.cells #[.int .i64 x,.int .i64 y] xa (0,0))→aq p w wq→
   ∀J:List Value→World→Prop,(∀w5:World,(Value.bool r1= .bool (cn T a)∧(if cn T a=true then di w5 p tp (a_ T a).2 b a (steps+1)else di w5 p tp a b limit steps)∧aq p w w5)→J [] w5)→
   ac r1
    (∀w6:World,w6=wq.drew→
     ag (some ⟨p,0,none⟩) (fun pa_3=>
     ∃n_4:Int,w6.cell? (((pa_3.add 0).add 0).add 0)=some (Value.int .i64 n_4)∧
     ∃n_6:Int,w6.cell? ((⟨loc,0,none⟩:Addr).add 1)=some (Value.int .i64 n_6)∧
     ag (some ⟨p,0,none⟩) (fun pa_6=>
     (Value.int .i64 n_4).oneCell'=true∧(∃u,w6.cell? (pa_6.add 3)=some u)∧w6.frozen? (pa_6.add 3)=false∧
     ∀w7:World,w7=(w6.setCell (pa_6.add 3) (Value.int .i64 n_4))→
     (w7.cell? ((⟨loc,0,none⟩:Addr).add 1)=some (Value.int .i64 n_6)∧True)∧
     ag (some ⟨p,0,none⟩) (fun pa_7=>
     (Value.int .i64 n_6).oneCell'=true∧(∃u,w7.cell? (((pa_7.add 0).add 0).add 0)=some u)∧w7.frozen? (((pa_7.add 0).add 0).add 0)=false∧
     ∀w8:World,w8=(w7.setCell (((pa_7.add 0).add 0).add 0) (Value.int .i64 n_6))→
     ag (some ⟨p,0,none⟩) (fun pa_8=>
     ∃n_9:Int,w8.cell? (pa_8.add 4)=some (Value.int .i64 n_9)∧
     Ar .i64 ((n_9:Int)+1) (fun n_10=>
     ag (some ⟨p,0,none⟩) (fun pa_11=>
     (Value.int .i64 n_10).oneCell'=true∧(∃u,w8.cell? (pa_11.add 4)=some u)∧w8.frozen? (pa_11.add 4)=false∧
     ∀w9:World,w9=(w8.setCell (pa_11.add 4) (Value.int .i64 n_10))→
     J [] w9)))))))
    (J [] wq):=by
  intro x y r1 loc wq hr hy hloc hwq hlq htq J hJ;refine ac.mk (fun h0=>?_) fun h0=>?_
  ·intro w6 hw6;have h6:di w6 p tp a b limit steps:=by subst hw6;exact hwq
   have l6:w6.heap[loc]? =some (.cells #[.int .i64 x,.int .i64 y] xa (0,0)):=by subst hw6;exact hlq
   have t6:aq p w w6:=by subst hw6;exact htq.trans (aq.of_below (aP _))
   have c6:∀j,w6.cell? ⟨p,j,none⟩=_:=fun j=>aH h6;simp only [az,Nat.zero_add,Nat.add_zero];refine ag.mk _ rfl ⟨a,c6 0,⟨y,aH l6,ag.mk _ rfl ⟨rfl,⟨_,c6 3⟩,aZ h6,?_⟩⟩⟩;intro w7 hw7;have h7:di w7 p tp a b a steps:=by subst hw7;exact bj h6 _
   have s7:∀k,k≠p→w7.heap[k]? =w6.heap[k]? :=fun k hk=>by subst hw7;exact ap hk
   have t7:aq p w w7:=t6.trans (by subst hw7;exact⟨rfl,rfl,rfl,by rw [aL];exact Nat.le_refl _,fun k _ hk=>ap hk⟩);have c7:∀j,w7.cell? ⟨p,j,none⟩=_:=fun j=>aH h7;refine⟨⟨aH (by rw [s7 loc hloc];exact l6),trivial⟩,ag.mk _ rfl ⟨rfl,⟨_,c7 0⟩,aZ h7,?_⟩⟩;intro w8 hw8;have h8:di w8 p tp y b a steps:=by subst hw8;exact bj h7 _
   have t8:aq p w w8:=t7.trans (by subst hw8;exact⟨rfl,rfl,rfl,by rw [aL];exact Nat.le_refl _,fun k _ hk=>ap hk⟩);have c8:∀j,w8.cell? ⟨p,j,none⟩=_:=fun j=>aH h8;refine ag.mk _ rfl ⟨steps,c8 4,Ar.ok64 (by omega) (by omega) (ag.mk _ rfl ⟨rfl,⟨_,c8 4⟩,aZ h8,?_⟩)⟩;intro w9 hw9;have h9:di w9 p tp y b a (steps+1):=by subst hw9;exact bj h8 _
   have t9:aq p w w9:=t8.trans (by subst hw9;exact⟨rfl,rfl,rfl,by rw [aL];exact Nat.le_refl _,fun k _ hk=>ap hk⟩);refine hJ w9 ⟨by rw [hr],?_,t9⟩;rw [if_pos (by rw [←hr];exact h0), ←hy h0];exact h9
  ·refine hJ wq ⟨by rw [hr],?_,htq⟩;rw [if_neg (by rw [←hr,h0];simp)];exact hwq
 have c1:∀j,w1.cell? ⟨p,j,none⟩=_:=fun j=>aH h1;have hpar:∃(x y:Int),vU T a= .tuple #[.agg #[.int .i64 x,.int .i64 y],.bool (cn T a)]∧(cn T a=true→y=(a_ T a).2):=by
  unfold vU cn;by_cases hc:br T a∧a_ T a≠(-1, -1)
  ·rw [if_pos hc,decide_eq_true hc];exact⟨_,_,rfl,fun _=>rfl⟩
  ·rw [if_neg hc,decide_eq_false hc];exact⟨0,0,rfl,fun h=>by cases h⟩
 obtain⟨x,y,hxy,hxy2⟩:=hpar;refine ag.mk _ rfl ⟨some ⟨tp,0,none⟩,by simp only [az,Nat.zero_add];exact c1 2,ag.mk _ rfl ⟨a,by simp only [az,Nat.zero_add,Nat.add_zero];exact c1 0,?_,?_⟩⟩
 ·refine(dV w1 tp T (hT.on hb1) a).mono ?_;rintro e w2 ⟨rfl,hb2⟩;rw [hxy];refine⟨x,y,_,rfl,?_⟩;intro w3 hw3;refine bK [.int .i64 0,.int .i64 0] [.int .i64 x,.int .i64 y] rfl (cC _ _) w3 hw3 ?_;intro w4 h4 hz4 hB4;have hb14:=ae hb1 (ae hb2 hB4);have hz2:=(ae hb1 hb2).size;intro J hJ;exact rest x y _ w2.heap.size w4 rfl hxy2 (by omega) (h1.on (ae hb2 hB4)) h4 (aq.of_below hb14) J hJ
 ·intro w10 hw10;have hb10:Below w1.heap.size w1 w10:=by subst hw10;exact ah _ _
  have h10:=h1.on hb10;have l10:w10.heap[w1.heap.size]? =some (.cells #[Value.int .i64 0,Value.int .i64 0] xa (0,0)):=by subst hw10;exact ao _ _
  have c10:∀j,w10.cell? ⟨p,j,none⟩=_:=fun j=>aH h10;refine⟨⟨by simp only [az,Nat.zero_add,Nat.add_zero];exact c10 0,trivial⟩,⟨by simp only [az,Nat.zero_add];exact c10 2,trivial⟩,?_⟩;refine(dV w10 tp T ((hT.on hb1).on hb10) a).mono ?_;rintro e w11 ⟨rfl,hb11⟩;rw [hxy];refine⟨x,y,_,rfl,?_⟩;have hz1:=hb1.size;refine cw (ai hb11 l10) [.int .i64 x,.int .i64 y] rfl (cC _ _) ?_;intro w12 h12 hs12 hz12 hB12;have h12':di w12 p tp a b limit steps:=by
   unfold di;rw [hs12 p (by omega)];exact h10.on hb11
  have hb112:Below w1.heap.size w1 w12:=hB12 _ _ (Nat.le_refl _) (ae hb10 hb11);intro J hJ;exact rest x y _ w1.heap.size w12 rfl hxy2 (by omega) h12' h12 (aq.of_below (ae hb1 hb112)) J hJ
theorem pz (w:World) (B p tp:Nat) (T:List aQ) (a b limit steps:Int) (hT:cI w tp T) (h:di w p tp a b limit steps) (hB:B≤p) (hs:0≤steps∧steps≤1000000) (hab: -1000000≤b∧b≤1000000):
  CP 277 #[.pointer (some ⟨p,0,none⟩)] w fun e w'=>e= .returned (.bool (cn T b))∧(if cn T b=true then di w' p tp a (a_ T b).1 (b+1) (steps+1)else di w' p tp a b limit steps)∧aq p w w':=by
 refine aN (uT (some ⟨p,0,none⟩) w (fun v w'=>v= .bool (cn T b)∧(if cn T b=true then di w' p tp a (a_ T b).1 (b+1) (steps+1)else di w' p tp a b limit steps)∧aq p w w') ?_) (by rintro v w' ⟨rfl,h⟩;exact⟨rfl,h⟩);intro w1 hw1;have hb1:Below w.heap.size w w1:=by subst hw1;exact aP w
 have h1:=h.on hb1;have hpl:p<w.heap.size:=(Array.getElem?_eq_some_iff.1 h).1;have rest:∀(x y:Int) (r1:Bool) (loc:Nat) (wq:World),r1=cn T b→(r1=true→x=(a_ T b).1)→loc≠p→di wq p tp a b limit steps→wq.heap[loc]? =some (.cells #[.int .i64 x,.int .i64 y] xa (0,0))→aq p w wq→
   ∀J:List Value→World→Prop,(∀w5:World,(Value.bool r1= .bool (cn T b)∧(if cn T b=true then di w5 p tp a (a_ T b).1 (b+1) (steps+1)else di w5 p tp a b limit steps)∧aq p w w5)→J [] w5)→
   ac r1
    (∀w6:World,w6=wq.drew→
     ag (some ⟨p,0,none⟩) (fun pa_3=>
     ∃n_4:Int,w6.cell? (((pa_3.add 0).add 0).add 1)=some (Value.int .i64 n_4)∧
     Ar .i64 ((n_4:Int)+1) (fun n_5=>
     ∃n_6:Int,w6.cell? ((⟨loc,0,none⟩:Addr).add 0)=some (Value.int .i64 n_6)∧
     ag (some ⟨p,0,none⟩) (fun pa_6=>
     (Value.int .i64 n_5).oneCell'=true∧(∃u,w6.cell? (pa_6.add 3)=some u)∧w6.frozen? (pa_6.add 3)=false∧
     ∀w7:World,w7=(w6.setCell (pa_6.add 3) (Value.int .i64 n_5))→
     (w7.cell? ((⟨loc,0,none⟩:Addr).add 0)=some (Value.int .i64 n_6)∧True)∧
     ag (some ⟨p,0,none⟩) (fun pa_7=>
     (Value.int .i64 n_6).oneCell'=true∧(∃u,w7.cell? (((pa_7.add 0).add 0).add 1)=some u)∧w7.frozen? (((pa_7.add 0).add 0).add 1)=false∧
     ∀w8:World,w8=(w7.setCell (((pa_7.add 0).add 0).add 1) (Value.int .i64 n_6))→
     ag (some ⟨p,0,none⟩) (fun pa_8=>
     ∃n_9:Int,w8.cell? (pa_8.add 4)=some (Value.int .i64 n_9)∧
     Ar .i64 ((n_9:Int)+1) (fun n_10=>
     ag (some ⟨p,0,none⟩) (fun pa_11=>
     (Value.int .i64 n_10).oneCell'=true∧(∃u,w8.cell? (pa_11.add 4)=some u)∧w8.frozen? (pa_11.add 4)=false∧
     ∀w9:World,w9=(w8.setCell (pa_11.add 4) (Value.int .i64 n_10))→
     J [] w9))))))))
    (J [] wq):=by
  intro x y r1 loc wq hr hy hloc hwq hlq htq J hJ;refine ac.mk (fun h0=>?_) fun h0=>?_
  ·intro w6 hw6;have h6:di w6 p tp a b limit steps:=by subst hw6;exact hwq
   have l6:w6.heap[loc]? =some (.cells #[.int .i64 x,.int .i64 y] xa (0,0)):=by subst hw6;exact hlq
   have t6:aq p w w6:=by subst hw6;exact htq.trans (aq.of_below (aP _))
   have c6:∀j,w6.cell? ⟨p,j,none⟩=_:=fun j=>aH h6;simp only [az,Nat.zero_add,Nat.add_zero];refine ag.mk _ rfl ⟨b,c6 1,Ar.ok64 (by omega) (by omega) ⟨x,aH l6,ag.mk _ rfl ⟨rfl,⟨_,c6 3⟩,aZ h6,?_⟩⟩⟩;intro w7 hw7;have h7:di w7 p tp a b (b+1) steps:=by subst hw7;exact bj h6 _
   have s7:∀k,k≠p→w7.heap[k]? =w6.heap[k]? :=fun k hk=>by subst hw7;exact ap hk
   have t7:aq p w w7:=t6.trans (by subst hw7;exact⟨rfl,rfl,rfl,by rw [aL];exact Nat.le_refl _,fun k _ hk=>ap hk⟩);have c7:∀j,w7.cell? ⟨p,j,none⟩=_:=fun j=>aH h7;refine⟨⟨aH (by rw [s7 loc hloc];exact l6),trivial⟩,ag.mk _ rfl ⟨rfl,⟨_,c7 1⟩,aZ h7,?_⟩⟩;intro w8 hw8;have h8:di w8 p tp a x (b+1) steps:=by subst hw8;exact bj h7 _
   have t8:aq p w w8:=t7.trans (by subst hw8;exact⟨rfl,rfl,rfl,by rw [aL];exact Nat.le_refl _,fun k _ hk=>ap hk⟩);have c8:∀j,w8.cell? ⟨p,j,none⟩=_:=fun j=>aH h8;refine ag.mk _ rfl ⟨steps,c8 4,Ar.ok64 (by omega) (by omega) (ag.mk _ rfl ⟨rfl,⟨_,c8 4⟩,aZ h8,?_⟩)⟩;intro w9 hw9;have h9:di w9 p tp a x (b+1) (steps+1):=by subst hw9;exact bj h8 _
   have t9:aq p w w9:=t8.trans (by subst hw9;exact⟨rfl,rfl,rfl,by rw [aL];exact Nat.le_refl _,fun k _ hk=>ap hk⟩);refine hJ w9 ⟨by rw [hr],?_,t9⟩;rw [if_pos (by rw [←hr];exact h0), ←hy h0];exact h9
  ·refine hJ wq ⟨by rw [hr],?_,htq⟩;rw [if_neg (by rw [←hr,h0];simp)];exact hwq
 have c1:∀j,w1.cell? ⟨p,j,none⟩=_:=fun j=>aH h1;have hpar:∃(x y:Int),vU T b= .tuple #[.agg #[.int .i64 x,.int .i64 y],.bool (cn T b)]∧(cn T b=true→x=(a_ T b).1):=by
  unfold vU cn;by_cases hc:br T b∧a_ T b≠(-1, -1)
  ·rw [if_pos hc,decide_eq_true hc];exact⟨_,_,rfl,fun _=>rfl⟩
  ·rw [if_neg hc,decide_eq_false hc];exact⟨0,0,rfl,fun h=>by cases h⟩
 obtain⟨x,y,hxy,hxy2⟩:=hpar;refine ag.mk _ rfl ⟨some ⟨tp,0,none⟩,by simp only [az,Nat.zero_add];exact c1 2,ag.mk _ rfl ⟨b,by simp only [az,Nat.zero_add,Nat.add_zero];exact c1 1,?_,?_⟩⟩
 ·refine(dV w1 tp T (hT.on hb1) b).mono ?_;rintro e w2 ⟨rfl,hb2⟩;rw [hxy];refine⟨x,y,_,rfl,?_⟩;intro w3 hw3;refine bK [.int .i64 0,.int .i64 0] [.int .i64 x,.int .i64 y] rfl (cC _ _) w3 hw3 ?_;intro w4 h4 hz4 hB4;have hb14:=ae hb1 (ae hb2 hB4);have hz2:=(ae hb1 hb2).size;intro J hJ;exact rest x y _ w2.heap.size w4 rfl hxy2 (by omega) (h1.on (ae hb2 hB4)) h4 (aq.of_below hb14) J hJ
 ·intro w10 hw10;have hb10:Below w1.heap.size w1 w10:=by subst hw10;exact ah _ _
  have h10:=h1.on hb10;have l10:w10.heap[w1.heap.size]? =some (.cells #[Value.int .i64 0,Value.int .i64 0] xa (0,0)):=by subst hw10;exact ao _ _
  have c10:∀j,w10.cell? ⟨p,j,none⟩=_:=fun j=>aH h10;refine⟨⟨by simp only [az,Nat.zero_add,Nat.add_zero];exact c10 1,trivial⟩,⟨by simp only [az,Nat.zero_add];exact c10 2,trivial⟩,?_⟩;refine(dV w10 tp T ((hT.on hb1).on hb10) b).mono ?_;rintro e w11 ⟨rfl,hb11⟩;rw [hxy];refine⟨x,y,_,rfl,?_⟩;have hz1:=hb1.size;refine cw (ai hb11 l10) [.int .i64 x,.int .i64 y] rfl (cC _ _) ?_;intro w12 h12 hs12 hz12 hB12;have h12':di w12 p tp a b limit steps:=by
   unfold di;rw [hs12 p (by omega)];exact h10.on hb11
  have hb112:Below w1.heap.size w1 w12:=hB12 _ _ (Nat.le_refl _) (ae hb10 hb11);intro J hJ;exact rest x y _ w1.heap.size w12 rfl hxy2 (by omega) h12' h12 (aq.of_below (ae hb1 hb112)) J hJ
def sJ (T:List aQ) (t:Int):List Int:=cH (aY T t)
theorem dl {T:List aQ} (h:iW T):(av T).length+256=T.length:=by
 have:=h.len;simp [av];omega
theorem zl {T:List aQ} (h:iW T) {i:Nat} (hi:i<256):T[i]? =some (cr i):=by
 have h1:(T.take 256)[i]? =T[i]? :=List.getElem?_take_of_lt hi;rw [←h1,h.low];simp [aF,hi]
theorem mr {T:List aQ} (h:iW T) {i:Nat} (hi:i<256):aY T (i:Int)= [UInt8.ofNat i]:=by
 simp [aY,zl h hi,cr]
theorem BG {T:List aQ} (h:iW T) {k:Nat} {m:Int×Int} (hm:(av T)[k]? =some m):∃e,T[256+k]? =some e∧e.2=m:=by
 simp only [av,List.getElem?_map,List.getElem?_drop]at hm;obtain⟨e,he,rfl⟩:=Option.map_eq_some_iff.1 hm;exact⟨e,he,rfl⟩
theorem xB {T:List aQ} (h:iW T) {k:Nat} {m:Int×Int} (hm:(av T)[k]? =some m):aY T ((256:Int)+(k:Nat))=aY T m.1++aY T m.2:=by
 obtain⟨e,he,rfl⟩:=BG h hm;obtain⟨_,_,hs⟩:=h.step (256+k) e he (by omega);rw [←hs];unfold aY;rw [show((256:Int)+(k:Nat)).toNat=256+k by omega,he];rfl
theorem vh {T:List aQ} (h:iW T):∀(n i:Nat),i≤n→i<T.length→aY T (i:Int)≠ []:=by
 intro n;induction n with
 |zero=>
  intro i hi hl;rw [mr h (by omega)];simp
 |succ n ih=>
  intro i hi hl;by_cases h256:i<256
  ·rw [mr h h256];simp
  ·obtain⟨h1,h2,h3⟩:=h.step i _ (List.getElem?_eq_getElem hl) (by omega);have:aY T (i:Int)=T[i].1:=by simp [aY,hl]
   rw [this,h3];have:=ih T[i].2.1.toNat (by omega) (by omega);rw [show((T[i].2.1.toNat:Nat):Int)=T[i].2.1 by omega]at this;simp [this]
theorem tF (a b:Bs):cH (a++b)=cH a++cH b:=by simp [cH]
theorem ze {T:List aQ} (h:iW T):gP (av T) (sJ T):=by
 have ml:=dl h;refine⟨⟨fun t h0 h1=>?_,fun k m hm=>?_,h.sound,fun k m hm=>?_⟩,fun i m hm=>⟨(en h hm).1.1,(en h hm).2.1⟩⟩
 ·obtain⟨i,rfl⟩:∃i:Nat,t=i:=⟨t.toNat,by omega⟩;have hi:i<256:=by omega
  unfold sJ;rw [mr h hi];simp [cH];omega
 ·unfold sJ;rw [xB h hm,tF]
 ·obtain⟨h1,h2⟩:=en h hm;have hk:=(List.getElem?_eq_some_iff.1 hm).1;have n1:=vh h m.1.toNat m.1.toNat (Nat.le_refl _) (by omega);have n2:=vh h m.2.toNat m.2.toNat (Nat.le_refl _) (by omega);rw [show((m.1.toNat:Nat):Int)=m.1 by omega]at n1;rw [show((m.2.toNat:Nat):Int)=m.2 by omega]at n2;exact⟨by simpa [sJ,cH]using n1,by simpa [sJ,cH]using n2⟩
def aI (s:au) (T:List aQ):Voc:=⟨av T,sJ T,cutB s.classes s.joins,s.specials.map (·.1)⟩
theorem lY {w:World} {s:au} {T:List aQ} {x:ct} {tp bp mp:Nat} (h:ce w s T x tp bp mp):(aI s T).Ok:=by
 have ml:=dl h.ok;refine⟨ze h.ok,h.nodup,fun t ht=>?_⟩;obtain⟨y,hy,rfl⟩:=List.mem_map.1 ht;have:=h.ids y hy;show 256+((av T).length:Int)≤y.1;omega
theorem gM {T:List aQ} (h:iW T) (t:Int):br T t↔lL (av T) t:=by
 have ml:=dl h;unfold br lL;omega
theorem sv {T:List aQ} (h:iW T) (s:Bs):eK T s=after (av T) (av T).length (cH s):=by
 have ml:=dl h;unfold eK pr after;rw [show((T.length:Int)-256).toNat=(av T).length by omega]
theorem jN {cut:Int→Int→Bool}:∀l:List Int,du cut l↔∀(j:Nat) (x y:Int),l[j]? =some x→l[j+1]? =some y→cut x y=false
 | []=>by simp [du]
 | [x]=>by simp [du]
 |x::y::r=>by
  simp only [du,jN (y::r)];constructor
  ·rintro⟨h1,h2⟩ j a b ha hb;cases j with
   |zero=>
    simp at ha hb;rw [←ha, ←hb];exact h1
   |succ j=>exact h2 j a b (by simpa using ha) (by simpa using hb)
  ·intro h;exact⟨h 0 x y rfl rfl,fun j a b ha hb=>h (j+1) a b (by simpa using ha) (by simpa using hb)⟩
theorem rJ {cut:Int→Int→Bool} {l:List Int} (hl:l≠ []):(chop cut l).length≤1↔du cut l:=by
 constructor
 ·intro h;obtain⟨h1,h2⟩:=iE (cut:=cut) l
  match hc:chop cut l with
  | []=>rw [hc]at h2;exact absurd h2.symm hl
  | [p]=>
   rw [hc]at h1 h2;simp at h2;subst h2;exact h1.2
  |p::q::r=>rw [hc]at h;simp at h
 ·intro h;have:=je (cut:=cut) [l] ⟨hl,h⟩;simp at this;rw [this];simp
theorem uF {c c':Int→Int→Bool} {l:List Int} (h:∀x∈l,∀y∈l,c x y=c' x y):du c l↔du c' l:=by
 rw [jN,jN];constructor
 ·intro k j x y hx hy;rw [←h x (List.mem_of_getElem? hx) y (List.mem_of_getElem? hy)];exact k j x y hx hy
 ·intro k j x y hx hy;rw [h x (List.mem_of_getElem? hx) y (List.mem_of_getElem? hy)];exact k j x y hx hy
theorem we (cut:Int→Int→Bool) (b:Bs):kr cut b=true↔du cut (cH b):=by
 unfold kr;rw [decide_eq_true_eq,jN];have hget:∀j:Nat,(cH b)[j]? =(b[j]?).map fun z:UInt8=>(z.toNat:Int):=fun j=>by simp [cH]
 constructor
 ·intro h j x y hx hy;rw [hget]at hx hy;obtain⟨u,hu,rfl⟩:=Option.map_eq_some_iff.1 hx;obtain⟨v,hv,rfl⟩:=Option.map_eq_some_iff.1 hy;have hl:=(List.getElem?_eq_some_iff.1 hv).1;have:=h (j+1) hl;unfold eD at this;rw [if_neg (by omega),Nat.add_sub_cancel,hu,hv]at this;simpa using this
 ·intro h j hj;unfold eD;rw [if_neg (by omega)];cases j with
  |zero=>split<;>simp
  |succ j=>
   rw [Nat.add_sub_cancel,List.getElem?_eq_getElem hj,List.getElem?_eq_getElem (show j<b.length by omega)];have:=h j (b[j].toNat) (b[j+1].toNat) (by rw [hget,List.getElem?_eq_getElem (show j<b.length by omega)];rfl) (by rw [hget,List.getElem?_eq_getElem hj];rfl);simp [this]
theorem qT (b:Bs):∀x∈cH b,0≤x∧x<256:=by
 intro x hx;obtain⟨y,_,rfl⟩:=List.mem_map.1 hx;have:=y.toNat_lt;omega
theorem pP (V:Voc) {x y:Int} (hx:0≤x) (hy:0≤y):V.cut x y=V.cutB x y:=by
 unfold Voc.cut;rw [decide_eq_false (by omega),decide_eq_false (by omega)];rfl
theorem yW {w:World} {s:au} {T:List aQ} {x:ct} {tp bp mp:Nat} (h:ce w s T x tp bp mp) {i:Nat} (hi:br T (i:Int)):fI s T i=true↔(aI s T).Canon [(i:Int)]:=by
 have hT:=(gM h.ok _).1 hi;have hok:=lY h;rw [Voc.alone_iff hok (V:=aI s T) hT];have hne:sJ T (i:Int)≠ []:=(hok.good.bytes hT).2;have hch:(chop (aI s T).cut ((aI s T).ex (i:Int))).length≤1↔kr (cutB s.classes s.joins) (aY T (i:Int))=true:=by
  show(chop (aI s T).cut (sJ T (i:Int))).length≤1↔_;rw [rJ hne,we];exact uF fun x hx y hy=>pP _ (qT _ x hx).1 (qT _ y hy).1
 rw [hch];unfold fI bX;rw [Bool.and_eq_true,decide_eq_true_eq,sv h.ok];exact Iff.rfl
theorem E0 {w:World} {s:au} {T:List aQ} {x:ct} {tp bp mp:Nat} (h:ce w s T x tp bp mp) (t:Int):fK s T t=true↔(aI s T).Has t:=by
 unfold fK Voc.Has;rw [decide_eq_true_eq,gM h.ok];exact Or.comm
theorem gp {w:World} {s:au} {T:List aQ} {x:ct} {tp bp mp:Nat} (h:ce w s T x tp bp mp) {t:Int} (ht:(aI s T).Has t):fB s T t=true↔(aI s T).Canon [t]:=by
 have hok:=lY h;unfold fB;rcases ht with ht |ht
 ·have hin:=(gM h.ok t).2 ht;have hn:t∉s.specials.map (·.1):=fun hm=>by
   have h1:256+((av T).length:Int)≤t:=hok.above t hm;have h2:t<256+(((av T).length:Nat):Int):=ht.2;omega
  rw [decide_eq_false hn,decide_eq_true hin];have:=yW h (i:=t.toNat) (by rw [show((t.toNat:Nat):Int)=t by have:=hin.1;omega];exact hin);rw [show((t.toNat:Nat):Int)=t by have:=hin.1;omega]at this;simpa using this
 ·have hm:t∈s.specials.map (·.1):=ht;rw [decide_eq_true hm];simp only [Bool.true_or,true_iff];exact Voc.alone_special hok ht
theorem pG {T:List aQ} (h:iW T) {a:Int} (ha:br T a):cn T a=true↔256≤a:=by
 unfold cn;rw [decide_eq_true_eq];have hlt:a.toNat<T.length:=by have:=ha.1;have:=ha.2;omega
 constructor
 ·rintro⟨_,h2⟩;rcases Int.lt_or_le a 256 with h' |h'
  ·exfalso;apply h2;have hl:a.toNat<256:=by have:=ha.1;omega
   simp [a_,zl h hl,cr]
  ·exact h'
 ·intro h256;refine⟨ha,fun e=>?_⟩;obtain⟨h1,_,_⟩:=h.step a.toNat _ (List.getElem?_eq_getElem hlt) (by omega);simp only [a_,List.getElem?_eq_getElem hlt,Option.map_some,Option.getD_some]at e;rw [e]at h1;simp at h1
theorem ka {T:List aQ} (h:iW T) {a:Int} (ha:br T a) (h256:256≤a):∃j:Nat,a=256+(j:Int)∧(av T)[j]? =some (a_ T a):=by
 have hlt:a.toNat<T.length:=by have:=ha.1;have:=ha.2;omega
 refine⟨a.toNat-256,by omega,?_⟩;simp only [av,List.getElem?_map,List.getElem?_drop];rw [show 256+(a.toNat-256)=a.toNat by omega,List.getElem?_eq_getElem hlt];simp [a_,hlt]
def im (T:List aQ) (a b limit:Int):Bool:=match(av T).idxOf? (a,b)with
 |some i=>decide (((256+i:Nat):Int) <limit)
 |none=>false
theorem r8 (w:World) (p tp:Nat) (T:List aQ) (a b limit steps:Int) (hT:cI w tp T) (h:di w p tp a b limit steps):
  CP 259 #[.pointer (some ⟨p,0,none⟩)] w fun e w'=>e= .returned (.bool (im T a b limit))∧Below w.heap.size w w':=by
 refine aJ (wF (some ⟨p,0,none⟩) w) ?_;intro w1 hw1;have hb1:Below w.heap.size w w1:=by subst hw1;exact aP w
 have h1:=h.on hb1;have c1:∀j,w1.cell? ⟨p,j,none⟩=_:=fun j=>aH h1;refine ag.mk _ rfl ⟨_,by simp only [az,Nat.zero_add];exact c1 2,ag.mk _ rfl ⟨a,by simp only [az,Nat.zero_add,Nat.add_zero];exact c1 0,ag.mk _ rfl ⟨b,by simp only [az,Nat.zero_add,Nat.add_zero];exact c1 1,?_⟩⟩⟩;refine(lm w1 tp T (hT.on hb1) a b).mono ?_;rintro e w2 ⟨rfl,hb2⟩;have c2:∀j,w2.cell? ⟨p,j,none⟩=_:=fun j=>aH (h1.on hb2);have hb:=ae hb1 hb2;unfold im;cases hx:(av T).idxOf? (a,b)with
 |none=>exact⟨_,_,rfl,ac.no rfl ⟨rfl,hb⟩⟩
 |some i=>exact⟨_,_,rfl,ac.yes rfl (ag.mk _ rfl ⟨limit,by simp only [az,Nat.zero_add];exact c2 3,rfl,hb⟩)⟩
theorem xD (w:World) (B p tp:Nat) (T:List aQ) (a b limit steps:Int) (hT:cI w tp T) (hok:iW T) (ht:∀w',aq p w w'→cI w' tp T) (h:di w p tp a b limit steps) (hB:B≤p) (hs:0≤steps∧steps≤1000000) (ha:br T a) (hb:br T b):
  CP 260 #[.pointer (some ⟨p,0,none⟩)] w fun e w'=>∃r:Bool,e= .returned (.bool r)∧aq p w w'∧((r=true∧b<a∧256≤a∧di w' p tp (a_ T a).2 b a (steps+1))∨(r=true∧a≤b∧256≤b∧di w' p tp a (a_ T b).1 (b+1) (steps+1))∨(r=false∧a<256∧b<256∧di w' p tp a b limit steps)):=by
 refine aJ (wB (some ⟨p,0,none⟩) w) ?_;intro w1 hw1;have hb1:Below w.heap.size w w1:=by subst hw1;exact aP w
 have h1:=h.on hb1;have t1:aq p w w1:=aq.of_below hb1;have c1:∀j,w1.cell? ⟨p,j,none⟩=_:=fun j=>aH h1;have hmost:=hok.most;have a0:=ha.1;have a1:=ha.2;have b0:=hb.1;have b1:=hb.2;have sa:=pG hok ha;have sb:=pG hok hb;refine ag.mk _ rfl ⟨a,by simp only [az,Nat.zero_add,Nat.add_zero];exact c1 0,ag.mk _ rfl ⟨b,by simp only [az,Nat.zero_add,Nat.add_zero];exact c1 1,ac.mk (fun h0=>?_) fun h0=>?_⟩⟩
 ·have h0:=of_decide_eq_true h0;refine(qB w1 B p tp T a b limit steps (ht w1 t1) h1 hB hs (by omega)).mono ?_;rintro e w2 ⟨rfl,hw2,t2⟩;have t12:=t1.trans t2;refine⟨_,rfl,ac.mk (fun h2=>?_) fun h2=>?_⟩
  ·rw [if_pos h2]at hw2;exact⟨true,rfl,t12,.inl ⟨rfl,by omega,sa.1 h2,hw2⟩⟩
  ·rw [if_neg (by rw [h2];simp)]at hw2;have ha256:¬256≤a:=fun hh=>by rw [sa.2 hh]at h2;cases h2
   refine(pz w2 B p tp T a b limit steps (ht w2 t12) hw2 hB hs (by omega)).mono ?_;rintro e w3 ⟨rfl,hw3,t3⟩;have hsb:cn T b=false:=by
    cases hx:cn T b with
    |false=>rfl
    |true=>have:=sb.1 hx;omega
   rw [hsb]at hw3;rw [if_neg (by simp)]at hw3;exact⟨_,rfl,false,by rw [hsb],t12.trans t3,.inr (.inr ⟨rfl,by omega,by omega,hw3⟩)⟩
 ·have h0:=of_decide_eq_false h0;refine(pz w1 B p tp T a b limit steps (ht w1 t1) h1 hB hs (by omega)).mono ?_;rintro e w2 ⟨rfl,hw2,t2⟩;have t12:=t1.trans t2;refine⟨_,rfl,ac.mk (fun h2=>?_) fun h2=>?_⟩
  ·rw [if_pos h2]at hw2;exact⟨true,rfl,t12,.inr (.inl ⟨rfl,by omega,sb.1 h2,hw2⟩)⟩
  ·rw [if_neg (by rw [h2];simp)]at hw2;have hb256:¬256≤b:=fun hh=>by rw [sb.2 hh]at h2;cases h2
   refine(qB w2 B p tp T a b limit steps (ht w2 t12) hw2 hB hs (by omega)).mono ?_;rintro e w3 ⟨rfl,hw3,t3⟩;have hsa:cn T a=false:=by
    cases hx:cn T a with
    |false=>rfl
    |true=>have:=sa.1 hx;omega
   rw [hsa]at hw3;rw [if_neg (by simp)]at hw3;exact⟨_,rfl,false,by rw [hsa],t12.trans t3,.inr (.inr ⟨rfl,by omega,by omega,hw3⟩)⟩
theorem AU (w:World) (B p tp:Nat) (T:List aQ) (a b limit:Int) (hok:iW T) (ht:∀w',aq p w w'→cI w' tp T) (h:di w p tp a b limit 0) (hB:B≤p) (ha:br T a) (hb:br T b) (aa:bX (av T) (sJ T) a) (ab:bX (av T) (sJ T) b) (la:a≤limit) (lb:b+1≤limit):
  CP 243 #[.pointer (some ⟨p,0,none⟩)] w fun e w'=>∃r:Bool,e= .returned (.bool r)∧(r=true↔gY (av T) (sJ T) a b limit)∧aq p w w':=by
 refine aJ (vF (some ⟨p,0,none⟩) w) ?_;intro I hI;have hG:=ze hok;have hmost:=hok.most;have ml:=dl hok;have key:∀(n:Nat) (a' b' limit' steps:Int) (w1:World),a'.toNat+b'.toNat≤n→di w1 p tp a' b' limit' steps→aq p w w1→br T a'→br T b'→bX (av T) (sJ T) a'→bX (av T) (sJ T) b'→a'≤limit'→b'+1≤limit'→0≤steps→steps+a'+b'≤10000→(gY (av T) (sJ T) a' b' limit'↔gY (av T) (sJ T) a b limit)→∀y2:Bool,I [.bool y2] w1:=by
  intro n;induction n using Nat.strongRecOn with
  |ind n ih=>
   intro a' b' limit' steps w1 hn h1 t1 ha' hb' aa' ab' la' lb' hs0 hs1 hF y2;have Ta:=(gM hok a').1 ha';have Tb:=(gM hok b').1 hb';refine hI y2 w1 ?_;refine(r8 w1 p tp T a' b' limit' steps (ht w1 t1) h1).mono ?_;rintro e w2 ⟨rfl,hb2⟩;have h2:=h1.on hb2;have t2:=t1.trans (aq.of_below hb2);refine⟨_,rfl,ac.mk (fun h0=>?_) fun h0=>?_⟩
   ·have h0:im T a' b' limit'=false:=by simpa using h0
    have hno:∀i:Nat,(av T)[i]? =some (a',b')→limit'≤256+(i:Int):=by
     intro i hi;unfold im at h0;cases hx:(av T).idxOf? (a',b')with
     |none=>exact absurd (List.mem_of_getElem? hi) (List.idxOf?_eq_none_iff.1 hx)
     |some j=>
      rw [hx]at h0;have h0:=of_decide_eq_false h0;obtain⟨hj,he,hmin⟩:=List.findIdx?_eq_some_iff_getElem.1 hx;have hij:j≤i:=by
       rcases Nat.lt_or_ge i j with hlt |hge
       ·exfalso;have:=hmin i hlt;have hil:=(List.getElem?_eq_some_iff.1 hi);apply this;rw [hil.2];simp
       ·exact hge
      omega
    refine(xD w2 B p tp T a' b' limit' steps (ht w2 t2) hok (fun w' tt=>ht w' (t2.trans tt)) h2 hB ⟨hs0,by have:=ha'.1;have:=hb'.1;omega⟩ ha' hb').mono ?_;rintro e w3 ⟨r,rfl,t3,hcase⟩;have t13:=t2.trans t3;refine⟨r,rfl,?_⟩;rcases hcase with⟨rfl,hba,h256,hw3⟩ |⟨rfl,hab,h256,hw3⟩ |⟨rfl,h1a,h1b,hw3⟩
    ·obtain⟨j,rfl,hm⟩:=ka hok ha' h256;have hlt:=en hok hm;obtain⟨q1,_,_,_⟩:=ee hG hm aa';have hj:=(List.getElem?_eq_some_iff.1 hm).1;have hp:=hb'.1;refine ac.no rfl (ih _ ?_ (a_ T (256+(j:Int))).2 b' (256+(j:Int)) (steps+1) w3 (Nat.le_refl _) hw3 t13 ⟨hlt.2.1,by omega⟩ hb' ?_ ab' (by omega) (by omega) (by omega) (by omega) ?_ y2)
     ·omega
     ·exact(ee hG hm aa').2.2.2
     ·rw [←hF];exact(Af hG hm Tb aa' ab' hba la' hno).symm
    ·obtain⟨j,rfl,hm⟩:=ka hok hb' h256;have hlt:=en hok hm;have hj:=(List.getElem?_eq_some_iff.1 hm).1;have hp:=ha'.1;refine ac.no rfl (ih _ ?_ a' (a_ T (256+(j:Int))).1 (256+(j:Int)+1) (steps+1) w3 (Nat.le_refl _) hw3 t13 ha' ⟨hlt.1.1,by omega⟩ aa' ?_ (by omega) (by omega) (by omega) (by omega) ?_ y2)
     ·omega
     ·exact(ee hG hm ab').2.2.1
     ·rw [←hF];exact(yY hG hm Ta aa' ab' hab (by omega) hno).symm
    ·refine ac.yes rfl ⟨true,rfl,?_,t13⟩;rw [←hF];exact⟨fun _=>yU hG Ta Tb aa' ab' h1a h1b hno,fun _=>rfl⟩
   ·have h0:im T a' b' limit'=true:=by simpa using h0
    refine⟨false,rfl,?_,t2⟩;rw [←hF];refine⟨(fun h=>by cases h),fun hfree=>?_⟩;unfold im at h0;cases hx:(av T).idxOf? (a',b')with
    |none=>rw [hx]at h0;cases h0
    |some j=>
     rw [hx]at h0;have h0:=of_decide_eq_true h0;obtain⟨hj,he,_⟩:=List.findIdx?_eq_some_iff_getElem.1 hx;exact absurd hfree (sD hG Ta Tb aa' ab' (i:=j) (by rw [List.getElem?_eq_getElem hj];congr 1;simpa using he) (by omega))
 exact key _ a b limit 0 w (Nat.le_refl _) h (aq.of_below (Below.refl _ _)) ha hb aa ab la lb (Int.le_refl _) (by have:=ha.2;have:=hb.2;omega) Iff.rfl false
theorem qf (w:World) (tp:Nat) (T:List aQ) (hT:cI w tp T) (a b:Int):CP 241 #[.pointer (some ⟨tp,0,none⟩),.int .i64 a,.int .i64 b] w fun e w'=>e= .returned (.bool (decide (br T a∧br T b)))∧w'=w:=by
 refine aN (tH (some ⟨tp,0,none⟩) a b w (fun v w'=>v= .bool (decide (br T a∧br T b))∧w'=w) ?_) (by rintro v w' ⟨rfl,h⟩;exact⟨rfl,h⟩);have off:¬(br T a∧br T b)→(Value.bool false= .bool (decide (br T a∧br T b))∧w=w):=fun h=>⟨by rw [decide_eq_false h],rfl⟩;refine ac.mk (fun h0=>?_) fun h0=>off fun h=>?_
 ·have h0:=of_decide_eq_true h0;refine(d9 w tp T hT).mono ?_;rintro e w1 ⟨rfl,hw⟩;subst hw;refine⟨_,rfl,ac.mk (fun h1=>?_) fun h1=>off fun h=>?_⟩
  ·have h1:=of_decide_eq_true h1;refine ac.mk (fun h2=>?_) fun h2=>off fun h=>?_
   ·have h2:=of_decide_eq_true h2;refine(d9 w1 tp T hT).mono ?_;rintro e w2 ⟨rfl,hw⟩;subst hw;refine⟨_,rfl,?_,rfl⟩;congr 1;exact decide_eq_decide.2 ⟨fun h=>⟨⟨h0,h1⟩,h2,h⟩,fun h=>h.2.2⟩
   ·exact of_decide_eq_false h2 h.2.1
  ·exact of_decide_eq_false h1 h.1.2
 ·exact of_decide_eq_false h0 h.1.1
theorem AG (w:World) (tp:Nat) (T:List aQ) (hT:cI w tp T) (hok:iW T) (a b limit:Int) (ha:br T a) (hb:br T b) (aa:bX (av T) (sJ T) a) (ab:bX (av T) (sJ T) b) (la:a≤limit) (lb:b+1≤limit):
  CP 203 #[.pointer (some ⟨tp,0,none⟩),.int .i64 a,.int .i64 b,.int .i64 limit] w fun e w'=>∃r:Bool,e= .returned (.bool r)∧(r=true↔gY (av T) (sJ T) a b limit)∧Below w.heap.size w w':=by
 refine aJ (uA (some ⟨tp,0,none⟩) a b limit w) ?_;refine(qf w tp T hT a b).mono ?_;rintro e w1 ⟨rfl,hw⟩;subst hw;refine⟨_,rfl,ac.yes (decide_eq_true ⟨ha,hb⟩) ?_⟩;have hbegin:CP 242 #[.pointer (some ⟨tp,0,none⟩),.int .i64 a,.int .i64 b,.int .i64 limit] w1 fun e w'=>e= .returned (.pointer (some (nb w1)))∧w'=w1.alloc (.cells #[Value.int .i64 a,Value.int .i64 b,Value.pointer (some ⟨tp,0,none⟩),Value.int .i64 limit,Value.int .i64 0] Gs):=by
  refine aJ (tN (some ⟨tp,0,none⟩) a b limit w1) ?_;rintro w2 rfl;exact⟨rfl,rfl⟩
 refine hbegin.mono ?_;rintro e w2 ⟨rfl,hw2⟩;have hb2:Below w1.heap.size w1 w2:=by subst hw2;exact ah _ _
 have h2:di w2 w1.heap.size tp a b limit 0:=by subst hw2;exact ao _ _
 refine⟨_,rfl,?_⟩;refine(AU w2 w1.heap.size w1.heap.size tp T a b limit hok (fun w' t=>hT.on (hb2.trans (t.below (Nat.le_refl _) hb2.size))) h2 (Nat.le_refl _) ha hb aa ab la lb).mono ?_;rintro e w3 ⟨r,rfl,hr,t3⟩;exact⟨r,rfl,r,rfl,hr,hb2.trans (t3.below (Nat.le_refl _) hb2.size)⟩
theorem lH {w:World} {v:Nat} {c:Array Value} {tp bp mp:Nat} (h:lh w v c tp bp mp) {s:au} {T:List aQ} {x:ct} (hp:ce w s T x tp bp mp) (id:Int):CP 200 #[.pointer (some ⟨v,0,none⟩),.int .i64 id] w fun e w'=>∃r:Bool,e= .returned (.bool r)∧(r=true↔id∈s.specials.map (·.1))∧w'=w:=by
 refine aJ (vn (some ⟨v,0,none⟩) id w) ?_;refine(jZ h).mono ?_;rintro e w1 ⟨rfl,hw⟩;subst hw;refine⟨_,rfl,(jX w1 mp s.specials hp.marks hp.few id).mono ?_⟩;rintro e w2 ⟨rfl,hw⟩;subst hw;exact⟨_,_,rfl,_,rfl,nJ,rfl⟩
theorem AZ (b:Bs):(cH b).getLast?=b.getLast?.map fun z:UInt8=>(z.toNat:Int):=by simp [cH]
theorem AQ (b:Bs):(cH b).head?=b.head?.map fun z:UInt8=>(z.toNat:Int):=by simp [cH]
theorem vC {w:World} {v:Nat} {c:Array Value} {tp bp mp:Nat} (h:lh w v c tp bp mp) {s:au} {T:List aQ} {x:ct} (hp:ce w s T x tp bp mp) (a b:Int) (ha:(aI s T).Has a) (hb:(aI s T).Has b) (ca:(aI s T).Canon [a]) (cb:(aI s T).Canon [b]):
  CP 150 #[.pointer (some ⟨v,0,none⟩),.int .i64 a,.int .i64 b] w fun e w'=>∃r:Bool,e= .returned (.bool r)∧(r=true↔(aI s T).Pair a b)∧Below w.heap.size w w':=by
 have hok:=lY hp;refine aJ (wL (some ⟨v,0,none⟩) a b w) ?_;have mark_cut:∀t:Int,t∈s.specials.map (·.1)→∃z:Int,(aI s T).items t= [z]∧z<0:=by
  intro t ht;obtain⟨i,hi,_⟩:=Voc.place_some (V:=aI s T) ht;refine⟨-1- (i:Int),?_,by omega⟩;unfold Voc.items;rw [hi]
 refine(lH h hp a).mono ?_;rintro e w1 ⟨r1,rfl,hr1,hw⟩;subst hw;refine⟨_,rfl,ac.mk (fun h0=>?_) fun h0=>?_⟩
 ·refine⟨true,rfl,⟨fun _=>?_,fun _=>rfl⟩,Below.refl _ _⟩;obtain⟨z,hz,hneg⟩:=mark_cut a (hr1.1 h0);obtain⟨y,hy⟩:∃y,((aI s T).items b).head?=some y:=by
   cases hx:(aI s T).items b with
   |nil=>exact absurd hx (Voc.items_ne hok hb)
   |cons y t=>exact⟨y,rfl⟩
  exact .inl ⟨z,y,by rw [hz];rfl,hy,by unfold Voc.cut;rw [decide_eq_true hneg];rfl⟩
 have na:a∉s.specials.map (·.1):=fun hm=>by rw [hr1.2 hm]at h0;cases h0
 refine(lH h hp b).mono ?_;rintro e w2 ⟨r2,rfl,hr2,hw⟩;subst hw;refine⟨_,rfl,ac.mk (fun h1=>?_) fun h1=>?_⟩
 ·refine⟨true,rfl,⟨fun _=>?_,fun _=>rfl⟩,Below.refl _ _⟩;obtain⟨z,hz,hneg⟩:=mark_cut b (hr2.1 h1);obtain⟨y,hy⟩:∃y,((aI s T).items a).getLast?=some y:=by
   cases hx:((aI s T).items a).getLast? with
   |none=>exact absurd (List.getLast?_eq_none_iff.1 hx) (Voc.items_ne hok ha)
   |some y=>exact⟨y,rfl⟩
  exact .inl ⟨y,z,hy,by rw [hz];rfl,by unfold Voc.cut;rw [decide_eq_true hneg];simp⟩
 have nb':b∉s.specials.map (·.1):=fun hm=>by rw [hr2.2 hm]at h1;cases h1
 have Ta:lL (av T) a:=ha.resolve_right na;have Tb:lL (av T) b:=hb.resolve_right nb';have ia:=(gM hp.ok a).2 Ta;have ib:=(gM hp.ok b).2 Tb;have short:∀t,br T t→(aY T t).length≤64:=by
  intro t ht;obtain⟨y,hy,hyb⟩:=gh ht;rw [hyb];exact hp.ok.short y (List.mem_of_getElem? hy)
 refine(fg h).mono ?_;rintro e w3 ⟨rfl,hw⟩;subst hw;refine⟨_,rfl,(gZ w3 tp T hp.tab a).mono ?_⟩;rintro e w4 ⟨rfl,hw⟩;subst hw;rw [if_pos ia];refine⟨_,_,rfl,(fg h).mono ?_⟩;rintro e w5 ⟨rfl,hw⟩;subst hw;refine⟨_,rfl,(gZ w5 tp T hp.tab b).mono ?_⟩;rintro e w6 ⟨rfl,hw⟩;subst hw;rw [if_pos ib];refine⟨_,_,rfl,(oL h).mono ?_⟩;rintro e w7 ⟨rfl,hw⟩;subst hw;refine⟨_,rfl,(sl w7 bp s.classes s.joins hp.bound (o_ hp.right).1 (aY T a) (aY T b) (by have:=short a ia;omega)).mono ?_⟩;rintro e w8 ⟨rfl,hb8⟩;have hpair:(aI s T).Pair a b↔jq (cutB s.classes s.joins) (aY T a) (aY T b)=true∨(aI s T).Free a b:=by
  unfold Voc.Pair;rw [Voc.items_tok hok (V:=aI s T) Ta,Voc.items_tok hok (V:=aI s T) Tb];show(∃x y,(cH (aY T a)).getLast?=some x∧(cH (aY T b)).head?=some y∧(aI s T).cut x y=true)∨_↔_;rw [AZ,AQ];unfold jq;cases h1:(aY T a).getLast? with
  |none=>
   simp only [Option.map_none];constructor
   ·rintro(⟨x,y,hx,_⟩ |h)
    ·cases hx
    ·exact .inr h.2.2
   ·rintro(h |h)
    ·cases h
    ·exact .inr ⟨Ta,Tb,h⟩
  |some z1=>
   cases h2:(aY T b).head? with
   |none=>
    simp only [Option.map_none];constructor
    ·rintro(⟨x,y,_,hy,_⟩ |h)
     ·cases hy
     ·exact .inr h.2.2
    ·rintro(h |h)
     ·cases h
     ·exact .inr ⟨Ta,Tb,h⟩
   |some z2=>
    simp only [Option.map_some];constructor
    ·rintro(⟨x,y,hx,hy,hc⟩ |h)
     ·cases hx;cases hy;rw [pP _ (by omega) (by omega)]at hc;exact .inl hc
     ·exact .inr h.2.2
    ·rintro(h |h)
     ·exact .inl ⟨_,_,rfl,rfl,by rw [pP _ (by omega) (by omega)];exact h⟩
     ·exact .inr ⟨Ta,Tb,h⟩
 refine⟨_,rfl,ac.mk (fun h2=>?_) fun h2=>?_⟩
 ·exact⟨true,rfl,⟨fun _=>hpair.2 (.inl h2),fun _=>rfl⟩,hb8⟩
 ·refine(fg (h.on hb8)).mono ?_;rintro e w9 ⟨rfl,hw⟩;subst hw;have hmost:=hp.ok.most;have ml:=dl hp.ok;have a1:=ia.2;have b1:=ib.2;refine⟨_,rfl,(AG w9 tp T (hp.tab.on hb8) hp.ok a b 9223372036854775807 ia ib ((Voc.alone_iff hok (V:=aI s T) Ta).1 ca).1 ((Voc.alone_iff hok (V:=aI s T) Tb).1 cb).1 (by omega) (by omega)).mono ?_⟩;rintro e w10 ⟨r,rfl,hr,hb10⟩;refine⟨_,rfl,r,rfl,?_,ae hb8 hb10⟩;rw [hr,hpair,h2];constructor
  ·intro hf;exact .inr fun k hk hc=>hf k hk (by change k< (av T).length at hk;omega) hc
  ·rintro(h |h)
   ·cases h
   ·exact fun k hk _ hc=>h k hk hc
theorem Rw.touch {α:Type} {enc:α→List Value} {sz:Nat} {w w':World} {a:Option Addr} {xs:List α} {v:Nat} (h:Rw enc sz w a xs) (t:aq v w w') (ha:xs≠ []→∀p,a=some p→p.block≠v):Rw enc sz w' a xs:=by
 intro j x hj;obtain⟨p,rfl,hp,hc⟩:=h j x hj;refine⟨p,rfl,Nat.lt_of_lt_of_le hp t.size,fun k u hk=>?_⟩;rw [World.cell?_of_block (w:=w) (by rw [ay,ay];exact t.block p.block hp (ha (List.ne_nil_of_mem (List.mem_of_getElem? hj)) p rfl))];exact hc k u hk
instance (V:Voc) (ids:List Int):Decidable (V.Canon ids):=inferInstanceAs (Decidable (V.encode (V.itemsAll ids)=ids))
open Go Go.Value
theorem B3 {w:World} {B:Nat} {e:TypeId} {sz:Nat} {l:Sl} {xs:List Value} (h:w.ownsRow B e sz l.v l.n xs):CE l:=by
 obtain⟨la,ln,lc⟩:=l;rcases h.2 with⟨hv,_⟩ |⟨g,cap,cur,hv,_⟩
 ·cases hv;exact .inl rfl
 ·cases hv;exact .inr ⟨_,rfl⟩
theorem Br {α:Type} {enc:α→List Value} {sz:Nat} (hsz:∀x,(enc x).length=sz) (h0:0<sz) (h1:∀x,∀u∈enc x,u.oneCell'=true) (t e:TypeId) {z:Value} {bytes:Nat} (ht:Tryz.prog.underlying t=some (.slice e)) (hi:(Tryz.prog.info? e).map (fun i=>(i.zero,i.size,i.bytes))=some (some z,sz,bytes)) (hzs:z.cells.size=sz)
  {B:Nat} {w:World} {s:Sl} {xs:List α} (hown:w.ownsRow B e sz s.v s.n (xs.flatMap enc)) (x:α) {b:Nat} {T:TypeId} {fz:Nat×Nat} (hb:w.heap[b]? =some (.cells (enc x).toArray T fz)) (hB:B≤w.heap.size) (hbytes:(s.n+1)*bytes≤140737488355328) (h63:s.n+1≤140737488355328):
  ∃A C w',(Builtin.append_ #[t,t] t #[.slice s.a s.n s.c,.slice (some ⟨b,0,none⟩) 1 1]).run Tryz.prog w= .ok (.slice A (s.n+1) C) w'∧w'.ownsRow B e sz (.slice A (s.n+1) C) (s.n+1) ((xs++ [x]).flatMap enc)∧(∀w0,Below B w0 w→Below B w0 w')∧(∀k,k<w.heap.size→s.v.ownBlock≠some k→w'.heap[k]? =w.heap[k]?):=by
 obtain⟨A,C,w',h2,h3,h4,h5⟩:=oJ (P:=Tryz.prog) t e ht hi hzs h0 hown ⟨some ⟨b,0,none⟩,1,1⟩ (.inr ⟨_,rfl⟩) (enc x) (by rw [hsz,Nat.one_mul]) (by
  intro a ha j u hj;cases ha;rw [aj _ _ hb];simpa using hj) (h1 x) hbytes h63 hB
 exact⟨A,C,w',h2,by simpa using h3,h4,h5⟩
theorem Ar.nat {z:Int} {F:Int→Prop} (n:Nat) (hz:z=(n:Int)) (hn:n≤9223372036854775807) (h:F (n:Int)):Ar .i64 z F:=by
 subst hz;exact Ar.ok64 (by omega) (by omega) h
theorem be {α:Type} {enc:α→List Value} {w:World} {a:Option Addr} {xs:List α} (h:Rw enc 1 w a xs) {i:Nat} (hi:i<xs.length) {v:Value} (hv:(enc xs[i])[0]? =some v):∃q,a=some q∧w.cell? (q.add (i*1))=some v:=by
 obtain⟨q,hq,_,hc⟩:=h i _ (List.getElem?_eq_getElem hi);have:=hc 0 _ hv;rw [aw]at this;exact⟨q,hq,this⟩
structure co {α:Type} (enc:α→List Value) (sz:Nat) (w:World) (l:Sl) (xs:List α):Prop where
 n:l.n=xs.length
 r:Rw enc sz w l.a xs
 k:CE l
theorem co.on {α:Type} {enc:α→List Value} {sz:Nat} {w w':World} {l:Sl} {xs:List α} (h:co enc sz w l xs) (hb:Below w.heap.size w w'):co enc sz w' l xs:=⟨h.n,h.r.on hb,h.k⟩
structure zO {α:Type} (enc:α→List Value) (sz:Nat) (t e:TypeId) (bytes:Nat):Prop where
 hsz:∀x,(enc x).length=sz
 h0:0<sz
 h1:∀x,∀u∈enc x,u.oneCell'=true
 ht:Tryz.prog.underlying t=some (.slice e)
 hz:∃z:Value,(Tryz.prog.info? e).map (fun i=>(i.zero,i.size,i.bytes))=some (some z,sz,bytes)∧z.cells.size=sz
theorem eT:zO aK 1 dS aW 8:=⟨fun _=>rfl,by decide,fun x u hu=>by rw [List.mem_singleton.1 hu];rfl,zI,_,zA,rfl⟩
theorem co.of_own {α:Type} {enc:α→List Value} {sz bytes:Nat} {t e:TypeId} (E:zO enc sz t e bytes) {w:World} {B:Nat} {l:Sl} {xs:List α} (h:w.ownsRow B e sz l.v l.n (xs.flatMap enc)):co enc sz w l xs:=
 have:=Rw.of_own h E.hsz E.h0
 ⟨this.2,this.1,B3 h⟩
theorem zO.push {α:Type} {enc:α→List Value} {sz bytes:Nat} {t e:TypeId} (E:zO enc sz t e bytes) {B:Nat} {w2 w3:World} {s:Sl} {xs:List α} (hown:w2.ownsRow B e sz s.v s.n (xs.flatMap enc)) (x:α) {T:TypeId} {c:Array Value} (hw:w3=w2.alloc (.cells c T)) (hc:c=(enc x).toArray) (hB:B≤w2.heap.size) (hn:s.n≤1000000000) (hb:bytes≤1000):
  ∃(l:Sl) (w4:World),l.n=s.n+1∧(Builtin.append_ #[t,t] t #[.slice s.a s.n s.c,.slice (some (nb w2)) 1 1]).run Tryz.prog w3= .ok (.slice l.a l.n l.c) w4∧w4.ownsRow B e sz l.v l.n ((xs++ [x]).flatMap enc)∧(∀w0,Below B w0 w2→Below B w0 w4)∧(∀k,k<w2.heap.size→s.v.ownBlock≠some k→w4.heap[k]? =w2.heap[k]?):=by
 obtain⟨z,hi,hzs⟩:=E.hz;subst hw hc;have hba:=ah w2 (.cells (enc x).toArray T);have hmul:(s.n+1)*bytes≤(1000000000+1)*1000:=Nat.mul_le_mul (by omega) hb;obtain⟨A,C,w4,h1,h2,h3,h4⟩:=Br (enc:=enc) (sz:=sz) E.hsz E.h0 E.h1 t e E.ht hi hzs (aG hown hba) x (ao w2 _) (Nat.le_trans hB hba.size) (by omega) (by omega);refine⟨⟨A,s.n+1,C⟩,w4,rfl,h1,h2,fun w0 h0=>h3 w0 (h0.trans (hba.mono hB)),fun k hk hne=>?_⟩;rw [h4 k (Nat.lt_of_lt_of_le hk hba.size) hne,hba.block k hk]
theorem zO.spread {α:Type} {enc:α→List Value} {sz bytes:Nat} {t e:TypeId} (E:zO enc sz t e bytes) {B:Nat} {w2:World} {s l:Sl} {xs ys:List α} (hown:w2.ownsRow B e sz s.v s.n (xs.flatMap enc)) (hl:co enc sz w2 l ys) (hB:B≤w2.heap.size) (hn:s.n≤1000000000) (hm:l.n≤1000000000) (hb:bytes≤1000):
  ∃(r:Sl) (w4:World),r.n=s.n+l.n∧(Builtin.append_ #[t,t] t #[.slice s.a s.n s.c,.slice l.a l.n l.c]).run Tryz.prog w2= .ok (.slice r.a r.n r.c) w4∧w4.ownsRow B e sz r.v r.n ((xs++ys).flatMap enc)∧(∀w0,Below B w0 w2→Below B w0 w4)∧(∀k,k<w2.heap.size→s.v.ownBlock≠some k→w4.heap[k]? =w2.heap[k]?)∧∀k,r.v.ownBlock=some k→s.v.ownBlock=some k∨w2.heap.size≤k:=by
 obtain⟨z,hi,hzs⟩:=E.hz;have hmul:(s.n+l.n)*bytes≤(1000000000+1000000000)*1000:=Nat.mul_le_mul (by omega) hb;have hr:=hl.r;obtain⟨A,C,w4,h1,h2,h3,h4,h5⟩:=m9 (P:=Tryz.prog) t e E.ht hi hzs E.h0 hown l hl.k (ys.flatMap enc) (by rw [bO E.hsz,hl.n]) (by
  intro a ha j u hj;rw [ha]at hr;exact hr.flat E.hsz E.h0 j u hj) (by
  intro u hu;obtain⟨x,_,hx⟩:=List.mem_flatMap.1 hu;exact E.h1 x u hx) (by omega) (by omega) hB
 exact⟨⟨A,s.n+l.n,C⟩,w4,rfl,h1,by rw [List.flatMap_append];exact h2,h3,h4,h5⟩
theorem dQ (w:World) (B:Nat) (e:TypeId) (sz:Nat) {α:Type} (enc:α→List Value):w.ownsRow B e sz bW.v bW.n (([]:List α).flatMap enc):=c_ w B e sz
theorem d_ {w:World} {p:Addr} {v:Value} {k:World→Prop} (h:bo w p k [v] 0):v.oneCell'=true∧(∃u,w.cell? p=some u)∧w.frozen? p=false∧∀w',w'=w.setCell p v→k w':=by
 obtain⟨h1,h2,h3,h4⟩:=h;rw [aw]at h2 h3 h4;exact⟨h1,h2,h3,h4⟩
def fr (b:UInt8):List Value:=[.int .u8 ((b.toNat:Nat):Int)]
theorem vY (l:List UInt8):l.flatMap fr=Lib.byteCells l:=by
 induction l with
 |nil=>rfl
 |cons b l ih=>rw [List.flatMap_cons,ih];rfl
theorem DX:zO fr 1 kH sm 1:=⟨fun _=>rfl,by decide,fun x u hu=>by rw [List.mem_singleton.1 hu];rfl,pc,_,Hl,rfl⟩
theorem zf {w:World} {B:Nat} {e:TypeId} {sz:Nat} {l:Sl} {xs:List Value} (h:w.ownsRow B e sz l.v l.n xs):l.n≤l.c:=by
 obtain⟨a,c,e,hc⟩:=jp h;have e:Value.slice l.a l.n l.c= .slice a l.n c:=e;simp only [Value.slice.injEq]at e;omega
abbrev Lm:TypeId:=25
theorem z_:zO bw 2 Lm zC 24:=⟨fun _=>rfl,by decide,fun x=>eL _ _,yy,_,xJ,rfl⟩
theorem Rw.take {α:Type} {enc:α→List Value} {sz:Nat} {w:World} {a:Option Addr} {xs:List α} (h:Rw enc sz w a xs) (n:Nat):Rw enc sz w a (xs.take n):=by
 intro j x hj;rw [List.getElem?_take]at hj;split at hj
 ·exact h j x hj
 ·cases hj
theorem bg.lt {w:World} {v:Nat} {s:au} {T:List aQ} (h:bg w v s T):v<w.heap.size:=by
 obtain⟨w0,x,tp,bp,mp,d,l,uses,hR⟩:=h;exact(Array.getElem?_eq_some_iff.1 hR.blk).1
open Go.ChangeShapes Go.WideShapes
section
variable {H:Type} {enc0:TypeId×Value→H} {w:World} {base:Nat} {spare:Nat→Bool} {held:Bool}
end
def KT (a:OA) (w:World) (R:RW):Prop:=
 ac (Option.isNone a)
 (R (int .i64 0) w)
 (ag a (fun b=>
 ∃c d f,w.cell? (b.add 0)=some (slice c d f)∧
 R (int .i64 (d:Int)) w))
theorem xe (a:OA) (w:World) (R:RW) (hh:KT a w R):CR 19 #[pointer a] w R:=
 aC (fn:=Tryz.f19) (by kernel_rfl) (by kernel_rfl) (by kernel_rfl) (by kernel_rfl) (by kernel_rfl) hh
def KO (a:OA) (b:Int) (w:World) (R:RW):Prop:=
 ac (Option.isNone a)
 (R (tuple #[int .i64 0,bool false]) w)
 (ag a (fun c=>
 ∃d,w.cell? (c.add 1)=some (map d)∧
 ∃f g h,(Instr.lookup 128 (map d) (int .i64 b) true).run Tryz.prog w= .ok (tuple #[int .i64 f,bool g]) h∧
 R (tuple #[int .i64 f,bool g]) h))
theorem yw (a:OA) (b:Int) (w:World) (R:RW) (hh:KO a b w R):CR 20 #[pointer a,int .i64 b] w R:=
 aC (fn:=Tryz.f20) (by kernel_rfl) (by kernel_rfl) (by kernel_rfl) (by kernel_rfl) (by kernel_rfl) hh
def Lo (a:OA) (b:Int) (w:World) (R:RW):Prop:=
 ∀c,c=w.alloc (.cells #[pointer a] 69)→
 ∃d,c.cell? (nb w)=some (pointer d)∧
 CP 61 #[pointer d] c (fun f g=>
 ∃h i j,f= .returned (slice h i j)∧
 ∀k,k=g.alloc (.cells #[slice none 0 0] 28)→
 (slice h i j).oneCell'=true∧(∃u,k.cell? (nb g)=some u)∧k.frozen? (nb g)=false∧
 ∀l,l=(k.setCell (nb g) (slice h i j))→
 ∃m,l.cell? (nb w)=some (pointer m)∧
 ac (Option.isNone m)
 (R (tuple #[pointer none,int .i64 1]) l)
 (∃n o p,l.cell? (nb g)=some (slice n o p)∧
 ∃q r s,l.cell? (nb g)=some (slice q r s)∧
 Ar .i64 ((o:Int)*(r:Int)) (fun t=>
 ac (decide (t>b))
 (R (tuple #[pointer none,int .i64 5]) l)
 (∃x y z,l.cell? (nb g)=some (slice x y z)∧
 ∃a1 b1,(Instr.makeMap 128 none).run Tryz.prog l= .ok (map a1) b1∧
 ∀c1,c1=b1.alloc (.cells #[slice x y z,map a1,slice none 0 0,slice none 0 0] 132)→
 ∀d1,d1=c1.alloc (.cells #[pointer none] 32)→
 (pointer (some (nb b1))).oneCell'=true∧(∃u,d1.cell? (nb c1)=some u)∧d1.frozen? (nb c1)=false∧
 ∀e1,e1=(d1.setCell (nb c1) (pointer (some (nb b1))))→
 ∃f1 g1 h1,e1.cell? (nb g)=some (slice f1 g1 h1)∧
 ∀i1:KW,(∀(j1:Int) (k1:World),(ac (decide (j1< (g1:Int)))
 (ag f1 (fun l1=>
 (0:Int)≤j1∧j1< (g1:Int)∧
 ∃m1,k1.cell? (l1.add (j1.toNat*1))=some (int .i64 m1)∧
 ∃n1,k1.cell? (nb c1)=some (pointer n1)∧
 ag n1 (fun o1=>
 ∃p1,k1.cell? (o1.add 1)=some (map p1)∧
 ∃q1,(Instr.mapUpdate 128 (map p1) (int .i64 m1) (int .i64 j1)).run Tryz.prog k1= .ok () q1∧
 Ar .i64 (j1+1) (fun r1=>
 i1 [int .i64 r1] q1))))
 (∀s1,s1=k1.drew→
 ∃t1,s1.cell? (nb c1)=some (pointer t1)∧
 ∃u1 v1 x1,s1.cell? (nb g)=some (slice u1 v1 x1)∧
 CP 71 #[int .i64 (v1:Int),func (.func 72) #[] #[pointer (some (nb w)),pointer (some (nb g))]] s1 (fun y1 z1=>
 ∃a2 b2 c2,y1= .returned (slice a2 b2 c2)∧
 (z1.cell? (nb c1)=some (pointer t1)∧True)∧
 ag t1 (fun d2=>
 (slice a2 b2 c2).oneCell'=true∧(∃u,z1.cell? (d2.add 3)=some u)∧z1.frozen? (d2.add 3)=false∧
 ∀e2,e2=(z1.setCell (d2.add 3) (slice a2 b2 c2))→
 ∃f2 g2 h2,e2.cell? (nb g)=some (slice f2 g2 h2)∧
 ∀i2:KW,(∀(j2:Int) (k2:World),(ac (decide (j2< (g2:Int)))
 (ag f2 (fun l2=>
 (0:Int)≤j2∧j2< (g2:Int)∧
 ∃m2,k2.cell? (l2.add (j2.toNat*1))=some (int .i64 m2)∧
 ∀n2,n2=k2.alloc (.cells #[int .i64 0] 3)→
 ∀o2,o2=n2.alloc (.cells #[int .i64 0] 3)→
 (int .i64 j2).oneCell'=true∧(∃u,o2.cell? (nb k2)=some u)∧o2.frozen? (nb k2)=false∧
 ∀p2,p2=(o2.setCell (nb k2) (int .i64 j2))→
 (int .i64 m2).oneCell'=true∧(∃u,p2.cell? (nb n2)=some u)∧p2.frozen? (nb n2)=false∧
 ∀q2,q2=(p2.setCell (nb n2) (int .i64 m2))→
 ∀r2,r2=q2.drew→
 ∃s2,r2.cell? (nb c1)=some (pointer s2)∧
 ∃t2,r2.cell? (nb c1)=some (pointer t2)∧
 ag t2 (fun u2=>
 ∃v2 x2 y2,r2.cell? (u2.add 2)=some (slice v2 x2 y2)∧
 ∃z2 a3 b3,r2.cell? (nb g)=some (slice z2 a3 b3)∧
 CP 71 #[int .i64 (a3:Int),func (.func 74) #[] #[pointer (some (nb c1)),pointer (some (nb k2)),pointer (some (nb w)),pointer (some (nb n2)),pointer (some (nb g))]] r2 (fun c3 d3=>
 ∃e3 f3 g3,c3= .returned (slice e3 f3 g3)∧
 (d3.cell? (u2.add 2)=some (slice v2 x2 y2)∧True)∧
 (d3.cell? (nb c1)=some (pointer t2)∧True)∧
 (d3.cell? (nb c1)=some (pointer s2)∧True)∧
 ∀h3,h3=d3.alloc (.cells #[slice e3 f3 g3] 130)→
 (h3.cell? (u2.add 2)=some (slice v2 x2 y2)∧True)∧
 (h3.cell? (nb c1)=some (pointer t2)∧True)∧
 (h3.cell? (nb c1)=some (pointer s2)∧True)∧
 ∃i3 j3 k3 l3,(Builtin.append_ #[129,129] 129 #[slice v2 x2 y2,slice (some (nb d3)) 1 1]).run Tryz.prog h3= .ok (slice i3 j3 k3) l3∧
 (l3.cell? (nb c1)=some (pointer s2)∧True)∧
 ag s2 (fun m3=>
 (slice i3 j3 k3).oneCell'=true∧(∃u,l3.cell? (m3.add 2)=some u)∧l3.frozen? (m3.add 2)=false∧
 ∀n3,n3=(l3.setCell (m3.add 2) (slice i3 j3 k3))→
 Ar .i64 (j2+1) (fun o3=>
 i2 [int .i64 o3] n3))))))
 (∃p3,k2.cell? (nb c1)=some (pointer p3)∧
 R (tuple #[pointer p3,int .i64 0]) k2))→i2 [int .i64 j2] k2)→
 i2 [int .i64 0] e2))))→i1 [int .i64 j1] k1)→
 i1 [int .i64 0] e1))))
theorem xW (a:OA) (b:Int) (w:World) (R:RW) (hh:Lo a b w R):CR 32 #[pointer a,int .i64 b] w R:=
 aC (fn:=Tryz.f32) (by kernel_rfl) (by kernel_rfl) (by kernel_rfl) (by kernel_rfl) (by kernel_rfl) hh
def Ln (a:OA) (b:Int) (w:World) (R:RW):Prop:=
 ac (decide (b<0))
 (R (tuple #[int .i64 0,bool false]) w)
 (CP 19 #[pointer a] w (fun c d=>
 ∃f,c= .returned (int .i64 f)∧
 ac (decide (b≥f))
 (R (tuple #[int .i64 0,bool false]) d)
 (ag a (fun g=>
 ∃h i j,d.cell? (g.add 0)=some (slice h i j)∧
 ag h (fun k=>
 (0:Int)≤b∧b< (i:Int)∧
 ∃l,d.cell? (k.add (b.toNat*1))=some (int .i64 l)∧
 R (tuple #[int .i64 l,bool true]) d)))))
theorem ya (a:OA) (b:Int) (w:World) (R:RW) (hh:Ln a b w R):CR 38 #[pointer a,int .i64 b] w R:=
 aC (fn:=Tryz.f38) (by kernel_rfl) (by kernel_rfl) (by kernel_rfl) (by kernel_rfl) (by kernel_rfl) hh
def Ld (a:OA) (w:World) (R:RW):Prop:=
 CP 119 #[pointer a] w (fun b c=>
 ∃d,b= .returned (int .i64 d)∧
 ∀f:KW,(∀(g:Int) (h:OA) (i j:Nat) (k:World),(ac (decide (g<d))
 (∀l,l=k.alloc (.cells #[int .i64 g] 3)→
 ∃m n o p,(Builtin.append_ #[28,28] 28 #[slice h i j,slice (some (nb k)) 1 1]).run Tryz.prog l= .ok (slice m n o) p∧
 Ar .i64 (g+1) (fun q=>
 f [int .i64 q,slice m n o] p))
 (CP 120 #[pointer a] k (fun r s=>
 ∃t,r= .returned (pointer t)∧
 CP 121 #[pointer t] s (fun u x=>
 ∃y z a1,u= .returned (slice y z a1)∧
 ∀b1:KW,(∀(c1:Int) (d1:OA) (e1 f1:Nat) (g1:World),(ac (decide (c1< (z:Int)))
 (ag y (fun h1=>
 (0:Int)≤c1∧c1< (z:Int)∧
 ∃i1 j1,(g1.cell? (h1.add (c1.toNat*2))=some (int .i64 i1)∧g1.cell? ((h1.add (c1.toNat*2)).add 1)=some (string j1)∧True)∧
 ∀k1,k1=g1.alloc (.cells #[int .i64 0,string ⟨#[]⟩] 75)→
 bo k1 (nb g1) (fun l1=>
 ∃m1,l1.cell? ((nb g1).add 0)=some (int .i64 m1)∧
 ∀n1,n1=l1.alloc (.cells #[int .i64 m1] 3)→
 ∃o1 p1 q1 r1,(Builtin.append_ #[28,28] 28 #[slice d1 e1 f1,slice (some (nb l1)) 1 1]).run Tryz.prog n1= .ok (slice o1 p1 q1) r1∧
 Ar .i64 (c1+1) (fun s1=>
 b1 [int .i64 s1,slice o1 p1 q1] r1)) [int .i64 i1,string j1] 0))
 (CP 122 #[slice d1 e1 f1] g1 (fun t1 u1=>
 t1= .returned (tuple #[])∧
 R (slice d1 e1 f1) u1)))→b1 [int .i64 c1,slice d1 e1 f1] g1)→
 b1 [int .i64 0,slice h i j] x))))→f [int .i64 g,slice h i j] k)→
 f [int .i64 0,slice none 0 0] c)
theorem y8 (a:OA) (w:World) (R:RW) (hh:Ld a w R):CR 61 #[pointer a] w R:=
 aC (fn:=Tryz.f61) (by kernel_rfl) (by kernel_rfl) (by kernel_rfl) (by kernel_rfl) (by kernel_rfl) hh
def Lg (a:Int) (b:Value) (w:World) (R:RW):Prop:=
 Ar .i64 (a+64) (fun c=>
 Ar .i64 (c-1) (fun d=>
 (64:Int)≠0∧
 ∃f g h i,(Instr.makeSlice 130 (int .i64 (IntKind.wrap .i64 (Int.tdiv d 64))) (int .i64 (IntKind.wrap .i64 (Int.tdiv d 64)))).run Tryz.prog w= .ok (slice f g h) i∧
 ∀j:KW,(∀(k:Int) (l:World),(ac (decide (k<a))
 (∀m:KW,(∀n:World,(Ar .i64 (k+1) (fun o=>
 j [int .i64 o] n))→m [] n)→
 bk fA b [int .i64 k] l (fun p q=>
 ∃r,p= .returned (bool r)∧
 ac r
 (CP 146 #[slice f g h,int .i64 k] q (fun s t=>
 s= .returned (tuple #[])∧
 m [] t))
 (m [] q)))
 (R (slice f g h) l))→j [int .i64 k] l)→
 j [int .i64 0] i))
theorem xC (a:Int) (b:Value) (w:World) (R:RW) (hh:Lg a b w R):CR 71 #[int .i64 a,b] w R:=
 aC (fn:=Tryz.f71) (by kernel_rfl) (by kernel_rfl) (by kernel_rfl) (by kernel_rfl) (by kernel_rfl) hh
def Lz (a:Int) (b c:OA) (w:World) (R:RW):Prop:=
 ∀d,d=w.drew→
 ag b (fun f=>
 ∃g,d.cell? f=some (pointer g)∧
 ag c (fun h=>
 ∃i j k,d.cell? h=some (slice i j k)∧
 ag i (fun l=>
 (0:Int)≤a∧a< (j:Int)∧
 ∃m,d.cell? (l.add (a.toNat*1))=some (int .i64 m)∧
 CP 73 #[pointer g,int .i64 m] d (fun n o=>
 ∃p,n= .returned (bool p)∧
 R (bool p) o))))
theorem xv (a:Int) (b c:OA) (w:World) (R:RW) (hh:Lz a b c w R):CR 72 #[int .i64 a,pointer b,pointer c] w R:=
 aC (fn:=Tryz.f72) (by kernel_rfl) (by kernel_rfl) (by kernel_rfl) (by kernel_rfl) (by kernel_rfl) hh
def KZ (a:Int) (b c d f g:OA) (w:World) (R:RW):Prop:=
 ∀h,h=w.drew→
 ag b (fun i=>
 ∃j,h.cell? i=some (pointer j)∧
 ag j (fun k=>
 ∃l m n,h.cell? (k.add 3)=some (slice l m n)∧
 ag c (fun o=>
 ∃p,h.cell? o=some (int .i64 p)∧
 CP 75 #[slice l m n,int .i64 p] h (fun q r=>
 ∃s,q= .returned (bool s)∧
 ac s
 (ag b (fun t=>
 ∃u,r.cell? t=some (pointer u)∧
 ag u (fun x=>
 ∃y z a1,r.cell? (x.add 3)=some (slice y z a1)∧
 CP 75 #[slice y z a1,int .i64 a] r (fun b1 c1=>
 ∃d1,b1= .returned (bool d1)∧
 ac d1
 (ag d (fun e1=>
 ∃f1,c1.cell? e1=some (pointer f1)∧
 ag f (fun g1=>
 ∃h1,c1.cell? g1=some (int .i64 h1)∧
 ag g (fun i1=>
 ∃j1 k1 l1,c1.cell? i1=some (slice j1 k1 l1)∧
 ag j1 (fun m1=>
 (0:Int)≤a∧a< (k1:Int)∧
 ∃n1,c1.cell? (m1.add (a.toNat*1))=some (int .i64 n1)∧
 CP 76 #[pointer f1,int .i64 h1,int .i64 n1] c1 (fun o1 p1=>
 ∃q1,o1= .returned (bool q1)∧
 R (bool q1) p1))))))
 (R (bool false) c1)))))
 (R (bool false) r)))))
theorem yM (a:Int) (b c d f g:OA) (w:World) (R:RW) (hh:KZ a b c d f g w R):CR 74 #[int .i64 a,pointer b,pointer c,pointer d,pointer f,pointer g] w R:=
 aC (fn:=Tryz.f74) (by kernel_rfl) (by kernel_rfl) (by kernel_rfl) (by kernel_rfl) (by kernel_rfl) hh
def HH (a:OA) (b c:Nat) (d:Int) (w:World) (R:RW):Prop:=
 (64:Int)≠0∧
 ag a (fun f=>
 (0:Int)≤(IntKind.wrap .i64 (Int.tdiv d 64))∧(IntKind.wrap .i64 (Int.tdiv d 64)) < (b:Int)∧
 ∃g,w.cell? (f.add ((IntKind.wrap .i64 (Int.tdiv d 64):Int).toNat*1))=some (int .u64 g)∧
 (64:Int)≠0∧
 (0:Int)≤(Int.tmod d 64)∧
 R (bool ((IntKind.wrap .u64 ((BitVec.ofInt (IntKind.bits .u64) (Int.fdiv g (2^(min (Int.tmod d 64:Int).toNat (IntKind.bits .u64))))&&&BitVec.ofInt (IntKind.bits .u64) 1).toNat:Int):Int)==1)) w)
theorem yQ (a:OA) (b c:Nat) (d:Int) (w:World) (R:RW) (hh:HH a b c d w R):CR 75 #[slice a b c,int .i64 d] w R:=
 aC (fn:=Tryz.f75) (by kernel_rfl) (by kernel_rfl) (by kernel_rfl) (by kernel_rfl) (by kernel_rfl) hh
def K9 (a:OA) (b c:Int) (w:World) (R:RW):Prop:=
 CP 73 #[pointer a,int .i64 b] w (fun d f=>
 ∃g,d= .returned (bool g)∧
 ac g
 (CP 73 #[pointer a,int .i64 c] f (fun h i=>
 ∃j,h= .returned (bool j)∧
 ac j
 (CP 150 #[pointer a,int .i64 b,int .i64 c] i (fun k l=>
 ∃m,k= .returned (bool m)∧
 R (bool m) l))
 (R (bool false) i)))
 (R (bool false) f))
theorem yb (a:OA) (b c:Int) (w:World) (R:RW) (hh:K9 a b c w R):CR 76 #[pointer a,int .i64 b,int .i64 c] w R:=
 aC (fn:=Tryz.f76) (by kernel_rfl) (by kernel_rfl) (by kernel_rfl) (by kernel_rfl) (by kernel_rfl) hh
def Lp (a:OA) (b:Int) (w:World) (R:RW):Prop:=
 CP 20 #[pointer a,int .i64 b] w (fun c d=>
 ∃f g,c= .returned (tuple #[int .i64 f,bool g])∧
 ac g
 (ag a (fun h=>
 ∃i j k,d.cell? (h.add 3)=some (slice i j k)∧
 CP 75 #[slice i j k,int .i64 f] d (fun l m=>
 ∃n,l= .returned (bool n)∧
 R (bool n) m)))
 (R (bool false) d))
theorem xw (a:OA) (b:Int) (w:World) (R:RW) (hh:Lp a b w R):CR 90 #[pointer a,int .i64 b] w R:=
 aC (fn:=Tryz.f90) (by kernel_rfl) (by kernel_rfl) (by kernel_rfl) (by kernel_rfl) (by kernel_rfl) hh
def II (a:OA) (b:Int) (w:World) (R:RW):Prop:=
 CP 20 #[pointer a,int .i64 b] w (fun c d=>
 ∃f g,c= .returned (tuple #[int .i64 f,bool g])∧
 ac (!g)
 (R (slice none 0 0) d)
 (ag a (fun h=>
 ∃i j k,d.cell? (h.add 2)=some (slice i j k)∧
 ag i (fun l=>
 (0:Int)≤f∧f< (j:Int)∧
 ∃m n o,d.cell? (l.add (f.toNat*1))=some (slice m n o)∧
 CP 162 #[slice m n o] d (fun p q=>
 ∃r s t,p= .returned (slice r s t)∧
 R (slice r s t) q)))))
theorem uD (a:OA) (b:Int) (w:World) (R:RW) (hh:II a b w R):CR 103 #[pointer a,int .i64 b] w R:=
 aC (fn:=Tryz.f103) (by kernel_rfl) (by kernel_rfl) (by kernel_rfl) (by kernel_rfl) (by kernel_rfl) hh
def JW (a:OA) (w:World) (R:RW):Prop:=
 ac (Option.isNone a)
 (R (slice none 0 0) w)
 (ag a (fun b=>
 ∃c d f,w.cell? (b.add 0)=some (slice c d f)∧
 CP 169 #[slice c d f] w (fun g h=>
 ∃i j k,g= .returned (slice i j k)∧
 R (slice i j k) h)))
theorem vQ (a:OA) (w:World) (R:RW) (hh:JW a w R):CR 121 #[pointer a] w R:=
 aC (fn:=Tryz.f121) (by kernel_rfl) (by kernel_rfl) (by kernel_rfl) (by kernel_rfl) (by kernel_rfl) hh
def Gu (a:OA) (b c:Nat) (w:World) (R:RW):Prop:=
 CP 171 #[int .u64 (IntKind.wrap .u64 (b:Int))] w (fun d f=>
 ∃g,d= .returned (int .i64 g)∧
 CP 170 #[slice a b c,int .i64 0,int .i64 (b:Int),int .i64 g] f (fun h i=>
 h= .returned (tuple #[])∧
 R (tuple #[]) i))
theorem wJ (a:OA) (b c:Nat) (w:World) (R:RW) (hh:Gu a b c w R):CR 122 #[slice a b c] w R:=
 aC (fn:=Tryz.f122) (by kernel_rfl) (by kernel_rfl) (by kernel_rfl) (by kernel_rfl) (by kernel_rfl) hh
def IU (a:OA) (b c:Nat) (d:Int) (w:World) (R:RW):Prop:=
 ∀f,f=w.drew→
 (64:Int)≠0∧
 ag a (fun g=>
 (0:Int)≤(IntKind.wrap .i64 (Int.tdiv d 64))∧(IntKind.wrap .i64 (Int.tdiv d 64)) < (b:Int)∧
 ∃h,f.cell? (g.add ((IntKind.wrap .i64 (Int.tdiv d 64):Int).toNat*1))=some (int .u64 h)∧
 (64:Int)≠0∧
 (0:Int)≤(Int.tmod d 64)∧
 ag a (fun i=>
 (0:Int)≤(IntKind.wrap .i64 (Int.tdiv d 64))∧(IntKind.wrap .i64 (Int.tdiv d 64)) < (b:Int)∧
 (int .u64 (IntKind.wrap .u64 ((BitVec.ofInt (IntKind.bits .u64) h|||BitVec.ofInt (IntKind.bits .u64) (IntKind.wrap .u64 ((1:Int)*2^(min (Int.tmod d 64:Int).toNat (IntKind.bits .u64))))).toNat:Int))).oneCell'=true∧(∃u,f.cell? (i.add ((IntKind.wrap .i64 (Int.tdiv d 64):Int).toNat*1))=some u)∧f.frozen? (i.add ((IntKind.wrap .i64 (Int.tdiv d 64):Int).toNat*1))=false∧
 ∀j,j=(f.setCell (i.add ((IntKind.wrap .i64 (Int.tdiv d 64):Int).toNat*1)) (int .u64 (IntKind.wrap .u64 ((BitVec.ofInt (IntKind.bits .u64) h|||BitVec.ofInt (IntKind.bits .u64) (IntKind.wrap .u64 ((1:Int)*2^(min (Int.tmod d 64:Int).toNat (IntKind.bits .u64))))).toNat:Int))))→
 R (tuple #[]) j))
theorem wd (a:OA) (b c:Nat) (d:Int) (w:World) (R:RW) (hh:IU a b c d w R):CR 146 #[slice a b c,int .i64 d] w R:=
 aC (fn:=Tryz.f146) (by kernel_rfl) (by kernel_rfl) (by kernel_rfl) (by kernel_rfl) (by kernel_rfl) hh
def Jj (a:Int) (w:World) (R:RW):Prop:=
 R (bool (a != a)) w
theorem sW (a:Int) (w:World) (R:RW) (hh:Jj a w R):CR 158 #[int .i64 a] w R:=
 aC (fn:=Tryz.f158) (by kernel_rfl) (by kernel_rfl) (by kernel_rfl) (by kernel_rfl) (by kernel_rfl) hh
def IQ (a:OA) (b c:Nat) (w:World) (R:RW):Prop:=
 ac (Option.isNone a)
 (R (slice none 0 0) w)
 (∀d,d=w.alloc (.cells #[] 59)→
 ∃f g h i,(Builtin.append_ #[130,130] 130 #[slice (some (nb w)) 0 0,slice a b c]).run Tryz.prog d= .ok (slice f g h) i∧
 R (slice f g h) i)
theorem vq (a:OA) (b c:Nat) (w:World) (R:RW) (hh:IQ a b c w R):CR 162 #[slice a b c] w R:=
 aC (fn:=Tryz.f162) (by kernel_rfl) (by kernel_rfl) (by kernel_rfl) (by kernel_rfl) (by kernel_rfl) hh
def Iz (a:OA) (b c:Nat) (d f g:Int) (w:World) (R:RW):Prop:=
 ∀h:KW,(∀(i j:Bool) (k l m:Int) (n:World),(∀o:KW,(∀(p q:Bool) (r s t:Int) (u:World),(h [bool p,bool q,int .i64 r,int .i64 s,int .i64 t] u)→o [bool p,bool q,int .i64 r,int .i64 s,int .i64 t] u)→
 Ar .i64 (l-k) (fun x=>
 ac (decide (x≤12))
 (CP 218 #[slice a b c,int .i64 k,int .i64 l] n (fun y z=>
 y= .returned (tuple #[])∧
 R (tuple #[]) z))
 (ac (m==0)
 (CP 219 #[slice a b c,int .i64 k,int .i64 l] n (fun a1 b1=>
 a1= .returned (tuple #[])∧
 R (tuple #[]) b1))
 (∀c1:KW,(∀(d1:Int) (e1:World),(CP 221 #[slice a b c,int .i64 k,int .i64 l] e1 (fun f1 g1=>
 ∃h1 i1,f1= .returned (tuple #[int .i64 h1,int .i64 i1])∧
 ∀j1:KW,(∀(k1 l1:Int) (m1:World),(∀n1:KW,(∀o1:World,(∀p1,p1=o1.drew→
 ac (decide (k>0))
 (Ar .i64 (k-1) (fun q1=>
 ag a (fun r1=>
 (0:Int)≤q1∧q1< (b:Int)∧
 ∃s1,p1.cell? (r1.add (q1.toNat*1))=some (int .i64 s1)∧
 ag a (fun t1=>
 (0:Int)≤l1∧l1< (b:Int)∧
 ∃u1,p1.cell? (t1.add (l1.toNat*1))=some (int .i64 u1)∧
 CP 224 #[int .i64 s1,int .i64 u1] p1 (fun v1 x1=>
 ∃y1,v1= .returned (bool y1)∧
 ac (!y1)
 (CP 225 #[slice a b c,int .i64 k,int .i64 l,int .i64 l1] x1 (fun z1 a2=>
 ∃b2,z1= .returned (int .i64 b2)∧
 o [bool i,bool j,int .i64 b2,int .i64 l,int .i64 d1] a2))
 (CP 226 #[slice a b c,int .i64 k,int .i64 l,int .i64 l1] x1 (fun c2 d2=>
 ∃e2 f2,c2= .returned (tuple #[int .i64 e2,bool f2])∧
 Ar .i64 (e2-k) (fun g2=>
 Ar .i64 (l-e2) (fun h2=>
 (8:Int)≠0∧
 ac (decide (g2<h2))
 (CP 170 #[slice a b c,int .i64 k,int .i64 e2,int .i64 d1] d2 (fun i2 j2=>
 i2= .returned (tuple #[])∧
 Ar .i64 (e2+1) (fun k2=>
 o [bool f2,bool (decide (g2≥(IntKind.wrap .i64 (Int.tdiv x 8)))),int .i64 k2,int .i64 l,int .i64 d1] j2)))
 (Ar .i64 (e2+1) (fun l2=>
 CP 170 #[slice a b c,int .i64 l2,int .i64 l,int .i64 d1] d2 (fun m2 n2=>
 m2= .returned (tuple #[])∧
 o [bool f2,bool (decide (h2≥(IntKind.wrap .i64 (Int.tdiv x 8)))),int .i64 k,int .i64 e2,int .i64 d1] n2))))))))))))
 (CP 226 #[slice a b c,int .i64 k,int .i64 l,int .i64 l1] p1 (fun o2 p2=>
 ∃q2 r2,o2= .returned (tuple #[int .i64 q2,bool r2])∧
 Ar .i64 (q2-k) (fun s2=>
 Ar .i64 (l-q2) (fun t2=>
 (8:Int)≠0∧
 ac (decide (s2<t2))
 (CP 170 #[slice a b c,int .i64 k,int .i64 q2,int .i64 d1] p2 (fun u2 v2=>
 u2= .returned (tuple #[])∧
 Ar .i64 (q2+1) (fun x2=>
 o [bool r2,bool (decide (s2≥(IntKind.wrap .i64 (Int.tdiv x 8)))),int .i64 x2,int .i64 l,int .i64 d1] v2)))
 (Ar .i64 (q2+1) (fun y2=>
 CP 170 #[slice a b c,int .i64 y2,int .i64 l,int .i64 d1] p2 (fun z2 a3=>
 z2= .returned (tuple #[])∧
 o [bool r2,bool (decide (t2≥(IntKind.wrap .i64 (Int.tdiv x 8)))),int .i64 k,int .i64 q2,int .i64 d1] a3))))))))→n1 [] o1)→
 ac j
 (ac i
 (ac (k1==1)
 (CP 223 #[slice a b c,int .i64 k,int .i64 l] m1 (fun b3 c3=>
 ∃d3,b3= .returned (bool d3)∧
 ac d3
 (R (tuple #[]) c3)
 (n1 [] c3)))
 (n1 [] m1))
 (n1 [] m1))
 (n1 [] m1))→j1 [int .i64 k1,int .i64 l1] m1)→
 ac (i1==2)
 (CP 222 #[slice a b c,int .i64 k,int .i64 l] g1 (fun e3 f3=>
 e3= .returned (tuple #[])∧
 Ar .i64 (l-1) (fun g3=>
 Ar .i64 (h1-k) (fun h3=>
 Ar .i64 (g3-h3) (fun i3=>
 j1 [int .i64 1,int .i64 i3] f3)))))
 (j1 [int .i64 i1,int .i64 h1] g1)))→c1 [int .i64 d1] e1)→
 ac (!j)
 (CP 220 #[slice a b c,int .i64 k,int .i64 l] n (fun j3 k3=>
 j3= .returned (tuple #[])∧
 Ar .i64 (m-1) (fun l3=>
 c1 [int .i64 l3] k3)))
 (c1 [int .i64 m] n)))))→h [bool i,bool j,int .i64 k,int .i64 l,int .i64 m] n)→
 h [bool true,bool true,int .i64 d,int .i64 f,int .i64 g] w
theorem wY (a:OA) (b c:Nat) (d f g:Int) (w:World) (R:RW) (hh:Iz a b c d f g w R):CR 170 #[slice a b c,int .i64 d,int .i64 f,int .i64 g] w R:=
 aC (fn:=Tryz.f170) (by kernel_rfl) (by kernel_rfl) (by kernel_rfl) (by kernel_rfl) (by kernel_rfl) hh
def Iy (a:Int) (w:World) (R:RW):Prop:=
 CP 228 #[int .u64 a] w (fun b c=>
 ∃d,b= .returned (int .i64 d)∧
 R (int .i64 d) c)
theorem t_ (a:Int) (w:World) (R:RW) (hh:Iy a w R):CR 171 #[int .u64 a] w R:=
 aC (fn:=Tryz.f171) (by kernel_rfl) (by kernel_rfl) (by kernel_rfl) (by kernel_rfl) (by kernel_rfl) hh
def Ka (a:OA) (b c:Nat) (d f:Int) (w:World) (R:RW):Prop:=
 Ar .i64 (f-d) (fun g=>
 ∀h,h=w.alloc (.cells #[int .i64 0] 3)→
 (4:Int)≠0∧
 Ar .i64 ((IntKind.wrap .i64 (Int.tdiv g 4):Int)*1) (fun i=>
 Ar .i64 (d+i) (fun j=>
 (4:Int)≠0∧
 Ar .i64 ((IntKind.wrap .i64 (Int.tdiv g 4):Int)*2) (fun k=>
 Ar .i64 (d+k) (fun l=>
 (4:Int)≠0∧
 Ar .i64 ((IntKind.wrap .i64 (Int.tdiv g 4):Int)*3) (fun m=>
 Ar .i64 (d+m) (fun n=>
 ∀o:KW,(∀(p q r:Int) (s:World),(∃t,s.cell? (nb w)=some (int .i64 t)∧
 ac (t==0)
 (R (tuple #[int .i64 q,int .i64 1]) s)
 (ac (t==12)
 (R (tuple #[int .i64 q,int .i64 2]) s)
 (R (tuple #[int .i64 q,int .i64 0]) s)))→o [int .i64 p,int .i64 q,int .i64 r] s)→
 ac (decide (g≥8))
 (∀u:KW,(∀(x y z:Int) (a1:World),(CP 255 #[slice a b c,int .i64 z,int .i64 y,int .i64 x,pointer (some (nb w))] a1 (fun b1 c1=>
 ∃d1,b1= .returned (int .i64 d1)∧
 o [int .i64 x,int .i64 d1,int .i64 z] c1))→u [int .i64 x,int .i64 y,int .i64 z] a1)→
 ac (decide (g≥50))
 (CP 254 #[slice a b c,int .i64 j,pointer (some (nb w))] h (fun e1 f1=>
 ∃g1,e1= .returned (int .i64 g1)∧
 CP 254 #[slice a b c,int .i64 l,pointer (some (nb w))] f1 (fun h1 i1=>
 ∃j1,h1= .returned (int .i64 j1)∧
 CP 254 #[slice a b c,int .i64 n,pointer (some (nb w))] i1 (fun k1 l1=>
 ∃m1,k1= .returned (int .i64 m1)∧
 u [int .i64 m1,int .i64 j1,int .i64 g1] l1))))
 (u [int .i64 n,int .i64 l,int .i64 j] h))
 (o [int .i64 n,int .i64 l,int .i64 j] h))))))))
theorem tE (a:OA) (b c:Nat) (d f:Int) (w:World) (R:RW) (hh:Ka a b c d f w R):CR 221 #[slice a b c,int .i64 d,int .i64 f] w R:=
 aC (fn:=Tryz.f221) (by kernel_rfl) (by kernel_rfl) (by kernel_rfl) (by kernel_rfl) (by kernel_rfl) hh
def Ia (a:OA) (b c:Nat) (d f:Int) (w:World) (R:RW):Prop:=
 Ar .i64 (d+1) (fun g=>
 ∀h:KW,(∀(i j:Int) (k:Bool) (l:World),(ac (decide (i<5))
 (∀m:KW,(∀(n:Int) (o:Bool) (p:World),(Ar .i64 (i+1) (fun q=>
 h [int .i64 q,int .i64 n,bool o] p))→m [int .i64 n,bool o] p)→
 ∀r:KW,(∀(s:Int) (t:World),(∀x,x=t.drew→
 ac (decide (s<f))
 (ag a (fun y=>
 (0:Int)≤s∧s< (b:Int)∧
 ∃z,x.cell? (y.add (s.toNat*1))=some (int .i64 z)∧
 Ar .i64 (s-1) (fun a1=>
 ag a (fun b1=>
 (0:Int)≤a1∧a1< (b:Int)∧
 ∃c1,x.cell? (b1.add (a1.toNat*1))=some (int .i64 c1)∧
 CP 224 #[int .i64 z,int .i64 c1] x (fun d1 e1=>
 ∃f1,d1= .returned (bool f1)∧
 ac (!f1)
 (Ar .i64 (s+1) (fun g1=>
 r [int .i64 g1] e1))
 (ac (s==f)
 (R (bool true) e1)
 (Ar .i64 (f-d) (fun h1=>
 ac (decide (h1<50))
 (R (bool false) e1)
 (∀i1,i1=e1.drew→
 Ar .i64 (s-1) (fun j1=>
 Ar .i64 (s-1) (fun k1=>
 ag a (fun l1=>
 (0:Int)≤k1∧k1< (b:Int)∧
 ∃m1,i1.cell? (l1.add (k1.toNat*1))=some (int .i64 m1)∧
 ag a (fun n1=>
 (0:Int)≤s∧s< (b:Int)∧
 ∃o1,i1.cell? (n1.add (s.toNat*1))=some (int .i64 o1)∧
 ag a (fun p1=>
 (0:Int)≤s∧s< (b:Int)∧
 (int .i64 m1).oneCell'=true∧(∃u,i1.cell? (p1.add (s.toNat*1))=some u)∧i1.frozen? (p1.add (s.toNat*1))=false∧
 ∀q1,q1=(i1.setCell (p1.add (s.toNat*1)) (int .i64 m1))→
 ag a (fun r1=>
 (0:Int)≤j1∧j1< (b:Int)∧
 (int .i64 o1).oneCell'=true∧(∃u,q1.cell? (r1.add (j1.toNat*1))=some u)∧q1.frozen? (r1.add (j1.toNat*1))=false∧
 ∀s1,s1=(q1.setCell (r1.add (j1.toNat*1)) (int .i64 o1))→
 ∀t1:KW,(∀u1:World,(Ar .i64 (f-s) (fun v1=>
 ac (decide (v1≥2))
 (Ar .i64 (s+1) (fun x1=>
 ∀y1:KW,(∀(z1:Int) (a2:World),(m [int .i64 s,bool k] a2)→y1 [int .i64 z1] a2)→
 ∀b2:KW,(∀(c2:Int) (d2:World),(ac (decide (c2<f))
 (∀e2,e2=d2.drew→
 ag a (fun f2=>
 (0:Int)≤c2∧c2< (b:Int)∧
 ∃g2,e2.cell? (f2.add (c2.toNat*1))=some (int .i64 g2)∧
 Ar .i64 (c2-1) (fun h2=>
 ag a (fun i2=>
 (0:Int)≤h2∧h2< (b:Int)∧
 ∃j2,e2.cell? (i2.add (h2.toNat*1))=some (int .i64 j2)∧
 CP 224 #[int .i64 g2,int .i64 j2] e2 (fun k2 l2=>
 ∃m2,k2= .returned (bool m2)∧
 ac (!m2)
 (y1 [int .i64 c2] l2)
 (∀n2,n2=l2.drew→
 Ar .i64 (c2-1) (fun o2=>
 Ar .i64 (c2-1) (fun p2=>
 ag a (fun q2=>
 (0:Int)≤p2∧p2< (b:Int)∧
 ∃r2,n2.cell? (q2.add (p2.toNat*1))=some (int .i64 r2)∧
 ag a (fun s2=>
 (0:Int)≤c2∧c2< (b:Int)∧
 ∃t2,n2.cell? (s2.add (c2.toNat*1))=some (int .i64 t2)∧
 ag a (fun u2=>
 (0:Int)≤c2∧c2< (b:Int)∧
 (int .i64 r2).oneCell'=true∧(∃u,n2.cell? (u2.add (c2.toNat*1))=some u)∧n2.frozen? (u2.add (c2.toNat*1))=false∧
 ∀v2,v2=(n2.setCell (u2.add (c2.toNat*1)) (int .i64 r2))→
 ag a (fun x2=>
 (0:Int)≤o2∧o2< (b:Int)∧
 (int .i64 t2).oneCell'=true∧(∃u,v2.cell? (x2.add (o2.toNat*1))=some u)∧v2.frozen? (x2.add (o2.toNat*1))=false∧
 ∀y2,y2=(v2.setCell (x2.add (o2.toNat*1)) (int .i64 t2))→
 Ar .i64 (c2+1) (fun z2=>
 b2 [int .i64 z2] y2)))))))))))))
 (y1 [int .i64 c2] d2))→b2 [int .i64 c2] d2)→
 b2 [int .i64 x1] u1))
 (m [int .i64 s,bool k] u1)))→t1 [] u1)→
 Ar .i64 (s-d) (fun a3=>
 ac (decide (a3≥2))
 (Ar .i64 (s-1) (fun b3=>
 ∀c3:KW,(∀(d3:Int) (e3:World),(t1 [] e3)→c3 [int .i64 d3] e3)→
 ∀f3:KW,(∀(g3:Int) (h3:World),(ac (decide (g3≥1))
 (∀i3,i3=h3.drew→
 ag a (fun j3=>
 (0:Int)≤g3∧g3< (b:Int)∧
 ∃k3,i3.cell? (j3.add (g3.toNat*1))=some (int .i64 k3)∧
 Ar .i64 (g3-1) (fun l3=>
 ag a (fun m3=>
 (0:Int)≤l3∧l3< (b:Int)∧
 ∃n3,i3.cell? (m3.add (l3.toNat*1))=some (int .i64 n3)∧
 CP 224 #[int .i64 k3,int .i64 n3] i3 (fun o3 p3=>
 ∃q3,o3= .returned (bool q3)∧
 ac (!q3)
 (c3 [int .i64 g3] p3)
 (∀r3,r3=p3.drew→
 Ar .i64 (g3-1) (fun s3=>
 Ar .i64 (g3-1) (fun t3=>
 ag a (fun u3=>
 (0:Int)≤t3∧t3< (b:Int)∧
 ∃v3,r3.cell? (u3.add (t3.toNat*1))=some (int .i64 v3)∧
 ag a (fun x3=>
 (0:Int)≤g3∧g3< (b:Int)∧
 ∃y3,r3.cell? (x3.add (g3.toNat*1))=some (int .i64 y3)∧
 ag a (fun z3=>
 (0:Int)≤g3∧g3< (b:Int)∧
 (int .i64 v3).oneCell'=true∧(∃u,r3.cell? (z3.add (g3.toNat*1))=some u)∧r3.frozen? (z3.add (g3.toNat*1))=false∧
 ∀a4,a4=(r3.setCell (z3.add (g3.toNat*1)) (int .i64 v3))→
 ag a (fun b4=>
 (0:Int)≤s3∧s3< (b:Int)∧
 (int .i64 y3).oneCell'=true∧(∃u,a4.cell? (b4.add (s3.toNat*1))=some u)∧a4.frozen? (b4.add (s3.toNat*1))=false∧
 ∀c4,c4=(a4.setCell (b4.add (s3.toNat*1)) (int .i64 y3))→
 Ar .i64 (g3-1) (fun d4=>
 f3 [int .i64 d4] c4)))))))))))))
 (c3 [int .i64 g3] h3))→f3 [int .i64 g3] h3)→
 f3 [int .i64 b3] s1))
 (t1 [] s1)))))))))))))))))
 (ac (s==f)
 (R (bool true) x)
 (Ar .i64 (f-d) (fun e4=>
 ac (decide (e4<50))
 (R (bool false) x)
 (∀f4,f4=x.drew→
 Ar .i64 (s-1) (fun g4=>
 Ar .i64 (s-1) (fun h4=>
 ag a (fun i4=>
 (0:Int)≤h4∧h4< (b:Int)∧
 ∃j4,f4.cell? (i4.add (h4.toNat*1))=some (int .i64 j4)∧
 ag a (fun k4=>
 (0:Int)≤s∧s< (b:Int)∧
 ∃l4,f4.cell? (k4.add (s.toNat*1))=some (int .i64 l4)∧
 ag a (fun m4=>
 (0:Int)≤s∧s< (b:Int)∧
 (int .i64 j4).oneCell'=true∧(∃u,f4.cell? (m4.add (s.toNat*1))=some u)∧f4.frozen? (m4.add (s.toNat*1))=false∧
 ∀n4,n4=(f4.setCell (m4.add (s.toNat*1)) (int .i64 j4))→
 ag a (fun o4=>
 (0:Int)≤g4∧g4< (b:Int)∧
 (int .i64 l4).oneCell'=true∧(∃u,n4.cell? (o4.add (g4.toNat*1))=some u)∧n4.frozen? (o4.add (g4.toNat*1))=false∧
 ∀p4,p4=(n4.setCell (o4.add (g4.toNat*1)) (int .i64 l4))→
 ∀q4:KW,(∀r4:World,(Ar .i64 (f-s) (fun s4=>
 ac (decide (s4≥2))
 (Ar .i64 (s+1) (fun t4=>
 ∀u4:KW,(∀(v4:Int) (x4:World),(m [int .i64 s,bool k] x4)→u4 [int .i64 v4] x4)→
 ∀y4:KW,(∀(z4:Int) (a5:World),(ac (decide (z4<f))
 (∀b5,b5=a5.drew→
 ag a (fun c5=>
 (0:Int)≤z4∧z4< (b:Int)∧
 ∃d5,b5.cell? (c5.add (z4.toNat*1))=some (int .i64 d5)∧
 Ar .i64 (z4-1) (fun e5=>
 ag a (fun f5=>
 (0:Int)≤e5∧e5< (b:Int)∧
 ∃g5,b5.cell? (f5.add (e5.toNat*1))=some (int .i64 g5)∧
 CP 224 #[int .i64 d5,int .i64 g5] b5 (fun h5 i5=>
 ∃j5,h5= .returned (bool j5)∧
 ac (!j5)
 (u4 [int .i64 z4] i5)
 (∀k5,k5=i5.drew→
 Ar .i64 (z4-1) (fun l5=>
 Ar .i64 (z4-1) (fun m5=>
 ag a (fun n5=>
 (0:Int)≤m5∧m5< (b:Int)∧
 ∃o5,k5.cell? (n5.add (m5.toNat*1))=some (int .i64 o5)∧
 ag a (fun p5=>
 (0:Int)≤z4∧z4< (b:Int)∧
 ∃q5,k5.cell? (p5.add (z4.toNat*1))=some (int .i64 q5)∧
 ag a (fun r5=>
 (0:Int)≤z4∧z4< (b:Int)∧
 (int .i64 o5).oneCell'=true∧(∃u,k5.cell? (r5.add (z4.toNat*1))=some u)∧k5.frozen? (r5.add (z4.toNat*1))=false∧
 ∀s5,s5=(k5.setCell (r5.add (z4.toNat*1)) (int .i64 o5))→
 ag a (fun t5=>
 (0:Int)≤l5∧l5< (b:Int)∧
 (int .i64 q5).oneCell'=true∧(∃u,s5.cell? (t5.add (l5.toNat*1))=some u)∧s5.frozen? (t5.add (l5.toNat*1))=false∧
 ∀u5,u5=(s5.setCell (t5.add (l5.toNat*1)) (int .i64 q5))→
 Ar .i64 (z4+1) (fun v5=>
 y4 [int .i64 v5] u5)))))))))))))
 (u4 [int .i64 z4] a5))→y4 [int .i64 z4] a5)→
 y4 [int .i64 t4] r4))
 (m [int .i64 s,bool k] r4)))→q4 [] r4)→
 Ar .i64 (s-d) (fun x5=>
 ac (decide (x5≥2))
 (Ar .i64 (s-1) (fun y5=>
 ∀z5:KW,(∀(a6:Int) (b6:World),(q4 [] b6)→z5 [int .i64 a6] b6)→
 ∀c6:KW,(∀(d6:Int) (e6:World),(ac (decide (d6≥1))
 (∀f6,f6=e6.drew→
 ag a (fun g6=>
 (0:Int)≤d6∧d6< (b:Int)∧
 ∃h6,f6.cell? (g6.add (d6.toNat*1))=some (int .i64 h6)∧
 Ar .i64 (d6-1) (fun i6=>
 ag a (fun j6=>
 (0:Int)≤i6∧i6< (b:Int)∧
 ∃k6,f6.cell? (j6.add (i6.toNat*1))=some (int .i64 k6)∧
 CP 224 #[int .i64 h6,int .i64 k6] f6 (fun l6 m6=>
 ∃n6,l6= .returned (bool n6)∧
 ac (!n6)
 (z5 [int .i64 d6] m6)
 (∀o6,o6=m6.drew→
 Ar .i64 (d6-1) (fun p6=>
 Ar .i64 (d6-1) (fun q6=>
 ag a (fun r6=>
 (0:Int)≤q6∧q6< (b:Int)∧
 ∃s6,o6.cell? (r6.add (q6.toNat*1))=some (int .i64 s6)∧
 ag a (fun t6=>
 (0:Int)≤d6∧d6< (b:Int)∧
 ∃u6,o6.cell? (t6.add (d6.toNat*1))=some (int .i64 u6)∧
 ag a (fun v6=>
 (0:Int)≤d6∧d6< (b:Int)∧
 (int .i64 s6).oneCell'=true∧(∃u,o6.cell? (v6.add (d6.toNat*1))=some u)∧o6.frozen? (v6.add (d6.toNat*1))=false∧
 ∀x6,x6=(o6.setCell (v6.add (d6.toNat*1)) (int .i64 s6))→
 ag a (fun y6=>
 (0:Int)≤p6∧p6< (b:Int)∧
 (int .i64 u6).oneCell'=true∧(∃u,x6.cell? (y6.add (p6.toNat*1))=some u)∧x6.frozen? (y6.add (p6.toNat*1))=false∧
 ∀z6,z6=(x6.setCell (y6.add (p6.toNat*1)) (int .i64 u6))→
 Ar .i64 (d6-1) (fun a7=>
 c6 [int .i64 a7] z6)))))))))))))
 (z5 [int .i64 d6] e6))→c6 [int .i64 d6] e6)→
 c6 [int .i64 y5] p4))
 (q4 [] p4)))))))))))))→r [int .i64 s] t)→
 r [int .i64 j] l)
 (R (bool false) l))→h [int .i64 i,int .i64 j,bool k] l)→
 h [int .i64 0,int .i64 g,bool false] w)
theorem ug (a:OA) (b c:Nat) (d f:Int) (w:World) (R:RW) (hh:Ia a b c d f w R):CR 223 #[slice a b c,int .i64 d,int .i64 f] w R:=
 aC (fn:=Tryz.f223) (by kernel_rfl) (by kernel_rfl) (by kernel_rfl) (by kernel_rfl) (by kernel_rfl) hh
def Jm (a b:Int) (w:World) (R:RW):Prop:=
 CP 158 #[int .i64 a] w (fun c d=>
 ∃f,c= .returned (bool f)∧
 ac f
 (CP 158 #[int .i64 b] d (fun g h=>
 ∃i,g= .returned (bool i)∧
 ac (!i)
 (R (bool true) h)
 (R (bool (decide (a<b))) h)))
 (R (bool (decide (a<b))) d))
theorem uY (a b:Int) (w:World) (R:RW) (hh:Jm a b w R):CR 224 #[int .i64 a,int .i64 b] w R:=
 aC (fn:=Tryz.f224) (by kernel_rfl) (by kernel_rfl) (by kernel_rfl) (by kernel_rfl) (by kernel_rfl) hh
def JZ (a:Int) (w:World) (R:RW):Prop:=
 ∀b:KW,(∀(c d:Int) (f:World),(∀g:KW,(∀(h i:Int) (j:World),(∀k:KW,(∀(l m:Int) (n:World),((0:Int)≤(IntKind.wrap .u8 m)∧(IntKind.wrap .u8 m) < ((⟨#[0,1,2,2,3,3,3,3,4,4,4,4,4,4,4,4,5,5,5,5,5,5,5,5,5,5,5,5,5,5,5,5,6,6,6,6,6,6,6,6,6,6,6,6,6,6,6,6,6,6,6,6,6,6,6,6,6,6,6,6,6,6,6,6,7,7,7,7,7,7,7,7,7,7,7,7,7,7,7,7,7,7,7,7,7,7,7,7,7,7,7,7,7,7,7,7,7,7,7,7,7,7,7,7,7,7,7,7,7,7,7,7,7,7,7,7,7,7,7,7,7,7,7,7,7,7,7,7,8,8,8,8,8,8,8,8,8,8,8,8,8,8,8,8,8,8,8,8,8,8,8,8,8,8,8,8,8,8,8,8,8,8,8,8,8,8,8,8,8,8,8,8,8,8,8,8,8,8,8,8,8,8,8,8,8,8,8,8,8,8,8,8,8,8,8,8,8,8,8,8,8,8,8,8,8,8,8,8,8,8,8,8,8,8,8,8,8,8,8,8,8,8,8,8,8,8,8,8,8,8,8,8,8,8,8,8,8,8,8,8,8,8,8,8,8,8,8,8,8,8,8,8,8,8,8,8]⟩:ByteArray).size:Int)∧
 Ar .i64 (l+(IntKind.wrap .i64 (eS ⟨#[0,1,2,2,3,3,3,3,4,4,4,4,4,4,4,4,5,5,5,5,5,5,5,5,5,5,5,5,5,5,5,5,6,6,6,6,6,6,6,6,6,6,6,6,6,6,6,6,6,6,6,6,6,6,6,6,6,6,6,6,6,6,6,6,7,7,7,7,7,7,7,7,7,7,7,7,7,7,7,7,7,7,7,7,7,7,7,7,7,7,7,7,7,7,7,7,7,7,7,7,7,7,7,7,7,7,7,7,7,7,7,7,7,7,7,7,7,7,7,7,7,7,7,7,7,7,7,7,8,8,8,8,8,8,8,8,8,8,8,8,8,8,8,8,8,8,8,8,8,8,8,8,8,8,8,8,8,8,8,8,8,8,8,8,8,8,8,8,8,8,8,8,8,8,8,8,8,8,8,8,8,8,8,8,8,8,8,8,8,8,8,8,8,8,8,8,8,8,8,8,8,8,8,8,8,8,8,8,8,8,8,8,8,8,8,8,8,8,8,8,8,8,8,8,8,8,8,8,8,8,8,8,8,8,8,8,8,8,8,8,8,8,8,8,8,8,8,8,8,8,8,8,8,8,8,8]⟩ (IntKind.wrap .u8 m)))) (fun o=>
 R (int .i64 o) n))→k [int .i64 l,int .u64 m] n)→
 ac (decide (i≥256))
 ((0:Int)≤8∧
 Ar .i64 (h+8) (fun p=>
 k [int .i64 p,int .u64 (Int.fdiv i (2^(min (8:Int).toNat (IntKind.bits .u64))))] j))
 (k [int .i64 h,int .u64 i] j))→g [int .i64 h,int .u64 i] j)→
 ac (decide (d≥65536))
 ((0:Int)≤16∧
 Ar .i64 (c+16) (fun q=>
 g [int .i64 q,int .u64 (Int.fdiv d (2^(min (16:Int).toNat (IntKind.bits .u64))))] f))
 (g [int .i64 c,int .u64 d] f))→b [int .i64 c,int .u64 d] f)→
 ac (decide (a≥4294967296))
 ((0:Int)≤32∧
 b [int .i64 32,int .u64 (Int.fdiv a (2^(min (32:Int).toNat (IntKind.bits .u64))))] w)
 (b [int .i64 0,int .u64 a] w)
theorem up (a:Int) (w:World) (R:RW) (hh:JZ a w R):CR 228 #[int .u64 a] w R:=
 aC (fn:=Tryz.f228) (by kernel_rfl) (by kernel_rfl) (by kernel_rfl) (by kernel_rfl) (by kernel_rfl) hh
def HT (a:OA) (b c:Nat) (d:Int) (f:OA) (w:World) (R:RW):Prop:=
 Ar .i64 (d-1) (fun g=>
 Ar .i64 (d+1) (fun h=>
 CP 255 #[slice a b c,int .i64 g,int .i64 d,int .i64 h,pointer f] w (fun i j=>
 ∃k,i= .returned (int .i64 k)∧
 R (int .i64 k) j)))
theorem vm (a:OA) (b c:Nat) (d:Int) (f:OA) (w:World) (R:RW) (hh:HT a b c d f w R):CR 254 #[slice a b c,int .i64 d,pointer f] w R:=
 aC (fn:=Tryz.f254) (by kernel_rfl) (by kernel_rfl) (by kernel_rfl) (by kernel_rfl) (by kernel_rfl) hh
def Kc (a:OA) (b c:Nat) (d f g:Int) (h:OA) (w:World) (R:RW):Prop:=
 CP 269 #[slice a b c,int .i64 d,int .i64 f,pointer h] w (fun i j=>
 ∃k l,i= .returned (tuple #[int .i64 k,int .i64 l])∧
 CP 269 #[slice a b c,int .i64 l,int .i64 g,pointer h] j (fun m n=>
 ∃o p,m= .returned (tuple #[int .i64 o,int .i64 p])∧
 CP 269 #[slice a b c,int .i64 k,int .i64 o,pointer h] n (fun q r=>
 ∃s t,q= .returned (tuple #[int .i64 s,int .i64 t])∧
 R (int .i64 t) r)))
theorem wi (a:OA) (b c:Nat) (d f g:Int) (h:OA) (w:World) (R:RW) (hh:Kc a b c d f g h w R):CR 255 #[slice a b c,int .i64 d,int .i64 f,int .i64 g,pointer h] w R:=
 aC (fn:=Tryz.f255) (by kernel_rfl) (by kernel_rfl) (by kernel_rfl) (by kernel_rfl) (by kernel_rfl) hh
def Jn (a:OA) (b c:Nat) (d f:Int) (g:OA) (w:World) (R:RW):Prop:=
 ∀h,h=w.drew→
 ag a (fun i=>
 (0:Int)≤f∧f< (b:Int)∧
 ∃j,h.cell? (i.add (f.toNat*1))=some (int .i64 j)∧
 ag a (fun k=>
 (0:Int)≤d∧d< (b:Int)∧
 ∃l,h.cell? (k.add (d.toNat*1))=some (int .i64 l)∧
 CP 224 #[int .i64 j,int .i64 l] h (fun m n=>
 ∃o,m= .returned (bool o)∧
 ac o
 (ag g (fun p=>
 ∃q,n.cell? p=some (int .i64 q)∧
 Ar .i64 (q+1) (fun r=>
 ag g (fun s=>
 (int .i64 r).oneCell'=true∧(∃u,n.cell? s=some u)∧n.frozen? s=false∧
 ∀t,t=(n.setCell s (int .i64 r))→
 R (tuple #[int .i64 f,int .i64 d]) t))))
 (R (tuple #[int .i64 d,int .i64 f]) n))))
theorem tw (a:OA) (b c:Nat) (d f:Int) (g:OA) (w:World) (R:RW) (hh:Jn a b c d f g w R):CR 269 #[slice a b c,int .i64 d,int .i64 f,pointer g] w R:=
 aC (fn:=Tryz.f269) (by kernel_rfl) (by kernel_rfl) (by kernel_rfl) (by kernel_rfl) (by kernel_rfl) hh
theorem yT (n:Int) (w:World):CP 158 #[.int .i64 n] w fun e w'=>e= .returned (.bool false)∧w'=w:=by
 refine aJ (sW n w) ?_;exact⟨by simp,rfl⟩
theorem rg (x y:Int) (w:World):CP 224 #[.int .i64 x,.int .i64 y] w fun e w'=>e= .returned (.bool (decide (x<y)))∧w'=w:=by
 refine aJ (uY x y w) ?_;refine(yT x w).mono ?_;rintro e w1 ⟨rfl,hw⟩;subst hw;exact⟨_,rfl,ac.no rfl ⟨rfl,rfl⟩⟩
def ke (l:List Int):Prop:=∀(i j:Nat) (hi:i<l.length) (hj:j<l.length),i<j→l[i] <l[j]
section
variable {A:Option Addr} {C:Nat} {l:List Int}
theorem jA (hs:ke l) (w:World) (hr:Rw aK 1 w A l) (i j:Nat) (hij:i<j) (hj:j<l.length) (p:Option Addr):
  CP 269 #[.slice A l.length C,.int .i64 (i:Int),.int .i64 (j:Int),.pointer p] w fun e w'=>e= .returned (.tuple #[.int .i64 (i:Int),.int .i64 (j:Int)])∧Below w.heap.size w w':=by
 refine aJ (tw A l.length C i j p w) ?_;intro w1 hw1;have b1:Below w.heap.size w w1:=by subst hw1;exact aP w
 obtain⟨q,hq,c1⟩:=be (hr.on b1) hj rfl;obtain⟨q',hq',c0⟩:=be (hr.on b1) (show i<l.length by omega) rfl;refine ag.mk q hq ⟨by omega,by omega,_,c1,ag.mk q' hq' ⟨by omega,by omega,_,c0,?_⟩⟩;refine(rg _ _ w1).mono ?_;rintro e w2 ⟨rfl,hw⟩;subst hw;exact⟨_,rfl,ac.no (decide_eq_false (by have:=hs i j (by omega) hj hij;omega)) ⟨rfl,b1⟩⟩
theorem nm (hs:ke l) (hl:l.length≤1000000) (w:World) (hr:Rw aK 1 w A l) (i j k:Nat) (hij:i<j) (hjk:j<k) (hk:k<l.length) (p:Option Addr):
  CP 255 #[.slice A l.length C,.int .i64 (i:Int),.int .i64 (j:Int),.int .i64 (k:Int),.pointer p] w fun e w'=>e= .returned (.int .i64 (j:Int))∧Below w.heap.size w w':=by
 refine aJ (wi A l.length C i j k p w) ?_;refine(jA hs w hr i j hij (by omega) p).mono ?_;rintro e w1 ⟨rfl,b1⟩;refine⟨_,_,rfl,?_⟩;refine(jA hs w1 (hr.on b1) j k hjk hk p).mono ?_;rintro e w2 ⟨rfl,b2⟩;refine⟨_,_,rfl,?_⟩;have b12:=ae b1 b2;refine(jA hs w2 (hr.on b12) i j hij (by omega) p).mono ?_;rintro e w3 ⟨rfl,b3⟩;exact⟨_,_,rfl,rfl,ae b12 b3⟩
theorem gm (hs:ke l) (hl:l.length≤1000000) (w:World) (hr:Rw aK 1 w A l) (j:Nat) (h0:0<j) (hj:j+1<l.length) (p:Option Addr):
  CP 254 #[.slice A l.length C,.int .i64 (j:Int),.pointer p] w fun e w'=>e= .returned (.int .i64 (j:Int))∧Below w.heap.size w w':=by
 refine aJ (vm A l.length C j p w) ?_;refine Ar.nat (j-1) (by omega) (by omega) (Ar.nat (j+1) (by omega) (by omega) ?_);refine(nm hs hl w hr (j-1) j (j+1) (by omega) (by omega) hj p).mono ?_;rintro e w1 ⟨rfl,b1⟩;exact⟨_,rfl,rfl,b1⟩
theorem xO (hs:ke l) (hl:l.length≤1000000) (w:World) (hr:Rw aK 1 w A l) (h50:50≤l.length):
  CP 221 #[.slice A l.length C,.int .i64 0,.int .i64 (l.length:Int)] w fun e w'=>∃n:Int,e= .returned (.tuple #[.int .i64 n,.int .i64 1])∧Below w.heap.size w w':=by
 refine aJ (tE A l.length C 0 l.length w) ?_;refine Ar.nat l.length (by omega) (by omega) ?_;intro w1 hw1;have b1:Below w.heap.size w w1:=by subst hw1;exact ah _ _
 have l1:w1.heap[w.heap.size]? =some (.cells #[.int .i64 0] aW (0,0)):=by subst hw1;exact ao _ _
 have hdiv:IntKind.wrap .i64 (Int.tdiv (l.length:Int) 4)=((l.length/4:Nat):Int):=by
  have:Int.tdiv (l.length:Int) 4=((l.length/4:Nat):Int):=rfl;rw [this];exact dK (by show(-9223372036854775808:Int)≤_;omega) (by show _≤(9223372036854775807:Int);omega)
 rw [hdiv];refine⟨by decide,Ar.nat (l.length/4*1) (by omega) (by omega) (Ar.nat (l.length/4*1) (by omega) (by omega) ⟨by decide,Ar.nat (l.length/4*2) (by omega) (by omega) (Ar.nat (l.length/4*2) (by omega) (by omega) ⟨by decide,Ar.nat (l.length/4*3) (by omega) (by omega) (Ar.nat (l.length/4*3) (by omega) (by omega) ?_)⟩)⟩)⟩;intro J7 hJ7;refine ac.yes (decide_eq_true (by omega)) ?_;intro J9 hJ9;refine ac.yes (decide_eq_true (by omega)) ?_;refine(gm hs hl w1 (hr.on b1) (l.length/4*1) (by omega) (by omega) _).mono ?_;rintro e w2 ⟨rfl,b2⟩;have b12:=ae b1 b2;refine⟨_,rfl,(gm hs hl w2 (hr.on b12) (l.length/4*2) (by omega) (by omega) _).mono ?_⟩;rintro e w3 ⟨rfl,b3⟩;have b13:=ae b12 b3;refine⟨_,rfl,(gm hs hl w3 (hr.on b13) (l.length/4*3) (by omega) (by omega) _).mono ?_⟩;rintro e w4 ⟨rfl,b4⟩;have b14:=ae b13 b4;refine⟨_,rfl,hJ9 _ _ _ _ ((nm hs hl w4 (hr.on b14) (l.length/4*1) (l.length/4*2) (l.length/4*3) (by omega) (by omega) (by omega) _).mono ?_)⟩;rintro e w5 ⟨rfl,b5⟩;have l5:=ai b5 (ai b4 (ai b3 (ai b2 l1)));exact⟨_,rfl,hJ7 _ _ _ _ ⟨0,by rw [aH l5];rfl,ac.yes rfl ⟨_,rfl,ae b14 b5⟩⟩⟩
theorem rI (hs:ke l) (hl:l.length≤1000000) (w:World) (hr:Rw aK 1 w A l) (h0:0<l.length):
  CP 223 #[.slice A l.length C,.int .i64 0,.int .i64 (l.length:Int)] w fun e w'=>e= .returned (.bool true)∧Below w.heap.size w w':=by
 refine aJ (ug A l.length C 0 l.length w) ?_;refine Ar.nat 1 (by omega) (by omega) ?_;intro I1 hI1;refine hI1 _ _ _ _ (ac.yes rfl ?_);intro J2 hJ2;intro I6 hI6;have key:=bC (α:=World) (l.length-1) (fun i q=>Below w.heap.size w q) (fun i q=>I6 [.int .i64 ((i+1:Nat):Int)] q) w (Below.refl _ _) ?_ ?_
 ·exact key
 ·rintro i hi ih q hB;refine hI6 _ _ ?_;intro q4 hq4;have b4:Below q.heap.size q q4:=by subst hq4;exact aP q
  have hB4:=ae hB b4;obtain⟨p,hp,c1⟩:=be (hr.on hB4) (show i+1<l.length by omega) rfl;obtain⟨p',hp',c0⟩:=be (hr.on hB4) (show i<l.length by omega) rfl;refine ac.yes (by simp;omega) (ag.mk p hp ⟨by omega,by omega,_,c1,Ar.nat i (by omega) (by omega) (ag.mk p' hp' ⟨by omega,by omega,_,c0,?_⟩)⟩);refine(rg _ _ q4).mono ?_;rintro e w5 ⟨rfl,hw⟩;subst hw;have:=hs i (i+1) (by omega) (by omega) (by omega);refine⟨_,rfl,ac.yes (by rw [decide_eq_false (by omega)];rfl) (Ar.nat (i+1+1) rfl (by omega) (ih w5 hB4))⟩
 ·rintro q hB;refine hI6 _ _ ?_;intro q4 hq4;have b4:Below q.heap.size q q4:=by subst hq4;exact aP q
  have e:((l.length-1+1:Nat):Int)=(l.length:Int):=by omega
  rw [e];exact ac.no (by simp) (ac.yes (by simp) ⟨rfl,ae hB b4⟩)
end
theorem yK (n:Nat) (w:World) (h1:256≤n) (h2:n≤65535):CP 228 #[.int .u64 (n:Int)] w fun e w'=>∃k:Int,e= .returned (.int .i64 k)∧k≠0∧w'=w:=by
 refine aN (up n w (fun u w'=>∃k:Int,u= .int .i64 k∧k≠0∧w'=w) ?_) (by rintro v w' ⟨k,rfl,h⟩;exact⟨k,rfl,h⟩);intro J1 hJ1;refine ac.no (decide_eq_false (by omega)) (hJ1 _ _ _ ?_);intro J3 hJ3;refine ac.no (decide_eq_false (by omega)) (hJ3 _ _ _ ?_);intro J6 hJ6;refine ac.yes (decide_eq_true (by omega)) ⟨by decide,Ar.nat 8 rfl (by omega) (hJ6 _ _ _ ?_)⟩;have e:Int.fdiv (n:Int) (2^(min (8:Int).toNat (IntKind.bits .u64)))=((n/256:Nat):Int):=by
  show Int.fdiv (n:Int) 256=_;rw [Int.fdiv_eq_ediv_of_nonneg _ (by decide)];rfl
 rw [e];have hw8:IntKind.wrap .u8 ((n/256:Nat):Int)=((n/256:Nat):Int):=dK (by show(0:Int)≤_;omega) (by show _≤(255:Int);omega);rw [hw8];refine⟨by omega,by show((n/256:Nat):Int) <256;omega,?_⟩;have hb:∀s:ByteArray,0≤eS s ((n/256:Nat):Int)∧eS s ((n/256:Nat):Int)≤255:=by
  intro s;unfold eS;cases s.data[((n/256:Nat):Int).toNat]? with
  |none=>simp
  |some b=>
   have:=b.toNat_lt;simp only [Option.map_some,Option.getD_some];omega
 have aux:∀s:ByteArray,Ar .i64 (((8:Nat):Int)+IntKind.wrap .i64 (eS s ((n/256:Nat):Int))) (fun n_9=>∃k:Int,Value.int .i64 n_9= .int .i64 k∧k≠0∧w=w):=by
  intro s;have:=hb s;rw [dK (z:=eS s ((n/256:Nat):Int)) (by show(-9223372036854775808:Int)≤_;omega) (by show _≤(9223372036854775807:Int);omega)];exact Ar.ok64 (by omega) (by omega) ⟨_,rfl,by omega,rfl⟩
 exact aux _
theorem BH (n:Nat) (w:World) (h1:256≤n) (h2:n≤65535):CP 171 #[.int .u64 (n:Int)] w fun e w'=>∃k:Int,e= .returned (.int .i64 k)∧k≠0∧w'=w:=by
 refine aJ (t_ n w) ?_;refine(yK n w h1 h2).mono ?_;rintro e w1 ⟨k,rfl,hk,hw⟩;exact⟨_,rfl,k,rfl,hk,hw⟩
theorem A4 (w:World) (A:Option Addr) (C:Nat) (l:List Int) (hr:Rw aK 1 w A l) (hs:ke l) (h1:256≤l.length) (h2:l.length≤65535):
  CP 122 #[.slice A l.length C] w fun e w'=>e= .returned (.tuple #[])∧Below w.heap.size w w':=by
 refine aJ (wJ A l.length C w) ?_;have hw:IntKind.wrap .u64 (l.length:Int)=(l.length:Int):=dK (by show(0:Int)≤_;omega) (by show _≤(18446744073709551615:Int);omega);unfold Gu;rw [hw];refine(BH l.length w h1 h2).mono ?_;rintro e w1 ⟨k,rfl,hk,hw1⟩;subst hw1;refine⟨_,rfl,?_⟩;have pdq:CP 170 #[.slice A l.length C,.int .i64 0,.int .i64 (l.length:Int),.int .i64 k] w1 fun e w'=>e= .returned (.tuple #[])∧Below w1.heap.size w1 w':=by
  refine aJ (wY A l.length C 0 l.length k w1) ?_;intro I hI;refine hI _ _ _ _ _ _ ?_;intro J5 hJ5;refine Ar.nat l.length (by omega) (by omega) (ac.no (decide_eq_false (by omega)) (ac.no (by simpa using hk) ?_));intro J11 hJ11;refine ac.no rfl (hJ11 _ _ ?_);refine(xO hs (by omega) w1 hr (by omega)).mono ?_;rintro e w6 ⟨n,rfl,b6⟩;refine⟨_,_,rfl,?_⟩;intro J13 hJ13;refine ac.no rfl (hJ13 _ _ _ ?_);intro J14 hJ14;refine ac.yes rfl (ac.yes rfl (ac.yes rfl ?_));refine(rI hs (by omega) w6 (hr.on b6) (by omega)).mono ?_;rintro e w18 ⟨rfl,b18⟩;exact⟨_,rfl,ac.yes rfl ⟨rfl,ae b6 b18⟩⟩
 refine pdq.mono ?_;rintro e w2 ⟨rfl,b2⟩;exact⟨rfl,rfl,b2⟩
def mQ (f:Nat→Bool):Nat→Nat
 |0=>0
 |m+1=>mQ f m|||(if f m then 2^m else 0)
theorem cU (f:Nat→Bool):∀m j,(mQ f m).testBit j=(decide (j<m)&&f j)
 |0,j=>by simp [mQ]
 |m+1,j=>by
  rw [mQ,Nat.testBit_or,cU f m j];by_cases h:f m=true
  ·rw [if_pos h,Nat.testBit_two_pow];by_cases e:m=j
   ·subst e;simp [h]
   ·by_cases e2:j<m
    ·simp [e,e2,show j<m+1 by omega]
    ·simp [e,e2,show ¬j<m+1 by omega]
  ·rw [if_neg h,Nat.zero_testBit];by_cases e:j=m
   ·subst e;simp [h]
   ·by_cases e2:j<m
    ·simp [e2,show j<m+1 by omega]
    ·simp [e2,show ¬j<m+1 by omega]
theorem C7 (f:Nat→Bool) (m:Nat):mQ f m<2^m:=by
 apply Nat.lt_pow_two_of_testBit;intro j hj;rw [cU,decide_eq_false (by omega)];rfl
theorem nk {f g:Nat→Bool} {m:Nat} (h:∀j,j<m→f j=g j):mQ f m=mQ g m:=by
 apply Nat.eq_of_testBit_eq;intro j;rw [cU,cU];by_cases hj:j<m
 ·rw [h j hj]
 ·simp [hj]
def wordAt (n:Nat) (p:Nat→Bool) (k:Nat):Nat:=mQ (fun j=>decide (64*k+j<n)&&p (64*k+j)) 64
def ba (n:Nat) (p:Nat→Bool):List Int:=(List.range ((n+63)/64)).map fun k=>((wordAt n p k:Nat):Int)
theorem cd (n:Nat) (p:Nat→Bool):(ba n p).length=(n+63)/64:=by simp [ba]
theorem mZ (n:Nat) (p:Nat→Bool) {k:Nat} (hk:k< (n+63)/64):(ba n p)[k]? =some ((wordAt n p k:Nat):Int):=by simp [ba,hk]
theorem mJ (n:Nat) (p:Nat→Bool) (k:Nat):wordAt n p k<2^64:=C7 _ _
theorem nc (n:Nat) (p:Nat→Bool) {i:Nat} (hi:i<n):(wordAt n p (i/64)).testBit (i%64)=p i:=by
 rw [wordAt,cU];have h1:i%64<64:=Nat.mod_lt _ (by decide);have h2:64*(i/64)+i%64=i:=by omega
 simp [h1,h2,hi]
theorem mO (n:Nat) (p:Nat→Bool) {i:Nat} (hi:i<n) (hp:p i=true) (k:Nat):wordAt n (fun j=>p j&&decide (j<i+1)) k=if k=i/64 then wordAt n (fun j=>p j&&decide (j<i)) k|||2^(i%64)else wordAt n (fun j=>p j&&decide (j<i)) k:=by
 apply Nat.eq_of_testBit_eq;intro j;unfold wordAt;by_cases hk:k=i/64
 ·rw [if_pos hk,Nat.testBit_or,cU,cU,Nat.testBit_two_pow];by_cases hj:j<64
  ·by_cases e:i%64=j
   ·have:64*k+j=i:=by omega
    simp [hj,e,this,hi,hp]
   ·have hne:64*k+j≠i:=by omega
    simp only [hj,e,decide_true,decide_false,Bool.true_and,Bool.or_false];congr 2;exact decide_eq_decide.2 (by omega)
  ·have:i%64≠j:=by omega
   simp [hj,this]
 ·rw [if_neg hk,cU,cU];by_cases hj:j<64
  ·have hne:64*k+j≠i:=by omega
   simp only [hj,decide_true,Bool.true_and];congr 2;exact decide_eq_decide.2 (by omega)
  ·simp [hj]
theorem tO (n:Nat) (p:Nat→Bool) {i:Nat} (hp:p i=false) (k:Nat):wordAt n (fun j=>p j&&decide (j<i+1)) k=wordAt n (fun j=>p j&&decide (j<i)) k:=by
 unfold wordAt;apply nk;intro j _;congr 1;by_cases e:64*k+j=i
 ·simp [e,hp]
 ·have h2:decide (64*k+j<i+1)=decide (64*k+j<i):=decide_eq_decide.2 ⟨fun h=>by omega,fun h=>by omega⟩;simp only [h2]
theorem sA (n:Nat) (p:Nat→Bool) {i:Nat} (hi:i<n) (hp:p i=true):ba n (fun j=>p j&&decide (j<i+1))=(ba n (fun j=>p j&&decide (j<i))).set (i/64) (((wordAt n (fun j=>p j&&decide (j<i)) (i/64)|||2^(i%64):Nat)):Int):=by
 apply List.ext_getElem
 ·rw [List.length_set,cd,cd]
 ·intro k h1 h2;rw [List.getElem_set];rw [cd]at h1;by_cases e:i/64=k
  ·rw [if_pos e];simp only [ba,List.getElem_map,List.getElem_range];rw [mO n p hi hp,if_pos e.symm,e]
  ·rw [if_neg e];simp only [ba,List.getElem_map,List.getElem_range];rw [mO n p hi hp,if_neg (fun h=>e h.symm)]
theorem sf (n:Nat) (p:Nat→Bool) {i:Nat} (hp:p i=false):ba n (fun j=>p j&&decide (j<i+1))=ba n (fun j=>p j&&decide (j<i)):=by
 unfold ba;apply List.map_congr_left;intro k _;rw [tO n p hp]
theorem se (n:Nat) (p:Nat→Bool):ba n (fun j=>p j&&decide (j<0))=List.replicate ((n+63)/64) 0:=by
 apply List.ext_getElem
 ·rw [cd,List.length_replicate]
 ·intro k h1 h2;simp only [ba,List.getElem_map,List.getElem_range,List.getElem_replicate];have:wordAt n (fun j=>p j&&decide (j<0)) k=0:=by
   apply Nat.eq_of_testBit_eq;intro j;unfold wordAt;rw [cU];simp
  rw [this];rfl
theorem vZ (n:Nat) (p:Nat→Bool):ba n (fun j=>p j&&decide (j<n))=ba n p:=by
 unfold ba;apply List.map_congr_left;intro k _;congr 1;unfold wordAt;apply nk;intro j _;by_cases e:64*k+j<n<;>simp [e]
abbrev gg:TypeId:=59
abbrev my:TypeId:=130
theorem xf:Tryz.prog.underlying my=some (.slice gg):=by kernel_rfl
theorem rV:(Tryz.prog.info? gg).map (fun i=>(i.zero,i.size,i.bytes))=some (some (.int .u64 0),1,8):=by kernel_rfl
def cD (n:Int):List Value:=[.int .u64 n]
theorem px:zO cD 1 my gg 8:=⟨fun _=>rfl,by decide,fun x u hu=>by rw [List.mem_singleton.1 hu];rfl,xf,_,rV,rfl⟩
theorem qc (w:World) (n:Nat) (hn:n≤1000000):(Instr.makeSlice my (.int .i64 n) (.int .i64 n)).run Tryz.prog w= .ok (.slice (some (nb w)) n n) (w.alloc (.cells (Array.replicate n (.int .u64 0)) gg)):=by
 obtain⟨i,hi,hz,hs,hb⟩:=info_parts rV;have:=Go.run_make (P:=Tryz.prog) w my gg i (.int .u64 0) xf hi hz .i64 .i64 (n:Int) (n:Int) (by omega) (Int.le_refl _) (by rw [hb];omega) (by omega);rw [this];congr 3;rw [hs];apply Array.ext
 ·rw [size_madeCells];simp
 ·intro j h1 h2;simp only [madeCells,Array.getElem_map,Array.getElem_range,Array.getElem_replicate];show(#[Value.int .u64 0]:Array Value)[j%1]! =_;rw [Nat.mod_one];rfl
theorem fo {w:World} {n:Nat} {e:TypeId} (xs:List Value) (hx:xs.length=n) (hn:n≤1000000) {B:Nat} (hB:B≤w.heap.size):(w.alloc (.cells xs.toArray e)).ownsRow B e 1 (.slice (some (nb w)) n n) n xs:=by
 refine⟨by rw [hx,Nat.mul_one],.inr ⟨w.heap.size,n,xs.toArray,rfl,hB,ao _ _,Nat.le_refl _,by unfold maxLen;omega,by rw [List.size_toArray,hx,Nat.mul_one],?_⟩⟩;rw [←hx,Nat.mul_one];exact List.take_length
theorem zg (i:Nat) (hi:i≤1000000):IntKind.wrap .i64 (Int.tdiv (i:Int) 64)=((i/64:Nat):Int):=by
 have:Int.tdiv (i:Int) 64=((i/64:Nat):Int):=rfl;rw [this];exact dK (by show(-9223372036854775808:Int)≤_;omega) (by show _≤(9223372036854775807:Int);omega)
theorem Du (i:Nat):Int.tmod (i:Int) 64=((i%64:Nat):Int):=rfl
theorem eX (x:Nat) (hx:x<2^64):(BitVec.ofInt 64 (x:Int)).toNat=x:=by
 rw [BitVec.ofInt_natCast,BitVec.toNat_ofNat,Nat.mod_eq_of_lt hx]
theorem h_ (x:Nat) (hx:x<2^64):IntKind.wrap .u64 (x:Int)=(x:Int):=dK (by show(0:Int)≤_;omega) (by show _≤(18446744073709551615:Int);omega)
theorem zr (x m:Nat) (hx:x<2^64) (hm:m<64):((IntKind.wrap .u64 ((BitVec.ofInt (IntKind.bits .u64) (Int.fdiv (x:Int) (2^(min ((m:Nat):Int).toNat (IntKind.bits .u64))))&&&BitVec.ofInt (IntKind.bits .u64) 1).toNat:Int):Int)==1)=x.testBit m:=by
 show((IntKind.wrap .u64 ((BitVec.ofInt 64 (Int.fdiv (x:Int) (2^(min m 64)))&&&BitVec.ofInt 64 1).toNat:Int):Int)==1)=_;have h1:Int.fdiv (x:Int) (2^(min m 64))=((x/2^m:Nat):Int):=by
  rw [Nat.min_eq_left (by omega),Int.fdiv_eq_ediv_of_nonneg _ (Int.pow_nonneg (by decide))];simp
 have hd:x/2^m<2^64:=Nat.lt_of_le_of_lt (Nat.div_le_self _ _) hx;rw [h1,BitVec.toNat_and,eX _ hd];have h2:(BitVec.ofInt 64 1).toNat=1:=by decide
 rw [h2,Nat.and_one_is_mod,h_ _ (by omega),Nat.testBit_eq_decide_div_mod_eq];by_cases e:x/2^m%2=1
 ·rw [e];simp
 ·have:x/2^m%2=0:=by omega
  rw [this];simp
theorem Ei (x m:Nat) (hx:x<2^64) (hm:m<64):IntKind.wrap .u64 ((BitVec.ofInt (IntKind.bits .u64) (x:Int)|||BitVec.ofInt (IntKind.bits .u64) (IntKind.wrap .u64 ((1:Int)*2^(min ((m:Nat):Int).toNat (IntKind.bits .u64))))).toNat:Int)=((x|||2^m:Nat):Int):=by
 show IntKind.wrap .u64 ((BitVec.ofInt 64 (x:Int)|||BitVec.ofInt 64 (IntKind.wrap .u64 ((1:Int)*2^(min m 64)))).toNat:Int)=_;have hp:2^m<2^64:=Nat.pow_lt_pow_right (by decide) hm;have h1:(1:Int)*2^(min m 64)=((2^m:Nat):Int):=by
  rw [Nat.min_eq_left (by omega),Int.one_mul];simp
 rw [h1,h_ _ hp,BitVec.toNat_or,eX _ hx,eX _ hp];exact h_ _ (Nat.or_lt_two_pow hx hp)
theorem i9 (w:World) (A:Option Addr) (N C n:Nat) (p:Nat→Bool) (hr:Rw cD 1 w A (ba n p)) (hN:N=(ba n p).length) (hn:n≤100000) (i:Nat) (hi:i<n):
  CP 75 #[.slice A N C,.int .i64 (i:Int)] w fun e w'=>e= .returned (.bool (p i))∧w'=w:=by
 refine aJ (yQ A N C i w) ?_;unfold HH;rw [zg i (by omega),Du];rw [cd]at hN;have hk:i/64< (n+63)/64:=by omega
 obtain⟨q,hq,_,hc⟩:=hr _ _ (mZ n p hk);have c0:=hc 0 _ rfl;rw [aw]at c0;refine⟨by decide,ag.mk q hq ⟨by omega,by omega,_,c0,by decide,by omega,?_,rfl⟩⟩;rw [zr _ _ (mJ _ _ _) (Nat.mod_lt _ (by decide)),nc n p hi]
theorem ve (w:World) (B:Nat) (l:Sl) (ws:List Int) (h:w.ownsRow B gg 1 l.v l.n (ws.flatMap cD)) (i x:Nat) (hi:i≤1000000) (hk:i/64<ws.length) (hx:ws[i/64]=(x:Int)) (hlt:x<2^64):
  CP 146 #[.slice l.a l.n l.c,.int .i64 (i:Int)] w fun e w'=>e= .returned (.tuple #[])∧w'.ownsRow B gg 1 l.v l.n ((ws.set (i/64) ((x|||2^(i%64):Nat):Int)).flatMap cD)∧(∀j,l.v.ownBlock≠some j→w'.heap[j]? =w.heap[j]?)∧w'.heap.size=w.heap.size∧Below B w w':=by
 refine aJ (wd l.a l.n l.c i w) ?_;rintro w1 rfl;have h1:w.drew.ownsRow B gg 1 l.v l.n (ws.flatMap cD):=pM h;have hls:=co.of_own px h1;have hn:=hls.n;rw [zg i hi,Du];obtain⟨q,hq,c0⟩:=be hls.r hk rfl;rw [hx]at c0;refine⟨by decide,ag.mk q hq ⟨by omega,by omega,_,c0,by decide,by omega,ag.mk q hq ⟨by omega,by omega,?_⟩⟩⟩;rw [Ei x _ hlt (Nat.mod_lt _ (by decide))];refine d_ (iU (enc:=cD) (fun _=>rfl) (by decide) (fun y u hu=>by rw [List.mem_singleton.1 hu];rfl) h1 hn hq (i/64) hk _ ?_);intro w' h' hs hz hB;exact⟨rfl,h',hs,hz,hB _ _ (Nat.le_refl _) ((Below.refl _ _).drew)⟩
theorem bg.off {w w':World} {v:Nat} {s:au} {T:List aQ} (h:bg w v s T) {B:Nat} (hb:Below B w w') (hv:v<B) {B' sz n:Nat} {e:TypeId} {u:Value} {xs:List Value} (ho:w.ownsRow B' e sz u n xs) (he:bI≠e) (hk:∀k,u.ownBlock≠some k→w'.heap[k]? =w.heap[k]?):bg w' v s T:=by
 obtain⟨w0,x,tp,bp,mp,d,l,uses,hR⟩:=h;have hlt:=hR.lt;refine⟨w0,x,tp,bp,mp,d,l,uses,hR.parts,hR.below.trans (hb.mono (by omega)),hlt,by rw [hb.block v hv];exact hR.blk,?_⟩;rcases hR.once with h |⟨h1,h2,h3⟩
 ·exact .inl h
 ·exact .inr ⟨h1,h2,aU h3 fun k hk3=>hk k (de h3 ho he k hk3)⟩
theorem bg.own_touch {w w':World} {v:Nat} {s:au} {T:List aQ} (h:bg w v s T) (t:aq v w w') {B sz n:Nat} {e:TypeId} {u:Value} {xs:List Value} (ho:w.ownsRow B e sz u n xs) (he:e≠df):w'.ownsRow B e sz u n xs:=by
 obtain⟨w0,x,tp,bp,mp,d,l,uses,hR⟩:=h;exact t.own ho (aA ho hR.blk he)
theorem aq.then_off {v B:Nat} {a b c:World} (t:aq v a b) (hb:Below B b c) (hB:a.heap.size≤B):aq v a c:=
 ⟨hb.os.trans t.os,hb.tape.trans t.tape,hb.output.trans t.output,Nat.le_trans t.size hb.size,fun k hk hv=>(hb.block k (Nat.lt_of_lt_of_le hk hB)).trans (t.block k hk hv)⟩
theorem qI (w:World) (n:Nat) (is:Value) (p:Nat→Bool) (v:Nat) (s:au) (T:List aQ) (hV:bg w v s T) (hn:n≤100000)
  (his:∀i,i<n→∀w1,bg w1 v s T→aq v w w1→bk fA is [.int .i64 (i:Int)] w1 (fun e w2=>e= .returned (.bool (p i))∧bg w2 v s T∧aq v w1 w2)):
  CP 71 #[.int .i64 (n:Int),is] w fun e w'=>∃l:Sl,e= .returned l.v∧w'.ownsRow w.heap.size gg 1 l.v l.n ((ba n p).flatMap cD)∧bg w' v s T∧aq v w w':=by
 refine aJ (xC n is w) ?_;have hvl:=hV.lt;refine Ar.nat (n+64) (by omega) (by omega) (Ar.nat (n+63) (by omega) (by omega) ⟨by decide,?_⟩);rw [zg (n+63) (by omega)];obtain⟨m,hm⟩:∃m,m=(n+63)/64:=⟨_,rfl⟩;rw [←hm];refine⟨_,_,_,_,qc w m (by omega),?_⟩;have ho:(w.alloc (.cells (Array.replicate m (.int .u64 0)) gg)).ownsRow w.heap.size gg 1 (.slice (some (nb w)) m m) m ((ba n (fun j=>p j&&decide (j<0))).flatMap cD):=by
  have:=fo (w:=w) (e:=gg) (n:=m) (List.replicate m (Value.int .u64 0)) (by simp) (by omega) (Nat.le_refl w.heap.size);rw [se, ←hm];have e:(List.replicate m (0:Int)).flatMap cD=List.replicate m (Value.int .u64 0):=by
   clear this hm;induction m with
   |zero=>rfl
   |succ m ih=>rw [List.replicate_succ,List.flatMap_cons,ih,List.replicate_succ];rfl
  rw [e];simpa using this
 have b1:=ah w (.cells (Array.replicate m (.int .u64 0)) gg);intro I hI;have key:=bC (α:=World) n (fun i q=>q.ownsRow w.heap.size gg 1 (.slice (some (nb w)) m m) m ((ba n (fun j=>p j&&decide (j<i))).flatMap cD)∧bg q v s T∧aq v w q) (fun i q=>I [.int .i64 (i:Int)] q) _ ⟨ho,hV.on b1,aq.of_below b1⟩ ?_ ?_
 ·exact key
 ·rintro i hi ih q ⟨hown,hVq,tq⟩;refine hI _ _ (ac.yes (by simp;omega) ?_);intro J hJ;have hJ':∀q',(q'.ownsRow w.heap.size gg 1 (.slice (some (nb w)) m m) m ((ba n (fun j=>p j&&decide (j<i+1))).flatMap cD)∧bg q' v s T∧aq v w q')→J [] q':=fun q' h=>hJ _ (Ar.nat (i+1) rfl (by omega) (ih q' h));refine(his i hi q hVq tq).mono ?_;rintro e w4 ⟨rfl,hV4,t4⟩;have ho4:=hVq.own_touch t4 hown (by decide);have tw4:=tq.trans t4;refine⟨_,rfl,ac.mk (fun hp=>?_) fun hp=>hJ' w4 ⟨by rw [sf n p hp];exact ho4,hV4,tw4⟩⟩;have hk:i/64< (ba n (fun j=>p j&&decide (j<i))).length:=by rw [cd];omega
  refine(ve w4 w.heap.size ⟨some (nb w),m,m⟩ _ ho4 i (wordAt n (fun j=>p j&&decide (j<i)) (i/64)) (by omega) hk (by simp [ba]) (mJ _ _ _)).mono ?_;rintro e w5 ⟨rfl,ho5,hs5,hz5,b5⟩;refine⟨rfl,hJ' w5 ⟨?_,hV4.off b5 hvl ho4 (by decide) hs5,tw4.then_off b5 (Nat.le_refl _)⟩⟩;rw [sA n p hi hp];exact ho5
 ·rintro q ⟨hown,hVq,tq⟩;rw [vZ]at hown;exact hI _ _ (ac.no (by simp) ⟨⟨some (nb w),m,m⟩,rfl,hown,hVq,tq⟩)
def bv (s:au) (T:List aQ):List Int:=(List.range T.length).map (fun i:Nat=>(i:Int))++s.specials.map (·.1)
theorem gJ (s:au) (T:List aQ):(bv s T).length=T.length+s.specials.length:=by simp [bv]
theorem A5 {l:List Int} (h:l.Pairwise (·< ·)):ke l:=fun i j hi hj hij=>List.pairwise_iff_getElem.1 h i j hi hj hij
theorem mU {s:au} {T:List aQ} (hasc:(s.specials.map (·.1)).Pairwise (·< ·)) (hids:∀y∈s.specials,(T.length:Int)≤y.1):(bv s T).Pairwise (·< ·):=by
 rw [bv,List.pairwise_append];refine⟨?_,hasc,?_⟩
 ·rw [List.pairwise_map];exact List.pairwise_lt_range.imp (by intro a b h;omega)
 ·intro a ha b hb;obtain⟨i,hi,rfl⟩:=List.mem_map.1 ha;obtain⟨y,hy,rfl⟩:=List.mem_map.1 hb;have:=hids y hy;have:=List.mem_range.1 hi;omega
theorem li (s:au) (T:List aQ) (t:Int):t∈bv s T↔fK s T t=true:=by
 unfold bv fK;rw [List.mem_append,decide_eq_true_eq,Or.comm];refine or_congr Iff.rfl ?_;rw [List.mem_map];constructor
 ·rintro⟨i,hi,rfl⟩;have:=List.mem_range.1 hi;exact⟨by omega,by omega⟩
 ·rintro⟨h1,h2⟩;exact⟨t.toNat,List.mem_range.2 (by omega),by omega⟩
theorem rB (w:World) (p:Nat) (xs:List (Int×Bs)) (h:rT w p xs) (hl:xs.length≤1000000):CP 121 #[.pointer (some ⟨p,0,none⟩)] w fun e w'=>∃l:Sl,e= .returned l.v∧l.n=xs.length∧w'.ownsRow w.heap.size zC 2 l.v l.n (xs.flatMap bw)∧Below w.heap.size w w':=by
 refine aJ (vQ (some ⟨p,0,none⟩) w) ?_;obtain⟨l,mi,mt,c,h1,h2,h3,h4,_,_⟩:=h;obtain⟨la,ln,lc⟩:=l;change ln=xs.length at h3;subst h3;refine ac.no rfl (ag.mk _ rfl ⟨la,_,lc,by rw [aj _ _ h1];exact h2.c0,?_⟩);refine(mY w la lc xs h4 (by omega)).mono ?_;rintro e w1 ⟨l,rfl,hn,ho,hb⟩;exact⟨_,_,_,rfl,l,rfl,hn,ho,hb⟩
theorem wG (w:World) (v:Nat) (s:au) (T:List aQ) (hV:bg w v s T) (hasc:(s.specials.map (·.1)).Pairwise (·< ·)):
  CP 61 #[.pointer (some ⟨v,0,none⟩)] w fun e w'=>∃l:Sl,e= .returned l.v∧w'.ownsRow w.heap.size aW 1 l.v l.n ((bv s T).flatMap aK)∧Below w.heap.size w w':=by
 refine aJ (y8 (some ⟨v,0,none⟩) w) ?_;obtain⟨w0,x,tp,bp,mp,d,l,uses,hR⟩:=hV;have hP:=hR.now;have hmost:=hP.ok.most;have hlen:=hP.ok.len;have hfew:=(jf hP.right).2.2.1;have hmx:s.specials.length≤32:=by
  have:=(gD hP.right).2.2.2.1;exact fe this
 refine(lT hR.vblk hP.tab).mono ?_;rintro e w1 ⟨rfl,hw⟩;subst hw;refine⟨_,rfl,?_⟩;intro I hI;have key:=bC (α:=Sl×World) T.length (fun i y=>y.2.ownsRow w1.heap.size aW 1 y.1.v y.1.n (((List.range i).map (fun i:Nat=>(i:Int))).flatMap aK)∧y.1.n=i∧Below w1.heap.size w1 y.2) (fun i y=>I [.int .i64 (i:Int),y.1.v] y.2) (bW,w1) ⟨dQ _ _ _ _ aK,rfl,Below.refl _ _⟩ ?_ ?_
 ·exact key
 ·rintro i hi ih ⟨f,q⟩ ⟨hown,hn,hB⟩;change q.ownsRow w1.heap.size aW 1 f.v f.n _ at hown;change f.n=i at hn;change Below w1.heap.size w1 q at hB;refine hI _ f.a f.n f.c q (ac.yes (by simp;omega) ?_);intro w3 hw3;obtain⟨f',w4,g1,g2,g3,g4,_⟩:=eT.push hown (i:Int) hw3 rfl hB.size (by omega) (by decide);refine⟨f'.a,f'.n,f'.c,w4,g2,Ar.nat (i+1) rfl (by omega) (ih (f',w4) ⟨?_,by show f'.n=i+1;omega,g4 _ hB⟩)⟩;rw [List.range_succ,List.map_append];exact g3
 ·rintro⟨f,q⟩ ⟨hown,hn,hB⟩;change q.ownsRow w1.heap.size aW 1 f.v f.n _ at hown;change f.n=T.length at hn;change Below w1.heap.size w1 q at hB;refine hI _ f.a f.n f.c q (ac.no (by simp) ?_);refine(jZ (hR.vblk.on hB)).mono ?_;rintro e w5 ⟨rfl,hw⟩;subst hw;refine⟨_,rfl,?_⟩;refine(rB w5 mp s.specials (hP.on hB).marks hfew).mono ?_;rintro e w6 ⟨a,rfl,han,hao,b6⟩;refine⟨a.a,a.n,a.c,rfl,?_⟩;have hB6:=ae hB b6;intro I2 hI2;have key2:=bC (α:=Sl×World) s.specials.length (fun i y=>y.2.ownsRow w1.heap.size aW 1 y.1.v y.1.n (((List.range T.length).map (fun i:Nat=>(i:Int))++(s.specials.take i).map (·.1)).flatMap aK)∧y.1.n=T.length+i∧y.2.ownsRow w1.heap.size zC 2 a.v a.n (s.specials.flatMap bw)∧Below w1.heap.size w1 y.2) (fun i y=>I2 [.int .i64 (i:Int),y.1.v] y.2) (f,w6) ⟨by simpa using aG hown b6,by show f.n=T.length+0;omega,bB hao hB.size,hB6⟩ ?_ ?_
  ·exact key2
  ·rintro i hi ih ⟨g,z⟩ ⟨hg,hgn,hza,hBz⟩;change z.ownsRow w1.heap.size aW 1 g.v g.n _ at hg;change g.n=T.length+i at hgn;change z.ownsRow w1.heap.size zC 2 a.v a.n _ at hza;change Below w1.heap.size w1 z at hBz;obtain⟨p,hp,_,hc⟩:=(co.of_own z_ hza).r i _ (List.getElem?_eq_getElem hi);have c0:=hc 0 _ rfl;rw [aw]at c0;refine hI2 _ g.a g.n g.c z (ac.yes (by simp;omega) (ag.mk p hp ⟨by omega,by omega,_,_,⟨c0,hc 1 _ rfl,trivial⟩,?_⟩));intro w8 hw8;refine bK [.int .i64 0,.string ⟨#[]⟩] [.int .i64 s.specials[i].1,.string (str s.specials[i].2)] rfl (eL _ _) w8 hw8 ?_;intro w9 h9 hz9 b9;refine⟨_,aj _ _ h9 0,?_⟩;intro w10 hw10;have hB9:=ae hBz b9;obtain⟨g',w11,e1,e2,e3,e4,e5⟩:=eT.push (aG hg b9) s.specials[i].1 hw10 rfl hB9.size (by omega) (by decide);have hza9:=aG hza b9;refine⟨g'.a,g'.n,g'.c,w11,e2,Ar.nat (i+1) rfl (by omega) (ih (g',w11) ⟨?_,by show g'.n=T.length+(i+1);omega,aU hza9 fun k hk=>e5 k (cS hza9 k hk).2 (de hza9 (aG hg b9) (by decide) k hk),e4 _ hB9⟩)⟩;rw [List.take_add_one,List.getElem?_eq_getElem hi,List.map_append, ←List.append_assoc];exact e3
  ·rintro⟨g,z⟩ ⟨hg,hgn,hza,hBz⟩;change z.ownsRow w1.heap.size aW 1 g.v g.n _ at hg;change g.n=T.length+s.specials.length at hgn;change Below w1.heap.size w1 z at hBz;rw [List.take_length]at hg;have hgl:g.n=(bv s T).length:=by rw [gJ,hgn]
   have hgg:z.ownsRow w1.heap.size aW 1 g.v g.n ((bv s T).flatMap aK):=hg;refine hI2 _ g.a g.n g.c z (ac.no (by simp;omega) ?_);have hrow:=(co.of_own eT hgg).r;have hrise:=A5 (mU hasc hP.ids);have hsort:CP 122 #[.slice g.a g.n g.c] z fun e w'=>e= .returned (.tuple #[])∧Below z.heap.size z w':=by
    rw [hgl];exact A4 z g.a g.c _ hrow hrise (by rw [gJ];omega) (by rw [gJ];omega)
   refine hsort.mono ?_;rintro e w12 ⟨rfl,b12⟩;exact⟨rfl,g,rfl,aG hgg b12,ae hBz b12⟩
end Go.Proofs.YtdlcfegnaphclaaGreat.Eng
