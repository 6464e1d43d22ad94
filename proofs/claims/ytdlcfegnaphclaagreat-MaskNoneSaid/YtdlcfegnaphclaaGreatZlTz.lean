/- The trie: what lies below a node, rising; the longer tokens; walked by the engine. -/
import Derived.Test.YtdlcfegnaphclaaGreatZlRj
import Derived.Test.YtdlcfegnaphclaaGreatZlSh
import Derived.Sort.OwnSortedInts
import Derived.Test.YtdlcfegnaphclaaGreatZlTab
import Derived.Test.YtdlcfegnaphclaaGreatZlBd
set_option linter.unusedVariables false
set_option linter.unusedSimpArgs false
set_option maxRecDepth 100000
namespace Go.Proofs.YtdlcfegnaphclaaGreat.Eng
open Go Go.RowKit
abbrev qV (xs:List Int):List Int:=xs.mergeSort fun x y=>decide (x≤y)
theorem pM (w:World) (B:Nat) (l:Sl) (xs:List Int) (ho:w.ownsRow B ba 1 l.v l.n (xs.flatMap av)) (hl:xs.length≤1000000):
  CP 122 #[l.v] w fun e w'=>e= .returned (.tuple #[])∧w'.ownsRow B ba 1 l.v l.n ((qV xs).flatMap av)∧w.grownBy w' l.v.ownBlock:=by
 obtain⟨hn,hc⟩:=fZ.of_own ho;rcases hc with rfl |⟨b,cap,rfl,hB,cur,h1,h2,h3,h4,h5⟩
 ·have h0:xs= []:=List.eq_nil_of_length_eq_zero hn.symm;subst h0;refine(Tryz.slices_Sort_int_none none 0 w).mono ?_;rintro e w' ⟨rfl,hw⟩;subst hw;refine⟨rfl,?_,⟨rfl,rfl,rfl,Nat.le_refl _,fun _ _ _=>rfl⟩⟩;show w'.ownsRow B ba 1 cT.v 0 (([]:List Int).mergeSort _ |>.flatMap av);rw [List.mergeSort_nil];exact ho
 ·have ht:cur.toList.take xs.length=xs.map (Value.int .i64):=by
   apply List.ext_getElem?;intro j;rw [List.getElem?_take];by_cases hj:j<xs.length
   ·rw [if_pos hj,Array.getElem?_toList,h5 j hj,List.getElem?_map,List.getElem?_eq_getElem hj];rfl
   ·rw [if_neg hj,List.getElem?_map,List.getElem?_eq_none_iff.2 (by omega)];rfl
  refine(Tryz.slices_Sort_int b 0 cap xs w (holds_of_blockI h1 ht) (Array.getElem?_eq_some_iff.1 h1).1 (by omega)).mono ?_;rintro e w' ⟨rfl,n,os,rfl⟩;refine⟨rfl,?_,grownBy_sortedI _⟩;rw [fL];exact ownsRow_sortedI (List.length_mergeSort _) hB h1 h2 h3 (h4.trans (Nat.mul_one _).symm)
theorem qP:∀ {l:List Int},l.Pairwise (fun x y=>decide (x≤y)=true)→l.Nodup→l.Pairwise (·< ·)
 | [],_,_=>.nil
 |x::l,h,hn=>by
  rw [List.pairwise_cons]at h⊢;rw [List.nodup_cons]at hn;refine⟨fun y hy=>?_,qP h.2 hn.2⟩;have h1:=of_decide_eq_true (h.1 y hy);have h2:x≠y:=fun e=>hn.1 (by rw [e];exact hy);omega
theorem sv {xs:List Int} (hn:xs.Nodup):(qV xs).Pairwise (·< ·):=by
 refine qP (List.pairwise_mergeSort (fun a b c h1 h2=>?_) (fun a b=>?_) xs) ((List.mergeSort_perm xs _).nodup_iff.2 hn)
 ·have h1:=of_decide_eq_true h1;have h2:=of_decide_eq_true h2;exact decide_eq_true (by omega)
 ·rcases Int.le_total a b with h |h
  ·rw [decide_eq_true h];rfl
  ·rw [decide_eq_true h,Bool.or_true]
structure CW (S:List Bs) (idf:Bs→Int) (N:Nat):Prop where
 few:N≤1000000
 range:∀u,idf u= -1∨(0≤idf u∧idf u<N)
 inj:∀u∈S,∀x∈S,idf u=idf x→idf u≠ -1→u=x
 short:∀u∈S,u.length≤1000
theorem oV {w0:World} {n1:Nat} {S:List Bs} {nd mp:Bs→Nat} {idf:Bs→Int} (hT:bB w0 n1 S nd mp idf) {N:Nat} (hI:CW S idf N) {t:Bs} (ht:t∈S):
  CP 173 #[.pointer (some ⟨nd t,0,none⟩)] w0 fun e w'=>∃(l:Sl) (zs:List Int),e= .returned l.v∧w'.ownsRow w0.heap.size ba 1 l.v l.n (zs.flatMap av)∧zs.Pairwise (·< ·)∧(∀x,x∈zs↔Br S idf t x)∧Below w0.heap.size w0 w':=by
 refine aO (u0 (some ⟨nd t,0,none⟩) w0) ?_;intro w1 hw1 w2 hw2;have z1:w1.heap.size=w0.heap.size+1:=by subst hw1;rw [World.size_alloc]
 have b1:Below w0.heap.size w0 w1:=by subst hw1;exact ai _ _
 have b2:Below w1.heap.size w1 w2:=by subst hw2;exact ai _ _
 have hb1:Boxed w1 w0.heap.size cI (.slice none 0 0):=by subst hw1;exact Boxed.new _ _ _
 have hb2:Boxed w2 w0.heap.size cI (.slice none 0 0):=aj b2 hb1;have hg2:w2.heap[w0.heap.size+1]? =some (.cells #[.nilFunc] tO (0,0)):=by subst hw2;rw [←z1];exact am _ _
 have hnb:nb w1=⟨w0.heap.size+1,0,none⟩:=by unfold nb;rw [z1]
 rw [hnb];refine⟨rfl,⟨_,aN hg2⟩,bO hg2,?_⟩;intro w3 hw3;have hg3:w3.heap[w0.heap.size+1]? =some (.cells #[.func (.func 229) #[] #[.pointer (some ⟨w0.heap.size,0,none⟩),.pointer (some ⟨w0.heap.size+1,0,none⟩)]] tO (0,0)):=by
  subst hw3;exact bJ hg2 _
 have o3:eT (w0.heap.size+1) w2 w3:=by subst hw3;exact eT.set ..
 have hb3:Boxed w3 w0.heap.size cI cT.v:=by
  show w3.heap[_]? =_;rw [o3.ne _ (by omega)];exact hb2
 have hle3:Below w0.heap.size w0 w3:=(ae b1 b2).trans (o3.below (by omega));have hG3:nw w0 w3 []:=⟨hle3,hg3,cT,hb3,bR _ _ _ _ av⟩;refine⟨_,aN hg3,cC (by kernel_rfl) ?_⟩;refine(mF hT hI.few hI.range hI.inj 1000 t ht (fun u hu _=>by have:=hI.short u hu;omega) w3 [] hG3 List.nodup_nil (fun x hx=>by cases hx) (fun x _ hx=>by cases hx)).mono ?_;rintro e w4 ⟨rfl,ys,hG4,hnd4,hys,_⟩;rw [List.nil_append]at hG4 hnd4;obtain⟨o,hb4,ho4⟩:=hG4.out;refine⟨rfl,o.a,o.n,o.c,hb4.cell,?_⟩;have hfew:=sH (N:=N) hnd4 (fun x hx=>by
  obtain⟨h1,u,_,_,rfl⟩:=(hys x).1 hx;rcases hI.range u with h |h
  ·exact absurd h h1
  ·exact h)
 have hN:=hI.few;refine(pM w4 w0.heap.size o ys ho4 (by omega)).mono ?_;rintro e w5 ⟨rfl,ho5,hg5⟩;have hb5:Boxed w5 w0.heap.size cI o.v:=hb4.kept hg5 (hb4.not_row (by decide) ho4);refine⟨rfl,o.a,o.n,o.c,hb5.cell,o,qV ys,rfl,ho5,sv hnd4,fun x=>?_,hG4.le.trans ?_⟩
 ·rw [List.mem_mergeSort];exact hys x
 ·refine(Below.refl w0.heap.size w4).grown hg5 hG4.le.size fun k ek=>?_;rcases ho4.2 with⟨e0,_⟩ |⟨g,cap,cur,e0,hB,_⟩
  ·rw [e0]at ek;simp [Value.ownBlock]at ek
  ·rw [e0]at ek;obtain rfl:g=k:=by simpa [Value.ownBlock]using ek
   exact hB
theorem kM {V:Voc} (h:V.Ok) {Z:List Int} (hZ:V.Items Z):V.Canon (V.encode Z):=by
 unfold Voc.Canon;rw [(Voc.encode_items h hZ).1]
theorem pr:∀ {l l':List Int},l.Pairwise (·< ·)→l'.Pairwise (·< ·)→(∀x,x∈l↔x∈l')→l=l'
 | [],[],_,_,_=>rfl
 | [],y::l',_,_,h=>by have:=(h y).2 (by simp);cases this
 |x::l,[],_,_,h=>by have:=(h x).1 (by simp);cases this
 |x::l,y::l',h1,h2,h=>by
  rw [List.pairwise_cons]at h1 h2;have e:x=y:=by
   rcases List.mem_cons.1 ((h x).1 (by simp))with e |hx
   ·exact e
   ·rcases List.mem_cons.1 ((h y).2 (by simp))with e |hy
    ·exact e.symm
    ·have:=h1.1 y hy;have:=h2.1 x hx;omega
  subst e;congr 1;refine pr h1.2 h2.2 fun z=>⟨fun hz=>?_,fun hz=>?_⟩
  ·rcases List.mem_cons.1 ((h z).1 (List.mem_cons_of_mem _ hz))with e |hz'
   ·have:=h1.1 z hz;omega
   ·exact hz'
  ·rcases List.mem_cons.1 ((h z).2 (List.mem_cons_of_mem _ hz))with e |hz'
   ·have:=h2.1 z hz;omega
   ·exact hz'
section
variable {pb v r n1:Nat} {s:aq} {T:List aP} {S:List Bs} {nd mp:Bs→Nat} {A:Option Addr} {C:Nat} {Z:List Int}
end
theorem jc {T:List aP} (hn:(T.map (·.1)).Nodup) {u:Bs} {x:Int}:(x≠ -1∧kF T u=x)↔aZ T x∧aE T x=u:=by
 unfold kF kE;constructor
 ·rintro⟨h1,h2⟩;cases h:T.findIdx? (fun e:aP=>decide (e.1=u))with
  |none=>rw [h]at h2;exact absurd h2.symm h1
  |some i=>
   rw [h]at h2;have h2:((i:Nat):Int)=x:=h2;obtain⟨hi,hp,_⟩:=List.findIdx?_eq_some_iff_getElem.1 h;subst h2;refine⟨⟨by omega,by omega⟩,?_⟩;unfold aE;rw [show((i:Nat):Int).toNat=i by omega,List.getElem?_eq_getElem hi];exact of_decide_eq_true hp
 ·rintro⟨⟨h0,h1⟩,h2⟩;have hi:x.toNat<T.length:=by omega
  unfold aE at h2;rw [List.getElem?_eq_getElem hi]at h2;have h2:(T[x.toNat]).1=u:=h2;have hx:T.findIdx? (fun e:aP=>decide (e.1=u))=some x.toNat:=by
   rw [List.findIdx?_eq_some_iff_getElem];refine⟨hi,decide_eq_true h2,fun j hj=>?_⟩;have hne:¬(T[j]).1=u:=fun e=>by
    have:=(List.getElem?_inj (i:=j) (j:=x.toNat) (by rw [List.length_map];omega) hn).1 (by rw [List.getElem?_map,List.getElem?_map,List.getElem?_eq_getElem (show j<T.length by omega),List.getElem?_eq_getElem hi];simp [e,h2]);omega
   simp [hne]
  rw [hx];exact⟨by omega,by show((x.toNat:Nat):Int)=x;omega⟩
theorem CF {T:List aP} (hok:eA T) {S:List Bs} (hS:∀u,u∈S↔u= []∨∃e∈T,u<+:e.1):CW S (kF T) T.length:=by
 have hmost:=hok.most;refine⟨by omega,fun u=>?_,fun u hu x hx e h1=>?_,fun u hu=>?_⟩
 ·by_cases h:kF T u= -1
  ·exact .inl h
  ·obtain⟨⟨h1,h2⟩,_⟩:=(jc hok.nodup).1 ⟨h,rfl⟩;exact .inr ⟨h1,h2⟩
 ·obtain⟨_,h2⟩:=(jc hok.nodup).1 ⟨h1,rfl⟩;obtain⟨_,h3⟩:=(jc hok.nodup).1 ⟨h1,e.symm⟩;rw [←h2, ←h3]
 ·rcases(hS u).1 hu with rfl |⟨e,he,hp⟩
  ·simp
  ·have:=hok.short e he;have:=hp.length_le;omega
section
variable {pb v r n1:Nat} {s:aq} {T:List aP} {S:List Bs} {nd mp:Bs→Nat} {A:Option Addr} {C:Nat} {Z:List Int}
end
open Go Go.Value
def KS (a:OA) (b c:Nat) (d:OA) (f g:Nat) (h:OA) (i j:Nat) (k:OA) (l m:Nat) (n:ByteArray) (w:World) (R:RW):Prop:=
 ∀o,o=w.alloc (.cells #[slice a b c,slice d f g,slice h i j,slice k l m] 27)→
 ∃p q r s t u x y z a1 b1 c1,(o.cell? (nb w)=some (slice p q r)∧o.cell? ((nb w).add 1)=some (slice s t u)∧o.cell? ((nb w).add 2)=some (slice x y z)∧o.cell? ((nb w).add 3)=some (slice a1 b1 c1)∧True)∧
 CP 11 #[agg #[slice p q r,slice s t u,slice x y z,slice a1 b1 c1]] o (fun d1 e1=>
 ∃f1,d1= .returned (int .i64 f1)∧
 ac (decide (f1>0))
 (CP 12 #[] e1 (fun g1 h1=>
 ∃i1,g1= .returned (bool i1)∧
 R (bool i1) h1))
 (ac (decide (((n.size:Int):Int)>60))
 (CP 12 #[] e1 (fun j1 k1=>
 ∃l1,j1= .returned (bool l1)∧
 R (bool l1) k1))
 (CP 12 #[] e1 (fun m1 n1=>
 ∃o1,m1= .returned (bool o1)∧
 ac (!o1)
 (CP 12 #[] n1 (fun p1 q1=>
 ∃r1,p1= .returned (bool r1)∧
 R (bool r1) q1))
 (∃s1 t1 u1 v1 x1 y1 z1 a2 b2 c2 d2 e2,(n1.cell? (nb w)=some (slice s1 t1 u1)∧n1.cell? ((nb w).add 1)=some (slice v1 x1 y1)∧n1.cell? ((nb w).add 2)=some (slice z1 a2 b2)∧n1.cell? ((nb w).add 3)=some (slice c2 d2 e2)∧True)∧
 CP 13 #[agg #[slice s1 t1 u1,slice v1 x1 y1,slice z1 a2 b2,slice c2 d2 e2]] n1 (fun f2 g2=>
 ∃h2 i2 j2 k2 l2 m2 n2 o2 p2 q2 r2 s2 t2 u2 v2 x2 y2,f2= .returned (tuple #[pointer h2,pointer i2,agg #[slice j2 k2 l2,slice m2 n2 o2,slice p2 q2 r2,slice s2 t2 u2,slice v2 x2 y2]])∧
 ∀z2,z2=g2.alloc (.cells #[slice none 0 0,slice none 0 0,slice none 0 0,slice none 0 0,slice none 0 0] 40)→
 ay z2 (nb g2) (fun a3=>
 ac (Option.isNone h2)
 (R (bool false) a3)
 (CP 25 #[pointer h2,string n,slice none 0 0] a3 (fun b3 c3=>
 ∃d3 e3 f3 g3 h3,b3= .returned (tuple #[slice d3 e3 f3,string g3,int .i64 h3])∧
 ∀i3,i3=c3.drew→
 ∃j3 k3 l3 m3 n3 o3 p3 q3 r3 s3 t3 u3 v3 x3 y3,(i3.cell? (nb g2)=some (slice j3 k3 l3)∧i3.cell? ((nb g2).add 1)=some (slice m3 n3 o3)∧i3.cell? ((nb g2).add 2)=some (slice p3 q3 r3)∧i3.cell? ((nb g2).add 3)=some (slice s3 t3 u3)∧i3.cell? ((nb g2).add 4)=some (slice v3 x3 y3)∧True)∧
 CP 27 #[string n] i3 (fun z3 a4=>
 ∃b4 c4 d4,z3= .returned (slice b4 c4 d4)∧
 (a4.cell? (nb g2)=some (slice j3 k3 l3)∧a4.cell? ((nb g2).add 1)=some (slice m3 n3 o3)∧a4.cell? ((nb g2).add 2)=some (slice p3 q3 r3)∧a4.cell? ((nb g2).add 3)=some (slice s3 t3 u3)∧a4.cell? ((nb g2).add 4)=some (slice v3 x3 y3)∧True)∧
 CP 26 #[agg #[slice j3 k3 l3,slice m3 n3 o3,slice p3 q3 r3,slice s3 t3 u3,slice v3 x3 y3],slice b4 c4 d4] a4 (fun e4 f4=>
 ∃g4 h4 i4,e4= .returned (slice g4 h4 i4)∧
 ac (h3 != 0)
 (R (bool false) f4)
 (ac (decide ((e3:Int)>(h4:Int)))
 (R (bool false) f4)
 ((0:Int)≤(0:Int)∧(0:Int)≤(e3:Int)∧(e3:Int)≤(i4:Int)∧True∧True∧
 CP 28 #[slice (bW g4 (0:Int).toNat (i4:Int).toNat 1) ((e3:Int).toNat- (0:Int).toNat) ((i4:Int).toNat- (0:Int).toNat),slice d3 e3 f3] f4 (fun j4 k4=>
 ∃l4,j4= .returned (bool l4)∧
 ac (!l4)
 (R (bool false) k4)
 (∃m4 n4 o4 p4 q4 r4 s4 t4 u4 v4 x4 y4 z4 a5 b5,(k4.cell? (nb g2)=some (slice m4 n4 o4)∧k4.cell? ((nb g2).add 1)=some (slice p4 q4 r4)∧k4.cell? ((nb g2).add 2)=some (slice s4 t4 u4)∧k4.cell? ((nb g2).add 3)=some (slice v4 x4 y4)∧k4.cell? ((nb g2).add 4)=some (slice z4 a5 b5)∧True)∧
 CP 29 #[agg #[slice m4 n4 o4,slice p4 q4 r4,slice s4 t4 u4,slice v4 x4 y4,slice z4 a5 b5],slice d3 e3 f3] k4 (fun c5 d5=>
 ∃e5,c5= .returned (bool e5)∧
 ac (!e5)
 (R (bool false) d5)
 (∃f5 g5 h5 i5 j5 k5 l5 m5 n5 o5 p5 q5 r5 s5 t5,(d5.cell? (nb g2)=some (slice f5 g5 h5)∧d5.cell? ((nb g2).add 1)=some (slice i5 j5 k5)∧d5.cell? ((nb g2).add 2)=some (slice l5 m5 n5)∧d5.cell? ((nb g2).add 3)=some (slice o5 p5 q5)∧d5.cell? ((nb g2).add 4)=some (slice r5 s5 t5)∧True)∧
 CP 30 #[agg #[slice f5 g5 h5,slice i5 j5 k5,slice l5 m5 n5,slice o5 p5 q5,slice r5 s5 t5],slice d3 e3 f3] d5 (fun u5 v5=>
 ∃x5 y5 z5,u5= .returned (slice x5 y5 z5)∧
 Ar .i64 ((y5:Int)+(g3.size:Int)) (fun a6=>
 ac (a6 != (n.size:Int))
 (R (bool false) v5)
 ((0:Int)≤(y5:Int)∧(y5:Int)≤((n.size:Nat):Int)∧((n.size:Nat):Int)≤(n.size:Int)∧
 ac (!((n.extract (y5:Int).toNat ((n.size:Nat):Int).toNat:ByteArray).toList==g3.toList))
 (R (bool false) v5)
 (CP 15 #[pointer h2,string g3,slice d3 e3 f3] v5 (fun b6 c6=>
 ∃d6 e6 f6 g6 h6,b6= .returned (tuple #[slice d6 e6 f6,int .i64 g6,int .i64 h6])∧
 ac (h6 != 0)
 (R (bool false) c6)
 (∀i6,i6=c6.drew→
 ac (g3.toList==(⟨#[]⟩:ByteArray).toList)
 (R (bool true) i6)
 (ac ((e6:Int) != 1)
 (R (bool true) i6)
 (∃j6 k6 l6,i6.cell? (((nb g2).add 0).add 0)=some (slice j6 k6 l6)∧
 ag d6 (fun m6=>
 (0:Int)≤0∧0< (e6:Int)∧
 ∃n6,i6.cell? (m6.add ((0:Int).toNat*1))=some (int .i64 n6)∧
 ag j6 (fun o6=>
 (0:Int)≤n6∧n6< (k6:Int)∧
 ∃p6,i6.cell? (o6.add (n6.toNat*1))=some (string p6)∧
 R (bool (decide (((p6.size:Int):Int)>(g3.size:Int)))) i6))))))))))))))))))))) [slice j2 k2 l2,slice m2 n2 o2,slice p2 q2 r2,slice s2 t2 u2,slice v2 x2 y2] 0))))))
theorem Au (a:OA) (b c:Nat) (d:OA) (f g:Nat) (h:OA) (i j:Nat) (k:OA) (l m:Nat) (n:ByteArray) (w:World) (R:RW) (hh:KS a b c d f g h i j k l m n w R):CR 4 #[agg #[slice a b c,slice d f g,slice h i j,slice k l m],string n] w R:=
 aF (fn:=Tryz.f4) (by kernel_rfl) (by kernel_rfl) (by kernel_rfl) (by kernel_rfl) (by kernel_rfl) hh
def KR (a:Int) (b:ByteArray) (w:World) (R:RW):Prop:=
 ac (decide (((b.size:Int):Int)>60))
 (CP 12 #[] w (fun c d=>
 ∃f,c= .returned (bool f)∧
 R (bool f) d))
 (CP 12 #[] w (fun g h=>
 ∃i,g= .returned (bool i)∧
 ac (!i)
 (CP 12 #[] h (fun j k=>
 ∃l,j= .returned (bool l)∧
 R (bool l) k))
 (CP 31 #[agg #[bool false,slice none 0 0,slice none 0 0,slice none 0 0,slice none 0 0,slice none 0 0]] h (fun m n=>
 ∃o p q,m= .returned (tuple #[pointer o,int .i64 p,int .i64 q])∧
 ∀r,r=n.alloc (.cells #[int .i64 300,string ⟨#[60]⟩] 75)→
 CP 31 #[agg #[bool false,slice none 0 0,slice none 0 0,slice (some (nb n)) 1 1,slice none 0 0,slice none 0 0]] r (fun s t=>
 ∃u x y,s= .returned (tuple #[pointer u,int .i64 x,int .i64 y])∧
 CP 32 #[pointer o,int .i64 1048576] t (fun z a1=>
 ∃b1 c1,z= .returned (tuple #[pointer b1,int .i64 c1])∧
 CP 33 #[pointer none,pointer b1] a1 (fun d1 e1=>
 ∃f1 g1,d1= .returned (tuple #[pointer f1,int .i64 g1])∧
 CP 33 #[pointer o,pointer none] e1 (fun h1 i1=>
 ∃j1 k1,h1= .returned (tuple #[pointer j1,int .i64 k1])∧
 CP 33 #[pointer u,pointer b1] i1 (fun l1 m1=>
 ∃n1 o1,l1= .returned (tuple #[pointer n1,int .i64 o1])∧
 ∀p1,p1=m1.alloc (.cells #[int .i64 a] 3)→
 CP 14 #[pointer none,slice (some (nb m1)) 1 1] p1 (fun q1 r1=>
 ∃s1 t1 u1 v1 x1,q1= .returned (tuple #[slice s1 t1 u1,int .i64 v1,int .i64 x1])∧
 ∀y1,y1=r1.alloc (.cells #[int .i64 a] 3)→
 CP 15 #[pointer none,string b,slice (some (nb r1)) 1 1] y1 (fun z1 a2=>
 ∃b2 c2 d2 e2 f2,z1= .returned (tuple #[slice b2 c2 d2,int .i64 e2,int .i64 f2])∧
 ∀g2,g2=a2.alloc (.cells #[int .i64 a] 3)→
 CP 25 #[pointer none,string b,slice (some (nb a2)) 1 1] g2 (fun h2 i2=>
 ∃j2 k2 l2 m2 n2,h2= .returned (tuple #[slice j2 k2 l2,string m2,int .i64 n2])∧
 ∀o2,o2=i2.alloc (.cells #[int .i64 a] 3)→
 CP 16 #[pointer none,slice (some (nb i2)) 1 1] o2 (fun p2 q2=>
 ∃r2 s2 t2 u2 v2,p2= .returned (tuple #[slice r2 s2 t2,int .i64 u2,int .i64 v2])∧
 ac (g1==1)
 (ac (k1==1)
 (ac (o1==1)
 (ac (x1==1)
 (ac (f2==1)
 (ac (n2==1)
 (ac (v2==1)
 (∀x2,x2=q2.alloc (.cells #[int .i64 a] 3)→
 CP 34 #[pointer none,string b,slice (some (nb q2)) 1 1] x2 (fun y2 z2=>
 ∃a3,y2= .returned (bool a3)∧
 R (bool (!a3)) z2))
 (R (bool false) q2))
 (R (bool false) q2))
 (R (bool false) q2))
 (R (bool false) q2))
 (R (bool false) q2))
 (R (bool false) q2))
 (R (bool false) q2))))))))))))))
theorem AY (a:Int) (b:ByteArray) (w:World) (R:RW) (hh:KR a b w R):CR 5 #[int .i64 a,string b] w R:=
 aF (fn:=Tryz.f5) (by kernel_rfl) (by kernel_rfl) (by kernel_rfl) (by kernel_rfl) (by kernel_rfl) hh
def Kl (w:World) (R:RW):Prop:=
 ∀a,a=w.alloc (.cells #[int .i64 97,int .i64 98] 118)→
 CP 31 #[agg #[bool false,slice (some (nb w)) 1 1,slice none 0 0,slice none 0 0,slice none 0 0,slice none 0 0]] a (fun b c=>
 ∃d f g,b= .returned (tuple #[pointer d,int .i64 f,int .i64 g])∧
 CP 32 #[pointer d,int .i64 1048576] c (fun h i=>
 ∃j k,h= .returned (tuple #[pointer j,int .i64 k])∧
 CP 33 #[pointer d,pointer j] i (fun l m=>
 ∃n o,l= .returned (tuple #[pointer n,int .i64 o])∧
 ∀p,p=m.alloc (.cells #[int .i64 97] 3)→
 CP 14 #[pointer n,slice (some (nb m)) 1 1] p (fun q r=>
 ∃s t u x y,q= .returned (tuple #[slice s t u,int .i64 x,int .i64 y])∧
 ∀z,z=r.alloc (.cells #[int .i64 97] 3)→
 CP 15 #[pointer n,string ⟨#[98]⟩,slice (some (nb r)) 1 1] z (fun a1 b1=>
 ∃c1 d1 e1 f1 g1,a1= .returned (tuple #[slice c1 d1 e1,int .i64 f1,int .i64 g1])∧
 ac (o==0)
 (ac ((t:Int)==256)
 (ac (x==1)
 (ac (y==0)
 (ac ((d1:Int)==0)
 (R (bool (g1==0)) b1)
 (R (bool false) b1))
 (R (bool false) b1))
 (R (bool false) b1))
 (R (bool false) b1))
 (R (bool false) b1))))))
theorem xH (w:World) (R:RW) (hh:Kl w R):CR 12 #[] w R:=
 aF (fn:=Tryz.f12) (by kernel_rfl) (by kernel_rfl) (by kernel_rfl) (by kernel_rfl) (by kernel_rfl) hh
def JV (a:OA) (b c:Nat) (d:OA) (f g:Nat) (h:OA) (i j:Nat) (k:OA) (l m:Nat) (w:World) (R:RW):Prop:=
 ∀n,n=w.alloc (.cells #[slice a b c,slice d f g,slice h i j,slice k l m] 27)→
 ∀o,o=n.alloc (.cells #[slice none 0 0,slice none 0 0,slice none 0 0,slice none 0 0,slice none 0 0] 40)→
 ∃p q r s t u x y z a1 b1 c1,(o.cell? (nb w)=some (slice p q r)∧o.cell? ((nb w).add 1)=some (slice s t u)∧o.cell? ((nb w).add 2)=some (slice x y z)∧o.cell? ((nb w).add 3)=some (slice a1 b1 c1)∧True)∧
 CP 58 #[agg #[slice p q r,slice s t u,slice x y z,slice a1 b1 c1]] o (fun d1 e1=>
 ∃f1 g1 h1 i1 j1 k1 l1 m1 n1 o1 p1 q1 r1 s1 t1 u1,d1= .returned (tuple #[pointer f1,agg #[slice g1 h1 i1,slice j1 k1 l1,slice m1 n1 o1,slice p1 q1 r1,slice s1 t1 u1]])∧
 ∀v1,v1=e1.alloc (.cells #[slice none 0 0,slice none 0 0,slice none 0 0,slice none 0 0,slice none 0 0] 40)→
 ay v1 (nb e1) (fun x1=>
 CP 32 #[pointer f1,int .i64 1048576] x1 (fun y1 z1=>
 ∃a2 b2,y1= .returned (tuple #[pointer a2,int .i64 b2])∧
 CP 33 #[pointer f1,pointer a2] z1 (fun c2 d2=>
 ∃e2 f2,c2= .returned (tuple #[pointer e2,int .i64 f2])∧
 ac (b2 != 0)
 (∀g2,g2=d2.drew→
 ∃h2 i2 j2 k2 l2 m2 n2 o2 p2 q2 r2 s2 t2 u2 v2,(g2.cell? (nb e1)=some (slice h2 i2 j2)∧g2.cell? ((nb e1).add 1)=some (slice k2 l2 m2)∧g2.cell? ((nb e1).add 2)=some (slice n2 o2 p2)∧g2.cell? ((nb e1).add 3)=some (slice q2 r2 s2)∧g2.cell? ((nb e1).add 4)=some (slice t2 u2 v2)∧True)∧
 ay g2 (nb n) (fun x2=>
 ∃y2 z2 a3 b3 c3 d3 e3 f3 g3 h3 i3 j3 k3 l3 m3,(x2.cell? (nb n)=some (slice y2 z2 a3)∧x2.cell? ((nb n).add 1)=some (slice b3 c3 d3)∧x2.cell? ((nb n).add 2)=some (slice e3 f3 g3)∧x2.cell? ((nb n).add 3)=some (slice h3 i3 j3)∧x2.cell? ((nb n).add 4)=some (slice k3 l3 m3)∧True)∧
 R (tuple #[pointer none,pointer none,agg #[slice y2 z2 a3,slice b3 c3 d3,slice e3 f3 g3,slice h3 i3 j3,slice k3 l3 m3]]) x2) [slice h2 i2 j2,slice k2 l2 m2,slice n2 o2 p2,slice q2 r2 s2,slice t2 u2 v2] 0)
 (ac (f2 != 0)
 (∀n3,n3=d2.drew→
 ∃o3 p3 q3 r3 s3 t3 u3 v3 x3 y3 z3 a4 b4 c4 d4,(n3.cell? (nb e1)=some (slice o3 p3 q3)∧n3.cell? ((nb e1).add 1)=some (slice r3 s3 t3)∧n3.cell? ((nb e1).add 2)=some (slice u3 v3 x3)∧n3.cell? ((nb e1).add 3)=some (slice y3 z3 a4)∧n3.cell? ((nb e1).add 4)=some (slice b4 c4 d4)∧True)∧
 ay n3 (nb n) (fun e4=>
 ∃f4 g4 h4 i4 j4 k4 l4 m4 n4 o4 p4 q4 r4 s4 t4,(e4.cell? (nb n)=some (slice f4 g4 h4)∧e4.cell? ((nb n).add 1)=some (slice i4 j4 k4)∧e4.cell? ((nb n).add 2)=some (slice l4 m4 n4)∧e4.cell? ((nb n).add 3)=some (slice o4 p4 q4)∧e4.cell? ((nb n).add 4)=some (slice r4 s4 t4)∧True)∧
 R (tuple #[pointer none,pointer none,agg #[slice f4 g4 h4,slice i4 j4 k4,slice l4 m4 n4,slice o4 p4 q4,slice r4 s4 t4]]) e4) [slice o3 p3 q3,slice r3 s3 t3,slice u3 v3 x3,slice y3 z3 a4,slice b4 c4 d4] 0)
 (∀u4,u4=d2.drew→
 ∃v4 x4 y4 z4 a5 b5 c5 d5 e5 f5 g5 h5 i5 j5 k5,(u4.cell? (nb e1)=some (slice v4 x4 y4)∧u4.cell? ((nb e1).add 1)=some (slice z4 a5 b5)∧u4.cell? ((nb e1).add 2)=some (slice c5 d5 e5)∧u4.cell? ((nb e1).add 3)=some (slice f5 g5 h5)∧u4.cell? ((nb e1).add 4)=some (slice i5 j5 k5)∧True)∧
 ay u4 (nb n) (fun l5=>
 ∃m5 n5 o5 p5 q5 r5 s5 t5 u5 v5 x5 y5 z5 a6 b6,(l5.cell? (nb n)=some (slice m5 n5 o5)∧l5.cell? ((nb n).add 1)=some (slice p5 q5 r5)∧l5.cell? ((nb n).add 2)=some (slice s5 t5 u5)∧l5.cell? ((nb n).add 3)=some (slice v5 x5 y5)∧l5.cell? ((nb n).add 4)=some (slice z5 a6 b6)∧True)∧
 R (tuple #[pointer e2,pointer a2,agg #[slice m5 n5 o5,slice p5 q5 r5,slice s5 t5 u5,slice v5 x5 y5,slice z5 a6 b6]]) l5) [slice v4 x4 y4,slice z4 a5 b5,slice c5 d5 e5,slice f5 g5 h5,slice i5 j5 k5] 0))))) [slice g1 h1 i1,slice j1 k1 l1,slice m1 n1 o1,slice p1 q1 r1,slice s1 t1 u1] 0)
theorem xX (a:OA) (b c:Nat) (d:OA) (f g:Nat) (h:OA) (i j:Nat) (k:OA) (l m:Nat) (w:World) (R:RW) (hh:JV a b c d f g h i j k l m w R):CR 13 #[agg #[slice a b c,slice d f g,slice h i j,slice k l m]] w R:=
 aF (fn:=Tryz.f13) (by kernel_rfl) (by kernel_rfl) (by kernel_rfl) (by kernel_rfl) (by kernel_rfl) hh
def Kr (a b:OA) (c d:Nat) (w:World) (R:RW):Prop:=
 CP 59 #[pointer a,slice b c d] w (fun f g=>
 ∃h i,f= .returned (tuple #[int .i64 h,int .i64 i])∧
 ac (i != 0)
 (R (tuple #[slice none 0 0,int .i64 h,int .i64 i]) g)
 (ag a (fun j=>
 ∃k,g.cell? (j.add 1)=some (pointer k)∧
 CP 61 #[pointer k] g (fun l m=>
 ∃n o p,l= .returned (slice n o p)∧
 CP 60 #[pointer a,slice n o p,slice b c d] m (fun q r=>
 ∃s t u,q= .returned (slice s t u)∧
 R (tuple #[slice s t u,int .i64 h,int .i64 0]) r)))))
theorem nX (a b:OA) (c d:Nat) (w:World) (R:RW) (hh:Kr a b c d w R):CR 14 #[pointer a,slice b c d] w R:=
 aF (fn:=Tryz.f14) (by kernel_rfl) (by kernel_rfl) (by kernel_rfl) (by kernel_rfl) (by kernel_rfl) hh
def KD (a:OA) (b:ByteArray) (c:OA) (d f:Nat) (w:World) (R:RW):Prop:=
 CP 59 #[pointer a,slice c d f] w (fun g h=>
 ∃i j,g= .returned (tuple #[int .i64 i,int .i64 j])∧
 ac (j != 0)
 (R (tuple #[slice none 0 0,int .i64 i,int .i64 j]) h)
 (CP 62 #[pointer a,string b] h (fun k l=>
 ∃m n o,k= .returned (slice m n o)∧
 CP 60 #[pointer a,slice m n o,slice c d f] l (fun p q=>
 ∃r s t,p= .returned (slice r s t)∧
 R (tuple #[slice r s t,int .i64 i,int .i64 0]) q))))
theorem oG (a:OA) (b:ByteArray) (c:OA) (d f:Nat) (w:World) (R:RW) (hh:KD a b c d f w R):CR 15 #[pointer a,string b,slice c d f] w R:=
 aF (fn:=Tryz.f15) (by kernel_rfl) (by kernel_rfl) (by kernel_rfl) (by kernel_rfl) (by kernel_rfl) hh
def Ke (a b:OA) (c d:Nat) (w:World) (R:RW):Prop:=
 CP 14 #[pointer a,slice b c d] w (fun f g=>
 ∃h i j k l,f= .returned (tuple #[slice h i j,int .i64 k,int .i64 l])∧
 ac (l != 0)
 (R (tuple #[slice none 0 0,int .i64 k,int .i64 l]) g)
 (ag a (fun m=>
 ∃n,g.cell? (m.add 2)=some (pointer n)∧
 CP 19 #[pointer n] g (fun o p=>
 ∃q,o= .returned (int .i64 q)∧
 Ar .i64 (q+64) (fun r=>
 Ar .i64 (r-1) (fun s=>
 (64:Int)≠0∧
 ∃t x y z,(Instr.makeSlice 47 (int .i64 (IntKind.wrap .i64 (Int.tdiv s 64))) (int .i64 (IntKind.wrap .i64 (Int.tdiv s 64)))).run Tryz.prog p= .ok (slice t x y) z∧
 ∀a1:KW,(∀(b1:Int) (c1:World),(ac (decide (b1< (i:Int)))
 (ag h (fun d1=>
 (0:Int)≤b1∧b1< (i:Int)∧
 ∃e1,c1.cell? (d1.add (b1.toNat*1))=some (int .i64 e1)∧
 ag a (fun f1=>
 ∃g1,c1.cell? (f1.add 2)=some (pointer g1)∧
 CP 20 #[pointer g1,int .i64 e1] c1 (fun h1 i1=>
 ∃j1 k1,h1= .returned (tuple #[int .i64 j1,bool k1])∧
 ∀l1,l1=i1.drew→
 (64:Int)≠0∧
 ag t (fun m1=>
 (0:Int)≤(IntKind.wrap .i64 (Int.tdiv j1 64))∧(IntKind.wrap .i64 (Int.tdiv j1 64)) < (x:Int)∧
 ∃n1,l1.cell? (m1.add ((IntKind.wrap .i64 (Int.tdiv j1 64):Int).toNat*1))=some (int .u64 n1)∧
 (64:Int)≠0∧
 (0:Int)≤(Int.tmod j1 64)∧
 ag t (fun o1=>
 (0:Int)≤(IntKind.wrap .i64 (Int.tdiv j1 64))∧(IntKind.wrap .i64 (Int.tdiv j1 64)) < (x:Int)∧
 (int .u64 (IntKind.wrap .u64 ((BitVec.ofInt (IntKind.bits .u64) n1|||BitVec.ofInt (IntKind.bits .u64) (IntKind.wrap .u64 ((1:Int)*2^(min (Int.tmod j1 64:Int).toNat (IntKind.bits .u64))))).toNat:Int))).oneCell'=true∧(∃u,l1.cell? (o1.add ((IntKind.wrap .i64 (Int.tdiv j1 64):Int).toNat*1))=some u)∧l1.frozen? (o1.add ((IntKind.wrap .i64 (Int.tdiv j1 64):Int).toNat*1))=false∧
 ∀p1,p1=(l1.setCell (o1.add ((IntKind.wrap .i64 (Int.tdiv j1 64):Int).toNat*1)) (int .u64 (IntKind.wrap .u64 ((BitVec.ofInt (IntKind.bits .u64) n1|||BitVec.ofInt (IntKind.bits .u64) (IntKind.wrap .u64 ((1:Int)*2^(min (Int.tmod j1 64:Int).toNat (IntKind.bits .u64))))).toNat:Int))))→
 Ar .i64 (b1+1) (fun q1=>
 a1 [int .i64 q1] p1)))))))
 (R (tuple #[slice t x y,int .i64 k,int .i64 0]) c1))→a1 [int .i64 b1] c1)→
 a1 [int .i64 0] z))))))
theorem xD (a b:OA) (c d:Nat) (w:World) (R:RW) (hh:Ke a b c d w R):CR 16 #[pointer a,slice b c d] w R:=
 aF (fn:=Tryz.f16) (by kernel_rfl) (by kernel_rfl) (by kernel_rfl) (by kernel_rfl) (by kernel_rfl) hh
def Kh (a:OA) (b:ByteArray) (c:OA) (d f:Nat) (w:World) (R:RW):Prop:=
 CP 59 #[pointer a,slice c d f] w (fun g h=>
 ∃i j,g= .returned (tuple #[int .i64 i,int .i64 j])∧
 ac (j != 0)
 (R (tuple #[slice none 0 0,string ⟨#[]⟩,int .i64 j]) h)
 (CP 65 #[slice c d f] h (fun k l=>
 ∃m n o,k= .returned (slice m n o)∧
 ∀p:KW,(∀(q:OA) (r s:Nat) (t:OA) (u x:Nat) (y:Int) (z:ByteArray) (a1:OA) (b1 c1:Nat) (d1:ByteArray) (e1:World),(CP 66 #[pointer a,string d1,slice t u x] e1 (fun f1 g1=>
 ∃h1 i1 j1,f1= .returned (tuple #[int .i64 h1,string i1,bool j1])∧
 ac (!j1)
 (R (tuple #[slice q r s,string d1,int .i64 0]) g1)
 (∀k1,k1=g1.alloc (.cells #[int .i64 h1] 3)→
 ∃l1 m1 n1 o1,(Builtin.append_ #[28,28] 28 #[slice q r s,slice (some (nb g1)) 1 1]).run Tryz.prog k1= .ok (slice l1 m1 n1) o1∧
 ∀p1,p1=o1.alloc (.cells #[int .i64 h1] 3)→
 ∃q1 r1 s1 t1,(Builtin.append_ #[28,28] 28 #[slice t u x,slice (some (nb o1)) 1 1]).run Tryz.prog p1= .ok (slice q1 r1 s1) t1∧
 p [slice l1 m1 n1,slice q1 r1 s1,int .i64 y,string z,slice a1 b1 c1,string i1] t1)))→p [slice q r s,slice t u x,int .i64 y,string z,slice a1 b1 c1,string d1] e1)→
 p [slice none 0 0,slice m n o,int .i64 0,string ⟨#[]⟩,slice none 0 0,string b] l)))
theorem oU (a:OA) (b:ByteArray) (c:OA) (d f:Nat) (w:World) (R:RW) (hh:Kh a b c d f w R):CR 25 #[pointer a,string b,slice c d f] w R:=
 aF (fn:=Tryz.f25) (by kernel_rfl) (by kernel_rfl) (by kernel_rfl) (by kernel_rfl) (by kernel_rfl) hh
def KH (a b:OA) (w:World) (R:RW):Prop:=
 ac (Option.isNone a)
 (R (tuple #[pointer none,int .i64 1]) w)
 (ac (Option.isNone b)
 (R (tuple #[pointer none,int .i64 1]) w)
 (CP 19 #[pointer b] w (fun c d=>
 ∃f,c= .returned (int .i64 f)∧
 CP 61 #[pointer a] d (fun g h=>
 ∃i j k,g= .returned (slice i j k)∧
 ac (f != (j:Int))
 (R (tuple #[pointer none,int .i64 1]) h)
 (CP 61 #[pointer a] h (fun l m=>
 ∃n o p,l= .returned (slice n o p)∧
 ∀q:KW,(∀(r s:Int) (t:OA) (u:World),(ac (decide (r< (o:Int)))
 (ag n (fun x=>
 (0:Int)≤r∧r< (o:Int)∧
 ∃y,u.cell? (x.add (r.toNat*1))=some (int .i64 y)∧
 CP 38 #[pointer b,int .i64 r] u (fun z a1=>
 ∃b1 c1,z= .returned (tuple #[int .i64 b1,bool c1])∧
 ac (!c1)
 (R (tuple #[pointer none,int .i64 1]) a1)
 (ac (b1 != y)
 (R (tuple #[pointer none,int .i64 1]) a1)
 (Ar .i64 (r+1) (fun d1=>
 q [int .i64 d1,int .i64 s,pointer t] a1))))))
 (CP 78 #[pointer a] u (fun e1 f1=>
 ∃g1,e1= .returned (pointer g1)∧
 CP 77 #[pointer g1] f1 (fun h1 i1=>
 ∃j1,h1= .returned (pointer j1)∧
 ∀k1,k1=i1.alloc (.cells #[pointer j1,pointer a,pointer b] 126)→
 R (tuple #[pointer (some (nb i1)),int .i64 0]) k1))))→q [int .i64 r,int .i64 s,pointer t] u)→
 q [int .i64 0,int .i64 0,pointer none] m))))))
theorem ip (a b:OA) (w:World) (R:RW) (hh:KH a b w R):CR 33 #[pointer a,pointer b] w R:=
 aF (fn:=Tryz.f33) (by kernel_rfl) (by kernel_rfl) (by kernel_rfl) (by kernel_rfl) (by kernel_rfl) hh
def KE (a:OA) (b:ByteArray) (c:OA) (d f:Nat) (w:World) (R:RW):Prop:=
 CP 59 #[pointer a,slice c d f] w (fun g h=>
 ∃i j,g= .returned (tuple #[int .i64 i,int .i64 j])∧
 ac (j != 0)
 (R (bool false) h)
 (ag a (fun k=>
 ∃l,h.cell? (k.add 1)=some (pointer l)∧
 CP 78 #[pointer l] h (fun m n=>
 ∃o,m= .returned (pointer o)∧
 CP 79 #[pointer o,string b] n (fun p q=>
 ∃r s,p= .returned (tuple #[int .i64 r,bool s])∧
 ac s
 (CP 80 #[pointer a,slice c d f,int .i64 r] q (fun t u=>
 ∃x,t= .returned (bool x)∧
 R (bool x) u))
 (R (bool false) q))))))
theorem xK (a:OA) (b:ByteArray) (c:OA) (d f:Nat) (w:World) (R:RW) (hh:KE a b c d f w R):CR 34 #[pointer a,string b,slice c d f] w R:=
 aF (fn:=Tryz.f34) (by kernel_rfl) (by kernel_rfl) (by kernel_rfl) (by kernel_rfl) (by kernel_rfl) hh
def JZ (a b:OA) (c d:Nat) (w:World) (R:RW):Prop:=
 ∀f,f=w.alloc (.cells #[pointer a] 31)→
 ∃g,f.cell? (nb w)=some (pointer g)∧
 ac (Option.isNone g)
 (R (tuple #[int .i64 0,int .i64 1]) f)
 (CP 113 #[slice b c d,func (.func 114) #[] #[pointer (some (nb w))]] f (fun h i=>
 ∃j,h= .returned (int .i64 j)∧
 ac (decide (j≥0))
 (R (tuple #[int .i64 j,int .i64 4]) i)
 (∃k,i.cell? (nb w)=some (pointer k)∧
 ag k (fun l=>
 ∃m,i.cell? (l.add 2)=some (pointer m)∧
 CP 116 #[pointer m,slice b c d] i (fun n o=>
 ∃p q,n= .returned (tuple #[int .i64 p,bool q])∧
 ac q
 (R (tuple #[int .i64 p,int .i64 11]) o)
 (R (tuple #[int .i64 (c:Int),int .i64 0]) o))))))
theorem oo (a b:OA) (c d:Nat) (w:World) (R:RW) (hh:JZ a b c d w R):CR 59 #[pointer a,slice b c d] w R:=
 aF (fn:=Tryz.f59) (by kernel_rfl) (by kernel_rfl) (by kernel_rfl) (by kernel_rfl) (by kernel_rfl) hh
def Kz (a b:OA) (c d:Nat) (f:OA) (g h:Nat) (w:World) (R:RW):Prop:=
 ∀i,i=w.alloc (.cells #[pointer a] 31)→
 ∀j,j=i.alloc (.cells #[slice f g h] 28)→
 CP 117 #[slice b c d,func (.func 118) #[] #[pointer (some (nb w)),pointer (some (nb i))]] j (fun k l=>
 ∃m n o,k= .returned (slice m n o)∧
 R (slice m n o) l)
theorem yj (a b:OA) (c d:Nat) (f:OA) (g h:Nat) (w:World) (R:RW) (hh:Kz a b c d f g h w R):CR 60 #[pointer a,slice b c d,slice f g h] w R:=
 aF (fn:=Tryz.f60) (by kernel_rfl) (by kernel_rfl) (by kernel_rfl) (by kernel_rfl) (by kernel_rfl) hh
def Kt (a:OA) (b:ByteArray) (w:World) (R:RW):Prop:=
 ∀c,c=w.drew→
 ag a (fun d=>
 ∃f,c.cell? (d.add 0)=some (pointer f)∧
 ag a (fun g=>
 ∃h,c.cell? (g.add 0)=some (pointer h)∧
 CP 123 #[pointer f,string b] c (fun i j=>
 ∃k l m,i= .returned (slice k l m)∧
 (j.cell? (g.add 0)=some (pointer h)∧True)∧
 CP 124 #[pointer h,string b] j (fun n o=>
 ∃p q r,n= .returned (slice p q r)∧
 ∃s t u x,(Builtin.append_ #[28,28] 28 #[slice k l m,slice p q r]).run Tryz.prog o= .ok (slice s t u) x∧
 CP 122 #[slice s t u] x (fun y z=>
 y= .returned (tuple #[])∧
 CP 125 #[slice s t u] z (fun a1 b1=>
 ∃c1 d1 e1,a1= .returned (slice c1 d1 e1)∧
 R (slice c1 d1 e1) b1))))))
theorem yb (a:OA) (b:ByteArray) (w:World) (R:RW) (hh:Kt a b w R):CR 62 #[pointer a,string b] w R:=
 aF (fn:=Tryz.f62) (by kernel_rfl) (by kernel_rfl) (by kernel_rfl) (by kernel_rfl) (by kernel_rfl) hh
def JY (a:OA) (b:ByteArray) (c:OA) (d f:Nat) (w:World) (R:RW):Prop:=
 CP 62 #[pointer a,string b] w (fun g h=>
 ∃i j k,g= .returned (slice i j k)∧
 CP 60 #[pointer a,slice i j k,slice c d f] h (fun l m=>
 ∃n o p,l= .returned (slice n o p)∧
 ac (b.toList==(⟨#[]⟩:ByteArray).toList)
 (R (tuple #[int .i64 0,string b,bool false]) m)
 (ac ((o:Int) != 1)
 (R (tuple #[int .i64 0,string b,bool false]) m)
 (∀q,q=m.drew→
 ag a (fun r=>
 ∃s,q.cell? (r.add 1)=some (pointer s)∧
 ag n (fun t=>
 (0:Int)≤0∧0< (o:Int)∧
 ∃u,q.cell? (t.add ((0:Int).toNat*1))=some (int .i64 u)∧
 CP 78 #[pointer s] q (fun x y=>
 ∃z,x= .returned (pointer z)∧
 (y.cell? (t.add ((0:Int).toNat*1))=some (int .i64 u)∧True)∧
 CP 126 #[pointer z,int .i64 u] y (fun a1 b1=>
 ∃c1 d1,a1= .returned (tuple #[string c1,bool d1])∧
 ac (decide (((c1.size:Int):Int)>(b.size:Int)))
 (R (tuple #[int .i64 0,string b,bool false]) b1)
 (∀e1,e1=b1.drew→
 ag n (fun f1=>
 (0:Int)≤0∧0< (o:Int)∧
 ∃g1,e1.cell? (f1.add ((0:Int).toNat*1))=some (int .i64 g1)∧
 (0:Int)≤((c1.size:Int):Int)∧((c1.size:Int):Int)≤((b.size:Nat):Int)∧((b.size:Nat):Int)≤(b.size:Int)∧
 R (tuple #[int .i64 g1,string (b.extract ((c1.size:Int):Int).toNat ((b.size:Nat):Int).toNat),bool true]) e1))))))))))
theorem xV (a:OA) (b:ByteArray) (c:OA) (d f:Nat) (w:World) (R:RW) (hh:JY a b c d f w R):CR 66 #[pointer a,string b,slice c d f] w R:=
 aF (fn:=Tryz.f66) (by kernel_rfl) (by kernel_rfl) (by kernel_rfl) (by kernel_rfl) (by kernel_rfl) hh
def JU (a b:OA) (c d:Nat) (f:Int) (w:World) (R:RW):Prop:=
 ac ((c:Int)==0)
 (ag a (fun g=>
 ∃h,w.cell? (g.add 2)=some (pointer h)∧
 CP 90 #[pointer h,int .i64 f] w (fun i j=>
 ∃k,i= .returned (bool k)∧
 R (bool k) j)))
 (∀l,l=w.drew→
 ag a (fun m=>
 ∃n,l.cell? (m.add 2)=some (pointer n)∧
 Ar .i64 ((c:Int)-1) (fun o=>
 ag b (fun p=>
 (0:Int)≤o∧o< (c:Int)∧
 ∃q,l.cell? (p.add (o.toNat*1))=some (int .i64 q)∧
 CP 91 #[pointer n,int .i64 q,int .i64 f] l (fun r s=>
 ∃t,r= .returned (bool t)∧
 R (bool t) s)))))
theorem yw (a b:OA) (c d:Nat) (f:Int) (w:World) (R:RW) (hh:JU a b c d f w R):CR 80 #[pointer a,slice b c d,int .i64 f] w R:=
 aF (fn:=Tryz.f80) (by kernel_rfl) (by kernel_rfl) (by kernel_rfl) (by kernel_rfl) (by kernel_rfl) hh
def JO (a:Int) (b:OA) (w:World) (R:RW):Prop:=
 ag b (fun c=>
 ∃d,w.cell? c=some (pointer d)∧
 ag d (fun f=>
 ∃g,w.cell? (f.add 1)=some (pointer g)∧
 CP 115 #[pointer g,int .i64 a] w (fun h i=>
 ∃j,h= .returned (bool j)∧
 R (bool (!j)) i)))
theorem uA (a:Int) (b:OA) (w:World) (R:RW) (hh:JO a b w R):CR 114 #[int .i64 a,pointer b] w R:=
 aF (fn:=Tryz.f114) (by kernel_rfl) (by kernel_rfl) (by kernel_rfl) (by kernel_rfl) (by kernel_rfl) hh
def Ho (a:Int) (b c:OA) (w:World) (R:RW):Prop:=
 ag b (fun d=>
 ∃f,w.cell? d=some (pointer f)∧
 ag c (fun g=>
 ∃h i j,w.cell? g=some (slice h i j)∧
 CP 80 #[pointer f,slice h i j,int .i64 a] w (fun k l=>
 ∃m,k= .returned (bool m)∧
 R (bool (!m)) l)))
theorem tw (a:Int) (b c:OA) (w:World) (R:RW) (hh:Ho a b c w R):CR 118 #[int .i64 a,pointer b,pointer c] w R:=
 aF (fn:=Tryz.f118) (by kernel_rfl) (by kernel_rfl) (by kernel_rfl) (by kernel_rfl) (by kernel_rfl) hh
theorem vn {xs:List Int} (x:Int):x∈Lib.compact xs↔x∈xs:=by
 have key:∀m,m≤xs.length→∀x,x∈Lib.compactUpTo xs.toArray m↔∃j,j<m∧xs[j]? =some x:=by
  intro m;induction m with
  |zero=>intro _ x;simp [Lib.compactUpTo]
  |succ m ih=>
   intro hm x;have ihm:=ih (by omega);have hg:xs.toArray[m]! =xs[m]:=by simp [show m<xs.length by omega]
   rw [Lib.compactUpTo_succ,List.mem_append,ihm];by_cases hk:Lib.keeps xs.toArray m=true
   ·rw [if_pos hk,List.mem_singleton,hg];constructor
    ·rintro(⟨j,h1,h2⟩ |rfl)
     ·exact⟨j,by omega,h2⟩
     ·exact⟨m,by omega,List.getElem?_eq_getElem (by omega)⟩
    ·rintro⟨j,h1,h2⟩;by_cases e:j=m
     ·subst e;rw [List.getElem?_eq_getElem (by omega)]at h2;cases h2;exact .inr rfl
     ·exact .inl ⟨j,by omega,h2⟩
   ·rw [if_neg hk];have hk:¬(m=0∨xs.toArray[m]! ≠xs.toArray[m-1]!):=by
     intro h;exact hk (decide_eq_true h)
    have h0:m≠0:=fun h=>hk (.inl h);have he:xs.toArray[m]! =xs.toArray[m-1]! :=by
     by_cases h:xs.toArray[m]! =xs.toArray[m-1]!
     ·exact h
     ·exact absurd (.inr h) hk
    have hg1:xs.toArray[m-1]! =xs[m-1]'(by omega):=by simp [show m-1<xs.length by omega]
    rw [hg,hg1]at he;constructor
    ·rintro(⟨j,h1,h2⟩ |h)
     ·exact⟨j,by omega,h2⟩
     ·cases h
    ·rintro⟨j,h1,h2⟩;by_cases e:j=m
     ·subst e;rw [List.getElem?_eq_getElem (by omega)]at h2;cases h2;exact .inl ⟨j-1,by omega,by rw [List.getElem?_eq_getElem (by omega),he]⟩
     ·exact .inl ⟨j,by omega,h2⟩
 unfold Lib.compact;rw [key _ (Nat.le_refl _)];constructor
 ·rintro⟨j,_,h⟩;exact List.mem_of_getElem? h
 ·intro h;obtain⟨j,hj⟩:=List.getElem?_of_mem h;exact⟨j,(List.getElem?_eq_some_iff.1 hj).1,hj⟩
theorem pL {xs:List Int} (hs:xs.Pairwise (·≤ ·)):(Lib.compact xs).Pairwise (·< ·):=by
 unfold Lib.compact Lib.compactUpTo;rw [List.pairwise_map];refine List.Pairwise.imp_of_mem (R:=fun i j=>i<j) ?_ (List.Pairwise.filter _ List.pairwise_lt_range);intro i j hi hj hij;rw [List.mem_filter,List.mem_range]at hi hj;have hk:j=0∨xs.toArray[j]! ≠xs.toArray[j-1]! :=of_decide_eq_true hj.2;have g:∀k (h:k<xs.length),xs.toArray[k]! =xs[k]:=fun k h=>by simp [h]
 have hj1:=hj.1;rw [g j hj.1,g (j-1) (by omega)]at hk;rw [g i hi.1,g j hj.1];have le:∀a b (ha:a<xs.length) (hb:b<xs.length),a≤b→xs[a]≤xs[b]:=by
  intro a b ha hb hab;rcases Nat.lt_or_eq_of_le hab with h |rfl
  ·exact List.pairwise_iff_getElem.1 hs a b ha hb h
  ·exact Int.le_refl _
 have h1:=le i (j-1) hi.1 (by omega) (by omega);have h2:=le (j-1) j (by omega) hj.1 (by omega);rcases hk with hk |hk
 ·omega
 ·omega
theorem fZ.short {w:World} {b cap:Nat} {xs:List Int} (h:fZ w b cap xs) {ys zs:List Int} (e:xs=ys++zs):fZ w b cap ys:=by
 obtain⟨cur,h1,h2,h3,h4,h5⟩:=h;subst e;rw [List.length_append]at h2;refine⟨cur,h1,by omega,h3,h4,fun j hj=>?_⟩;rw [h5 j (by rw [List.length_append];omega),List.getElem_append_left hj]
theorem qi (w:World) (B:Nat) (l:Sl) (xs:List Int) (ho:w.ownsRow B ba 1 l.v l.n (xs.flatMap av)) (hl:xs.length≤1000000):
  CP 125 #[l.v] w fun e w'=>∃l':Sl,e= .returned l'.v∧w'.ownsRow B ba 1 l'.v l'.n ((Lib.compact xs).flatMap av)∧w.grownBy w' l.v.ownBlock:=by
 obtain⟨hn,hc⟩:=fZ.of_own ho;rcases hc with rfl |⟨b,cap,rfl,hB,cur,h1,h2,h3,h4,h5⟩
 ·have h0:xs= []:=List.eq_nil_of_length_eq_zero hn.symm;subst h0;refine(Tryz.slices_Compact_int_empty none 0 w).mono ?_;rintro e w' ⟨rfl,hw⟩;subst hw;exact⟨cT,rfl,ho,⟨rfl,rfl,rfl,Nat.le_refl _,fun _ _ _=>rfl⟩⟩
 ·have ht:cur.toList.take xs.length=xs.map (Value.int .i64):=by
   apply List.ext_getElem?;intro j;rw [List.getElem?_take];by_cases hj:j<xs.length
   ·rw [if_pos hj,Array.getElem?_toList,h5 j hj,List.getElem?_map,List.getElem?_eq_getElem hj];rfl
   ·rw [if_neg hj,List.getElem?_map,List.getElem?_eq_none_iff.2 (by omega)];rfl
  refine(Tryz.slices_Compact_int b 0 cap xs w (holds_of_blockI h1 ht) (by omega) h2).mono ?_;rintro e w' ⟨rfl,q,rfl⟩;have hle:=Lib.compact_length_le xs;have hsz:(Lib.compact xs++List.replicate (xs.length- (Lib.compact xs).length) (0:Int)).length=xs.length:=by
   rw [List.length_append,List.length_replicate];omega
  obtain⟨ys,hys⟩:∃ys,ys=Lib.compact xs++List.replicate (xs.length- (Lib.compact xs).length) (0:Int):=⟨_,rfl⟩;rw [←hys]at hsz⊢;rw [←Sort.grow_empty (Sort.putRow (Value.int .i64) (Sort.ahead w q) b 0 ys.toArray)];have hown:=ownsRow_sortedI (n:=q) (os:=#[]) (e:=ba) hsz hB h1 h2 h3 (h4.trans (Nat.mul_one _).symm);rw [←fL]at hown;obtain⟨_,hc2⟩:=fZ.of_own (l:=⟨some ⟨b,0,none⟩,xs.length,cap⟩) hown;refine⟨⟨some ⟨b,0,none⟩,(Lib.compact xs).length,cap⟩,rfl,?_,grownBy_sortedI _⟩;rcases hc2 with e |⟨b',cap',e,_,hrow⟩
  ·simp [cT]at e
  ·simp only [Sl.mk.injEq,Option.some.injEq,Addr.mk.injEq,and_true]at e;obtain⟨rfl,_,rfl⟩:=e;exact(hrow.short hys).own hB
def C0 (idf:Bs→Int) (s:Bs) (i:Nat) (zs:List Int):Prop:=zs.length≤i∧∀x,x∈zs↔x≠ -1∧∃j,1≤j∧j≤i∧idf (s.take j)=x
set_option maxHeartbeats 1000000 in
theorem o_ {w:World} {n1 r:Nat} {S:List Bs} {nd mp:Bs→Nat} {idf:Bs→Int} (hT:bB w n1 S nd mp idf) {n:Int} (hR:c_ w r (nd []) n) (s:Bs) (hs:s.length≤1000000):
  CP 123 #[.pointer (some ⟨r,0,none⟩),.string (str s)] w fun e w'=>∃(l:Sl) (zs:List Int),e= .returned l.v∧w'.ownsRow w.heap.size ba 1 l.v l.n (zs.flatMap av)∧C0 idf s s.length zs∧Below w.heap.size w w':=by
 refine aO (vX (some ⟨r,0,none⟩) (str s) w) ?_;refine ac.no rfl (ag.mk _ rfl ⟨_,af _ _ hR 0,?_⟩);intro K hK I hI;have key:=aX (α:=Sl×List Int×World) s.length (fun i y=>s.take i∈S∧y.2.2.ownsRow w.heap.size ba 1 y.1.v y.1.n (y.2.1.flatMap av)∧C0 idf s i y.2.1∧Below w.heap.size w y.2.2) (fun i y=>I [.int .i64 (i:Int),.pointer (some ⟨nd (s.take i),0,none⟩),y.1.v] y.2.2) (cT,[],w) ⟨by rw [List.take_zero];exact hT.root,bR _ _ _ _ av,⟨Nat.le_refl _,fun x=>Iff.intro (fun h=>by cases h) (by rintro⟨_,j,h1,h2,_⟩;omega)⟩,Below.refl _ _⟩ ?_ ?_
 ·rw [List.take_zero]at key;exact key
 ·rintro i hi ih ⟨f,zs,q⟩ ⟨hin,ho,hz,hq⟩;change q.ownsRow w.heap.size ba 1 f.v f.n (zs.flatMap av)at ho;change C0 idf s i zs at hz;change Below w.heap.size w q at hq;refine hI _ _ f.a f.n f.c q (ac.yes (decide_eq_true (by rw [aB];omega)) ?_);intro J hJ w4 hw4;have b4:Below q.heap.size q w4:=by subst hw4;exact aL q
  have hq4:=ae hq b4;have ho4:=aJ ho b4;have hT4:=hT.on hq4;have hbt:de (str s) (i:Int)=((s[i]).toNat:Int):=dl s i hi;have hlk:=qD zL lF od (hT4.map _ hin).is s[i];rw [gX, ←iL hi]at hlk;refine ag.mk _ rfl ⟨_,af _ _ (hT4.node _ hin) 0,by omega,by rw [aB];omega,?_⟩;rw [hbt];by_cases hin2:s.take (i+1)∈S
  ·rw [if_pos hin2]at hlk;refine⟨_,_,hlk,ac.no rfl (ag.mk _ rfl ⟨_,af _ _ (hT4.node _ hin2) 1,ac.mk (fun h1=>?_) fun h1=>?_⟩)⟩
   ·have h1:idf (s.take (i+1))≠ -1:=by simpa using h1
    refine ag.mk _ rfl ⟨_,af _ _ (hT4.node _ hin2) 1,?_⟩;intro w6 hw6;have hfn:f.n=zs.length:=(Rw.of_own ho (fun _=>rfl) (by decide)).2;have hzl:=hz.1;obtain⟨f',w7,e1,e2,e3,e4,_⟩:=cK.push ho4 (idf (s.take (i+1))) hw6 rfl hq4.size (by omega) (by decide);refine⟨f'.a,f'.n,f'.c,w7,e2,hJ _ f'.a f'.n f'.c w7 (Ar.nat (i+1) rfl (by omega) (ih (f',zs++ [idf (s.take (i+1))],w7) ⟨hin2,e3,⟨by rw [List.length_append];simp;omega,fun x=>?_⟩,e4 _ hq4⟩))⟩;rw [List.mem_append,hz.2,List.mem_singleton];constructor
    ·rintro(⟨h2,j,h3,h4,h5⟩ |rfl)
     ·exact⟨h2,j,h3,by omega,h5⟩
     ·exact⟨h1,i+1,by omega,Nat.le_refl _,rfl⟩
    ·rintro⟨h2,j,h3,h4,h5⟩;by_cases e:j=i+1
     ·subst e;exact .inr h5.symm
     ·exact .inl ⟨h2,j,h3,by omega,h5⟩
   ·have h1:idf (s.take (i+1))= -1:=by simpa using h1
    refine hJ _ f.a f.n f.c w4 (Ar.nat (i+1) rfl (by omega) (ih (f,zs,w4) ⟨hin2,ho4,⟨Nat.le_succ_of_le hz.1,fun x=>?_⟩,hq4⟩));rw [hz.2];constructor
    ·rintro⟨h2,j,h3,h4,h5⟩;exact⟨h2,j,h3,by omega,h5⟩
    ·rintro⟨h2,j,h3,h4,h5⟩;by_cases e:j=i+1
     ·subst e;exact absurd (h5.symm.trans h1) h2
     ·exact⟨h2,j,h3,by omega,h5⟩
  ·rw [if_neg hin2]at hlk;refine⟨_,_,hlk,ac.yes rfl (hK _ _ f.a f.n f.c w4 ⟨f,zs,rfl,ho4,⟨by have:=hz.1;omega,fun x=>?_⟩,hq4⟩)⟩;rw [hz.2];constructor
   ·rintro⟨h2,j,h3,h4,h5⟩;exact⟨h2,j,h3,by omega,h5⟩
   ·rintro⟨h2,j,h3,h4,h5⟩;refine⟨h2,j,h3,?_,h5⟩;refine Nat.le_of_not_lt fun hlt=>?_;have hoff:s.take j∉S:=fun hx=>hin2 (hT.pre hx (by
     rw [show s.take (i+1)=(s.take j).take (i+1) by rw [List.take_take,Nat.min_eq_left (by omega)]];exact List.take_prefix _ _))
    have:=hT.off _ hoff;omega
 ·rintro⟨f,zs,q⟩ ⟨hin,ho,hz,hq⟩;exact hI _ _ f.a f.n f.c q (ac.no (decide_eq_false (by rw [aB];omega)) (hK _ _ f.a f.n f.c q ⟨f,zs,rfl,ho,hz,hq⟩))
theorem ny {w:World} {n1 r:Nat} {S:List Bs} {nd mp:Bs→Nat} {idf:Bs→Int} (hT:bB w n1 S nd mp idf) {n:Int} (hR:c_ w r (nd []) n) {N:Nat} (hI:CW S idf N) (s:Bs) (hs:s.length≤1000000):
  CP 124 #[.pointer (some ⟨r,0,none⟩),.string (str s)] w fun e w'=>∃(l:Sl) (zs:List Int),e= .returned l.v∧w'.ownsRow w.heap.size ba 1 l.v l.n (zs.flatMap av)∧zs.Pairwise (·< ·)∧(∀x,x∈zs↔Br S idf s x)∧Below w.heap.size w w':=by
 refine aO (uF (some ⟨r,0,none⟩) (str s) w) ?_;refine(qz w n1 r S nd mp idf hT n hR s (by omega)).mono ?_;rintro e w1 ⟨rfl,b1⟩;refine⟨_,rfl,?_⟩;by_cases hin:s∈S
 ·rw [if_pos hin];refine ac.no rfl ((oV (hT.on b1) hI hin).mono ?_);rintro e w2 ⟨l,zs,rfl,ho,hp,hz,b2⟩;exact⟨l.a,l.n,l.c,rfl,l,zs,rfl,cV ho b1.size,hp,hz,ae b1 b2⟩
 ·rw [if_neg hin];refine ac.yes rfl ⟨cT,[],rfl,bR _ _ _ _ av,.nil,fun x=>Iff.intro (fun h=>by cases h) ?_,b1⟩;rintro⟨_,u,hu,hp,_⟩;exact absurd (hT.pre hu hp) hin
def d' (T:List aP) (t:Bs):List Int:=((List.range T.length).map fun(i:Nat)=>(i:Int)).filter fun k=>decide (t<+:aE T k∨aE T k<+:t)
theorem h_ {T:List aP} {t:Bs} {k:Int}:k∈d' T t↔aZ T k∧(t<+:aE T k∨aE T k<+:t):=by
 unfold d';rw [List.mem_filter,decide_eq_true_eq];constructor
 ·rintro⟨hm,h1⟩;obtain⟨i,hi,rfl⟩:=List.mem_map.1 hm;have:=List.mem_range.1 hi;exact⟨⟨by omega,by omega⟩,h1⟩
 ·rintro⟨⟨h2,h3⟩,h1⟩;exact⟨List.mem_map.2 ⟨k.toNat,List.mem_range.2 (by omega),by omega⟩,h1⟩
theorem jS (T:List aP) (t:Bs):(d' T t).Pairwise (·< ·):=by
 refine List.Pairwise.filter _ ?_;rw [List.pairwise_map];exact List.pairwise_lt_range.imp fun h=>by omega
theorem CX (xs:List Int):(qV xs).Pairwise (·≤ ·):=by
 refine(List.pairwise_mergeSort (fun a b c h1 h2=>?_) (fun a b=>?_) xs).imp fun h=>of_decide_eq_true h
 ·have h1:=of_decide_eq_true h1;have h2:=of_decide_eq_true h2;exact decide_eq_true (by omega)
 ·rcases Int.le_total a b with h |h
  ·rw [decide_eq_true h];rfl
  ·rw [decide_eq_true h,Bool.or_true]
theorem BD {T:List aP} (hok:eA T) {x:Int} (hx:aZ T x):aE T x≠ []:=by
 obtain⟨h1,h2⟩:=hx;have:=qb hok x.toNat x.toNat (Nat.le_refl _) (by omega);rw [show((x.toNat:Nat):Int)=x by omega]at this;exact this
def J0 (a:OA) (w:World) (R:RW):Prop:=
 ac (Option.isNone a)
 (R (int .i64 0) w)
 (ag a (fun b=>
 ∃c d f,w.cell? (b.add 0)=some (slice c d f)∧
 R (int .i64 (d:Int)) w))
theorem zF (a:OA) (w:World) (R:RW) (hh:J0 a w R):CR 19 #[pointer a] w R:=
 aF (fn:=Tryz.f19) (by kernel_rfl) (by kernel_rfl) (by kernel_rfl) (by kernel_rfl) (by kernel_rfl) hh
def Ku (a:OA) (b:Int) (w:World) (R:RW):Prop:=
 ac (Option.isNone a)
 (R (tuple #[int .i64 0,bool false]) w)
 (ag a (fun c=>
 ∃d,w.cell? (c.add 1)=some (map d)∧
 ∃f g h,(Instr.lookup 128 (map d) (int .i64 b) true).run Tryz.prog w= .ok (tuple #[int .i64 f,bool g]) h∧
 R (tuple #[int .i64 f,bool g]) h))
theorem yY (a:OA) (b:Int) (w:World) (R:RW) (hh:Ku a b w R):CR 20 #[pointer a,int .i64 b] w R:=
 aF (fn:=Tryz.f20) (by kernel_rfl) (by kernel_rfl) (by kernel_rfl) (by kernel_rfl) (by kernel_rfl) hh
def Ks (a:OA) (b:Int) (w:World) (R:RW):Prop:=
 ∀c,c=w.alloc (.cells #[pointer a] 69)→
 ∃d,c.cell? (nb w)=some (pointer d)∧
 CP 61 #[pointer d] c (fun f g=>
 ∃h i j,f= .returned (slice h i j)∧
 ∀k,k=g.alloc (.cells #[slice none 0 0] 28)→
 (slice h i j).oneCell'=true∧(∃u,k.cell? (nb g)=some u)∧k.frozen? (nb g)=false∧
 ∀l,l=(k.setCell (nb g) (slice h i j))→
 ∃m,l.cell? (nb w)=some (pointer m)∧
 ac (Option.isNone m)
 (R (tuple #[pointer none,int .i64 1]) l)
 (∃n o p,l.cell? (nb g)=some (slice n o p)∧
 ∃q r s,l.cell? (nb g)=some (slice q r s)∧
 Ar .i64 ((o:Int)*(r:Int)) (fun t=>
 ac (decide (t>b))
 (R (tuple #[pointer none,int .i64 5]) l)
 (∃x y z,l.cell? (nb g)=some (slice x y z)∧
 ∃a1 b1,(Instr.makeMap 128 none).run Tryz.prog l= .ok (map a1) b1∧
 ∀c1,c1=b1.alloc (.cells #[slice x y z,map a1,slice none 0 0,slice none 0 0] 132)→
 ∀d1,d1=c1.alloc (.cells #[pointer none] 32)→
 (pointer (some (nb b1))).oneCell'=true∧(∃u,d1.cell? (nb c1)=some u)∧d1.frozen? (nb c1)=false∧
 ∀e1,e1=(d1.setCell (nb c1) (pointer (some (nb b1))))→
 ∃f1 g1 h1,e1.cell? (nb g)=some (slice f1 g1 h1)∧
 ∀i1:KW,(∀(j1:Int) (k1:World),(ac (decide (j1< (g1:Int)))
 (ag f1 (fun l1=>
 (0:Int)≤j1∧j1< (g1:Int)∧
 ∃m1,k1.cell? (l1.add (j1.toNat*1))=some (int .i64 m1)∧
 ∃n1,k1.cell? (nb c1)=some (pointer n1)∧
 ag n1 (fun o1=>
 ∃p1,k1.cell? (o1.add 1)=some (map p1)∧
 ∃q1,(Instr.mapUpdate 128 (map p1) (int .i64 m1) (int .i64 j1)).run Tryz.prog k1= .ok () q1∧
 Ar .i64 (j1+1) (fun r1=>
 i1 [int .i64 r1] q1))))
 (∀s1,s1=k1.drew→
 ∃t1,s1.cell? (nb c1)=some (pointer t1)∧
 ∃u1 v1 x1,s1.cell? (nb g)=some (slice u1 v1 x1)∧
 CP 71 #[int .i64 (v1:Int),func (.func 72) #[] #[pointer (some (nb w)),pointer (some (nb g))]] s1 (fun y1 z1=>
 ∃a2 b2 c2,y1= .returned (slice a2 b2 c2)∧
 (z1.cell? (nb c1)=some (pointer t1)∧True)∧
 ag t1 (fun d2=>
 (slice a2 b2 c2).oneCell'=true∧(∃u,z1.cell? (d2.add 3)=some u)∧z1.frozen? (d2.add 3)=false∧
 ∀e2,e2=(z1.setCell (d2.add 3) (slice a2 b2 c2))→
 ∃f2 g2 h2,e2.cell? (nb g)=some (slice f2 g2 h2)∧
 ∀i2:KW,(∀(j2:Int) (k2:World),(ac (decide (j2< (g2:Int)))
 (ag f2 (fun l2=>
 (0:Int)≤j2∧j2< (g2:Int)∧
 ∃m2,k2.cell? (l2.add (j2.toNat*1))=some (int .i64 m2)∧
 ∀n2,n2=k2.alloc (.cells #[int .i64 0] 3)→
 ∀o2,o2=n2.alloc (.cells #[int .i64 0] 3)→
 (int .i64 j2).oneCell'=true∧(∃u,o2.cell? (nb k2)=some u)∧o2.frozen? (nb k2)=false∧
 ∀p2,p2=(o2.setCell (nb k2) (int .i64 j2))→
 (int .i64 m2).oneCell'=true∧(∃u,p2.cell? (nb n2)=some u)∧p2.frozen? (nb n2)=false∧
 ∀q2,q2=(p2.setCell (nb n2) (int .i64 m2))→
 ∀r2,r2=q2.drew→
 ∃s2,r2.cell? (nb c1)=some (pointer s2)∧
 ∃t2,r2.cell? (nb c1)=some (pointer t2)∧
 ag t2 (fun u2=>
 ∃v2 x2 y2,r2.cell? (u2.add 2)=some (slice v2 x2 y2)∧
 ∃z2 a3 b3,r2.cell? (nb g)=some (slice z2 a3 b3)∧
 CP 71 #[int .i64 (a3:Int),func (.func 74) #[] #[pointer (some (nb c1)),pointer (some (nb k2)),pointer (some (nb w)),pointer (some (nb n2)),pointer (some (nb g))]] r2 (fun c3 d3=>
 ∃e3 f3 g3,c3= .returned (slice e3 f3 g3)∧
 (d3.cell? (u2.add 2)=some (slice v2 x2 y2)∧True)∧
 (d3.cell? (nb c1)=some (pointer t2)∧True)∧
 (d3.cell? (nb c1)=some (pointer s2)∧True)∧
 ∀h3,h3=d3.alloc (.cells #[slice e3 f3 g3] 130)→
 (h3.cell? (u2.add 2)=some (slice v2 x2 y2)∧True)∧
 (h3.cell? (nb c1)=some (pointer t2)∧True)∧
 (h3.cell? (nb c1)=some (pointer s2)∧True)∧
 ∃i3 j3 k3 l3,(Builtin.append_ #[129,129] 129 #[slice v2 x2 y2,slice (some (nb d3)) 1 1]).run Tryz.prog h3= .ok (slice i3 j3 k3) l3∧
 (l3.cell? (nb c1)=some (pointer s2)∧True)∧
 ag s2 (fun m3=>
 (slice i3 j3 k3).oneCell'=true∧(∃u,l3.cell? (m3.add 2)=some u)∧l3.frozen? (m3.add 2)=false∧
 ∀n3,n3=(l3.setCell (m3.add 2) (slice i3 j3 k3))→
 Ar .i64 (j2+1) (fun o3=>
 i2 [int .i64 o3] n3))))))
 (∃p3,k2.cell? (nb c1)=some (pointer p3)∧
 R (tuple #[pointer p3,int .i64 0]) k2))→i2 [int .i64 j2] k2)→
 i2 [int .i64 0] e2))))→i1 [int .i64 j1] k1)→
 i1 [int .i64 0] e1))))
theorem zl (a:OA) (b:Int) (w:World) (R:RW) (hh:Ks a b w R):CR 32 #[pointer a,int .i64 b] w R:=
 aF (fn:=Tryz.f32) (by kernel_rfl) (by kernel_rfl) (by kernel_rfl) (by kernel_rfl) (by kernel_rfl) hh
def Kb (a:OA) (b:Int) (w:World) (R:RW):Prop:=
 ac (decide (b<0))
 (R (tuple #[int .i64 0,bool false]) w)
 (CP 19 #[pointer a] w (fun c d=>
 ∃f,c= .returned (int .i64 f)∧
 ac (decide (b≥f))
 (R (tuple #[int .i64 0,bool false]) d)
 (ag a (fun g=>
 ∃h i j,d.cell? (g.add 0)=some (slice h i j)∧
 ag h (fun k=>
 (0:Int)≤b∧b< (i:Int)∧
 ∃l,d.cell? (k.add (b.toNat*1))=some (int .i64 l)∧
 R (tuple #[int .i64 l,bool true]) d)))))
theorem yR (a:OA) (b:Int) (w:World) (R:RW) (hh:Kb a b w R):CR 38 #[pointer a,int .i64 b] w R:=
 aF (fn:=Tryz.f38) (by kernel_rfl) (by kernel_rfl) (by kernel_rfl) (by kernel_rfl) (by kernel_rfl) hh
def Kv (a:OA) (w:World) (R:RW):Prop:=
 CP 119 #[pointer a] w (fun b c=>
 ∃d,b= .returned (int .i64 d)∧
 ∀f:KW,(∀(g:Int) (h:OA) (i j:Nat) (k:World),(ac (decide (g<d))
 (∀l,l=k.alloc (.cells #[int .i64 g] 3)→
 ∃m n o p,(Builtin.append_ #[28,28] 28 #[slice h i j,slice (some (nb k)) 1 1]).run Tryz.prog l= .ok (slice m n o) p∧
 Ar .i64 (g+1) (fun q=>
 f [int .i64 q,slice m n o] p))
 (CP 120 #[pointer a] k (fun r s=>
 ∃t,r= .returned (pointer t)∧
 CP 121 #[pointer t] s (fun u x=>
 ∃y z a1,u= .returned (slice y z a1)∧
 ∀b1:KW,(∀(c1:Int) (d1:OA) (e1 f1:Nat) (g1:World),(ac (decide (c1< (z:Int)))
 (ag y (fun h1=>
 (0:Int)≤c1∧c1< (z:Int)∧
 ∃i1 j1,(g1.cell? (h1.add (c1.toNat*2))=some (int .i64 i1)∧g1.cell? ((h1.add (c1.toNat*2)).add 1)=some (string j1)∧True)∧
 ∀k1,k1=g1.alloc (.cells #[int .i64 0,string ⟨#[]⟩] 75)→
 ay k1 (nb g1) (fun l1=>
 ∃m1,l1.cell? ((nb g1).add 0)=some (int .i64 m1)∧
 ∀n1,n1=l1.alloc (.cells #[int .i64 m1] 3)→
 ∃o1 p1 q1 r1,(Builtin.append_ #[28,28] 28 #[slice d1 e1 f1,slice (some (nb l1)) 1 1]).run Tryz.prog n1= .ok (slice o1 p1 q1) r1∧
 Ar .i64 (c1+1) (fun s1=>
 b1 [int .i64 s1,slice o1 p1 q1] r1)) [int .i64 i1,string j1] 0))
 (CP 122 #[slice d1 e1 f1] g1 (fun t1 u1=>
 t1= .returned (tuple #[])∧
 R (slice d1 e1 f1) u1)))→b1 [int .i64 c1,slice d1 e1 f1] g1)→
 b1 [int .i64 0,slice h i j] x))))→f [int .i64 g,slice h i j] k)→
 f [int .i64 0,slice none 0 0] c)
theorem ze (a:OA) (w:World) (R:RW) (hh:Kv a w R):CR 61 #[pointer a] w R:=
 aF (fn:=Tryz.f61) (by kernel_rfl) (by kernel_rfl) (by kernel_rfl) (by kernel_rfl) (by kernel_rfl) hh
def Kj (a:Int) (b:Value) (w:World) (R:RW):Prop:=
 Ar .i64 (a+64) (fun c=>
 Ar .i64 (c-1) (fun d=>
 (64:Int)≠0∧
 ∃f g h i,(Instr.makeSlice 130 (int .i64 (IntKind.wrap .i64 (Int.tdiv d 64))) (int .i64 (IntKind.wrap .i64 (Int.tdiv d 64)))).run Tryz.prog w= .ok (slice f g h) i∧
 ∀j:KW,(∀(k:Int) (l:World),(ac (decide (k<a))
 (∀m:KW,(∀n:World,(Ar .i64 (k+1) (fun o=>
 j [int .i64 o] n))→m [] n)→
 bP gW b [int .i64 k] l (fun p q=>
 ∃r,p= .returned (bool r)∧
 ac r
 (CP 146 #[slice f g h,int .i64 k] q (fun s t=>
 s= .returned (tuple #[])∧
 m [] t))
 (m [] q)))
 (R (slice f g h) l))→j [int .i64 k] l)→
 j [int .i64 0] i))
theorem zn (a:Int) (b:Value) (w:World) (R:RW) (hh:Kj a b w R):CR 71 #[int .i64 a,b] w R:=
 aF (fn:=Tryz.f71) (by kernel_rfl) (by kernel_rfl) (by kernel_rfl) (by kernel_rfl) (by kernel_rfl) hh
def J4 (a:Int) (b c:OA) (w:World) (R:RW):Prop:=
 ∀d,d=w.drew→
 ag b (fun f=>
 ∃g,d.cell? f=some (pointer g)∧
 ag c (fun h=>
 ∃i j k,d.cell? h=some (slice i j k)∧
 ag i (fun l=>
 (0:Int)≤a∧a< (j:Int)∧
 ∃m,d.cell? (l.add (a.toNat*1))=some (int .i64 m)∧
 CP 73 #[pointer g,int .i64 m] d (fun n o=>
 ∃p,n= .returned (bool p)∧
 R (bool p) o))))
theorem yM (a:Int) (b c:OA) (w:World) (R:RW) (hh:J4 a b c w R):CR 72 #[int .i64 a,pointer b,pointer c] w R:=
 aF (fn:=Tryz.f72) (by kernel_rfl) (by kernel_rfl) (by kernel_rfl) (by kernel_rfl) (by kernel_rfl) hh
def Ko (a:Int) (b c d f g:OA) (w:World) (R:RW):Prop:=
 ∀h,h=w.drew→
 ag b (fun i=>
 ∃j,h.cell? i=some (pointer j)∧
 ag j (fun k=>
 ∃l m n,h.cell? (k.add 3)=some (slice l m n)∧
 ag c (fun o=>
 ∃p,h.cell? o=some (int .i64 p)∧
 CP 75 #[slice l m n,int .i64 p] h (fun q r=>
 ∃s,q= .returned (bool s)∧
 ac s
 (ag b (fun t=>
 ∃u,r.cell? t=some (pointer u)∧
 ag u (fun x=>
 ∃y z a1,r.cell? (x.add 3)=some (slice y z a1)∧
 CP 75 #[slice y z a1,int .i64 a] r (fun b1 c1=>
 ∃d1,b1= .returned (bool d1)∧
 ac d1
 (ag d (fun e1=>
 ∃f1,c1.cell? e1=some (pointer f1)∧
 ag f (fun g1=>
 ∃h1,c1.cell? g1=some (int .i64 h1)∧
 ag g (fun i1=>
 ∃j1 k1 l1,c1.cell? i1=some (slice j1 k1 l1)∧
 ag j1 (fun m1=>
 (0:Int)≤a∧a< (k1:Int)∧
 ∃n1,c1.cell? (m1.add (a.toNat*1))=some (int .i64 n1)∧
 CP 76 #[pointer f1,int .i64 h1,int .i64 n1] c1 (fun o1 p1=>
 ∃q1,o1= .returned (bool q1)∧
 R (bool q1) p1))))))
 (R (bool false) c1)))))
 (R (bool false) r)))))
theorem xZ (a:Int) (b c d f g:OA) (w:World) (R:RW) (hh:Ko a b c d f g w R):CR 74 #[int .i64 a,pointer b,pointer c,pointer d,pointer f,pointer g] w R:=
 aF (fn:=Tryz.f74) (by kernel_rfl) (by kernel_rfl) (by kernel_rfl) (by kernel_rfl) (by kernel_rfl) hh
def HB (a:OA) (b c:Nat) (d:Int) (w:World) (R:RW):Prop:=
 (64:Int)≠0∧
 ag a (fun f=>
 (0:Int)≤(IntKind.wrap .i64 (Int.tdiv d 64))∧(IntKind.wrap .i64 (Int.tdiv d 64)) < (b:Int)∧
 ∃g,w.cell? (f.add ((IntKind.wrap .i64 (Int.tdiv d 64):Int).toNat*1))=some (int .u64 g)∧
 (64:Int)≠0∧
 (0:Int)≤(Int.tmod d 64)∧
 R (bool ((IntKind.wrap .u64 ((BitVec.ofInt (IntKind.bits .u64) (Int.fdiv g (2^(min (Int.tmod d 64:Int).toNat (IntKind.bits .u64))))&&&BitVec.ofInt (IntKind.bits .u64) 1).toNat:Int):Int)==1)) w)
theorem xS (a:OA) (b c:Nat) (d:Int) (w:World) (R:RW) (hh:HB a b c d w R):CR 75 #[slice a b c,int .i64 d] w R:=
 aF (fn:=Tryz.f75) (by kernel_rfl) (by kernel_rfl) (by kernel_rfl) (by kernel_rfl) (by kernel_rfl) hh
def Kf (a:OA) (b c:Int) (w:World) (R:RW):Prop:=
 CP 73 #[pointer a,int .i64 b] w (fun d f=>
 ∃g,d= .returned (bool g)∧
 ac g
 (CP 73 #[pointer a,int .i64 c] f (fun h i=>
 ∃j,h= .returned (bool j)∧
 ac j
 (CP 150 #[pointer a,int .i64 b,int .i64 c] i (fun k l=>
 ∃m,k= .returned (bool m)∧
 R (bool m) l))
 (R (bool false) i)))
 (R (bool false) f))
theorem yV (a:OA) (b c:Int) (w:World) (R:RW) (hh:Kf a b c w R):CR 76 #[pointer a,int .i64 b,int .i64 c] w R:=
 aF (fn:=Tryz.f76) (by kernel_rfl) (by kernel_rfl) (by kernel_rfl) (by kernel_rfl) (by kernel_rfl) hh
def Ki (a:OA) (b:Int) (w:World) (R:RW):Prop:=
 CP 20 #[pointer a,int .i64 b] w (fun c d=>
 ∃f g,c= .returned (tuple #[int .i64 f,bool g])∧
 ac g
 (ag a (fun h=>
 ∃i j k,d.cell? (h.add 3)=some (slice i j k)∧
 CP 75 #[slice i j k,int .i64 f] d (fun l m=>
 ∃n,l= .returned (bool n)∧
 R (bool n) m)))
 (R (bool false) d))
theorem zf (a:OA) (b:Int) (w:World) (R:RW) (hh:Ki a b w R):CR 90 #[pointer a,int .i64 b] w R:=
 aF (fn:=Tryz.f90) (by kernel_rfl) (by kernel_rfl) (by kernel_rfl) (by kernel_rfl) (by kernel_rfl) hh
def Ka (a:OA) (b c:Int) (w:World) (R:RW):Prop:=
 CP 20 #[pointer a,int .i64 b] w (fun d f=>
 ∃g h,d= .returned (tuple #[int .i64 g,bool h])∧
 CP 20 #[pointer a,int .i64 c] f (fun i j=>
 ∃k l,i= .returned (tuple #[int .i64 k,bool l])∧
 ac h
 (ac l
 (ag a (fun m=>
 ∃n o p,j.cell? (m.add 2)=some (slice n o p)∧
 ag n (fun q=>
 (0:Int)≤g∧g< (o:Int)∧
 ∃r s t,j.cell? (q.add (g.toNat*1))=some (slice r s t)∧
 CP 75 #[slice r s t,int .i64 k] j (fun u x=>
 ∃y,u= .returned (bool y)∧
 R (bool y) x))))
 (R (bool false) j))
 (R (bool false) j)))
theorem zp (a:OA) (b c:Int) (w:World) (R:RW) (hh:Ka a b c w R):CR 91 #[pointer a,int .i64 b,int .i64 c] w R:=
 aF (fn:=Tryz.f91) (by kernel_rfl) (by kernel_rfl) (by kernel_rfl) (by kernel_rfl) (by kernel_rfl) hh
def JR (a b:OA) (c d:Nat) (w:World) (R:RW):Prop:=
 ∀f:KW,(∀(g:Int) (h:Bool) (i:Int) (j:World),(ac (decide (g< (c:Int)))
 (ag b (fun k=>
 (0:Int)≤g∧g< (c:Int)∧
 ∃l,j.cell? (k.add (g.toNat*1))=some (int .i64 l)∧
 CP 90 #[pointer a,int .i64 l] j (fun m n=>
 ∃o,m= .returned (bool o)∧
 ac (!o)
 (R (tuple #[int .i64 g,bool true]) n)
 (ac (decide (g>0))
 (Ar .i64 (g-1) (fun p=>
 ag b (fun q=>
 (0:Int)≤p∧p< (c:Int)∧
 ∃r,n.cell? (q.add (p.toNat*1))=some (int .i64 r)∧
 CP 91 #[pointer a,int .i64 r,int .i64 l] n (fun s t=>
 ∃u,s= .returned (bool u)∧
 ac (!u)
 (R (tuple #[int .i64 g,bool true]) t)
 (Ar .i64 (g+1) (fun x=>
 f [int .i64 x,bool h,int .i64 i] t))))))
 (Ar .i64 (g+1) (fun y=>
 f [int .i64 y,bool h,int .i64 i] n))))))
 (R (tuple #[int .i64 0,bool false]) j))→f [int .i64 g,bool h,int .i64 i] j)→
 f [int .i64 0,bool false,int .i64 0] w
theorem vy (a b:OA) (c d:Nat) (w:World) (R:RW) (hh:JR a b c d w R):CR 116 #[pointer a,slice b c d] w R:=
 aF (fn:=Tryz.f116) (by kernel_rfl) (by kernel_rfl) (by kernel_rfl) (by kernel_rfl) (by kernel_rfl) hh
def G_ (a:OA) (w:World) (R:RW):Prop:=
 ac (Option.isNone a)
 (R (slice none 0 0) w)
 (ag a (fun b=>
 ∃c d f,w.cell? (b.add 0)=some (slice c d f)∧
 CP 169 #[slice c d f] w (fun g h=>
 ∃i j k,g= .returned (slice i j k)∧
 R (slice i j k) h)))
theorem xf (a:OA) (w:World) (R:RW) (hh:G_ a w R):CR 121 #[pointer a] w R:=
 aF (fn:=Tryz.f121) (by kernel_rfl) (by kernel_rfl) (by kernel_rfl) (by kernel_rfl) (by kernel_rfl) hh
def Fb (a:OA) (b c:Nat) (w:World) (R:RW):Prop:=
 CP 171 #[int .u64 (IntKind.wrap .u64 (b:Int))] w (fun d f=>
 ∃g,d= .returned (int .i64 g)∧
 CP 170 #[slice a b c,int .i64 0,int .i64 (b:Int),int .i64 g] f (fun h i=>
 h= .returned (tuple #[])∧
 R (tuple #[]) i))
theorem wS (a:OA) (b c:Nat) (w:World) (R:RW) (hh:Fb a b c w R):CR 122 #[slice a b c] w R:=
 aF (fn:=Tryz.f122) (by kernel_rfl) (by kernel_rfl) (by kernel_rfl) (by kernel_rfl) (by kernel_rfl) hh
def HW (a:OA) (b c:Nat) (d:Int) (w:World) (R:RW):Prop:=
 ∀f,f=w.drew→
 (64:Int)≠0∧
 ag a (fun g=>
 (0:Int)≤(IntKind.wrap .i64 (Int.tdiv d 64))∧(IntKind.wrap .i64 (Int.tdiv d 64)) < (b:Int)∧
 ∃h,f.cell? (g.add ((IntKind.wrap .i64 (Int.tdiv d 64):Int).toNat*1))=some (int .u64 h)∧
 (64:Int)≠0∧
 (0:Int)≤(Int.tmod d 64)∧
 ag a (fun i=>
 (0:Int)≤(IntKind.wrap .i64 (Int.tdiv d 64))∧(IntKind.wrap .i64 (Int.tdiv d 64)) < (b:Int)∧
 (int .u64 (IntKind.wrap .u64 ((BitVec.ofInt (IntKind.bits .u64) h|||BitVec.ofInt (IntKind.bits .u64) (IntKind.wrap .u64 ((1:Int)*2^(min (Int.tmod d 64:Int).toNat (IntKind.bits .u64))))).toNat:Int))).oneCell'=true∧(∃u,f.cell? (i.add ((IntKind.wrap .i64 (Int.tdiv d 64):Int).toNat*1))=some u)∧f.frozen? (i.add ((IntKind.wrap .i64 (Int.tdiv d 64):Int).toNat*1))=false∧
 ∀j,j=(f.setCell (i.add ((IntKind.wrap .i64 (Int.tdiv d 64):Int).toNat*1)) (int .u64 (IntKind.wrap .u64 ((BitVec.ofInt (IntKind.bits .u64) h|||BitVec.ofInt (IntKind.bits .u64) (IntKind.wrap .u64 ((1:Int)*2^(min (Int.tmod d 64:Int).toNat (IntKind.bits .u64))))).toNat:Int))))→
 R (tuple #[]) j))
theorem vw (a:OA) (b c:Nat) (d:Int) (w:World) (R:RW) (hh:HW a b c d w R):CR 146 #[slice a b c,int .i64 d] w R:=
 aF (fn:=Tryz.f146) (by kernel_rfl) (by kernel_rfl) (by kernel_rfl) (by kernel_rfl) (by kernel_rfl) hh
def HX (a:Int) (w:World) (R:RW):Prop:=
 R (bool (a != a)) w
theorem wN (a:Int) (w:World) (R:RW) (hh:HX a w R):CR 158 #[int .i64 a] w R:=
 aF (fn:=Tryz.f158) (by kernel_rfl) (by kernel_rfl) (by kernel_rfl) (by kernel_rfl) (by kernel_rfl) hh
def G1 (a:OA) (b c:Nat) (d f g:Int) (w:World) (R:RW):Prop:=
 ∀h:KW,(∀(i j:Bool) (k l m:Int) (n:World),(∀o:KW,(∀(p q:Bool) (r s t:Int) (u:World),(h [bool p,bool q,int .i64 r,int .i64 s,int .i64 t] u)→o [bool p,bool q,int .i64 r,int .i64 s,int .i64 t] u)→
 Ar .i64 (l-k) (fun x=>
 ac (decide (x≤12))
 (CP 218 #[slice a b c,int .i64 k,int .i64 l] n (fun y z=>
 y= .returned (tuple #[])∧
 R (tuple #[]) z))
 (ac (m==0)
 (CP 219 #[slice a b c,int .i64 k,int .i64 l] n (fun a1 b1=>
 a1= .returned (tuple #[])∧
 R (tuple #[]) b1))
 (∀c1:KW,(∀(d1:Int) (e1:World),(CP 221 #[slice a b c,int .i64 k,int .i64 l] e1 (fun f1 g1=>
 ∃h1 i1,f1= .returned (tuple #[int .i64 h1,int .i64 i1])∧
 ∀j1:KW,(∀(k1 l1:Int) (m1:World),(∀n1:KW,(∀o1:World,(∀p1,p1=o1.drew→
 ac (decide (k>0))
 (Ar .i64 (k-1) (fun q1=>
 ag a (fun r1=>
 (0:Int)≤q1∧q1< (b:Int)∧
 ∃s1,p1.cell? (r1.add (q1.toNat*1))=some (int .i64 s1)∧
 ag a (fun t1=>
 (0:Int)≤l1∧l1< (b:Int)∧
 ∃u1,p1.cell? (t1.add (l1.toNat*1))=some (int .i64 u1)∧
 CP 224 #[int .i64 s1,int .i64 u1] p1 (fun v1 x1=>
 ∃y1,v1= .returned (bool y1)∧
 ac (!y1)
 (CP 225 #[slice a b c,int .i64 k,int .i64 l,int .i64 l1] x1 (fun z1 a2=>
 ∃b2,z1= .returned (int .i64 b2)∧
 o [bool i,bool j,int .i64 b2,int .i64 l,int .i64 d1] a2))
 (CP 226 #[slice a b c,int .i64 k,int .i64 l,int .i64 l1] x1 (fun c2 d2=>
 ∃e2 f2,c2= .returned (tuple #[int .i64 e2,bool f2])∧
 Ar .i64 (e2-k) (fun g2=>
 Ar .i64 (l-e2) (fun h2=>
 (8:Int)≠0∧
 ac (decide (g2<h2))
 (CP 170 #[slice a b c,int .i64 k,int .i64 e2,int .i64 d1] d2 (fun i2 j2=>
 i2= .returned (tuple #[])∧
 Ar .i64 (e2+1) (fun k2=>
 o [bool f2,bool (decide (g2≥(IntKind.wrap .i64 (Int.tdiv x 8)))),int .i64 k2,int .i64 l,int .i64 d1] j2)))
 (Ar .i64 (e2+1) (fun l2=>
 CP 170 #[slice a b c,int .i64 l2,int .i64 l,int .i64 d1] d2 (fun m2 n2=>
 m2= .returned (tuple #[])∧
 o [bool f2,bool (decide (h2≥(IntKind.wrap .i64 (Int.tdiv x 8)))),int .i64 k,int .i64 e2,int .i64 d1] n2))))))))))))
 (CP 226 #[slice a b c,int .i64 k,int .i64 l,int .i64 l1] p1 (fun o2 p2=>
 ∃q2 r2,o2= .returned (tuple #[int .i64 q2,bool r2])∧
 Ar .i64 (q2-k) (fun s2=>
 Ar .i64 (l-q2) (fun t2=>
 (8:Int)≠0∧
 ac (decide (s2<t2))
 (CP 170 #[slice a b c,int .i64 k,int .i64 q2,int .i64 d1] p2 (fun u2 v2=>
 u2= .returned (tuple #[])∧
 Ar .i64 (q2+1) (fun x2=>
 o [bool r2,bool (decide (s2≥(IntKind.wrap .i64 (Int.tdiv x 8)))),int .i64 x2,int .i64 l,int .i64 d1] v2)))
 (Ar .i64 (q2+1) (fun y2=>
 CP 170 #[slice a b c,int .i64 y2,int .i64 l,int .i64 d1] p2 (fun z2 a3=>
 z2= .returned (tuple #[])∧
 o [bool r2,bool (decide (t2≥(IntKind.wrap .i64 (Int.tdiv x 8)))),int .i64 k,int .i64 q2,int .i64 d1] a3))))))))→n1 [] o1)→
 ac j
 (ac i
 (ac (k1==1)
 (CP 223 #[slice a b c,int .i64 k,int .i64 l] m1 (fun b3 c3=>
 ∃d3,b3= .returned (bool d3)∧
 ac d3
 (R (tuple #[]) c3)
 (n1 [] c3)))
 (n1 [] m1))
 (n1 [] m1))
 (n1 [] m1))→j1 [int .i64 k1,int .i64 l1] m1)→
 ac (i1==2)
 (CP 222 #[slice a b c,int .i64 k,int .i64 l] g1 (fun e3 f3=>
 e3= .returned (tuple #[])∧
 Ar .i64 (l-1) (fun g3=>
 Ar .i64 (h1-k) (fun h3=>
 Ar .i64 (g3-h3) (fun i3=>
 j1 [int .i64 1,int .i64 i3] f3)))))
 (j1 [int .i64 i1,int .i64 h1] g1)))→c1 [int .i64 d1] e1)→
 ac (!j)
 (CP 220 #[slice a b c,int .i64 k,int .i64 l] n (fun j3 k3=>
 j3= .returned (tuple #[])∧
 Ar .i64 (m-1) (fun l3=>
 c1 [int .i64 l3] k3)))
 (c1 [int .i64 m] n)))))→h [bool i,bool j,int .i64 k,int .i64 l,int .i64 m] n)→
 h [bool true,bool true,int .i64 d,int .i64 f,int .i64 g] w
theorem wF (a:OA) (b c:Nat) (d f g:Int) (w:World) (R:RW) (hh:G1 a b c d f g w R):CR 170 #[slice a b c,int .i64 d,int .i64 f,int .i64 g] w R:=
 aF (fn:=Tryz.f170) (by kernel_rfl) (by kernel_rfl) (by kernel_rfl) (by kernel_rfl) (by kernel_rfl) hh
def Ji (a:Int) (w:World) (R:RW):Prop:=
 CP 228 #[int .u64 a] w (fun b c=>
 ∃d,b= .returned (int .i64 d)∧
 R (int .i64 d) c)
theorem uu (a:Int) (w:World) (R:RW) (hh:Ji a w R):CR 171 #[int .u64 a] w R:=
 aF (fn:=Tryz.f171) (by kernel_rfl) (by kernel_rfl) (by kernel_rfl) (by kernel_rfl) (by kernel_rfl) hh
def HP (a:OA) (b c:Nat) (d f:Int) (w:World) (R:RW):Prop:=
 Ar .i64 (f-d) (fun g=>
 ∀h,h=w.alloc (.cells #[int .i64 0] 3)→
 (4:Int)≠0∧
 Ar .i64 ((IntKind.wrap .i64 (Int.tdiv g 4):Int)*1) (fun i=>
 Ar .i64 (d+i) (fun j=>
 (4:Int)≠0∧
 Ar .i64 ((IntKind.wrap .i64 (Int.tdiv g 4):Int)*2) (fun k=>
 Ar .i64 (d+k) (fun l=>
 (4:Int)≠0∧
 Ar .i64 ((IntKind.wrap .i64 (Int.tdiv g 4):Int)*3) (fun m=>
 Ar .i64 (d+m) (fun n=>
 ∀o:KW,(∀(p q r:Int) (s:World),(∃t,s.cell? (nb w)=some (int .i64 t)∧
 ac (t==0)
 (R (tuple #[int .i64 q,int .i64 1]) s)
 (ac (t==12)
 (R (tuple #[int .i64 q,int .i64 2]) s)
 (R (tuple #[int .i64 q,int .i64 0]) s)))→o [int .i64 p,int .i64 q,int .i64 r] s)→
 ac (decide (g≥8))
 (∀u:KW,(∀(x y z:Int) (a1:World),(CP 255 #[slice a b c,int .i64 z,int .i64 y,int .i64 x,pointer (some (nb w))] a1 (fun b1 c1=>
 ∃d1,b1= .returned (int .i64 d1)∧
 o [int .i64 x,int .i64 d1,int .i64 z] c1))→u [int .i64 x,int .i64 y,int .i64 z] a1)→
 ac (decide (g≥50))
 (CP 254 #[slice a b c,int .i64 j,pointer (some (nb w))] h (fun e1 f1=>
 ∃g1,e1= .returned (int .i64 g1)∧
 CP 254 #[slice a b c,int .i64 l,pointer (some (nb w))] f1 (fun h1 i1=>
 ∃j1,h1= .returned (int .i64 j1)∧
 CP 254 #[slice a b c,int .i64 n,pointer (some (nb w))] i1 (fun k1 l1=>
 ∃m1,k1= .returned (int .i64 m1)∧
 u [int .i64 m1,int .i64 j1,int .i64 g1] l1))))
 (u [int .i64 n,int .i64 l,int .i64 j] h))
 (o [int .i64 n,int .i64 l,int .i64 j] h))))))))
theorem tD (a:OA) (b c:Nat) (d f:Int) (w:World) (R:RW) (hh:HP a b c d f w R):CR 221 #[slice a b c,int .i64 d,int .i64 f] w R:=
 aF (fn:=Tryz.f221) (by kernel_rfl) (by kernel_rfl) (by kernel_rfl) (by kernel_rfl) (by kernel_rfl) hh
def IL (a:OA) (b c:Nat) (d f:Int) (w:World) (R:RW):Prop:=
 Ar .i64 (d+1) (fun g=>
 ∀h:KW,(∀(i j:Int) (k:Bool) (l:World),(ac (decide (i<5))
 (∀m:KW,(∀(n:Int) (o:Bool) (p:World),(Ar .i64 (i+1) (fun q=>
 h [int .i64 q,int .i64 n,bool o] p))→m [int .i64 n,bool o] p)→
 ∀r:KW,(∀(s:Int) (t:World),(∀x,x=t.drew→
 ac (decide (s<f))
 (ag a (fun y=>
 (0:Int)≤s∧s< (b:Int)∧
 ∃z,x.cell? (y.add (s.toNat*1))=some (int .i64 z)∧
 Ar .i64 (s-1) (fun a1=>
 ag a (fun b1=>
 (0:Int)≤a1∧a1< (b:Int)∧
 ∃c1,x.cell? (b1.add (a1.toNat*1))=some (int .i64 c1)∧
 CP 224 #[int .i64 z,int .i64 c1] x (fun d1 e1=>
 ∃f1,d1= .returned (bool f1)∧
 ac (!f1)
 (Ar .i64 (s+1) (fun g1=>
 r [int .i64 g1] e1))
 (ac (s==f)
 (R (bool true) e1)
 (Ar .i64 (f-d) (fun h1=>
 ac (decide (h1<50))
 (R (bool false) e1)
 (∀i1,i1=e1.drew→
 Ar .i64 (s-1) (fun j1=>
 Ar .i64 (s-1) (fun k1=>
 ag a (fun l1=>
 (0:Int)≤k1∧k1< (b:Int)∧
 ∃m1,i1.cell? (l1.add (k1.toNat*1))=some (int .i64 m1)∧
 ag a (fun n1=>
 (0:Int)≤s∧s< (b:Int)∧
 ∃o1,i1.cell? (n1.add (s.toNat*1))=some (int .i64 o1)∧
 ag a (fun p1=>
 (0:Int)≤s∧s< (b:Int)∧
 (int .i64 m1).oneCell'=true∧(∃u,i1.cell? (p1.add (s.toNat*1))=some u)∧i1.frozen? (p1.add (s.toNat*1))=false∧
 ∀q1,q1=(i1.setCell (p1.add (s.toNat*1)) (int .i64 m1))→
 ag a (fun r1=>
 (0:Int)≤j1∧j1< (b:Int)∧
 (int .i64 o1).oneCell'=true∧(∃u,q1.cell? (r1.add (j1.toNat*1))=some u)∧q1.frozen? (r1.add (j1.toNat*1))=false∧
 ∀s1,s1=(q1.setCell (r1.add (j1.toNat*1)) (int .i64 o1))→
 ∀t1:KW,(∀u1:World,(Ar .i64 (f-s) (fun v1=>
 ac (decide (v1≥2))
 (Ar .i64 (s+1) (fun x1=>
 ∀y1:KW,(∀(z1:Int) (a2:World),(m [int .i64 s,bool k] a2)→y1 [int .i64 z1] a2)→
 ∀b2:KW,(∀(c2:Int) (d2:World),(ac (decide (c2<f))
 (∀e2,e2=d2.drew→
 ag a (fun f2=>
 (0:Int)≤c2∧c2< (b:Int)∧
 ∃g2,e2.cell? (f2.add (c2.toNat*1))=some (int .i64 g2)∧
 Ar .i64 (c2-1) (fun h2=>
 ag a (fun i2=>
 (0:Int)≤h2∧h2< (b:Int)∧
 ∃j2,e2.cell? (i2.add (h2.toNat*1))=some (int .i64 j2)∧
 CP 224 #[int .i64 g2,int .i64 j2] e2 (fun k2 l2=>
 ∃m2,k2= .returned (bool m2)∧
 ac (!m2)
 (y1 [int .i64 c2] l2)
 (∀n2,n2=l2.drew→
 Ar .i64 (c2-1) (fun o2=>
 Ar .i64 (c2-1) (fun p2=>
 ag a (fun q2=>
 (0:Int)≤p2∧p2< (b:Int)∧
 ∃r2,n2.cell? (q2.add (p2.toNat*1))=some (int .i64 r2)∧
 ag a (fun s2=>
 (0:Int)≤c2∧c2< (b:Int)∧
 ∃t2,n2.cell? (s2.add (c2.toNat*1))=some (int .i64 t2)∧
 ag a (fun u2=>
 (0:Int)≤c2∧c2< (b:Int)∧
 (int .i64 r2).oneCell'=true∧(∃u,n2.cell? (u2.add (c2.toNat*1))=some u)∧n2.frozen? (u2.add (c2.toNat*1))=false∧
 ∀v2,v2=(n2.setCell (u2.add (c2.toNat*1)) (int .i64 r2))→
 ag a (fun x2=>
 (0:Int)≤o2∧o2< (b:Int)∧
 (int .i64 t2).oneCell'=true∧(∃u,v2.cell? (x2.add (o2.toNat*1))=some u)∧v2.frozen? (x2.add (o2.toNat*1))=false∧
 ∀y2,y2=(v2.setCell (x2.add (o2.toNat*1)) (int .i64 t2))→
 Ar .i64 (c2+1) (fun z2=>
 b2 [int .i64 z2] y2)))))))))))))
 (y1 [int .i64 c2] d2))→b2 [int .i64 c2] d2)→
 b2 [int .i64 x1] u1))
 (m [int .i64 s,bool k] u1)))→t1 [] u1)→
 Ar .i64 (s-d) (fun a3=>
 ac (decide (a3≥2))
 (Ar .i64 (s-1) (fun b3=>
 ∀c3:KW,(∀(d3:Int) (e3:World),(t1 [] e3)→c3 [int .i64 d3] e3)→
 ∀f3:KW,(∀(g3:Int) (h3:World),(ac (decide (g3≥1))
 (∀i3,i3=h3.drew→
 ag a (fun j3=>
 (0:Int)≤g3∧g3< (b:Int)∧
 ∃k3,i3.cell? (j3.add (g3.toNat*1))=some (int .i64 k3)∧
 Ar .i64 (g3-1) (fun l3=>
 ag a (fun m3=>
 (0:Int)≤l3∧l3< (b:Int)∧
 ∃n3,i3.cell? (m3.add (l3.toNat*1))=some (int .i64 n3)∧
 CP 224 #[int .i64 k3,int .i64 n3] i3 (fun o3 p3=>
 ∃q3,o3= .returned (bool q3)∧
 ac (!q3)
 (c3 [int .i64 g3] p3)
 (∀r3,r3=p3.drew→
 Ar .i64 (g3-1) (fun s3=>
 Ar .i64 (g3-1) (fun t3=>
 ag a (fun u3=>
 (0:Int)≤t3∧t3< (b:Int)∧
 ∃v3,r3.cell? (u3.add (t3.toNat*1))=some (int .i64 v3)∧
 ag a (fun x3=>
 (0:Int)≤g3∧g3< (b:Int)∧
 ∃y3,r3.cell? (x3.add (g3.toNat*1))=some (int .i64 y3)∧
 ag a (fun z3=>
 (0:Int)≤g3∧g3< (b:Int)∧
 (int .i64 v3).oneCell'=true∧(∃u,r3.cell? (z3.add (g3.toNat*1))=some u)∧r3.frozen? (z3.add (g3.toNat*1))=false∧
 ∀a4,a4=(r3.setCell (z3.add (g3.toNat*1)) (int .i64 v3))→
 ag a (fun b4=>
 (0:Int)≤s3∧s3< (b:Int)∧
 (int .i64 y3).oneCell'=true∧(∃u,a4.cell? (b4.add (s3.toNat*1))=some u)∧a4.frozen? (b4.add (s3.toNat*1))=false∧
 ∀c4,c4=(a4.setCell (b4.add (s3.toNat*1)) (int .i64 y3))→
 Ar .i64 (g3-1) (fun d4=>
 f3 [int .i64 d4] c4)))))))))))))
 (c3 [int .i64 g3] h3))→f3 [int .i64 g3] h3)→
 f3 [int .i64 b3] s1))
 (t1 [] s1)))))))))))))))))
 (ac (s==f)
 (R (bool true) x)
 (Ar .i64 (f-d) (fun e4=>
 ac (decide (e4<50))
 (R (bool false) x)
 (∀f4,f4=x.drew→
 Ar .i64 (s-1) (fun g4=>
 Ar .i64 (s-1) (fun h4=>
 ag a (fun i4=>
 (0:Int)≤h4∧h4< (b:Int)∧
 ∃j4,f4.cell? (i4.add (h4.toNat*1))=some (int .i64 j4)∧
 ag a (fun k4=>
 (0:Int)≤s∧s< (b:Int)∧
 ∃l4,f4.cell? (k4.add (s.toNat*1))=some (int .i64 l4)∧
 ag a (fun m4=>
 (0:Int)≤s∧s< (b:Int)∧
 (int .i64 j4).oneCell'=true∧(∃u,f4.cell? (m4.add (s.toNat*1))=some u)∧f4.frozen? (m4.add (s.toNat*1))=false∧
 ∀n4,n4=(f4.setCell (m4.add (s.toNat*1)) (int .i64 j4))→
 ag a (fun o4=>
 (0:Int)≤g4∧g4< (b:Int)∧
 (int .i64 l4).oneCell'=true∧(∃u,n4.cell? (o4.add (g4.toNat*1))=some u)∧n4.frozen? (o4.add (g4.toNat*1))=false∧
 ∀p4,p4=(n4.setCell (o4.add (g4.toNat*1)) (int .i64 l4))→
 ∀q4:KW,(∀r4:World,(Ar .i64 (f-s) (fun s4=>
 ac (decide (s4≥2))
 (Ar .i64 (s+1) (fun t4=>
 ∀u4:KW,(∀(v4:Int) (x4:World),(m [int .i64 s,bool k] x4)→u4 [int .i64 v4] x4)→
 ∀y4:KW,(∀(z4:Int) (a5:World),(ac (decide (z4<f))
 (∀b5,b5=a5.drew→
 ag a (fun c5=>
 (0:Int)≤z4∧z4< (b:Int)∧
 ∃d5,b5.cell? (c5.add (z4.toNat*1))=some (int .i64 d5)∧
 Ar .i64 (z4-1) (fun e5=>
 ag a (fun f5=>
 (0:Int)≤e5∧e5< (b:Int)∧
 ∃g5,b5.cell? (f5.add (e5.toNat*1))=some (int .i64 g5)∧
 CP 224 #[int .i64 d5,int .i64 g5] b5 (fun h5 i5=>
 ∃j5,h5= .returned (bool j5)∧
 ac (!j5)
 (u4 [int .i64 z4] i5)
 (∀k5,k5=i5.drew→
 Ar .i64 (z4-1) (fun l5=>
 Ar .i64 (z4-1) (fun m5=>
 ag a (fun n5=>
 (0:Int)≤m5∧m5< (b:Int)∧
 ∃o5,k5.cell? (n5.add (m5.toNat*1))=some (int .i64 o5)∧
 ag a (fun p5=>
 (0:Int)≤z4∧z4< (b:Int)∧
 ∃q5,k5.cell? (p5.add (z4.toNat*1))=some (int .i64 q5)∧
 ag a (fun r5=>
 (0:Int)≤z4∧z4< (b:Int)∧
 (int .i64 o5).oneCell'=true∧(∃u,k5.cell? (r5.add (z4.toNat*1))=some u)∧k5.frozen? (r5.add (z4.toNat*1))=false∧
 ∀s5,s5=(k5.setCell (r5.add (z4.toNat*1)) (int .i64 o5))→
 ag a (fun t5=>
 (0:Int)≤l5∧l5< (b:Int)∧
 (int .i64 q5).oneCell'=true∧(∃u,s5.cell? (t5.add (l5.toNat*1))=some u)∧s5.frozen? (t5.add (l5.toNat*1))=false∧
 ∀u5,u5=(s5.setCell (t5.add (l5.toNat*1)) (int .i64 q5))→
 Ar .i64 (z4+1) (fun v5=>
 y4 [int .i64 v5] u5)))))))))))))
 (u4 [int .i64 z4] a5))→y4 [int .i64 z4] a5)→
 y4 [int .i64 t4] r4))
 (m [int .i64 s,bool k] r4)))→q4 [] r4)→
 Ar .i64 (s-d) (fun x5=>
 ac (decide (x5≥2))
 (Ar .i64 (s-1) (fun y5=>
 ∀z5:KW,(∀(a6:Int) (b6:World),(q4 [] b6)→z5 [int .i64 a6] b6)→
 ∀c6:KW,(∀(d6:Int) (e6:World),(ac (decide (d6≥1))
 (∀f6,f6=e6.drew→
 ag a (fun g6=>
 (0:Int)≤d6∧d6< (b:Int)∧
 ∃h6,f6.cell? (g6.add (d6.toNat*1))=some (int .i64 h6)∧
 Ar .i64 (d6-1) (fun i6=>
 ag a (fun j6=>
 (0:Int)≤i6∧i6< (b:Int)∧
 ∃k6,f6.cell? (j6.add (i6.toNat*1))=some (int .i64 k6)∧
 CP 224 #[int .i64 h6,int .i64 k6] f6 (fun l6 m6=>
 ∃n6,l6= .returned (bool n6)∧
 ac (!n6)
 (z5 [int .i64 d6] m6)
 (∀o6,o6=m6.drew→
 Ar .i64 (d6-1) (fun p6=>
 Ar .i64 (d6-1) (fun q6=>
 ag a (fun r6=>
 (0:Int)≤q6∧q6< (b:Int)∧
 ∃s6,o6.cell? (r6.add (q6.toNat*1))=some (int .i64 s6)∧
 ag a (fun t6=>
 (0:Int)≤d6∧d6< (b:Int)∧
 ∃u6,o6.cell? (t6.add (d6.toNat*1))=some (int .i64 u6)∧
 ag a (fun v6=>
 (0:Int)≤d6∧d6< (b:Int)∧
 (int .i64 s6).oneCell'=true∧(∃u,o6.cell? (v6.add (d6.toNat*1))=some u)∧o6.frozen? (v6.add (d6.toNat*1))=false∧
 ∀x6,x6=(o6.setCell (v6.add (d6.toNat*1)) (int .i64 s6))→
 ag a (fun y6=>
 (0:Int)≤p6∧p6< (b:Int)∧
 (int .i64 u6).oneCell'=true∧(∃u,x6.cell? (y6.add (p6.toNat*1))=some u)∧x6.frozen? (y6.add (p6.toNat*1))=false∧
 ∀z6,z6=(x6.setCell (y6.add (p6.toNat*1)) (int .i64 u6))→
 Ar .i64 (d6-1) (fun a7=>
 c6 [int .i64 a7] z6)))))))))))))
 (z5 [int .i64 d6] e6))→c6 [int .i64 d6] e6)→
 c6 [int .i64 y5] p4))
 (q4 [] p4)))))))))))))→r [int .i64 s] t)→
 r [int .i64 j] l)
 (R (bool false) l))→h [int .i64 i,int .i64 j,bool k] l)→
 h [int .i64 0,int .i64 g,bool false] w)
theorem tF (a:OA) (b c:Nat) (d f:Int) (w:World) (R:RW) (hh:IL a b c d f w R):CR 223 #[slice a b c,int .i64 d,int .i64 f] w R:=
 aF (fn:=Tryz.f223) (by kernel_rfl) (by kernel_rfl) (by kernel_rfl) (by kernel_rfl) (by kernel_rfl) hh
def JD (a b:Int) (w:World) (R:RW):Prop:=
 CP 158 #[int .i64 a] w (fun c d=>
 ∃f,c= .returned (bool f)∧
 ac f
 (CP 158 #[int .i64 b] d (fun g h=>
 ∃i,g= .returned (bool i)∧
 ac (!i)
 (R (bool true) h)
 (R (bool (decide (a<b))) h)))
 (R (bool (decide (a<b))) d))
theorem wM (a b:Int) (w:World) (R:RW) (hh:JD a b w R):CR 224 #[int .i64 a,int .i64 b] w R:=
 aF (fn:=Tryz.f224) (by kernel_rfl) (by kernel_rfl) (by kernel_rfl) (by kernel_rfl) (by kernel_rfl) hh
def Hk (a:Int) (w:World) (R:RW):Prop:=
 ∀b:KW,(∀(c d:Int) (f:World),(∀g:KW,(∀(h i:Int) (j:World),(∀k:KW,(∀(l m:Int) (n:World),((0:Int)≤(IntKind.wrap .u8 m)∧(IntKind.wrap .u8 m) < ((⟨#[0,1,2,2,3,3,3,3,4,4,4,4,4,4,4,4,5,5,5,5,5,5,5,5,5,5,5,5,5,5,5,5,6,6,6,6,6,6,6,6,6,6,6,6,6,6,6,6,6,6,6,6,6,6,6,6,6,6,6,6,6,6,6,6,7,7,7,7,7,7,7,7,7,7,7,7,7,7,7,7,7,7,7,7,7,7,7,7,7,7,7,7,7,7,7,7,7,7,7,7,7,7,7,7,7,7,7,7,7,7,7,7,7,7,7,7,7,7,7,7,7,7,7,7,7,7,7,7,8,8,8,8,8,8,8,8,8,8,8,8,8,8,8,8,8,8,8,8,8,8,8,8,8,8,8,8,8,8,8,8,8,8,8,8,8,8,8,8,8,8,8,8,8,8,8,8,8,8,8,8,8,8,8,8,8,8,8,8,8,8,8,8,8,8,8,8,8,8,8,8,8,8,8,8,8,8,8,8,8,8,8,8,8,8,8,8,8,8,8,8,8,8,8,8,8,8,8,8,8,8,8,8,8,8,8,8,8,8,8,8,8,8,8,8,8,8,8,8,8,8,8,8,8,8,8,8]⟩:ByteArray).size:Int)∧
 Ar .i64 (l+(IntKind.wrap .i64 (de ⟨#[0,1,2,2,3,3,3,3,4,4,4,4,4,4,4,4,5,5,5,5,5,5,5,5,5,5,5,5,5,5,5,5,6,6,6,6,6,6,6,6,6,6,6,6,6,6,6,6,6,6,6,6,6,6,6,6,6,6,6,6,6,6,6,6,7,7,7,7,7,7,7,7,7,7,7,7,7,7,7,7,7,7,7,7,7,7,7,7,7,7,7,7,7,7,7,7,7,7,7,7,7,7,7,7,7,7,7,7,7,7,7,7,7,7,7,7,7,7,7,7,7,7,7,7,7,7,7,7,8,8,8,8,8,8,8,8,8,8,8,8,8,8,8,8,8,8,8,8,8,8,8,8,8,8,8,8,8,8,8,8,8,8,8,8,8,8,8,8,8,8,8,8,8,8,8,8,8,8,8,8,8,8,8,8,8,8,8,8,8,8,8,8,8,8,8,8,8,8,8,8,8,8,8,8,8,8,8,8,8,8,8,8,8,8,8,8,8,8,8,8,8,8,8,8,8,8,8,8,8,8,8,8,8,8,8,8,8,8,8,8,8,8,8,8,8,8,8,8,8,8,8,8,8,8,8,8]⟩ (IntKind.wrap .u8 m)))) (fun o=>
 R (int .i64 o) n))→k [int .i64 l,int .u64 m] n)→
 ac (decide (i≥256))
 ((0:Int)≤8∧
 Ar .i64 (h+8) (fun p=>
 k [int .i64 p,int .u64 (Int.fdiv i (2^(min (8:Int).toNat (IntKind.bits .u64))))] j))
 (k [int .i64 h,int .u64 i] j))→g [int .i64 h,int .u64 i] j)→
 ac (decide (d≥65536))
 ((0:Int)≤16∧
 Ar .i64 (c+16) (fun q=>
 g [int .i64 q,int .u64 (Int.fdiv d (2^(min (16:Int).toNat (IntKind.bits .u64))))] f))
 (g [int .i64 c,int .u64 d] f))→b [int .i64 c,int .u64 d] f)→
 ac (decide (a≥4294967296))
 ((0:Int)≤32∧
 b [int .i64 32,int .u64 (Int.fdiv a (2^(min (32:Int).toNat (IntKind.bits .u64))))] w)
 (b [int .i64 0,int .u64 a] w)
theorem wA (a:Int) (w:World) (R:RW) (hh:Hk a w R):CR 228 #[int .u64 a] w R:=
 aF (fn:=Tryz.f228) (by kernel_rfl) (by kernel_rfl) (by kernel_rfl) (by kernel_rfl) (by kernel_rfl) hh
def IP (a:OA) (b c:Nat) (d:Int) (f:OA) (w:World) (R:RW):Prop:=
 Ar .i64 (d-1) (fun g=>
 Ar .i64 (d+1) (fun h=>
 CP 255 #[slice a b c,int .i64 g,int .i64 d,int .i64 h,pointer f] w (fun i j=>
 ∃k,i= .returned (int .i64 k)∧
 R (int .i64 k) j)))
theorem tJ (a:OA) (b c:Nat) (d:Int) (f:OA) (w:World) (R:RW) (hh:IP a b c d f w R):CR 254 #[slice a b c,int .i64 d,pointer f] w R:=
 aF (fn:=Tryz.f254) (by kernel_rfl) (by kernel_rfl) (by kernel_rfl) (by kernel_rfl) (by kernel_rfl) hh
def I' (a:OA) (b c:Nat) (d f g:Int) (h:OA) (w:World) (R:RW):Prop:=
 CP 269 #[slice a b c,int .i64 d,int .i64 f,pointer h] w (fun i j=>
 ∃k l,i= .returned (tuple #[int .i64 k,int .i64 l])∧
 CP 269 #[slice a b c,int .i64 l,int .i64 g,pointer h] j (fun m n=>
 ∃o p,m= .returned (tuple #[int .i64 o,int .i64 p])∧
 CP 269 #[slice a b c,int .i64 k,int .i64 o,pointer h] n (fun q r=>
 ∃s t,q= .returned (tuple #[int .i64 s,int .i64 t])∧
 R (int .i64 t) r)))
theorem vC (a:OA) (b c:Nat) (d f g:Int) (h:OA) (w:World) (R:RW) (hh:I' a b c d f g h w R):CR 255 #[slice a b c,int .i64 d,int .i64 f,int .i64 g,pointer h] w R:=
 aF (fn:=Tryz.f255) (by kernel_rfl) (by kernel_rfl) (by kernel_rfl) (by kernel_rfl) (by kernel_rfl) hh
def JB (a:OA) (b c:Nat) (d f:Int) (g:OA) (w:World) (R:RW):Prop:=
 ∀h,h=w.drew→
 ag a (fun i=>
 (0:Int)≤f∧f< (b:Int)∧
 ∃j,h.cell? (i.add (f.toNat*1))=some (int .i64 j)∧
 ag a (fun k=>
 (0:Int)≤d∧d< (b:Int)∧
 ∃l,h.cell? (k.add (d.toNat*1))=some (int .i64 l)∧
 CP 224 #[int .i64 j,int .i64 l] h (fun m n=>
 ∃o,m= .returned (bool o)∧
 ac o
 (ag g (fun p=>
 ∃q,n.cell? p=some (int .i64 q)∧
 Ar .i64 (q+1) (fun r=>
 ag g (fun s=>
 (int .i64 r).oneCell'=true∧(∃u,n.cell? s=some u)∧n.frozen? s=false∧
 ∀t,t=(n.setCell s (int .i64 r))→
 R (tuple #[int .i64 f,int .i64 d]) t))))
 (R (tuple #[int .i64 d,int .i64 f]) n))))
theorem xi (a:OA) (b c:Nat) (d f:Int) (g:OA) (w:World) (R:RW) (hh:JB a b c d f g w R):CR 269 #[slice a b c,int .i64 d,int .i64 f,pointer g] w R:=
 aF (fn:=Tryz.f269) (by kernel_rfl) (by kernel_rfl) (by kernel_rfl) (by kernel_rfl) (by kernel_rfl) hh
theorem zE (n:Int) (w:World):CP 158 #[.int .i64 n] w fun e w'=>e= .returned (.bool false)∧w'=w:=by
 refine aO (wN n w) ?_;exact⟨by simp,rfl⟩
theorem qN (x y:Int) (w:World):CP 224 #[.int .i64 x,.int .i64 y] w fun e w'=>e= .returned (.bool (decide (x<y)))∧w'=w:=by
 refine aO (wM x y w) ?_;refine(zE x w).mono ?_;rintro e w1 ⟨rfl,hw⟩;subst hw;exact⟨_,rfl,ac.no rfl ⟨rfl,rfl⟩⟩
def kd (l:List Int):Prop:=∀(i j:Nat) (hi:i<l.length) (hj:j<l.length),i<j→l[i] <l[j]
section
variable {A:Option Addr} {C:Nat} {l:List Int}
theorem i_ (hs:kd l) (w:World) (hr:Rw av 1 w A l) (i j:Nat) (hij:i<j) (hj:j<l.length) (p:Option Addr):
  CP 269 #[.slice A l.length C,.int .i64 (i:Int),.int .i64 (j:Int),.pointer p] w fun e w'=>e= .returned (.tuple #[.int .i64 (i:Int),.int .i64 (j:Int)])∧Below w.heap.size w w':=by
 refine aO (xi A l.length C i j p w) ?_;intro w1 hw1;have b1:Below w.heap.size w w1:=by subst hw1;exact aL w
 obtain⟨q,hq,c1⟩:=bw (hr.on b1) hj rfl;obtain⟨q',hq',c0⟩:=bw (hr.on b1) (show i<l.length by omega) rfl;refine ag.mk q hq ⟨by omega,by omega,_,c1,ag.mk q' hq' ⟨by omega,by omega,_,c0,?_⟩⟩;refine(qN _ _ w1).mono ?_;rintro e w2 ⟨rfl,hw⟩;subst hw;exact⟨_,rfl,ac.no (decide_eq_false (by have:=hs i j (by omega) hj hij;omega)) ⟨rfl,b1⟩⟩
theorem mO (hs:kd l) (hl:l.length≤1000000) (w:World) (hr:Rw av 1 w A l) (i j k:Nat) (hij:i<j) (hjk:j<k) (hk:k<l.length) (p:Option Addr):
  CP 255 #[.slice A l.length C,.int .i64 (i:Int),.int .i64 (j:Int),.int .i64 (k:Int),.pointer p] w fun e w'=>e= .returned (.int .i64 (j:Int))∧Below w.heap.size w w':=by
 refine aO (vC A l.length C i j k p w) ?_;refine(i_ hs w hr i j hij (by omega) p).mono ?_;rintro e w1 ⟨rfl,b1⟩;refine⟨_,_,rfl,?_⟩;refine(i_ hs w1 (hr.on b1) j k hjk hk p).mono ?_;rintro e w2 ⟨rfl,b2⟩;refine⟨_,_,rfl,?_⟩;have b12:=ae b1 b2;refine(i_ hs w2 (hr.on b12) i j hij (by omega) p).mono ?_;rintro e w3 ⟨rfl,b3⟩;exact⟨_,_,rfl,rfl,ae b12 b3⟩
theorem fV (hs:kd l) (hl:l.length≤1000000) (w:World) (hr:Rw av 1 w A l) (j:Nat) (h0:0<j) (hj:j+1<l.length) (p:Option Addr):
  CP 254 #[.slice A l.length C,.int .i64 (j:Int),.pointer p] w fun e w'=>e= .returned (.int .i64 (j:Int))∧Below w.heap.size w w':=by
 refine aO (tJ A l.length C j p w) ?_;refine Ar.nat (j-1) (by omega) (by omega) (Ar.nat (j+1) (by omega) (by omega) ?_);refine(mO hs hl w hr (j-1) j (j+1) (by omega) (by omega) hj p).mono ?_;rintro e w1 ⟨rfl,b1⟩;exact⟨_,rfl,rfl,b1⟩
theorem yP (hs:kd l) (hl:l.length≤1000000) (w:World) (hr:Rw av 1 w A l) (h50:50≤l.length):
  CP 221 #[.slice A l.length C,.int .i64 0,.int .i64 (l.length:Int)] w fun e w'=>∃n:Int,e= .returned (.tuple #[.int .i64 n,.int .i64 1])∧Below w.heap.size w w':=by
 refine aO (tD A l.length C 0 l.length w) ?_;refine Ar.nat l.length (by omega) (by omega) ?_;intro w1 hw1;have b1:Below w.heap.size w w1:=by subst hw1;exact ai _ _
 have l1:w1.heap[w.heap.size]? =some (.cells #[.int .i64 0] ba (0,0)):=by subst hw1;exact am _ _
 have hdiv:IntKind.wrap .i64 (Int.tdiv (l.length:Int) 4)=((l.length/4:Nat):Int):=by
  have:Int.tdiv (l.length:Int) 4=((l.length/4:Nat):Int):=rfl;rw [this];exact du (by show(-9223372036854775808:Int)≤_;omega) (by show _≤(9223372036854775807:Int);omega)
 rw [hdiv];refine⟨by decide,Ar.nat (l.length/4*1) (by omega) (by omega) (Ar.nat (l.length/4*1) (by omega) (by omega) ⟨by decide,Ar.nat (l.length/4*2) (by omega) (by omega) (Ar.nat (l.length/4*2) (by omega) (by omega) ⟨by decide,Ar.nat (l.length/4*3) (by omega) (by omega) (Ar.nat (l.length/4*3) (by omega) (by omega) ?_)⟩)⟩)⟩;intro J7 hJ7;refine ac.yes (decide_eq_true (by omega)) ?_;intro J9 hJ9;refine ac.yes (decide_eq_true (by omega)) ?_;refine(fV hs hl w1 (hr.on b1) (l.length/4*1) (by omega) (by omega) _).mono ?_;rintro e w2 ⟨rfl,b2⟩;have b12:=ae b1 b2;refine⟨_,rfl,(fV hs hl w2 (hr.on b12) (l.length/4*2) (by omega) (by omega) _).mono ?_⟩;rintro e w3 ⟨rfl,b3⟩;have b13:=ae b12 b3;refine⟨_,rfl,(fV hs hl w3 (hr.on b13) (l.length/4*3) (by omega) (by omega) _).mono ?_⟩;rintro e w4 ⟨rfl,b4⟩;have b14:=ae b13 b4;refine⟨_,rfl,hJ9 _ _ _ _ ((mO hs hl w4 (hr.on b14) (l.length/4*1) (l.length/4*2) (l.length/4*3) (by omega) (by omega) (by omega) _).mono ?_)⟩;rintro e w5 ⟨rfl,b5⟩;have l5:=aj b5 (aj b4 (aj b3 (aj b2 l1)));exact⟨_,rfl,hJ7 _ _ _ _ ⟨0,by rw [aN l5];rfl,ac.yes rfl ⟨_,rfl,ae b14 b5⟩⟩⟩
theorem r_ (hs:kd l) (hl:l.length≤1000000) (w:World) (hr:Rw av 1 w A l) (h0:0<l.length):
  CP 223 #[.slice A l.length C,.int .i64 0,.int .i64 (l.length:Int)] w fun e w'=>e= .returned (.bool true)∧Below w.heap.size w w':=by
 refine aO (tF A l.length C 0 l.length w) ?_;refine Ar.nat 1 (by omega) (by omega) ?_;intro I1 hI1;refine hI1 _ _ _ _ (ac.yes rfl ?_);intro J2 hJ2;intro I6 hI6;have key:=aX (α:=World) (l.length-1) (fun i q=>Below w.heap.size w q) (fun i q=>I6 [.int .i64 ((i+1:Nat):Int)] q) w (Below.refl _ _) ?_ ?_
 ·exact key
 ·rintro i hi ih q hB;refine hI6 _ _ ?_;intro q4 hq4;have b4:Below q.heap.size q q4:=by subst hq4;exact aL q
  have hB4:=ae hB b4;obtain⟨p,hp,c1⟩:=bw (hr.on hB4) (show i+1<l.length by omega) rfl;obtain⟨p',hp',c0⟩:=bw (hr.on hB4) (show i<l.length by omega) rfl;refine ac.yes (by simp;omega) (ag.mk p hp ⟨by omega,by omega,_,c1,Ar.nat i (by omega) (by omega) (ag.mk p' hp' ⟨by omega,by omega,_,c0,?_⟩)⟩);refine(qN _ _ q4).mono ?_;rintro e w5 ⟨rfl,hw⟩;subst hw;have:=hs i (i+1) (by omega) (by omega) (by omega);refine⟨_,rfl,ac.yes (by rw [decide_eq_false (by omega)];rfl) (Ar.nat (i+1+1) rfl (by omega) (ih w5 hB4))⟩
 ·rintro q hB;refine hI6 _ _ ?_;intro q4 hq4;have b4:Below q.heap.size q q4:=by subst hq4;exact aL q
  have e:((l.length-1+1:Nat):Int)=(l.length:Int):=by omega
  rw [e];exact ac.no (by simp) (ac.yes (by simp) ⟨rfl,ae hB b4⟩)
end
theorem xM (n:Nat) (w:World) (h1:256≤n) (h2:n≤65535):CP 228 #[.int .u64 (n:Int)] w fun e w'=>∃k:Int,e= .returned (.int .i64 k)∧k≠0∧w'=w:=by
 refine aQ (wA n w (fun u w'=>∃k:Int,u= .int .i64 k∧k≠0∧w'=w) ?_) (by rintro v w' ⟨k,rfl,h⟩;exact⟨k,rfl,h⟩);intro J1 hJ1;refine ac.no (decide_eq_false (by omega)) (hJ1 _ _ _ ?_);intro J3 hJ3;refine ac.no (decide_eq_false (by omega)) (hJ3 _ _ _ ?_);intro J6 hJ6;refine ac.yes (decide_eq_true (by omega)) ⟨by decide,Ar.nat 8 rfl (by omega) (hJ6 _ _ _ ?_)⟩;have e:Int.fdiv (n:Int) (2^(min (8:Int).toNat (IntKind.bits .u64)))=((n/256:Nat):Int):=by
  show Int.fdiv (n:Int) 256=_;rw [Int.fdiv_eq_ediv_of_nonneg _ (by decide)];rfl
 rw [e];have hw8:IntKind.wrap .u8 ((n/256:Nat):Int)=((n/256:Nat):Int):=du (by show(0:Int)≤_;omega) (by show _≤(255:Int);omega);rw [hw8];refine⟨by omega,by show((n/256:Nat):Int) <256;omega,?_⟩;have hb:∀s:ByteArray,0≤de s ((n/256:Nat):Int)∧de s ((n/256:Nat):Int)≤255:=by
  intro s;unfold de;cases s.data[((n/256:Nat):Int).toNat]? with
  |none=>simp
  |some b=>
   have:=b.toNat_lt;simp only [Option.map_some,Option.getD_some];omega
 have aux:∀s:ByteArray,Ar .i64 (((8:Nat):Int)+IntKind.wrap .i64 (de s ((n/256:Nat):Int))) (fun n_9=>∃k:Int,Value.int .i64 n_9= .int .i64 k∧k≠0∧w=w):=by
  intro s;have:=hb s;rw [du (z:=de s ((n/256:Nat):Int)) (by show(-9223372036854775808:Int)≤_;omega) (by show _≤(9223372036854775807:Int);omega)];exact Ar.ok64 (by omega) (by omega) ⟨_,rfl,by omega,rfl⟩
 exact aux _
theorem By (n:Nat) (w:World) (h1:256≤n) (h2:n≤65535):CP 171 #[.int .u64 (n:Int)] w fun e w'=>∃k:Int,e= .returned (.int .i64 k)∧k≠0∧w'=w:=by
 refine aO (uu n w) ?_;refine(xM n w h1 h2).mono ?_;rintro e w1 ⟨k,rfl,hk,hw⟩;exact⟨_,rfl,k,rfl,hk,hw⟩
theorem AR (w:World) (A:Option Addr) (C:Nat) (l:List Int) (hr:Rw av 1 w A l) (hs:kd l) (h1:256≤l.length) (h2:l.length≤65535):
  CP 122 #[.slice A l.length C] w fun e w'=>e= .returned (.tuple #[])∧Below w.heap.size w w':=by
 refine aO (wS A l.length C w) ?_;have hw:IntKind.wrap .u64 (l.length:Int)=(l.length:Int):=du (by show(0:Int)≤_;omega) (by show _≤(18446744073709551615:Int);omega);unfold Fb;rw [hw];refine(By l.length w h1 h2).mono ?_;rintro e w1 ⟨k,rfl,hk,hw1⟩;subst hw1;refine⟨_,rfl,?_⟩;have pdq:CP 170 #[.slice A l.length C,.int .i64 0,.int .i64 (l.length:Int),.int .i64 k] w1 fun e w'=>e= .returned (.tuple #[])∧Below w1.heap.size w1 w':=by
  refine aO (wF A l.length C 0 l.length k w1) ?_;intro I hI;refine hI _ _ _ _ _ _ ?_;intro J5 hJ5;refine Ar.nat l.length (by omega) (by omega) (ac.no (decide_eq_false (by omega)) (ac.no (by simpa using hk) ?_));intro J11 hJ11;refine ac.no rfl (hJ11 _ _ ?_);refine(yP hs (by omega) w1 hr (by omega)).mono ?_;rintro e w6 ⟨n,rfl,b6⟩;refine⟨_,_,rfl,?_⟩;intro J13 hJ13;refine ac.no rfl (hJ13 _ _ _ ?_);intro J14 hJ14;refine ac.yes rfl (ac.yes rfl (ac.yes rfl ?_));refine(r_ hs (by omega) w6 (hr.on b6) (by omega)).mono ?_;rintro e w18 ⟨rfl,b18⟩;exact⟨_,rfl,ac.yes rfl ⟨rfl,ae b6 b18⟩⟩
 refine pdq.mono ?_;rintro e w2 ⟨rfl,b2⟩;exact⟨rfl,rfl,b2⟩
def mE (f:Nat→Bool):Nat→Nat
 |0=>0
 |m+1=>mE f m|||(if f m then 2^m else 0)
theorem dc (f:Nat→Bool):∀m j,(mE f m).testBit j=(decide (j<m)&&f j)
 |0,j=>by simp [mE]
 |m+1,j=>by
  rw [mE,Nat.testBit_or,dc f m j];by_cases h:f m=true
  ·rw [if_pos h,Nat.testBit_two_pow];by_cases e:m=j
   ·subst e;simp [h]
   ·by_cases e2:j<m
    ·simp [e,e2,show j<m+1 by omega]
    ·simp [e,e2,show ¬j<m+1 by omega]
  ·rw [if_neg h,Nat.zero_testBit];by_cases e:j=m
   ·subst e;simp [h]
   ·by_cases e2:j<m
    ·simp [e2,show j<m+1 by omega]
    ·simp [e2,show ¬j<m+1 by omega]
theorem Dp (f:Nat→Bool) (m:Nat):mE f m<2^m:=by
 apply Nat.lt_pow_two_of_testBit;intro j hj;rw [dc,decide_eq_false (by omega)];rfl
theorem mV {f g:Nat→Bool} {m:Nat} (h:∀j,j<m→f j=g j):mE f m=mE g m:=by
 apply Nat.eq_of_testBit_eq;intro j;rw [dc,dc];by_cases hj:j<m
 ·rw [h j hj]
 ·simp [hj]
def wordAt (n:Nat) (p:Nat→Bool) (k:Nat):Nat:=mE (fun j=>decide (64*k+j<n)&&p (64*k+j)) 64
def bK (n:Nat) (p:Nat→Bool):List Int:=(List.range ((n+63)/64)).map fun k=>((wordAt n p k:Nat):Int)
theorem dk (n:Nat) (p:Nat→Bool):(bK n p).length=(n+63)/64:=by simp [bK]
theorem wW (n:Nat) (p:Nat→Bool) {k:Nat} (hk:k< (n+63)/64):(bK n p)[k]? =some ((wordAt n p k:Nat):Int):=by simp [bK,hk]
theorem rq (n:Nat) (p:Nat→Bool) (k:Nat):wordAt n p k<2^64:=Dp _ _
theorem uH (n:Nat) (p:Nat→Bool) {i:Nat} (hi:i<n):(wordAt n p (i/64)).testBit (i%64)=p i:=by
 rw [wordAt,dc];have h1:i%64<64:=Nat.mod_lt _ (by decide);have h2:64*(i/64)+i%64=i:=by omega
 simp [h1,h2,hi]
theorem nh (n:Nat) (p:Nat→Bool) {i:Nat} (hi:i<n) (hp:p i=true) (k:Nat):wordAt n (fun j=>p j&&decide (j<i+1)) k=if k=i/64 then wordAt n (fun j=>p j&&decide (j<i)) k|||2^(i%64)else wordAt n (fun j=>p j&&decide (j<i)) k:=by
 apply Nat.eq_of_testBit_eq;intro j;unfold wordAt;by_cases hk:k=i/64
 ·rw [if_pos hk,Nat.testBit_or,dc,dc,Nat.testBit_two_pow];by_cases hj:j<64
  ·by_cases e:i%64=j
   ·have:64*k+j=i:=by omega
    simp [hj,e,this,hi,hp]
   ·have hne:64*k+j≠i:=by omega
    simp only [hj,e,decide_true,decide_false,Bool.true_and,Bool.or_false];congr 2;exact decide_eq_decide.2 (by omega)
  ·have:i%64≠j:=by omega
   simp [hj,this]
 ·rw [if_neg hk,dc,dc];by_cases hj:j<64
  ·have hne:64*k+j≠i:=by omega
   simp only [hj,decide_true,Bool.true_and];congr 2;exact decide_eq_decide.2 (by omega)
  ·simp [hj]
theorem wX (n:Nat) (p:Nat→Bool) {i:Nat} (hp:p i=false) (k:Nat):wordAt n (fun j=>p j&&decide (j<i+1)) k=wordAt n (fun j=>p j&&decide (j<i)) k:=by
 unfold wordAt;apply mV;intro j _;congr 1;by_cases e:64*k+j=i
 ·simp [e,hp]
 ·have h2:decide (64*k+j<i+1)=decide (64*k+j<i):=decide_eq_decide.2 ⟨fun h=>by omega,fun h=>by omega⟩;simp only [h2]
theorem rV (n:Nat) (p:Nat→Bool) {i:Nat} (hi:i<n) (hp:p i=true):bK n (fun j=>p j&&decide (j<i+1))=(bK n (fun j=>p j&&decide (j<i))).set (i/64) (((wordAt n (fun j=>p j&&decide (j<i)) (i/64)|||2^(i%64):Nat)):Int):=by
 apply List.ext_getElem
 ·rw [List.length_set,dk,dk]
 ·intro k h1 h2;rw [List.getElem_set];rw [dk]at h1;by_cases e:i/64=k
  ·rw [if_pos e];simp only [bK,List.getElem_map,List.getElem_range];rw [nh n p hi hp,if_pos e.symm,e]
  ·rw [if_neg e];simp only [bK,List.getElem_map,List.getElem_range];rw [nh n p hi hp,if_neg (fun h=>e h.symm)]
theorem tc (n:Nat) (p:Nat→Bool) {i:Nat} (hp:p i=false):bK n (fun j=>p j&&decide (j<i+1))=bK n (fun j=>p j&&decide (j<i)):=by
 unfold bK;apply List.map_congr_left;intro k _;rw [wX n p hp]
theorem rG (n:Nat) (p:Nat→Bool):bK n (fun j=>p j&&decide (j<0))=List.replicate ((n+63)/64) 0:=by
 apply List.ext_getElem
 ·rw [dk,List.length_replicate]
 ·intro k h1 h2;simp only [bK,List.getElem_map,List.getElem_range,List.getElem_replicate];have:wordAt n (fun j=>p j&&decide (j<0)) k=0:=by
   apply Nat.eq_of_testBit_eq;intro j;unfold wordAt;rw [dc];simp
  rw [this];rfl
theorem wJ (n:Nat) (p:Nat→Bool):bK n (fun j=>p j&&decide (j<n))=bK n p:=by
 unfold bK;apply List.map_congr_left;intro k _;congr 1;unfold wordAt;apply mV;intro j _;by_cases e:64*k+j<n<;>simp [e]
abbrev iC:TypeId:=59
abbrev nt:TypeId:=130
theorem BZ:Tryz.prog.underlying nt=some (.slice iC):=by kernel_rfl
theorem zM:(Tryz.prog.info? iC).map (fun i=>(i.zero,i.size,i.bytes))=some (some (.int .u64 0),1,8):=by kernel_rfl
def eN (n:Int):List Value:=[.int .u64 n]
theorem zN:Bn eN 1 nt iC 8:=⟨fun _=>rfl,by decide,fun x u hu=>by rw [List.mem_singleton.1 hu];rfl,BZ,_,zM,rfl⟩
theorem qq (w:World) (n:Nat) (hn:n≤1000000):(Instr.makeSlice nt (.int .i64 n) (.int .i64 n)).run Tryz.prog w= .ok (.slice (some (nb w)) n n) (w.alloc (.cells (Array.replicate n (.int .u64 0)) iC)):=by
 obtain⟨i,hi,hz,hs,hb⟩:=info_parts zM;have:=Go.run_make (P:=Tryz.prog) w nt iC i (.int .u64 0) BZ hi hz .i64 .i64 (n:Int) (n:Int) (by omega) (Int.le_refl _) (by rw [hb];omega) (by omega);rw [this];congr 3;rw [hs];apply Array.ext
 ·rw [size_madeCells];simp
 ·intro j h1 h2;simp only [madeCells,Array.getElem_map,Array.getElem_range,Array.getElem_replicate];show(#[Value.int .u64 0]:Array Value)[j%1]! =_;rw [Nat.mod_one];rfl
theorem B3 {w:World} {n:Nat} {e:TypeId} (xs:List Value) (hx:xs.length=n) (hn:n≤1000000) {B:Nat} (hB:B≤w.heap.size):(w.alloc (.cells xs.toArray e)).ownsRow B e 1 (.slice (some (nb w)) n n) n xs:=by
 refine⟨by rw [hx,Nat.mul_one],.inr ⟨w.heap.size,n,xs.toArray,rfl,hB,am _ _,Nat.le_refl _,by unfold maxLen;omega,by rw [List.size_toArray,hx,Nat.mul_one],?_⟩⟩;rw [←hx,Nat.mul_one];exact List.take_length
theorem Dx (i:Nat) (hi:i≤1000000):IntKind.wrap .i64 (Int.tdiv (i:Int) 64)=((i/64:Nat):Int):=by
 have:Int.tdiv (i:Int) 64=((i/64:Nat):Int):=rfl;rw [this];exact du (by show(-9223372036854775808:Int)≤_;omega) (by show _≤(9223372036854775807:Int);omega)
theorem Fx (i:Nat):Int.tmod (i:Int) 64=((i%64:Nat):Int):=rfl
theorem mn (x:Nat) (hx:x<2^64):(BitVec.ofInt 64 (x:Int)).toNat=x:=by
 rw [BitVec.ofInt_natCast,BitVec.toNat_ofNat,Nat.mod_eq_of_lt hx]
theorem oD (x:Nat) (hx:x<2^64):IntKind.wrap .u64 (x:Int)=(x:Int):=du (by show(0:Int)≤_;omega) (by show _≤(18446744073709551615:Int);omega)
theorem EO (x m:Nat) (hx:x<2^64) (hm:m<64):((IntKind.wrap .u64 ((BitVec.ofInt (IntKind.bits .u64) (Int.fdiv (x:Int) (2^(min ((m:Nat):Int).toNat (IntKind.bits .u64))))&&&BitVec.ofInt (IntKind.bits .u64) 1).toNat:Int):Int)==1)=x.testBit m:=by
 show((IntKind.wrap .u64 ((BitVec.ofInt 64 (Int.fdiv (x:Int) (2^(min m 64)))&&&BitVec.ofInt 64 1).toNat:Int):Int)==1)=_;have h1:Int.fdiv (x:Int) (2^(min m 64))=((x/2^m:Nat):Int):=by
  rw [Nat.min_eq_left (by omega),Int.fdiv_eq_ediv_of_nonneg _ (Int.pow_nonneg (by decide))];simp
 have hd:x/2^m<2^64:=Nat.lt_of_le_of_lt (Nat.div_le_self _ _) hx;rw [h1,BitVec.toNat_and,mn _ hd];have h2:(BitVec.ofInt 64 1).toNat=1:=by decide
 rw [h2,Nat.and_one_is_mod,oD _ (by omega),Nat.testBit_eq_decide_div_mod_eq];by_cases e:x/2^m%2=1
 ·rw [e];simp
 ·have:x/2^m%2=0:=by omega
  rw [this];simp
theorem D9 (x m:Nat) (hx:x<2^64) (hm:m<64):IntKind.wrap .u64 ((BitVec.ofInt (IntKind.bits .u64) (x:Int)|||BitVec.ofInt (IntKind.bits .u64) (IntKind.wrap .u64 ((1:Int)*2^(min ((m:Nat):Int).toNat (IntKind.bits .u64))))).toNat:Int)=((x|||2^m:Nat):Int):=by
 show IntKind.wrap .u64 ((BitVec.ofInt 64 (x:Int)|||BitVec.ofInt 64 (IntKind.wrap .u64 ((1:Int)*2^(min m 64)))).toNat:Int)=_;have hp:2^m<2^64:=Nat.pow_lt_pow_right (by decide) hm;have h1:(1:Int)*2^(min m 64)=((2^m:Nat):Int):=by
  rw [Nat.min_eq_left (by omega),Int.one_mul];simp
 rw [h1,oD _ hp,BitVec.toNat_or,mn _ hx,mn _ hp];exact oD _ (Nat.or_lt_two_pow hx hp)
theorem gq (w:World) (A:Option Addr) (N C n:Nat) (p:Nat→Bool) (hr:Rw eN 1 w A (bK n p)) (hN:N=(bK n p).length) (hn:n≤100000) (i:Nat) (hi:i<n):
  CP 75 #[.slice A N C,.int .i64 (i:Int)] w fun e w'=>e= .returned (.bool (p i))∧w'=w:=by
 refine aO (xS A N C i w) ?_;unfold HB;rw [Dx i (by omega),Fx];rw [dk]at hN;have hk:i/64< (n+63)/64:=by omega
 obtain⟨q,hq,_,hc⟩:=hr _ _ (wW n p hk);have c0:=hc 0 _ rfl;rw [au]at c0;refine⟨by decide,ag.mk q hq ⟨by omega,by omega,_,c0,by decide,by omega,?_,rfl⟩⟩;rw [EO _ _ (rq _ _ _) (Nat.mod_lt _ (by decide)),uH n p hi]
theorem xn (w:World) (B:Nat) (l:Sl) (ws:List Int) (h:w.ownsRow B iC 1 l.v l.n (ws.flatMap eN)) (i x:Nat) (hi:i≤1000000) (hk:i/64<ws.length) (hx:ws[i/64]=(x:Int)) (hlt:x<2^64):
  CP 146 #[.slice l.a l.n l.c,.int .i64 (i:Int)] w fun e w'=>e= .returned (.tuple #[])∧w'.ownsRow B iC 1 l.v l.n ((ws.set (i/64) ((x|||2^(i%64):Nat):Int)).flatMap eN)∧(∀j,l.v.ownBlock≠some j→w'.heap[j]? =w.heap[j]?)∧w'.heap.size=w.heap.size∧Below B w w':=by
 refine aO (vw l.a l.n l.c i w) ?_;rintro w1 rfl;have h1:w.drew.ownsRow B iC 1 l.v l.n (ws.flatMap eN):=dR h;have hls:=cN.of_own zN h1;have hn:=hls.n;rw [Dx i hi,Fx];obtain⟨q,hq,c0⟩:=bw hls.r hk rfl;rw [hx]at c0;refine⟨by decide,ag.mk q hq ⟨by omega,by omega,_,c0,by decide,by omega,ag.mk q hq ⟨by omega,by omega,?_⟩⟩⟩;rw [D9 x _ hlt (Nat.mod_lt _ (by decide))];refine lW (nW (enc:=eN) (fun _=>rfl) (by decide) (fun y u hu=>by rw [List.mem_singleton.1 hu];rfl) h1 hn hq (i/64) hk _ ?_);intro w' h' hs hz hB;exact⟨rfl,h',hs,hz,hB _ _ (Nat.le_refl _) ((Below.refl _ _).drew)⟩
theorem aY.off {w w':World} {v:Nat} {s:aq} {T:List aP} (h:aY w v s T) {B:Nat} (hb:Below B w w') (hv:v<B) {B' sz n:Nat} {e:TypeId} {u:Value} {xs:List Value} (ho:w.ownsRow B' e sz u n xs) (he:eo≠e) (hk:∀k,u.ownBlock≠some k→w'.heap[k]? =w.heap[k]?):aY w' v s T:=by
 obtain⟨w0,x,tp,bp,mp,d,l,uses,hR⟩:=h;have hlt:=hR.lt;refine⟨w0,x,tp,bp,mp,d,l,uses,hR.parts,hR.below.trans (hb.mono (by omega)),hlt,by rw [hb.block v hv];exact hR.blk,?_⟩;rcases hR.once with h |⟨h1,h2,h3⟩
 ·exact .inl h
 ·exact .inr ⟨h1,h2,a_ h3 fun k hk3=>hk k (bU h3 ho he k hk3)⟩
theorem aY.own_touch {w w':World} {v:Nat} {s:aq} {T:List aP} (h:aY w v s T) (t:aH v w w') {B sz n:Nat} {e:TypeId} {u:Value} {xs:List Value} (ho:w.ownsRow B e sz u n xs) (he:e≠db):w'.ownsRow B e sz u n xs:=by
 obtain⟨w0,x,tp,bp,mp,d,l,uses,hR⟩:=h;exact t.own ho (aS ho hR.blk he)
theorem aH.then_off {v B:Nat} {a b c:World} (t:aH v a b) (hb:Below B b c) (hB:a.heap.size≤B):aH v a c:=
 ⟨hb.os.trans t.os,hb.tape.trans t.tape,hb.output.trans t.output,Nat.le_trans t.size hb.size,fun k hk hv=>(hb.block k (Nat.lt_of_lt_of_le hk hB)).trans (t.block k hk hv)⟩
theorem ry (w:World) (n:Nat) (is:Value) (p:Nat→Bool) (v:Nat) (s:aq) (T:List aP) (hV:aY w v s T) (hn:n≤100000)
  (his:∀i,i<n→∀w1,aY w1 v s T→aH v w w1→bP gW is [.int .i64 (i:Int)] w1 (fun e w2=>e= .returned (.bool (p i))∧aY w2 v s T∧aH v w1 w2)):
  CP 71 #[.int .i64 (n:Int),is] w fun e w'=>∃l:Sl,e= .returned l.v∧w'.ownsRow w.heap.size iC 1 l.v l.n ((bK n p).flatMap eN)∧aY w' v s T∧aH v w w':=by
 refine aO (zn n is w) ?_;have hvl:=hV.lt;refine Ar.nat (n+64) (by omega) (by omega) (Ar.nat (n+63) (by omega) (by omega) ⟨by decide,?_⟩);rw [Dx (n+63) (by omega)];obtain⟨m,hm⟩:∃m,m=(n+63)/64:=⟨_,rfl⟩;rw [←hm];refine⟨_,_,_,_,qq w m (by omega),?_⟩;have ho:(w.alloc (.cells (Array.replicate m (.int .u64 0)) iC)).ownsRow w.heap.size iC 1 (.slice (some (nb w)) m m) m ((bK n (fun j=>p j&&decide (j<0))).flatMap eN):=by
  have:=B3 (w:=w) (e:=iC) (n:=m) (List.replicate m (Value.int .u64 0)) (by simp) (by omega) (Nat.le_refl w.heap.size);rw [rG, ←hm];have e:(List.replicate m (0:Int)).flatMap eN=List.replicate m (Value.int .u64 0):=by
   clear this hm;induction m with
   |zero=>rfl
   |succ m ih=>rw [List.replicate_succ,List.flatMap_cons,ih,List.replicate_succ];rfl
  rw [e];simpa using this
 have b1:=ai w (.cells (Array.replicate m (.int .u64 0)) iC);intro I hI;have key:=aX (α:=World) n (fun i q=>q.ownsRow w.heap.size iC 1 (.slice (some (nb w)) m m) m ((bK n (fun j=>p j&&decide (j<i))).flatMap eN)∧aY q v s T∧aH v w q) (fun i q=>I [.int .i64 (i:Int)] q) _ ⟨ho,hV.on b1,aH.of_below b1⟩ ?_ ?_
 ·exact key
 ·rintro i hi ih q ⟨hown,hVq,tq⟩;refine hI _ _ (ac.yes (by simp;omega) ?_);intro J hJ;have hJ':∀q',(q'.ownsRow w.heap.size iC 1 (.slice (some (nb w)) m m) m ((bK n (fun j=>p j&&decide (j<i+1))).flatMap eN)∧aY q' v s T∧aH v w q')→J [] q':=fun q' h=>hJ _ (Ar.nat (i+1) rfl (by omega) (ih q' h));refine(his i hi q hVq tq).mono ?_;rintro e w4 ⟨rfl,hV4,t4⟩;have ho4:=hVq.own_touch t4 hown (by decide);have tw4:=tq.trans t4;refine⟨_,rfl,ac.mk (fun hp=>?_) fun hp=>hJ' w4 ⟨by rw [tc n p hp];exact ho4,hV4,tw4⟩⟩;have hk:i/64< (bK n (fun j=>p j&&decide (j<i))).length:=by rw [dk];omega
  refine(xn w4 w.heap.size ⟨some (nb w),m,m⟩ _ ho4 i (wordAt n (fun j=>p j&&decide (j<i)) (i/64)) (by omega) hk (by simp [bK]) (rq _ _ _)).mono ?_;rintro e w5 ⟨rfl,ho5,hs5,hz5,b5⟩;refine⟨rfl,hJ' w5 ⟨?_,hV4.off b5 hvl ho4 (by decide) hs5,tw4.then_off b5 (Nat.le_refl _)⟩⟩;rw [rV n p hi hp];exact ho5
 ·rintro q ⟨hown,hVq,tq⟩;rw [wJ]at hown;exact hI _ _ (ac.no (by simp) ⟨⟨some (nb w),m,m⟩,rfl,hown,hVq,tq⟩)
def bk (s:aq) (T:List aP):List Int:=(List.range T.length).map (fun i:Nat=>(i:Int))++s.specials.map (·.1)
theorem fg (s:aq) (T:List aP):(bk s T).length=T.length+s.specials.length:=by simp [bk]
theorem AH {l:List Int} (h:l.Pairwise (·< ·)):kd l:=fun i j hi hj hij=>List.pairwise_iff_getElem.1 h i j hi hj hij
theorem iN {s:aq} {T:List aP} (hasc:(s.specials.map (·.1)).Pairwise (·< ·)) (hids:∀y∈s.specials,(T.length:Int)≤y.1):(bk s T).Pairwise (·< ·):=by
 rw [bk,List.pairwise_append];refine⟨?_,hasc,?_⟩
 ·rw [List.pairwise_map];exact List.pairwise_lt_range.imp (by intro a b h;omega)
 ·intro a ha b hb;obtain⟨i,hi,rfl⟩:=List.mem_map.1 ha;obtain⟨y,hy,rfl⟩:=List.mem_map.1 hb;have:=hids y hy;have:=List.mem_range.1 hi;omega
theorem oz (s:aq) (T:List aP) (t:Int):t∈bk s T↔dM s T t=true:=by
 unfold bk dM;rw [List.mem_append,decide_eq_true_eq,Or.comm];refine or_congr Iff.rfl ?_;rw [List.mem_map];constructor
 ·rintro⟨i,hi,rfl⟩;have:=List.mem_range.1 hi;exact⟨by omega,by omega⟩
 ·rintro⟨h1,h2⟩;exact⟨t.toNat,List.mem_range.2 (by omega),by omega⟩
theorem rz (w:World) (p:Nat) (xs:List (Int×Bs)) (h:sf w p xs) (hl:xs.length≤1000000):CP 121 #[.pointer (some ⟨p,0,none⟩)] w fun e w'=>∃l:Sl,e= .returned l.v∧l.n=xs.length∧w'.ownsRow w.heap.size mD 2 l.v l.n (xs.flatMap aI)∧Below w.heap.size w w':=by
 refine aO (xf (some ⟨p,0,none⟩) w) ?_;obtain⟨l,mi,mt,c,h1,h2,h3,h4,_,_⟩:=h;obtain⟨la,ln,lc⟩:=l;change ln=xs.length at h3;subst h3;refine ac.no rfl (ag.mk _ rfl ⟨la,_,lc,by rw [af _ _ h1];exact h2.c0,?_⟩);refine(mU w la lc xs h4 (by omega)).mono ?_;rintro e w1 ⟨l,rfl,hn,ho,hb⟩;exact⟨_,_,_,rfl,l,rfl,hn,ho,hb⟩
theorem fk (w:World) (v:Nat) (s:aq) (T:List aP) (hV:aY w v s T) (hasc:(s.specials.map (·.1)).Pairwise (·< ·)):
  CP 61 #[.pointer (some ⟨v,0,none⟩)] w fun e w'=>∃l:Sl,e= .returned l.v∧w'.ownsRow w.heap.size ba 1 l.v l.n ((bk s T).flatMap av)∧Below w.heap.size w w':=by
 refine aO (ze (some ⟨v,0,none⟩) w) ?_;obtain⟨w0,x,tp,bp,mp,d,l,uses,hR⟩:=hV;have hP:=hR.now;have hmost:=hP.ok.most;have hlen:=hP.ok.len;have hfew:=(dI hP.right).2.2.1;have hmx:s.specials.length≤32:=by
  have:=(gp hP.right).2.2.2.1;exact eY this
 refine(hD hR.vblk hP.tab).mono ?_;rintro e w1 ⟨rfl,hw⟩;subst hw;refine⟨_,rfl,?_⟩;intro I hI;have key:=aX (α:=Sl×World) T.length (fun i y=>y.2.ownsRow w1.heap.size ba 1 y.1.v y.1.n (((List.range i).map (fun i:Nat=>(i:Int))).flatMap av)∧y.1.n=i∧Below w1.heap.size w1 y.2) (fun i y=>I [.int .i64 (i:Int),y.1.v] y.2) (cT,w1) ⟨bR _ _ _ _ av,rfl,Below.refl _ _⟩ ?_ ?_
 ·exact key
 ·rintro i hi ih ⟨f,q⟩ ⟨hown,hn,hB⟩;change q.ownsRow w1.heap.size ba 1 f.v f.n _ at hown;change f.n=i at hn;change Below w1.heap.size w1 q at hB;refine hI _ f.a f.n f.c q (ac.yes (by simp;omega) ?_);intro w3 hw3;obtain⟨f',w4,g1,g2,g3,g4,_⟩:=cK.push hown (i:Int) hw3 rfl hB.size (by omega) (by decide);refine⟨f'.a,f'.n,f'.c,w4,g2,Ar.nat (i+1) rfl (by omega) (ih (f',w4) ⟨?_,by show f'.n=i+1;omega,g4 _ hB⟩)⟩;rw [List.range_succ,List.map_append];exact g3
 ·rintro⟨f,q⟩ ⟨hown,hn,hB⟩;change q.ownsRow w1.heap.size ba 1 f.v f.n _ at hown;change f.n=T.length at hn;change Below w1.heap.size w1 q at hB;refine hI _ f.a f.n f.c q (ac.no (by simp) ?_);refine(gI (hR.vblk.on hB)).mono ?_;rintro e w5 ⟨rfl,hw⟩;subst hw;refine⟨_,rfl,?_⟩;refine(rz w5 mp s.specials (hP.on hB).marks hfew).mono ?_;rintro e w6 ⟨a,rfl,han,hao,b6⟩;refine⟨a.a,a.n,a.c,rfl,?_⟩;have hB6:=ae hB b6;intro I2 hI2;have key2:=aX (α:=Sl×World) s.specials.length (fun i y=>y.2.ownsRow w1.heap.size ba 1 y.1.v y.1.n (((List.range T.length).map (fun i:Nat=>(i:Int))++(s.specials.take i).map (·.1)).flatMap av)∧y.1.n=T.length+i∧y.2.ownsRow w1.heap.size mD 2 a.v a.n (s.specials.flatMap aI)∧Below w1.heap.size w1 y.2) (fun i y=>I2 [.int .i64 (i:Int),y.1.v] y.2) (f,w6) ⟨by simpa using aJ hown b6,by show f.n=T.length+0;omega,cV hao hB.size,hB6⟩ ?_ ?_
  ·exact key2
  ·rintro i hi ih ⟨g,z⟩ ⟨hg,hgn,hza,hBz⟩;change z.ownsRow w1.heap.size ba 1 g.v g.n _ at hg;change g.n=T.length+i at hgn;change z.ownsRow w1.heap.size mD 2 a.v a.n _ at hza;change Below w1.heap.size w1 z at hBz;obtain⟨p,hp,_,hc⟩:=(cN.of_own dJ hza).r i _ (List.getElem?_eq_getElem hi);have c0:=hc 0 _ rfl;rw [au]at c0;refine hI2 _ g.a g.n g.c z (ac.yes (by simp;omega) (ag.mk p hp ⟨by omega,by omega,_,_,⟨c0,hc 1 _ rfl,trivial⟩,?_⟩));intro w8 hw8;refine aR [.int .i64 0,.string ⟨#[]⟩] [.int .i64 s.specials[i].1,.string (str s.specials[i].2)] rfl (eI _ _) w8 hw8 ?_;intro w9 h9 hz9 b9;refine⟨_,af _ _ h9 0,?_⟩;intro w10 hw10;have hB9:=ae hBz b9;obtain⟨g',w11,e1,e2,e3,e4,e5⟩:=cK.push (aJ hg b9) s.specials[i].1 hw10 rfl hB9.size (by omega) (by decide);have hza9:=aJ hza b9;refine⟨g'.a,g'.n,g'.c,w11,e2,Ar.nat (i+1) rfl (by omega) (ih (g',w11) ⟨?_,by show g'.n=T.length+(i+1);omega,a_ hza9 fun k hk=>e5 k (cd hza9 k hk).2 (bU hza9 (aJ hg b9) (by decide) k hk),e4 _ hB9⟩)⟩;rw [List.take_add_one,List.getElem?_eq_getElem hi,List.map_append, ←List.append_assoc];exact e3
  ·rintro⟨g,z⟩ ⟨hg,hgn,hza,hBz⟩;change z.ownsRow w1.heap.size ba 1 g.v g.n _ at hg;change g.n=T.length+s.specials.length at hgn;change Below w1.heap.size w1 z at hBz;rw [List.take_length]at hg;have hgl:g.n=(bk s T).length:=by rw [fg,hgn]
   have hgg:z.ownsRow w1.heap.size ba 1 g.v g.n ((bk s T).flatMap av):=hg;refine hI2 _ g.a g.n g.c z (ac.no (by simp;omega) ?_);have hrow:=(cN.of_own cK hgg).r;have hrise:=AH (iN hasc hP.ids);have hsort:CP 122 #[.slice g.a g.n g.c] z fun e w'=>e= .returned (.tuple #[])∧Below z.heap.size z w':=by
    rw [hgl];exact AR z g.a g.c _ hrow hrise (by rw [fg];omega) (by rw [fg];omega)
   refine hsort.mono ?_;rintro e w12 ⟨rfl,b12⟩;exact⟨rfl,g,rfl,aJ hgg b12,ae hBz b12⟩
end Go.Proofs.YtdlcfegnaphclaaGreat.Eng
