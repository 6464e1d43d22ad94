/- Whether tokens are canonical, and the reference's vocabulary made of a spec, walked by the engine. -/
import Derived.Test.YtijbcdiffjjefaaGreatDoorZxVd
import Derived.Test.YtijbcdiffjjefaaGreatDoorZxTab
import Derived.Test.YtijbcdiffjjefaaGreatDoorZxMk
set_option linter.unusedVariables false
set_option linter.unusedSimpArgs false
set_option maxRecDepth 100000
namespace Go.Proofs.YtijbcdiffjjefaaGreatDoor.Eng
open Go Go.RowKit
abbrev wM (x:qv):List Value:=[x.t.b.v,x.t.m.v,x.b.b.v,x.b.m.v,x.sp.v]
theorem nv (x:qv):∀v∈wM x,v.oneCell'=true:=by
 intro v hv;simp only [wM,List.mem_cons,List.not_mem_nil,or_false]at hv;rcases hv with rfl |rfl |rfl |rfl |rfl<;>rfl
theorem qJ (x:qv):∀v∈x.cells,¬mr v:=by
 intro v hv;simp only [List.mem_toArray,List.mem_cons,List.not_mem_nil,or_false]at hv;rcases hv with rfl |rfl |rfl |rfl |rfl<;>(rintro(⟨k,n,h⟩ |⟨s,h⟩)<;>cases h)
theorem tI.past {w w':World} {x:nq} {cls:List (Int×Int×Int)} {js:List (Int×Int)} {b:Nat} {c:Array Value} {T:TypeId} {fz:Nat×Nat} (h:tI w x cls js) (hb:w.heap[b]? =some (.cells c T fz)) (hc:∀v∈c,¬mr v) (hne:∀j,j<w.heap.size→j≠b→w'.heap[j]? =w.heap[j]?) (hs:w.heap.size≤w'.heap.size):tI w' x cls js:=
 ⟨h.n1,h.r1.past (fun y=>⟨_,rfl,df _ _⟩) hb hc hne hs,h.n2,h.r2.past (fun y=>⟨_,rfl,df _ _⟩) hb hc hne hs⟩
theorem kq.past {w w':World} {x:qv} {s:ak} {T:List aT} {b:Nat} {c:Array Value} {ty:TypeId} {fz:Nat×Nat} (h:kq w x s T) (hb:w.heap[b]? =some (.cells c ty fz)) (hc:∀v∈c,¬mr v) (hne:∀j,j<w.heap.size→j≠b→w'.heap[j]? =w.heap[j]?) (hs:w.heap.size≤w'.heap.size):kq w' x s T:=
 ⟨⟨h.t.n1,h.t.r1.past (fun y=>⟨_,rfl,.inr ⟨_,rfl⟩⟩) hb hc hne hs,h.t.k1,h.t.n2,h.t.r2.past (fun y=>⟨_,rfl,df _ _⟩) hb hc hne hs,h.t.k2⟩,h.b.past hb hc hne hs,h.sn,h.sr.past (fun y=>⟨_,rfl,df _ _⟩) hb hc hne hs,h.ok,h.right,h.ids,h.nodup⟩
abbrev JV:qv:=⟨⟨dZ,dZ⟩,⟨dZ,dZ⟩,dZ⟩
theorem Bm {s:ak} {T:List aT} (h:cC s= .ok T) (hr:s.ranked=false):cm bG 0 s.merges= .ok T∧bJ [] 0 s.specials=none∧(∀y∈s.specials,(T.length:Int)≤y.1):=by
 unfold cC kW at h;rw [hr]at h;simp only [Bool.false_eq_true,if_false]at h;cases ht:cm bG 0 s.merges with
 |error q=>rw [ht]at h;cases h
 |ok T'=>
  rw [ht]at h;dsimp only at h;cases hm:bJ [] 0 s.specials with
  |some q=>rw [hm]at h;cases h
  |none=>
   rw [hm]at h;dsimp only at h;cases hf:s.specials.findIdx? (fun y=>decide (y.1< (T'.length:Int)))with
   |some i=>rw [hf]at h;cases h
   |none=>
    rw [hf]at h;cases h;refine⟨rfl,rfl,fun y hy=>?_⟩;have:=List.findIdx?_eq_none_iff.1 hf y hy;simpa using this
theorem vR (w:World) (x:aY) (s:ak) (h:cI w x s) (hr:s.ranked=false) (hright:s.right=true) (T:List aT) (hT:cC s= .ok T):
  CP 33 #[x.v] w fun e w'=>∃y:qv,e= .returned (.tuple #[y.v,.int .i64 0,.int .i64 0,.int .i64 0])∧kq w' y s T∧Below w.heap.size w w'∧kI w.heap.size y.t∧y.b=⟨x.s4,x.s5⟩∧y.sp=x.s3:=by
 obtain⟨hT1,hT2,hT3⟩:=Bm hT hr;have hsm:=dc hright;have hnd:(s.specials.map (·.1)).Nodup:=by simpa using mB hT2 (by simp)
 refine aN (Et x.ranked x.s1.a x.s1.n x.s1.c x.s2.a x.s2.n x.s2.c x.s3.a x.s3.n x.s3.c x.s4.a x.s4.n x.s4.c x.s5.a x.s5.n x.s5.c w) ?_;intro w1 hw1 w2 hw2;have hb1:Below w.heap.size w w1:=by subst hw1;exact ah _ _
 have b2:Below w1.heap.size w1 w2:=by subst hw2;exact ah _ _
 have hb2:=ae hb1 b2;have p2:w2.heap[w.heap.size]? =some (.cells x.cells da (0,0)):=aj b2 (by subst hw1;exact ap _ _);have z2:w2.heap[w1.heap.size]? =some (.cells JV.cells MK (0,0)):=by subst hw2;exact ap _ _
 refine⟨_,_,_,_,_,_,_,_,_,_,_,_,_,_,_,_,dF p2,?_⟩;refine(we w2 x s (h.on hb2) hr hsm.1).mono ?_;rintro e w3 ⟨u,rfl,t,n,e,rfl,b3,hp⟩;rw [hT1]at hp;obtain⟨rfl,rfl,ht,htok,hfr⟩:=hp;refine⟨_,_,_,_,_,_,_,_,rfl,?_⟩;intro w4 hw4;refine aS [dZ.v,dZ.v] [t.b.v,t.m.v] rfl (bK _ _) w4 hw4 ?_;intro w5 h5 hz5 b5;have b35:=ae b3 b5;have hb5:=ae hb2 b35;have p5:=aj b35 p2;have z5:=aj b35 z2;refine ac.no rfl ⟨_,_,_,ai _ _ p5 3,?_⟩;have hn3:=h.n3;have hS:=(h.on hb5).r3;obtain⟨⟨a3,n3,c3⟩,hx3⟩:∃y:Sl,y=x.s3:=⟨_,rfl⟩;have e3:n3=s.specials.length:=by rw [←hx3]at hn3;exact hn3
 have hS':Rw aD 2 w5 a3 s.specials:=by rw [←hx3]at hS;exact hS
 rw [show x.s3.a=a3 by rw [←hx3],show x.s3.n=s.specials.length from hn3,show x.s3.c=c3 by rw [←hx3]];refine(my w5 a3 c3 s.specials hS' hsm.2.2.1).mono ?_;rintro e w7 ⟨rfl,b7⟩;have hck:kz s.specials= .tuple #[.int .i64 (s.specials.length:Int),.int .i64 0]:=by rw [kz,hT2]
 refine⟨_,_,by rw [hck],ac.no rfl ?_⟩;have hb7:=ae hb5 b7;intro I hI;have key:=bj (α:=Int×Int×Int×World) s.specials.length (fun i y=>Below w7.heap.size w7 y.2.2.2) (fun i y=>I [.int .i64 (i:Int),.int .i64 y.1,.int .i64 y.2.1,.int .i64 y.2.2.1] y.2.2.2) (0,0,0,w7) (Below.refl _ _) ?_ ?_
 ·exact key
 ·rintro i hi ih ⟨y5,y4,y3,q⟩ hB;change Below w7.heap.size w7 q at hB;have pq:=aj hB (aj b7 p5);have hfew:=hsm.2.2.1;refine hI _ y5 y4 y3 q ⟨_,_,_,ai _ _ pq 3,ac.yes (by simp;omega) ?_⟩;intro w10 hw10;have b10:Below q.heap.size q w10:=by subst hw10;exact aO q
  have hB10:=ae hB b10;obtain⟨p,hp,_,hc⟩:=((h.on (ae hb7 hB10)).r3) i _ (List.getElem?_eq_getElem hi);refine⟨_,_,_,ai _ _ (aj b10 pq) 3,af.mk p hp ⟨by omega,by omega,_,hc 0 _ rfl,_,_,_,ai _ _ (aj hB10 (aj b7 h5)) 0,ac.no ?_ (Ar.nat (i+1) rfl (by omega) (ih (y5,y4,y3,w10) hB10))⟩⟩;have:=hT3 _ (List.getElem_mem hi);have:=ht.n1;exact decide_eq_false (by omega)
 ·rintro⟨y5,y4,y3,q⟩ hB;change Below w7.heap.size w7 q at hB;have pq:=aj hB (aj b7 p5);have zq:=aj hB (aj b7 z5);have tq:=aj hB (aj b7 h5);have hbq:=ae hb7 hB;have hq:=h.on hbq;refine hI _ y5 y4 y3 q ⟨_,_,_,ai _ _ pq 3,ac.no (by simp;omega) ⟨_,_,_,_,_,_,gZ tq,_,_,_,ai _ _ pq 4,_,_,_,ai _ _ pq 5,_,_,_,ai _ _ pq 3,?_⟩⟩;refine bf zq (wM ⟨t,⟨x.s4,x.s5⟩,x.s3⟩) rfl (nv ⟨t,⟨x.s4,x.s5⟩,x.s3⟩) ?_;intro w12 h12 hs12 hz12 hB12;have hv:kq q ⟨t,⟨x.s4,x.s5⟩,x.s3⟩ s T:=⟨((ht.on b5).on b7).on hB,⟨hq.n4,hq.r4,hq.n5,hq.r5⟩,hq.n3,hq.r3,htok,hright,hT3,hnd⟩;exact⟨_,_,_,_,_,_,_,_,_,_,_,_,_,_,_,xH (x:=⟨t,⟨x.s4,x.s5⟩,x.s3⟩) h12,⟨t,⟨x.s4,x.s5⟩,x.s3⟩,rfl,hv.past zq (qJ JV) (fun j _ hj=>hs12 j hj) (Nat.le_of_eq hz12.symm),hB12 _ _ hb1.size hbq,hfr.mono hb2.size,rfl,rfl⟩
theorem D8 (w:World) (x:aY) (s:ak) (h:cI w x s) (hr:s.ranked=false) (hright:s.right=true) (T:List aT) (hT:cC s= .ok T):
  CP 42 #[x.v] w fun e w'=>∃y:qv,e= .returned y.v∧kq w' y s T∧Below w.heap.size w w'∧kI w.heap.size y.t∧y.b=⟨x.s4,x.s5⟩∧y.sp=x.s3:=by
 refine aN (DO x.ranked x.s1.a x.s1.n x.s1.c x.s2.a x.s2.n x.s2.c x.s3.a x.s3.n x.s3.c x.s4.a x.s4.n x.s4.c x.s5.a x.s5.n x.s5.c w) ?_;intro w1 hw1 w2 hw2;have hb1:Below w.heap.size w w1:=by subst hw1;exact ah _ _
 have b2:Below w1.heap.size w1 w2:=by subst hw2;exact ah _ _
 have hb2:=ae hb1 b2;have p2:w2.heap[w.heap.size]? =some (.cells x.cells da (0,0)):=aj b2 (by subst hw1;exact ap _ _);have z2:w2.heap[w1.heap.size]? =some (.cells JV.cells MK (0,0)):=by subst hw2;exact ap _ _
 refine⟨_,_,_,_,_,_,_,_,_,_,_,_,_,_,_,_,dF p2,?_⟩;refine(vR w2 x s (h.on hb2) hr hright T hT).mono ?_;rintro e w3 ⟨y,rfl,hy,b3,f3,e1,e2⟩;refine⟨_,_,_,_,_,_,_,_,_,_,_,_,_,_,_,_,_,_,rfl,?_⟩;intro w4 hw4;refine aS (wM JV) (wM y) rfl (nv y) w4 hw4 ?_;intro w5 h5 hz5 b5;have b35:=ae b3 b5;have z5:=aj b35 z2;refine⟨_,_,_,_,_,_,_,_,_,_,_,_,_,_,_,xH (x:=y) h5,?_⟩;refine bf z5 (wM y) rfl (nv y) ?_;intro w6 h6 hs6 hz6 hB6;exact⟨_,_,_,_,_,_,_,_,_,_,_,_,_,_,_,xH (x:=y) h6,y,rfl,(hy.on b5).past z5 (qJ JV) (fun j _ hj=>hs6 j hj) (Nat.le_of_eq hz6.symm),hB6 _ _ hb1.size (ae hb2 b35),f3.mono hb2.size,e1,e2⟩
abbrev J':TypeId:=25
abbrev Re:TypeId:=23
abbrev Q8:TypeId:=24
theorem eH:E8 aD 2 J' nr 24:=⟨fun _=>rfl,by decide,fun x=>dO _ _,qV,_,vW,rfl⟩
theorem E8.pushAt {α:Type} {enc:α→List Value} {sz bytes:Nat} {t e:TypeId} (E:E8 enc sz t e bytes) {B:Nat} {w:World} {s:Sl} {xs:List α} (hown:w.ownsRow B e sz s.v s.n (xs.flatMap enc)) (x:α) {b:Nat} {T:TypeId} {fz:Nat×Nat} (hx:w.heap[b]? =some (.cells (enc x).toArray T fz)) (hB:B≤w.heap.size) (hn:s.n≤1000000000) (hb:bytes≤1000):
  ∃(l:Sl) (w4:World),l.n=s.n+1∧(Builtin.append_ #[t,t] t #[.slice s.a s.n s.c,.slice (some ⟨b,0,none⟩) 1 1]).run Tryz.prog w= .ok (.slice l.a l.n l.c) w4∧w4.ownsRow B e sz l.v l.n ((xs++ [x]).flatMap enc)∧(∀w0,Below B w0 w→Below B w0 w4)∧(∀k,k<w.heap.size→s.v.ownBlock≠some k→w4.heap[k]? =w.heap[k]?):=by
 obtain⟨z,hi,hzs⟩:=E.hz;have hmul:(s.n+1)*bytes≤(1000000000+1)*1000:=Nat.mul_le_mul (by omega) hb;obtain⟨A,C,w4,h1,h2,h3,h4⟩:=nL (enc:=enc) (sz:=sz) E.hsz E.h0 E.h1 t e E.ht hi hzs hown x hx hB (by omega) (by omega);exact⟨⟨A,s.n+1,C⟩,w4,rfl,h1,h2,h3,h4⟩
theorem Rw.cut {α:Type} {enc:α→List Value} {sz:Nat} {w:World} {a:Option Addr} {xs:List α} (h:Rw enc sz w a xs) (i m:Nat) (hm:xs.length≤m):Rw enc sz w (cd a i m sz) (xs.drop i):=by
 intro j x hj;rw [List.getElem?_drop]at hj;have hlt:=(List.getElem?_eq_some_iff.1 hj).1;obtain⟨p,rfl,hp,hc⟩:=h _ _ hj;unfold cd;rw [if_neg (by omega)];refine⟨p.add (i*sz),rfl,by rw [av];exact hp,fun k v hk=>?_⟩;rw [Addr.add_add p, ←Nat.add_mul];exact hc k v hk
theorem Rw.take {α:Type} {enc:α→List Value} {sz:Nat} {w:World} {a:Option Addr} {xs:List α} (h:Rw enc sz w a xs) (n:Nat):Rw enc sz w a (xs.take n):=by
 intro j x hj;rw [List.getElem?_take]at hj;split at hj
 ·exact h j x hj
 ·cases hj
theorem sv:∀(xs ys:List (Int×Bs)) (i:Nat),bJ ys i xs=none→∀x∈xs,bc x=true
 | [],_,_,_,x,hx=>by cases hx
 |y::xs,ys,i,h,x,hx=>by
  rw [bJ]at h;split at h
  ·rename_i h0;rcases List.mem_cons.1 hx with rfl |hx
   ·cases hs:bc x with
    |true=>rfl
    |false=>rw [cE,if_pos hs]at h0;cases h0
   ·exact sv xs _ _ h x hx
  ·cases h
structure gO (w4 q:World) (m:Sl) (sp cl jn:Sl) (xs:List (Int×Bs)) (cls:List (Int×Int×Int)) (js:List (Int×Int)):Prop where
 blk:q.heap[w4.heap.size]? =some (.cells #[.bool false,m.v,dZ.v,sp.v,cl.v,jn.v] da (0,0))
 o1:q.ownsRow w4.heap.size nr 2 sp.v sp.n (xs.flatMap aD)
 o2:q.ownsRow w4.heap.size FU 3 cl.v cl.n (cls.flatMap bH)
 o3:q.ownsRow w4.heap.size Jc 2 jn.v jn.n (js.flatMap aP)
 cok:cls.all aQ=true
 jok:js.all cr=true
 mrk:bJ [] 0 xs=none
 xid:∀y∈xs,1000≤y.1∧y.1<1006
 asc:(xs.map (·.1)).Pairwise (·< ·)
 l1:xs.length≤6
 l2:cls.length≤8
 l3:js.length≤8
 B:Below w4.heap.size w4 q
theorem gO.on {w4 q q':World} {m sp cl jn:Sl} {xs:List (Int×Bs)} {cls:List (Int×Int×Int)} {js:List (Int×Int)} (h:gO w4 q m sp cl jn xs cls js) (hb:Below q.heap.size q q'):gO w4 q' m sp cl jn xs cls js:=
 ⟨aj hb h.blk,aF h.o1 hb,aF h.o2 hb,aF h.o3 hb,h.cok,h.jok,h.mrk,h.xid,h.asc,h.l1,h.l2,h.l3,h.B.trans (hb.mono h.B.size)⟩
def u0 (es:List aT) (xs:List (Int×Bs)) (cls:List (Int×Int×Int)) (js:List (Int×Int)):ak:={merges:=ao es,specials:=xs,classes:=cls,joins:=js}
theorem some_right {es:List aT} (h:iD es) {xs:List (Int×Bs)} {cls:List (Int×Int×Int)} {js:List (Int×Int)} (cok:cls.all aQ=true) (jok:js.all cr=true) (mk:bJ [] 0 xs=none) (l1:xs.length≤6) (l2:cls.length≤8) (l3:js.length≤8):(u0 es xs cls js).right=true:=by
 have hm:=h.most;have hml:=cD h;have e1:bB (ao es) 744 dN=true:=by
  rw [bB,decide_eq_true (by omega),Bool.true_and,List.all_eq_true];intro m hm;obtain⟨k,hk⟩:=List.getElem?_of_mem hm;have hkl:=(List.getElem?_eq_some_iff.1 hk).1;obtain⟨h1,h2⟩:=eE h hk;exact decide_eq_true (by omega)
 have e2:bB xs 32 bc=true:=by
  rw [bB,decide_eq_true (by omega),Bool.true_and,List.all_eq_true];exact sv xs [] 0 mk
 have e3:bB cls 64 aQ=true:=by rw [bB,decide_eq_true (by omega),cok];rfl
 have e4:bB js 64 cr=true:=by rw [bB,decide_eq_true (by omega),jok];rfl
 show(((((true&&bB (ao es) 744 dN)&&bB ([]:List Bs) 744 eX)&&bB xs 32 bc)&&bB cls 64 aQ)&&bB js 64 cr)=true;rw [e1,e2,e3,e4];rfl
theorem some_build {es:List aT} (h:iD es) (hnew:cm bG 0 (ao es)= .ok es) {xs:List (Int×Bs)} {cls:List (Int×Int×Int)} {js:List (Int×Int)} (mk:bJ [] 0 xs=none) (xid:∀y∈xs,1000≤y.1∧y.1<1006):cC (u0 es xs cls js)= .ok es:=by
 have hm:=h.most;unfold cC kW u0;simp only [Bool.false_eq_true,if_false,hnew,mk];have:xs.findIdx? (fun y=>decide (y.1< (es.length:Int)))=none:=by
  rw [List.findIdx?_eq_none_iff];intro y hy;have:=xid y hy;exact decide_eq_false (by omega)
 rw [this]
def kE (ys:List (Int×Bs)):Nat→List (Int×Bs)
 |0=>[]
 |i+1=>match bJ [] 0 (kE ys i++ [(((1000+i:Nat):Int),(ys.getD i (0,[])).2)])with
  |none=>kE ys i++ [(((1000+i:Nat):Int),(ys.getD i (0,[])).2)]
  |some _=>kE ys i
theorem sE {ys:List (Int×Bs)} {i:Nat} (hi:i<ys.length):kE ys (i+1)=match bJ [] 0 (kE ys i++ [(((1000+i:Nat):Int),ys[i].2)])with
  |none=>kE ys i++ [(((1000+i:Nat):Int),ys[i].2)]
  |some _=>kE ys i:=by
 have e:ys.getD i (0,[])=ys[i]:=by simp [List.getD,hi]
 rw [kE,e]
theorem iF {α:Type} (p:α→Bool) (xs:List α) {i:Nat} (hi:i<xs.length):(xs.take (i+1)).filter p=(xs.take i).filter p++(if p xs[i]=true then [xs[i]]else []):=by
 rw [List.take_add_one,List.getElem?_eq_getElem hi,List.filter_append];cases h:p xs[i]<;>simp [h]
def someV (l:List Int) (cs:List (Int×Int×Int)) (gs:List (Int×Int)) (ys:List (Int×Bs)):ak:=
 u0 (iU l 30) (kE ys (min ys.length 6)) ((cs.take (min cs.length 8)).filter aQ) ((gs.take (min gs.length 8)).filter cr)
def LT (s0:ak) (w:World) (u:Value) (w':World):Prop:=∃(x:aY) (s:ak) (T:List aT),u=x.v∧cI w' x s∧s.ranked=false∧s.right=true∧cC s= .ok T∧iD T∧s.specials.length≤6∧(∀y∈s.specials,1000≤y.1∧y.1<1006)∧(s.specials.map (·.1)).Pairwise (·< ·)∧s=s0∧Below w.heap.size w w'
def wJ (s0:ak) (w:World) (u:Value) (w':World):Prop:=∃(x:aY) (s:ak) (T:List aT),u=x.v∧cI w' x s∧s.ranked=false∧s.right=true∧cC s= .ok T∧iD T∧s.specials.length≤6∧(∀y∈s.specials,1000≤y.1∧y.1<1006)∧(s.specials.map (·.1)).Pairwise (·< ·)∧s=s0∧Below w.heap.size w w'∧Wr w' x.s1 2 w.heap.size∧Wr w' x.s4 3 w.heap.size
theorem tW (w:World) (A1:Option Addr) (C1:Nat) (l:List Int) (h1:Rw uy 1 w A1 l) (A2:Option Addr) (C2:Nat) (cs:List (Int×Int×Int)) (h2:Rw bH 3 w A2 cs) (A3:Option Addr) (C3:Nat) (gs:List (Int×Int)) (h3:Rw aP 2 w A3 gs) (A4:Option Addr) (C4:Nat) (ys:List (Int×Bs)) (h4:Rw aD 2 w A4 ys)
  (hc2:cs.length≤C2) (hc3:gs.length≤C3):
  CP 41 #[.slice A1 l.length C1,.slice A2 cs.length C2,.slice A3 gs.length C3,.slice A4 ys.length C4] w fun e w'=>∃u,e= .returned u∧wJ (someV l cs gs ys) w u w':=by
 refine Di A1 l.length C1 A2 cs.length C2 A3 gs.length C3 A4 ys.length C4 w (wJ (someV l cs gs ys) w) ?_;intro w1 hw1;have hb1:Below w.heap.size w w1:=by subst hw1;exact ah _ _
 have z1:w1.heap[w.heap.size]? =some (.cells fW.cells da (0,0)):=by subst hw1;exact ap _ _
 refine(tU w1 A1 C1 l (h1.on hb1)).mono ?_;rintro e w2 ⟨t,es,rfl,ht,htok,hnew,hes,b2,hWt⟩;refine⟨_,_,_,_,_,_,rfl,?_⟩;intro w3 hw3;refine aS [dZ.v,dZ.v] [t.b.v,t.m.v] rfl (bK _ _) w3 hw3 ?_;intro w4 h4' hz4 b4;have b14:=ae b2 b4;have hb4:=ae hb1 b14;have z4:=aj b14 z1;have hlt4:w.heap.size<w4.heap.size:=(Array.getElem?_eq_some_iff.1 z4).1;refine⟨_,_,_,ai _ _ h4' 1,?_⟩;intro w5 hw5;refine mL ⟨false,t.m,dZ,dZ,dZ,dZ⟩ w5 hw5 ?_;intro w6 h6 b6;have ht4:=ht.on b4;have fin:∀(q:World) (sp cl jn:Sl) (xs:List (Int×Bs)) (cls:List (Int×Int×Int)) (js:List (Int×Int)),gO w4 q t.m sp cl jn xs cls js→xs=kE ys (min ys.length 6)→cls=(cs.take (min cs.length 8)).filter aQ→js=(gs.take (min gs.length 8)).filter cr→
   ax q (nb w) (fun w7=>∃res0:Bool,∃res1A:Option Addr,∃res1N:Nat,∃res1C:Nat,∃res2A:Option Addr,∃res2N:Nat,∃res2C:Nat,∃res3A:Option Addr,∃res3N:Nat,∃res3C:Nat,∃res4A:Option Addr,∃res4N:Nat,∃res4C:Nat,∃res5A:Option Addr,∃res5N:Nat,∃res5C:Nat,(w7.cell? (nb w)=some (Value.bool res0)∧w7.cell? ((nb w).add 1)=some (Value.slice res1A res1N res1C)∧w7.cell? ((nb w).add 2)=some (Value.slice res2A res2N res2C)∧w7.cell? ((nb w).add 3)=some (Value.slice res3A res3N res3C)∧w7.cell? ((nb w).add 4)=some (Value.slice res4A res4N res4C)∧w7.cell? ((nb w).add 5)=some (Value.slice res5A res5N res5C)∧True)∧
    wJ (someV l cs gs ys) w (aY.v ⟨res0,⟨res1A,res1N,res1C⟩,⟨res2A,res2N,res2C⟩,⟨res3A,res3N,res3C⟩,⟨res4A,res4N,res4C⟩,⟨res5A,res5N,res5C⟩⟩) w7)
   [Value.bool false,Value.slice t.m.a t.m.n t.m.c,Value.slice none 0 0,Value.slice sp.a sp.n sp.c,Value.slice cl.a cl.n cl.c,Value.slice jn.a jn.n jn.c] 0:=by
  intro q sp cl jn xs cls js hq ex ec ej;have zq:=Below.keeps hq.B hlt4 z4;have hbq:Below w.heap.size w q:=hb4.trans (hq.B.mono (by omega));have r1:=dk.of_own eH hq.o1;have r2:=Rw.of_own hq.o2 (fun _=>rfl) (by decide);have r3:=Rw.of_own hq.o3 (fun _=>rfl) (by decide);have htq:=ht4.on hq.B;have hS:cI q ⟨false,t.m,dZ,sp,cl,jn⟩ (u0 es xs cls js):=⟨rfl,htq.n2,htq.r2,rfl,fun j x hj=>(by cases hj),r1.n,r1.r,r2.2,r2.1,r3.2,r3.1⟩;refine uD (w:=w) (w6:=q) (fun x w7=>wJ (someV l cs gs ys) w x.v w7) ⟨false,t.m,dZ,sp,cl,jn⟩ zq rfl ?_;intro w7 hB7 hs7;have hz7:q.heap.size≤w7.heap.size:=(hB7 q (Below.refl _ _)).size;exact⟨⟨false,t.m,dZ,sp,cl,jn⟩,u0 es xs cls js,es,rfl,hS.past zq (by
   intro v hv;simp only [List.mem_toArray,List.mem_cons,List.not_mem_nil,or_false]at hv;rcases hv with rfl |rfl |rfl |rfl |rfl |rfl<;>(rintro(⟨k,n,h⟩ |⟨s,h⟩)<;>cases h)) (fun j _ hj=>hs7 j hj) hz7,rfl,some_right htok hq.cok hq.jok hq.mrk hq.l1 hq.l2 hq.l3,some_build htok hnew hq.mrk hq.xid,htok,hq.l1,hq.xid,hq.asc,by rw [someV, ←hes, ←ex, ←ec, ←ej],hB7 w hbq,((((hWt.on b4).on hq.B).base (show w.heap.size+1≤_ by have:=hb1.size;omega)).off (Nat.lt_succ_self _) hs7).base (Nat.le_succ _),(((Wr.of_own hq.o2 (by decide)).base (show w.heap.size+1≤_ by omega)).off (Nat.lt_succ_self _) hs7).base (Nat.le_succ _)⟩
 have start:gO w4 w6 t.m dZ dZ dZ [] [] []:=⟨h6,cX _ _ _ _ aD,cX _ _ _ _ bH,cX _ _ _ _ aP,rfl,rfl,rfl,fun y hy=>(by cases hy),List.Pairwise.nil,Nat.zero_le _,Nat.zero_le _,Nat.zero_le _,b6⟩;have soft:∀ {q:World} {sp cl jn:Sl} {xs:List (Int×Bs)} {cls:List (Int×Int×Int)} {js:List (Int×Int)},gO w4 q t.m sp cl jn xs cls js→sp.v.ownBlock≠some w4.heap.size∧cl.v.ownBlock≠some w4.heap.size∧jn.v.ownBlock≠some w4.heap.size:=fun h=>⟨aE h.o1 h.blk (by decide),aE h.o2 h.blk (by decide),aE h.o3 h.blk (by decide)⟩;intro I4 hI4;have key:=bj (α:=World) (min cs.length 8) (fun i q=>∃(cl:Sl) (cls:List (Int×Int×Int)),gO w4 q t.m dZ cl dZ [] cls []∧cls.length≤i∧cls=(cs.take i).filter aQ) (fun i q=>I4 [.int .i64 (i:Int)] q) w6 ⟨dZ,[],start,Nat.zero_le _,rfl⟩ ?_ ?_
 ·exact key
 ·rintro i hi ih q ⟨cl,cls,hst,hcl,hce⟩;have hi1:i<cs.length:=by omega
  have hi2:i<8:=by omega
  refine hI4 _ _ (ac.yes (by simp;omega) (ac.yes (by simp;omega) ?_));intro J hJ;have hJ':∀(v:World) (cl:Sl) (cls:List (Int×Int×Int)),gO w4 v t.m dZ cl dZ [] cls []→cls.length≤i+1→cls=(cs.take (i+1)).filter aQ→J [] v:=fun v cl cls h1 h2 h3=>hJ v (Ar.nat (i+1) rfl (by omega) (ih v ⟨cl,cls,h1,h2,h3⟩));have hbq:Below w.heap.size w q:=hb4.trans (hst.B.mono (by omega));have hbt:tI q ⟨⟨cd A2 i C2 3,i+1-i,C2-i⟩,dZ⟩ [cs[i]] []:=by
   refine⟨by show i+1-i=1;omega,?_,rfl,fun j x hj=>by cases hj⟩;have:=((h2.on hbq).cut i C2 hc2).take 1;rw [List.drop_eq_getElem_cons hi1]at this;exact this
  refine Ar.nat (i+1) rfl (by omega) ⟨by omega,by omega,by omega,trivial,trivial,?_⟩;refine(mz q ⟨⟨cd A2 i C2 3,i+1-i,C2-i⟩,dZ⟩ [cs[i]] [] hbt (by simp) (by simp)).mono ?_;rintro e w9 ⟨rfl,b9⟩;have hst9:=hst.on b9;refine⟨_,rfl,ac.mk (fun hok=>?_) fun hno=>hJ' w9 cl cls hst9 (by omega) (by rw [iF aQ cs hi1,if_neg (by intro h;simp [h]at hno),List.append_nil];exact hce)⟩;intro w10 hw10;have b10:Below w9.heap.size w9 w10:=by subst hw10;exact aO w9
  have hst10:=hst9.on b10;have hb10:=hbq.trans ((ae b9 b10).mono hbq.size);obtain⟨p,hp,_,hc⟩:=(h2.on hb10) i _ (List.getElem?_eq_getElem hi1);have c0:=hc 0 _ rfl;rw [au]at c0;refine⟨_,_,_,ai _ _ hst10.blk 4,af.mk p hp ⟨by omega,by omega,_,_,_,⟨c0,hc 1 _ rfl,hc 2 _ rfl,trivial⟩,?_⟩⟩;intro w11 hw11;have b11:Below w10.heap.size w10 w11:=by subst hw11;exact ah _ _
  refine⟨⟨ai _ _ (hst10.on b11).blk 4,trivial⟩,?_⟩;obtain⟨a',c',w12,hr12,hu12,hf12,h13⟩:=fk (P:=Tryz.prog) (s:=cl) 4 hst10.blk (show 4<6 by decide) hst10.o2 (soft hst10).2.1 (Nat.le_refl _) Re wA Da rfl (by decide) (bH cs[i]) rfl (f_ _ _ _) (by have:=(Rw.of_own hst10.o2 (fun _=>rfl) (by decide)).2;have:=hst10.l2;omega) (by have:=(Rw.of_own hst10.o2 (fun _=>rfl) (by decide)).2;have:=hst10.l2;omega);subst hw11;refine⟨a',cl.n+1,c',w12,hr12,rfl,hu12,hf12,?_⟩;intro w13 hw13;obtain⟨g1,g2,g3,g4,g5,g6,g7⟩:=h13 w13 hw13;have hok:aQ cs[i]=true:=by simpa using hok
  refine hJ' w13 ⟨a',cl.n+1,c'⟩ (cls++ [cs[i]]) ⟨g1,cX _ _ _ _ aD,by rw [List.flatMap_append];simpa using g2,cX _ _ _ _ aP,by rw [List.all_append,hst10.cok];simpa using hok,rfl,rfl,fun y hy=>(by cases hy),List.Pairwise.nil,Nat.zero_le _,by rw [List.length_append];simp;omega,Nat.zero_le _,g4 _ hst10.B⟩ (by rw [List.length_append];simp;omega) (by rw [iF aQ cs hi1,if_pos hok, ←hce])
 rintro q ⟨cl,cls,hst,hcl,hce⟩;refine hI4 _ _ (ac.mk (fun hlt=>ac.no ?_ ?_) fun hlt=>?_)
 ·have:=of_decide_eq_true hlt;exact decide_eq_false (by omega)
 all_goals
  clear hlt;intro I13 hI13;have key2:=bj (α:=World) (min gs.length 8) (fun i q=>∃(jn:Sl) (js:List (Int×Int)),gO w4 q t.m dZ cl jn [] cls js∧js.length≤i∧js=(gs.take i).filter cr) (fun i q=>I13 [.int .i64 (i:Int)] q) q ⟨dZ,[],hst,Nat.zero_le _,rfl⟩ ?_ ?_
  ·exact key2
  ·rintro i hi ih q ⟨jn,js,hst,hjn,hje⟩;have hi1:i<gs.length:=by omega
   have hi2:i<8:=by omega
   refine hI13 _ _ (ac.yes (by simp;omega) (ac.yes (by simp;omega) ?_));intro J hJ;have hJ':∀(v:World) (jn:Sl) (js:List (Int×Int)),gO w4 v t.m dZ cl jn [] cls js→js.length≤i+1→js=(gs.take (i+1)).filter cr→J [] v:=fun v jn js h1 h2 h3=>hJ v (Ar.nat (i+1) rfl (by omega) (ih v ⟨jn,js,h1,h2,h3⟩));have hbq:Below w.heap.size w q:=hb4.trans (hst.B.mono (by omega));have hbt:tI q ⟨dZ,⟨cd A3 i C3 2,i+1-i,C3-i⟩⟩ [] [gs[i]]:=by
    refine⟨rfl,fun j x hj=>(by cases hj),by show i+1-i=1;omega,?_⟩;have:=((h3.on hbq).cut i C3 hc3).take 1;rw [List.drop_eq_getElem_cons hi1]at this;exact this
   refine Ar.nat (i+1) rfl (by omega) ⟨by omega,by omega,by omega,trivial,trivial,?_⟩;refine(mz q ⟨dZ,⟨cd A3 i C3 2,i+1-i,C3-i⟩⟩ [] [gs[i]] hbt (by simp) (by simp)).mono ?_;rintro e w9 ⟨rfl,b9⟩;have hst9:=hst.on b9;refine⟨_,rfl,ac.mk (fun hok=>?_) fun hno=>hJ' w9 jn js hst9 (by omega) (by rw [iF cr gs hi1,if_neg (by intro h;simp [h]at hno),List.append_nil];exact hje)⟩;intro w10 hw10;have b10:Below w9.heap.size w9 w10:=by subst hw10;exact aO w9
   have hst10:=hst9.on b10;have hb10:=hbq.trans ((ae b9 b10).mono hbq.size);obtain⟨p,hp,_,hc⟩:=(h3.on hb10) i _ (List.getElem?_eq_getElem hi1);have c0:=hc 0 _ rfl;rw [au]at c0;refine⟨_,_,_,ai _ _ hst10.blk 5,af.mk p hp ⟨by omega,by omega,_,_,⟨c0,hc 1 _ rfl,trivial⟩,?_⟩⟩;intro w11 hw11;have b11:Below w10.heap.size w10 w11:=by subst hw11;exact ah _ _
   refine⟨⟨ai _ _ (hst10.on b11).blk 5,trivial⟩,?_⟩;obtain⟨a',c',w12,hr12,hu12,hf12,h13⟩:=fk (P:=Tryz.prog) (s:=jn) 5 hst10.blk (show 5<6 by decide) hst10.o3 (soft hst10).2.2 (Nat.le_refl _) Q8 vM DR rfl (by decide) (aP gs[i]) rfl (cw _ _) (by have:=(Rw.of_own hst10.o3 (fun _=>rfl) (by decide)).2;have:=hst10.l3;omega) (by have:=(Rw.of_own hst10.o3 (fun _=>rfl) (by decide)).2;have:=hst10.l3;omega);subst hw11;refine⟨a',jn.n+1,c',w12,hr12,rfl,hu12,hf12,?_⟩;intro w13 hw13;obtain⟨g1,g2,g3,g4,g5,g6,g7⟩:=h13 w13 hw13;have hok:cr gs[i]=true:=by simpa using hok
   have k2:w13.ownsRow w4.heap.size FU 3 cl.v cl.n (cls.flatMap bH):=aU hst10.o2 fun k hk=>g5 k (cB hst10.o2 k hk).2 (fun e=>(soft hst10).2.1 (by rw [←e];exact hk)) (cn hst10.o2 hst10.o3 (by decide) k hk);refine hJ' w13 ⟨a',jn.n+1,c'⟩ (js++ [gs[i]]) ⟨g1,cX _ _ _ _ aD,k2,by rw [List.flatMap_append];simpa using g2,hst10.cok,by rw [List.all_append,hst10.jok];simpa using hok,rfl,fun y hy=>(by cases hy),List.Pairwise.nil,Nat.zero_le _,hst10.l2,by rw [List.length_append];simp;omega,g4 _ hst10.B⟩ (by rw [List.length_append];simp;omega) (by rw [iF cr gs hi1,if_pos hok, ←hje])
  rintro q ⟨jn,js,hst,hjn,hje⟩;refine hI13 _ _ (ac.mk (fun hlt=>ac.no ?_ ?_) fun hlt=>?_)
  ·have:=of_decide_eq_true hlt;exact decide_eq_false (by omega)
  all_goals
   clear hlt;intro I28 hI28;have key3:=bj (α:=World) (min ys.length 6) (fun i q=>∃(sp:Sl) (xs:List (Int×Bs)),gO w4 q t.m sp cl jn xs cls js∧xs.length≤i∧(∀y∈xs,y.1<1000+(i:Int))∧xs=kE ys i) (fun i q=>I28 [.int .i64 (i:Int)] q) q ⟨dZ,[],hst,Nat.zero_le _,fun y hy=>(by cases hy),rfl⟩ ?_ ?_
   ·exact key3
   ·rintro i hi ih q ⟨sp,xs,hst,hxl,hxb,hxe⟩;have hi1:i<ys.length:=by omega
    have hi2:i<6:=by omega
    refine hI28 _ _ (ac.yes (by simp;omega) (ac.yes (by simp;omega) ?_));intro J hJ;have hJ':∀(v:World) (sp:Sl) (xs:List (Int×Bs)),gO w4 v t.m sp cl jn xs cls js→xs.length≤i+1→(∀y∈xs,y.1<1000+((i+1:Nat):Int))→xs=kE ys (i+1)→J [] v:=fun v sp xs h1 h2 h3 h4=>hJ v (Ar.nat (i+1) rfl (by omega) (ih v ⟨sp,xs,h1,h2,h3,h4⟩));intro w23 hw23;have b23:Below q.heap.size q w23:=by subst hw23;exact aO q
    have hst23:=hst.on b23;have hb23:Below w.heap.size w w23:=hb4.trans (hst23.B.mono (by omega));obtain⟨p,hp,_,_⟩:=(h4.on hb23) i _ (List.getElem?_eq_getElem hi1);have cellS:∀v:World,Below w23.heap.size w23 v→v.cell? ((p.add (i*2)).add 1)=some (.string (str ys[i].2)):=by
     intro v hv;obtain⟨p',hp',_,hc⟩:=(h4.on (ae hb23 hv)) i _ (List.getElem?_eq_getElem hi1);have:p'=p:=by rw [hp]at hp';exact(Option.some.inj hp').symm
     subst this;exact hc 1 _ rfl
    have cell3:∀v:World,Below w23.heap.size w23 v→v.cell? ((nb w4).add 3)=some sp.v:=fun v hv=>ai _ _ (hst23.on hv).blk 3;have hspn:=(dk.of_own eH hst23.o1).n;have hl1:=hst23.l1;have check:∀(y:Sl) (v:World),Below w23.heap.size w23 v→v.ownsRow w23.heap.size nr 2 y.v y.n ((xs++ [(((1000+i:Nat):Int),ys[i].2)]).flatMap aD)→
      CP 98 #[Value.slice y.a y.n y.c] v (fun e28 w28=>∃r0:Int,∃r1:Int,e28= .returned (Value.tuple #[Value.int .i64 r0,Value.int .i64 r1])∧
       ac ((r1:Int)==0)
        ((Value.slice y.a y.n y.c).oneCell'=true∧(∃u,w28.cell? ((nb w4).add 3)=some u)∧w28.frozen? ((nb w4).add 3)=false∧
         ∀w29:World,w29=(w28.setCell ((nb w4).add 3) (Value.slice y.a y.n y.c))→J [] w29)
        (J [] w28)):=by
     intro y v hv hy;have hls:=dk.of_own eH hy;have hyn:=hls.n;obtain⟨ya,yn,yc⟩:=y;change yn=_ at hyn;subst hyn;refine(my v ya yc _ hls.r (by rw [List.length_append];simp;omega)).mono ?_;rintro e w28 ⟨rfl,b28⟩;have hb28:=ae hv b28;have st28:=hst23.on hb28;have hy28:=aX (aF hy b28) hst23.B.size;cases hm:bJ [] 0 (xs++ [(((1000+i:Nat):Int),ys[i].2)])with
     |some z=>
      refine⟨_,_,by rw [kz,hm],ac.no (by simpa using s_ hm) (hJ' w28 sp xs st28 (by omega) (fun y hy=>by have:=hxb y hy;omega) (by rw [sE hi1, ←hxe,hm]))⟩
     |none=>
      refine⟨_,_,by rw [kz,hm],ac.yes rfl ⟨rfl,⟨_,cell3 w28 hb28⟩,be st28.blk,?_⟩⟩;intro w29 hw29;subst hw29;have s28:=soft st28;refine hJ' _ ⟨ya,_,yc⟩ (xs++ [(((1000+i:Nat):Int),ys[i].2)]) ⟨bF st28.blk _,bD hy28 _ (by rw [av];exact aE hy28 st28.blk (by decide)),bD st28.o2 _ (by rw [av];exact s28.2.1),bD st28.o3 _ (by rw [av];exact s28.2.2),st28.cok,st28.jok,hm,?_,?_,by rw [List.length_append];simp;omega,st28.l2,st28.l3,bv st28.B (Nat.le_refl _) _⟩ (by rw [List.length_append];simp;omega) ?_ (by rw [sE hi1, ←hxe,hm])
      ·intro z hz;rcases List.mem_append.1 hz with hz |hz
       ·exact st28.xid z hz
       ·rw [List.mem_singleton.1 hz];show(1000:Int)≤((1000+i:Nat):Int)∧((1000+i:Nat):Int) <1006;omega
      ·rw [List.map_append,List.pairwise_append];refine⟨st28.asc,List.pairwise_singleton _ _,fun a ha b hb=>?_⟩;obtain⟨y,hy,rfl⟩:=List.mem_map.1 ha;have:=hxb y hy;simp at hb;omega
      ·intro y hy;rcases List.mem_append.1 hy with hy |hy
       ·have:=hxb y hy;omega
       ·rw [List.mem_singleton.1 hy];show((1000+i:Nat):Int) <1000+((i+1:Nat):Int);omega
    have spr:∀(v:World) (k:Nat),Below w23.heap.size w23 v→v.heap[k]? =some (.cells #[] nr (0,0))→w23.heap.size≤k→∃(r:Sl) (v':World),r.n=sp.n∧(Builtin.append_ #[J',J'] J' #[.slice (some ⟨k,0,none⟩) 0 0,.slice sp.a sp.n sp.c]).run Tryz.prog v= .ok (.slice r.a r.n r.c) v'∧v'.ownsRow w23.heap.size nr 2 r.v r.n (xs.flatMap aD)∧Below w23.heap.size w23 v'∧(∀j,j<v.heap.size→j≠k→v'.heap[j]? =v.heap[j]?):=by
     intro v k hv hk hle;have hls:=dk.of_own eH (hst23.on hv).o1;obtain⟨r,v',g1,g2,g3,g4,g5,_⟩:=eH.spread (s:=⟨some ⟨k,0,none⟩,0,0⟩) (xs:=[]) (Ii hk hle) hls hv.size (Nat.zero_le _) (by omega) (by decide);refine⟨r,v',by rw [g1];show 0+sp.n=sp.n;omega,g2,g3,g4 _ hv,fun j hj hjk=>g5 j hj fun e=>hjk ?_⟩;have:k=j:=by simpa [Value.ownBlock]using e
     exact this.symm
    refine⟨_,_,_,cell3 w23 (Below.refl _ _),Ar.nat (1000+i) (by omega) (by omega) (af.mk p hp ⟨by omega,by omega,_,cellS w23 (Below.refl _ _),?_,?_⟩)⟩
    ·intro w24 hw24;have b24:Below w23.heap.size w23 w24:=by subst hw24;exact ah _ _
     have n24:w24.heap[w23.heap.size]? =some (.cells #[] nr (0,0)):=by subst hw24;exact ap _ _
     refine⟨⟨cellS w24 b24,trivial⟩,⟨cell3 w24 b24,trivial⟩,?_,?_⟩
     ·obtain⟨r,w25,g1,g2,g3,g4,g5⟩:=spr w24 _ b24 n24 (Nat.le_refl _);refine⟨r.a,r.n,r.c,w25,g2,⟨cellS w25 g4,trivial⟩,?_⟩;intro w26 hw26;obtain⟨y,w27,f1,f2,f3,f4,f5⟩:=eH.push g3 (((1000+i:Nat):Int),ys[i].2) hw26 rfl g4.size (by omega) (by decide);exact⟨y.a,y.n,y.c,w27,f2,check y w27 (f4 _ g4) f3⟩
     ·intro w30 hw30;have b30:Below w24.heap.size w24 w30:=by subst hw30;exact ah _ _
      have e30:w30.heap[w24.heap.size]? =some (.cells (aD (((1000+i:Nat):Int),ys[i].2)).toArray nr (0,0)):=by subst hw30;exact ap _ _
      have b2330:=ae b24 b30;refine⟨⟨cell3 w30 b2330,trivial⟩,?_⟩;obtain⟨r,w31,g1,g2,g3,g4,g5⟩:=spr w30 _ b2330 (aj b30 n24) (Nat.le_refl _);have hz24:=(Array.getElem?_eq_some_iff.1 n24).1;have e31:w31.heap[w24.heap.size]? =some (.cells (aD (((1000+i:Nat):Int),ys[i].2)).toArray nr (0,0)):=by
       rw [g5 _ (Array.getElem?_eq_some_iff.1 e30).1 (by omega)];exact e30
      obtain⟨y,w32,f1,f2,f3,f4,f5⟩:=eH.pushAt g3 (((1000+i:Nat):Int),ys[i].2) e31 g4.size (by omega) (by decide);exact⟨r.a,r.n,r.c,w31,g2,y.a,y.n,y.c,w32,f2,check y w32 (f4 _ g4) f3⟩
    ·intro w86 hw86;have b86:Below w23.heap.size w23 w86:=by subst hw86;exact ah _ _
     have e86:w86.heap[w23.heap.size]? =some (.cells (aD (((1000+i:Nat):Int),ys[i].2)).toArray nr (0,0)):=by subst hw86;exact ap _ _
     refine⟨⟨cell3 w86 b86,trivial⟩,?_⟩;intro w87 hw87;have b87:Below w86.heap.size w86 w87:=by subst hw87;exact ah _ _
     have n87:w87.heap[w86.heap.size]? =some (.cells #[] nr (0,0)):=by subst hw87;exact ap _ _
     have b2387:=ae b86 b87;have hz86:=(Array.getElem?_eq_some_iff.1 e86).1;refine⟨⟨cell3 w87 b2387,trivial⟩,?_⟩;obtain⟨r,w88,g1,g2,g3,g4,g5⟩:=spr w87 _ b2387 n87 (by omega);have e88:w88.heap[w23.heap.size]? =some (.cells (aD (((1000+i:Nat):Int),ys[i].2)).toArray nr (0,0)):=by
      rw [g5 _ (Array.getElem?_eq_some_iff.1 (aj b87 e86)).1 (by omega)];exact aj b87 e86
     obtain⟨y,w89,f1,f2,f3,f4,f5⟩:=eH.pushAt g3 (((1000+i:Nat):Int),ys[i].2) e88 g4.size (by omega) (by decide);exact⟨r.a,r.n,r.c,w88,g2,y.a,y.n,y.c,w89,f2,check y w89 (f4 _ g4) f3⟩
   ·rintro q ⟨sp,xs,hst,hxl,_,hxe⟩;have done:=fin q sp cl jn xs cls js hst hxe hce hje;have cells:=dF (x:=⟨false,t.m,dZ,sp,cl,jn⟩) hst.blk;refine hI28 _ _ (ac.mk (fun hlt=>ac.no ?_ ⟨_,_,_,_,_,_,_,_,_,_,_,_,_,_,_,_,cells,done⟩) fun hlt=>⟨_,_,_,_,_,_,_,_,_,_,_,_,_,_,_,_,cells,done⟩);have:=of_decide_eq_true hlt;exact decide_eq_false (by omega)
theorem vB (w:World) (A1:Option Addr) (C1:Nat) (l:List Int) (h1:Rw uy 1 w A1 l) (A2:Option Addr) (C2:Nat) (cs:List (Int×Int×Int)) (h2:Rw bH 3 w A2 cs) (A3:Option Addr) (C3:Nat) (gs:List (Int×Int)) (h3:Rw aP 2 w A3 gs) (A4:Option Addr) (C4:Nat) (ys:List (Int×Bs)) (h4:Rw aD 2 w A4 ys)
  (hc2:cs.length≤C2) (hc3:gs.length≤C3):
  CP 41 #[.slice A1 l.length C1,.slice A2 cs.length C2,.slice A3 gs.length C3,.slice A4 ys.length C4] w fun e w'=>∃u,e= .returned u∧LT (someV l cs gs ys) w u w':=by
 refine(tW w A1 C1 l h1 A2 C2 cs h2 A3 C3 gs h3 A4 C4 ys h4 hc2 hc3).mono fun e w' ⟨u,he,x,s,T,q1,q2,q3,q4,q5,q6,q7,q8,q9,q10,q11,_⟩=>⟨u,he,x,s,T,q1,q2,q3,q4,q5,q6,q7,q8,q9,q10,q11⟩
structure Gp where
 l:Sl
 c:Sl
 j:Sl
 x:Sl
abbrev Gp.cells (y:Gp):Array Value:=#[y.l.v,y.c.v,y.j.v,y.x.v]
abbrev Gp.v (y:Gp):Value:=.agg y.cells
structure xD (w:World) (y:Gp) (ls:List Int) (cs:List (Int×Int×Int)) (js:List (Int×Int)) (xs:List (Int×Bs)):Prop where
 n1:y.l.n=ls.length
 r1:Rw uy 1 w y.l.a ls
 n2:y.c.n=cs.length
 r2:Rw bH 3 w y.c.a cs
 n3:y.j.n=js.length
 r3:Rw aP 2 w y.j.a js
 n4:y.x.n=xs.length
 r4:Rw aD 2 w y.x.a xs
 c2:y.c.n≤y.c.c
 c3:y.j.n≤y.j.c
 most:xs.length≤9223372036854775807
theorem xD.on {w w':World} {y:Gp} {ls:List Int} {cs:List (Int×Int×Int)} {js:List (Int×Int)} {xs:List (Int×Bs)} (h:xD w y ls cs js xs) (hb:Below w.heap.size w w'):xD w' y ls cs js xs:=⟨h.n1,h.r1.on hb,h.n2,h.r2.on hb,h.n3,h.r3.on hb,h.n4,h.r4.on hb,h.c2,h.c3,h.most⟩
abbrev MM:TypeId:=27
theorem PT {w:World} {b:Nat} {y:Gp} {T:TypeId} {fz:Nat×Nat} (h:w.heap[b]? =some (.cells y.cells T fz)):
  w.cell? ⟨b,0,none⟩=some y.l.v∧w.cell? ((⟨b,0,none⟩:Addr).add 1)=some y.c.v∧w.cell? ((⟨b,0,none⟩:Addr).add 2)=some y.j.v∧w.cell? ((⟨b,0,none⟩:Addr).add 3)=some y.x.v∧True:=by
 have hc:∀j,w.cell? ((⟨b,0,none⟩:Addr).add j)=y.cells[j]? :=fun j=>ai _ _ h j;exact⟨by have:=hc 0;rw [au]at this;exact this,hc 1,hc 2,hc 3,trivial⟩
theorem tS (w:World) (y:Gp) (ls:List Int) (cs:List (Int×Int×Int)) (js:List (Int×Int)) (xs:List (Int×Bs)) (h:xD w y ls cs js xs):CP 11 #[y.v] w fun e w'=>∃n:Int,e= .returned (.int .i64 n)∧Below w.heap.size w w':=by
 refine aN (Co y.l.a y.l.n y.l.c y.c.a y.c.n y.c.c y.j.a y.j.n y.j.c y.x.a y.x.n y.x.c w) ?_;intro w1 hw1;have hb1:Below w.heap.size w w1:=by subst hw1;exact ah _ _
 have l1:w1.heap[w.heap.size]? =some (.cells y.cells MM (0,0)):=by subst hw1;exact ap _ _
 refine⟨_,_,_,ai _ _ l1 0,_,_,_,ai _ _ l1 1,_,_,_,ai _ _ l1 2,_,_,_,ai _ _ l1 3,?_⟩;have h4:=(h.on hb1).r4;have n4:=h.n4;obtain⟨⟨l1',l2',l3'⟩,⟨c1',c2',c3'⟩,⟨j1',j2',j3'⟩,⟨x1',x2',x3'⟩⟩:=y;change x2'=xs.length at n4;subst n4;refine(uf w1 l1' l2' l3' c1' c2' c3' j1' j2' j3' x1' x3' xs h4 h.most).mono ?_;rintro e w2 ⟨rfl,hw⟩;subst hw;exact⟨_,rfl,ac.mk (fun _=>⟨1,rfl,hb1⟩) fun _=>⟨0,rfl,hb1⟩⟩
structure Ac (w:World) (v:Nat) (y:qv) (s:ak) (T:List aT):Prop where
 voc:aW w v s T
 rv:∀w',aC v w w'→kq w' y s T
 few:s.specials.length≤6
 ids:∀z∈s.specials,1000≤z.1∧z.1<1006
 asc:(s.specials.map (·.1)).Pairwise (·< ·)
theorem Ac.now {w:World} {v:Nat} {y:qv} {s:ak} {T:List aT} (h:Ac w v y s T):kq w y s T:=h.rv w (aC.of_below (Below.refl _ _))
theorem Ac.on {w w':World} {v:Nat} {y:qv} {s:ak} {T:List aT} (h:Ac w v y s T) (hb:Below w.heap.size w w'):Ac w' v y s T:=⟨h.voc.on hb,fun w2 t=>h.rv w2 ((aC.of_below hb).trans t),h.few,h.ids,h.asc⟩
theorem aW.lt {w:World} {v:Nat} {s:ak} {T:List aT} (h:aW w v s T):v<w.heap.size:=by
 obtain⟨w0,x,tp,bp,mp,d,l,uses,hR⟩:=h;exact(Array.getElem?_eq_some_iff.1 hR.blk).1
theorem Rw.far {α:Type} {enc:α→List Value} {sz:Nat} {w:World} {a:Option Addr} {xs:List α} (h:Rw enc sz w a xs) {v:Nat} (hv:w.heap.size≤v):xs≠ []→∀p,a=some p→p.block≠v:=by
 intro hne p hp e;cases xs with
 |nil=>exact hne rfl
 |cons x xs=>
  obtain⟨q,hq,hlt,_⟩:=h 0 x rfl;rw [hp]at hq;cases hq;omega
theorem gR.touch {w w':World} {x:nq} {es:List aT} {B v:Nat} (h:gR w x es) (hf:kI B x) (hB:v<B) (t:aC v w w'):gR w' x es:=
 ⟨h.n1,h.r1.touch t fun _ p hp e=>by have:=hf.1 p hp;omega,h.k1,h.n2,h.r2.touch t fun _ p hp e=>by have:=hf.2 p hp;omega,h.k2⟩
structure qn (b:Nat) (e:TypeId) (w w':World):Prop where
 blk:∃c fz,w.heap[b]? =some (.cells c e fz)∧∀v∈c,¬mr v
 ne:∀j,j≠b→w'.heap[j]? =w.heap[j]?
 size:w'.heap.size=w.heap.size
theorem qn.row {α:Type} {enc:α→List Value} {sz:Nat} {w w':World} {b:Nat} {e:TypeId} {a:Option Addr} {xs:List α} (t:qn b e w w') (h:Rw enc sz w a xs) (henc:∀x,∃v,(enc x)[0]? =some v∧mr v):Rw enc sz w' a xs:=by
 obtain⟨c,fz,hb,hc⟩:=t.blk;exact h.past henc hb hc (fun j _ hj=>t.ne j hj) (Nat.le_of_eq t.size.symm)
theorem qn.cells {w w':World} {b k:Nat} {e e':TypeId} {c:Array Value} {fz:Nat×Nat} (t:qn b e w w') (h:w.heap[k]? =some (.cells c e' fz)) (hne:e≠e'):w'.heap[k]? =some (.cells c e' fz):=by
 obtain⟨c',fz',hb,_⟩:=t.blk;rw [t.ne k fun e=>?_]
 ·exact h
 ·subst e;rw [hb]at h;cases h;exact hne rfl
theorem qn.map {κ:Type} [DecidableEq κ] {kv:κ→Value} {w w':World} {b r:Nat} {e:TypeId} {m:List (κ×Value)} (t:qn b e w w') (h:br kv w r m):br kv w' r m:=by
 obtain⟨c',fz',hb,_⟩:=t.blk;refine h.same (t.ne r fun e=>?_);subst e;obtain⟨es,k,hm,_⟩:=h;rw [hb]at hm;cases hm
theorem qn.parts {w w':World} {b:Nat} {e:TypeId} {s:ak} {T:List aT} {x:aY} {tp bp mp:Nat} (t:qn b e w w') (h:bW w s T x tp bp mp) (n1:e≠lg) (n2:e≠ko) (n3:e≠so):bW w' s T x tp bp mp:=by
 obtain⟨h1,h2,h3,h4,h5,h6,h7,h8⟩:=h;refine⟨?_,?_,h3,?_,?_,h6,h7,h8⟩
 ·exact⟨h1.ranked,h1.n1,t.row h1.r1 fun m=>⟨_,rfl,df _ _⟩,h1.n2,t.row h1.r2 fun m=>⟨_,rfl,.inr ⟨_,rfl⟩⟩,h1.n3,t.row h1.r3 fun m=>⟨_,rfl,df _ _⟩,h1.n4,t.row h1.r4 fun m=>⟨_,rfl,df _ _⟩,h1.n5,t.row h1.r5 fun m=>⟨_,rfl,df _ _⟩⟩
 ·obtain⟨l,mb,mp,most,g1,g2,g3,g4,g5,g6⟩:=h2;exact⟨l,mb,mp,most,t.cells g1 n1,g2,t.row g3 fun m=>⟨_,rfl,.inr ⟨_,rfl⟩⟩,t.map g4,t.map g5,g6⟩
 ·obtain⟨c,g1,g2⟩:=h4;exact⟨c,t.cells g1 n2,g2⟩
 ·obtain⟨l,mi,mt,c,g1,g2,g3,g4,g5,g6⟩:=h5;exact⟨l,mi,mt,c,t.cells g1 n3,g2,g3,t.row g4 fun m=>⟨_,rfl,df _ _⟩,t.map g5,t.map g6⟩
theorem qn.voc {w w':World} {b v:Nat} {e:TypeId} {s:ak} {T:List aT} (t:qn b e w w') (h:aW w v s T) (n1:e≠lg) (n2:e≠ko) (n3:e≠so) (n4:e≠dH) (n5:e≠b_) (hB:Below b w w'):aW w' v s T:=by
 obtain⟨w0,x,tp,bp,mp,d,l,uses,hR⟩:=h;have blk:=t.cells hR.blk n4;have once:(d=0∧l=⟨none,0,0⟩)∨(d=1∧l.n=T.length∧w'.ownsRow (v+1) b_ 1 l.v l.n ((fc s T).flatMap dS)):=by
  rcases hR.once with h |⟨h1,h2,h3⟩
  ·exact .inl h
  ·refine .inr ⟨h1,h2,aU h3 fun k hk=>t.ne k fun e=>?_⟩;obtain⟨c,fz,hb,_⟩:=t.blk;exact aE h3 hb (fun e=>n5 e.symm) (by rw [hk,e])
 have hbel:=hR.below;by_cases hlt:b<w0.heap.size
 ·obtain⟨c,fz,hb,hc⟩:=t.blk;have hb0:w0.heap[b]? =some (.cells c e fz):=by rw [←hbel.block b hlt];exact hb
  have hbl:b<w.heap.size:=(Array.getElem?_eq_some_iff.1 hb).1;have hbl':b<w'.heap.size:=by rw [t.size];exact hbl
  let w1:World:={w0 with heap:=w0.heap.setIfInBounds b w'.heap[b]};have hz:w1.heap.size=w0.heap.size:=by simp [w1]
  have same:∀j,j≠b→w1.heap[j]? =w0.heap[j]? :=fun j hj=>by
   show(w0.heap.setIfInBounds b w'.heap[b])[j]? =_;rw [Array.getElem?_setIfInBounds_ne (fun e=>hj e.symm)]
  have t0:qn b e w0 w1:=⟨⟨c,fz,hb0,hc⟩,same,hz⟩;refine⟨w1,x,tp,bp,mp,d,l,uses,t0.parts hR.parts n1 n2 n3,?_,by rw [hz];exact hR.lt,blk,once⟩;refine⟨hB.os.trans hbel.os,hB.tape.trans hbel.tape,hB.output.trans hbel.output,by rw [hz,t.size];exact hbel.size,fun k hk=>?_⟩;by_cases hkb:k=b
  ·subst hkb;show w'.heap[k]? =(w0.heap.setIfInBounds k w'.heap[k])[k]?
   rw [Array.getElem?_setIfInBounds_self_of_lt hlt,Array.getElem?_eq_getElem hbl']
  ·rw [same k hkb,t.ne k hkb];exact hbel.block k (by rw [hz]at hk;exact hk)
 ·refine⟨w0,x,tp,bp,mp,d,l,uses,hR.parts,?_,hR.lt,blk,once⟩;exact⟨hB.os.trans hbel.os,hB.tape.trans hbel.tape,hB.output.trans hbel.output,by rw [t.size];exact hbel.size,fun k hk=>by rw [t.ne k (by omega)];exact hbel.block k hk⟩
def Ro (w:World) (u:Value) (w':World):Prop:=∃(v:Nat) (y:qv) (s:ak) (T:List aT),u= .tuple #[.pointer (some ⟨v,0,none⟩),y.v]∧Ac w' v y s T∧w.heap.size≤v∧Below w.heap.size w w'
def MV (s0:ak) (w:World) (u:Value) (w':World):Prop:=∃(v:Nat) (y:qv) (s:ak) (T:List aT),u= .tuple #[.pointer (some ⟨v,0,none⟩),y.v]∧Ac w' v y s T∧w.heap.size≤v∧Below w.heap.size w w'∧s=s0∧cC s= .ok T
theorem xj (w:World) (y:Gp) (ls:List Int) (cs:List (Int×Int×Int)) (js:List (Int×Int)) (xs:List (Int×Bs)) (h:xD w y ls cs js xs):CP 13 #[y.v] w fun e w'=>∃u,e= .returned u∧MV (someV ls cs js xs) w u w':=by
 refine CG y.l.a y.l.n y.l.c y.c.a y.c.n y.c.c y.j.a y.j.n y.j.c y.x.a y.x.n y.x.c w (MV (someV ls cs js xs) w) ?_;intro w1 hw1 w2 hw2;have hb1:Below w.heap.size w w1:=by subst hw1;exact ah _ _
 have b2:Below w1.heap.size w1 w2:=by subst hw2;exact ah _ _
 have hb2:=ae hb1 b2;have l2:w2.heap[w.heap.size]? =some (.cells y.cells MM (0,0)):=aj b2 (by subst hw1;exact ap _ _);have z2:w2.heap[w1.heap.size]? =some (.cells JV.cells MK (0,0)):=by subst hw2;exact ap _ _
 refine⟨_,_,_,ai _ _ l2 0,_,_,_,ai _ _ l2 1,_,_,_,ai _ _ l2 2,_,_,_,ai _ _ l2 3,?_⟩;have h2:=h.on hb2;clear l2;clear hw1;have some2:CP 41 #[y.l.v,y.c.v,y.j.v,y.x.v] w2 fun e w'=>∃u,e= .returned u∧LT (someV ls cs js xs) w2 u w':=by
  obtain⟨n1,r1,n2,r2,n3,r3,n4,r4,c2,c3,most⟩:=h2;obtain⟨⟨l1',l2',l3'⟩,⟨c1',c2',c3'⟩,⟨j1',j2',j3'⟩,⟨x1',x2',x3'⟩⟩:=y;change l2'=ls.length at n1;change c2'=cs.length at n2;change j2'=js.length at n3;change x2'=xs.length at n4;subst n1 n2 n3 n4;exact vB w2 l1' l3' ls r1 c1' c3' cs r2 j1' j3' js r3 x1' x3' xs r4 c2 c3
 refine some2.mono ?_;rintro e w3 ⟨u,rfl,x,s,T,rfl,hS,hrk,hright,hT,htok,hfew,hids,hasc,hs0,b3⟩;refine⟨_,_,_,_,_,_,_,_,_,_,_,_,_,_,_,_,rfl,?_⟩;intro w4 hw4;refine mL x w4 hw4 ?_;intro w5 h5 b5;have b35:=ae b3 b5;have hb5:=ae hb2 b35;have hS5:=hS.on b5;refine⟨_,_,_,_,_,_,_,_,_,_,_,_,_,_,_,_,dF h5,?_⟩;refine(tH w5 x s hS5).mono ?_;rintro e w6 ⟨u,rfl,b6,hp⟩;rw [if_pos hright,hT]at hp;obtain⟨v,rfl,hV,hv⟩:=hp;have hb6:=ae hb5 b6;have h6:=aj b6 h5;refine⟨_,_,_,rfl,ac.no rfl ⟨_,_,_,_,_,_,_,_,_,_,_,_,_,_,_,_,dF h6,?_⟩⟩;refine(D8 w6 x s (hS5.on b6) hrk hright T hT).mono ?_;rintro e w8 ⟨r,rfl,hr,b8,hf,eb,esp⟩;have hb8:=ae hb6 b8;have z8:=aj b8 (aj b6 (aj b35 z2));refine⟨_,_,_,_,_,_,_,_,_,_,_,_,_,_,_,rfl,?_⟩;refine bf z8 (wM r) rfl (nv r) ?_;intro w9 h9 hs9 hz9 hB9;have hvl:=hV.lt;have hz5:=hb5.size;have hz1:=hb1.size;have tp:qn w1.heap.size MK w8 w9:=⟨⟨_,_,z8,qJ JV⟩,hs9,hz9⟩;have hV9:aW w9 v s T:=tp.voc (hV.on b8) (by decide) (by decide) (by decide) (by decide) (by decide) (hB9 _ _ (Nat.le_refl _) (Below.refl _ _));have hr9:kq w9 r s T:=hr.past z8 (qJ JV) (fun j _ hj=>hs9 j hj) (Nat.le_of_eq hz9.symm);have f3:=hS5.r3.far hv;have f4:=hS5.r4.far hv;have f5:=hS5.r5.far hv;refine⟨_,_,_,_,_,_,_,_,_,_,_,_,_,_,_,xH (x:=r) h9,v,r,s,T,rfl,⟨hV9,fun w' t=>?_,hfew,hids,hasc⟩,by omega,hB9 _ _ hz1 hb8,hs0,hT⟩;obtain⟨g1,⟨g2,g3,g4,g5⟩,g6,g7,g8,g9,g10,g11⟩:=hr9;refine⟨g1.touch hf hvl t,⟨g2,g3.touch t (by rw [eb];exact f4),g4,g5.touch t (by rw [eb];exact f5)⟩,g6,g7.touch t (by rw [esp];exact f3),g8,g9,g10,g11⟩
theorem Cz (w:World) (y:Gp) (ls:List Int) (cs:List (Int×Int×Int)) (js:List (Int×Int)) (xs:List (Int×Bs)) (h:xD w y ls cs js xs):CP 13 #[y.v] w fun e w'=>∃u,e= .returned u∧Ro w u w':=
 (xj w y ls cs js xs h).mono fun _ _ ⟨u,e,v,r,s,T,h1,h2,h3,h4,_⟩=>⟨u,e,v,r,s,T,h1,h2,h3,h4⟩
open Go.ChangeShapes Go.WideShapes
section
variable {H:Type} {enc0:TypeId×Value→H} {w:World} {base:Nat} {spare:Nat→Bool} {held:Bool}
theorem IY {e:TypeId} (he:Tryz.prog.underlying e=some (.int .i64)):∀n cs' y,DataW.trod enc0 Tryz.prog w base spare held n e cs'=some y→∃m:Int,cs'=ay m:=by
 intro n cs' y h;obtain⟨i,hi,_⟩:=DataW.trod_int he h;exact⟨i,hi⟩
theorem Gv {e:TypeId} (he:Tryz.prog.underlying e=some (.int .u16)):∀n cs' y,DataW.trod enc0 Tryz.prog w base spare held n e cs'=some y→∃m:Int,cs'=uy m:=by
 intro n cs' y h;obtain⟨i,hi,_⟩:=DataW.trod_int he h;exact⟨i,hi⟩
theorem va {A:Option Addr} {N C:Nat} {d:DataW H} {p:List MemPlace} (h:DataW.Trod enc0 Tryz.prog w base spare held cq (.slice A N C) d p):∃xs:List Int,N=xs.length∧tZ ⟨A,N,C⟩∧N≤C∧C≤maxLen∧Rw ay 1 w A xs:=by
 obtain⟨fuel,hf⟩:=h;obtain⟨s,xs,e,n,k,c,m,r⟩:=jB (enc:=ay) (sz:=1) qG (by kernel_rfl) (fun _=>rfl) (Nat.succ_pos _) (IY Tryz.underlying3) hf;obtain⟨sa,sn,sc⟩:=s;simp [Value.cells]at e;obtain⟨rfl,rfl,rfl⟩:=e;exact⟨xs,n,k,c,m,r⟩
theorem FY {b0:Nat} {v:Value} {d:DataW H} {p:List MemPlace} (hv:Value.okWide Tryz.prog w .any b0 MM v) (h:DataW.Trod enc0 Tryz.prog w base spare held MM v d p):∃(y:Gp) (ls:List Int) (cs:List (Int×Int×Int)) (js:List (Int×Int)) (xs:List (Int×Bs)),v=y.v∧xD w y ls cs js xs:=by
 obtain⟨cs,rfl,hsz⟩:=okWide_struct Tryz.underlying27 hv;rw [show Tryz.prog.cellsOf MM=4 by kernel_rfl]at hsz;obtain⟨fuel,hf⟩:=h;obtain⟨xs,n,_,_,_,hlen,hF⟩:=DataW.trod_struct Tryz.underlying27 hf;have h0:DataW.trod enc0 Tryz.prog w base spare held n 22 ((cs.toList.drop 0).take (Tryz.prog.cellsOf 22))=xs[0]? :=hF 0 _ rfl;have h1:DataW.trod enc0 Tryz.prog w base spare held n 23 ((cs.toList.drop 1).take (Tryz.prog.cellsOf 23))=xs[1]? :=hF 1 _ rfl;have h2:DataW.trod enc0 Tryz.prog w base spare held n 24 ((cs.toList.drop 2).take (Tryz.prog.cellsOf 24))=xs[2]? :=hF 2 _ rfl;have h3:DataW.trod enc0 Tryz.prog w base spare held n 25 ((cs.toList.drop 3).take (Tryz.prog.cellsOf 25))=xs[3]? :=hF 3 _ rfl;rw [show Tryz.prog.cellsOf 22=1 by kernel_rfl]at h0;rw [show Tryz.prog.cellsOf 23=1 by kernel_rfl]at h1;rw [show Tryz.prog.cellsOf 24=1 by kernel_rfl]at h2;rw [show Tryz.prog.cellsOf 25=1 by kernel_rfl]at h3;have hl4:cs.toList.length=4:=by simpa using hsz
 obtain⟨l,hl⟩:∃l,cs.toList=l:=⟨_,rfl⟩;obtain rfl:cs=l.toArray:=by rw [←hl]
 rw [hl]at h0 h1 h2 h3 hl4
 match l,hl4,xs,hlen with
 | [a0,a1,a2,a3],_,[y0,y1,y2,y3],_=>
  obtain⟨s1,l1,e1,n1,k1,c1,m1,r1⟩:=jB (enc:=uy) (sz:=1) Tryz.underlying22 (by kernel_rfl) (fun _=>rfl) (Nat.succ_pos _) (Gv Tryz.underlying242) h0;obtain⟨s2,l2,e2,n2,k2,c2,m2,r2⟩:=jB (enc:=bH) (sz:=3) wA (by kernel_rfl) (fun _=>rfl) (Nat.succ_pos _) (Cy Tryz.underlying89 rfl rfl rfl Tryz.underlying3 Tryz.underlying3 Tryz.underlying3 (by kernel_rfl) (by kernel_rfl) (by kernel_rfl) (by kernel_rfl)) h1;obtain⟨s3,l3,e3,n3,k3,c3,m3,r3⟩:=jB (enc:=aP) (sz:=2) vM (by kernel_rfl) (fun _=>rfl) (Nat.succ_pos _) (Fy Tryz.underlying170 rfl rfl Tryz.underlying3 Tryz.underlying3 (by kernel_rfl) (by kernel_rfl) (by kernel_rfl)) h2;obtain⟨s4,l4,e4,n4,k4,c4,m4,r4⟩:=jB (enc:=aD) (sz:=2) qV (by kernel_rfl) (fun _=>rfl) (Nat.succ_pos _) (wu Tryz.underlying87 rfl rfl Tryz.underlying3 vX (by kernel_rfl) (by kernel_rfl) (by kernel_rfl)) h3;simp at e1 e2 e3 e4;subst e1 e2 e3 e4;exact⟨⟨s1,s2,s3,s4⟩,l1,l2,l3,l4,rfl,n1,r1,n2,r2,n3,r3,n4,r4,c2,c3,by unfold maxLen at m4;omega⟩
end
open Go Go.Value
def Qy (a:OA) (b:Int) (w:World) (R:RW):Prop:=
 ∀c,c=w.alloc (.cells #[pointer a] 31)→
 ∃d,c.cell? (nb w)=some (pointer d)∧
 CP 48 #[pointer d] c (fun f g=>
 ∃h i j,f= .returned (slice h i j)∧
 ∀k,k=g.alloc (.cells #[slice none 0 0] 28)→
 (slice h i j).oneCell'=true∧(∃u,k.cell? (nb g)=some u)∧k.frozen? (nb g)=false∧
 ∀l,l=(k.setCell (nb g) (slice h i j))→
 ∃m,l.cell? (nb w)=some (pointer m)∧
 ac (Option.isNone m)
 (R (tuple #[pointer none,int .i64 1]) l)
 (∃n o p,l.cell? (nb g)=some (slice n o p)∧
 ∃q r s,l.cell? (nb g)=some (slice q r s)∧
 Ar .i64 ((o:Int)*(r:Int)) (fun t=>
 ac (decide (t>b))
 (R (tuple #[pointer none,int .i64 5]) l)
 (∃x y z,l.cell? (nb g)=some (slice x y z)∧
 ∃a1 b1,(Instr.makeMap 108 none).run Tryz.prog l= .ok (map a1) b1∧
 ∀c1,c1=b1.alloc (.cells #[slice x y z,map a1,slice none 0 0,slice none 0 0] 113)→
 ∀d1,d1=c1.alloc (.cells #[pointer none] 42)→
 (pointer (some (nb b1))).oneCell'=true∧(∃u,d1.cell? (nb c1)=some u)∧d1.frozen? (nb c1)=false∧
 ∀e1,e1=(d1.setCell (nb c1) (pointer (some (nb b1))))→
 ∃f1 g1 h1,e1.cell? (nb g)=some (slice f1 g1 h1)∧
 ∀i1:KW,(∀(j1:Int) (k1:World),(ac (decide (j1< (g1:Int)))
 (af f1 (fun l1=>
 (0:Int)≤j1∧j1< (g1:Int)∧
 ∃m1,k1.cell? (l1.add (j1.toNat*1))=some (int .i64 m1)∧
 ∃n1,k1.cell? (nb c1)=some (pointer n1)∧
 af n1 (fun o1=>
 ∃p1,k1.cell? (o1.add 1)=some (map p1)∧
 ∃q1,(Instr.mapUpdate 108 (map p1) (int .i64 m1) (int .i64 j1)).run Tryz.prog k1= .ok () q1∧
 Ar .i64 (j1+1) (fun r1=>
 i1 [int .i64 r1] q1))))
 (∀s1,s1=k1.drew→
 ∃t1,s1.cell? (nb c1)=some (pointer t1)∧
 ∃u1 v1 x1,s1.cell? (nb g)=some (slice u1 v1 x1)∧
 CP 58 #[int .i64 (v1:Int),func (.func 59) #[] #[pointer (some (nb w)),pointer (some (nb g))]] s1 (fun y1 z1=>
 ∃a2 b2 c2,y1= .returned (slice a2 b2 c2)∧
 (z1.cell? (nb c1)=some (pointer t1)∧True)∧
 af t1 (fun d2=>
 (slice a2 b2 c2).oneCell'=true∧(∃u,z1.cell? (d2.add 3)=some u)∧z1.frozen? (d2.add 3)=false∧
 ∀e2,e2=(z1.setCell (d2.add 3) (slice a2 b2 c2))→
 ∃f2 g2 h2,e2.cell? (nb g)=some (slice f2 g2 h2)∧
 ∀i2:KW,(∀(j2:Int) (k2:World),(ac (decide (j2< (g2:Int)))
 (af f2 (fun l2=>
 (0:Int)≤j2∧j2< (g2:Int)∧
 ∃m2,k2.cell? (l2.add (j2.toNat*1))=some (int .i64 m2)∧
 ∀n2,n2=k2.alloc (.cells #[int .i64 0] 3)→
 ∀o2,o2=n2.alloc (.cells #[int .i64 0] 3)→
 (int .i64 j2).oneCell'=true∧(∃u,o2.cell? (nb k2)=some u)∧o2.frozen? (nb k2)=false∧
 ∀p2,p2=(o2.setCell (nb k2) (int .i64 j2))→
 (int .i64 m2).oneCell'=true∧(∃u,p2.cell? (nb n2)=some u)∧p2.frozen? (nb n2)=false∧
 ∀q2,q2=(p2.setCell (nb n2) (int .i64 m2))→
 ∀r2,r2=q2.drew→
 ∃s2,r2.cell? (nb c1)=some (pointer s2)∧
 ∃t2,r2.cell? (nb c1)=some (pointer t2)∧
 af t2 (fun u2=>
 ∃v2 x2 y2,r2.cell? (u2.add 2)=some (slice v2 x2 y2)∧
 ∃z2 a3 b3,r2.cell? (nb g)=some (slice z2 a3 b3)∧
 CP 58 #[int .i64 (a3:Int),func (.func 60) #[] #[pointer (some (nb c1)),pointer (some (nb k2)),pointer (some (nb w)),pointer (some (nb n2)),pointer (some (nb g))]] r2 (fun c3 d3=>
 ∃e3 f3 g3,c3= .returned (slice e3 f3 g3)∧
 (d3.cell? (u2.add 2)=some (slice v2 x2 y2)∧True)∧
 (d3.cell? (nb c1)=some (pointer t2)∧True)∧
 (d3.cell? (nb c1)=some (pointer s2)∧True)∧
 ∀h3,h3=d3.alloc (.cells #[slice e3 f3 g3] 111)→
 (h3.cell? (u2.add 2)=some (slice v2 x2 y2)∧True)∧
 (h3.cell? (nb c1)=some (pointer t2)∧True)∧
 (h3.cell? (nb c1)=some (pointer s2)∧True)∧
 ∃i3 j3 k3 l3,(Builtin.append_ #[109,109] 109 #[slice v2 x2 y2,slice (some (nb d3)) 1 1]).run Tryz.prog h3= .ok (slice i3 j3 k3) l3∧
 (l3.cell? (nb c1)=some (pointer s2)∧True)∧
 af s2 (fun m3=>
 (slice i3 j3 k3).oneCell'=true∧(∃u,l3.cell? (m3.add 2)=some u)∧l3.frozen? (m3.add 2)=false∧
 ∀n3,n3=(l3.setCell (m3.add 2) (slice i3 j3 k3))→
 Ar .i64 (j2+1) (fun o3=>
 i2 [int .i64 o3] n3))))))
 (∃p3,k2.cell? (nb c1)=some (pointer p3)∧
 R (tuple #[pointer p3,int .i64 0]) k2))→i2 [int .i64 j2] k2)→
 i2 [int .i64 0] e2))))→i1 [int .i64 j1] k1)→
 i1 [int .i64 0] e1))))
theorem CX (a:OA) (b:Int) (w:World) (R:RW) (hh:Qy a b w R):CR 14 #[pointer a,int .i64 b] w R:=
 az (fn:=Tryz.f14) (by kernel_rfl) (by kernel_rfl) (by kernel_rfl) (by kernel_rfl) (by kernel_rfl) hh
def QG (a:OA) (w:World) (R:RW):Prop:=
 CP 50 #[pointer a] w (fun b c=>
 ∃d,b= .returned (int .i64 d)∧
 ∀f:KW,(∀(g:Int) (h:OA) (i j:Nat) (k:World),(ac (decide (g<d))
 (∀l,l=k.alloc (.cells #[int .i64 g] 3)→
 ∃m n o p,(Builtin.append_ #[28,28] 28 #[slice h i j,slice (some (nb k)) 1 1]).run Tryz.prog l= .ok (slice m n o) p∧
 Ar .i64 (g+1) (fun q=>
 f [int .i64 q,slice m n o] p))
 (CP 56 #[pointer a] k (fun r s=>
 ∃t,r= .returned (pointer t)∧
 CP 114 #[pointer t] s (fun u x=>
 ∃y z a1,u= .returned (slice y z a1)∧
 ∀b1:KW,(∀(c1:Int) (d1:OA) (e1 f1:Nat) (g1:World),(ac (decide (c1< (z:Int)))
 (af y (fun h1=>
 (0:Int)≤c1∧c1< (z:Int)∧
 ∃i1 j1,(g1.cell? (h1.add (c1.toNat*2))=some (int .i64 i1)∧g1.cell? ((h1.add (c1.toNat*2)).add 1)=some (string j1)∧True)∧
 ∀k1,k1=g1.alloc (.cells #[int .i64 0,string ⟨#[]⟩] 87)→
 ax k1 (nb g1) (fun l1=>
 ∃m1,l1.cell? ((nb g1).add 0)=some (int .i64 m1)∧
 ∀n1,n1=l1.alloc (.cells #[int .i64 m1] 3)→
 ∃o1 p1 q1 r1,(Builtin.append_ #[28,28] 28 #[slice d1 e1 f1,slice (some (nb l1)) 1 1]).run Tryz.prog n1= .ok (slice o1 p1 q1) r1∧
 Ar .i64 (c1+1) (fun s1=>
 b1 [int .i64 s1,slice o1 p1 q1] r1)) [int .i64 i1,string j1] 0))
 (CP 115 #[slice d1 e1 f1] g1 (fun t1 u1=>
 t1= .returned (tuple #[])∧
 R (slice d1 e1 f1) u1)))→b1 [int .i64 c1,slice d1 e1 f1] g1)→
 b1 [int .i64 0,slice h i j] x))))→f [int .i64 g,slice h i j] k)→
 f [int .i64 0,slice none 0 0] c)
theorem DZ (a:OA) (w:World) (R:RW) (hh:QG a w R):CR 48 #[pointer a] w R:=
 az (fn:=Tryz.f48) (by kernel_rfl) (by kernel_rfl) (by kernel_rfl) (by kernel_rfl) (by kernel_rfl) hh
def QR (a:Int) (b:Value) (w:World) (R:RW):Prop:=
 Ar .i64 (a+64) (fun c=>
 Ar .i64 (c-1) (fun d=>
 (64:Int)≠0∧
 ∃f g h i,(Instr.makeSlice 111 (int .i64 (IntKind.wrap .i64 (Int.tdiv d 64))) (int .i64 (IntKind.wrap .i64 (Int.tdiv d 64)))).run Tryz.prog w= .ok (slice f g h) i∧
 ∀j:KW,(∀(k:Int) (l:World),(ac (decide (k<a))
 (∀m:KW,(∀n:World,(Ar .i64 (k+1) (fun o=>
 j [int .i64 o] n))→m [] n)→
 bE gJ b [int .i64 k] l (fun p q=>
 ∃r,p= .returned (bool r)∧
 ac r
 (CP 120 #[slice f g h,int .i64 k] q (fun s t=>
 s= .returned (tuple #[])∧
 m [] t))
 (m [] q)))
 (R (slice f g h) l))→j [int .i64 k] l)→
 j [int .i64 0] i))
theorem CF (a:Int) (b:Value) (w:World) (R:RW) (hh:QR a b w R):CR 58 #[int .i64 a,b] w R:=
 az (fn:=Tryz.f58) (by kernel_rfl) (by kernel_rfl) (by kernel_rfl) (by kernel_rfl) (by kernel_rfl) hh
def Qm (a:Int) (b c:OA) (w:World) (R:RW):Prop:=
 ∀d,d=w.drew→
 af b (fun f=>
 ∃g,d.cell? f=some (pointer g)∧
 af c (fun h=>
 ∃i j k,d.cell? h=some (slice i j k)∧
 af i (fun l=>
 (0:Int)≤a∧a< (j:Int)∧
 ∃m,d.cell? (l.add (a.toNat*1))=some (int .i64 m)∧
 CP 43 #[pointer g,int .i64 m] d (fun n o=>
 ∃p,n= .returned (bool p)∧
 R (bool p) o))))
theorem DE (a:Int) (b c:OA) (w:World) (R:RW) (hh:Qm a b c w R):CR 59 #[int .i64 a,pointer b,pointer c] w R:=
 az (fn:=Tryz.f59) (by kernel_rfl) (by kernel_rfl) (by kernel_rfl) (by kernel_rfl) (by kernel_rfl) hh
def Q2 (a:Int) (b c d f g:OA) (w:World) (R:RW):Prop:=
 ∀h,h=w.drew→
 af b (fun i=>
 ∃j,h.cell? i=some (pointer j)∧
 af j (fun k=>
 ∃l m n,h.cell? (k.add 3)=some (slice l m n)∧
 af c (fun o=>
 ∃p,h.cell? o=some (int .i64 p)∧
 CP 61 #[slice l m n,int .i64 p] h (fun q r=>
 ∃s,q= .returned (bool s)∧
 ac s
 (af b (fun t=>
 ∃u,r.cell? t=some (pointer u)∧
 af u (fun x=>
 ∃y z a1,r.cell? (x.add 3)=some (slice y z a1)∧
 CP 61 #[slice y z a1,int .i64 a] r (fun b1 c1=>
 ∃d1,b1= .returned (bool d1)∧
 ac d1
 (af d (fun e1=>
 ∃f1,c1.cell? e1=some (pointer f1)∧
 af f (fun g1=>
 ∃h1,c1.cell? g1=some (int .i64 h1)∧
 af g (fun i1=>
 ∃j1 k1 l1,c1.cell? i1=some (slice j1 k1 l1)∧
 af j1 (fun m1=>
 (0:Int)≤a∧a< (k1:Int)∧
 ∃n1,c1.cell? (m1.add (a.toNat*1))=some (int .i64 n1)∧
 CP 62 #[pointer f1,int .i64 h1,int .i64 n1] c1 (fun o1 p1=>
 ∃q1,o1= .returned (bool q1)∧
 R (bool q1) p1))))))
 (R (bool false) c1)))))
 (R (bool false) r)))))
theorem Eo (a:Int) (b c d f g:OA) (w:World) (R:RW) (hh:Q2 a b c d f g w R):CR 60 #[int .i64 a,pointer b,pointer c,pointer d,pointer f,pointer g] w R:=
 az (fn:=Tryz.f60) (by kernel_rfl) (by kernel_rfl) (by kernel_rfl) (by kernel_rfl) (by kernel_rfl) hh
def Px (a:OA) (b c:Nat) (d:Int) (w:World) (R:RW):Prop:=
 (64:Int)≠0∧
 af a (fun f=>
 (0:Int)≤(IntKind.wrap .i64 (Int.tdiv d 64))∧(IntKind.wrap .i64 (Int.tdiv d 64)) < (b:Int)∧
 ∃g,w.cell? (f.add ((IntKind.wrap .i64 (Int.tdiv d 64):Int).toNat*1))=some (int .u64 g)∧
 (64:Int)≠0∧
 (0:Int)≤(Int.tmod d 64)∧
 R (bool ((IntKind.wrap .u64 ((BitVec.ofInt (IntKind.bits .u64) (Int.fdiv g (2^(min (Int.tmod d 64:Int).toNat (IntKind.bits .u64))))&&&BitVec.ofInt (IntKind.bits .u64) 1).toNat:Int):Int)==1)) w)
theorem DQ (a:OA) (b c:Nat) (d:Int) (w:World) (R:RW) (hh:Px a b c d w R):CR 61 #[slice a b c,int .i64 d] w R:=
 az (fn:=Tryz.f61) (by kernel_rfl) (by kernel_rfl) (by kernel_rfl) (by kernel_rfl) (by kernel_rfl) hh
def QI (a:OA) (b c:Int) (w:World) (R:RW):Prop:=
 CP 43 #[pointer a,int .i64 b] w (fun d f=>
 ∃g,d= .returned (bool g)∧
 ac g
 (CP 43 #[pointer a,int .i64 c] f (fun h i=>
 ∃j,h= .returned (bool j)∧
 ac j
 (CP 121 #[pointer a,int .i64 b,int .i64 c] i (fun k l=>
 ∃m,k= .returned (bool m)∧
 R (bool m) l))
 (R (bool false) i)))
 (R (bool false) f))
theorem C_ (a:OA) (b c:Int) (w:World) (R:RW) (hh:QI a b c w R):CR 62 #[pointer a,int .i64 b,int .i64 c] w R:=
 az (fn:=Tryz.f62) (by kernel_rfl) (by kernel_rfl) (by kernel_rfl) (by kernel_rfl) (by kernel_rfl) hh
def Rc (a:OA) (w:World) (R:RW):Prop:=
 ac (Option.isNone a)
 (R (int .i64 0) w)
 (af a (fun b=>
 ∃c d f,w.cell? (b.add 0)=some (slice c d f)∧
 R (int .i64 (d:Int)) w))
theorem DX (a:OA) (w:World) (R:RW) (hh:Rc a w R):CR 63 #[pointer a] w R:=
 az (fn:=Tryz.f63) (by kernel_rfl) (by kernel_rfl) (by kernel_rfl) (by kernel_rfl) (by kernel_rfl) hh
def QZ (a:OA) (b:Int) (w:World) (R:RW):Prop:=
 ac (decide (b<0))
 (R (tuple #[int .i64 0,bool false]) w)
 (CP 63 #[pointer a] w (fun c d=>
 ∃f,c= .returned (int .i64 f)∧
 ac (decide (b≥f))
 (R (tuple #[int .i64 0,bool false]) d)
 (af a (fun g=>
 ∃h i j,d.cell? (g.add 0)=some (slice h i j)∧
 af h (fun k=>
 (0:Int)≤b∧b< (i:Int)∧
 ∃l,d.cell? (k.add (b.toNat*1))=some (int .i64 l)∧
 R (tuple #[int .i64 l,bool true]) d)))))
theorem Db (a:OA) (b:Int) (w:World) (R:RW) (hh:QZ a b w R):CR 65 #[pointer a,int .i64 b] w R:=
 az (fn:=Tryz.f65) (by kernel_rfl) (by kernel_rfl) (by kernel_rfl) (by kernel_rfl) (by kernel_rfl) hh
def QP (a:OA) (b:Int) (w:World) (R:RW):Prop:=
 CP 122 #[pointer a,int .i64 b] w (fun c d=>
 ∃f g,c= .returned (tuple #[int .i64 f,bool g])∧
 ac g
 (af a (fun h=>
 ∃i j k,d.cell? (h.add 3)=some (slice i j k)∧
 CP 61 #[slice i j k,int .i64 f] d (fun l m=>
 ∃n,l= .returned (bool n)∧
 R (bool n) m)))
 (R (bool false) d))
theorem EB (a:OA) (b:Int) (w:World) (R:RW) (hh:QP a b w R):CR 68 #[pointer a,int .i64 b] w R:=
 az (fn:=Tryz.f68) (by kernel_rfl) (by kernel_rfl) (by kernel_rfl) (by kernel_rfl) (by kernel_rfl) hh
def Q9 (a:OA) (b:Int) (w:World) (R:RW):Prop:=
 CP 122 #[pointer a,int .i64 b] w (fun c d=>
 ∃f g,c= .returned (tuple #[int .i64 f,bool g])∧
 ac (!g)
 (R (slice none 0 0) d)
 (af a (fun h=>
 ∃i j k,d.cell? (h.add 2)=some (slice i j k)∧
 af i (fun l=>
 (0:Int)≤f∧f< (j:Int)∧
 ∃m n o,d.cell? (l.add (f.toNat*1))=some (slice m n o)∧
 CP 123 #[slice m n o] d (fun p q=>
 ∃r s t,p= .returned (slice r s t)∧
 R (slice r s t) q)))))
theorem D3 (a:OA) (b:Int) (w:World) (R:RW) (hh:Q9 a b w R):CR 69 #[pointer a,int .i64 b] w R:=
 az (fn:=Tryz.f69) (by kernel_rfl) (by kernel_rfl) (by kernel_rfl) (by kernel_rfl) (by kernel_rfl) hh
def Oq (a:OA) (w:World) (R:RW):Prop:=
 ac (Option.isNone a)
 (R (slice none 0 0) w)
 (af a (fun b=>
 ∃c d f,w.cell? (b.add 0)=some (slice c d f)∧
 CP 144 #[slice c d f] w (fun g h=>
 ∃i j k,g= .returned (slice i j k)∧
 R (slice i j k) h)))
theorem zF (a:OA) (w:World) (R:RW) (hh:Oq a w R):CR 114 #[pointer a] w R:=
 az (fn:=Tryz.f114) (by kernel_rfl) (by kernel_rfl) (by kernel_rfl) (by kernel_rfl) (by kernel_rfl) hh
def LC (a:OA) (b c:Nat) (w:World) (R:RW):Prop:=
 CP 170 #[int .u64 (IntKind.wrap .u64 (b:Int))] w (fun d f=>
 ∃g,d= .returned (int .i64 g)∧
 CP 169 #[slice a b c,int .i64 0,int .i64 (b:Int),int .i64 g] f (fun h i=>
 h= .returned (tuple #[])∧
 R (tuple #[]) i))
theorem Bc (a:OA) (b c:Nat) (w:World) (R:RW) (hh:LC a b c w R):CR 115 #[slice a b c] w R:=
 az (fn:=Tryz.f115) (by kernel_rfl) (by kernel_rfl) (by kernel_rfl) (by kernel_rfl) (by kernel_rfl) hh
def MZ (a:OA) (b c:Nat) (d:Int) (w:World) (R:RW):Prop:=
 ∀f,f=w.drew→
 (64:Int)≠0∧
 af a (fun g=>
 (0:Int)≤(IntKind.wrap .i64 (Int.tdiv d 64))∧(IntKind.wrap .i64 (Int.tdiv d 64)) < (b:Int)∧
 ∃h,f.cell? (g.add ((IntKind.wrap .i64 (Int.tdiv d 64):Int).toNat*1))=some (int .u64 h)∧
 (64:Int)≠0∧
 (0:Int)≤(Int.tmod d 64)∧
 af a (fun i=>
 (0:Int)≤(IntKind.wrap .i64 (Int.tdiv d 64))∧(IntKind.wrap .i64 (Int.tdiv d 64)) < (b:Int)∧
 (int .u64 (IntKind.wrap .u64 ((BitVec.ofInt (IntKind.bits .u64) h|||BitVec.ofInt (IntKind.bits .u64) (IntKind.wrap .u64 ((1:Int)*2^(min (Int.tmod d 64:Int).toNat (IntKind.bits .u64))))).toNat:Int))).oneCell'=true∧(∃u,f.cell? (i.add ((IntKind.wrap .i64 (Int.tdiv d 64):Int).toNat*1))=some u)∧f.frozen? (i.add ((IntKind.wrap .i64 (Int.tdiv d 64):Int).toNat*1))=false∧
 ∀j,j=(f.setCell (i.add ((IntKind.wrap .i64 (Int.tdiv d 64):Int).toNat*1)) (int .u64 (IntKind.wrap .u64 ((BitVec.ofInt (IntKind.bits .u64) h|||BitVec.ofInt (IntKind.bits .u64) (IntKind.wrap .u64 ((1:Int)*2^(min (Int.tmod d 64:Int).toNat (IntKind.bits .u64))))).toNat:Int))))→
 R (tuple #[]) j))
theorem Aq (a:OA) (b c:Nat) (d:Int) (w:World) (R:RW) (hh:MZ a b c d w R):CR 120 #[slice a b c,int .i64 d] w R:=
 az (fn:=Tryz.f120) (by kernel_rfl) (by kernel_rfl) (by kernel_rfl) (by kernel_rfl) (by kernel_rfl) hh
def NF (a:OA) (b:Int) (w:World) (R:RW):Prop:=
 ac (Option.isNone a)
 (R (tuple #[int .i64 0,bool false]) w)
 (af a (fun c=>
 ∃d,w.cell? (c.add 1)=some (map d)∧
 ∃f g h,(Instr.lookup 108 (map d) (int .i64 b) true).run Tryz.prog w= .ok (tuple #[int .i64 f,bool g]) h∧
 R (tuple #[int .i64 f,bool g]) h))
theorem BD (a:OA) (b:Int) (w:World) (R:RW) (hh:NF a b w R):CR 122 #[pointer a,int .i64 b] w R:=
 az (fn:=Tryz.f122) (by kernel_rfl) (by kernel_rfl) (by kernel_rfl) (by kernel_rfl) (by kernel_rfl) hh
def Ni (a:OA) (b c:Nat) (w:World) (R:RW):Prop:=
 ac (Option.isNone a)
 (R (slice none 0 0) w)
 (∀d,d=w.alloc (.cells #[] 138)→
 ∃f g h i,(Builtin.append_ #[111,111] 111 #[slice (some (nb w)) 0 0,slice a b c]).run Tryz.prog d= .ok (slice f g h) i∧
 R (slice f g h) i)
theorem yF (a:OA) (b c:Nat) (w:World) (R:RW) (hh:Ni a b c w R):CR 123 #[slice a b c] w R:=
 az (fn:=Tryz.f123) (by kernel_rfl) (by kernel_rfl) (by kernel_rfl) (by kernel_rfl) (by kernel_rfl) hh
def NV (a:OA) (b c:Nat) (d f g:Int) (w:World) (R:RW):Prop:=
 ∀h:KW,(∀(i j:Bool) (k l m:Int) (n:World),(∀o:KW,(∀(p q:Bool) (r s t:Int) (u:World),(h [bool p,bool q,int .i64 r,int .i64 s,int .i64 t] u)→o [bool p,bool q,int .i64 r,int .i64 s,int .i64 t] u)→
 Ar .i64 (l-k) (fun x=>
 ac (decide (x≤12))
 (CP 213 #[slice a b c,int .i64 k,int .i64 l] n (fun y z=>
 y= .returned (tuple #[])∧
 R (tuple #[]) z))
 (ac (m==0)
 (CP 214 #[slice a b c,int .i64 k,int .i64 l] n (fun a1 b1=>
 a1= .returned (tuple #[])∧
 R (tuple #[]) b1))
 (∀c1:KW,(∀(d1:Int) (e1:World),(CP 216 #[slice a b c,int .i64 k,int .i64 l] e1 (fun f1 g1=>
 ∃h1 i1,f1= .returned (tuple #[int .i64 h1,int .i64 i1])∧
 ∀j1:KW,(∀(k1 l1:Int) (m1:World),(∀n1:KW,(∀o1:World,(∀p1,p1=o1.drew→
 ac (decide (k>0))
 (Ar .i64 (k-1) (fun q1=>
 af a (fun r1=>
 (0:Int)≤q1∧q1< (b:Int)∧
 ∃s1,p1.cell? (r1.add (q1.toNat*1))=some (int .i64 s1)∧
 af a (fun t1=>
 (0:Int)≤l1∧l1< (b:Int)∧
 ∃u1,p1.cell? (t1.add (l1.toNat*1))=some (int .i64 u1)∧
 CP 219 #[int .i64 s1,int .i64 u1] p1 (fun v1 x1=>
 ∃y1,v1= .returned (bool y1)∧
 ac (!y1)
 (CP 220 #[slice a b c,int .i64 k,int .i64 l,int .i64 l1] x1 (fun z1 a2=>
 ∃b2,z1= .returned (int .i64 b2)∧
 o [bool i,bool j,int .i64 b2,int .i64 l,int .i64 d1] a2))
 (CP 221 #[slice a b c,int .i64 k,int .i64 l,int .i64 l1] x1 (fun c2 d2=>
 ∃e2 f2,c2= .returned (tuple #[int .i64 e2,bool f2])∧
 Ar .i64 (e2-k) (fun g2=>
 Ar .i64 (l-e2) (fun h2=>
 (8:Int)≠0∧
 ac (decide (g2<h2))
 (CP 169 #[slice a b c,int .i64 k,int .i64 e2,int .i64 d1] d2 (fun i2 j2=>
 i2= .returned (tuple #[])∧
 Ar .i64 (e2+1) (fun k2=>
 o [bool f2,bool (decide (g2≥(IntKind.wrap .i64 (Int.tdiv x 8)))),int .i64 k2,int .i64 l,int .i64 d1] j2)))
 (Ar .i64 (e2+1) (fun l2=>
 CP 169 #[slice a b c,int .i64 l2,int .i64 l,int .i64 d1] d2 (fun m2 n2=>
 m2= .returned (tuple #[])∧
 o [bool f2,bool (decide (h2≥(IntKind.wrap .i64 (Int.tdiv x 8)))),int .i64 k,int .i64 e2,int .i64 d1] n2))))))))))))
 (CP 221 #[slice a b c,int .i64 k,int .i64 l,int .i64 l1] p1 (fun o2 p2=>
 ∃q2 r2,o2= .returned (tuple #[int .i64 q2,bool r2])∧
 Ar .i64 (q2-k) (fun s2=>
 Ar .i64 (l-q2) (fun t2=>
 (8:Int)≠0∧
 ac (decide (s2<t2))
 (CP 169 #[slice a b c,int .i64 k,int .i64 q2,int .i64 d1] p2 (fun u2 v2=>
 u2= .returned (tuple #[])∧
 Ar .i64 (q2+1) (fun x2=>
 o [bool r2,bool (decide (s2≥(IntKind.wrap .i64 (Int.tdiv x 8)))),int .i64 x2,int .i64 l,int .i64 d1] v2)))
 (Ar .i64 (q2+1) (fun y2=>
 CP 169 #[slice a b c,int .i64 y2,int .i64 l,int .i64 d1] p2 (fun z2 a3=>
 z2= .returned (tuple #[])∧
 o [bool r2,bool (decide (t2≥(IntKind.wrap .i64 (Int.tdiv x 8)))),int .i64 k,int .i64 q2,int .i64 d1] a3))))))))→n1 [] o1)→
 ac j
 (ac i
 (ac (k1==1)
 (CP 218 #[slice a b c,int .i64 k,int .i64 l] m1 (fun b3 c3=>
 ∃d3,b3= .returned (bool d3)∧
 ac d3
 (R (tuple #[]) c3)
 (n1 [] c3)))
 (n1 [] m1))
 (n1 [] m1))
 (n1 [] m1))→j1 [int .i64 k1,int .i64 l1] m1)→
 ac (i1==2)
 (CP 217 #[slice a b c,int .i64 k,int .i64 l] g1 (fun e3 f3=>
 e3= .returned (tuple #[])∧
 Ar .i64 (l-1) (fun g3=>
 Ar .i64 (h1-k) (fun h3=>
 Ar .i64 (g3-h3) (fun i3=>
 j1 [int .i64 1,int .i64 i3] f3)))))
 (j1 [int .i64 i1,int .i64 h1] g1)))→c1 [int .i64 d1] e1)→
 ac (!j)
 (CP 215 #[slice a b c,int .i64 k,int .i64 l] n (fun j3 k3=>
 j3= .returned (tuple #[])∧
 Ar .i64 (m-1) (fun l3=>
 c1 [int .i64 l3] k3)))
 (c1 [int .i64 m] n)))))→h [bool i,bool j,int .i64 k,int .i64 l,int .i64 m] n)→
 h [bool true,bool true,int .i64 d,int .i64 f,int .i64 g] w
theorem zL (a:OA) (b c:Nat) (d f g:Int) (w:World) (R:RW) (hh:NV a b c d f g w R):CR 169 #[slice a b c,int .i64 d,int .i64 f,int .i64 g] w R:=
 az (fn:=Tryz.f169) (by kernel_rfl) (by kernel_rfl) (by kernel_rfl) (by kernel_rfl) (by kernel_rfl) hh
def N_ (a:Int) (w:World) (R:RW):Prop:=
 CP 223 #[int .u64 a] w (fun b c=>
 ∃d,b= .returned (int .i64 d)∧
 R (int .i64 d) c)
theorem wV (a:Int) (w:World) (R:RW) (hh:N_ a w R):CR 170 #[int .u64 a] w R:=
 az (fn:=Tryz.f170) (by kernel_rfl) (by kernel_rfl) (by kernel_rfl) (by kernel_rfl) (by kernel_rfl) hh
def Pp (a:OA) (b c:Nat) (d f:Int) (w:World) (R:RW):Prop:=
 Ar .i64 (f-d) (fun g=>
 ∀h,h=w.alloc (.cells #[int .i64 0] 3)→
 (4:Int)≠0∧
 Ar .i64 ((IntKind.wrap .i64 (Int.tdiv g 4):Int)*1) (fun i=>
 Ar .i64 (d+i) (fun j=>
 (4:Int)≠0∧
 Ar .i64 ((IntKind.wrap .i64 (Int.tdiv g 4):Int)*2) (fun k=>
 Ar .i64 (d+k) (fun l=>
 (4:Int)≠0∧
 Ar .i64 ((IntKind.wrap .i64 (Int.tdiv g 4):Int)*3) (fun m=>
 Ar .i64 (d+m) (fun n=>
 ∀o:KW,(∀(p q r:Int) (s:World),(∃t,s.cell? (nb w)=some (int .i64 t)∧
 ac (t==0)
 (R (tuple #[int .i64 q,int .i64 1]) s)
 (ac (t==12)
 (R (tuple #[int .i64 q,int .i64 2]) s)
 (R (tuple #[int .i64 q,int .i64 0]) s)))→o [int .i64 p,int .i64 q,int .i64 r] s)→
 ac (decide (g≥8))
 (∀u:KW,(∀(x y z:Int) (a1:World),(CP 258 #[slice a b c,int .i64 z,int .i64 y,int .i64 x,pointer (some (nb w))] a1 (fun b1 c1=>
 ∃d1,b1= .returned (int .i64 d1)∧
 o [int .i64 x,int .i64 d1,int .i64 z] c1))→u [int .i64 x,int .i64 y,int .i64 z] a1)→
 ac (decide (g≥50))
 (CP 257 #[slice a b c,int .i64 j,pointer (some (nb w))] h (fun e1 f1=>
 ∃g1,e1= .returned (int .i64 g1)∧
 CP 257 #[slice a b c,int .i64 l,pointer (some (nb w))] f1 (fun h1 i1=>
 ∃j1,h1= .returned (int .i64 j1)∧
 CP 257 #[slice a b c,int .i64 n,pointer (some (nb w))] i1 (fun k1 l1=>
 ∃m1,k1= .returned (int .i64 m1)∧
 u [int .i64 m1,int .i64 j1,int .i64 g1] l1))))
 (u [int .i64 n,int .i64 l,int .i64 j] h))
 (o [int .i64 n,int .i64 l,int .i64 j] h))))))))
theorem yd (a:OA) (b c:Nat) (d f:Int) (w:World) (R:RW) (hh:Pp a b c d f w R):CR 216 #[slice a b c,int .i64 d,int .i64 f] w R:=
 az (fn:=Tryz.f216) (by kernel_rfl) (by kernel_rfl) (by kernel_rfl) (by kernel_rfl) (by kernel_rfl) hh
def Np (a:OA) (b c:Nat) (d f:Int) (w:World) (R:RW):Prop:=
 Ar .i64 (d+1) (fun g=>
 ∀h:KW,(∀(i j:Int) (k:Bool) (l:World),(ac (decide (i<5))
 (∀m:KW,(∀(n:Int) (o:Bool) (p:World),(Ar .i64 (i+1) (fun q=>
 h [int .i64 q,int .i64 n,bool o] p))→m [int .i64 n,bool o] p)→
 ∀r:KW,(∀(s:Int) (t:World),(∀x,x=t.drew→
 ac (decide (s<f))
 (af a (fun y=>
 (0:Int)≤s∧s< (b:Int)∧
 ∃z,x.cell? (y.add (s.toNat*1))=some (int .i64 z)∧
 Ar .i64 (s-1) (fun a1=>
 af a (fun b1=>
 (0:Int)≤a1∧a1< (b:Int)∧
 ∃c1,x.cell? (b1.add (a1.toNat*1))=some (int .i64 c1)∧
 CP 219 #[int .i64 z,int .i64 c1] x (fun d1 e1=>
 ∃f1,d1= .returned (bool f1)∧
 ac (!f1)
 (Ar .i64 (s+1) (fun g1=>
 r [int .i64 g1] e1))
 (ac (s==f)
 (R (bool true) e1)
 (Ar .i64 (f-d) (fun h1=>
 ac (decide (h1<50))
 (R (bool false) e1)
 (∀i1,i1=e1.drew→
 Ar .i64 (s-1) (fun j1=>
 Ar .i64 (s-1) (fun k1=>
 af a (fun l1=>
 (0:Int)≤k1∧k1< (b:Int)∧
 ∃m1,i1.cell? (l1.add (k1.toNat*1))=some (int .i64 m1)∧
 af a (fun n1=>
 (0:Int)≤s∧s< (b:Int)∧
 ∃o1,i1.cell? (n1.add (s.toNat*1))=some (int .i64 o1)∧
 af a (fun p1=>
 (0:Int)≤s∧s< (b:Int)∧
 (int .i64 m1).oneCell'=true∧(∃u,i1.cell? (p1.add (s.toNat*1))=some u)∧i1.frozen? (p1.add (s.toNat*1))=false∧
 ∀q1,q1=(i1.setCell (p1.add (s.toNat*1)) (int .i64 m1))→
 af a (fun r1=>
 (0:Int)≤j1∧j1< (b:Int)∧
 (int .i64 o1).oneCell'=true∧(∃u,q1.cell? (r1.add (j1.toNat*1))=some u)∧q1.frozen? (r1.add (j1.toNat*1))=false∧
 ∀s1,s1=(q1.setCell (r1.add (j1.toNat*1)) (int .i64 o1))→
 ∀t1:KW,(∀u1:World,(Ar .i64 (f-s) (fun v1=>
 ac (decide (v1≥2))
 (Ar .i64 (s+1) (fun x1=>
 ∀y1:KW,(∀(z1:Int) (a2:World),(m [int .i64 s,bool k] a2)→y1 [int .i64 z1] a2)→
 ∀b2:KW,(∀(c2:Int) (d2:World),(ac (decide (c2<f))
 (∀e2,e2=d2.drew→
 af a (fun f2=>
 (0:Int)≤c2∧c2< (b:Int)∧
 ∃g2,e2.cell? (f2.add (c2.toNat*1))=some (int .i64 g2)∧
 Ar .i64 (c2-1) (fun h2=>
 af a (fun i2=>
 (0:Int)≤h2∧h2< (b:Int)∧
 ∃j2,e2.cell? (i2.add (h2.toNat*1))=some (int .i64 j2)∧
 CP 219 #[int .i64 g2,int .i64 j2] e2 (fun k2 l2=>
 ∃m2,k2= .returned (bool m2)∧
 ac (!m2)
 (y1 [int .i64 c2] l2)
 (∀n2,n2=l2.drew→
 Ar .i64 (c2-1) (fun o2=>
 Ar .i64 (c2-1) (fun p2=>
 af a (fun q2=>
 (0:Int)≤p2∧p2< (b:Int)∧
 ∃r2,n2.cell? (q2.add (p2.toNat*1))=some (int .i64 r2)∧
 af a (fun s2=>
 (0:Int)≤c2∧c2< (b:Int)∧
 ∃t2,n2.cell? (s2.add (c2.toNat*1))=some (int .i64 t2)∧
 af a (fun u2=>
 (0:Int)≤c2∧c2< (b:Int)∧
 (int .i64 r2).oneCell'=true∧(∃u,n2.cell? (u2.add (c2.toNat*1))=some u)∧n2.frozen? (u2.add (c2.toNat*1))=false∧
 ∀v2,v2=(n2.setCell (u2.add (c2.toNat*1)) (int .i64 r2))→
 af a (fun x2=>
 (0:Int)≤o2∧o2< (b:Int)∧
 (int .i64 t2).oneCell'=true∧(∃u,v2.cell? (x2.add (o2.toNat*1))=some u)∧v2.frozen? (x2.add (o2.toNat*1))=false∧
 ∀y2,y2=(v2.setCell (x2.add (o2.toNat*1)) (int .i64 t2))→
 Ar .i64 (c2+1) (fun z2=>
 b2 [int .i64 z2] y2)))))))))))))
 (y1 [int .i64 c2] d2))→b2 [int .i64 c2] d2)→
 b2 [int .i64 x1] u1))
 (m [int .i64 s,bool k] u1)))→t1 [] u1)→
 Ar .i64 (s-d) (fun a3=>
 ac (decide (a3≥2))
 (Ar .i64 (s-1) (fun b3=>
 ∀c3:KW,(∀(d3:Int) (e3:World),(t1 [] e3)→c3 [int .i64 d3] e3)→
 ∀f3:KW,(∀(g3:Int) (h3:World),(ac (decide (g3≥1))
 (∀i3,i3=h3.drew→
 af a (fun j3=>
 (0:Int)≤g3∧g3< (b:Int)∧
 ∃k3,i3.cell? (j3.add (g3.toNat*1))=some (int .i64 k3)∧
 Ar .i64 (g3-1) (fun l3=>
 af a (fun m3=>
 (0:Int)≤l3∧l3< (b:Int)∧
 ∃n3,i3.cell? (m3.add (l3.toNat*1))=some (int .i64 n3)∧
 CP 219 #[int .i64 k3,int .i64 n3] i3 (fun o3 p3=>
 ∃q3,o3= .returned (bool q3)∧
 ac (!q3)
 (c3 [int .i64 g3] p3)
 (∀r3,r3=p3.drew→
 Ar .i64 (g3-1) (fun s3=>
 Ar .i64 (g3-1) (fun t3=>
 af a (fun u3=>
 (0:Int)≤t3∧t3< (b:Int)∧
 ∃v3,r3.cell? (u3.add (t3.toNat*1))=some (int .i64 v3)∧
 af a (fun x3=>
 (0:Int)≤g3∧g3< (b:Int)∧
 ∃y3,r3.cell? (x3.add (g3.toNat*1))=some (int .i64 y3)∧
 af a (fun z3=>
 (0:Int)≤g3∧g3< (b:Int)∧
 (int .i64 v3).oneCell'=true∧(∃u,r3.cell? (z3.add (g3.toNat*1))=some u)∧r3.frozen? (z3.add (g3.toNat*1))=false∧
 ∀a4,a4=(r3.setCell (z3.add (g3.toNat*1)) (int .i64 v3))→
 af a (fun b4=>
 (0:Int)≤s3∧s3< (b:Int)∧
 (int .i64 y3).oneCell'=true∧(∃u,a4.cell? (b4.add (s3.toNat*1))=some u)∧a4.frozen? (b4.add (s3.toNat*1))=false∧
 ∀c4,c4=(a4.setCell (b4.add (s3.toNat*1)) (int .i64 y3))→
 Ar .i64 (g3-1) (fun d4=>
 f3 [int .i64 d4] c4)))))))))))))
 (c3 [int .i64 g3] h3))→f3 [int .i64 g3] h3)→
 f3 [int .i64 b3] s1))
 (t1 [] s1)))))))))))))))))
 (ac (s==f)
 (R (bool true) x)
 (Ar .i64 (f-d) (fun e4=>
 ac (decide (e4<50))
 (R (bool false) x)
 (∀f4,f4=x.drew→
 Ar .i64 (s-1) (fun g4=>
 Ar .i64 (s-1) (fun h4=>
 af a (fun i4=>
 (0:Int)≤h4∧h4< (b:Int)∧
 ∃j4,f4.cell? (i4.add (h4.toNat*1))=some (int .i64 j4)∧
 af a (fun k4=>
 (0:Int)≤s∧s< (b:Int)∧
 ∃l4,f4.cell? (k4.add (s.toNat*1))=some (int .i64 l4)∧
 af a (fun m4=>
 (0:Int)≤s∧s< (b:Int)∧
 (int .i64 j4).oneCell'=true∧(∃u,f4.cell? (m4.add (s.toNat*1))=some u)∧f4.frozen? (m4.add (s.toNat*1))=false∧
 ∀n4,n4=(f4.setCell (m4.add (s.toNat*1)) (int .i64 j4))→
 af a (fun o4=>
 (0:Int)≤g4∧g4< (b:Int)∧
 (int .i64 l4).oneCell'=true∧(∃u,n4.cell? (o4.add (g4.toNat*1))=some u)∧n4.frozen? (o4.add (g4.toNat*1))=false∧
 ∀p4,p4=(n4.setCell (o4.add (g4.toNat*1)) (int .i64 l4))→
 ∀q4:KW,(∀r4:World,(Ar .i64 (f-s) (fun s4=>
 ac (decide (s4≥2))
 (Ar .i64 (s+1) (fun t4=>
 ∀u4:KW,(∀(v4:Int) (x4:World),(m [int .i64 s,bool k] x4)→u4 [int .i64 v4] x4)→
 ∀y4:KW,(∀(z4:Int) (a5:World),(ac (decide (z4<f))
 (∀b5,b5=a5.drew→
 af a (fun c5=>
 (0:Int)≤z4∧z4< (b:Int)∧
 ∃d5,b5.cell? (c5.add (z4.toNat*1))=some (int .i64 d5)∧
 Ar .i64 (z4-1) (fun e5=>
 af a (fun f5=>
 (0:Int)≤e5∧e5< (b:Int)∧
 ∃g5,b5.cell? (f5.add (e5.toNat*1))=some (int .i64 g5)∧
 CP 219 #[int .i64 d5,int .i64 g5] b5 (fun h5 i5=>
 ∃j5,h5= .returned (bool j5)∧
 ac (!j5)
 (u4 [int .i64 z4] i5)
 (∀k5,k5=i5.drew→
 Ar .i64 (z4-1) (fun l5=>
 Ar .i64 (z4-1) (fun m5=>
 af a (fun n5=>
 (0:Int)≤m5∧m5< (b:Int)∧
 ∃o5,k5.cell? (n5.add (m5.toNat*1))=some (int .i64 o5)∧
 af a (fun p5=>
 (0:Int)≤z4∧z4< (b:Int)∧
 ∃q5,k5.cell? (p5.add (z4.toNat*1))=some (int .i64 q5)∧
 af a (fun r5=>
 (0:Int)≤z4∧z4< (b:Int)∧
 (int .i64 o5).oneCell'=true∧(∃u,k5.cell? (r5.add (z4.toNat*1))=some u)∧k5.frozen? (r5.add (z4.toNat*1))=false∧
 ∀s5,s5=(k5.setCell (r5.add (z4.toNat*1)) (int .i64 o5))→
 af a (fun t5=>
 (0:Int)≤l5∧l5< (b:Int)∧
 (int .i64 q5).oneCell'=true∧(∃u,s5.cell? (t5.add (l5.toNat*1))=some u)∧s5.frozen? (t5.add (l5.toNat*1))=false∧
 ∀u5,u5=(s5.setCell (t5.add (l5.toNat*1)) (int .i64 q5))→
 Ar .i64 (z4+1) (fun v5=>
 y4 [int .i64 v5] u5)))))))))))))
 (u4 [int .i64 z4] a5))→y4 [int .i64 z4] a5)→
 y4 [int .i64 t4] r4))
 (m [int .i64 s,bool k] r4)))→q4 [] r4)→
 Ar .i64 (s-d) (fun x5=>
 ac (decide (x5≥2))
 (Ar .i64 (s-1) (fun y5=>
 ∀z5:KW,(∀(a6:Int) (b6:World),(q4 [] b6)→z5 [int .i64 a6] b6)→
 ∀c6:KW,(∀(d6:Int) (e6:World),(ac (decide (d6≥1))
 (∀f6,f6=e6.drew→
 af a (fun g6=>
 (0:Int)≤d6∧d6< (b:Int)∧
 ∃h6,f6.cell? (g6.add (d6.toNat*1))=some (int .i64 h6)∧
 Ar .i64 (d6-1) (fun i6=>
 af a (fun j6=>
 (0:Int)≤i6∧i6< (b:Int)∧
 ∃k6,f6.cell? (j6.add (i6.toNat*1))=some (int .i64 k6)∧
 CP 219 #[int .i64 h6,int .i64 k6] f6 (fun l6 m6=>
 ∃n6,l6= .returned (bool n6)∧
 ac (!n6)
 (z5 [int .i64 d6] m6)
 (∀o6,o6=m6.drew→
 Ar .i64 (d6-1) (fun p6=>
 Ar .i64 (d6-1) (fun q6=>
 af a (fun r6=>
 (0:Int)≤q6∧q6< (b:Int)∧
 ∃s6,o6.cell? (r6.add (q6.toNat*1))=some (int .i64 s6)∧
 af a (fun t6=>
 (0:Int)≤d6∧d6< (b:Int)∧
 ∃u6,o6.cell? (t6.add (d6.toNat*1))=some (int .i64 u6)∧
 af a (fun v6=>
 (0:Int)≤d6∧d6< (b:Int)∧
 (int .i64 s6).oneCell'=true∧(∃u,o6.cell? (v6.add (d6.toNat*1))=some u)∧o6.frozen? (v6.add (d6.toNat*1))=false∧
 ∀x6,x6=(o6.setCell (v6.add (d6.toNat*1)) (int .i64 s6))→
 af a (fun y6=>
 (0:Int)≤p6∧p6< (b:Int)∧
 (int .i64 u6).oneCell'=true∧(∃u,x6.cell? (y6.add (p6.toNat*1))=some u)∧x6.frozen? (y6.add (p6.toNat*1))=false∧
 ∀z6,z6=(x6.setCell (y6.add (p6.toNat*1)) (int .i64 u6))→
 Ar .i64 (d6-1) (fun a7=>
 c6 [int .i64 a7] z6)))))))))))))
 (z5 [int .i64 d6] e6))→c6 [int .i64 d6] e6)→
 c6 [int .i64 y5] p4))
 (q4 [] p4)))))))))))))→r [int .i64 s] t)→
 r [int .i64 j] l)
 (R (bool false) l))→h [int .i64 i,int .i64 j,bool k] l)→
 h [int .i64 0,int .i64 g,bool false] w)
theorem zJ (a:OA) (b c:Nat) (d f:Int) (w:World) (R:RW) (hh:Np a b c d f w R):CR 218 #[slice a b c,int .i64 d,int .i64 f] w R:=
 az (fn:=Tryz.f218) (by kernel_rfl) (by kernel_rfl) (by kernel_rfl) (by kernel_rfl) (by kernel_rfl) hh
def O_ (a b:Int) (w:World) (R:RW):Prop:=
 CP 259 #[int .i64 a] w (fun c d=>
 ∃f,c= .returned (bool f)∧
 ac f
 (CP 259 #[int .i64 b] d (fun g h=>
 ∃i,g= .returned (bool i)∧
 ac (!i)
 (R (bool true) h)
 (R (bool (decide (a<b))) h)))
 (R (bool (decide (a<b))) d))
theorem xW (a b:Int) (w:World) (R:RW) (hh:O_ a b w R):CR 219 #[int .i64 a,int .i64 b] w R:=
 az (fn:=Tryz.f219) (by kernel_rfl) (by kernel_rfl) (by kernel_rfl) (by kernel_rfl) (by kernel_rfl) hh
def Nr (a:Int) (w:World) (R:RW):Prop:=
 ∀b:KW,(∀(c d:Int) (f:World),(∀g:KW,(∀(h i:Int) (j:World),(∀k:KW,(∀(l m:Int) (n:World),((0:Int)≤(IntKind.wrap .u8 m)∧(IntKind.wrap .u8 m) < ((⟨#[0,1,2,2,3,3,3,3,4,4,4,4,4,4,4,4,5,5,5,5,5,5,5,5,5,5,5,5,5,5,5,5,6,6,6,6,6,6,6,6,6,6,6,6,6,6,6,6,6,6,6,6,6,6,6,6,6,6,6,6,6,6,6,6,7,7,7,7,7,7,7,7,7,7,7,7,7,7,7,7,7,7,7,7,7,7,7,7,7,7,7,7,7,7,7,7,7,7,7,7,7,7,7,7,7,7,7,7,7,7,7,7,7,7,7,7,7,7,7,7,7,7,7,7,7,7,7,7,8,8,8,8,8,8,8,8,8,8,8,8,8,8,8,8,8,8,8,8,8,8,8,8,8,8,8,8,8,8,8,8,8,8,8,8,8,8,8,8,8,8,8,8,8,8,8,8,8,8,8,8,8,8,8,8,8,8,8,8,8,8,8,8,8,8,8,8,8,8,8,8,8,8,8,8,8,8,8,8,8,8,8,8,8,8,8,8,8,8,8,8,8,8,8,8,8,8,8,8,8,8,8,8,8,8,8,8,8,8,8,8,8,8,8,8,8,8,8,8,8,8,8,8,8,8,8,8]⟩:ByteArray).size:Int)∧
 Ar .i64 (l+(IntKind.wrap .i64 (eu ⟨#[0,1,2,2,3,3,3,3,4,4,4,4,4,4,4,4,5,5,5,5,5,5,5,5,5,5,5,5,5,5,5,5,6,6,6,6,6,6,6,6,6,6,6,6,6,6,6,6,6,6,6,6,6,6,6,6,6,6,6,6,6,6,6,6,7,7,7,7,7,7,7,7,7,7,7,7,7,7,7,7,7,7,7,7,7,7,7,7,7,7,7,7,7,7,7,7,7,7,7,7,7,7,7,7,7,7,7,7,7,7,7,7,7,7,7,7,7,7,7,7,7,7,7,7,7,7,7,7,8,8,8,8,8,8,8,8,8,8,8,8,8,8,8,8,8,8,8,8,8,8,8,8,8,8,8,8,8,8,8,8,8,8,8,8,8,8,8,8,8,8,8,8,8,8,8,8,8,8,8,8,8,8,8,8,8,8,8,8,8,8,8,8,8,8,8,8,8,8,8,8,8,8,8,8,8,8,8,8,8,8,8,8,8,8,8,8,8,8,8,8,8,8,8,8,8,8,8,8,8,8,8,8,8,8,8,8,8,8,8,8,8,8,8,8,8,8,8,8,8,8,8,8,8,8,8,8]⟩ (IntKind.wrap .u8 m)))) (fun o=>
 R (int .i64 o) n))→k [int .i64 l,int .u64 m] n)→
 ac (decide (i≥256))
 ((0:Int)≤8∧
 Ar .i64 (h+8) (fun p=>
 k [int .i64 p,int .u64 (Int.fdiv i (2^(min (8:Int).toNat (IntKind.bits .u64))))] j))
 (k [int .i64 h,int .u64 i] j))→g [int .i64 h,int .u64 i] j)→
 ac (decide (d≥65536))
 ((0:Int)≤16∧
 Ar .i64 (c+16) (fun q=>
 g [int .i64 q,int .u64 (Int.fdiv d (2^(min (16:Int).toNat (IntKind.bits .u64))))] f))
 (g [int .i64 c,int .u64 d] f))→b [int .i64 c,int .u64 d] f)→
 ac (decide (a≥4294967296))
 ((0:Int)≤32∧
 b [int .i64 32,int .u64 (Int.fdiv a (2^(min (32:Int).toNat (IntKind.bits .u64))))] w)
 (b [int .i64 0,int .u64 a] w)
theorem yQ (a:Int) (w:World) (R:RW) (hh:Nr a w R):CR 223 #[int .u64 a] w R:=
 az (fn:=Tryz.f223) (by kernel_rfl) (by kernel_rfl) (by kernel_rfl) (by kernel_rfl) (by kernel_rfl) hh
def Oz (a:OA) (b c:Nat) (d:Int) (f:OA) (w:World) (R:RW):Prop:=
 Ar .i64 (d-1) (fun g=>
 Ar .i64 (d+1) (fun h=>
 CP 258 #[slice a b c,int .i64 g,int .i64 d,int .i64 h,pointer f] w (fun i j=>
 ∃k,i= .returned (int .i64 k)∧
 R (int .i64 k) j)))
theorem xc (a:OA) (b c:Nat) (d:Int) (f:OA) (w:World) (R:RW) (hh:Oz a b c d f w R):CR 257 #[slice a b c,int .i64 d,pointer f] w R:=
 az (fn:=Tryz.f257) (by kernel_rfl) (by kernel_rfl) (by kernel_rfl) (by kernel_rfl) (by kernel_rfl) hh
def N4 (a:OA) (b c:Nat) (d f g:Int) (h:OA) (w:World) (R:RW):Prop:=
 CP 284 #[slice a b c,int .i64 d,int .i64 f,pointer h] w (fun i j=>
 ∃k l,i= .returned (tuple #[int .i64 k,int .i64 l])∧
 CP 284 #[slice a b c,int .i64 l,int .i64 g,pointer h] j (fun m n=>
 ∃o p,m= .returned (tuple #[int .i64 o,int .i64 p])∧
 CP 284 #[slice a b c,int .i64 k,int .i64 o,pointer h] n (fun q r=>
 ∃s t,q= .returned (tuple #[int .i64 s,int .i64 t])∧
 R (int .i64 t) r)))
theorem Az (a:OA) (b c:Nat) (d f g:Int) (h:OA) (w:World) (R:RW) (hh:N4 a b c d f g h w R):CR 258 #[slice a b c,int .i64 d,int .i64 f,int .i64 g,pointer h] w R:=
 az (fn:=Tryz.f258) (by kernel_rfl) (by kernel_rfl) (by kernel_rfl) (by kernel_rfl) (by kernel_rfl) hh
def Nj (a:Int) (w:World) (R:RW):Prop:=
 R (bool (a != a)) w
theorem xp (a:Int) (w:World) (R:RW) (hh:Nj a w R):CR 259 #[int .i64 a] w R:=
 az (fn:=Tryz.f259) (by kernel_rfl) (by kernel_rfl) (by kernel_rfl) (by kernel_rfl) (by kernel_rfl) hh
def NT (a:OA) (b c:Nat) (d f:Int) (g:OA) (w:World) (R:RW):Prop:=
 ∀h,h=w.drew→
 af a (fun i=>
 (0:Int)≤f∧f< (b:Int)∧
 ∃j,h.cell? (i.add (f.toNat*1))=some (int .i64 j)∧
 af a (fun k=>
 (0:Int)≤d∧d< (b:Int)∧
 ∃l,h.cell? (k.add (d.toNat*1))=some (int .i64 l)∧
 CP 219 #[int .i64 j,int .i64 l] h (fun m n=>
 ∃o,m= .returned (bool o)∧
 ac o
 (af g (fun p=>
 ∃q,n.cell? p=some (int .i64 q)∧
 Ar .i64 (q+1) (fun r=>
 af g (fun s=>
 (int .i64 r).oneCell'=true∧(∃u,n.cell? s=some u)∧n.frozen? s=false∧
 ∀t,t=(n.setCell s (int .i64 r))→
 R (tuple #[int .i64 f,int .i64 d]) t))))
 (R (tuple #[int .i64 d,int .i64 f]) n))))
theorem Br (a:OA) (b c:Nat) (d f:Int) (g:OA) (w:World) (R:RW) (hh:NT a b c d f g w R):CR 284 #[slice a b c,int .i64 d,int .i64 f,pointer g] w R:=
 az (fn:=Tryz.f284) (by kernel_rfl) (by kernel_rfl) (by kernel_rfl) (by kernel_rfl) (by kernel_rfl) hh
theorem De (n:Int) (w:World):CP 259 #[.int .i64 n] w fun e w'=>e= .returned (.bool false)∧w'=w:=by
 refine aN (xp n w) ?_;exact⟨by simp,rfl⟩
theorem uR (x y:Int) (w:World):CP 219 #[.int .i64 x,.int .i64 y] w fun e w'=>e= .returned (.bool (decide (x<y)))∧w'=w:=by
 refine aN (xW x y w) ?_;refine(De x w).mono ?_;rintro e w1 ⟨rfl,hw⟩;subst hw;exact⟨_,rfl,ac.no rfl ⟨rfl,rfl⟩⟩
def mO (l:List Int):Prop:=∀(i j:Nat) (hi:i<l.length) (hj:j<l.length),i<j→l[i] <l[j]
section
variable {A:Option Addr} {C:Nat} {l:List Int}
theorem k_ (hs:mO l) (w:World) (hr:Rw ay 1 w A l) (i j:Nat) (hij:i<j) (hj:j<l.length) (p:Option Addr):
  CP 284 #[.slice A l.length C,.int .i64 (i:Int),.int .i64 (j:Int),.pointer p] w fun e w'=>e= .returned (.tuple #[.int .i64 (i:Int),.int .i64 (j:Int)])∧Below w.heap.size w w':=by
 refine aN (Br A l.length C i j p w) ?_;intro w1 hw1;have b1:Below w.heap.size w w1:=by subst hw1;exact aO w
 obtain⟨q,hq,c1⟩:=bQ (hr.on b1) hj rfl;obtain⟨q',hq',c0⟩:=bQ (hr.on b1) (show i<l.length by omega) rfl;refine af.mk q hq ⟨by omega,by omega,_,c1,af.mk q' hq' ⟨by omega,by omega,_,c0,?_⟩⟩;refine(uR _ _ w1).mono ?_;rintro e w2 ⟨rfl,hw⟩;subst hw;exact⟨_,rfl,ac.no (decide_eq_false (by have:=hs i j (by omega) hj hij;omega)) ⟨rfl,b1⟩⟩
theorem pW (hs:mO l) (hl:l.length≤1000000) (w:World) (hr:Rw ay 1 w A l) (i j k:Nat) (hij:i<j) (hjk:j<k) (hk:k<l.length) (p:Option Addr):
  CP 258 #[.slice A l.length C,.int .i64 (i:Int),.int .i64 (j:Int),.int .i64 (k:Int),.pointer p] w fun e w'=>e= .returned (.int .i64 (j:Int))∧Below w.heap.size w w':=by
 refine aN (Az A l.length C i j k p w) ?_;refine(k_ hs w hr i j hij (by omega) p).mono ?_;rintro e w1 ⟨rfl,b1⟩;refine⟨_,_,rfl,?_⟩;refine(k_ hs w1 (hr.on b1) j k hjk hk p).mono ?_;rintro e w2 ⟨rfl,b2⟩;refine⟨_,_,rfl,?_⟩;have b12:=ae b1 b2;refine(k_ hs w2 (hr.on b12) i j hij (by omega) p).mono ?_;rintro e w3 ⟨rfl,b3⟩;exact⟨_,_,rfl,rfl,ae b12 b3⟩
theorem iC (hs:mO l) (hl:l.length≤1000000) (w:World) (hr:Rw ay 1 w A l) (j:Nat) (h0:0<j) (hj:j+1<l.length) (p:Option Addr):
  CP 257 #[.slice A l.length C,.int .i64 (j:Int),.pointer p] w fun e w'=>e= .returned (.int .i64 (j:Int))∧Below w.heap.size w w':=by
 refine aN (xc A l.length C j p w) ?_;refine Ar.nat (j-1) (by omega) (by omega) (Ar.nat (j+1) (by omega) (by omega) ?_);refine(pW hs hl w hr (j-1) j (j+1) (by omega) (by omega) hj p).mono ?_;rintro e w1 ⟨rfl,b1⟩;exact⟨_,rfl,rfl,b1⟩
theorem D_ (hs:mO l) (hl:l.length≤1000000) (w:World) (hr:Rw ay 1 w A l) (h50:50≤l.length):
  CP 216 #[.slice A l.length C,.int .i64 0,.int .i64 (l.length:Int)] w fun e w'=>∃n:Int,e= .returned (.tuple #[.int .i64 n,.int .i64 1])∧Below w.heap.size w w':=by
 refine aN (yd A l.length C 0 l.length w) ?_;refine Ar.nat l.length (by omega) (by omega) ?_;intro w1 hw1;have b1:Below w.heap.size w w1:=by subst hw1;exact ah _ _
 have l1:w1.heap[w.heap.size]? =some (.cells #[.int .i64 0] bh (0,0)):=by subst hw1;exact ap _ _
 have hdiv:IntKind.wrap .i64 (Int.tdiv (l.length:Int) 4)=((l.length/4:Nat):Int):=by
  have:Int.tdiv (l.length:Int) 4=((l.length/4:Nat):Int):=rfl;rw [this];exact di (by show(-9223372036854775808:Int)≤_;omega) (by show _≤(9223372036854775807:Int);omega)
 rw [hdiv];refine⟨by decide,Ar.nat (l.length/4*1) (by omega) (by omega) (Ar.nat (l.length/4*1) (by omega) (by omega) ⟨by decide,Ar.nat (l.length/4*2) (by omega) (by omega) (Ar.nat (l.length/4*2) (by omega) (by omega) ⟨by decide,Ar.nat (l.length/4*3) (by omega) (by omega) (Ar.nat (l.length/4*3) (by omega) (by omega) ?_)⟩)⟩)⟩;intro J7 hJ7;refine ac.yes (decide_eq_true (by omega)) ?_;intro J9 hJ9;refine ac.yes (decide_eq_true (by omega)) ?_;refine(iC hs hl w1 (hr.on b1) (l.length/4*1) (by omega) (by omega) _).mono ?_;rintro e w2 ⟨rfl,b2⟩;have b12:=ae b1 b2;refine⟨_,rfl,(iC hs hl w2 (hr.on b12) (l.length/4*2) (by omega) (by omega) _).mono ?_⟩;rintro e w3 ⟨rfl,b3⟩;have b13:=ae b12 b3;refine⟨_,rfl,(iC hs hl w3 (hr.on b13) (l.length/4*3) (by omega) (by omega) _).mono ?_⟩;rintro e w4 ⟨rfl,b4⟩;have b14:=ae b13 b4;refine⟨_,rfl,hJ9 _ _ _ _ ((pW hs hl w4 (hr.on b14) (l.length/4*1) (l.length/4*2) (l.length/4*3) (by omega) (by omega) (by omega) _).mono ?_)⟩;rintro e w5 ⟨rfl,b5⟩;have l5:=aj b5 (aj b4 (aj b3 (aj b2 l1)));exact⟨_,rfl,hJ7 _ _ _ _ ⟨0,by rw [aZ l5];rfl,ac.yes rfl ⟨_,rfl,ae b14 b5⟩⟩⟩
theorem vj (hs:mO l) (hl:l.length≤1000000) (w:World) (hr:Rw ay 1 w A l) (h0:0<l.length):
  CP 218 #[.slice A l.length C,.int .i64 0,.int .i64 (l.length:Int)] w fun e w'=>e= .returned (.bool true)∧Below w.heap.size w w':=by
 refine aN (zJ A l.length C 0 l.length w) ?_;refine Ar.nat 1 (by omega) (by omega) ?_;intro I1 hI1;refine hI1 _ _ _ _ (ac.yes rfl ?_);intro J2 hJ2;intro I6 hI6;have key:=bj (α:=World) (l.length-1) (fun i q=>Below w.heap.size w q) (fun i q=>I6 [.int .i64 ((i+1:Nat):Int)] q) w (Below.refl _ _) ?_ ?_
 ·exact key
 ·rintro i hi ih q hB;refine hI6 _ _ ?_;intro q4 hq4;have b4:Below q.heap.size q q4:=by subst hq4;exact aO q
  have hB4:=ae hB b4;obtain⟨p,hp,c1⟩:=bQ (hr.on hB4) (show i+1<l.length by omega) rfl;obtain⟨p',hp',c0⟩:=bQ (hr.on hB4) (show i<l.length by omega) rfl;refine ac.yes (by simp;omega) (af.mk p hp ⟨by omega,by omega,_,c1,Ar.nat i (by omega) (by omega) (af.mk p' hp' ⟨by omega,by omega,_,c0,?_⟩)⟩);refine(uR _ _ q4).mono ?_;rintro e w5 ⟨rfl,hw⟩;subst hw;have:=hs i (i+1) (by omega) (by omega) (by omega);refine⟨_,rfl,ac.yes (by rw [decide_eq_false (by omega)];rfl) (Ar.nat (i+1+1) rfl (by omega) (ih w5 hB4))⟩
 ·rintro q hB;refine hI6 _ _ ?_;intro q4 hq4;have b4:Below q.heap.size q q4:=by subst hq4;exact aO q
  have e:((l.length-1+1:Nat):Int)=(l.length:Int):=by omega
  rw [e];exact ac.no (by simp) (ac.yes (by simp) ⟨rfl,ae hB b4⟩)
end
theorem Ct (n:Nat) (w:World) (h1:256≤n) (h2:n≤65535):CP 223 #[.int .u64 (n:Int)] w fun e w'=>∃k:Int,e= .returned (.int .i64 k)∧k≠0∧w'=w:=by
 refine aJ (yQ n w (fun u w'=>∃k:Int,u= .int .i64 k∧k≠0∧w'=w) ?_) (by rintro v w' ⟨k,rfl,h⟩;exact⟨k,rfl,h⟩);intro J1 hJ1;refine ac.no (decide_eq_false (by omega)) (hJ1 _ _ _ ?_);intro J3 hJ3;refine ac.no (decide_eq_false (by omega)) (hJ3 _ _ _ ?_);intro J6 hJ6;refine ac.yes (decide_eq_true (by omega)) ⟨by decide,Ar.nat 8 rfl (by omega) (hJ6 _ _ _ ?_)⟩;have e:Int.fdiv (n:Int) (2^(min (8:Int).toNat (IntKind.bits .u64)))=((n/256:Nat):Int):=by
  show Int.fdiv (n:Int) 256=_;rw [Int.fdiv_eq_ediv_of_nonneg _ (by decide)];rfl
 rw [e];have hw8:IntKind.wrap .u8 ((n/256:Nat):Int)=((n/256:Nat):Int):=di (by show(0:Int)≤_;omega) (by show _≤(255:Int);omega);rw [hw8];refine⟨by omega,by show((n/256:Nat):Int) <256;omega,?_⟩;have hb:∀s:ByteArray,0≤eu s ((n/256:Nat):Int)∧eu s ((n/256:Nat):Int)≤255:=by
  intro s;unfold eu;cases s.data[((n/256:Nat):Int).toNat]? with
  |none=>simp
  |some b=>
   have:=b.toNat_lt;simp only [Option.map_some,Option.getD_some];omega
 have aux:∀s:ByteArray,Ar .i64 (((8:Nat):Int)+IntKind.wrap .i64 (eu s ((n/256:Nat):Int))) (fun n_9=>∃k:Int,Value.int .i64 n_9= .int .i64 k∧k≠0∧w=w):=by
  intro s;have:=hb s;rw [di (z:=eu s ((n/256:Nat):Int)) (by show(-9223372036854775808:Int)≤_;omega) (by show _≤(9223372036854775807:Int);omega)];exact Ar.ok64 (by omega) (by omega) ⟨_,rfl,by omega,rfl⟩
 exact aux _
theorem GD (n:Nat) (w:World) (h1:256≤n) (h2:n≤65535):CP 170 #[.int .u64 (n:Int)] w fun e w'=>∃k:Int,e= .returned (.int .i64 k)∧k≠0∧w'=w:=by
 refine aN (wV n w) ?_;refine(Ct n w h1 h2).mono ?_;rintro e w1 ⟨k,rfl,hk,hw⟩;exact⟨_,rfl,k,rfl,hk,hw⟩
theorem Ga (w:World) (A:Option Addr) (C:Nat) (l:List Int) (hr:Rw ay 1 w A l) (hs:mO l) (h1:256≤l.length) (h2:l.length≤65535):
  CP 115 #[.slice A l.length C] w fun e w'=>e= .returned (.tuple #[])∧Below w.heap.size w w':=by
 refine aN (Bc A l.length C w) ?_;have hw:IntKind.wrap .u64 (l.length:Int)=(l.length:Int):=di (by show(0:Int)≤_;omega) (by show _≤(18446744073709551615:Int);omega);unfold LC;rw [hw];refine(GD l.length w h1 h2).mono ?_;rintro e w1 ⟨k,rfl,hk,hw1⟩;subst hw1;refine⟨_,rfl,?_⟩;have pdq:CP 169 #[.slice A l.length C,.int .i64 0,.int .i64 (l.length:Int),.int .i64 k] w1 fun e w'=>e= .returned (.tuple #[])∧Below w1.heap.size w1 w':=by
  refine aN (zL A l.length C 0 l.length k w1) ?_;intro I hI;refine hI _ _ _ _ _ _ ?_;intro J5 hJ5;refine Ar.nat l.length (by omega) (by omega) (ac.no (decide_eq_false (by omega)) (ac.no (by simpa using hk) ?_));intro J11 hJ11;refine ac.no rfl (hJ11 _ _ ?_);refine(D_ hs (by omega) w1 hr (by omega)).mono ?_;rintro e w6 ⟨n,rfl,b6⟩;refine⟨_,_,rfl,?_⟩;intro J13 hJ13;refine ac.no rfl (hJ13 _ _ _ ?_);intro J14 hJ14;refine ac.yes rfl (ac.yes rfl (ac.yes rfl ?_));refine(vj hs (by omega) w6 (hr.on b6) (by omega)).mono ?_;rintro e w18 ⟨rfl,b18⟩;exact⟨_,rfl,ac.yes rfl ⟨rfl,ae b6 b18⟩⟩
 refine pdq.mono ?_;rintro e w2 ⟨rfl,b2⟩;exact⟨rfl,rfl,b2⟩
def qj (f:Nat→Bool):Nat→Nat
 |0=>0
 |m+1=>qj f m|||(if f m then 2^m else 0)
theorem dA (f:Nat→Bool):∀m j,(qj f m).testBit j=(decide (j<m)&&f j)
 |0,j=>by simp [qj]
 |m+1,j=>by
  rw [qj,Nat.testBit_or,dA f m j];by_cases h:f m=true
  ·rw [if_pos h,Nat.testBit_two_pow];by_cases e:m=j
   ·subst e;simp [h]
   ·by_cases e2:j<m
    ·simp [e,e2,show j<m+1 by omega]
    ·simp [e,e2,show ¬j<m+1 by omega]
  ·rw [if_neg h,Nat.zero_testBit];by_cases e:j=m
   ·subst e;simp [h]
   ·by_cases e2:j<m
    ·simp [e2,show j<m+1 by omega]
    ·simp [e2,show ¬j<m+1 by omega]
theorem HR (f:Nat→Bool) (m:Nat):qj f m<2^m:=by
 apply Nat.lt_pow_two_of_testBit;intro j hj;rw [dA,decide_eq_false (by omega)];rfl
theorem px {f g:Nat→Bool} {m:Nat} (h:∀j,j<m→f j=g j):qj f m=qj g m:=by
 apply Nat.eq_of_testBit_eq;intro j;rw [dA,dA];by_cases hj:j<m
 ·rw [h j hj]
 ·simp [hj]
def wordAt (n:Nat) (p:Nat→Bool) (k:Nat):Nat:=qj (fun j=>decide (64*k+j<n)&&p (64*k+j)) 64
def bo (n:Nat) (p:Nat→Bool):List Int:=(List.range ((n+63)/64)).map fun k=>((wordAt n p k:Nat):Int)
theorem cQ (n:Nat) (p:Nat→Bool):(bo n p).length=(n+63)/64:=by simp [bo]
theorem qa (n:Nat) (p:Nat→Bool) {k:Nat} (hk:k< (n+63)/64):(bo n p)[k]? =some ((wordAt n p k:Nat):Int):=by simp [bo,hk]
theorem oZ (n:Nat) (p:Nat→Bool) (k:Nat):wordAt n p k<2^64:=HR _ _
theorem qc (n:Nat) (p:Nat→Bool) {i:Nat} (hi:i<n):(wordAt n p (i/64)).testBit (i%64)=p i:=by
 rw [wordAt,dA];have h1:i%64<64:=Nat.mod_lt _ (by decide);have h2:64*(i/64)+i%64=i:=by omega
 simp [h1,h2,hi]
theorem pJ (n:Nat) (p:Nat→Bool) {i:Nat} (hi:i<n) (hp:p i=true) (k:Nat):wordAt n (fun j=>p j&&decide (j<i+1)) k=if k=i/64 then wordAt n (fun j=>p j&&decide (j<i)) k|||2^(i%64)else wordAt n (fun j=>p j&&decide (j<i)) k:=by
 apply Nat.eq_of_testBit_eq;intro j;unfold wordAt;by_cases hk:k=i/64
 ·rw [if_pos hk,Nat.testBit_or,dA,dA,Nat.testBit_two_pow];by_cases hj:j<64
  ·by_cases e:i%64=j
   ·have:64*k+j=i:=by omega
    simp [hj,e,this,hi,hp]
   ·have hne:64*k+j≠i:=by omega
    simp only [hj,e,decide_true,decide_false,Bool.true_and,Bool.or_false];congr 2;exact decide_eq_decide.2 (by omega)
  ·have:i%64≠j:=by omega
   simp [hj,this]
 ·rw [if_neg hk,dA,dA];by_cases hj:j<64
  ·have hne:64*k+j≠i:=by omega
   simp only [hj,decide_true,Bool.true_and];congr 2;exact decide_eq_decide.2 (by omega)
  ·simp [hj]
theorem xZ (n:Nat) (p:Nat→Bool) {i:Nat} (hp:p i=false) (k:Nat):wordAt n (fun j=>p j&&decide (j<i+1)) k=wordAt n (fun j=>p j&&decide (j<i)) k:=by
 unfold wordAt;apply px;intro j _;congr 1;by_cases e:64*k+j=i
 ·simp [e,hp]
 ·have h2:decide (64*k+j<i+1)=decide (64*k+j<i):=decide_eq_decide.2 ⟨fun h=>by omega,fun h=>by omega⟩;simp only [h2]
theorem v_ (n:Nat) (p:Nat→Bool) {i:Nat} (hi:i<n) (hp:p i=true):bo n (fun j=>p j&&decide (j<i+1))=(bo n (fun j=>p j&&decide (j<i))).set (i/64) (((wordAt n (fun j=>p j&&decide (j<i)) (i/64)|||2^(i%64):Nat)):Int):=by
 apply List.ext_getElem
 ·rw [List.length_set,cQ,cQ]
 ·intro k h1 h2;rw [List.getElem_set];rw [cQ]at h1;by_cases e:i/64=k
  ·rw [if_pos e];simp only [bo,List.getElem_map,List.getElem_range];rw [pJ n p hi hp,if_pos e.symm,e]
  ·rw [if_neg e];simp only [bo,List.getElem_map,List.getElem_range];rw [pJ n p hi hp,if_neg (fun h=>e h.symm)]
theorem wH (n:Nat) (p:Nat→Bool) {i:Nat} (hp:p i=false):bo n (fun j=>p j&&decide (j<i+1))=bo n (fun j=>p j&&decide (j<i)):=by
 unfold bo;apply List.map_congr_left;intro k _;rw [xZ n p hp]
theorem vI (n:Nat) (p:Nat→Bool):bo n (fun j=>p j&&decide (j<0))=List.replicate ((n+63)/64) 0:=by
 apply List.ext_getElem
 ·rw [cQ,List.length_replicate]
 ·intro k h1 h2;simp only [bo,List.getElem_map,List.getElem_range,List.getElem_replicate];have:wordAt n (fun j=>p j&&decide (j<0)) k=0:=by
   apply Nat.eq_of_testBit_eq;intro j;unfold wordAt;rw [dA];simp
  rw [this];rfl
theorem BN (n:Nat) (p:Nat→Bool):bo n (fun j=>p j&&decide (j<n))=bo n p:=by
 unfold bo;apply List.map_congr_left;intro k _;congr 1;unfold wordAt;apply px;intro j _;by_cases e:64*k+j<n<;>simp [e]
abbrev iE:TypeId:=138
abbrev qz:TypeId:=111
theorem Dy:Tryz.prog.underlying qz=some (.slice iE):=by kernel_rfl
theorem vp:(Tryz.prog.info? iE).map (fun i=>(i.zero,i.size,i.bytes))=some (some (.int .u64 0),1,8):=by kernel_rfl
def dh (n:Int):List Value:=[.int .u64 n]
theorem sH:E8 dh 1 qz iE 8:=⟨fun _=>rfl,by decide,fun x u hu=>by rw [List.mem_singleton.1 hu];rfl,Dy,_,vp,rfl⟩
theorem tX (w:World) (n:Nat) (hn:n≤1000000):(Instr.makeSlice qz (.int .i64 n) (.int .i64 n)).run Tryz.prog w= .ok (.slice (some (nb w)) n n) (w.alloc (.cells (Array.replicate n (.int .u64 0)) iE)):=by
 obtain⟨i,hi,hz,hs,hb⟩:=info_parts vp;have:=Go.run_make (P:=Tryz.prog) w qz iE i (.int .u64 0) Dy hi hz .i64 .i64 (n:Int) (n:Int) (by omega) (Int.le_refl _) (by rw [hb];omega) (by omega);rw [this];congr 3;rw [hs];apply Array.ext
 ·rw [size_madeCells];simp
 ·intro j h1 h2;simp only [madeCells,Array.getElem_map,Array.getElem_range,Array.getElem_replicate];show(#[Value.int .u64 0]:Array Value)[j%1]! =_;rw [Nat.mod_one];rfl
theorem jE {w:World} {n:Nat} {e:TypeId} (xs:List Value) (hx:xs.length=n) (hn:n≤1000000) {B:Nat} (hB:B≤w.heap.size):(w.alloc (.cells xs.toArray e)).ownsRow B e 1 (.slice (some (nb w)) n n) n xs:=by
 refine⟨by rw [hx,Nat.mul_one],.inr ⟨w.heap.size,n,xs.toArray,rfl,hB,ap _ _,Nat.le_refl _,by unfold maxLen;omega,by rw [List.size_toArray,hx,Nat.mul_one],?_⟩⟩;rw [←hx,Nat.mul_one];exact List.take_length
theorem EZ (i:Nat) (hi:i≤1000000):IntKind.wrap .i64 (Int.tdiv (i:Int) 64)=((i/64:Nat):Int):=by
 have:Int.tdiv (i:Int) 64=((i/64:Nat):Int):=rfl;rw [this];exact di (by show(-9223372036854775808:Int)≤_;omega) (by show _≤(9223372036854775807:Int);omega)
theorem GW (i:Nat):Int.tmod (i:Int) 64=((i%64:Nat):Int):=rfl
theorem jt (x:Nat) (hx:x<2^64):(BitVec.ofInt 64 (x:Int)).toNat=x:=by
 rw [BitVec.ofInt_natCast,BitVec.toNat_ofNat,Nat.mod_eq_of_lt hx]
theorem jD (x:Nat) (hx:x<2^64):IntKind.wrap .u64 (x:Int)=(x:Int):=di (by show(0:Int)≤_;omega) (by show _≤(18446744073709551615:Int);omega)
theorem EL (x m:Nat) (hx:x<2^64) (hm:m<64):((IntKind.wrap .u64 ((BitVec.ofInt (IntKind.bits .u64) (Int.fdiv (x:Int) (2^(min ((m:Nat):Int).toNat (IntKind.bits .u64))))&&&BitVec.ofInt (IntKind.bits .u64) 1).toNat:Int):Int)==1)=x.testBit m:=by
 show((IntKind.wrap .u64 ((BitVec.ofInt 64 (Int.fdiv (x:Int) (2^(min m 64)))&&&BitVec.ofInt 64 1).toNat:Int):Int)==1)=_;have h1:Int.fdiv (x:Int) (2^(min m 64))=((x/2^m:Nat):Int):=by
  rw [Nat.min_eq_left (by omega),Int.fdiv_eq_ediv_of_nonneg _ (Int.pow_nonneg (by decide))];simp
 have hd:x/2^m<2^64:=Nat.lt_of_le_of_lt (Nat.div_le_self _ _) hx;rw [h1,BitVec.toNat_and,jt _ hd];have h2:(BitVec.ofInt 64 1).toNat=1:=by decide
 rw [h2,Nat.and_one_is_mod,jD _ (by omega),Nat.testBit_eq_decide_div_mod_eq];by_cases e:x/2^m%2=1
 ·rw [e];simp
 ·have:x/2^m%2=0:=by omega
  rw [this];simp
theorem J8 (x m:Nat) (hx:x<2^64) (hm:m<64):IntKind.wrap .u64 ((BitVec.ofInt (IntKind.bits .u64) (x:Int)|||BitVec.ofInt (IntKind.bits .u64) (IntKind.wrap .u64 ((1:Int)*2^(min ((m:Nat):Int).toNat (IntKind.bits .u64))))).toNat:Int)=((x|||2^m:Nat):Int):=by
 show IntKind.wrap .u64 ((BitVec.ofInt 64 (x:Int)|||BitVec.ofInt 64 (IntKind.wrap .u64 ((1:Int)*2^(min m 64)))).toNat:Int)=_;have hp:2^m<2^64:=Nat.pow_lt_pow_right (by decide) hm;have h1:(1:Int)*2^(min m 64)=((2^m:Nat):Int):=by
  rw [Nat.min_eq_left (by omega),Int.one_mul];simp
 rw [h1,jD _ hp,BitVec.toNat_or,jt _ hx,jt _ hp];exact jD _ (Nat.or_lt_two_pow hx hp)
theorem lz (w:World) (A:Option Addr) (N C n:Nat) (p:Nat→Bool) (hr:Rw dh 1 w A (bo n p)) (hN:N=(bo n p).length) (hn:n≤100000) (i:Nat) (hi:i<n):
  CP 61 #[.slice A N C,.int .i64 (i:Int)] w fun e w'=>e= .returned (.bool (p i))∧w'=w:=by
 refine aN (DQ A N C i w) ?_;unfold Px;rw [EZ i (by omega),GW];rw [cQ]at hN;have hk:i/64< (n+63)/64:=by omega
 obtain⟨q,hq,_,hc⟩:=hr _ _ (qa n p hk);have c0:=hc 0 _ rfl;rw [au]at c0;refine⟨by decide,af.mk q hq ⟨by omega,by omega,_,c0,by decide,by omega,?_,rfl⟩⟩;rw [EL _ _ (oZ _ _ _) (Nat.mod_lt _ (by decide)),qc n p hi]
theorem AE (w:World) (B:Nat) (l:Sl) (ws:List Int) (h:w.ownsRow B iE 1 l.v l.n (ws.flatMap dh)) (i x:Nat) (hi:i≤1000000) (hk:i/64<ws.length) (hx:ws[i/64]=(x:Int)) (hlt:x<2^64):
  CP 120 #[.slice l.a l.n l.c,.int .i64 (i:Int)] w fun e w'=>e= .returned (.tuple #[])∧w'.ownsRow B iE 1 l.v l.n ((ws.set (i/64) ((x|||2^(i%64):Nat):Int)).flatMap dh)∧(∀j,l.v.ownBlock≠some j→w'.heap[j]? =w.heap[j]?)∧w'.heap.size=w.heap.size∧Below B w w':=by
 refine aN (Aq l.a l.n l.c i w) ?_;rintro w1 rfl;have h1:w.drew.ownsRow B iE 1 l.v l.n (ws.flatMap dh):=im h;have hls:=dk.of_own sH h1;have hn:=hls.n;rw [EZ i hi,GW];obtain⟨q,hq,c0⟩:=bQ hls.r hk rfl;rw [hx]at c0;refine⟨by decide,af.mk q hq ⟨by omega,by omega,_,c0,by decide,by omega,af.mk q hq ⟨by omega,by omega,?_⟩⟩⟩;rw [J8 x _ hlt (Nat.mod_lt _ (by decide))];refine uH (vA (enc:=dh) (fun _=>rfl) (by decide) (fun y u hu=>by rw [List.mem_singleton.1 hu];rfl) h1 hn hq (i/64) hk _ ?_);intro w' h' hs hz hB;exact⟨rfl,h',hs,hz,hB _ _ (Nat.le_refl _) ((Below.refl _ _).drew)⟩
theorem aW.off {w w':World} {v:Nat} {s:ak} {T:List aT} (h:aW w v s T) {B:Nat} (hb:Below B w w') (hv:v<B) {B' sz n:Nat} {e:TypeId} {u:Value} {xs:List Value} (ho:w.ownsRow B' e sz u n xs) (he:b_≠e) (hk:∀k,u.ownBlock≠some k→w'.heap[k]? =w.heap[k]?):aW w' v s T:=by
 obtain⟨w0,x,tp,bp,mp,d,l,uses,hR⟩:=h;have hlt:=hR.lt;refine⟨w0,x,tp,bp,mp,d,l,uses,hR.parts,hR.below.trans (hb.mono (by omega)),hlt,by rw [hb.block v hv];exact hR.blk,?_⟩;rcases hR.once with h |⟨h1,h2,h3⟩
 ·exact .inl h
 ·exact .inr ⟨h1,h2,aU h3 fun k hk3=>hk k (cn h3 ho he k hk3)⟩
theorem aW.own_touch {w w':World} {v:Nat} {s:ak} {T:List aT} (h:aW w v s T) (t:aC v w w') {B sz n:Nat} {e:TypeId} {u:Value} {xs:List Value} (ho:w.ownsRow B e sz u n xs) (he:e≠dH):w'.ownsRow B e sz u n xs:=by
 obtain⟨w0,x,tp,bp,mp,d,l,uses,hR⟩:=h;exact t.own ho (aE ho hR.blk he)
theorem aC.then_off {v B:Nat} {a b c:World} (t:aC v a b) (hb:Below B b c) (hB:a.heap.size≤B):aC v a c:=
 ⟨hb.os.trans t.os,hb.tape.trans t.tape,hb.output.trans t.output,Nat.le_trans t.size hb.size,fun k hk hv=>(hb.block k (Nat.lt_of_lt_of_le hk hB)).trans (t.block k hk hv)⟩
theorem uM (w:World) (n:Nat) (is:Value) (p:Nat→Bool) (v:Nat) (s:ak) (T:List aT) (hV:aW w v s T) (hn:n≤100000)
  (his:∀i,i<n→∀w1,aW w1 v s T→aC v w w1→bE gJ is [.int .i64 (i:Int)] w1 (fun e w2=>e= .returned (.bool (p i))∧aW w2 v s T∧aC v w1 w2)):
  CP 58 #[.int .i64 (n:Int),is] w fun e w'=>∃l:Sl,e= .returned l.v∧w'.ownsRow w.heap.size iE 1 l.v l.n ((bo n p).flatMap dh)∧aW w' v s T∧aC v w w':=by
 refine aN (CF n is w) ?_;have hvl:=hV.lt;refine Ar.nat (n+64) (by omega) (by omega) (Ar.nat (n+63) (by omega) (by omega) ⟨by decide,?_⟩);rw [EZ (n+63) (by omega)];obtain⟨m,hm⟩:∃m,m=(n+63)/64:=⟨_,rfl⟩;rw [←hm];refine⟨_,_,_,_,tX w m (by omega),?_⟩;have ho:(w.alloc (.cells (Array.replicate m (.int .u64 0)) iE)).ownsRow w.heap.size iE 1 (.slice (some (nb w)) m m) m ((bo n (fun j=>p j&&decide (j<0))).flatMap dh):=by
  have:=jE (w:=w) (e:=iE) (n:=m) (List.replicate m (Value.int .u64 0)) (by simp) (by omega) (Nat.le_refl w.heap.size);rw [vI, ←hm];have e:(List.replicate m (0:Int)).flatMap dh=List.replicate m (Value.int .u64 0):=by
   clear this hm;induction m with
   |zero=>rfl
   |succ m ih=>rw [List.replicate_succ,List.flatMap_cons,ih,List.replicate_succ];rfl
  rw [e];simpa using this
 have b1:=ah w (.cells (Array.replicate m (.int .u64 0)) iE);intro I hI;have key:=bj (α:=World) n (fun i q=>q.ownsRow w.heap.size iE 1 (.slice (some (nb w)) m m) m ((bo n (fun j=>p j&&decide (j<i))).flatMap dh)∧aW q v s T∧aC v w q) (fun i q=>I [.int .i64 (i:Int)] q) _ ⟨ho,hV.on b1,aC.of_below b1⟩ ?_ ?_
 ·exact key
 ·rintro i hi ih q ⟨hown,hVq,tq⟩;refine hI _ _ (ac.yes (by simp;omega) ?_);intro J hJ;have hJ':∀q',(q'.ownsRow w.heap.size iE 1 (.slice (some (nb w)) m m) m ((bo n (fun j=>p j&&decide (j<i+1))).flatMap dh)∧aW q' v s T∧aC v w q')→J [] q':=fun q' h=>hJ _ (Ar.nat (i+1) rfl (by omega) (ih q' h));refine(his i hi q hVq tq).mono ?_;rintro e w4 ⟨rfl,hV4,t4⟩;have ho4:=hVq.own_touch t4 hown (by decide);have tw4:=tq.trans t4;refine⟨_,rfl,ac.mk (fun hp=>?_) fun hp=>hJ' w4 ⟨by rw [wH n p hp];exact ho4,hV4,tw4⟩⟩;have hk:i/64< (bo n (fun j=>p j&&decide (j<i))).length:=by rw [cQ];omega
  refine(AE w4 w.heap.size ⟨some (nb w),m,m⟩ _ ho4 i (wordAt n (fun j=>p j&&decide (j<i)) (i/64)) (by omega) hk (by simp [bo]) (oZ _ _ _)).mono ?_;rintro e w5 ⟨rfl,ho5,hs5,hz5,b5⟩;refine⟨rfl,hJ' w5 ⟨?_,hV4.off b5 hvl ho4 (by decide) hs5,tw4.then_off b5 (Nat.le_refl _)⟩⟩;rw [v_ n p hi hp];exact ho5
 ·rintro q ⟨hown,hVq,tq⟩;rw [BN]at hown;exact hI _ _ (ac.no (by simp) ⟨⟨some (nb w),m,m⟩,rfl,hown,hVq,tq⟩)
def bU (s:ak) (T:List aT):List Int:=(List.range T.length).map (fun i:Nat=>(i:Int))++s.specials.map (·.1)
theorem gE (s:ak) (T:List aT):(bU s T).length=T.length+s.specials.length:=by simp [bU]
theorem FQ {l:List Int} (h:l.Pairwise (·< ·)):mO l:=fun i j hi hj hij=>List.pairwise_iff_getElem.1 h i j hi hj hij
theorem lf {s:ak} {T:List aT} (hasc:(s.specials.map (·.1)).Pairwise (·< ·)) (hids:∀y∈s.specials,(T.length:Int)≤y.1):(bU s T).Pairwise (·< ·):=by
 rw [bU,List.pairwise_append];refine⟨?_,hasc,?_⟩
 ·rw [List.pairwise_map];exact List.pairwise_lt_range.imp (by intro a b h;omega)
 ·intro a ha b hb;obtain⟨i,hi,rfl⟩:=List.mem_map.1 ha;obtain⟨y,hy,rfl⟩:=List.mem_map.1 hb;have:=hids y hy;have:=List.mem_range.1 hi;omega
theorem n_ (s:ak) (T:List aT) (t:Int):t∈bU s T↔cY s T t=true:=by
 unfold bU cY;rw [List.mem_append,decide_eq_true_eq,Or.comm];refine or_congr Iff.rfl ?_;rw [List.mem_map];constructor
 ·rintro⟨i,hi,rfl⟩;have:=List.mem_range.1 hi;exact⟨by omega,by omega⟩
 ·rintro⟨h1,h2⟩;exact⟨t.toNat,List.mem_range.2 (by omega),by omega⟩
theorem vT (w:World) (p:Nat) (xs:List (Int×Bs)) (h:nw w p xs) (hl:xs.length≤1000000):CP 114 #[.pointer (some ⟨p,0,none⟩)] w fun e w'=>∃l:Sl,e= .returned l.v∧l.n=xs.length∧w'.ownsRow w.heap.size nr 2 l.v l.n (xs.flatMap aD)∧Below w.heap.size w w':=by
 refine aN (zF (some ⟨p,0,none⟩) w) ?_;obtain⟨l,mi,mt,c,h1,h2,h3,h4,_,_⟩:=h;obtain⟨la,ln,lc⟩:=l;change ln=xs.length at h3;subst h3;refine ac.no rfl (af.mk _ rfl ⟨la,_,lc,by rw [ai _ _ h1];exact h2.c0,?_⟩);refine(pV w la lc xs h4 (by omega)).mono ?_;rintro e w1 ⟨l,rfl,hn,ho,hb⟩;exact⟨_,_,_,rfl,l,rfl,hn,ho,hb⟩
theorem Aj (w:World) (v:Nat) (s:ak) (T:List aT) (hV:aW w v s T) (hasc:(s.specials.map (·.1)).Pairwise (·< ·)):
  CP 48 #[.pointer (some ⟨v,0,none⟩)] w fun e w'=>∃l:Sl,e= .returned l.v∧w'.ownsRow w.heap.size bh 1 l.v l.n ((bU s T).flatMap ay)∧Below w.heap.size w w':=by
 refine aN (DZ (some ⟨v,0,none⟩) w) ?_;obtain⟨w0,x,tp,bp,mp,d,l,uses,hR⟩:=hV;have hP:=hR.now;have hmost:=hP.ok.most;have hlen:=hP.ok.len;have hfew:=(dc hP.right).2.2.1;have hmx:s.specials.length≤32:=by
  have:=(cP hP.right).2.2.2.1;exact fX this
 refine(ka hR.vblk hP.tab).mono ?_;rintro e w1 ⟨rfl,hw⟩;subst hw;refine⟨_,rfl,?_⟩;intro I hI;have key:=bj (α:=Sl×World) T.length (fun i y=>y.2.ownsRow w1.heap.size bh 1 y.1.v y.1.n (((List.range i).map (fun i:Nat=>(i:Int))).flatMap ay)∧y.1.n=i∧Below w1.heap.size w1 y.2) (fun i y=>I [.int .i64 (i:Int),y.1.v] y.2) (dZ,w1) ⟨cX _ _ _ _ ay,rfl,Below.refl _ _⟩ ?_ ?_
 ·exact key
 ·rintro i hi ih ⟨f,q⟩ ⟨hown,hn,hB⟩;change q.ownsRow w1.heap.size bh 1 f.v f.n _ at hown;change f.n=i at hn;change Below w1.heap.size w1 q at hB;refine hI _ f.a f.n f.c q (ac.yes (by simp;omega) ?_);intro w3 hw3;obtain⟨f',w4,g1,g2,g3,g4,_⟩:=eL.push hown (i:Int) hw3 rfl hB.size (by omega) (by decide);refine⟨f'.a,f'.n,f'.c,w4,g2,Ar.nat (i+1) rfl (by omega) (ih (f',w4) ⟨?_,by show f'.n=i+1;omega,g4 _ hB⟩)⟩;rw [List.range_succ,List.map_append];exact g3
 ·rintro⟨f,q⟩ ⟨hown,hn,hB⟩;change q.ownsRow w1.heap.size bh 1 f.v f.n _ at hown;change f.n=T.length at hn;change Below w1.heap.size w1 q at hB;refine hI _ f.a f.n f.c q (ac.no (by simp) ?_);refine(eV (hR.vblk.on hB)).mono ?_;rintro e w5 ⟨rfl,hw⟩;subst hw;refine⟨_,rfl,?_⟩;refine(vT w5 mp s.specials (hP.on hB).marks hfew).mono ?_;rintro e w6 ⟨a,rfl,han,hao,b6⟩;refine⟨a.a,a.n,a.c,rfl,?_⟩;have hB6:=ae hB b6;intro I2 hI2;have key2:=bj (α:=Sl×World) s.specials.length (fun i y=>y.2.ownsRow w1.heap.size bh 1 y.1.v y.1.n (((List.range T.length).map (fun i:Nat=>(i:Int))++(s.specials.take i).map (·.1)).flatMap ay)∧y.1.n=T.length+i∧y.2.ownsRow w1.heap.size nr 2 a.v a.n (s.specials.flatMap aD)∧Below w1.heap.size w1 y.2) (fun i y=>I2 [.int .i64 (i:Int),y.1.v] y.2) (f,w6) ⟨by simpa using aF hown b6,by show f.n=T.length+0;omega,aX hao hB.size,hB6⟩ ?_ ?_
  ·exact key2
  ·rintro i hi ih ⟨g,z⟩ ⟨hg,hgn,hza,hBz⟩;change z.ownsRow w1.heap.size bh 1 g.v g.n _ at hg;change g.n=T.length+i at hgn;change z.ownsRow w1.heap.size nr 2 a.v a.n _ at hza;change Below w1.heap.size w1 z at hBz;obtain⟨p,hp,_,hc⟩:=(dk.of_own eH hza).r i _ (List.getElem?_eq_getElem hi);have c0:=hc 0 _ rfl;rw [au]at c0;refine hI2 _ g.a g.n g.c z (ac.yes (by simp;omega) (af.mk p hp ⟨by omega,by omega,_,_,⟨c0,hc 1 _ rfl,trivial⟩,?_⟩));intro w8 hw8;refine aS [.int .i64 0,.string ⟨#[]⟩] [.int .i64 s.specials[i].1,.string (str s.specials[i].2)] rfl (dO _ _) w8 hw8 ?_;intro w9 h9 hz9 b9;refine⟨_,ai _ _ h9 0,?_⟩;intro w10 hw10;have hB9:=ae hBz b9;obtain⟨g',w11,e1,e2,e3,e4,e5⟩:=eL.push (aF hg b9) s.specials[i].1 hw10 rfl hB9.size (by omega) (by decide);have hza9:=aF hza b9;refine⟨g'.a,g'.n,g'.c,w11,e2,Ar.nat (i+1) rfl (by omega) (ih (g',w11) ⟨?_,by show g'.n=T.length+(i+1);omega,aU hza9 fun k hk=>e5 k (cB hza9 k hk).2 (cn hza9 (aF hg b9) (by decide) k hk),e4 _ hB9⟩)⟩;rw [List.take_add_one,List.getElem?_eq_getElem hi,List.map_append, ←List.append_assoc];exact e3
  ·rintro⟨g,z⟩ ⟨hg,hgn,hza,hBz⟩;change z.ownsRow w1.heap.size bh 1 g.v g.n _ at hg;change g.n=T.length+s.specials.length at hgn;change Below w1.heap.size w1 z at hBz;rw [List.take_length]at hg;have hgl:g.n=(bU s T).length:=by rw [gE,hgn]
   have hgg:z.ownsRow w1.heap.size bh 1 g.v g.n ((bU s T).flatMap ay):=hg;refine hI2 _ g.a g.n g.c z (ac.no (by simp;omega) ?_);have hrow:=(dk.of_own eL hgg).r;have hrise:=FQ (lf hasc hP.ids);have hsort:CP 115 #[.slice g.a g.n g.c] z fun e w'=>e= .returned (.tuple #[])∧Below z.heap.size z w':=by
    rw [hgl];exact Ga z g.a g.c _ hrow hrise (by rw [gE];omega) (by rw [gE];omega)
   refine hsort.mono ?_;rintro e w12 ⟨rfl,b12⟩;exact⟨rfl,g,rfl,aF hgg b12,ae hBz b12⟩
end Go.Proofs.YtijbcdiffjjefaaGreatDoor.Eng
