/- Some right spec: the reference's vocabularies of a statement, walked by the engine. -/
import Derived.Test.YtdlcfegnaphclaaGreatZlRa
import Derived.Test.YtdlcfegnaphclaaGreatZlTab
import Derived.Test.YtdlcfegnaphclaaGreatZlSp
import Derived.RangeFuncFrom
import Derived.RangeFuncCalls
import Derived.RangeFuncLeaves
import Derived.RangeFuncBox
import Derived.Shelf.Abstract
import Derived.Shelf.RegionOpen
import Derived.OwnWalkIn
import Derived.TacticsInMore
import Derived.LoopNIn
import Derived.LoopIn
import Derived.Maps.RangeRun
import Derived.Lib.SliceRun
set_option linter.unusedVariables false
set_option linter.unusedSimpArgs false
set_option maxRecDepth 100000
namespace Go.Proofs.YtdlcfegnaphclaaGreat.Eng
open Go Go.RowKit
abbrev EY:TypeId:=25
abbrev Kq:TypeId:=23
abbrev Kk:TypeId:=24
theorem dJ:Bn aI 2 EY mD 24:=⟨fun _=>rfl,by decide,fun x=>eI _ _,sK,_,xQ,rfl⟩
theorem Bn.pushAt {α:Type} {enc:α→List Value} {sz bytes:Nat} {t e:TypeId} (E:Bn enc sz t e bytes) {B:Nat} {w:World} {s:Sl} {xs:List α} (hown:w.ownsRow B e sz s.v s.n (xs.flatMap enc)) (x:α) {b:Nat} {T:TypeId} {fz:Nat×Nat} (hx:w.heap[b]? =some (.cells (enc x).toArray T fz)) (hB:B≤w.heap.size) (hn:s.n≤1000000000) (hb:bytes≤1000):
  ∃(l:Sl) (w4:World),l.n=s.n+1∧(Builtin.append_ #[t,t] t #[.slice s.a s.n s.c,.slice (some ⟨b,0,none⟩) 1 1]).run Tryz.prog w= .ok (.slice l.a l.n l.c) w4∧w4.ownsRow B e sz l.v l.n ((xs++ [x]).flatMap enc)∧(∀w0,Below B w0 w→Below B w0 w4)∧(∀k,k<w.heap.size→s.v.ownBlock≠some k→w4.heap[k]? =w.heap[k]?):=by
 obtain⟨z,hi,hzs⟩:=E.hz;have hmul:(s.n+1)*bytes≤(1000000000+1)*1000:=Nat.mul_le_mul (by omega) hb;obtain⟨A,C,w4,h1,h2,h3,h4⟩:=kV (enc:=enc) (sz:=sz) E.hsz E.h0 E.h1 t e E.ht hi hzs hown x hx hB (by omega) (by omega);exact⟨⟨A,s.n+1,C⟩,w4,rfl,h1,h2,h3,h4⟩
theorem Rw.cut {α:Type} {enc:α→List Value} {sz:Nat} {w:World} {a:Option Addr} {xs:List α} (h:Rw enc sz w a xs) (i m:Nat) (hm:xs.length≤m):Rw enc sz w (bW a i m sz) (xs.drop i):=by
 intro j x hj;rw [List.getElem?_drop]at hj;have hlt:=(List.getElem?_eq_some_iff.1 hj).1;obtain⟨p,rfl,hp,hc⟩:=h _ _ hj;unfold bW;rw [if_neg (by omega)];refine⟨p.add (i*sz),rfl,by rw [ax];exact hp,fun k v hk=>?_⟩;rw [Addr.add_add p, ←Nat.add_mul];exact hc k v hk
theorem Rw.take {α:Type} {enc:α→List Value} {sz:Nat} {w:World} {a:Option Addr} {xs:List α} (h:Rw enc sz w a xs) (n:Nat):Rw enc sz w a (xs.take n):=by
 intro j x hj;rw [List.getElem?_take]at hj;split at hj
 ·exact h j x hj
 ·cases hj
theorem oJ:∀(xs ys:List (Int×Bs)) (i:Nat),bC ys i xs=none→∀x∈xs,bd x=true
 | [],_,_,_,x,hx=>by cases hx
 |y::xs,ys,i,h,x,hx=>by
  rw [bC]at h;split at h
  ·rename_i h0;rcases List.mem_cons.1 hx with rfl |hx
   ·cases hs:bd x with
    |true=>rfl
    |false=>rw [cj,if_pos hs]at h0;cases h0
   ·exact oJ xs _ _ h x hx
  ·cases h
structure fp (w4 q:World) (m:Sl) (sp cl jn:Sl) (xs:List (Int×Bs)) (cls:List (Int×Int×Int)) (js:List (Int×Int)):Prop where
 blk:q.heap[w4.heap.size]? =some (.cells #[.bool false,m.v,cT.v,sp.v,cl.v,jn.v] cS (0,0))
 o1:q.ownsRow w4.heap.size mD 2 sp.v sp.n (xs.flatMap aI)
 o2:q.ownsRow w4.heap.size EW 3 cl.v cl.n (cls.flatMap cz)
 o3:q.ownsRow w4.heap.size G0 2 jn.v jn.n (js.flatMap bj)
 cok:cls.all aT=true
 jok:js.all ce=true
 mrk:bC [] 0 xs=none
 xid:∀y∈xs,1000≤y.1∧y.1<1006
 asc:(xs.map (·.1)).Pairwise (·< ·)
 l1:xs.length≤6
 l2:cls.length≤8
 l3:js.length≤8
 B:Below w4.heap.size w4 q
theorem fp.on {w4 q q':World} {m sp cl jn:Sl} {xs:List (Int×Bs)} {cls:List (Int×Int×Int)} {js:List (Int×Int)} (h:fp w4 q m sp cl jn xs cls js) (hb:Below q.heap.size q q'):fp w4 q' m sp cl jn xs cls js:=
 ⟨aj hb h.blk,aJ h.o1 hb,aJ h.o2 hb,aJ h.o3 hb,h.cok,h.jok,h.mrk,h.xid,h.asc,h.l1,h.l2,h.l3,h.B.trans (hb.mono h.B.size)⟩
def rr (es:List aP) (xs:List (Int×Bs)) (cls:List (Int×Int×Int)) (js:List (Int×Int)):aq:={merges:=ak es,specials:=xs,classes:=cls,joins:=js}
theorem some_right {es:List aP} (h:eA es) {xs:List (Int×Bs)} {cls:List (Int×Int×Int)} {js:List (Int×Int)} (cok:cls.all aT=true) (jok:js.all ce=true) (mk:bC [] 0 xs=none) (l1:xs.length≤6) (l2:cls.length≤8) (l3:js.length≤8):(rr es xs cls js).right=true:=by
 have hm:=h.most;have hml:=bS h;have e1:bT (ak es) 744 dY=true:=by
  rw [bT,decide_eq_true (by omega),Bool.true_and,List.all_eq_true];intro m hm;obtain⟨k,hk⟩:=List.getElem?_of_mem hm;have hkl:=(List.getElem?_eq_some_iff.1 hk).1;obtain⟨h1,h2⟩:=dL h hk;exact decide_eq_true (by omega)
 have e2:bT xs 32 bd=true:=by
  rw [bT,decide_eq_true (by omega),Bool.true_and,List.all_eq_true];exact oJ xs [] 0 mk
 have e3:bT cls 64 aT=true:=by rw [bT,decide_eq_true (by omega),cok];rfl
 have e4:bT js 64 ce=true:=by rw [bT,decide_eq_true (by omega),jok];rfl
 show(((((true&&bT (ak es) 744 dY)&&bT ([]:List Bs) 744 fe)&&bT xs 32 bd)&&bT cls 64 aT)&&bT js 64 ce)=true;rw [e1,e2,e3,e4];rfl
theorem some_build {es:List aP} (h:eA es) (hnew:bV bc 0 (ak es)= .ok es) {xs:List (Int×Bs)} {cls:List (Int×Int×Int)} {js:List (Int×Int)} (mk:bC [] 0 xs=none) (xid:∀y∈xs,1000≤y.1∧y.1<1006):cD (rr es xs cls js)= .ok es:=by
 have hm:=h.most;unfold cD mz rr;simp only [Bool.false_eq_true,if_false,hnew,mk];have:xs.findIdx? (fun y=>decide (y.1< (es.length:Int)))=none:=by
  rw [List.findIdx?_eq_none_iff];intro y hy;have:=xid y hy;exact decide_eq_false (by omega)
 rw [this]
def iA (ys:List (Int×Bs)):Nat→List (Int×Bs)
 |0=>[]
 |i+1=>match bC [] 0 (iA ys i++ [(((1000+i:Nat):Int),(ys.getD i (0,[])).2)])with
  |none=>iA ys i++ [(((1000+i:Nat):Int),(ys.getD i (0,[])).2)]
  |some _=>iA ys i
theorem ou {ys:List (Int×Bs)} {i:Nat} (hi:i<ys.length):iA ys (i+1)=match bC [] 0 (iA ys i++ [(((1000+i:Nat):Int),ys[i].2)])with
  |none=>iA ys i++ [(((1000+i:Nat):Int),ys[i].2)]
  |some _=>iA ys i:=by
 have e:ys.getD i (0,[])=ys[i]:=by simp [List.getD,hi]
 rw [iA,e]
theorem gw {α:Type} (p:α→Bool) (xs:List α) {i:Nat} (hi:i<xs.length):(xs.take (i+1)).filter p=(xs.take i).filter p++(if p xs[i]=true then [xs[i]]else []):=by
 rw [List.take_add_one,List.getElem?_eq_getElem hi,List.filter_append];cases h:p xs[i]<;>simp [h]
def someV (l:List Int) (cs:List (Int×Int×Int)) (gs:List (Int×Int)) (ys:List (Int×Bs)):aq:=
 rr (gv l 30) (iA ys (min ys.length 6)) ((cs.take (min cs.length 8)).filter aT) ((gs.take (min gs.length 8)).filter ce)
def uG (s0:aq) (w:World) (u:Value) (w':World):Prop:=∃(x:bM) (s:aq) (T:List aP),u=x.v∧cR w' x s∧s.ranked=false∧s.right=true∧cD s= .ok T∧eA T∧s.specials.length≤6∧(∀y∈s.specials,1000≤y.1∧y.1<1006)∧(s.specials.map (·.1)).Pairwise (·< ·)∧s=s0∧Below w.heap.size w w'
theorem sQ (w:World) (A1:Option Addr) (C1:Nat) (l:List Int) (h1:Rw wY 1 w A1 l) (A2:Option Addr) (C2:Nat) (cs:List (Int×Int×Int)) (h2:Rw cz 3 w A2 cs) (A3:Option Addr) (C3:Nat) (gs:List (Int×Int)) (h3:Rw bj 2 w A3 gs) (A4:Option Addr) (C4:Nat) (ys:List (Int×Bs)) (h4:Rw aI 2 w A4 ys)
  (hc2:cs.length≤C2) (hc3:gs.length≤C3):
  CP 111 #[.slice A1 l.length C1,.slice A2 cs.length C2,.slice A3 gs.length C3,.slice A4 ys.length C4] w fun e w'=>∃u,e= .returned u∧uG (someV l cs gs ys) w u w':=by
 refine wO A1 l.length C1 A2 cs.length C2 A3 gs.length C3 A4 ys.length C4 w (uG (someV l cs gs ys) w) ?_;intro w1 hw1;have hb1:Below w.heap.size w w1:=by subst hw1;exact ai _ _
 have z1:w1.heap[w.heap.size]? =some (.cells lg.cells cS (0,0)):=by subst hw1;exact am _ _
 refine(sy w1 A1 C1 l (h1.on hb1)).mono ?_;rintro e w2 ⟨t,es,rfl,ht,htok,hnew,hes,b2⟩;refine⟨_,_,_,_,_,_,rfl,?_⟩;intro w3 hw3;refine aR [cT.v,cT.v] [t.b.v,t.m.v] rfl (bo _ _) w3 hw3 ?_;intro w4 h4' hz4 b4;have b14:=ae b2 b4;have hb4:=ae hb1 b14;have z4:=aj b14 z1;have hlt4:w.heap.size<w4.heap.size:=(Array.getElem?_eq_some_iff.1 z4).1;refine⟨_,_,_,af _ _ h4' 1,?_⟩;intro w5 hw5;refine pC ⟨false,t.m,cT,cT,cT,cT⟩ w5 hw5 ?_;intro w6 h6 b6;have ht4:=ht.on b4;have fin:∀(q:World) (sp cl jn:Sl) (xs:List (Int×Bs)) (cls:List (Int×Int×Int)) (js:List (Int×Int)),fp w4 q t.m sp cl jn xs cls js→xs=iA ys (min ys.length 6)→cls=(cs.take (min cs.length 8)).filter aT→js=(gs.take (min gs.length 8)).filter ce→
   ay q (nb w) (fun w7=>∃res0:Bool,∃res1A:Option Addr,∃res1N:Nat,∃res1C:Nat,∃res2A:Option Addr,∃res2N:Nat,∃res2C:Nat,∃res3A:Option Addr,∃res3N:Nat,∃res3C:Nat,∃res4A:Option Addr,∃res4N:Nat,∃res4C:Nat,∃res5A:Option Addr,∃res5N:Nat,∃res5C:Nat,(w7.cell? (nb w)=some (Value.bool res0)∧w7.cell? ((nb w).add 1)=some (Value.slice res1A res1N res1C)∧w7.cell? ((nb w).add 2)=some (Value.slice res2A res2N res2C)∧w7.cell? ((nb w).add 3)=some (Value.slice res3A res3N res3C)∧w7.cell? ((nb w).add 4)=some (Value.slice res4A res4N res4C)∧w7.cell? ((nb w).add 5)=some (Value.slice res5A res5N res5C)∧True)∧
    uG (someV l cs gs ys) w (bM.v ⟨res0,⟨res1A,res1N,res1C⟩,⟨res2A,res2N,res2C⟩,⟨res3A,res3N,res3C⟩,⟨res4A,res4N,res4C⟩,⟨res5A,res5N,res5C⟩⟩) w7)
   [Value.bool false,Value.slice t.m.a t.m.n t.m.c,Value.slice none 0 0,Value.slice sp.a sp.n sp.c,Value.slice cl.a cl.n cl.c,Value.slice jn.a jn.n jn.c] 0:=by
  intro q sp cl jn xs cls js hq ex ec ej;have zq:=Below.keeps hq.B hlt4 z4;have hbq:Below w.heap.size w q:=hb4.trans (hq.B.mono (by omega));have r1:=cN.of_own dJ hq.o1;have r2:=Rw.of_own hq.o2 (fun _=>rfl) (by decide);have r3:=Rw.of_own hq.o3 (fun _=>rfl) (by decide);have htq:=ht4.on hq.B;have hS:cR q ⟨false,t.m,cT,sp,cl,jn⟩ (rr es xs cls js):=⟨rfl,htq.n2,htq.r2,rfl,fun j x hj=>(by cases hj),r1.n,r1.r,r2.2,r2.1,r3.2,r3.1⟩;refine qF (w:=w) (w6:=q) (fun x w7=>uG (someV l cs gs ys) w x.v w7) ⟨false,t.m,cT,sp,cl,jn⟩ zq rfl ?_;intro w7 hB7 hs7;have hz7:q.heap.size≤w7.heap.size:=(hB7 q (Below.refl _ _)).size;exact⟨⟨false,t.m,cT,sp,cl,jn⟩,rr es xs cls js,es,rfl,hS.past zq (by
   intro v hv;simp only [List.mem_toArray,List.mem_cons,List.not_mem_nil,or_false]at hv;rcases hv with rfl |rfl |rfl |rfl |rfl |rfl<;>(rintro(⟨k,n,h⟩ |⟨s,h⟩)<;>cases h)) (fun j _ hj=>hs7 j hj) hz7,rfl,some_right htok hq.cok hq.jok hq.mrk hq.l1 hq.l2 hq.l3,some_build htok hnew hq.mrk hq.xid,htok,hq.l1,hq.xid,hq.asc,by rw [someV, ←hes, ←ex, ←ec, ←ej],hB7 w hbq⟩
 have start:fp w4 w6 t.m cT cT cT [] [] []:=⟨h6,bR _ _ _ _ aI,bR _ _ _ _ cz,bR _ _ _ _ bj,rfl,rfl,rfl,fun y hy=>(by cases hy),List.Pairwise.nil,Nat.zero_le _,Nat.zero_le _,Nat.zero_le _,b6⟩;have soft:∀ {q:World} {sp cl jn:Sl} {xs:List (Int×Bs)} {cls:List (Int×Int×Int)} {js:List (Int×Int)},fp w4 q t.m sp cl jn xs cls js→sp.v.ownBlock≠some w4.heap.size∧cl.v.ownBlock≠some w4.heap.size∧jn.v.ownBlock≠some w4.heap.size:=fun h=>⟨aS h.o1 h.blk (by decide),aS h.o2 h.blk (by decide),aS h.o3 h.blk (by decide)⟩;intro I4 hI4;have key:=aX (α:=World) (min cs.length 8) (fun i q=>∃(cl:Sl) (cls:List (Int×Int×Int)),fp w4 q t.m cT cl cT [] cls []∧cls.length≤i∧cls=(cs.take i).filter aT) (fun i q=>I4 [.int .i64 (i:Int)] q) w6 ⟨cT,[],start,Nat.zero_le _,rfl⟩ ?_ ?_
 ·exact key
 ·rintro i hi ih q ⟨cl,cls,hst,hcl,hce⟩;have hi1:i<cs.length:=by omega
  have hi2:i<8:=by omega
  refine hI4 _ _ (ac.yes (by simp;omega) (ac.yes (by simp;omega) ?_));intro J hJ;have hJ':∀(v:World) (cl:Sl) (cls:List (Int×Int×Int)),fp w4 v t.m cT cl cT [] cls []→cls.length≤i+1→cls=(cs.take (i+1)).filter aT→J [] v:=fun v cl cls h1 h2 h3=>hJ v (Ar.nat (i+1) rfl (by omega) (ih v ⟨cl,cls,h1,h2,h3⟩));have hbq:Below w.heap.size w q:=hb4.trans (hst.B.mono (by omega));have hbt:mc q ⟨⟨bW A2 i C2 3,i+1-i,C2-i⟩,cT⟩ [cs[i]] []:=by
   refine⟨by show i+1-i=1;omega,?_,rfl,fun j x hj=>by cases hj⟩;have:=((h2.on hbq).cut i C2 hc2).take 1;rw [List.drop_eq_getElem_cons hi1]at this;exact this
  refine Ar.nat (i+1) rfl (by omega) ⟨by omega,by omega,by omega,trivial,trivial,?_⟩;refine(jW q ⟨⟨bW A2 i C2 3,i+1-i,C2-i⟩,cT⟩ [cs[i]] [] hbt (by simp) (by simp)).mono ?_;rintro e w9 ⟨rfl,b9⟩;have hst9:=hst.on b9;refine⟨_,rfl,ac.mk (fun hok=>?_) fun hno=>hJ' w9 cl cls hst9 (by omega) (by rw [gw aT cs hi1,if_neg (by intro h;simp [h]at hno),List.append_nil];exact hce)⟩;intro w10 hw10;have b10:Below w9.heap.size w9 w10:=by subst hw10;exact aL w9
  have hst10:=hst9.on b10;have hb10:=hbq.trans ((ae b9 b10).mono hbq.size);obtain⟨p,hp,_,hc⟩:=(h2.on hb10) i _ (List.getElem?_eq_getElem hi1);have c0:=hc 0 _ rfl;rw [au]at c0;refine⟨_,_,_,af _ _ hst10.blk 4,ag.mk p hp ⟨by omega,by omega,_,_,_,⟨c0,hc 1 _ rfl,hc 2 _ rfl,trivial⟩,?_⟩⟩;intro w11 hw11;have b11:Below w10.heap.size w10 w11:=by subst hw11;exact ai _ _
  refine⟨⟨af _ _ (hst10.on b11).blk 4,trivial⟩,?_⟩;obtain⟨a',c',w12,hr12,hu12,hf12,h13⟩:=eh (P:=Tryz.prog) (s:=cl) 4 hst10.blk (show 4<6 by decide) hst10.o2 (soft hst10).2.1 (Nat.le_refl _) Kq zc Bv rfl (by decide) (cz cs[i]) rfl (eZ _ _ _) (by have:=(Rw.of_own hst10.o2 (fun _=>rfl) (by decide)).2;have:=hst10.l2;omega) (by have:=(Rw.of_own hst10.o2 (fun _=>rfl) (by decide)).2;have:=hst10.l2;omega);subst hw11;refine⟨a',cl.n+1,c',w12,hr12,rfl,hu12,hf12,?_⟩;intro w13 hw13;obtain⟨g1,g2,g3,g4,g5,g6,g7⟩:=h13 w13 hw13;have hok:aT cs[i]=true:=by simpa using hok
  refine hJ' w13 ⟨a',cl.n+1,c'⟩ (cls++ [cs[i]]) ⟨g1,bR _ _ _ _ aI,by rw [List.flatMap_append];simpa using g2,bR _ _ _ _ bj,by rw [List.all_append,hst10.cok];simpa using hok,rfl,rfl,fun y hy=>(by cases hy),List.Pairwise.nil,Nat.zero_le _,by rw [List.length_append];simp;omega,Nat.zero_le _,g4 _ hst10.B⟩ (by rw [List.length_append];simp;omega) (by rw [gw aT cs hi1,if_pos hok, ←hce])
 rintro q ⟨cl,cls,hst,hcl,hce⟩;refine hI4 _ _ (ac.mk (fun hlt=>ac.no ?_ ?_) fun hlt=>?_)
 ·have:=of_decide_eq_true hlt;exact decide_eq_false (by omega)
 all_goals
  clear hlt;intro I13 hI13;have key2:=aX (α:=World) (min gs.length 8) (fun i q=>∃(jn:Sl) (js:List (Int×Int)),fp w4 q t.m cT cl jn [] cls js∧js.length≤i∧js=(gs.take i).filter ce) (fun i q=>I13 [.int .i64 (i:Int)] q) q ⟨cT,[],hst,Nat.zero_le _,rfl⟩ ?_ ?_
  ·exact key2
  ·rintro i hi ih q ⟨jn,js,hst,hjn,hje⟩;have hi1:i<gs.length:=by omega
   have hi2:i<8:=by omega
   refine hI13 _ _ (ac.yes (by simp;omega) (ac.yes (by simp;omega) ?_));intro J hJ;have hJ':∀(v:World) (jn:Sl) (js:List (Int×Int)),fp w4 v t.m cT cl jn [] cls js→js.length≤i+1→js=(gs.take (i+1)).filter ce→J [] v:=fun v jn js h1 h2 h3=>hJ v (Ar.nat (i+1) rfl (by omega) (ih v ⟨jn,js,h1,h2,h3⟩));have hbq:Below w.heap.size w q:=hb4.trans (hst.B.mono (by omega));have hbt:mc q ⟨cT,⟨bW A3 i C3 2,i+1-i,C3-i⟩⟩ [] [gs[i]]:=by
    refine⟨rfl,fun j x hj=>(by cases hj),by show i+1-i=1;omega,?_⟩;have:=((h3.on hbq).cut i C3 hc3).take 1;rw [List.drop_eq_getElem_cons hi1]at this;exact this
   refine Ar.nat (i+1) rfl (by omega) ⟨by omega,by omega,by omega,trivial,trivial,?_⟩;refine(jW q ⟨cT,⟨bW A3 i C3 2,i+1-i,C3-i⟩⟩ [] [gs[i]] hbt (by simp) (by simp)).mono ?_;rintro e w9 ⟨rfl,b9⟩;have hst9:=hst.on b9;refine⟨_,rfl,ac.mk (fun hok=>?_) fun hno=>hJ' w9 jn js hst9 (by omega) (by rw [gw ce gs hi1,if_neg (by intro h;simp [h]at hno),List.append_nil];exact hje)⟩;intro w10 hw10;have b10:Below w9.heap.size w9 w10:=by subst hw10;exact aL w9
   have hst10:=hst9.on b10;have hb10:=hbq.trans ((ae b9 b10).mono hbq.size);obtain⟨p,hp,_,hc⟩:=(h3.on hb10) i _ (List.getElem?_eq_getElem hi1);have c0:=hc 0 _ rfl;rw [au]at c0;refine⟨_,_,_,af _ _ hst10.blk 5,ag.mk p hp ⟨by omega,by omega,_,_,⟨c0,hc 1 _ rfl,trivial⟩,?_⟩⟩;intro w11 hw11;have b11:Below w10.heap.size w10 w11:=by subst hw11;exact ai _ _
   refine⟨⟨af _ _ (hst10.on b11).blk 5,trivial⟩,?_⟩;obtain⟨a',c',w12,hr12,hu12,hf12,h13⟩:=eh (P:=Tryz.prog) (s:=jn) 5 hst10.blk (show 5<6 by decide) hst10.o3 (soft hst10).2.2 (Nat.le_refl _) Kk zd CO rfl (by decide) (bj gs[i]) rfl (bX _ _) (by have:=(Rw.of_own hst10.o3 (fun _=>rfl) (by decide)).2;have:=hst10.l3;omega) (by have:=(Rw.of_own hst10.o3 (fun _=>rfl) (by decide)).2;have:=hst10.l3;omega);subst hw11;refine⟨a',jn.n+1,c',w12,hr12,rfl,hu12,hf12,?_⟩;intro w13 hw13;obtain⟨g1,g2,g3,g4,g5,g6,g7⟩:=h13 w13 hw13;have hok:ce gs[i]=true:=by simpa using hok
   have k2:w13.ownsRow w4.heap.size EW 3 cl.v cl.n (cls.flatMap cz):=a_ hst10.o2 fun k hk=>g5 k (cd hst10.o2 k hk).2 (fun e=>(soft hst10).2.1 (by rw [←e];exact hk)) (bU hst10.o2 hst10.o3 (by decide) k hk);refine hJ' w13 ⟨a',jn.n+1,c'⟩ (js++ [gs[i]]) ⟨g1,bR _ _ _ _ aI,k2,by rw [List.flatMap_append];simpa using g2,hst10.cok,by rw [List.all_append,hst10.jok];simpa using hok,rfl,fun y hy=>(by cases hy),List.Pairwise.nil,Nat.zero_le _,hst10.l2,by rw [List.length_append];simp;omega,g4 _ hst10.B⟩ (by rw [List.length_append];simp;omega) (by rw [gw ce gs hi1,if_pos hok, ←hje])
  rintro q ⟨jn,js,hst,hjn,hje⟩;refine hI13 _ _ (ac.mk (fun hlt=>ac.no ?_ ?_) fun hlt=>?_)
  ·have:=of_decide_eq_true hlt;exact decide_eq_false (by omega)
  all_goals
   clear hlt;intro I28 hI28;have key3:=aX (α:=World) (min ys.length 6) (fun i q=>∃(sp:Sl) (xs:List (Int×Bs)),fp w4 q t.m sp cl jn xs cls js∧xs.length≤i∧(∀y∈xs,y.1<1000+(i:Int))∧xs=iA ys i) (fun i q=>I28 [.int .i64 (i:Int)] q) q ⟨cT,[],hst,Nat.zero_le _,fun y hy=>(by cases hy),rfl⟩ ?_ ?_
   ·exact key3
   ·rintro i hi ih q ⟨sp,xs,hst,hxl,hxb,hxe⟩;have hi1:i<ys.length:=by omega
    have hi2:i<6:=by omega
    refine hI28 _ _ (ac.yes (by simp;omega) (ac.yes (by simp;omega) ?_));intro J hJ;have hJ':∀(v:World) (sp:Sl) (xs:List (Int×Bs)),fp w4 v t.m sp cl jn xs cls js→xs.length≤i+1→(∀y∈xs,y.1<1000+((i+1:Nat):Int))→xs=iA ys (i+1)→J [] v:=fun v sp xs h1 h2 h3 h4=>hJ v (Ar.nat (i+1) rfl (by omega) (ih v ⟨sp,xs,h1,h2,h3,h4⟩));intro w23 hw23;have b23:Below q.heap.size q w23:=by subst hw23;exact aL q
    have hst23:=hst.on b23;have hb23:Below w.heap.size w w23:=hb4.trans (hst23.B.mono (by omega));obtain⟨p,hp,_,_⟩:=(h4.on hb23) i _ (List.getElem?_eq_getElem hi1);have cellS:∀v:World,Below w23.heap.size w23 v→v.cell? ((p.add (i*2)).add 1)=some (.string (str ys[i].2)):=by
     intro v hv;obtain⟨p',hp',_,hc⟩:=(h4.on (ae hb23 hv)) i _ (List.getElem?_eq_getElem hi1);have:p'=p:=by rw [hp]at hp';exact(Option.some.inj hp').symm
     subst this;exact hc 1 _ rfl
    have cell3:∀v:World,Below w23.heap.size w23 v→v.cell? ((nb w4).add 3)=some sp.v:=fun v hv=>af _ _ (hst23.on hv).blk 3;have hspn:=(cN.of_own dJ hst23.o1).n;have hl1:=hst23.l1;have check:∀(y:Sl) (v:World),Below w23.heap.size w23 v→v.ownsRow w23.heap.size mD 2 y.v y.n ((xs++ [(((1000+i:Nat):Int),ys[i].2)]).flatMap aI)→
      CP 167 #[Value.slice y.a y.n y.c] v (fun e28 w28=>∃r0:Int,∃r1:Int,e28= .returned (Value.tuple #[Value.int .i64 r0,Value.int .i64 r1])∧
       ac ((r1:Int)==0)
        ((Value.slice y.a y.n y.c).oneCell'=true∧(∃u,w28.cell? ((nb w4).add 3)=some u)∧w28.frozen? ((nb w4).add 3)=false∧
         ∀w29:World,w29=(w28.setCell ((nb w4).add 3) (Value.slice y.a y.n y.c))→J [] w29)
        (J [] w28)):=by
     intro y v hv hy;have hls:=cN.of_own dJ hy;have hyn:=hls.n;obtain⟨ya,yn,yc⟩:=y;change yn=_ at hyn;subst hyn;refine(jJ v ya yc _ hls.r (by rw [List.length_append];simp;omega)).mono ?_;rintro e w28 ⟨rfl,b28⟩;have hb28:=ae hv b28;have st28:=hst23.on hb28;have hy28:=cV (aJ hy b28) hst23.B.size;cases hm:bC [] 0 (xs++ [(((1000+i:Nat):Int),ys[i].2)])with
     |some z=>
      refine⟨_,_,by rw [im,hm],ac.no (by simpa using pZ hm) (hJ' w28 sp xs st28 (by omega) (fun y hy=>by have:=hxb y hy;omega) (by rw [ou hi1, ←hxe,hm]))⟩
     |none=>
      refine⟨_,_,by rw [im,hm],ac.yes rfl ⟨rfl,⟨_,cell3 w28 hb28⟩,bf st28.blk,?_⟩⟩;intro w29 hw29;subst hw29;have s28:=soft st28;refine hJ' _ ⟨ya,_,yc⟩ (xs++ [(((1000+i:Nat):Int),ys[i].2)]) ⟨bA st28.blk _,cM hy28 _ (by rw [ax];exact aS hy28 st28.blk (by decide)),cM st28.o2 _ (by rw [ax];exact s28.2.1),cM st28.o3 _ (by rw [ax];exact s28.2.2),st28.cok,st28.jok,hm,?_,?_,by rw [List.length_append];simp;omega,st28.l2,st28.l3,bz st28.B (Nat.le_refl _) _⟩ (by rw [List.length_append];simp;omega) ?_ (by rw [ou hi1, ←hxe,hm])
      ·intro z hz;rcases List.mem_append.1 hz with hz |hz
       ·exact st28.xid z hz
       ·rw [List.mem_singleton.1 hz];show(1000:Int)≤((1000+i:Nat):Int)∧((1000+i:Nat):Int) <1006;omega
      ·rw [List.map_append,List.pairwise_append];refine⟨st28.asc,List.pairwise_singleton _ _,fun a ha b hb=>?_⟩;obtain⟨y,hy,rfl⟩:=List.mem_map.1 ha;have:=hxb y hy;simp at hb;omega
      ·intro y hy;rcases List.mem_append.1 hy with hy |hy
       ·have:=hxb y hy;omega
       ·rw [List.mem_singleton.1 hy];show((1000+i:Nat):Int) <1000+((i+1:Nat):Int);omega
    have spr:∀(v:World) (k:Nat),Below w23.heap.size w23 v→v.heap[k]? =some (.cells #[] mD (0,0))→w23.heap.size≤k→∃(r:Sl) (v':World),r.n=sp.n∧(Builtin.append_ #[EY,EY] EY #[.slice (some ⟨k,0,none⟩) 0 0,.slice sp.a sp.n sp.c]).run Tryz.prog v= .ok (.slice r.a r.n r.c) v'∧v'.ownsRow w23.heap.size mD 2 r.v r.n (xs.flatMap aI)∧Below w23.heap.size w23 v'∧(∀j,j<v.heap.size→j≠k→v'.heap[j]? =v.heap[j]?):=by
     intro v k hv hk hle;have hls:=cN.of_own dJ (hst23.on hv).o1;obtain⟨r,v',g1,g2,g3,g4,g5,_⟩:=dJ.spread (s:=⟨some ⟨k,0,none⟩,0,0⟩) (xs:=[]) (pn hk hle) hls hv.size (Nat.zero_le _) (by omega) (by decide);refine⟨r,v',by rw [g1];show 0+sp.n=sp.n;omega,g2,g3,g4 _ hv,fun j hj hjk=>g5 j hj fun e=>hjk ?_⟩;have:k=j:=by simpa [Value.ownBlock]using e
     exact this.symm
    refine⟨_,_,_,cell3 w23 (Below.refl _ _),Ar.nat (1000+i) (by omega) (by omega) (ag.mk p hp ⟨by omega,by omega,_,cellS w23 (Below.refl _ _),?_,?_⟩)⟩
    ·intro w24 hw24;have b24:Below w23.heap.size w23 w24:=by subst hw24;exact ai _ _
     have n24:w24.heap[w23.heap.size]? =some (.cells #[] mD (0,0)):=by subst hw24;exact am _ _
     refine⟨⟨cellS w24 b24,trivial⟩,⟨cell3 w24 b24,trivial⟩,?_,?_⟩
     ·obtain⟨r,w25,g1,g2,g3,g4,g5⟩:=spr w24 _ b24 n24 (Nat.le_refl _);refine⟨r.a,r.n,r.c,w25,g2,⟨cellS w25 g4,trivial⟩,?_⟩;intro w26 hw26;obtain⟨y,w27,f1,f2,f3,f4,f5⟩:=dJ.push g3 (((1000+i:Nat):Int),ys[i].2) hw26 rfl g4.size (by omega) (by decide);exact⟨y.a,y.n,y.c,w27,f2,check y w27 (f4 _ g4) f3⟩
     ·intro w30 hw30;have b30:Below w24.heap.size w24 w30:=by subst hw30;exact ai _ _
      have e30:w30.heap[w24.heap.size]? =some (.cells (aI (((1000+i:Nat):Int),ys[i].2)).toArray mD (0,0)):=by subst hw30;exact am _ _
      have b2330:=ae b24 b30;refine⟨⟨cell3 w30 b2330,trivial⟩,?_⟩;obtain⟨r,w31,g1,g2,g3,g4,g5⟩:=spr w30 _ b2330 (aj b30 n24) (Nat.le_refl _);have hz24:=(Array.getElem?_eq_some_iff.1 n24).1;have e31:w31.heap[w24.heap.size]? =some (.cells (aI (((1000+i:Nat):Int),ys[i].2)).toArray mD (0,0)):=by
       rw [g5 _ (Array.getElem?_eq_some_iff.1 e30).1 (by omega)];exact e30
      obtain⟨y,w32,f1,f2,f3,f4,f5⟩:=dJ.pushAt g3 (((1000+i:Nat):Int),ys[i].2) e31 g4.size (by omega) (by decide);exact⟨r.a,r.n,r.c,w31,g2,y.a,y.n,y.c,w32,f2,check y w32 (f4 _ g4) f3⟩
    ·intro w86 hw86;have b86:Below w23.heap.size w23 w86:=by subst hw86;exact ai _ _
     have e86:w86.heap[w23.heap.size]? =some (.cells (aI (((1000+i:Nat):Int),ys[i].2)).toArray mD (0,0)):=by subst hw86;exact am _ _
     refine⟨⟨cell3 w86 b86,trivial⟩,?_⟩;intro w87 hw87;have b87:Below w86.heap.size w86 w87:=by subst hw87;exact ai _ _
     have n87:w87.heap[w86.heap.size]? =some (.cells #[] mD (0,0)):=by subst hw87;exact am _ _
     have b2387:=ae b86 b87;have hz86:=(Array.getElem?_eq_some_iff.1 e86).1;refine⟨⟨cell3 w87 b2387,trivial⟩,?_⟩;obtain⟨r,w88,g1,g2,g3,g4,g5⟩:=spr w87 _ b2387 n87 (by omega);have e88:w88.heap[w23.heap.size]? =some (.cells (aI (((1000+i:Nat):Int),ys[i].2)).toArray mD (0,0)):=by
      rw [g5 _ (Array.getElem?_eq_some_iff.1 (aj b87 e86)).1 (by omega)];exact aj b87 e86
     obtain⟨y,w89,f1,f2,f3,f4,f5⟩:=dJ.pushAt g3 (((1000+i:Nat):Int),ys[i].2) e88 g4.size (by omega) (by decide);exact⟨r.a,r.n,r.c,w88,g2,y.a,y.n,y.c,w89,f2,check y w89 (f4 _ g4) f3⟩
   ·rintro q ⟨sp,xs,hst,hxl,_,hxe⟩;have done:=fin q sp cl jn xs cls js hst hxe hce hje;have cells:=dy (x:=⟨false,t.m,cT,sp,cl,jn⟩) hst.blk;refine hI28 _ _ (ac.mk (fun hlt=>ac.no ?_ ⟨_,_,_,_,_,_,_,_,_,_,_,_,_,_,_,_,cells,done⟩) fun hlt=>⟨_,_,_,_,_,_,_,_,_,_,_,_,_,_,_,_,cells,done⟩);have:=of_decide_eq_true hlt;exact decide_eq_false (by omega)
structure AO where
 l:Sl
 c:Sl
 j:Sl
 x:Sl
abbrev AO.cells (y:AO):Array Value:=#[y.l.v,y.c.v,y.j.v,y.x.v]
abbrev AO.v (y:AO):Value:=.agg y.cells
structure tf (w:World) (y:AO) (ls:List Int) (cs:List (Int×Int×Int)) (js:List (Int×Int)) (xs:List (Int×Bs)):Prop where
 n1:y.l.n=ls.length
 r1:Rw wY 1 w y.l.a ls
 n2:y.c.n=cs.length
 r2:Rw cz 3 w y.c.a cs
 n3:y.j.n=js.length
 r3:Rw bj 2 w y.j.a js
 n4:y.x.n=xs.length
 r4:Rw aI 2 w y.x.a xs
 c2:y.c.n≤y.c.c
 c3:y.j.n≤y.j.c
 most:xs.length≤9223372036854775807
theorem tf.on {w w':World} {y:AO} {ls:List Int} {cs:List (Int×Int×Int)} {js:List (Int×Int)} {xs:List (Int×Bs)} (h:tf w y ls cs js xs) (hb:Below w.heap.size w w'):tf w' y ls cs js xs:=⟨h.n1,h.r1.on hb,h.n2,h.r2.on hb,h.n3,h.r3.on hb,h.n4,h.r4.on hb,h.c2,h.c3,h.most⟩
abbrev GS:TypeId:=27
theorem GI {w:World} {b:Nat} {y:AO} {T:TypeId} {fz:Nat×Nat} (h:w.heap[b]? =some (.cells y.cells T fz)):
  w.cell? ⟨b,0,none⟩=some y.l.v∧w.cell? ((⟨b,0,none⟩:Addr).add 1)=some y.c.v∧w.cell? ((⟨b,0,none⟩:Addr).add 2)=some y.j.v∧w.cell? ((⟨b,0,none⟩:Addr).add 3)=some y.x.v∧True:=by
 have hc:∀j,w.cell? ((⟨b,0,none⟩:Addr).add j)=y.cells[j]? :=fun j=>af _ _ h j;exact⟨by have:=hc 0;rw [au]at this;exact this,hc 1,hc 2,hc 3,trivial⟩
theorem qp (w:World) (y:AO) (ls:List Int) (cs:List (Int×Int×Int)) (js:List (Int×Int)) (xs:List (Int×Bs)) (h:tf w y ls cs js xs):CP 11 #[y.v] w fun e w'=>∃n:Int,e= .returned (.int .i64 n)∧Below w.heap.size w w':=by
 refine aO (yZ y.l.a y.l.n y.l.c y.c.a y.c.n y.c.c y.j.a y.j.n y.j.c y.x.a y.x.n y.x.c w) ?_;intro w1 hw1;have hb1:Below w.heap.size w w1:=by subst hw1;exact ai _ _
 have l1:w1.heap[w.heap.size]? =some (.cells y.cells GS (0,0)):=by subst hw1;exact am _ _
 refine⟨_,_,_,af _ _ l1 0,_,_,_,af _ _ l1 1,_,_,_,af _ _ l1 2,_,_,_,af _ _ l1 3,?_⟩;have h4:=(h.on hb1).r4;have n4:=h.n4;obtain⟨⟨l1',l2',l3'⟩,⟨c1',c2',c3'⟩,⟨j1',j2',j3'⟩,⟨x1',x2',x3'⟩⟩:=y;change x2'=xs.length at n4;subst n4;refine(qu w1 l1' l2' l3' c1' c2' c3' j1' j2' j3' x1' x3' xs h4 h.most).mono ?_;rintro e w2 ⟨rfl,hw⟩;subst hw;exact⟨_,rfl,ac.mk (fun _=>⟨1,rfl,hb1⟩) fun _=>⟨0,rfl,hb1⟩⟩
structure tj (w:World) (v:Nat) (y:kP) (s:aq) (T:List aP):Prop where
 voc:aY w v s T
 rv:∀w',aH v w w'→fY w' y s T
 few:s.specials.length≤6
 ids:∀z∈s.specials,1000≤z.1∧z.1<1006
 asc:(s.specials.map (·.1)).Pairwise (·< ·)
theorem tj.now {w:World} {v:Nat} {y:kP} {s:aq} {T:List aP} (h:tj w v y s T):fY w y s T:=h.rv w (aH.of_below (Below.refl _ _))
theorem tj.on {w w':World} {v:Nat} {y:kP} {s:aq} {T:List aP} (h:tj w v y s T) (hb:Below w.heap.size w w'):tj w' v y s T:=⟨h.voc.on hb,fun w2 t=>h.rv w2 ((aH.of_below hb).trans t),h.few,h.ids,h.asc⟩
theorem aY.lt {w:World} {v:Nat} {s:aq} {T:List aP} (h:aY w v s T):v<w.heap.size:=by
 obtain⟨w0,x,tp,bp,mp,d,l,uses,hR⟩:=h;exact(Array.getElem?_eq_some_iff.1 hR.blk).1
theorem Rw.far {α:Type} {enc:α→List Value} {sz:Nat} {w:World} {a:Option Addr} {xs:List α} (h:Rw enc sz w a xs) {v:Nat} (hv:w.heap.size≤v):xs≠ []→∀p,a=some p→p.block≠v:=by
 intro hne p hp e;cases xs with
 |nil=>exact hne rfl
 |cons x xs=>
  obtain⟨q,hq,hlt,_⟩:=h 0 x rfl;rw [hp]at hq;cases hq;omega
theorem fr.touch {w w':World} {x:jP} {es:List aP} {B v:Nat} (h:fr w x es) (hf:jd B x) (hB:v<B) (t:aH v w w'):fr w' x es:=
 ⟨h.n1,h.r1.touch t fun _ p hp e=>by have:=hf.1 p hp;omega,h.k1,h.n2,h.r2.touch t fun _ p hp e=>by have:=hf.2 p hp;omega,h.k2⟩
structure nv (b:Nat) (e:TypeId) (w w':World):Prop where
 blk:∃c fz,w.heap[b]? =some (.cells c e fz)∧∀v∈c,¬g_ v
 ne:∀j,j≠b→w'.heap[j]? =w.heap[j]?
 size:w'.heap.size=w.heap.size
theorem nv.row {α:Type} {enc:α→List Value} {sz:Nat} {w w':World} {b:Nat} {e:TypeId} {a:Option Addr} {xs:List α} (t:nv b e w w') (h:Rw enc sz w a xs) (henc:∀x,∃v,(enc x)[0]? =some v∧g_ v):Rw enc sz w' a xs:=by
 obtain⟨c,fz,hb,hc⟩:=t.blk;exact h.past henc hb hc (fun j _ hj=>t.ne j hj) (Nat.le_of_eq t.size.symm)
theorem nv.cells {w w':World} {b k:Nat} {e e':TypeId} {c:Array Value} {fz:Nat×Nat} (t:nv b e w w') (h:w.heap[k]? =some (.cells c e' fz)) (hne:e≠e'):w'.heap[k]? =some (.cells c e' fz):=by
 obtain⟨c',fz',hb,_⟩:=t.blk;rw [t.ne k fun e=>?_]
 ·exact h
 ·subst e;rw [hb]at h;cases h;exact hne rfl
theorem nv.map {κ:Type} [DecidableEq κ] {kv:κ→Value} {w w':World} {b r:Nat} {e:TypeId} {m:List (κ×Value)} (t:nv b e w w') (h:bF kv w r m):bF kv w' r m:=by
 obtain⟨c',fz',hb,_⟩:=t.blk;refine h.same (t.ne r fun e=>?_);subst e;obtain⟨es,k,hm,_⟩:=h;rw [hb]at hm;cases hm
theorem nv.parts {w w':World} {b:Nat} {e:TypeId} {s:aq} {T:List aP} {x:bM} {tp bp mp:Nat} (t:nv b e w w') (h:bu w s T x tp bp mp) (n1:e≠gF) (n2:e≠fQ) (n3:e≠lI):bu w' s T x tp bp mp:=by
 obtain⟨h1,h2,h3,h4,h5,h6,h7,h8⟩:=h;refine⟨?_,?_,h3,?_,?_,h6,h7,h8⟩
 ·exact⟨h1.ranked,h1.n1,t.row h1.r1 fun m=>⟨_,rfl,cE _ _⟩,h1.n2,t.row h1.r2 fun m=>⟨_,rfl,.inr ⟨_,rfl⟩⟩,h1.n3,t.row h1.r3 fun m=>⟨_,rfl,cE _ _⟩,h1.n4,t.row h1.r4 fun m=>⟨_,rfl,cE _ _⟩,h1.n5,t.row h1.r5 fun m=>⟨_,rfl,cE _ _⟩⟩
 ·obtain⟨l,mb,mp,most,g1,g2,g3,g4,g5,g6⟩:=h2;exact⟨l,mb,mp,most,t.cells g1 n1,g2,t.row g3 fun m=>⟨_,rfl,.inr ⟨_,rfl⟩⟩,t.map g4,t.map g5,g6⟩
 ·obtain⟨c,g1,g2⟩:=h4;exact⟨c,t.cells g1 n2,g2⟩
 ·obtain⟨l,mi,mt,c,g1,g2,g3,g4,g5,g6⟩:=h5;exact⟨l,mi,mt,c,t.cells g1 n3,g2,g3,t.row g4 fun m=>⟨_,rfl,cE _ _⟩,t.map g5,t.map g6⟩
theorem nv.voc {w w':World} {b v:Nat} {e:TypeId} {s:aq} {T:List aP} (t:nv b e w w') (h:aY w v s T) (n1:e≠gF) (n2:e≠fQ) (n3:e≠lI) (n4:e≠db) (n5:e≠eo) (hB:Below b w w'):aY w' v s T:=by
 obtain⟨w0,x,tp,bp,mp,d,l,uses,hR⟩:=h;have blk:=t.cells hR.blk n4;have once:(d=0∧l=⟨none,0,0⟩)∨(d=1∧l.n=T.length∧w'.ownsRow (v+1) eo 1 l.v l.n ((d_ s T).flatMap iy)):=by
  rcases hR.once with h |⟨h1,h2,h3⟩
  ·exact .inl h
  ·refine .inr ⟨h1,h2,a_ h3 fun k hk=>t.ne k fun e=>?_⟩;obtain⟨c,fz,hb,_⟩:=t.blk;exact aS h3 hb (fun e=>n5 e.symm) (by rw [hk,e])
 have hbel:=hR.below;by_cases hlt:b<w0.heap.size
 ·obtain⟨c,fz,hb,hc⟩:=t.blk;have hb0:w0.heap[b]? =some (.cells c e fz):=by rw [←hbel.block b hlt];exact hb
  have hbl:b<w.heap.size:=(Array.getElem?_eq_some_iff.1 hb).1;have hbl':b<w'.heap.size:=by rw [t.size];exact hbl
  let w1:World:={w0 with heap:=w0.heap.setIfInBounds b w'.heap[b]};have hz:w1.heap.size=w0.heap.size:=by simp [w1]
  have same:∀j,j≠b→w1.heap[j]? =w0.heap[j]? :=fun j hj=>by
   show(w0.heap.setIfInBounds b w'.heap[b])[j]? =_;rw [Array.getElem?_setIfInBounds_ne (fun e=>hj e.symm)]
  have t0:nv b e w0 w1:=⟨⟨c,fz,hb0,hc⟩,same,hz⟩;refine⟨w1,x,tp,bp,mp,d,l,uses,t0.parts hR.parts n1 n2 n3,?_,by rw [hz];exact hR.lt,blk,once⟩;refine⟨hB.os.trans hbel.os,hB.tape.trans hbel.tape,hB.output.trans hbel.output,by rw [hz,t.size];exact hbel.size,fun k hk=>?_⟩;by_cases hkb:k=b
  ·subst hkb;show w'.heap[k]? =(w0.heap.setIfInBounds k w'.heap[k])[k]?
   rw [Array.getElem?_setIfInBounds_self_of_lt hlt,Array.getElem?_eq_getElem hbl']
  ·rw [same k hkb,t.ne k hkb];exact hbel.block k (by rw [hz]at hk;exact hk)
 ·refine⟨w0,x,tp,bp,mp,d,l,uses,hR.parts,?_,hR.lt,blk,once⟩;exact⟨hB.os.trans hbel.os,hB.tape.trans hbel.tape,hB.output.trans hbel.output,by rw [t.size];exact hbel.size,fun k hk=>by rw [t.ne k (by omega)];exact hbel.block k hk⟩
def KQ (w:World) (u:Value) (w':World):Prop:=∃(v:Nat) (y:kP) (s:aq) (T:List aP),u= .tuple #[.pointer (some ⟨v,0,none⟩),y.v]∧tj w' v y s T∧w.heap.size≤v∧Below w.heap.size w w'
def HH (s0:aq) (w:World) (u:Value) (w':World):Prop:=∃(v:Nat) (y:kP) (s:aq) (T:List aP),u= .tuple #[.pointer (some ⟨v,0,none⟩),y.v]∧tj w' v y s T∧w.heap.size≤v∧Below w.heap.size w w'∧s=s0∧cD s= .ok T
theorem vT (w:World) (y:AO) (ls:List Int) (cs:List (Int×Int×Int)) (js:List (Int×Int)) (xs:List (Int×Bs)) (h:tf w y ls cs js xs):CP 58 #[y.v] w fun e w'=>∃u,e= .returned u∧HH (someV ls cs js xs) w u w':=by
 refine yW y.l.a y.l.n y.l.c y.c.a y.c.n y.c.c y.j.a y.j.n y.j.c y.x.a y.x.n y.x.c w (HH (someV ls cs js xs) w) ?_;intro w1 hw1 w2 hw2;have hb1:Below w.heap.size w w1:=by subst hw1;exact ai _ _
 have b2:Below w1.heap.size w1 w2:=by subst hw2;exact ai _ _
 have hb2:=ae hb1 b2;have l2:w2.heap[w.heap.size]? =some (.cells y.cells GS (0,0)):=aj b2 (by subst hw1;exact am _ _);have z2:w2.heap[w1.heap.size]? =some (.cells zH.cells DN (0,0)):=by subst hw2;exact am _ _
 refine⟨_,_,_,af _ _ l2 0,_,_,_,af _ _ l2 1,_,_,_,af _ _ l2 2,_,_,_,af _ _ l2 3,?_⟩;have h2:=h.on hb2;clear l2;clear hw1;have some2:CP 111 #[y.l.v,y.c.v,y.j.v,y.x.v] w2 fun e w'=>∃u,e= .returned u∧uG (someV ls cs js xs) w2 u w':=by
  obtain⟨n1,r1,n2,r2,n3,r3,n4,r4,c2,c3,most⟩:=h2;obtain⟨⟨l1',l2',l3'⟩,⟨c1',c2',c3'⟩,⟨j1',j2',j3'⟩,⟨x1',x2',x3'⟩⟩:=y;change l2'=ls.length at n1;change c2'=cs.length at n2;change j2'=js.length at n3;change x2'=xs.length at n4;subst n1 n2 n3 n4;exact sQ w2 l1' l3' ls r1 c1' c3' cs r2 j1' j3' js r3 x1' x3' xs r4 c2 c3
 refine some2.mono ?_;rintro e w3 ⟨u,rfl,x,s,T,rfl,hS,hrk,hright,hT,htok,hfew,hids,hasc,hs0,b3⟩;refine⟨_,_,_,_,_,_,_,_,_,_,_,_,_,_,_,_,rfl,?_⟩;intro w4 hw4;refine pC x w4 hw4 ?_;intro w5 h5 b5;have b35:=ae b3 b5;have hb5:=ae hb2 b35;have hS5:=hS.on b5;refine⟨_,_,_,_,_,_,_,_,_,_,_,_,_,_,_,_,dy h5,?_⟩;refine(fb w5 x s hS5).mono ?_;rintro e w6 ⟨u,rfl,b6,hp⟩;rw [if_pos hright,hT]at hp;obtain⟨v,rfl,hV,hv⟩:=hp;have hb6:=ae hb5 b6;have h6:=aj b6 h5;refine⟨_,_,_,rfl,ac.no rfl ⟨_,_,_,_,_,_,_,_,_,_,_,_,_,_,_,_,dy h6,?_⟩⟩;refine(zv w6 x s (hS5.on b6) hrk hright T hT).mono ?_;rintro e w8 ⟨r,rfl,hr,b8,hf,eb,esp⟩;have hb8:=ae hb6 b8;have z8:=aj b8 (aj b6 (aj b35 z2));refine⟨_,_,_,_,_,_,_,_,_,_,_,_,_,_,_,rfl,?_⟩;refine aV z8 (nB r) rfl (ic r) ?_;intro w9 h9 hs9 hz9 hB9;have hvl:=hV.lt;have hz5:=hb5.size;have hz1:=hb1.size;have tp:nv w1.heap.size DN w8 w9:=⟨⟨_,_,z8,jp zH⟩,hs9,hz9⟩;have hV9:aY w9 v s T:=tp.voc (hV.on b8) (by decide) (by decide) (by decide) (by decide) (by decide) (hB9 _ _ (Nat.le_refl _) (Below.refl _ _));have hr9:fY w9 r s T:=hr.past z8 (jp zH) (fun j _ hj=>hs9 j hj) (Nat.le_of_eq hz9.symm);have f3:=hS5.r3.far hv;have f4:=hS5.r4.far hv;have f5:=hS5.r5.far hv;refine⟨_,_,_,_,_,_,_,_,_,_,_,_,_,_,_,kW (x:=r) h9,v,r,s,T,rfl,⟨hV9,fun w' t=>?_,hfew,hids,hasc⟩,by omega,hB9 _ _ hz1 hb8,hs0,hT⟩;obtain⟨g1,⟨g2,g3,g4,g5⟩,g6,g7,g8,g9,g10,g11⟩:=hr9;refine⟨g1.touch hf hvl t,⟨g2,g3.touch t (by rw [eb];exact f4),g4,g5.touch t (by rw [eb];exact f5)⟩,g6,g7.touch t (by rw [esp];exact f3),g8,g9,g10,g11⟩
theorem yL (w:World) (y:AO) (ls:List Int) (cs:List (Int×Int×Int)) (js:List (Int×Int)) (xs:List (Int×Bs)) (h:tf w y ls cs js xs):CP 58 #[y.v] w fun e w'=>∃u,e= .returned u∧KQ w u w':=
 (vT w y ls cs js xs h).mono fun _ _ ⟨u,e,v,r,s,T,h1,h2,h3,h4,_⟩=>⟨u,e,v,r,s,T,h1,h2,h3,h4⟩
open Go.ChangeShapes Go.WideShapes
section
variable {H:Type} {enc0:TypeId×Value→H} {w:World} {base:Nat} {spare:Nat→Bool} {held:Bool}
theorem B5 {e:TypeId} (he:Tryz.prog.underlying e=some (.int .u16)):∀n cs' y,DataW.trod enc0 Tryz.prog w base spare held n e cs'=some y→∃m:Int,cs'=wY m:=by
 intro n cs' y h;obtain⟨i,hi,_⟩:=DataW.trod_int he h;exact⟨i,hi⟩
theorem A9 {b0:Nat} {v:Value} {d:DataW H} {p:List MemPlace} (hv:Value.okWide Tryz.prog w .any b0 GS v) (h:DataW.Trod enc0 Tryz.prog w base spare held GS v d p):∃(y:AO) (ls:List Int) (cs:List (Int×Int×Int)) (js:List (Int×Int)) (xs:List (Int×Bs)),v=y.v∧tf w y ls cs js xs:=by
 obtain⟨cs,rfl,hsz⟩:=okWide_struct Tryz.underlying27 hv;rw [show Tryz.prog.cellsOf GS=4 by kernel_rfl]at hsz;obtain⟨fuel,hf⟩:=h;obtain⟨xs,n,_,_,_,hlen,hF⟩:=DataW.trod_struct Tryz.underlying27 hf;have h0:DataW.trod enc0 Tryz.prog w base spare held n 22 ((cs.toList.drop 0).take (Tryz.prog.cellsOf 22))=xs[0]? :=hF 0 _ rfl;have h1:DataW.trod enc0 Tryz.prog w base spare held n 23 ((cs.toList.drop 1).take (Tryz.prog.cellsOf 23))=xs[1]? :=hF 1 _ rfl;have h2:DataW.trod enc0 Tryz.prog w base spare held n 24 ((cs.toList.drop 2).take (Tryz.prog.cellsOf 24))=xs[2]? :=hF 2 _ rfl;have h3:DataW.trod enc0 Tryz.prog w base spare held n 25 ((cs.toList.drop 3).take (Tryz.prog.cellsOf 25))=xs[3]? :=hF 3 _ rfl;rw [show Tryz.prog.cellsOf 22=1 by kernel_rfl]at h0;rw [show Tryz.prog.cellsOf 23=1 by kernel_rfl]at h1;rw [show Tryz.prog.cellsOf 24=1 by kernel_rfl]at h2;rw [show Tryz.prog.cellsOf 25=1 by kernel_rfl]at h3;have hl4:cs.toList.length=4:=by simpa using hsz
 obtain⟨l,hl⟩:∃l,cs.toList=l:=⟨_,rfl⟩;obtain rfl:cs=l.toArray:=by rw [←hl]
 rw [hl]at h0 h1 h2 h3 hl4
 match l,hl4,xs,hlen with
 | [a0,a1,a2,a3],_,[y0,y1,y2,y3],_=>
  obtain⟨s1,l1,e1,n1,k1,c1,m1,r1⟩:=jo (enc:=wY) (sz:=1) Tryz.underlying22 (by kernel_rfl) (fun _=>rfl) (Nat.succ_pos _) (B5 Tryz.underlying321) h0;obtain⟨s2,l2,e2,n2,k2,c2,m2,r2⟩:=jo (enc:=cz) (sz:=3) zc (by kernel_rfl) (fun _=>rfl) (Nat.succ_pos _) (xJ Tryz.underlying215 rfl rfl rfl Tryz.underlying3 Tryz.underlying3 Tryz.underlying3 (by kernel_rfl) (by kernel_rfl) (by kernel_rfl) (by kernel_rfl)) h1;obtain⟨s3,l3,e3,n3,k3,c3,m3,r3⟩:=jo (enc:=bj) (sz:=2) zd (by kernel_rfl) (fun _=>rfl) (Nat.succ_pos _) (Bd Tryz.underlying218 rfl rfl Tryz.underlying3 Tryz.underlying3 (by kernel_rfl) (by kernel_rfl) (by kernel_rfl)) h2;obtain⟨s4,l4,e4,n4,k4,c4,m4,r4⟩:=jo (enc:=aI) (sz:=2) sK (by kernel_rfl) (fun _=>rfl) (Nat.succ_pos _) (rB Tryz.underlying75 rfl rfl Tryz.underlying3 Cj (by kernel_rfl) (by kernel_rfl) (by kernel_rfl)) h3;simp at e1 e2 e3 e4;subst e1 e2 e3 e4;exact⟨⟨s1,s2,s3,s4⟩,l1,l2,l3,l4,rfl,n1,r1,n2,r2,n3,r3,n4,r4,c2,c3,by unfold maxLen at m4;omega⟩
end
open Go Go.Value
def KF (a:ByteArray) (w:World) (R:RW):Prop:=
 ∀b:KW,(∀(c:Int) (d:OA) (f g:Nat) (h:World),(ac (decide (c< (a.size:Int)))
 ((0:Int)≤c∧c< (a.size:Int)∧
 ∀i,i=h.alloc (.cells #[int .i64 (IntKind.wrap .i64 (de a c))] 3)→
 ∃j k l m,(Builtin.append_ #[28,28] 28 #[slice d f g,slice (some (nb h)) 1 1]).run Tryz.prog i= .ok (slice j k l) m∧
 Ar .i64 (c+1) (fun n=>
 b [int .i64 n,slice j k l] m))
 (R (slice d f g) h))→b [int .i64 c,slice d f g] h)→
 b [int .i64 0,slice none 0 0] w
theorem yo (a:ByteArray) (w:World) (R:RW) (hh:KF a w R):CR 27 #[string a] w R:=
 aF (fn:=Tryz.f27) (by kernel_rfl) (by kernel_rfl) (by kernel_rfl) (by kernel_rfl) (by kernel_rfl) hh
def we (l:List Int):Bs:=l.map fun x=>UInt8.ofNat x.toNat
theorem AU (V:Voc) (x:Int) (r:List Int):V.encP (x::r)=if x<0 then [V.sp.getD (-1-x).toNat 0]else after V.ms V.ms.length (x::r):=rfl
theorem pV (w:World) (s:Bs) (hs:s.length≤100000):
  CP 27 #[.string (str s)] w fun e w'=>∃l:Sl,e= .returned l.v∧l.n=s.length∧w'.ownsRow w.heap.size ba 1 l.v l.n ((aK s).flatMap av)∧Below w.heap.size w w':=by
 refine aO (yo (str s) w) ?_;intro I hI;have key:=aX (α:=Sl×World) s.length (fun i y=>y.2.ownsRow w.heap.size ba 1 y.1.v y.1.n ((aK (s.take i)).flatMap av)∧y.1.n=i∧Below w.heap.size w y.2) (fun i y=>I [.int .i64 (i:Int),y.1.v] y.2) (cT,w) ⟨bR _ _ _ _ av,rfl,Below.refl _ _⟩ ?_ ?_
 ·exact key
 ·rintro i hi ih ⟨f,q⟩ ⟨hown,hfn,hB⟩;change q.ownsRow w.heap.size ba 1 f.v f.n _ at hown;change f.n=i at hfn;change Below w.heap.size w q at hB;refine hI _ f.a f.n f.c q (ac.yes (decide_eq_true (by rw [aB];omega)) ⟨by omega,by rw [aB];omega,?_⟩);intro q2 hq2;have hbt:de (str s) (i:Int)=((s[i].toNat:Nat):Int):=by
   unfold de;show((s.toArray[(i:Int).toNat]?).map _).getD 0=_;rw [show((i:Int)).toNat=i from rfl,List.getElem?_toArray,List.getElem?_eq_getElem hi];rfl
  have hlt:=s[i].toNat_lt;rw [hbt,du (by show(-9223372036854775808:Int)≤_;omega) (by show _≤(9223372036854775807:Int);omega)]at hq2;obtain⟨f',q3,e1,e2,e3,e4,_⟩:=cK.push hown ((s[i].toNat:Nat):Int) hq2 rfl hB.size (by omega) (by decide);refine⟨f'.a,f'.n,f'.c,q3,e2,Ar.nat (i+1) rfl (by omega) (ih (f',q3) ⟨?_,by show f'.n=i+1;omega,e4 _ hB⟩)⟩;have e:aK (s.take (i+1))=aK (s.take i)++ [((s[i].toNat:Nat):Int)]:=by
   unfold aK;rw [List.take_add_one,List.getElem?_eq_getElem hi,List.map_append];rfl
  rw [e];exact e3
 ·rintro⟨f,q⟩ ⟨hown,hfn,hB⟩;change q.ownsRow w.heap.size ba 1 f.v f.n _ at hown;rw [List.take_length]at hown;exact hI _ f.a f.n f.c q (ac.no (decide_eq_false (by rw [aB];omega)) ⟨f,rfl,hfn,hown,hB⟩)
open Go Go.RowKit Go.Shelf
attribute [local go_sem] Oper.semAt_some
theorem Db (V:Voc) (p:List Int):(V.encP p).length≤p.length:=by
 cases p with
 |nil=>exact Nat.le_refl _
 |cons x r=>
  rw [AU];split
  ·simp
  ·exact fI V.ms (x::r) _ (Nat.le_refl _)
theorem sI (V:Voc) (Z:List Int):(V.encode Z).length≤Z.length:=by
 have:=ld (f:=V.encP) (Db V) (chop V.cut Z);rw [(dx Z).2]at this;exact this
attribute [local go_sem] Oper.semAt_some
def lQ (V:Voc) (ids:List Int):Option Nat→Prop
 |none=>∀(i:Nat) (h:i<ids.length),V.Has ids[i]∧V.Canon (ids.take (i+1))
 |some k=>(∀(i:Nat) (h:i<ids.length),i<k→V.Has ids[i]∧V.Canon (ids.take (i+1)))∧∃h:k<ids.length,¬(V.Has ids[k]∧V.Canon (ids.take (k+1)))
theorem fi {s:aq} {T:List aP} (hok:eA T) (t:Int):dM s T t=true↔(aA s T).Has t:=by
 unfold dM;rw [decide_eq_true_eq,eK hok];exact Or.comm
def qf:aq:={merges:=[(97,98)]}
def sE:List aP:=bc++ [([97,98],(97,98))]
theorem DG:qf.right=true:=by decide+kernel
theorem Cp:cD qf= .ok sE:=by
 have h:(match cD qf with | .ok t=>decide (t=sE) | .error _=>false)=true:=by decide+kernel
 cases hx:cD qf with
 |error q=>rw [hx]at h;cases h
 |ok t=>rw [hx]at h;rw [of_decide_eq_true h]
theorem Ba (w w1:World) (hw1:w1=w.alloc (.cells #[Value.int .i64 97,Value.int .i64 98] jY)):cR w1 ⟨false,⟨some (nb w),1,1⟩,⟨none,0,0⟩,⟨none,0,0⟩,⟨none,0,0⟩,⟨none,0,0⟩⟩ qf:=by
 have l1:w1.heap[w.heap.size]? =some (.cells #[Value.int .i64 97,Value.int .i64 98] jY (0,0)):=by subst hw1;exact am _ _
 have none_:∀ {α:Type} {enc:α→List Value} {sz:Nat},Rw enc sz w1 none []:=fun j x hj=>by simp at hj
 refine⟨rfl,rfl,fun j x hj=>?_,rfl,none_,rfl,none_,rfl,none_,rfl,none_⟩;have hj0:j=0:=by
  have:=(List.getElem?_eq_some_iff.1 hj).1;simp [qf]at this;exact this
 subst hj0;have hx:x=(97,98):=by simpa [qf]using hj.symm
 subst hx;refine⟨nb w,rfl,(Array.getElem?_eq_some_iff.1 l1).1,fun k v hk=>?_⟩;rw [Nat.zero_mul,au,af _ _ l1]
 match k,hk with
 |0,hk=>cases hk;rfl
 |1,hk=>cases hk;rfl
theorem DH (w w1:World) (xs:List Int) (c:Array Value) (hc:c=(xs.map fun n=>Value.int .i64 n).toArray) (hw1:w1=w.alloc (.cells c ba)):Rw av 1 w1 (some (nb w)) xs:=by
 intro j x hj;have l1:w1.heap[w.heap.size]? =some (.cells c ba (0,0)):=by subst hw1;exact am _ _
 refine⟨nb w,rfl,(Array.getElem?_eq_some_iff.1 l1).1,fun k v hk=>?_⟩
 match k,hk with
 |0,hk=>
  cases hk;rw [au,Nat.mul_one,af _ _ l1,hc];simp [hj]
def Ky (a:OA) (b c:Nat) (d:OA) (f g:Nat) (w:World) (R:RW):Prop:=
 ac ((b:Int) != (f:Int))
 (R (bool false) w)
 (∀h:KW,(∀(i:Int) (j:Bool) (k:World),(ac (decide (i< (b:Int)))
 (∀l,l=k.drew→
 ag a (fun m=>
 (0:Int)≤i∧i< (b:Int)∧
 ∃n,l.cell? (m.add (i.toNat*1))=some (int .i64 n)∧
 ag d (fun o=>
 (0:Int)≤i∧i< (f:Int)∧
 ∃p,l.cell? (o.add (i.toNat*1))=some (int .i64 p)∧
 ac (n != p)
 (R (bool false) l)
 (Ar .i64 (i+1) (fun q=>
 h [int .i64 q,bool j] l)))))
 (R (bool true) k))→h [int .i64 i,bool j] k)→
 h [int .i64 0,bool false] w)
theorem zy (a:OA) (b c:Nat) (d:OA) (f g:Nat) (w:World) (R:RW) (hh:Ky a b c d f g w R):CR 28 #[slice a b c,slice d f g] w R:=
 aF (fn:=Tryz.f28) (by kernel_rfl) (by kernel_rfl) (by kernel_rfl) (by kernel_rfl) (by kernel_rfl) hh
def KI (a:OA) (w:World) (R:RW):Prop:=
 ac (Option.isNone a)
 (R (pointer none) w)
 (∀b,b=w.alloc (.cells #[pointer none,int .i64 0] 242)→
 CP 151 #[pointer (some (nb w))] b (fun c d=>
 ∃f,c= .returned (pointer f)∧
 (pointer f).oneCell'=true∧(∃u,d.cell? ((nb w).add 0)=some u)∧d.frozen? ((nb w).add 0)=false∧
 ∀g,g=(d.setCell ((nb w).add 0) (pointer f))→
 CP 143 #[pointer a] g (fun h i=>
 ∃j,h= .returned (int .i64 j)∧
 ∀k:KW,(∀(l:Int) (m:World),(ac (decide (l<j))
 (CP 126 #[pointer a,int .i64 l] m (fun n o=>
 ∃p q,n= .returned (tuple #[string p,bool q])∧
 CP 152 #[pointer (some (nb w)),string p,int .i64 l] o (fun r s=>
 r= .returned (tuple #[])∧
 Ar .i64 (l+1) (fun t=>
 k [int .i64 t] s))))
 (R (pointer (some (nb w))) m))→k [int .i64 l] m)→
 k [int .i64 0] i)))
theorem zk (a:OA) (w:World) (R:RW) (hh:KI a w R):CR 77 #[pointer a] w R:=
 aF (fn:=Tryz.f77) (by kernel_rfl) (by kernel_rfl) (by kernel_rfl) (by kernel_rfl) (by kernel_rfl) hh
def IQ (a:OA) (b c:Nat) (d:Value) (w:World) (R:RW):Prop:=
 CP 113 #[slice a b c,d] w (fun f g=>
 ∃h,f= .returned (int .i64 h)∧
 ac (h==(-1))
 (R (slice a b c) g)
 (Ar .i64 (h+1) (fun i=>
 ∀j:KW,(∀(k l:Int) (m:World),(ac (decide (k< (b:Int)))
 (∀n:KW,(∀(o:Int) (p:World),(Ar .i64 (k+1) (fun q=>
 j [int .i64 q,int .i64 o] p))→n [int .i64 o] p)→
 ag a (fun r=>
 (0:Int)≤k∧k< (b:Int)∧
 ∃s,m.cell? (r.add (k.toNat*1))=some (int .i64 s)∧
 bP gW d [int .i64 s] m (fun t x=>
 ∃y,t= .returned (bool y)∧
 ac (!y)
 (ag a (fun z=>
 (0:Int)≤l∧l< (b:Int)∧
 (int .i64 s).oneCell'=true∧(∃u,x.cell? (z.add (l.toNat*1))=some u)∧x.frozen? (z.add (l.toNat*1))=false∧
 ∀a1,a1=(x.setCell (z.add (l.toNat*1)) (int .i64 s))→
 Ar .i64 (l+1) (fun b1=>
 n [int .i64 b1] a1)))
 (n [int .i64 l] x))))
 ((0:Int)≤l∧l≤(b:Int)∧True∧True∧True∧
 ∃c1,(Builtin.clear_ #[28] 0 #[slice (bW a l.toNat (c:Int).toNat 1) ((b:Int).toNat-l.toNat) ((c:Int).toNat-l.toNat)]).run Tryz.prog m= .ok (tuple #[]) c1∧
 (0:Int)≤(0:Int)∧(0:Int)≤l∧l≤(c:Int)∧True∧True∧
 R (slice (bW a (0:Int).toNat (c:Int).toNat 1) (l.toNat- (0:Int).toNat) ((c:Int).toNat- (0:Int).toNat)) c1))→j [int .i64 k,int .i64 l] m)→
 j [int .i64 i,int .i64 h] g)))
theorem mK (a:OA) (b c:Nat) (d:Value) (w:World) (R:RW) (hh:IQ a b c d w R):CR 117 #[slice a b c,d] w R:=
 aF (fn:=Tryz.f117) (by kernel_rfl) (by kernel_rfl) (by kernel_rfl) (by kernel_rfl) (by kernel_rfl) hh
def G7 (a:OA) (b:ByteArray) (w:World) (R:RW):Prop:=
 ac (Option.isNone a)
 (R (slice none 0 0) w)
 (ag a (fun c=>
 ∃d,w.cell? (c.add 0)=some (pointer d)∧
 ∀f:KW,(∀(g:Int) (h i:OA) (j k:Nat) (l:World),(R (slice i j k) l)→f [int .i64 g,pointer h,slice i j k] l)→
 ∀m:KW,(∀(n:Int) (o p:OA) (q r:Nat) (s:World),(ac (decide (n< (b.size:Int)))
 (∀t:KW,(∀(u x:OA) (y z:Nat) (a1:World),(Ar .i64 (n+1) (fun b1=>
 m [int .i64 b1,pointer u,slice x y z] a1))→t [pointer u,slice x y z] a1)→
 ∀c1,c1=s.drew→
 ag o (fun d1=>
 ∃e1,c1.cell? (d1.add 0)=some (map e1)∧
 (0:Int)≤n∧n< (b.size:Int)∧
 ∃f1 g1,(Instr.lookup 273 (map e1) (int .u8 (de b n)) false).run Tryz.prog c1= .ok (pointer f1) g1∧
 ac (Option.isNone f1)
 (f [int .i64 n,pointer f1,slice p q r] g1)
 (ag f1 (fun h1=>
 ∃i1,g1.cell? (h1.add 1)=some (int .i64 i1)∧
 ac (i1 != (-1))
 (ag f1 (fun j1=>
 ∃k1,g1.cell? (j1.add 1)=some (int .i64 k1)∧
 ∀l1,l1=g1.alloc (.cells #[int .i64 k1] 3)→
 ∃m1 n1 o1 p1,(Builtin.append_ #[28,28] 28 #[slice p q r,slice (some (nb g1)) 1 1]).run Tryz.prog l1= .ok (slice m1 n1 o1) p1∧
 t [pointer f1,slice m1 n1 o1] p1))
 (t [pointer f1,slice p q r] g1)))))
 (f [int .i64 n,pointer o,slice p q r] s))→m [int .i64 n,pointer o,slice p q r] s)→
 m [int .i64 0,pointer d,slice none 0 0] w))
theorem vX (a:OA) (b:ByteArray) (w:World) (R:RW) (hh:G7 a b w R):CR 123 #[pointer a,string b] w R:=
 aF (fn:=Tryz.f123) (by kernel_rfl) (by kernel_rfl) (by kernel_rfl) (by kernel_rfl) (by kernel_rfl) hh
def Jd (a:OA) (b:ByteArray) (w:World) (R:RW):Prop:=
 CP 172 #[pointer a,string b] w (fun c d=>
 ∃f,c= .returned (pointer f)∧
 ac (Option.isNone f)
 (R (slice none 0 0) d)
 (CP 173 #[pointer f] d (fun g h=>
 ∃i j k,g= .returned (slice i j k)∧
 R (slice i j k) h)))
theorem uF (a:OA) (b:ByteArray) (w:World) (R:RW) (hh:Jd a b w R):CR 124 #[pointer a,string b] w R:=
 aF (fn:=Tryz.f124) (by kernel_rfl) (by kernel_rfl) (by kernel_rfl) (by kernel_rfl) (by kernel_rfl) hh
def II (a:OA) (w:World) (R:RW):Prop:=
 ag a (fun b=>
 ∃c,w.cell? (b.add 1)=some (int .i64 c)∧
 Ar .i64 (c+1) (fun d=>
 ag a (fun f=>
 (int .i64 d).oneCell'=true∧(∃u,w.cell? (f.add 1)=some u)∧w.frozen? (f.add 1)=false∧
 ∀g,g=(w.setCell (f.add 1) (int .i64 d))→
 ∃h i,(Instr.makeMap 273 none).run Tryz.prog g= .ok (map h) i∧
 ∀j,j=i.alloc (.cells #[map h,int .i64 (-1)] 275)→
 R (pointer (some (nb i))) j)))
theorem tK (a:OA) (w:World) (R:RW) (hh:II a w R):CR 151 #[pointer a] w R:=
 aF (fn:=Tryz.f151) (by kernel_rfl) (by kernel_rfl) (by kernel_rfl) (by kernel_rfl) (by kernel_rfl) hh
def HA (a:OA) (b:ByteArray) (c:Int) (w:World) (R:RW):Prop:=
 ag a (fun d=>
 ∃f,w.cell? (d.add 0)=some (pointer f)∧
 ∀g:KW,(∀(h:Int) (i:OA) (j:World),(ac (decide (h< (b.size:Int)))
 (∀k,k=j.drew→
 ag i (fun l=>
 ∃m,k.cell? (l.add 0)=some (map m)∧
 (0:Int)≤h∧h< (b.size:Int)∧
 ∃n o p,(Instr.lookup 273 (map m) (int .u8 (de b h)) true).run Tryz.prog k= .ok (tuple #[pointer n,bool o]) p∧
 ∀q:KW,(∀(r:OA) (s:World),(Ar .i64 (h+1) (fun t=>
 g [int .i64 t,pointer r] s))→q [pointer r] s)→
 ac (!o)
 (CP 151 #[pointer a] p (fun x y=>
 ∃z,x= .returned (pointer z)∧
 ∀a1,a1=y.drew→
 ag i (fun b1=>
 ∃c1,a1.cell? (b1.add 0)=some (map c1)∧
 (0:Int)≤h∧h< (b.size:Int)∧
 ∃d1,(Instr.mapUpdate 273 (map c1) (int .u8 (de b h)) (pointer z)).run Tryz.prog a1= .ok () d1∧
 q [pointer z] d1)))
 (q [pointer n] p)))
 (ag i (fun e1=>
 (int .i64 c).oneCell'=true∧(∃u,j.cell? (e1.add 1)=some u)∧j.frozen? (e1.add 1)=false∧
 ∀f1,f1=(j.setCell (e1.add 1) (int .i64 c))→
 R (tuple #[]) f1)))→g [int .i64 h,pointer i] j)→
 g [int .i64 0,pointer f] w)
theorem vg (a:OA) (b:ByteArray) (c:Int) (w:World) (R:RW) (hh:HA a b c w R):CR 152 #[pointer a,string b,int .i64 c] w R:=
 aF (fn:=Tryz.f152) (by kernel_rfl) (by kernel_rfl) (by kernel_rfl) (by kernel_rfl) (by kernel_rfl) hh
def IY (a:OA) (b:ByteArray) (w:World) (R:RW):Prop:=
 ac (Option.isNone a)
 (R (pointer none) w)
 (ag a (fun c=>
 ∃d,w.cell? (c.add 0)=some (pointer d)∧
 ∀f:KW,(∀(g:Int) (h:OA) (i:World),(ac (decide (g< (b.size:Int)))
 (ac (!(Option.isNone h))
 (∀j,j=i.drew→
 ag h (fun k=>
 ∃l,j.cell? (k.add 0)=some (map l)∧
 (0:Int)≤g∧g< (b.size:Int)∧
 ∃m n,(Instr.lookup 273 (map l) (int .u8 (de b g)) false).run Tryz.prog j= .ok (pointer m) n∧
 Ar .i64 (g+1) (fun o=>
 f [int .i64 o,pointer m] n)))
 (R (pointer h) i))
 (R (pointer h) i))→f [int .i64 g,pointer h] i)→
 f [int .i64 0,pointer d] w))
theorem wt (a:OA) (b:ByteArray) (w:World) (R:RW) (hh:IY a b w R):CR 172 #[pointer a,string b] w R:=
 aF (fn:=Tryz.f172) (by kernel_rfl) (by kernel_rfl) (by kernel_rfl) (by kernel_rfl) (by kernel_rfl) hh
def Jt (a:OA) (w:World) (R:RW):Prop:=
 ∀b,b=w.alloc (.cells #[slice none 0 0] 28)→
 ∀c,c=b.alloc (.cells #[Value.nilFunc] 335)→
 (func (.func 229) #[] #[pointer (some (nb w)),pointer (some (nb b))]).oneCell'=true∧(∃u,c.cell? (nb b)=some u)∧c.frozen? (nb b)=false∧
 ∀d,d=(c.setCell (nb b) (func (.func 229) #[] #[pointer (some (nb w)),pointer (some (nb b))]))→
 ∃f,d.cell? (nb b)=some (f)∧
 bP gW f [pointer a] d (fun g h=>
 g= .returned (tuple #[])∧
 ∃i j k,h.cell? (nb w)=some (slice i j k)∧
 CP 122 #[slice i j k] h (fun l m=>
 l= .returned (tuple #[])∧
 ∃n o p,m.cell? (nb w)=some (slice n o p)∧
 R (slice n o p) m))
theorem u0 (a:OA) (w:World) (R:RW) (hh:Jt a w R):CR 173 #[pointer a] w R:=
 aF (fn:=Tryz.f173) (by kernel_rfl) (by kernel_rfl) (by kernel_rfl) (by kernel_rfl) (by kernel_rfl) hh
def H4 (a b c:OA) (w:World) (R:RW):Prop:=
 ∀d:KW,(∀f:World,(ag a (fun g=>
 ∃h,f.cell? (g.add 0)=some (map h)∧
 ∃i j,(Instr.range 273 (map h)).run Tryz.prog f= .ok (pointer i) j∧
 ∀k:KW,(∀l:World,((∃m n,(Instr.next (pointer i) false 0).run Tryz.prog l= .ok (tuple #[bool m]) n∧
 ac m
 (∃o p q,(Instr.entry (pointer i)).run Tryz.prog n= .ok (tuple #[o,p]) q∧
 ag c (fun r=>
 ∃s,q.cell? r=some (s)∧
 bP gW s [p] q (fun t x=>
 t= .returned (tuple #[])∧
 k [] x)))
 (R (tuple #[]) n))∨
 (∃y z a1 b1,(Instr.next (pointer i) false 0).run Tryz.prog l= .ok (tuple #[bool y,z,a1]) b1∧
 ac y
 (∃c1 d1 e1,(Instr.entry (pointer i)).run Tryz.prog b1= .ok (tuple #[c1,d1]) e1∧
 ag c (fun f1=>
 ∃g1,e1.cell? f1=some (g1)∧
 bP gW g1 [d1] e1 (fun h1 i1=>
 h1= .returned (tuple #[])∧
 k [] i1)))
 (R (tuple #[]) b1)))→k [] l)→
 k [] j))→d [] f)→
 ag a (fun j1=>
 ∃k1,w.cell? (j1.add 1)=some (int .i64 k1)∧
 ac (k1 != (-1))
 (∀l1,l1=w.drew→
 ag b (fun m1=>
 ∃n1 o1 p1,l1.cell? m1=some (slice n1 o1 p1)∧
 ag a (fun q1=>
 ∃r1,l1.cell? (q1.add 1)=some (int .i64 r1)∧
 ∀s1,s1=l1.alloc (.cells #[int .i64 r1] 3)→
 (s1.cell? m1=some (slice n1 o1 p1)∧True)∧
 ∃t1 u1 v1 x1,(Builtin.append_ #[28,28] 28 #[slice n1 o1 p1,slice (some (nb l1)) 1 1]).run Tryz.prog s1= .ok (slice t1 u1 v1) x1∧
 ag b (fun y1=>
 (slice t1 u1 v1).oneCell'=true∧(∃u,x1.cell? y1=some u)∧x1.frozen? y1=false∧
 ∀z1,z1=(x1.setCell y1 (slice t1 u1 v1))→
 d [] z1))))
 (d [] w))
theorem un (a b c:OA) (w:World) (R:RW) (hh:H4 a b c w R):CR 229 #[pointer a,pointer b,pointer c] w R:=
 aF (fn:=Tryz.f229) (by kernel_rfl) (by kernel_rfl) (by kernel_rfl) (by kernel_rfl) (by kernel_rfl) hh
set_option linter.unusedSectionVars false
abbrev dh (b:UInt8):Value:=.int .u8 (b.toNat:Int)
theorem Bo {P:Program} {kt:TypeId} (hd:P.underlying kt=some (.int .u8)):gr P kt UInt8 dh:=by
 refine n_ hd (fun a b=>?_) (fun e k w=>?_)
 ·simp only [Instr.sameNow,dh];rw [if_pos trivial];congr 1;rw [Bool.eq_iff_iff,decide_eq_true_eq,beq_iff_eq];refine⟨fun h=>UInt8.toNat_inj.1 (by omega),fun h=>by rw [h]⟩
 ·unfold Instr.checkKey;simp [run_underlying hd,Result.andThen]
def gf {κ:Type} (kv:κ→Value) (w:World) (r:Nat) (m:List (κ×Value)):Prop:=∃es clock,w.heap[r]? =some (.map es clock)∧es.toList.map (fun x=>(x.key,x.val))=m.map (fun p=>(kv p.1,p.2))∧(∀x∈es.toList,x.born<clock)∧(es.toList.map (·.born)).Nodup
section
variable {P:Program} {kt et t:TypeId} {κ:Type} [DecidableEq κ] {kv:κ→Value}
theorem gf.is {w:World} {r:Nat} {m:List (κ×Value)} (h:gf kv w r m):bF kv w r m:=by
 obtain⟨es,c,h1,h2,h3,_⟩:=h;exact⟨es,c,h1,h2,h3⟩
theorem gf.same {w w':World} {r:Nat} {m:List (κ×Value)} (h:gf kv w r m) (hs:w'.heap[r]? =w.heap[r]?):gf kv w' r m:=by
 obtain⟨es,c,h1,h2⟩:=h;exact⟨es,c,by rw [hs];exact h1,h2⟩
theorem gf.lt {w:World} {r:Nat} {m:List (κ×Value)} (h:gf kv w r m):r<w.heap.size:=h.is.lt
theorem A5 (K:gr P kt κ kv) (ht:P.underlying t=some (.map kt et)) {w:World} {r:Nat} {m:List (κ×Value)} (h:gf kv w r m) (k:κ) (v:Value) (hk:eE k m=none):
  ∃w',(Instr.mapUpdate t (.map (some r)) (kv k) v).run P w= .ok () w'∧gf kv w' r (m++ [(k,v)])∧(∀j,j≠r→w'.heap[j]? =w.heap[j]?)∧w'.heap.size=w.heap.size∧(∀B w0,B≤r→Below B w0 w→Below B w0 w'):=by
 obtain⟨es,clock,hb,hm,hst,hnd⟩:=h;have hlt:=(Array.getElem?_eq_some_iff.1 hb).1;have hl:=fG k m 0;rw [hk]at hl;have hx:dO k m 0=none:=by
  cases hx:dO k m 0 with
  |none=>rfl
  |some q=>rw [hx]at hl;cases hl
 refine⟨{w with heap:=w.heap.setIfInBounds r (.map (es.push {key:=kv k,val:=v,born:=clock}) (clock+1))},?_,?_,?_,by simp,?_⟩
 ·unfold Instr.mapUpdate;simp only [Sem.run_bind,run_underlying ht,Result.andThen,fJ hb,K.check,K.find k es.toList m w hm,hx];exact jA _ hb
 ·refine⟨es.push {key:=kv k,val:=v,born:=clock},clock+1,by simp [hlt],by simp [hm],fun x hx=>?_,?_⟩
  ·rw [Array.toList_push,List.mem_append,List.mem_singleton]at hx;rcases hx with hx |rfl
   ·have:=hst x hx;omega
   ·exact Nat.lt_succ_self _
  ·rw [Array.toList_push,List.map_append,List.nodup_append];refine⟨hnd,by simp,fun a ha b hb' e=>?_⟩;obtain⟨x,hx,rfl⟩:=List.mem_map.1 ha;have:=hst x hx;simp at hb';omega
 ·intro j hj;simp [Array.getElem?_setIfInBounds_ne (fun e=>hj e.symm)]
 ·intro B w0 hB h0;exact h0.trans ⟨rfl,rfl,rfl,by simp,fun j hj=>by simp [Array.getElem?_setIfInBounds_ne (show r≠j by omega)]⟩
end
abbrev lU:TypeId:=275
abbrev uB:TypeId:=242
abbrev DX:TypeId:=273
abbrev BX:TypeId:=240
def oO (t u:Bs):Option UInt8:=if u.dropLast=t then u.getLast? else none
theorem eW {t u:Bs} {b:UInt8}:oO t u=some b↔u=t++ [b]:=by
 unfold oO;constructor
 ·intro h;split at h
  ·rename_i hd;obtain⟨ys,rfl⟩:=List.getLast?_eq_some_iff.1 h;rw [List.dropLast_concat]at hd;rw [hd]
  ·cases h
 ·rintro rfl;simp
def cH (nd:Bs→Nat) (t u:Bs):Option (UInt8×Value):=(oO t u).map fun b=>(b,.pointer (some ⟨nd u,0,none⟩))
def fN (S:List Bs) (nd:Bs→Nat) (t:Bs):List (UInt8×Value):=S.filterMap (cH nd t)
theorem gX (nd:Bs→Nat) (t:Bs) (b:UInt8):∀S:List Bs,eE b (fN S nd t)=if t++ [b]∈S then some (.pointer (some ⟨nd (t++ [b]),0,none⟩))else none
 | []=>rfl
 |u::S=>by
  have ih:=gX nd t b S;unfold fN at ih⊢;rw [List.filterMap_cons];cases h:oO t u with
  |none=>
   have hne:¬t++ [b]=u:=fun e=>by
    rw [eW.2 e.symm]at h;cases h
   have e:cH nd t u=none:=by
    unfold cH;rw [h];rfl
   rw [e];dsimp only;rw [ih];simp only [List.mem_cons,hne,false_or]
  |some c=>
   have hu:=eW.1 h;have e:cH nd t u=some (c,.pointer (some ⟨nd u,0,none⟩)):=by
    unfold cH;rw [h];rfl
   rw [e];dsimp only;rw [eE];by_cases hb:b=c
   ·subst hb;rw [if_pos rfl,if_pos (by rw [←hu];exact List.mem_cons_self), ←hu]
   ·have hne:¬t++ [b]=u:=fun e=>by
     rw [hu]at e;have:=List.append_cancel_left e;simp at this;exact hb this
    rw [if_neg hb,ih];simp only [List.mem_cons,hne,false_or]
theorem iJ {S:List Bs} {nd:Bs→Nat} {t:Bs} {p:UInt8×Value}:p∈fN S nd t↔t++ [p.1]∈S∧p.2= .pointer (some ⟨nd (t++ [p.1]),0,none⟩):=by
 unfold fN;rw [List.mem_filterMap];constructor
 ·rintro⟨u,hu,h⟩;unfold cH at h;cases hk:oO t u with
  |none=>rw [hk]at h;cases h
  |some b=>
   rw [hk]at h;cases h;have:=eW.1 hk;subst this;exact⟨hu,rfl⟩
 ·rintro⟨h1,h2⟩;refine⟨_,h1,?_⟩;unfold cH;rw [eW.2 rfl];rw [←h2];rfl
theorem je {α β:Type} {f g:α→Option β}:∀ {l:List α},(∀x∈l,f x=g x)→l.filterMap f=l.filterMap g
 | [],_=>rfl
 |x::l,h=>by rw [List.filterMap_cons,List.filterMap_cons,h x List.mem_cons_self,je fun y hy=>h y (List.mem_cons_of_mem _ hy)]
def xy {α:Type} (f:Bs→α) (s:Bs) (v:α) (u:Bs):α:=if u=s then v else f u
theorem dp {α:Type} (f:Bs→α) (s:Bs) (v:α):xy f s v s=v:=if_pos rfl
theorem bQ {α:Type} {f:Bs→α} {s:Bs} {v:α} {u:Bs} (h:u≠s):xy f s v u=f u:=if_neg h
theorem DO {S:List Bs} {nd:Bs→Nat} {s:Bs} (k:Nat) (hs:s∉S) (t:Bs):fN S (xy nd s k) t=fN S nd t:=by
 unfold fN;refine je fun u hu=>?_;unfold cH;rw [bQ (fun e=>hs (by rw [←e];exact hu))]
structure bB (w:World) (n₀:Nat) (S:List Bs) (nd mp:Bs→Nat) (idf:Bs→Int):Prop where
 root: []∈S
 nodup:S.Nodup
 closed:∀t b,t++ [b]∈S→t∈S
 base:∀t∈S,n₀≤nd t∧n₀≤mp t
 node:∀t∈S,w.heap[nd t]? =some (.cells #[.map (some (mp t)),.int .i64 (idf t)] lU (0,0))
 map:∀t∈S,gf dh w (mp t) (fN S nd t)
 ndInj:∀t∈S,∀u∈S,nd t=nd u→t=u
 mpInj:∀t∈S,∀u∈S,mp t=mp u→t=u
 off:∀t,t∉S→idf t= -1
theorem bB.on {w w':World} {n₀:Nat} {S:List Bs} {nd mp:Bs→Nat} {idf:Bs→Int} (h:bB w n₀ S nd mp idf) (hb:Below w.heap.size w w'):bB w' n₀ S nd mp idf:=
 ⟨h.root,h.nodup,h.closed,h.base,fun t ht=>aj hb (h.node t ht),fun t ht=>(h.map t ht).same (hb.block _ (h.map t ht).lt),h.ndInj,h.mpInj,h.off⟩
theorem bB.ne {w:World} {n₀:Nat} {S:List Bs} {nd mp:Bs→Nat} {idf:Bs→Int} (h:bB w n₀ S nd mp idf) {t u:Bs} (ht:t∈S) (hu:u∈S):nd t≠mp u:=by
 intro e;have h1:=h.node t ht;obtain⟨es,c,h2,_⟩:=h.map u hu;rw [e,h2]at h1;cases h1
theorem bB.grow {w w4:World} {n₀:Nat} {S:List Bs} {nd mp:Bs→Nat} {idf:Bs→Int} (h:bB w n₀ S nd mp idf) {t:Bs} {b:UInt8} (ht:t∈S) (hs:t++ [b]∉S) {k1 k2 r:Nat} (hn:n₀≤w.heap.size) (hk1:w.heap.size≤k1) (hk2:w.heap.size≤k2)
  (hnode:w4.heap[k2]? =some (.cells #[.map (some k1),.int .i64 (-1)] lU (0,0))) (hmap:gf dh w4 k1 []) (hput:gf dh w4 (mp t) (fN S nd t++ [(b,.pointer (some ⟨k2,0,none⟩))]))
  (hsame:∀j,j<w.heap.size→j≠mp t→j≠r→w4.heap[j]? =w.heap[j]?) (hr:∀u∈S,nd u≠r∧mp u≠r):
  bB w4 n₀ (S++ [t++ [b]]) (xy nd (t++ [b]) k2) (xy mp (t++ [b]) k1) idf:=by
 have old:∀ {u:Bs},u∈S→u≠t++ [b]:=fun hu e=>hs (by rw [←e];exact hu);have ndl:∀u∈S,nd u<w.heap.size:=fun u hu=>(Array.getElem?_eq_some_iff.1 (h.node u hu)).1;have mpl:∀u∈S,mp u<w.heap.size:=fun u hu=>(h.map u hu).lt;have two:∀ {u:Bs},u∈S++ [t++ [b]]→u∈S∨u=t++ [b]:=fun hu=>by simpa using hu
 have kid:∀u,fN (S++ [t++ [b]]) (xy nd (t++ [b]) k2) u=fN S nd u++if u=t then [(b,.pointer (some ⟨k2,0,none⟩))]else []:=by
  intro u;have e:=DO (S:=S) (nd:=nd) k2 hs u;unfold fN at e⊢;rw [List.filterMap_append,e];congr 1;rw [List.filterMap_cons,List.filterMap_nil];by_cases hu:u=t
  ·subst hu;have e2:cH (xy nd (u++ [b]) k2) u (u++ [b])=some (b,.pointer (some ⟨k2,0,none⟩)):=by
    unfold cH;rw [eW.2 rfl,dp];rfl
   rw [e2,if_pos rfl]
  ·have e2:cH (xy nd (t++ [b]) k2) u (t++ [b])=none:=by
    unfold cH;cases hk:oO u (t++ [b])with
    |none=>rfl
    |some c=>
     have:=eW.1 hk;have:=(List.append_inj' this rfl).1;exact absurd this.symm hu
   rw [e2,if_neg hu]
 refine⟨List.mem_append_left _ h.root,by rw [List.nodup_append];exact⟨h.nodup,by simp,fun a ha b hb e=>by rw [List.mem_singleton.1 hb]at e;exact old ha e⟩,?_,?_,?_,?_,?_,?_,?_⟩
 ·intro u c hu;rcases two hu with hu |hu
  ·exact List.mem_append_left _ (h.closed u c hu)
  ·have:=(List.append_inj' hu rfl).1;subst this;exact List.mem_append_left _ ht
 ·intro u hu;rcases two hu with hu |rfl
  ·rw [bQ (old hu),bQ (old hu)];exact h.base u hu
  ·rw [dp,dp];omega
 ·intro u hu;rcases two hu with hu |rfl
  ·rw [bQ (old hu),bQ (old hu),hsame _ (ndl u hu) (h.ne hu ht) (hr u hu).1];exact h.node u hu
  ·rw [dp,dp,hnode,h.off _ hs]
 ·intro u hu;rw [kid u];rcases two hu with hu |rfl
  ·rw [bQ (old hu)];by_cases e:u=t
   ·subst e;rw [if_pos rfl];exact hput
   ·rw [if_neg e,List.append_nil];exact(h.map u hu).same (hsame _ (mpl u hu) (fun e2=>e (h.mpInj u hu t ht e2)) (hr u hu).2)
  ·have e:t++ [b]≠t:=fun e=>by
    have:=congrArg List.length e;simp at this
   rw [dp,if_neg e,List.append_nil];have:fN S nd (t++ [b])= []:=by
    refine List.eq_nil_iff_forall_not_mem.2 fun p hp=>?_;exact hs (h.closed _ _ (iJ.1 hp).1)
   rw [this];exact hmap
 ·intro u hu x hx e;rcases two hu with hu |rfl
  ·rcases two hx with hx |rfl
   ·rw [bQ (old hu),bQ (old hx)]at e;exact h.ndInj u hu x hx e
   ·rw [bQ (old hu),dp]at e;have:=ndl u hu;omega
  ·rcases two hx with hx |rfl
   ·rw [bQ (old hx),dp]at e;have:=ndl x hx;omega
   ·rfl
 ·intro u hu x hx e;rcases two hu with hu |rfl
  ·rcases two hx with hx |rfl
   ·rw [bQ (old hu),bQ (old hx)]at e;exact h.mpInj u hu x hx e
   ·rw [bQ (old hu),dp]at e;have:=mpl u hu;omega
  ·rcases two hx with hx |rfl
   ·rw [bQ (old hx),dp]at e;have:=mpl x hx;omega
   ·rfl
 ·intro u hu;exact h.off u fun hx=>hu (List.mem_append_left _ hx)
theorem bB.setId {w:World} {n₀:Nat} {S:List Bs} {nd mp:Bs→Nat} {idf:Bs→Int} (h:bB w n₀ S nd mp idf) {s:Bs} (hs:s∈S) (id:Int):bB (w.setCell ((⟨nd s,0,none⟩:Addr).add 1) (.int .i64 id)) n₀ S nd mp (xy idf s id):=by
 have other:∀j,j≠nd s→(w.setCell ((⟨nd s,0,none⟩:Addr).add 1) (.int .i64 id)).heap[j]? =w.heap[j]? :=fun j hj=>Below.heap_setCell _ _ _ j (fun e=>hj e);refine⟨h.root,h.nodup,h.closed,h.base,?_,?_,h.ndInj,h.mpInj,?_⟩
 ·intro t ht;by_cases e:t=s
  ·subst e;rw [bA (h.node t ht),dp];rfl
  ·rw [other _ (fun e2=>e (h.ndInj t ht s hs e2)),bQ e];exact h.node t ht
 ·intro t ht;exact(h.map t ht).same (other _ (h.ne hs ht).symm)
 ·intro t ht;rw [bQ (fun e=>ht (by rw [e];exact hs))];exact h.off t ht
abbrev Cr:TypeId:=5
theorem lF:Tryz.prog.underlying DX=some (.map Cr BX):=by kernel_rfl
theorem od:(Tryz.prog.info? BX).map (·.zero)=some (some (.pointer none)):=by kernel_rfl
theorem zL:gr Tryz.prog Cr UInt8 dh:=Bo (by kernel_rfl)
def c_ (w:World) (r:Nat) (root:Nat) (n:Int):Prop:=w.heap[r]? =some (.cells #[.pointer (some ⟨root,0,none⟩),.int .i64 n] uB (0,0))
theorem c_.off {w:World} {n₀ r:Nat} {S:List Bs} {nd mp:Bs→Nat} {idf:Bs→Int} {root:Nat} {n:Int} (hR:c_ w r root n) (h:bB w n₀ S nd mp idf):∀u∈S,nd u≠r∧mp u≠r:=by
 intro u hu;constructor
 ·intro e;have:=h.node u hu;rw [e]at this;rw [show w.heap[r]? =_ from hR]at this;cases this
 ·intro e;obtain⟨es,c,hm,_⟩:=h.map u hu;rw [e]at hm;rw [show w.heap[r]? =_ from hR]at hm;cases hm
theorem jK (w:World) (r:Nat) (p:Value) (n:Int) (h:w.heap[r]? =some (.cells #[p,.int .i64 n] uB (0,0))) (hn:0≤n∧n≤1000000000):
  CP 151 #[.pointer (some ⟨r,0,none⟩)] w fun e w'=>e= .returned (.pointer (some ⟨w.heap.size+1,0,none⟩))∧w'.heap[r]? =some (.cells #[p,.int .i64 (n+1)] uB (0,0))∧w'.heap[w.heap.size]? =some (.map #[] 0)∧w'.heap[w.heap.size+1]? =some (.cells #[.map (some w.heap.size),.int .i64 (-1)] lU (0,0))∧w'.heap.size=w.heap.size+2∧(∀j,j<w.heap.size→j≠r→w'.heap[j]? =w.heap[j]?)∧Below r w w':=by
 refine aO (tK (some ⟨r,0,none⟩) w) ?_;have hlt:=(Array.getElem?_eq_some_iff.1 h).1;refine ag.mk _ rfl ⟨n,af _ _ h 1,Ar.ok64 (by omega) (by omega) (ag.mk _ rfl ⟨rfl,⟨_,af _ _ h 1⟩,bf h,?_⟩)⟩;intro w1 hw1;have h1:w1.heap[r]? =some (.cells #[p,.int .i64 (n+1)] uB (0,0)):=by subst hw1;exact bA h _
 have z1:w1.heap.size=w.heap.size:=by subst hw1;rw [aW]
 have s1:∀j,j≠r→w1.heap[j]? =w.heap[j]? :=by
  intro j hj;subst hw1;exact Below.heap_setCell _ _ _ j (fun e=>hj e)
 have b1:Below r w w1:=by subst hw1;exact bz (Below.refl r w) (Nat.le_refl _) _
 refine⟨_,_,gQ DX,?_⟩;intro w3 hw3;obtain⟨w2,hw2⟩:∃w2,w1.alloc (.map #[] 0)=w2:=⟨_,rfl⟩;rw [hw2]at hw3⊢;have b2:Below w1.heap.size w1 w2:=by subst hw2;exact ai _ _
 have z2:w2.heap.size=w.heap.size+1:=by subst hw2;rw [World.size_alloc,z1]
 have m2:w2.heap[w.heap.size]? =some (.map #[] 0):=by subst hw2;rw [←z1];exact am _ _
 have b3:Below w2.heap.size w2 w3:=by subst hw3;exact ai _ _
 have n3:w3.heap[w.heap.size+1]? =some (.cells #[.map (some w.heap.size),.int .i64 (-1)] lU (0,0)):=by
  subst hw3;rw [←z2, ←z1];exact am _ _
 have z3:w3.heap.size=w.heap.size+2:=by subst hw3;rw [World.size_alloc,z2]
 refine⟨?_,aj b3 (aj b2 h1),?_,n3,z3,?_,?_⟩
 ·unfold nb;rw [z2]
 ·rw [b3.block _ (by omega)];exact m2
 ·intro j hj hne;rw [b3.block _ (by omega),b2.block _ (by omega),s1 j hne]
 ·exact b1.trans ((b2.mono (by omega)).trans (b3.mono (by omega)))
theorem wg {w:World} {k:Nat} (h:w.heap[k]? =some (.map #[] 0)):gf dh w k []:=⟨#[],0,h,rfl,by simp,by simp⟩
theorem iL {s:Bs} {i:Nat} (hi:i<s.length):s.take (i+1)=s.take i++ [s[i]]:=by
 rw [List.take_add_one,List.getElem?_eq_getElem hi];rfl
set_option maxHeartbeats 1000000 in
theorem sm (w:World) (n₀ r:Nat) (S:List Bs) (nd mp:Bs→Nat) (idf:Bs→Int) (h:bB w n₀ S nd mp idf) (n:Int) (hR:c_ w r (nd []) n) (hr:n₀≤r) (hn:0≤n∧n≤100000000) (s:Bs) (hs:s.length≤1000) (id:Int):
  CP 152 #[.pointer (some ⟨r,0,none⟩),.string (str s),.int .i64 id] w fun e w'=>e= .returned (.tuple #[])∧∃(S':List Bs) (nd' mp':Bs→Nat) (n':Int),bB w' n₀ S' nd' mp' (xy idf s id)∧c_ w' r (nd' []) n'∧0≤n'∧n'≤n+s.length∧(∀u,u∈S'↔u∈S∨u<+:s)∧Below n₀ w w':=by
 refine aO (vg (some ⟨r,0,none⟩) (str s) id w) ?_;have hrl:=(Array.getElem?_eq_some_iff.1 (show w.heap[r]? =_ from hR)).1;refine ag.mk _ rfl ⟨_,af _ _ hR 0,?_⟩;intro I hI;have key:=aX (α:=World×List Bs×(Bs→Nat)×(Bs→Nat)×Int) s.length
  (fun i y=>bB y.1 n₀ y.2.1 y.2.2.1 y.2.2.2.1 idf∧c_ y.1 r (y.2.2.1 []) y.2.2.2.2∧0≤y.2.2.2.2∧y.2.2.2.2≤n+i∧(∀u,u∈y.2.1↔u∈S∨∃j,j≤i∧u=s.take j)∧Below n₀ w y.1)
  (fun i y=>I [.int .i64 (i:Int),.pointer (some ⟨y.2.2.1 (s.take i),0,none⟩)] y.1) (w,S,nd,mp,n) ?_ ?_ ?_
 ·exact key
 ·refine⟨h,hR,hn.1,by show n≤n+_;omega,fun u=>⟨.inl,?_⟩,Below.refl _ _⟩;rintro(hu |⟨j,hj,rfl⟩)
  ·exact hu
  ·rw [show j=0 by omega];exact h.root
 ·rintro i hi ih ⟨q,S1,nd1,mp1,n1⟩ ⟨hT,hRq,hn1,hn2,hS,hB⟩;change bB q n₀ S1 nd1 mp1 idf at hT;change c_ q r (nd1 []) n1 at hRq;change 0≤n1 at hn1;change n1≤n+i at hn2;change ∀u,u∈S1↔u∈S∨∃j,j≤i∧u=s.take j at hS;change Below n₀ w q at hB;have ht:s.take i∈S1:=(hS _).2 (.inr ⟨i,Nat.le_refl _,rfl⟩);refine hI _ _ q (ac.yes (decide_eq_true (by rw [aB];omega)) ?_);intro w2 hw2;have b2:Below q.heap.size q w2:=by subst hw2;exact aL q
  have hqz:n₀≤q.heap.size:=Nat.le_trans (hT.base _ ht).2 (Nat.le_of_lt (hT.map _ ht).lt);have hB2:Below n₀ w w2:=hB.trans (b2.mono hqz);have hT2:=hT.on b2;have hR2:c_ w2 r (nd1 []) n1:=aj b2 hRq;have hbt:de (str s) (i:Int)=((s[i]).toNat:Int):=dl s i hi;have hlk:=fP zL lF od (hT2.map _ ht).is s[i];rw [gX, ←iL hi]at hlk;refine ag.mk _ rfl ⟨_,af _ _ (hT2.node _ ht) 0,by omega,by rw [aB];omega,?_⟩;rw [hbt];by_cases hin:s.take (i+1)∈S1
  ·rw [if_pos hin]at hlk;refine⟨_,_,w2,hlk,?_⟩;intro J hJ;refine ac.no rfl (hJ _ _ (Ar.nat (i+1) rfl (by omega) (ih (w2,S1,nd1,mp1,n1) ⟨hT2,hR2,hn1,by show n1≤n+((i+1:Nat):Int);omega,?_,hB2⟩)));intro u;show u∈S1↔_;rw [hS];refine⟨?_,?_⟩
   ·rintro(hu |⟨j,hj,rfl⟩)
    ·exact .inl hu
    ·exact .inr ⟨j,by omega,rfl⟩
   ·rintro(hu |⟨j,hj,rfl⟩)
    ·exact .inl hu
    ·by_cases e:j=i+1
     ·subst e;exact(hS _).1 hin
     ·exact .inr ⟨j,by omega,rfl⟩
  ·rw [if_neg hin]at hlk;refine⟨_,_,w2,hlk,?_⟩;intro J hJ;refine ac.yes rfl ((jK w2 r _ n1 hR2 ⟨hn1,by omega⟩).mono ?_);rintro e w5 ⟨rfl,r5,m5,n5,z5,s5,b5⟩;refine⟨_,rfl,?_⟩;intro w6 hw6;have b6:Below w5.heap.size w5 w6:=by subst hw6;exact aL w5
   have off:=c_.off hR2 hT2;have hnode:w6.heap[nd1 (s.take i)]? =some (.cells #[.map (some (mp1 (s.take i))),.int .i64 (idf (s.take i))] lU (0,0)):=by
    have hl:=(Array.getElem?_eq_some_iff.1 (hT2.node _ ht)).1;rw [b6.block _ (by omega),s5 _ hl (off _ ht).1];exact hT2.node _ ht
   have hmap:gf dh w6 (mp1 (s.take i)) (fN S1 nd1 (s.take i)):=by
    have hl:=(hT2.map _ ht).lt;exact(hT2.map _ ht).same (by rw [b6.block _ (by omega),s5 _ hl (off _ ht).2])
   obtain⟨w7,hp7,m7,s7,z7,k7⟩:=A5 zL lF hmap s[i] (.pointer (some ⟨w2.heap.size+1,0,none⟩)) (by rw [gX, ←iL hi,if_neg hin]);refine ag.mk _ rfl ⟨_,af _ _ hnode 0,by omega,by rw [aB];omega,w7,hp7,?_⟩;have hmz:=(hT2.map _ ht).lt;have mb:n₀≤mp1 (s.take i):=(hT2.base _ ht).2;have z6:w6.heap.size=w2.heap.size+2:=by subst hw6;exact z5
   have hB7:Below n₀ w w7:=k7 n₀ w mb ((hB2.trans (b5.mono hr)).trans (b6.mono (by omega)));have same7:∀j,j<w2.heap.size→j≠mp1 (s.take i)→j≠r→w7.heap[j]? =w2.heap[j]? :=by
    intro j hj h1 h2;rw [s7 j h1,b6.block _ (by omega),s5 j hj h2]
   have hT7:bB w7 n₀ (S1++ [s.take (i+1)]) (xy nd1 (s.take (i+1)) (w2.heap.size+1)) (xy mp1 (s.take (i+1)) w2.heap.size) idf:=by
    rw [iL hi]at hin⊢;refine hT2.grow ht hin (r:=r) (by omega) (Nat.le_refl _) (by omega) ?_ ?_ m7 same7 off
    ·rw [s7 _ (by omega),b6.block _ (by omega)];exact n5
    ·refine wg ?_;rw [s7 _ (by omega),b6.block _ (by omega)];exact m5
   have hR7:c_ w7 r (nd1 []) (n1+1):=by
    show w7.heap[r]? =_;have hrl2:=(Array.getElem?_eq_some_iff.1 (show w2.heap[r]? =_ from hR2)).1;rw [s7 _ (fun e=>(off _ ht).2 e.symm),b6.block _ (by omega)];exact r5
   have hne:([]:Bs)≠s.take (i+1):=fun e=>by
    have:=congrArg List.length e;rw [List.length_take]at this;simp at this;omega
   have:=ih (w7,S1++ [s.take (i+1)],xy nd1 (s.take (i+1)) (w2.heap.size+1),xy mp1 (s.take (i+1)) w2.heap.size,n1+1) ⟨hT7,by show c_ w7 r (xy nd1 (s.take (i+1)) (w2.heap.size+1) []) (n1+1);rw [bQ hne];exact hR7,by show 0≤n1+1;omega,by show n1+1≤n+((i+1:Nat):Int);omega,?_,hB7⟩
   ·dsimp only at this;rw [dp]at this;exact hJ _ _ (Ar.nat (i+1) rfl (by omega) this)
   ·intro u;show u∈S1++ [s.take (i+1)]↔_;rw [List.mem_append,List.mem_singleton,hS];refine⟨?_,?_⟩
    ·rintro((hu |⟨j,hj,rfl⟩) |rfl)
     ·exact .inl hu
     ·exact .inr ⟨j,by omega,rfl⟩
     ·exact .inr ⟨i+1,Nat.le_refl _,rfl⟩
    ·rintro(hu |⟨j,hj,rfl⟩)
     ·exact .inl (.inl hu)
     ·by_cases e:j=i+1
      ·subst e;exact .inr rfl
      ·exact .inl (.inr ⟨j,by omega,rfl⟩)
 ·rintro⟨q,S1,nd1,mp1,n1⟩ ⟨hT,hRq,hn1,hn2,hS,hB⟩;change bB q n₀ S1 nd1 mp1 idf at hT;change c_ q r (nd1 []) n1 at hRq;change ∀u,u∈S1↔u∈S∨∃j,j≤s.length∧u=s.take j at hS;change Below n₀ w q at hB;have ht:s∈S1:=(hS _).2 (.inr ⟨s.length,Nat.le_refl _,by rw [List.take_length]⟩);refine hI _ _ q (ac.no (decide_eq_false (by rw [aB];omega)) ?_);show ag (some ⟨nd1 (s.take s.length),0,none⟩) _;rw [List.take_length];refine ag.mk _ rfl ⟨rfl,⟨_,af _ _ (hT.node _ ht) 1⟩,bf (hT.node _ ht),?_⟩;intro w8 hw8;subst hw8;have hne:=(c_.off hRq hT s ht).1;refine⟨rfl,S1,nd1,mp1,n1,hT.setId ht id,?_,hn1,hn2,?_,bz hB (hT.base _ ht).1 _⟩
  ·show(q.setCell _ _).heap[r]? =_;rw [Below.heap_setCell _ _ _ r (fun e=>hne e.symm)];exact hRq
  ·intro u;rw [hS];refine⟨?_,?_⟩
   ·rintro(hu |⟨j,_,rfl⟩)
    ·exact .inl hu
    ·exact .inr (List.take_prefix j s)
   ·rintro(hu |hu)
    ·exact .inl hu
    ·exact .inr ⟨u.length,hu.length_le,(List.prefix_iff_eq_take.1 hu)⟩
theorem bB.pre {w:World} {n₀:Nat} {S:List Bs} {nd mp:Bs→Nat} {idf:Bs→Int} (h:bB w n₀ S nd mp idf) {u t:Bs} (hu:u∈S) (ht:t<+:u):t∈S:=by
 obtain⟨x,rfl⟩:=ht;obtain⟨n,hn⟩:∃n,x.length=n:=⟨_,rfl⟩;induction n generalizing x with
 |zero=>
  rw [List.eq_nil_of_length_eq_zero hn,List.append_nil]at hu;exact hu
 |succ n ih=>
  have hx:x≠ []:=fun e=>by rw [e]at hn;cases hn
  have e:t++x=(t++x.dropLast)++ [x.getLast hx]:=by rw [List.append_assoc,List.dropLast_concat_getLast]
  rw [e]at hu;exact ih x.dropLast (h.closed _ _ hu) (by rw [List.length_dropLast];omega)
theorem qz (w:World) (n₀ r:Nat) (S:List Bs) (nd mp:Bs→Nat) (idf:Bs→Int) (h:bB w n₀ S nd mp idf) (n:Int) (hR:c_ w r (nd []) n) (s:Bs) (hs:s.length≤1000000000):
  CP 172 #[.pointer (some ⟨r,0,none⟩),.string (str s)] w fun e w'=>e= .returned (.pointer (if s∈S then some ⟨nd s,0,none⟩else none))∧Below w.heap.size w w':=by
 refine aO (wt (some ⟨r,0,none⟩) (str s) w) ?_;refine ac.no rfl (ag.mk _ rfl ⟨_,af _ _ hR 0,?_⟩);intro I hI;have key:=aX (α:=World) s.length (fun i q=>Below w.heap.size w q) (fun i q=>I [.int .i64 (i:Int),.pointer (if s.take i∈S then some ⟨nd (s.take i),0,none⟩else none)] q) w (Below.refl _ _) ?_ ?_
 ·rw [List.take_zero,if_pos h.root]at key;exact key
 ·intro i hi ih q hq;by_cases hin:s.take i∈S
  ·rw [if_pos hin];refine hI _ _ q (ac.yes (decide_eq_true (by rw [aB];omega)) (ac.yes rfl ?_));intro w2 hw2;have b2:=ae hq (show Below q.heap.size q w2 by subst hw2;exact aL q);have hT2:=h.on b2;have hbt:de (str s) (i:Int)=((s[i]).toNat:Int):=dl s i hi;have hlk:=qD zL lF od (hT2.map _ hin).is s[i];rw [gX, ←iL hi]at hlk;refine ag.mk _ rfl ⟨_,af _ _ (hT2.node _ hin) 0,by omega,by rw [aB];omega,?_⟩;rw [hbt];have ih2:=ih w2 b2;by_cases hin2:s.take (i+1)∈S
   ·rw [if_pos hin2]at hlk ih2;exact⟨_,_,hlk,Ar.nat (i+1) rfl (by omega) ih2⟩
   ·rw [if_neg hin2]at hlk ih2;exact⟨_,_,hlk,Ar.nat (i+1) rfl (by omega) ih2⟩
  ·rw [if_neg hin];refine hI _ _ q (ac.yes (decide_eq_true (by rw [aB];omega)) (ac.no rfl ⟨?_,hq⟩));rw [if_neg fun hx=>hin (h.pre hx (List.take_prefix i s))]
 ·intro q hq;show I [.int .i64 _,.pointer (if s.take s.length∈S then some ⟨nd (s.take s.length),0,none⟩else none)] q;rw [List.take_length];refine hI _ _ q (ac.no (decide_eq_false (by rw [aB];omega)) ⟨rfl,hq⟩)
def kF (T:List aP) (u:Bs):Int:=kE (fun e:aP=>decide (e.1=u)) T
theorem Cm {α:Type} (p:α→Bool) (l:List α) (x:α):kE p (l++ [x])=if kE p l= -1 then(if p x=true then(l.length:Int)else -1)else kE p l:=by
 unfold kE;rw [List.findIdx?_append];cases h:l.findIdx? p with
 |some i=>
  have:¬((i:Nat):Int)= -1:=by omega
  simp [this]
 |none=>
  simp only [Option.none_or];rw [List.findIdx?_cons];by_cases hp:p x=true
  ·simp [hp]
  ·simp [hp]
theorem Bp {T:List aP} (hn:(T.map (·.1)).Nodup) {i:Nat} (hi:i<T.length):kF (T.take (i+1))=xy (kF (T.take i)) (T[i]).1 (i:Int):=by
 funext u;have e:T.take (i+1)=T.take i++ [T[i]]:=by rw [List.take_add_one,List.getElem?_eq_getElem hi];rfl
 have hl:(T.take i).length=i:=by rw [List.length_take];omega
 unfold kF;rw [e,Cm,hl];by_cases hu:u=(T[i]).1
 ·subst hu;rw [dp];have:kE (fun e:aP=>decide (e.1=(T[i]).1)) (T.take i)= -1:=by
   refine dT fun j hj=>?_;rw [hl]at hj;rw [decide_eq_false];intro e;rw [List.getElem_take]at e;have:=(List.getElem?_inj (i:=j) (j:=i) (by rw [List.length_map];omega) hn).1 (by rw [List.getElem?_map,List.getElem?_map,List.getElem?_eq_getElem (show j<T.length by omega),List.getElem?_eq_getElem hi];simp [e]);omega
  rw [if_pos this,if_pos (by simp)]
 ·rw [bQ hu];by_cases h1:kE (fun e:aP=>decide (e.1=u)) (T.take i)= -1
  ·rw [if_pos h1,h1,if_neg (by simp;exact fun e=>hu e.symm)]
  ·rw [if_neg h1]
set_option maxHeartbeats 1000000 in
theorem sL (w:World) (tp:Nat) (T:List aP) (hT:cQ w tp T) (hok:eA T):
  CP 77 #[.pointer (some ⟨tp,0,none⟩)] w fun e w'=>∃(r:Nat) (S:List Bs) (nd mp:Bs→Nat) (n:Int),e= .returned (.pointer (some ⟨r,0,none⟩))∧w.heap.size≤r∧bB w' w.heap.size S nd mp (kF T)∧c_ w' r (nd []) n∧(∀u,u∈S↔u= []∨∃e∈T,u<+:e.1)∧Below w.heap.size w w':=by
 refine aO (zk (some ⟨tp,0,none⟩) w) ?_;refine ac.no rfl ?_;intro w1 hw1;have b1:Below w.heap.size w w1:=by subst hw1;exact ai _ _
 have l1:w1.heap[w.heap.size]? =some (.cells #[.pointer none,.int .i64 0] uB (0,0)):=by subst hw1;exact am _ _
 have z1:w1.heap.size=w.heap.size+1:=by subst hw1;rw [World.size_alloc]
 refine(jK w1 w.heap.size _ 0 l1 (by omega)).mono ?_;rintro e w2 ⟨rfl,r2,m2,n2,z2,s2,b2⟩;have hb2:=b1.trans b2;refine⟨_,rfl,rfl,⟨_,af _ _ r2 0⟩,bf r2,?_⟩;intro w3 hw3;have r3:c_ w3 w.heap.size (w1.heap.size+1) 1:=by subst hw3;exact bA r2 _
 have s3:∀j,j≠w.heap.size→w3.heap[j]? =w2.heap[j]? :=by
  intro j hj;subst hw3;exact Below.heap_setCell _ _ _ j (fun e=>hj e)
 have hb3:Below w.heap.size w w3:=by subst hw3;exact bz hb2 (Nat.le_refl _) _
 have hT3:bB w3 w.heap.size [[]] (fun _=>w1.heap.size+1) (fun _=>w1.heap.size) (kF []):=by
  have one:∀ {u:Bs},u∈ [([]:Bs)]→u= []:=fun h=>by simpa using h
  refine⟨by simp,by simp,fun t b h=>?_,fun t _=>by omega,fun t _=>?_,fun t ht=>?_,fun t ht u hu _=>by rw [one ht,one hu],fun t ht u hu _=>by rw [one ht,one hu],fun t _=>rfl⟩
  ·have:=one h;simp at this
  ·rw [s3 _ (by omega),n2];rfl
  ·obtain rfl:=one ht;have:fN [[]] (fun _=>w1.heap.size+1) []= []:=by
    refine List.eq_nil_iff_forall_not_mem.2 fun p hp=>?_;have:=(iJ.1 hp).1;simp at this
   rw [this];refine wg ?_;rw [s3 _ (by omega)];exact m2
 refine(dG w3 tp T (hT.on hb3)).mono ?_;rintro e w4 ⟨rfl,hw⟩;subst w4;refine⟨_,rfl,?_⟩;intro I hI;have hmost:=hok.most;have key:=aX (α:=World×List Bs×(Bs→Nat)×(Bs→Nat)×Int) T.length
  (fun i y=>bB y.1 w.heap.size y.2.1 y.2.2.1 y.2.2.2.1 (kF (T.take i))∧c_ y.1 w.heap.size (y.2.2.1 []) y.2.2.2.2∧0≤y.2.2.2.2∧y.2.2.2.2≤1+64*i∧(∀u,u∈y.2.1↔u= []∨∃e∈T.take i,u<+:e.1)∧Below w.heap.size w y.1)
  (fun i y=>I [.int .i64 (i:Int)] y.1) (w3,[[]],fun _=>w1.heap.size+1,fun _=>w1.heap.size,1) ⟨hT3,r3,by show(0:Int)≤1;omega,by show(1:Int)≤1+64*_;omega,fun u=>by simp,hb3⟩ ?_ ?_
 ·exact key
 ·rintro i hi ih ⟨q,S1,nd1,mp1,n1⟩ ⟨hTq,hRq,hn1,hn2,hS,hB⟩;change bB q w.heap.size S1 nd1 mp1 (kF (T.take i))at hTq;change c_ q w.heap.size (nd1 []) n1 at hRq;change 0≤n1 at hn1;change n1≤1+64*i at hn2;change ∀u,u∈S1↔u= []∨∃e∈T.take i,u<+:e.1 at hS;change Below w.heap.size w q at hB;have htab:aZ T (i:Int):=⟨by omega,by omega⟩;obtain⟨e0,he0,hb0⟩:=dr htab;have he1:T[i]=e0:=by
   rw [show((i:Nat):Int).toNat=i by omega,List.getElem?_eq_getElem hi]at he0;exact Option.some.inj he0
  refine hI _ q (ac.yes (decide_eq_true (by omega)) ?_);refine(dS q tp T (hT.on hB) (i:Int)).mono ?_;rintro e w6 ⟨rfl,hw⟩;subst w6;refine⟨_,_,rfl,?_⟩;rw [if_pos htab,hb0, ←he1];have hsh:=hok.short _ (List.getElem_mem hi);refine(sm q w.heap.size w.heap.size S1 nd1 mp1 _ hTq n1 hRq (Nat.le_refl _) ⟨hn1,by omega⟩ (T[i]).1 (by omega) (i:Int)).mono ?_;rintro e w7 ⟨rfl,S2,nd2,mp2,n2',hT2,hR2,hn3,hn4,hS2,b7⟩;rw [←Bp hok.nodup hi]at hT2;refine⟨rfl,Ar.nat (i+1) rfl (by omega) (ih (w7,S2,nd2,mp2,n2') ⟨hT2,hR2,hn3,?_,?_,hB.trans b7⟩)⟩
  ·show n2'≤1+64*((i+1:Nat):Int);omega
  ·intro u;show u∈S2↔_;have e:T.take (i+1)=T.take i++ [T[i]]:=by rw [List.take_add_one,List.getElem?_eq_getElem hi];rfl
   rw [hS2,hS,e];simp only [List.mem_append,List.mem_singleton];constructor
   ·rintro((h |⟨x,hx,hp⟩) |h)
    ·exact .inl h
    ·exact .inr ⟨x,.inl hx,hp⟩
    ·exact .inr ⟨_,.inr rfl,h⟩
   ·rintro(h |⟨x,hx |rfl,hp⟩)
    ·exact .inl (.inl h)
    ·exact .inl (.inr ⟨x,hx,hp⟩)
    ·exact .inr hp
 ·rintro⟨q,S1,nd1,mp1,n1⟩ ⟨hTq,hRq,hn1,hn2,hS,hB⟩;change bB q w.heap.size S1 nd1 mp1 (kF (T.take T.length))at hTq;change c_ q w.heap.size (nd1 []) n1 at hRq;change ∀u,u∈S1↔u= []∨∃e∈T.take T.length,u<+:e.1 at hS;rw [List.take_length]at hTq hS;exact hI _ q (ac.no (decide_eq_false (by omega)) ⟨_,S1,nd1,mp1,n1,rfl,Nat.le_refl _,hTq,hRq,hS,hB⟩)
abbrev tO:TypeId:=335
theorem oB (nd:Bs→Nat) (t:Bs):∀ {S:List Bs},S.Nodup→((fN S nd t).map (·.1)).Nodup
 | [],_=>List.nodup_nil
 |u::S,h=>by
  rw [List.nodup_cons]at h;have ih:=oB nd t h.2;unfold fN at ih⊢;rw [List.filterMap_cons];cases hk:oO t u with
  |none=>
   have e:cH nd t u=none:=by
    unfold cH;rw [hk];rfl
   rw [e];exact ih
  |some b=>
   have e:cH nd t u=some (b,.pointer (some ⟨nd u,0,none⟩)):=by
    unfold cH;rw [hk];rfl
   rw [e];dsimp only;rw [List.map_cons,List.nodup_cons];refine⟨fun hb=>?_,ih⟩;obtain⟨p,hp,hpb⟩:=List.mem_map.1 hb;have:=(iJ (S:=S) (nd:=nd) (t:=t) (p:=p)).1 hp;rw [hpb]at this;have hu:=eW.1 hk;exact h.1 (by rw [hu];exact this.1)
def Br (S:List Bs) (idf:Bs→Int) (t:Bs) (x:Int):Prop:=x≠ -1∧∃u∈S,t<+:u∧idf u=x
theorem Br.up {S:List Bs} {idf:Bs→Int} {t u:Bs} {x:Int} (h:Br S idf u x) (htu:t<+:u):Br S idf t x:=by
 obtain⟨h1,y,hy,hp,he⟩:=h;exact⟨h1,y,hy,htu.trans hp,he⟩
theorem sS {w:World} {n₀:Nat} {S:List Bs} {nd mp:Bs→Nat} {idf:Bs→Int} (h:bB w n₀ S nd mp idf) {t:Bs} (ht:t∈S) (x:Int):Br S idf t x↔(x≠ -1∧idf t=x)∨∃b,t++ [b]∈S∧Br S idf (t++ [b]) x:=by
 constructor
 ·rintro⟨h1,u,hu,⟨y,rfl⟩,he⟩;cases y with
  |nil=>rw [List.append_nil]at he;exact .inl ⟨h1,he⟩
  |cons b y=>
   have hp:t++ [b] <+:t++b::y:=⟨y,by simp⟩;exact .inr ⟨b,h.pre hu hp,h1,_,hu,hp,he⟩
 ·rintro(⟨h1,h2⟩ |⟨b,_,hb⟩)
  ·exact⟨h1,t,ht,List.prefix_rfl,h2⟩
  ·exact hb.up ⟨[b],rfl⟩
structure nw (w0 w:World) (xs:List Int):Prop where
 le:Below w0.heap.size w0 w
 gb:w.heap[w0.heap.size+1]? =some (.cells #[.func (.func 229) #[] #[.pointer (some ⟨w0.heap.size,0,none⟩),.pointer (some ⟨w0.heap.size+1,0,none⟩)]] tO (0,0))
 out:∃o:Sl,Boxed w w0.heap.size cI o.v∧w.ownsRow w0.heap.size ba 1 o.v o.n (xs.flatMap av)
theorem nw.on {w0 w w':World} {xs:List Int} (h:nw w0 w xs) (hb:Below w.heap.size w w'):nw w0 w' xs:=by
 obtain⟨o,h1,h2⟩:=h.out;exact⟨ae h.le hb,aj hb h.gb,o,aj hb h1,aJ h2 hb⟩
theorem sH {xs:List Int} {N:Nat} (hn:xs.Nodup) (hr:∀x∈xs,0≤x∧x<N):xs.length≤N:=by
 have:=List.Nodup.length_le_of_subset (l₂:=(List.range N).map fun(i:Nat)=>(i:Int)) hn (fun x hx=>by
  obtain⟨h1,h2⟩:=hr x hx;exact List.mem_map.2 ⟨x.toNat,List.mem_range.2 (by omega),by omega⟩)
 rwa [List.length_map,List.length_range]at this
theorem nw.push {w0 w1 w2:World} {xs:List Int} {o:Sl} (h:nw w0 w1 xs) (hb:Boxed w1 w0.heap.size cI o.v) (ho:w1.ownsRow w0.heap.size ba 1 o.v o.n (xs.flatMap av)) (hl:xs.length≤1000000) (x:Int) (hw:w2=w1.alloc (.cells #[.int .i64 x] ba)):
  ∃la ln lc w3,(Builtin.append_ #[cI,cI] cI #[.slice o.a o.n o.c,.slice (some (nb w1)) 1 1]).run Tryz.prog w2= .ok (.slice la ln lc) w3∧Boxed w3 w0.heap.size cI o.v∧nw w0 (w3.setCell ⟨w0.heap.size,0,none⟩ (.slice la ln lc)) (xs++ [x])∧KeepsOthers w1 (w3.setCell ⟨w0.heap.size,0,none⟩ (.slice la ln lc)):=by
 have hon:o.n=xs.length:=(Rw.of_own ho (fun _=>rfl) (by decide)).2;have hz:=h.le.size;obtain⟨l,w3,hln,hrun,ho3,hbel,hkeep⟩:=cK.push ho x hw rfl hz (by omega) (by decide);have hne:=hb.not_row (by decide) ho;have h3:=hbel w1 (Below.refl _ _);have hb3:Boxed w3 w0.heap.size cI o.v:=by
  show w3.heap[_]? =_;rw [hkeep _ hb.lt (fun e=>hne e.symm)];exact hb
 have hgb:Boxed w1 (w0.heap.size+1) tO _:=h.gb;have hg3:Boxed w3 (w0.heap.size+1) tO (.func (.func 229) #[] #[.pointer (some ⟨w0.heap.size,0,none⟩),.pointer (some ⟨w0.heap.size+1,0,none⟩)]):=by
  show w3.heap[_]? =_;rw [hkeep _ hgb.lt (fun e=>hgb.not_row (by decide) ho e.symm)];exact hgb
 have hg5:=grownBy_setCell' w3 w0.heap.size l.v;have hset:KeepsOthers w3 (w3.setCell ⟨w0.heap.size,0,none⟩ l.v):=KeepsOthers.setCell _ _ _;refine⟨l.a,l.n,l.c,w3,hrun,hb3,⟨(hbel w0 h.le).trans ((Below.refl _ w3).setCell (p:=⟨w0.heap.size,0,none⟩) (Nat.le_refl _) _),hg3.kept hg5 (fun e=>by have:=Option.some.inj e;omega),l,hb3.set _,ho3.kept hg5 (.inr (hb3.not_row (by decide) ho3).symm)⟩,?_⟩;refine⟨Nat.le_trans h3.size hset.size,fun j u hj hu=>hset.same j u ?_ hu⟩;rw [hkeep j (Array.getElem?_eq_some_iff.1 hj).1 (fun e=>?_)]
 ·exact hj
 ·rcases ho.2 with⟨e0,_⟩ |⟨g,cap,cur,e0,_,hgb,_⟩
  ·rw [e0]at e;simp [Value.ownBlock]at e
  ·rw [e0]at e;obtain rfl:g=j:=by simpa [Value.ownBlock]using e
   rw [hgb]at hj;cases hj;cases hu
section
variable (w0:World) (S:List Bs) (nd:Bs→Nat) (idf:Bs→Int) (N:Nat)
def ye (t:Bs):Prop:=∀(w:World) (xs:List Int),nw w0 w xs→xs.Nodup→(∀x∈xs,0≤x∧x<N)→(∀x,Br S idf t x→x∉xs)→
 CP 229 #[.pointer (some ⟨nd t,0,none⟩),.pointer (some ⟨w0.heap.size,0,none⟩),.pointer (some ⟨w0.heap.size+1,0,none⟩)] w fun e w'=>e= .returned (.tuple #[])∧∃ys,nw w0 w' (xs++ys)∧(xs++ys).Nodup∧(∀x,x∈ys↔Br S idf t x)∧KeepsOthers w w'
end
set_option maxHeartbeats 1000000 in
theorem nk {w0:World} {n1:Nat} {S:List Bs} {nd mp:Bs→Nat} {idf:Bs→Int} (hT:bB w0 n1 S nd mp idf) {N:Nat} (hN:N≤1000000) (hid:∀u,idf u= -1∨(0≤idf u∧idf u<N)) (hinj:∀u∈S,∀x∈S,idf u=idf x→idf u≠ -1→u=x)
  {t:Bs} (ht:t∈S) (ih:∀b,t++ [b]∈S→ye w0 S nd idf N (t++ [b])):ye w0 S nd idf N t:=by
 intro w xs hG hnd hrg hdis;refine aO (un (some ⟨nd t,0,none⟩) (some ⟨w0.heap.size,0,none⟩) (some ⟨w0.heap.size+1,0,none⟩) w) ?_;have inS:∀ {x:Int},Br S idf t x→0≤x∧x<N:=by
  rintro x ⟨h1,u,_,_,rfl⟩;rcases hid u with h |h
  ·exact absurd h h1
  ·exact h
 intro J hJ;have rest:∀(w1:World) (ys0:List Int),nw w0 w1 (xs++ys0)→(xs++ys0).Nodup→(∀x,x∈ys0↔x≠ -1∧idf t=x)→KeepsOthers w w1→J [] w1:=by
  intro w1 ys0 hG1 hnd1 hys0 hk1;have hT1:=hT.on hG1.le;refine hJ w1 (ag.mk _ rfl ⟨_,af _ _ (hT1.node _ ht) 0,?_⟩);obtain⟨es,clock,hm,hkv,hborn,hbn⟩:=hT1.map _ ht;have hkn:=oB nd t hT.nodup;have hm0:w0.heap[mp t]? =some (.map es clock):=by
   rw [←hm];exact(hG1.le.block _ (hT.map _ ht).lt).symm
  have kid:∀e∈es.toList,∃b,e.key=dh b∧e.val= .pointer (some ⟨nd (t++ [b]),0,none⟩)∧t++ [b]∈S:=by
   intro e he;have:(e.key,e.val)∈es.toList.map (fun x=>(x.key,x.val)):=List.mem_map.2 ⟨e,he,rfl⟩;rw [hkv]at this;obtain⟨p,hp,hpe⟩:=List.mem_map.1 this;have hp2:=iJ.1 hp;simp only [Prod.mk.injEq]at hpe;exact⟨p.1,hpe.1.symm,by rw [←hpe.2];exact hp2.2,hp2.1⟩
  have keyInj:∀ {b c:UInt8},dh b=dh c→b=c:=by
   intro b c h;simp only [dh,Value.int.injEq,true_and]at h;exact UInt8.toNat_inj.1 (by omega)
  have same:∀e∈es.toList,∀e'∈es.toList,e.key=e'.key→e=e':=by
   intro e he e' he' hk;obtain⟨i,hi,rfl⟩:=List.getElem_of_mem he;obtain⟨j,hj,rfl⟩:=List.getElem_of_mem he';have hlen:=congrArg List.length hkv;rw [List.length_map,List.length_map]at hlen;have at_:∀(i:Nat) (hi:i<es.toList.length),(es.toList[i]).key=dh ((fN S nd t)[i]'(by omega)).1:=by
    intro i hi;have h1:=congrArg (fun l=>l[i]?) hkv;simp only [List.getElem?_map,List.getElem?_eq_getElem hi,List.getElem?_eq_getElem (show i< (fN S nd t).length by omega),Option.map_some,Option.some.injEq,Prod.mk.injEq]at h1;exact h1.1
   rw [at_ i hi,at_ j hj]at hk;have hk:=keyInj hk;have:=(List.getElem?_inj (i:=i) (j:=j) (by rw [List.length_map];omega) hkn).1 (by rw [List.getElem?_map,List.getElem?_map,List.getElem?_eq_getElem (show i< (fN S nd t).length by omega),List.getElem?_eq_getElem (show j< (fN S nd t).length by omega)];simp [hk]);subst this;rfl
  refine⟨_,_,run_range_map w1 DX Cr BX (mp t) es clock lF hm,?_⟩;intro I hI;have hpw:w.heap.size≤w1.heap.size:=hk1.size;have loop:∀(k:Nat) (seen:Array Nat) (q:World) (ys:List Int),(leftOf es seen).size≤k→q.heap[w1.heap.size]? =some (.mapIter (some (mp t)) clock seen clock)→nw w0 q (xs++ys)→(xs++ys).Nodup→
    (∀x,x∈ys↔(x≠ -1∧idf t=x)∨∃e∈es.toList,seen.contains e.born=true∧∃b,e.key=dh b∧Br S idf (t++ [b]) x)→KeepsOthers w q→I [] q:=by
   intro k;induction k with
   |zero=>
    intro seen q ys hk hp hGq hndq hys hkq;have hmq:q.heap[mp t]? =some (.map es clock):=by rw [hGq.le.block _ (hT.map _ ht).lt];exact hm0
    refine hI q (.inl ?_);rcases run_next_at (P:=Tryz.prog) q 0 w1.heap.size (mp t) clock clock seen es clock hp hmq hborn (Nat.le_refl _)with⟨h0,hrun⟩ |⟨e,he,_⟩
    ·refine⟨false,q,hrun,ac.no rfl ⟨rfl,ys,hGq,hndq,fun x=>?_,hkq⟩⟩;rw [hys,sS hT ht];constructor
     ·rintro(h |⟨e,he,_,b,hb,hx⟩)
      ·exact .inl h
      ·obtain⟨c,hc,_,hcS⟩:=kid e he;have:=keyInj (hb.symm.trans hc);subst this;exact .inr ⟨_,hcS,hx⟩
     ·rintro(h |⟨b,hb,hx⟩)
      ·exact .inl h
      ·have:(b,Value.pointer (some ⟨nd (t++ [b]),0,none⟩))∈fN S nd t:=iJ.2 ⟨hb,rfl⟩;have:(dh b,Value.pointer (some ⟨nd (t++ [b]),0,none⟩))∈(fN S nd t).map (fun p=>(dh p.1,p.2)):=List.mem_map.2 ⟨_,this,rfl⟩;rw [←hkv]at this;obtain⟨e,he,hee⟩:=List.mem_map.1 this;simp only [Prod.mk.injEq]at hee;exact .inr ⟨e,he,all_seen es seen h0 e he,b,hee.1,hx⟩
    ·have:=List.length_pos_of_mem he;rw [Array.length_toList]at this;omega
   |succ k ihk=>
    intro seen q ys hk hp hGq hndq hys hkq;have hmq:q.heap[mp t]? =some (.map es clock):=by rw [hGq.le.block _ (hT.map _ ht).lt];exact hm0
    rcases run_next_at (P:=Tryz.prog) q 0 w1.heap.size (mp t) clock clock seen es clock hp hmq hborn (Nat.le_refl _)with⟨h0,hrun⟩ |⟨e,he,q1,hq1,hrun⟩
    ·exact ihk seen q ys (by omega) hp hGq hndq hys hkq
    ·obtain⟨heE,heN⟩:=mem_left he;obtain⟨b,hbk,hbv,hbS⟩:=kid e heE;have b1:Below q.heap.size q q1:=by
      rcases hq1 with rfl |rfl
      ·exact Below.refl _ _
      ·exact aL _
     have hG1':=hGq.on b1;have hpl:w1.heap.size<q1.heap.size:=Nat.lt_of_lt_of_le (Array.getElem?_eq_some_iff.1 hp).1 b1.size;obtain⟨w7,hw7⟩:∃w7,Go.ChangeMaps.setBlock q1 w1.heap.size (.mapIter (some (mp t)) clock (seen.push e.born) clock)=w7:=⟨_,rfl⟩;rw [hw7]at hrun;have z7:w7.heap.size=q1.heap.size:=by subst hw7;simp [Go.ChangeMaps.setBlock]
     have o7:∀j,j≠w1.heap.size→w7.heap[j]? =q1.heap[j]? :=by
      intro j hj;subst hw7;simp [Go.ChangeMaps.setBlock,Array.getElem?_setIfInBounds_ne (fun e=>hj e.symm)]
     have p7:w7.heap[w1.heap.size]? =some (.mapIter (some (mp t)) clock (seen.push e.born) clock):=by
      subst hw7;simp [Go.ChangeMaps.setBlock,hpl]
     have hz1:=hG1.le.size;have hlt0:w0.heap.size+1<w1.heap.size:=(Array.getElem?_eq_some_iff.1 hG1.gb).1;have hG7:nw w0 w7 (xs++ys):=by
      obtain⟨o,g1,g2⟩:=hG1'.out;refine⟨?_,?_,o,?_,?_⟩
      ·refine hG1'.le.trans ⟨?_,?_,?_,Nat.le_of_eq z7.symm,fun j hj=>o7 j (by omega)⟩<;>(subst hw7;rfl)
      ·rw [o7 _ (by omega)];exact hG1'.gb
      ·show w7.heap[_]? =_;rw [o7 _ (by omega)];exact g1
      ·refine a_ g2 fun j hj=>o7 j fun e=>?_;subst e;rcases g2.2 with⟨e0,_⟩ |⟨g,cap,cur,e0,_,hgb,_⟩
       ·rw [e0]at hj;simp [Value.ownBlock]at hj
       ·rw [e0]at hj;obtain rfl:g=w1.heap.size:=by simpa [Value.ownBlock]using hj
        have:=b1.block _ (Array.getElem?_eq_some_iff.1 hp).1;rw [hgb,hp]at this;cases this
     have m7:w7.heap[mp t]? =some (.map es clock):=by rw [hG7.le.block _ (hT.map _ ht).lt];exact hm0
     have hent:=run_entry_at (P:=Tryz.prog) w7 w1.heap.size (mp t) clock seen es clock e p7 m7 heE hbn;refine hI q (.inr ⟨true,e.key,e.val,w7,hrun,ac.yes rfl ⟨_,_,w7,hent,ag.mk _ rfl ⟨_,aN hG7.gb,?_⟩⟩⟩);rw [hbv];refine cC (by kernel_rfl) ?_;have hdis7:∀x,Br S idf (t++ [b]) x→x∉xs++ys:=by
      intro x hx hmem;rcases List.mem_append.1 hmem with hm1 |hm1
      ·exact hdis x (hx.up ⟨[b],rfl⟩) hm1
      ·obtain⟨hx1,u,hu,hpu,hxu⟩:=hx;rcases(hys x).1 hm1 with⟨_,h2⟩ |⟨e',he',hs',c,hc,⟨_,u',hu',hpu',hxu'⟩⟩
       ·have:=hinj u hu t ht (by rw [hxu,h2]) (by rw [hxu];exact hx1);subst this;have:=hpu.length_le;rw [List.length_append]at this;simp at this;omega
       ·have:=hinj u hu u' hu' (by rw [hxu,hxu']) (by rw [hxu];exact hx1);subst this;have h3:=List.prefix_iff_eq_take.1 hpu;have h4:=List.prefix_iff_eq_take.1 hpu';rw [List.length_append]at h3 h4;have h5:=h3.trans h4.symm;have hbc:b=c:=by
         have:=List.append_cancel_left h5;simpa using this
        subst hbc;have:=same e heE e' he' (hbk.trans hc.symm);subst this;rw [hs']at heN;cases heN
     have hrg7:∀x∈xs++ys,0≤x∧x<N:=by
      intro x hx;rcases List.mem_append.1 hx with hx |hx
      ·exact hrg x hx
      ·refine inS ((sS hT ht x).2 ?_);rcases(hys x).1 hx with h |⟨e',he',_,c,hc,hb'⟩
       ·exact .inl h
       ·obtain⟨c',hc',_,hcS⟩:=kid e' he';have:=keyInj (hc.symm.trans hc');subst this;exact .inr ⟨_,hcS,hb'⟩
     refine(ih b hbS w7 (xs++ys) hG7 hndq hrg7 hdis7).mono ?_;rintro e9 w9 ⟨rfl,zs,hG9,hnd9,hzs,hk9⟩;rw [List.append_assoc]at hG9 hnd9;refine⟨rfl,ihk (seen.push e.born) w9 (ys++zs) ?_ (hk9.same _ _ p7 rfl) hG9 hnd9 ?_ ?_⟩
     ·have:=left_shrinks es seen e he;omega
     ·intro x;rw [List.mem_append,hys,hzs];constructor
      ·rintro((h |⟨e',he',hs',hx⟩) |hx)
       ·exact .inl h
       ·exact .inr ⟨e',he',by rw [contains_push,hs'];rfl,hx⟩
       ·exact .inr ⟨e,heE,by rw [contains_push];simp,b,hbk,hx⟩
      ·rintro(h |⟨e',he',hs',c,hc,hx⟩)
       ·exact .inl (.inl h)
       ·rw [contains_push,Bool.or_eq_true]at hs';rcases hs' with hs' |hs'
        ·exact .inl (.inr ⟨e',he',hs',c,hc,hx⟩)
        ·have hee:=born_inj hbn he' heE (by simpa using hs');subst hee;have:=keyInj (hbk.symm.trans hc);subst this;exact .inr hx
     ·refine⟨Nat.le_trans hkq.size (Nat.le_trans b1.size (Nat.le_trans (Nat.le_of_eq z7.symm) hk9.size)),fun j u hj hu=>hk9.same j u ?_ hu⟩;have hjl:=(Array.getElem?_eq_some_iff.1 hj).1;have hq:=hkq.same j u hj hu;rw [o7 j (by omega),b1.block _ (Array.getElem?_eq_some_iff.1 hq).1];exact hq
  have b2:Below w1.heap.size w1 (w1.alloc (.mapIter (some (mp t)) clock #[] clock)):=ai _ _;refine loop _ #[] _ ys0 (Nat.le_refl _) (am _ _) (hG1.on b2) hnd1 (fun x=>?_) (hk1.trans (KeepsOthers.alloc _ _));rw [hys0];simp
 have hTw:=hT.on hG.le;refine ag.mk _ rfl ⟨_,af _ _ (hTw.node _ ht) 1,ac.mk (fun h0=>?_) fun h0=>?_⟩
 ·have h0:idf t≠ -1:=by simpa using h0
  intro w10 hw10;have b10:Below w.heap.size w w10:=by subst hw10;exact aL w
  have hG10:=hG.on b10;obtain⟨o,hb,ho⟩:=hG10.out;have hT10:=hT.on hG10.le;refine ag.mk _ rfl ⟨_,_,_,hb.cell,ag.mk _ rfl ⟨_,af _ _ (hT10.node _ ht) 1,?_⟩⟩;intro w11 hw11;have hxl:=sH hnd hrg;obtain⟨la,ln,lc,w3,hrun,hb3,hG3,hk3⟩:=hG10.push hb ho (by omega) (idf t) hw11;refine⟨⟨?_,trivial⟩,la,ln,lc,w3,hrun,ag.mk _ rfl ⟨rfl,⟨_,hb3.cell⟩,hb3.frozen,?_⟩⟩
  ·subst hw11;exact(hb.alloc _).cell
  intro w13 hw13;subst hw13;have hk0:KeepsOthers w w10:=by subst hw10;exact KeepsOthers.drew w
  refine rest _ [idf t] hG3 ?_ (fun x=>?_) (hk0.trans hk3)
  ·rw [List.nodup_append];refine⟨hnd,by simp,fun a ha b hb e=>?_⟩;rw [List.mem_singleton.1 hb]at e;exact hdis _ ((sS hT ht _).2 (.inl ⟨h0,rfl⟩)) (by rw [←e];exact ha)
  ·rw [List.mem_singleton];constructor
   ·rintro rfl;exact⟨h0,rfl⟩
   ·rintro⟨_,rfl⟩;rfl
 ·have h0:idf t= -1:=by simpa using h0
  refine rest w [] (by rw [List.append_nil];exact hG) (by rw [List.append_nil];exact hnd) (fun x=>?_) (KeepsOthers.refl _);constructor
  ·intro h;cases h
  ·rintro⟨h1,h2⟩;exact absurd (h2.symm.trans h0) h1
theorem mF {w0:World} {n1:Nat} {S:List Bs} {nd mp:Bs→Nat} {idf:Bs→Int} (hT:bB w0 n1 S nd mp idf) {N:Nat} (hN:N≤1000000) (hid:∀u,idf u= -1∨(0≤idf u∧idf u<N)) (hinj:∀u∈S,∀x∈S,idf u=idf x→idf u≠ -1→u=x):
  ∀(d:Nat) (t:Bs),t∈S→(∀u∈S,t<+:u→u.length≤t.length+d)→ye w0 S nd idf N t
 |0,t,ht,hd=>nk hT hN hid hinj ht fun b hb=>by
  have:=hd _ hb ⟨[b],rfl⟩;rw [List.length_append]at this;simp at this;omega
 |d+1,t,ht,hd=>nk hT hN hid hinj ht fun b hb=>mF hT hN hid hinj d (t++ [b]) hb fun u hu hp=>by
  have:=hd u hu ((show t<+:t++ [b]from⟨[b],rfl⟩).trans hp);rw [List.length_append];simp;omega
theorem wE (K:World→Prop) (a:Option Addr) (c:Nat) (xs:List Int) (f:Value) (p:Int→Bool) (hl:xs.length≤1000000000000000) (hrow:∀q,K q→Rw av 1 q a xs)
  (hf:∀x∈xs,∀q,K q→bP gW f [.int .i64 x] q (fun e q'=>e= .returned (.bool (p x))∧K q')) (w:World) (h:K w):
  CP 113 #[.slice a xs.length c,f] w fun e w'=>e= .returned (.int .i64 (kE p xs))∧K w':=by
 refine aO (mX a xs.length c f w) ?_;intro I hI;have key:=mW (α:=Int×World) xs.length (fun i x=>(∀j (hj:j<xs.length),j<i→p xs[j]=false)∧K x.2) (fun i x=>I [.int .i64 (i:Int),.int .i64 x.1] x.2) ?_ ?_ 0 (Nat.zero_le _) (0,w)
 ·exact key ⟨fun j _ hj=>absurd hj (Nat.not_lt_zero j),h⟩
 ·rintro⟨y,w1⟩ ⟨hb,hB⟩;exact hI _ _ _ (ac.no (by simp) ⟨by rw [dT fun j hj=>hb j hj hj],hB⟩)
 ·rintro i hi ih ⟨y,w1⟩ ⟨hb,hB⟩;obtain⟨q,hq,_,hcx⟩:=(hrow w1 hB) i _ (List.getElem?_eq_getElem hi);refine hI _ _ _ (ac.yes (by simp;omega) (ag.mk q hq ⟨by omega,by omega,xs[i],by have:=hcx 0 _ rfl;simpa [au]using this,?_⟩));refine(hf xs[i] (List.getElem_mem hi) w1 hB).mono ?_;rintro e w2 ⟨rfl,h2⟩;refine⟨_,rfl,ac.mk ?_ ?_⟩
  ·intro hp;exact⟨by rw [fj hi hp fun j hj=>hb j (by omega) hj],h2⟩
  ·intro hp;refine Ar.ok64 (by omega) (by omega) (ih (y,w2) ⟨?_,h2⟩);intro j hj hji;by_cases he:j=i
   ·subst he;exact hp
   ·exact hb j hj (by omega)
structure eT (b:Nat) (w w':World):Prop where
 os:w'.os=w.os
 tape:w'.tape=w.tape
 output:w'.output=w.output
 size:w'.heap.size=w.heap.size
 ne:∀j,j≠b→w'.heap[j]? =w.heap[j]?
theorem eT.refl (b:Nat) (w:World):eT b w w:=⟨rfl,rfl,rfl,rfl,fun _ _=>rfl⟩
theorem eT.trans {b:Nat} {u v w:World} (h:eT b u v) (k:eT b v w):eT b u w:=⟨k.os.trans h.os,k.tape.trans h.tape,k.output.trans h.output,k.size.trans h.size,fun j hj=>(k.ne j hj).trans (h.ne j hj)⟩
theorem eT.set (b o:Nat) (w:World) (v:Value):eT b w (w.setCell ⟨b,o,none⟩ v):=⟨rfl,rfl,rfl,aW ..,fun j hj=>Below.heap_setCell _ _ _ j (fun e=>hj e)⟩
theorem eT.below {b B:Nat} {w w':World} (h:eT b w w') (hB:B≤b):Below B w w':=⟨h.os,h.tape,h.output,Nat.le_of_eq h.size.symm,fun k hk=>h.ne k (by omega)⟩
theorem jG (b:Nat) (e:TypeId):∀(vs:List Value) (o:Nat) (w:World) (c:Array Value),w.heap[b]? =some (.cells c e (0,0))→eT b w (w.setCells b o vs)∧∃c',(w.setCells b o vs).heap[b]? =some (.cells c' e (0,0))∧c'.size=c.size∧∀k,k<o→c'[k]? =c[k]?
 | [],o,w,c,h=>⟨eT.refl b w,c,h,rfl,fun _ _=>rfl⟩
 |v::vs,o,w,c,h=>by
  have h1:(w.setCell ⟨b,o,none⟩ v).heap[b]? =some (.cells (c.setIfInBounds o v) e (0,0)):=bJ h v;obtain⟨k1,c',h2,h3,h4⟩:=jG b e vs (o+1) _ _ h1;refine⟨(eT.set b o w v).trans k1,c',h2,by rw [h3];simp,fun k hk=>?_⟩;rw [h4 k (by omega),Array.getElem?_setIfInBounds_ne (by omega)]
def fZ (w:World) (b cap:Nat) (xs:List Int):Prop:=∃cur:Array Value,w.heap[b]? =some (.cells cur ba (0,0))∧xs.length≤cap∧cap≤maxLen∧cur.size=cap∧∀(j:Nat) (h:j<xs.length),cur[j]? =some (.int .i64 xs[j])
theorem fL:∀xs:List Int,xs.flatMap av=xs.map fun x=>Value.int .i64 x
 | []=>rfl
 |x::xs=>by rw [List.flatMap_cons,fL xs];rfl
theorem fZ.own {w:World} {b cap B:Nat} {xs:List Int} (h:fZ w b cap xs) (hB:B≤b):w.ownsRow B ba 1 (.slice (some ⟨b,0,none⟩) xs.length cap) xs.length (xs.flatMap av):=by
 obtain⟨cur,h1,h2,h3,h4,h5⟩:=h;rw [fL];refine⟨by rw [List.length_map,Nat.mul_one],.inr ⟨b,cap,cur,rfl,hB,h1,h2,h3,by omega,?_⟩⟩;apply List.ext_getElem?;intro j;rw [List.getElem?_take,Nat.mul_one];by_cases hj:j<xs.length
 ·rw [if_pos hj,List.getElem?_map,List.getElem?_eq_getElem hj,Array.getElem?_toList,h5 j hj];rfl
 ·rw [if_neg hj,List.getElem?_map,List.getElem?_eq_none_iff.2 (by omega)];rfl
theorem fZ.of_own {w:World} {B:Nat} {l:Sl} {xs:List Int} (h:w.ownsRow B ba 1 l.v l.n (xs.flatMap av)):l.n=xs.length∧(l=cT∨∃b cap,l=⟨some ⟨b,0,none⟩,xs.length,cap⟩∧B≤b∧fZ w b cap xs):=by
 have hn:l.n=xs.length:=(Rw.of_own h (fun _=>rfl) (by decide)).2;refine⟨hn,?_⟩;obtain⟨a,n,c⟩:=l;change n=_ at hn;subst hn;rcases h.2 with⟨e,h0⟩ |⟨g,cap,cur,e,hB,hg,h1,h2,h3,h4⟩
 ·left;simp only [Sl.v,Value.slice.injEq]at e;obtain⟨rfl,h0,rfl⟩:=e;have h0:xs.length=0:=h0;rw [h0]
 ·right;simp only [Sl.v,Value.slice.injEq,true_and]at e;obtain⟨rfl,rfl⟩:=e;refine⟨g,c,rfl,hB,cur,hg,h1,h2,by omega,fun j hj=>?_⟩;have e:=fL xs;have:=congrArg (fun l=>l[j]?) h4;simp only [List.getElem?_take,Nat.mul_one]at this;rw [if_pos hj,e,List.getElem?_map,List.getElem?_eq_getElem hj,Array.getElem?_toList]at this;exact this
theorem fZ.rw {w:World} {b cap:Nat} {xs:List Int} (h:fZ w b cap xs):Rw av 1 w (some ⟨b,0,none⟩) xs:=(Rw.of_own (s:=⟨some ⟨b,0,none⟩,xs.length,cap⟩) (h.own (Nat.le_refl _)) (fun _=>rfl) (by decide)).1
theorem fZ.same {w w':World} {b cap:Nat} {xs:List Int} (h:fZ w b cap xs) (hs:w'.heap[b]? =w.heap[b]?):fZ w' b cap xs:=by
 obtain⟨cur,h1,h2⟩:=h;exact⟨cur,by rw [hs];exact h1,h2⟩
theorem rJ {p:Int→Bool} {xs:List Int} {n:Nat} (hn:n<xs.length) (h1:p xs[n]=true) (h2:∀j (hj:j<n),p (xs[j]'(by omega))=false):(xs.take (n+1)).filter (fun x=> !p x)=xs.take n:=by
 have e:xs.take (n+1)=xs.take n++ [xs[n]]:=by
  rw [List.take_add_one,List.getElem?_eq_getElem hn];rfl
 rw [e,List.filter_append];have: [xs[n]].filter (fun x=> !p x)= []:=by simp [h1]
 rw [this,List.append_nil,List.filter_eq_self];intro x hx;obtain⟨j,hj,rfl⟩:=List.mem_take_iff_getElem.1 hx;rw [h2 j (by omega)];rfl
def C7 (w:World) (b:Nat):Prop:=∃c:Array Value,w.heap[b]? =some (.cells c ba (0,0))
theorem fZ.ints {w:World} {b cap:Nat} {xs:List Int} (h:fZ w b cap xs):C7 w b:=by
 obtain⟨c,h,_⟩:=h;exact⟨c,h⟩
set_option maxHeartbeats 1000000 in
theorem sV (L:World→Prop) (b cap:Nat) (xs:List Int) (hl:xs.length≤1000000000) (del:Value) (p:Int→Bool) (hL:∀q q',L q→C7 q b→eT b q q'→L q')
  (hf:∀x∈xs,∀q,L q→C7 q b→bP gW del [.int .i64 x] q (fun e q'=>e= .returned (.bool (p x))∧L q'∧q'.heap[b]? =q.heap[b]?)) (w:World) (h0:L w) (hr:fZ w b cap xs):
  CP 117 #[.slice (some ⟨b,0,none⟩) xs.length cap,del] w fun e w'=>e= .returned (.slice (some ⟨b,0,none⟩) (xs.filter (fun x=> !p x)).length cap)∧L w'∧fZ w' b cap (xs.filter (fun x=> !p x)):=by
 refine aO (mK (some ⟨b,0,none⟩) xs.length cap del w) ?_;have hcap:xs.length≤cap:=by
  obtain⟨_,_,h,_⟩:=hr;exact h
 refine(wE (fun q=>L q∧fZ q b cap xs) (some ⟨b,0,none⟩) cap xs del p (by omega) (fun q hq=>hq.2.rw) (fun x hx q hq=>(hf x hx q hq.1 hq.2.ints).mono ?_) w ⟨h0,hr⟩).mono ?_
 ·rintro e q' ⟨rfl,h1,h2⟩;exact⟨rfl,h1,hq.2.same h2⟩
 rintro e w1 ⟨rfl,hL1,hr1⟩;refine⟨_,rfl,ac.mk (fun hno=>?_) fun hyes=>?_⟩
 ·have hno:kE p xs= -1:=by simpa using hno
  have:xs.filter (fun x=> !p x)=xs:=by
   rw [List.filter_eq_self];intro x hx;unfold kE at hno;cases hi:xs.findIdx? p with
   |some i=>rw [hi]at hno;exact absurd hno (by show ¬((i:Nat):Int)= -1;omega)
   |none=>
    have:=List.findIdx?_eq_none_iff.1 hi x hx;rw [this];rfl
  rw [this];exact⟨rfl,hL1,hr1⟩
 ·have hyes:¬kE p xs= -1:=by simpa using hyes
  obtain⟨n,hn,hpn,hbn,hidx⟩:∃(n:Nat) (hn:n<xs.length),p xs[n]=true∧(∀j (hj:j<n),p (xs[j]'(by omega))=false)∧kE p xs=n:=by
   unfold kE at hyes⊢;cases hi:xs.findIdx? p with
   |none=>rw [hi]at hyes;exact absurd rfl hyes
   |some i=>
    obtain⟨h1,h2,h3⟩:=List.findIdx?_eq_some_iff_getElem.1 hi;exact⟨i,h1,h2,fun j hj=>by simpa using h3 j hj,rfl⟩
  rw [hidx];refine Ar.nat (n+1) rfl (by omega) ?_;intro I hI;obtain⟨keep,hkeep⟩:∃keep:Nat→List Int,keep=fun j=>(xs.take j).filter (fun x=> !p x):=⟨_,rfl⟩;have kstep:∀(j:Nat) (hj:j<xs.length),keep (j+1)=keep j++if p xs[j]=true then []else [xs[j]]:=by
   intro j hj;rw [hkeep];dsimp only;rw [List.take_add_one,List.getElem?_eq_getElem hj,List.filter_append];congr 1;by_cases hp:p xs[j]=true
   ·simp [hp]
   ·simp [hp]
  have kn:keep (n+1)=xs.take n:=by
   rw [hkeep];exact rJ hn hpn hbn
  have kle:∀j,n<j→j≤xs.length→(keep j).length<j:=by
   intro j hj hjx;induction j with
   |zero=>omega
   |succ j ihj=>
    by_cases e:j=n
    ·subst e;rw [kn,List.length_take];omega
    ·have:=ihj (by omega) (by omega);rw [kstep j (by omega),List.length_append];split
     ·simp;omega
     ·simp;omega
  have key:=aX (α:=World) (xs.length- (n+1))
   (fun i q=>L q∧∃cur:Array Value,q.heap[b]? =some (.cells cur ba (0,0))∧cur.size=cap∧(∀(k:Nat) (h:k< (keep (n+1+i)).length),cur[k]? =some (.int .i64 (keep (n+1+i))[k]))∧∀(k:Nat) (h:k<xs.length),n+1+i≤k→cur[k]? =some (.int .i64 xs[k]))
   (fun i q=>I [.int .i64 ((n+1+i:Nat):Int),.int .i64 ((keep (n+1+i)).length:Int)] q) w1 ?_ ?_ ?_
  ·rw [Nat.add_zero,kn,List.length_take,Nat.min_eq_left (by omega)]at key;exact key
  ·obtain⟨cur,g1,g2,g3,g4,g5⟩:=hr1;refine⟨hL1,cur,g1,g4,fun k hk=>?_,fun k hk _=>g5 k hk⟩;have e:keep (n+1+0)=xs.take n:=kn;have hk':k<n:=by
    rw [e,List.length_take]at hk;omega
   rw [g5 k (by omega)];simp only [e,List.getElem_take]
  ·rintro i hi ih q ⟨hLq,cur,g1,g2,g3,g4⟩;have hj:n+1+i<xs.length:=by omega
   refine hI _ _ q (ac.yes (decide_eq_true (by omega)) ?_);intro J hJ;refine ag.mk _ rfl ⟨by omega,by omega,xs[n+1+i],?_,?_⟩
   ·rw [af _ _ g1,show((n+1+i:Nat):Int).toNat*1=n+1+i by omega];exact g4 _ hj (Nat.le_refl _)
   refine(hf _ (List.getElem_mem hj) q hLq ⟨_,g1⟩).mono ?_;rintro e q4 ⟨rfl,hL4,hb4⟩;have g1':=hb4.trans g1;have hkl:=kle (n+1+i) (by omega) (by omega);refine⟨_,rfl,ac.mk (fun hp=>?_) fun hp=>?_⟩
   ·have hp:p xs[n+1+i]=false:=by simpa using hp
    have es:keep (n+1+(i+1))=keep (n+1+i)++ [xs[n+1+i]]:=by
     have:=kstep (n+1+i) hj;rw [if_neg (by rw [hp];decide)]at this;exact this
    have hcell:q4.cell? ((⟨b,0,none⟩:Addr).add (keep (n+1+i)).length)=cur[(keep (n+1+i)).length]? :=af _ _ g1' _;refine ag.mk _ rfl ⟨by omega,by omega,rfl,⟨cur[(keep (n+1+i)).length]'(by omega),?_⟩,?_,?_⟩
    ·rw [show(((keep (n+1+i)).length:Nat):Int).toNat*1=(keep (n+1+i)).length by omega,hcell];exact Array.getElem?_eq_getElem (by omega)
    ·rw [show(((keep (n+1+i)).length:Nat):Int).toNat*1=(keep (n+1+i)).length by omega];exact bf g1'
    intro w5 hw5;rw [show(((keep (n+1+i)).length:Nat):Int).toNat*1=(keep (n+1+i)).length by omega]at hw5;have o5:eT b q4 w5:=by
     subst hw5;rw [aC,Nat.zero_add];exact eT.set ..
    have h5:w5.heap[b]? =some (.cells (cur.setIfInBounds (keep (n+1+i)).length (.int .i64 xs[n+1+i])) ba (0,0)):=by
     subst hw5;exact bA g1' _
    refine Ar.nat ((keep (n+1+i)).length+1) rfl (by omega) (hJ _ _ (Ar.nat (n+1+(i+1)) rfl (by omega) ?_));have:=ih w5 ⟨hL _ _ hL4 ⟨_,g1'⟩ o5,_,h5,by simp [g2],fun k hk=>?_,fun k hk hk2=>?_⟩
    ·rw [es,List.length_append]at this;exact this
    ·rw [Array.getElem?_setIfInBounds];by_cases e:(keep (n+1+i)).length=k
     ·subst e;rw [if_pos rfl,if_pos (by omega)];congr 2;simp [es]
     ·rw [if_neg e];have hk':k< (keep (n+1+i)).length:=by
       rw [es,List.length_append]at hk;simp at hk;omega
      rw [g3 k hk'];congr 2;simp only [es];rw [List.getElem_append_left hk']
    ·rw [Array.getElem?_setIfInBounds_ne (by omega)];exact g4 k hk (by omega)
   ·have hp:p xs[n+1+i]=true:=by simpa using hp
    have es:keep (n+1+(i+1))=keep (n+1+i):=by
     have:=kstep (n+1+i) hj;rw [if_pos hp,List.append_nil]at this;exact this
    refine hJ _ _ (Ar.nat (n+1+(i+1)) rfl (by omega) ?_);have:=ih q4 ⟨hL4,cur,g1',g2,fun k hk=>?_,fun k hk hk2=>g4 k hk (by omega)⟩
    ·rw [es]at this;exact this
    ·have hk':k< (keep (n+1+i)).length:=by rw [es]at hk;exact hk
     rw [g3 k hk'];congr 2;simp only [es]
  ·rintro q ⟨hLq,cur,g1,g2,g3,g4⟩;have e:n+1+(xs.length- (n+1))=xs.length:=by omega
   have ek:keep xs.length=xs.filter (fun x=> !p x):=by
    rw [hkeep];dsimp only;rw [List.take_length]
   have hkl:=kle xs.length hn (Nat.le_refl _);rw [e]at g3⊢;rw [ek]at g3 hkl⊢;obtain⟨ys,hys⟩:∃ys,ys=xs.filter (fun x=> !p x):=⟨_,rfl⟩;rw [←hys]at g3 hkl⊢;refine hI _ _ q (ac.no (decide_eq_false (by omega)) ⟨by omega,by omega,trivial,trivial,trivial,?_⟩);have hbase:bW (some ⟨b,0,none⟩) (((ys.length:Nat):Int).toNat) (((cap:Nat):Int).toNat) 1=some ⟨b,ys.length,none⟩:=by
    unfold bW;rw [if_neg (by omega)];show some ((⟨b,0,none⟩:Addr).add _)=_;rw [aC,Nat.zero_add];congr 2;omega
   obtain⟨o6,c6,h6,z6,k6⟩:=jG b ba (List.replicate (xs.length-ys.length) (.int .i64 0)) ys.length q cur g1;have hrun:=Lib.run_clear_slice (P:=Tryz.prog) q cI ba 0 (.int .i64 0) nJ (eu fa) rfl rfl b ys.length (xs.length-ys.length) (((cap:Nat):Int).toNat- ((ys.length:Nat):Int).toNat) (by omega) (fun j hj=>by
    rw [aN g1,Array.getElem?_eq_getElem (by omega)];rfl) (fun j hj=>bO g1)
   refine⟨q.setCells b ys.length (List.replicate (xs.length-ys.length) (.int .i64 0)),?_,by omega,by omega,by omega,trivial,trivial,?_⟩
   ·rw [hbase,show((xs.length:Nat):Int).toNat- ((ys.length:Nat):Int).toNat=xs.length-ys.length by omega];exact hrun
   subst hys;refine⟨?_,hL _ _ hLq ⟨_,g1⟩ o6,c6,h6,by omega,?_,by omega,fun j hj=>?_⟩
   ·have e0:∀m,bW (some ⟨b,0,none⟩) 0 m 1=some ⟨b,0,none⟩:=by
     intro m;unfold bW;split
     ·rfl
     ·show some ((⟨b,0,none⟩:Addr).add (0*1))=_;rw [Nat.zero_mul,au]
    rw [show Int.toNat 0=0 from rfl,e0];congr 1<;>omega
   ·obtain⟨_,_,_,g,_⟩:=hr;exact g
   ·rw [k6 j hj];exact g3 j hj
end Go.Proofs.YtdlcfegnaphclaaGreat.Eng
