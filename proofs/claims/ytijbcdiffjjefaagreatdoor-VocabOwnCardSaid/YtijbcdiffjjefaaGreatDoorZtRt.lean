/- Comparing lists of numbers: the reference's, walked by the engine. -/
import Derived.Test.YtijbcdiffjjefaaGreatDoorZtRk
import Derived.Test.YtijbcdiffjjefaaGreatDoorZtVo
import Derived.Test.YtijbcdiffjjefaaGreatDoorZtRa
import Derived.Test.YtijbcdiffjjefaaGreatDoorZtQc
set_option linter.unusedVariables false
set_option linter.unusedSimpArgs false
set_option maxRecDepth 100000
namespace Go.Proofs.YtijbcdiffjjefaaGreatDoor.Eng
open Go Go.RowKit
theorem tL (w:World) (A A2:Option Addr) (C C2:Nat) (xs ys:List Int) (hr:Rw aQ 1 w A xs) (hr2:Rw aQ 1 w A2 ys) (hl:xs.length≤1000000000):
  CP 52 #[.slice A xs.length C,.slice A2 ys.length C2] w fun e w'=>e= .returned (.bool (decide (xs=ys)))∧Below w.heap.size w w':=by
 refine az (yV A xs.length C A2 ys.length C2 w (fun u w'=>u= .bool (decide (xs=ys))∧Below w.heap.size w w') ?_) (by rintro v w' ⟨rfl,h⟩;exact⟨rfl,h⟩);refine aa.mk (fun hne=>⟨?_,Below.refl _ _⟩) fun heq=>?_
 ·have hne:¬(xs.length:Int)=(ys.length:Int):=by simpa using hne
  rw [decide_eq_false fun e=>hne (by rw [e])]
 ·have heq:(xs.length:Int)=(ys.length:Int):=by simpa using heq
  intro I hI;have key:=aK (α:=World) xs.length (fun i q=>(∀j,j<i→xs[j]? =ys[j]?)∧Below w.heap.size w q) (fun i q=>∀y4,I [.int .i64 (i:Int),.bool y4] q) w ⟨fun j hj=>absurd hj (Nat.not_lt_zero j),Below.refl _ _⟩ ?_ ?_
  ·exact key _
  ·rintro i hi ih q ⟨hs,hq⟩ y4;refine hI _ y4 q (aa.yes (decide_eq_true (by omega)) ?_);intro q1 hq1;have hq1':=ab hq (show Below q.heap.size q q1 by subst hq1;exact ba q);obtain⟨p1,hp1,c1⟩:=cz (hr.on hq1') hi rfl;obtain⟨p2,hp2,c2⟩:=cz (hr2.on hq1') (show i<ys.length by omega) rfl;refine ae.mk p1 hp1 ⟨by omega,by omega,_,c1,ae.mk p2 hp2 ⟨by omega,by omega,_,c2,aa.mk (fun h0=>⟨?_,hq1'⟩) fun h0=>?_⟩⟩
   ·have h0:¬xs[i]=ys[i]:=by simpa using h0
    rw [decide_eq_false fun e=>h0 (by subst e;rfl)]
   ·have h0:xs[i]=ys[i]:=by simpa using h0
    refine Ar.nat (i+1) rfl (by omega) (ih q1 ⟨fun j hj=>?_,hq1'⟩ _);by_cases e:j=i
    ·subst e;rw [List.getElem?_eq_getElem hi,List.getElem?_eq_getElem (by omega),h0]
    ·exact hs j (by omega)
  ·rintro q ⟨hs,hq⟩ y4;refine hI _ y4 q (aa.no (decide_eq_false (by omega)) ⟨?_,hq⟩);rw [decide_eq_true];apply List.ext_getElem?;intro j;by_cases hj:j<xs.length
   ·exact hs j hj
   ·rw [List.getElem?_eq_none_iff.2 (by omega),List.getElem?_eq_none_iff.2 (by omega)]
theorem pS (w:World) (s:Bs) (hs:s.length≤100000):
  CP 168 #[.string (str s)] w fun e w'=>∃l:Sl,e= .returned l.v∧l.n=s.length∧w'.ownsRow w.heap.size cE 1 l.v l.n ((bh s).flatMap aQ)∧Below w.heap.size w w':=by
 refine az (vu (str s) w (fun u w'=>∃l:Sl,u=l.v∧l.n=s.length∧w'.ownsRow w.heap.size cE 1 l.v l.n ((bh s).flatMap aQ)∧Below w.heap.size w w') ?_) (by rintro v w' ⟨l,rfl,h⟩;exact⟨l,rfl,h⟩);intro I hI;have key:=aK (α:=Sl×World) s.length (fun i y=>y.2.ownsRow w.heap.size cE 1 y.1.v y.1.n ((bh (s.take i)).flatMap aQ)∧y.1.n=i∧Below w.heap.size w y.2) (fun i y=>I [.int .i64 (i:Int),y.1.v] y.2) (fF,w) ⟨dx _ _ _ _ aQ,rfl,Below.refl _ _⟩ ?_ ?_
 ·exact key
 ·rintro i hi ih ⟨f,q⟩ ⟨hown,hfn,hB⟩;change q.ownsRow w.heap.size cE 1 f.v f.n _ at hown;change f.n=i at hfn;change Below w.heap.size w q at hB;refine hI _ f.a f.n f.c q (aa.yes (decide_eq_true (by rw [aj];omega)) ⟨by omega,by rw [aj];omega,?_⟩);intro q2 hq2;have hbt:btAt (str s) (i:Int)=((s[i].toNat:Nat):Int):=by
   unfold btAt;show((s.toArray[(i:Int).toNat]?).map _).getD 0=_;rw [show((i:Int)).toNat=i from rfl,List.getElem?_toArray,List.getElem?_eq_getElem hi];rfl
  have hlt:=s[i].toNat_lt;rw [hbt,bY (by show(-9223372036854775808:Int)≤_;omega) (by show _≤(9223372036854775807:Int);omega)]at hq2;obtain⟨f',q3,e1,e2,e3,e4,_⟩:=ic.push hown ((s[i].toNat:Nat):Int) hq2 rfl hB.size (by omega) (by decide);refine⟨f'.a,f'.n,f'.c,q3,e2,Ar.nat (i+1) rfl (by omega) (ih (f',q3) ⟨?_,by show f'.n=i+1;omega,e4 _ hB⟩)⟩;have e:bh (s.take (i+1))=bh (s.take i)++ [((s[i].toNat:Nat):Int)]:=by
   unfold bh;rw [List.take_add_one,List.getElem?_eq_getElem hi,List.map_append];rfl
  rw [e];exact e3
 ·rintro⟨f,q⟩ ⟨hown,hfn,hB⟩;change q.ownsRow w.heap.size cE 1 f.v f.n _ at hown;rw [List.take_length]at hown;exact hI _ f.a f.n f.c q (aa.no (decide_eq_false (by rw [aj];omega)) ⟨f,rfl,hfn,hown,hB⟩)
theorem uu (w:World) (v:Nat) (c:Array Value) (tp bp mp:Nat) (h:pn w v c tp bp mp) (s:ai) (T:List bl) (x:aG) (hP:dT w s T x tp bp mp) (id:Int):
  CP 113 #[.pointer (some ⟨v,0,none⟩),.int .i64 id] w fun e w'=>∃l:Sl,e= .returned (.tuple #[l.v,.bool (cJ s T id)])∧(cJ s T id=true→l.n=((cm s T).items id).length∧w'.ownsRow w.heap.size cE 1 l.v l.n (((cm s T).items id).flatMap aQ))∧Below w.heap.size w w':=by
 refine az (xR (some ⟨v,0,none⟩) id w (fun u w'=>∃l:Sl,u= .tuple #[l.v,.bool (cJ s T id)]∧(cJ s T id=true→l.n=((cm s T).items id).length∧w'.ownsRow w.heap.size cE 1 l.v l.n (((cm s T).items id).flatMap aQ))∧Below w.heap.size w w') ?_) (by rintro v w' ⟨l,rfl,h⟩;exact⟨l,rfl,h⟩);have hfew:=hP.few;have hplace:(cm s T).place id=eN s.specials id:=rfl;refine ae.mk _ rfl ⟨_,by rw [jX w v h.blk];exact h.c8,(iD w mp s.specials hP.marks (by omega) id).mono ?_⟩;rintro e w1 ⟨rfl,hw⟩;subst w1;refine⟨_,_,rfl,aa.mk (fun h0=>?_) fun h0=>?_⟩
 ·obtain⟨i,hi⟩:=Option.isSome_iff_exists.1 h0;intro w2 hw2;have b2:Below w.heap.size w w2:=by subst hw2;exact ag _ _
  have hhas:cJ s T id=true:=by
   unfold cJ;exact decide_eq_true (.inl (ko.1 h0))
  have eI:(cm s T).items id= [-1- (i:Int)]:=by
   unfold Voc.items;rw [hplace,hi]
  refine⟨⟨some (nb w),1,1⟩,by rw [hhas],fun _=>⟨by rw [eI];rfl,?_⟩,b2⟩;rw [eI];rw [hi]at hw2;subst hw2;exact⟨rfl,.inr ⟨w.heap.size,1,_,rfl,Nat.le_refl _,ao _ _,Nat.le_refl _,by unfold maxLen;omega,rfl,rfl⟩⟩
 ·refine ae.mk _ rfl ⟨_,by rw [jX w v h.blk];exact h.c6,(lg w tp T hP.tab id).mono ?_⟩;rintro e w3 ⟨rfl,hw⟩;subst w3;have hnone:eN s.specials id=none:=by
   cases hm:eN s.specials id with
   |none=>rfl
   |some i=>rw [hm]at h0;cases h0
  have hhas:cJ s T id=decide (cq T id):=by
   unfold cJ;have:id∉s.specials.map (·.1):=fun e=>by have:=(show(eN s.specials id).isSome=true from ko.2 e);rw [this]at h0;cases h0
   exact decide_eq_decide.2 ⟨fun h=>h.resolve_left this,.inr⟩
  have hshort:(if cq T id then aX T id else []).length≤64:=by
   split
   ·next hin=>
    obtain⟨y,hy,hyb⟩:=dY hin;rw [hyb];exact hP.ok.short y (List.mem_of_getElem? hy)
   ·exact Nat.zero_le _
  refine⟨_,_,rfl,(pS w _ (by omega)).mono ?_⟩;rintro e w4 ⟨l,rfl,hln,ho,b4⟩;refine⟨_,_,_,rfl,l,by rw [hhas],fun hin=>?_,b4⟩;rw [hhas,decide_eq_true_eq]at hin;rw [if_pos hin]at ho hln;have eI:(cm s T).items id=bh (aX T id):=by
   unfold Voc.items;rw [hplace,hnone];rfl
  rw [eI];exact⟨by rw [hln];simp [bh],ho⟩
theorem eB.used {w:World} {v:Nat} {s:ai} {T:List bl} {w0:World} {x:aG} {tp bp mp:Nat} {d:Int} {l:Sl} {uses:Int} (hV:eB w v s T w0 x tp bp mp d l uses) (m:Int):
  eB (w.setCell ⟨v,13,none⟩ (.int .i64 m)) v s T w0 x tp bp mp d l m∧bB v w (w.setCell ⟨v,13,none⟩ (.int .i64 m)):=by
 obtain⟨b1,o1,t1⟩:=Dq hV.blk hV.below hV.lt 13 (.int .i64 m);exact⟨⟨hV.parts,o1,hV.lt,b1,hV.once.imp (fun h=>h) fun⟨p,q,r⟩=>⟨p,q,t1.own r fun e=>by have:=(cn r _ e).1;have:=hV.lt;omega⟩⟩,t1⟩
theorem sD {s:ai} {T:List bl} (hok:gW T) (id:Int):((cm s T).items id).length≤64:=by
 unfold Voc.items;split
 ·rw [List.length_singleton];decide
 ·show(bh (aX T id)).length≤64;unfold bh;rw [List.length_map];unfold aX;cases h:T[id.toNat]? with
  |none=>exact Nat.zero_le _
  |some y=>exact hok.short y (List.mem_of_getElem? h)
def nG (s:ai) (T:List bl) (ids:List Int):Int×Int:=if jQ s T ids≥0 then(jQ s T ids,4)else(ids.length,0)
theorem ue (w:World) (v:Nat) (s:ai) (T:List bl) {w0:World} {x:aG} {tp bp mp:Nat} {d:Int} {l0:Sl} {uses:Int} (hR:eB w v s T w0 x tp bp mp d l0 uses) (A:Option Addr) (C:Nat) (ids:List Int) (hr:Rw aQ 1 w A ids) (hA:ids≠ []→∀p,A=some p→p.block≠v) (hl:ids.length≤100000):
  CP 47 #[.pointer (some ⟨v,0,none⟩),.slice A ids.length C] w fun e w'=>∃l:Sl,e= .returned (.tuple #[l.v,.int .i64 (nG s T ids).1,.int .i64 (nG s T ids).2])∧(¬jQ s T ids≥0→l.n=((cm s T).itemsAll ids).length∧w'.ownsRow w.heap.size cE 1 l.v l.n (((cm s T).itemsAll ids).flatMap aQ))∧(jQ s T ids≥0→l.n=0)∧eB w' v s T w0 x tp bp mp d l0 (IntKind.i64.wrap (uses+1))∧bB v w w':=by
 refine aU (qR (some ⟨v,0,none⟩) A ids.length C w) ?_;have e13:(⟨v,0,none⟩:Addr).add 13=⟨v,13,none⟩:=by rw [aA,Nat.zero_add]
 refine aa.no rfl (ae.mk _ rfl ?_);rw [e13];refine(jt ⟨v,13,none⟩ uses w (cY hR.blk) (eT hR.blk)).mono ?_;rintro e w1 ⟨rfl,hw1⟩;obtain⟨hV1,t1⟩:=hR.used (IntKind.i64.wrap (uses+1));rw [←hw1]at hV1 t1;have hz:w1.heap.size=w.heap.size:=by rw [hw1,aO]
 have hr1:Rw aQ 1 w1 A ids:=hr.touch t1 hA;have hok:=hV1.now.ok;refine⟨_,rfl,?_⟩;intro I hI;have key:=aK (α:=Sl×World) ids.length (fun i y=>y.2.ownsRow w.heap.size cE 1 y.1.v y.1.n (((cm s T).itemsAll (ids.take i)).flatMap aQ)∧y.1.n=((cm s T).itemsAll (ids.take i)).length∧y.1.n≤64*i∧(∀(j:Nat) (hj:j<i) (hj2:j<ids.length),cJ s T ids[j]=true)∧Below w1.heap.size w1 y.2) (fun i y=>∀y6 y5 y4A y4N y4C,I [.int .i64 (i:Int),y.1.v,.int .i64 y6,.int .i64 y5,.slice y4A y4N y4C] y.2) (fF,w1) ⟨dx _ _ _ _ aQ,rfl,Nat.le_refl _,fun j hj=>absurd hj (Nat.not_lt_zero j),Below.refl _ _⟩ ?_ ?_
 ·exact key _ _ _ _ _
 ·rintro i hi ih ⟨f,q⟩ ⟨hown,hfn,hf,hhas,hB⟩ y6 y5 y4A y4N y4C;change q.ownsRow w.heap.size cE 1 f.v f.n _ at hown;change f.n=_ at hfn;change f.n≤_ at hf;change Below w1.heap.size w1 q at hB;obtain⟨p,hp,c0⟩:=cz (hr1.on hB) hi rfl;have hVq:=hV1.on hB;refine hI _ f.a f.n f.c y6 y5 y4A y4N y4C q (aa.yes (decide_eq_true (by omega)) (ae.mk p hp ⟨by omega,by omega,_,c0,?_⟩));refine(uu q v _ tp bp mp hVq.vblk s T x hVq.now ids[i]).mono ?_;rintro e q1 ⟨l,rfl,hl1,b1⟩;have hB1:=ab hB b1;refine⟨_,_,_,_,rfl,aa.mk (fun h0=>?_) fun h0=>?_⟩
  ·have h0:cJ s T ids[i]=false:=by simpa using h0
   have hbad:jQ s T ids=i:=ga hi (by rw [h0];rfl) fun j hj=>by rw [hhas j hj (by omega)];rfl
   refine⟨fF,by rw [nG,if_pos (by omega),hbad],fun hn=>absurd hbad (by omega),fun _=>rfl,hV1.on hB1,t1.trans (bB.of_below hB1)⟩
  ·have h0:cJ s T ids[i]=true:=by simpa using h0
   obtain⟨hln,ho⟩:=hl1 h0;have hlt:=sD (s:=s) hok ids[i];obtain⟨r,q2,hrn,e1,e2,e3,_⟩:=ic.spread (aL hown b1) (l:=l) (ys:=(cm s T).items ids[i]) ⟨hln,(Rw.of_own ho (fun _=>rfl) (by decide)).1,jO ho⟩ (by have:=hB1.size;omega) (by omega) (by omega) (by decide);have e:(cm s T).itemsAll (ids.take (i+1))=(cm s T).itemsAll (ids.take i)++(cm s T).items ids[i]:=by
    unfold Voc.itemsAll;rw [List.take_add_one,List.getElem?_eq_getElem hi,List.flatMap_append];simp
   refine⟨r.a,r.n,r.c,q2,e1,Ar.nat (i+1) rfl (by omega) (ih (r,q2) ⟨?_,?_,?_,?_,?_⟩ _ _ _ _ _)⟩
   ·rw [e];exact e2
   ·rw [e,List.length_append];show r.n=_;omega
   ·show r.n≤_;omega
   ·intro j hj hj2;by_cases hji:j=i
    ·subst hji;exact h0
    ·exact hhas j (by omega) hj2
   ·show Below w1.heap.size w1 q2;rw [hz];exact e3 w1 (by rw [←hz];exact hB1)
 ·rintro⟨f,q⟩ ⟨hown,hfn,hf,hhas,hB⟩ y6 y5 y4A y4N y4C;change q.ownsRow w.heap.size cE 1 f.v f.n _ at hown;change f.n=_ at hfn;change Below w1.heap.size w1 q at hB;rw [List.take_length]at hown hfn;have hbad:jQ s T ids= -1:=fU fun j hj=>by rw [hhas j hj hj];rfl
  exact hI _ f.a f.n f.c y6 y5 y4A y4N y4C q (aa.no (decide_eq_false (by omega)) ⟨f,by rw [nG,if_neg (by omega)],fun _=>⟨hfn,hown⟩,fun h=>absurd hbad (by omega),hV1.on hB,t1.trans (bB.of_below hB)⟩)
theorem jd (w:World) (y:GG) (ls:List Int) (cs:List (Int×Int×Int)) (js:List (Int×Int)) (xs:List (Int×Bs)) (h:sk w y ls cs js xs):CP 40 #[y.l.v,y.c.v,y.j.v,y.x.v] w fun e w'=>(∃b:Bool,e= .returned (.bool b))∧w'=w:=by
 have h4:=h.r4;have n4:=h.n4;obtain⟨⟨l1',l2',l3'⟩,⟨c1',c2',c3'⟩,⟨j1',j2',j3'⟩,⟨x1',x2',x3'⟩⟩:=y;change x2'=xs.length at n4;subst n4;exact(r_ w l1' l2' l3' c1' c2' c3' j1' j2' j3' x1' x3' xs h4 h.most).mono fun _ _ ⟨h1,h2⟩=>⟨⟨_,h1⟩,h2⟩
theorem oa (w:World) (y:GG) (ls:List Int) (cs:List (Int×Int×Int)) (js:List (Int×Int)) (xs:List (Int×Bs)) (h:sk w y ls cs js xs):CP 41 #[y.l.v,y.c.v,y.j.v,y.x.v] w fun e w'=>∃u,e= .returned u∧GF (someV ls cs js xs) w u w':=by
 obtain⟨n1,r1,n2,r2,n3,r3,n4,r4,c2,c3,most⟩:=h;obtain⟨⟨l1',l2',l3'⟩,⟨c1',c2',c3'⟩,⟨j1',j2',j3'⟩,⟨x1',x2',x3'⟩⟩:=y;change l2'=ls.length at n1;change c2'=cs.length at n2;change j2'=js.length at n3;change x2'=xs.length at n4;subst n1 n2 n3 n4;exact uf w l1' l3' ls r1 c1' c3' cs r2 j1' j3' js r3 x1' x3' xs r4 c2 c3
theorem wB {v:Nat} {x:aG} {s:ai} {T:List bl} {r:rM} {w7 w8 w:World} (hS:aM w7 x s) (hv:w7.heap.size≤v) (hvl:v<w8.heap.size) (hf:iI w8.heap.size r.t) (eb:r.b=⟨x.s4,x.s5⟩) (esp:r.sp=x.s3) (hr:jy w r s T):∀w',bB v w w'→jy w' r s T:=by
 intro w' t;have f3:=hS.r3.far hv;have f4:=hS.r4.far hv;have f5:=hS.r5.far hv;obtain⟨g1,⟨g2,g3,g4,g5⟩,g6,g7,g8,g9,g10,g11⟩:=hr;exact⟨g1.touch hf hvl t,⟨g2,g3.touch t (by rw [eb];exact f4),g4,g5.touch t (by rw [eb];exact f5)⟩,g6,g7.touch t (by rw [esp];exact f3),g8,g9,g10,g11⟩
theorem uL {w:World} (h:fD w) {w3:World} (hB:Below w.heap.size w w3):CP 30 #[] w3 fun e w4=>∃q:Bool,e= .returned (.bool q)∧(Value.bool q= .bool true∧Below w.heap.size w w4):=by
 refine(dB w3 (h.on hB)).mono ?_;rintro e w4 ⟨rfl,hB4⟩;exact⟨true,rfl,rfl,ab hB hB4⟩
theorem mW {s:ai} {T:List bl} (hok:gW T):∀ids:List Int,((cm s T).itemsAll ids).length≤64*ids.length
 | []=>Nat.le_refl _
 |t::ids=>by
  have h1:=sD (s:=s) hok t;have h2:=mW (s:=s) hok ids;have e:(cm s T).itemsAll (t::ids)=(cm s T).items t++(cm s T).itemsAll ids:=by unfold Voc.itemsAll;rw [List.flatMap_cons]
  rw [e,List.length_append,List.length_cons];omega
theorem pf (w:World) (y:GG) (ls:List Int) (cs:List (Int×Int×Int)) (js:List (Int×Int)) (xs:List (Int×Bs)) (h:sk w y ls cs js xs) (A:Option Addr) (C:Nat) (ids:List Int) (hids:Rw aQ 1 w A ids) (id:Int) (hL:fD w):
  CP 9 #[y.l.v,y.c.v,y.j.v,y.x.v,.slice A ids.length C,.int .i64 id] w fun e w'=>e= .returned (.bool true)∧Below w.heap.size w w':=by
 refine az (Cb y.l.a y.l.n y.l.c y.c.a y.c.n y.c.c y.j.a y.j.n y.j.c y.x.a y.x.n y.x.c A ids.length C id w (fun u w'=>u= .bool true∧Below w.heap.size w w') ?_) (by rintro v w' ⟨rfl,h⟩;exact⟨rfl,h⟩);refine(jd w y ls cs js xs h).mono ?_;rintro e w1 ⟨⟨b,rfl⟩,rfl⟩;refine⟨b,rfl,aa.mk (fun _=>uL hL (Below.refl _ _)) fun _=>aa.mk (fun _=>uL hL (Below.refl _ _)) fun h200=>?_⟩;have h200:=of_decide_eq_false h200;refine(dB w1 hL).mono ?_;rintro e w4 ⟨rfl,b4⟩;refine⟨true,rfl,aa.no rfl ?_⟩;refine(oa w4 y ls cs js xs (h.on b4)).mono ?_;rintro e w6 ⟨u,rfl,x,s,T,rfl,hS,hrk,hright,hT,htok,hfew,hxid,hasc,hs0,b6⟩;refine⟨_,_,_,_,_,_,_,_,_,_,_,_,_,_,_,_,rfl,?_⟩;intro w7 hw7;refine dD x w7 hw7 ?_;intro w8 h8 b8;have hS8:=hS.on b8;have hb8:=ab b4 (ab b6 b8);refine⟨_,_,_,_,_,_,_,_,_,_,_,_,_,_,_,_,aV h8,?_⟩;refine(fa w8 x s hS8).mono ?_;rintro e w9 ⟨u,rfl,b9,hp⟩;rw [if_pos hright,hT]at hp;obtain⟨v,rfl,hN⟩:=hp;have hvl:=hN.voc.1.lt;have hvb:=hN.voc.2;refine⟨_,_,_,rfl,aa.no rfl ⟨_,_,_,_,_,_,_,_,_,_,_,_,_,_,_,_,aV (ah b9 h8),?_⟩⟩;refine(q_ w9 x s (hS8.on b9) hrk hright T hT).mono ?_;rintro e w10 ⟨r,rfl,hr,b10,hf,eb,esp⟩;refine⟨_,_,_,_,_,_,_,_,_,_,_,_,_,_,_,rfl,?_⟩;intro w11 hw11;refine aJ (gq py) (gq r) rfl (eh r) w11 hw11 ?_;intro w12 h12 hz12 b12;have hrv:=wB hS8 hvb hvl hf eb esp (hr.on b12);have b912:=ab b10 b12;have hb12:=ab (ab hb8 b9) b912;obtain⟨w0,x0,tp,bp,mp,hR,_⟩:=hN.on b912;have hz8:=hb8.size;have hz10:=b10.size;have hvw:v≠w10.heap.size:=by omega
 refine(ue w12 v s T hR A C ids (hids.on hb12) (hids.far (by omega)) (by omega)).mono ?_;rintro e w13 ⟨l,rfl,hl,hl0,hR13,t13⟩;have h13:=t13.held (Ne.symm hvw) h12;have hr13:=hrv w13 t13;have hb13:Below w1.heap.size w1 w13:=hb12.trans (t13.below (by omega) hb12.size);have hu:IntKind.i64.wrap (0+1)=1:=by decide
 rw [hu]at hR13;refine⟨_,_,_,_,_,rfl,_,_,_,_,_,_,_,_,_,_,_,_,_,_,_,kS (x:=r) h13,?_⟩;refine(wu w13 r s T hr13 A C ids (hids.on hb13) (by omega)).mono ?_;rintro e w14 ⟨rfl,b14⟩;refine⟨_,rfl,?_⟩;have hR14:=hR13.on b14;refine(yL w14 v s T ⟨_,_,_,_,_,_,_,_,hR14⟩ hasc).mono ?_;rintro e w15 ⟨al,rfl,ho15,b15⟩;have haln:=(Rw.of_own ho15 (fun _=>rfl) (by decide)).2;have har:=(Rw.of_own ho15 (fun _=>rfl) (by decide)).1;refine⟨_,_,_,rfl,?_⟩;intro w16 hw16;have b16:Below w15.heap.size w15 w16:=by subst hw16;exact ba w15
 have b1316:=ab b14 (ab b15 b16);have h16:=ah b1316 h13;have hr16:=hr13.on b1316;have hR16:=hR13.on b1316;have hb16:=ab hb13 b1316;refine⟨_,_,_,_,_,_,_,_,_,_,_,_,_,_,_,kS (x:=r) h16,?_⟩;refine(jT hR16.vblk hR16.now id).mono ?_;rintro e w17 ⟨rfl,rfl⟩;refine⟨_,rfl,kS (x:=r) h16,(gm w17 r s T hr16 id).mono ?_⟩;rintro e w18 ⟨rfl,b18⟩;have h18:=ah b18 h16;have hr18:=hr16.on b18;have hR18:=hR16.on b18;have hb18:=ab hb16 b18;have c0:w18.cell? (((nb w10).add 0).add 0)=some r.t.b.v:=by rw [an,an];have:=af _ _ h18 0;rw [an]at this;exact this
 have htn:=hr18.t.n1;have hsn:=hr18.sn;have hT1000:=htok.most;refine⟨_,rfl,aa.no (by simp) ⟨_,_,_,c0,(fC hR18.vblk hR18.now.tab).mono ?_⟩⟩;rintro e w19 ⟨rfl,rfl⟩;refine⟨_,rfl,⟨c0,trivial⟩,aa.no (by rw [htn];simp) ⟨_,_,_,c0,_,_,_,af _ _ h18 4,Ar.ok64 (by omega) (by omega) (aa.no (by rw [haln,f_,htn,hsn];simp) ((zw w19 v hR18.blk).mono ?_))⟩⟩;rintro e w20 ⟨rfl,rfl⟩;refine⟨_,rfl,aa.no rfl ?_⟩;have hris:=ow hasc hR18.now.ids;have b1520:=ab b16 b18;intro I hI;have key:=aK (α:=World) (nH s T).length (fun i q=>Below w20.heap.size w20 q) (fun i q=>I [.int .i64 (i:Int),.bool false] q) w20 (Below.refl _ _) ?_ ?_
 ·exact key
 ·rintro i hi ih q hq;have hgl:(nH s T).length≤1000000:=by rw [f_];omega
  refine hI _ _ _ (aa.yes (decide_eq_true (by omega)) ?_);intro w22 hw22;have b22:=ab hq (show Below q.heap.size q w22 by subst hw22;exact ba q);obtain⟨p,hp,ci⟩:=cz (har.on (ab b1520 b22)) hi rfl;refine⟨_,_,_,_,_,_,_,_,_,_,_,_,_,_,_,kS (x:=r) (ah b22 h18),ae.mk p hp ⟨by omega,by omega,_,ci,?_⟩⟩;refine(gm w22 r s T (hr18.on b22) _).mono ?_;rintro e w23 ⟨rfl,b23⟩;have hh:cJ s T (nH s T)[i]=true:=(DA s T _).1 (List.getElem_mem hi);have b2023:=ab b22 b23;obtain⟨p2,hp2,ci2⟩:=cz (har.on (ab b1520 b2023)) hi rfl;refine⟨_,rfl,aa.no (by rw [hh];rfl) (aa.mk (fun h0=>ae.mk p2 hp2 ⟨by omega,by omega,_,ci2,?_⟩) fun h0=>Ar.nat (i+1) rfl (by omega) (ih w23 b2023))⟩;have h0:=of_decide_eq_true h0;have hi1:i-1< (nH s T).length:=by omega
  obtain⟨p3,hp3,ci3⟩:=cz (har.on (ab b1520 b2023)) hi1 rfl;refine Ar.nat (i-1) (by omega) (by omega) (ae.mk p3 hp3 ⟨by omega,by omega,_,ci3,aa.no ?_ (Ar.nat (i+1) rfl (by omega) (ih w23 b2023))⟩);have:=List.pairwise_iff_getElem.1 hris (i-1) i hi1 hi (by omega);exact decide_eq_false (by omega)
 ·rintro q hq;refine hI _ _ _ (aa.no (decide_eq_false (by omega)) ?_);have hbq:=ab hb18 hq;refine aa.mk (fun hbad=>?_) fun hbad=>?_
  ·have hbad:=of_decide_eq_true hbad;rw [nG,if_pos hbad];refine aa.yes (by rw [hl0 hbad];rfl) (aa.yes (by simp) ⟨by simp,hbq⟩)
  ·have hbad:=of_decide_eq_false hbad;obtain⟨hln,hlo⟩:=hl hbad;rw [nG,if_neg hbad];refine⟨_,_,_,_,_,_,_,_,_,_,_,_,_,_,_,kS (x:=r) (ah hq h18),?_⟩;refine(sv q r s T (hr18.on hq) A C ids (hids.on hbq) (by omega) fun t ht=>(Fe hR18.now t).1 (zC hbad t ht)).mono ?_;rintro e w24 ⟨l2,rfl,hl2,b24⟩;have hbq':=ab hq b24;have hlr:=(Rw.of_own hlo (fun _=>rfl) (by decide)).1.on (ab (ab b1316 b18) hbq');have i1:=tL w24 l.a l2.a l.c l2.c ((cm s T).itemsAll ids) ((cm s T).itemsAll ids) hlr hl2.r (by have:=mW (s:=s) htok ids;omega);refine⟨_,_,_,rfl,?_⟩;rw [hln,hl2.n];refine i1.mono ?_;rintro e w25 ⟨rfl,b25⟩;refine⟨_,rfl,aa.yes (by simp) (aa.yes (by simp) ⟨rfl,ab hbq (ab b24 b25)⟩)⟩
theorem tA {T:List bl} {k:Nat} (hk:k<T.length):aX T (k:Int)=T[k].1:=by simp [aX,hk]
theorem rT (w:World) (x:iU) (es:List bl) (h:eA w x es) (hok:gW es) (i:Nat) (hi:i<es.length):CP 44 #[x.v,.int .i64 (i:Int)] w fun e w'=>e= .returned (.bool (decide (cW es (aX es (i:Int))= [(i:Int)])))∧Below w.heap.size w w':=by
 refine aU (zT x.b.a x.b.n x.b.c x.m.a x.m.n x.m.c (i:Int) w) ?_;intro w1 hw1 w2 hw2;have hb1:Below w.heap.size w w1:=by subst hw1;exact ag _ _
 have b2:Below w1.heap.size w1 w2:=by subst hw2;exact ba w1
 have hb2:=ab hb1 b2;have l2:w2.heap[w.heap.size]? =some (.cells #[x.b.v,x.m.v] na (0,0)):=ah b2 (by subst hw1;exact ao _ _);have h2:=h.on hb2;have hn:=h.n1;have hm:=hok.most;have hbt:aX es (i:Int)=es[i].1:=by simp [aX,hi]
 have hj:i< (es.map (·.1)).length:=by rw [List.length_map];exact hi
 obtain⟨p,hp,c0⟩:=cz h2.r1 hj (v:=.string (str (aX es (i:Int)))) (by rw [hbt];simp [be]);refine⟨_,_,_,_,_,_,dm l2,_,_,_,af _ _ l2 0,ae.mk p hp ⟨by omega,by omega,_,c0,?_⟩⟩;have hsh:(aX es (i:Int)).length≤64:=by rw [hbt];exact hok.short _ (List.getElem_mem hi)
 refine(nU w2 x es h2 hok (aX es (i:Int)) (by omega)).mono ?_;rintro e w3 ⟨l,rfl,hl,b3⟩;rw [←mZ hok]at hl;have hb3:=ab hb2 b3;have hln:=hl.n;refine⟨_,_,_,rfl,aa.mk (fun h0=>?_) fun h0=>?_⟩
 ·have h0:(l.n:Int)=1:=by simpa using h0
  obtain⟨a,ha⟩:∃a,cW es (aX es (i:Int))= [a]:=List.length_eq_one_iff.1 (by omega);rw [ha]at hl⊢;obtain⟨q,hq,c1⟩:=cz hl.r (i:=0) (Nat.succ_pos _) rfl;refine ae.mk q hq ⟨Int.le_refl _,by omega,a,c1,?_,hb3⟩;congr 2;rw [Bool.eq_iff_iff,beq_iff_eq,decide_eq_true_eq,List.singleton_inj]
 ·have h0:(l.n:Int)≠1:=by simpa using h0
  refine⟨?_,hb3⟩;rw [decide_eq_false fun e=>?_];rw [e]at hln;simp at hln;omega
theorem Dj {s:ai} {T:List bl} {r:rM} {w:World} (h:jy w r s T) {i:Nat} (hi:i<T.length):fi s T (i:Int)=(decide (cW T (aX T (i:Int))= [(i:Int)])&&kc (cutB s.classes s.joins) (aX T (i:Int))):=by
 have h1:(i:Int)∉s.specials.map (·.1):=by
  intro hm;obtain⟨y,hy,e⟩:=List.mem_map.1 hm;have:=h.ids y hy;omega
 have h2:cq T (i:Int):=⟨by omega,by omega⟩;rw [fi,decide_eq_false h1,decide_eq_true h2,Bool.false_or,Bool.true_and,gM,Int.toNat_natCast]
theorem By {cls:List (Int×Int×Int)} {js:List (Int×Int)} {b:Bs} (hb:b≠ []) {ps:List Bs} (hps:ps.map bh=ew (cutB cls js) (bh b)):kc (cutB cls js) b=((ps.length:Int)==1):=by
 have hi:bh b≠ []:=by intro e;apply hb;cases b with |nil=>rfl |cons x t=>simp [bh]at e
 have hlen:ps.length=(ew (cutB cls js) (bh b)).length:=by rw [←hps,List.length_map]
 have hpos:0< (ew (cutB cls js) (bh b)).length:=by
  obtain⟨_,h2⟩:=mH (cut:=cutB cls js) (bh b);cases hc:ew (cutB cls js) (bh b)with
  |nil=>rw [hc]at h2;exact absurd h2.symm hi
  |cons p q=>exact Nat.succ_pos _
 rw [Bool.eq_iff_iff,yg, ←uv hi,beq_iff_eq];omega
theorem pj (w:World) (y:GG) (ls:List Int) (cs:List (Int×Int×Int)) (js:List (Int×Int)) (xs:List (Int×Bs)) (h:sk w y ls cs js xs) (id:Int) (hL:fD w):
  CP 8 #[y.l.v,y.c.v,y.j.v,y.x.v,.int .i64 id] w fun e w'=>e= .returned (.bool true)∧Below w.heap.size w w':=by
 refine az (BI y.l.a y.l.n y.l.c y.c.a y.c.n y.c.c y.j.a y.j.n y.j.c y.x.a y.x.n y.x.c id w (fun u w'=>u= .bool true∧Below w.heap.size w w') ?_) (by rintro v w' ⟨rfl,h⟩;exact⟨rfl,h⟩);refine(jd w y ls cs js xs h).mono ?_;rintro e w1 ⟨⟨b,rfl⟩,rfl⟩;refine⟨b,rfl,aa.mk (fun _=>uL hL (Below.refl _ _)) fun _=>?_⟩;refine(dB w1 hL).mono ?_;rintro e w4 ⟨rfl,b4⟩;refine⟨true,rfl,aa.no rfl ?_⟩;refine(oa w4 y ls cs js xs (h.on b4)).mono ?_;rintro e w6 ⟨u,rfl,x,s,T,rfl,hS,hrk,hright,hT,htok,hfew,hxid,hasc,hs0,b6⟩;refine⟨_,_,_,_,_,_,_,_,_,_,_,_,_,_,_,_,rfl,?_⟩;intro w7 hw7;refine dD x w7 hw7 ?_;intro w8 h8 b8;have hS8:=hS.on b8;have hb8:=ab b4 (ab b6 b8);refine⟨_,_,_,_,_,_,_,_,_,_,_,_,_,_,_,_,aV h8,?_⟩;refine(fa w8 x s hS8).mono ?_;rintro e w9 ⟨u,rfl,b9,hp⟩;rw [if_pos hright,hT]at hp;obtain⟨v,rfl,hN⟩:=hp;have hvl:=hN.voc.1.lt;have hvb:=hN.voc.2;refine⟨_,_,_,rfl,aa.no rfl ⟨_,_,_,_,_,_,_,_,_,_,_,_,_,_,_,_,aV (ah b9 h8),?_⟩⟩;refine(q_ w9 x s (hS8.on b9) hrk hright T hT).mono ?_;rintro e w10 ⟨r,rfl,hr,b10,hf,eb,esp⟩;refine⟨_,_,_,_,_,_,_,_,_,_,_,_,_,_,_,rfl,?_⟩;intro w11 hw11;refine aJ (gq py) (gq r) rfl (eh r) w11 hw11 ?_;intro w12 h12 hz12 b12;have hrv:=wB hS8 hvb hvl hf eb esp (hr.on b12);have b912:=ab b10 b12;have hb12:=ab (ab hb8 b9) b912;have hV12:=(hN.on b912).voc.1;have hz8:=hb8.size;have hz10:=b10.size;have hvw:w10.heap.size≠v:=by omega
 have hbel:∀ {q:World},bB v w12 q→Below w1.heap.size w1 q:=fun t=>hb12.trans (t.below (by omega) hb12.size);have hT1:=htok.most;have hT0:=htok.len;have hr12:=hrv w12 (bB.of_below (Below.refl _ _));have cells:∀ {q:World},bB v w12 q→∀j,q.cell? ((nb w10).add j)=(gq r)[j]? :=by
  intro q t j;have:=af _ _ (t.held hvw h12) j;rw [this];simp
 have cell2:∀ {q:World},bB v w12 q→∀j k,q.cell? (((nb w10).add j).add k)=(gq r)[j+k]? :=by
  intro q t j k;rw [Addr.add_add];exact cells t _
 intro I hI;have key:=aK (α:=World) (T.length-97) (fun i q=>eU q v s T∧bB v w12 q) (fun i q=>I [.int .i64 ((97+i:Nat):Int),.bool false] q) w12 ⟨hV12,bB.of_below (Below.refl _ _)⟩ ?_ ?_
 ·exact key
 ·rintro i hi ih q ⟨hV,t⟩;have hiT:97+i<T.length:=by omega
  have htn:=hr12.t.n1;refine hI _ _ _ ⟨_,_,_,cell2 t 0 0,aa.yes (decide_eq_true (by omega)) ?_⟩;intro J hJ;have next:∀q',eU q' v s T→bB v w12 q'→J [.bool false] q':=fun q' h1 h2=>hJ false q' (Ar.nat (97+i+1) (by omega) (by omega) (ih q' ⟨h1,h2⟩));have main:∀w14:World,w14=q.drew→∃g0A:Option Addr,∃g0N:Nat,∃g0C:Nat,∃g1A:Option Addr,∃g1N:Nat,∃g1C:Nat,(w14.cell? ((nb w10).add 0)=some (Value.slice g0A g0N g0C)∧w14.cell? (((nb w10).add 0).add 1)=some (Value.slice g1A g1N g1C)∧True)∧
    CP 43 #[.pointer (some ⟨v,0,none⟩),.int .i64 ((97+i:Nat):Int)] w14 (fun e15 w15=>
    ∃b1:Bool,e15= .returned (Value.bool b1)∧
    (w15.cell? ((nb w10).add 0)=some (Value.slice g0A g0N g0C)∧w15.cell? (((nb w10).add 0).add 1)=some (Value.slice g1A g1N g1C)∧True)∧
    CP 44 #[Value.agg #[Value.slice g0A g0N g0C,Value.slice g1A g1N g1C],.int .i64 ((97+i:Nat):Int)] w15 (fun e16 w16=>
    ∃b2:Bool,e16= .returned (Value.bool b2)∧
    aa b2
     (∃c0A:Option Addr,∃c0N:Nat,∃c0C:Nat,∃c1A:Option Addr,∃c1N:Nat,∃c1C:Nat,(w16.cell? ((nb w10).add 2)=some (Value.slice c0A c0N c0C)∧w16.cell? (((nb w10).add 2).add 1)=some (Value.slice c1A c1N c1C)∧True)∧
      ∃lA:Option Addr,∃lN:Nat,∃lC:Nat,w16.cell? (((nb w10).add 0).add 0)=some (Value.slice lA lN lC)∧
      ae lA (fun pa=>
      (0:Int)≤((97+i:Nat):Int)∧((97+i:Nat):Int) < ((lN:Nat):Int)∧
      ∃z:ByteArray,w16.cell? (pa.add ((((97+i:Nat):Int):Int).toNat*1))=some (Value.string z)∧
      CP 45 #[Value.agg #[Value.slice c0A c0N c0C,Value.slice c1A c1N c1C],Value.string z] w16 (fun e17 w17=>
      ∃kA:Option Addr,∃kN:Nat,∃kC:Nat,e17= .returned (Value.slice kA kN kC)∧
      aa (!(b1==((((kN:Nat):Int):Int)==1)))
       (Value.bool false= .bool true∧Below w1.heap.size w1 w17)
       (J [Value.bool false] w17))))
     (aa (!(b1==false))
      (Value.bool false= .bool true∧Below w1.heap.size w1 w16)
      (J [Value.bool false] w16)))):=by
   intro w14 hw14;have t14:bB v w12 w14:=t.trans (bB.of_below (by subst hw14;exact ba q));have hV14:eU w14 v s T:=hV.on (by subst hw14;exact ba q);refine⟨_,_,_,_,_,_,⟨cells t14 0,cell2 t14 0 1,trivial⟩,(lD w14 v s T hV14 _).mono ?_⟩;rintro e w15 ⟨rfl,hV15,u15⟩;have t15:=t14.trans u15;have hr15:=hrv w15 t15;refine⟨_,rfl,⟨cells t15 0,cell2 t15 0 1,trivial⟩,(rT w15 r.t T hr15.t htok (97+i) hiT).mono ?_⟩;rintro e w16 ⟨rfl,b16⟩;have t16:=t15.trans (bB.of_below b16);have hV16:=hV15.on b16;have hr16:=hr15.on b16;rw [Dj hr15 hiT];refine⟨_,rfl,aa.mk (fun h0=>?_) fun h0=>?_⟩
   ·rw [h0,Bool.true_and];have hj:97+i< (T.map (·.1)).length:=by rw [List.length_map];exact hiT
    obtain⟨p,hp,c0⟩:=cz hr16.t.r1 hj (v:=.string (str (aX T ((97+i:Nat):Int)))) (by rw [tA hiT];simp [be]);refine⟨_,_,_,_,_,_,⟨cells t16 2,cell2 t16 2 1,trivial⟩,_,_,_,cell2 t16 0 0,ae.mk p hp ⟨by omega,by rw [htn];omega,_,c0,?_⟩⟩;have hsh:(aX T ((97+i:Nat):Int)).length≤64:=by
     rw [tA hiT];exact htok.short _ (List.getElem_mem hiT)
    refine(qx w16 r.b s.classes s.joins hr16.b hr16.few.2.1 hr16.few.2.2 _ (by omega)).mono ?_;rintro e w17 ⟨k,ps,rfl,ho,hps,b17⟩;have hkn:=(Rw.of_own ho (fun _=>rfl) (by decide)).2;refine⟨_,_,_,rfl,aa.no ?_ (next w17 (hV16.on b17) (t16.trans (bB.of_below b17)))⟩;rw [By (E7 htok _ _ (Nat.le_refl _) hiT) hps,hkn];simp
   ·rw [h0,Bool.false_and];exact aa.no rfl (next w16 hV16 t16)
  exact aa.mk (fun h99=>aa.mk (fun h256=>next q hV t) fun h256=>main) fun h99=>main
 ·rintro q ⟨hV,t⟩;have htn:=hr12.t.n1;have hsn:=hr12.sn;refine hI _ _ _ ⟨_,_,_,cell2 t 0 0,aa.no (decide_eq_false (by omega)) ?_⟩;intro I2 hI2;have key2:=aK (α:=World) s.specials.length (fun i q=>eU q v s T∧bB v w12 q) (fun i q=>I2 [.int .i64 (i:Int),.bool false] q) q ⟨hV,t⟩ ?_ ?_
  ·exact key2
  ·rintro i hi ih q ⟨hV,t⟩;obtain⟨p,hp,_,hc⟩:=(hrv q t).sr i _ (List.getElem?_eq_getElem hi);refine hI2 _ _ _ ⟨_,_,_,cells t 4,aa.yes (decide_eq_true (by omega)) ⟨_,_,_,cells t 4,ae.mk p hp ⟨by omega,by omega,_,hc 0 _ rfl,(lD q v s T hV _).mono ?_⟩⟩⟩;rintro e w23 ⟨rfl,hV23,u23⟩;have hal:fi s T s.specials[i].1=true:=by
    rw [fi,decide_eq_true (List.mem_map.2 ⟨_,List.getElem_mem hi,rfl⟩),Bool.true_or]
   exact⟨_,rfl,aa.no (by rw [hal];rfl) (Ar.nat (i+1) rfl (by omega) (ih w23 ⟨hV23,t.trans u23⟩))⟩
  ·rintro q ⟨hV,t⟩;have hrq:=hrv q t;refine hI2 _ _ _ ⟨_,_,_,cells t 4,aa.no (decide_eq_false (by omega)) ⟨_,_,_,_,_,_,_,_,_,_,_,_,_,_,_,kS (x:=r) (t.held hvw h12),(gm q r s T hrq id).mono ?_⟩⟩;rintro e w24 ⟨rfl,b24⟩;have t24:=t.trans (bB.of_below b24);refine⟨_,rfl,aa.mk (fun _=>⟨rfl,hbel t24⟩) fun h0=>(lD w24 v s T (hV.on b24) id).mono ?_⟩;rintro e w25 ⟨rfl,hV25,u25⟩;refine⟨_,rfl,?_,hbel (t24.trans u25)⟩;have h0:=of_decide_eq_false h0;rw [fi,decide_eq_false fun e=>h0 (.inl e),decide_eq_false fun e=>h0 (.inr e)];rfl
def Wt (q:World) (l:Sl) (sz B C:Nat):Prop:=l.n=0∨∃g cur e,l.a=some ⟨g,0,none⟩∧B≤g∧g<C∧q.heap[g]? =some (.cells cur e (0,0))∧l.n*sz≤cur.size
theorem Wr.top {w:World} {l:Sl} {sz B:Nat} (h:Wr w l sz B):Wt w l sz B w.heap.size:=
 h.imp id fun⟨g,cur,e,h1,h2,h3,h4⟩=>⟨g,cur,e,h1,h2,(Array.getElem?_eq_some_iff.1 h3).1,h3,h4⟩
theorem Wt.on {w w':World} {l:Sl} {sz B C:Nat} (h:Wt w l sz B C) (hb:Below w.heap.size w w'):Wt w' l sz B C:=
 h.imp id fun⟨g,cur,e,h1,h2,h3,h4,h5⟩=>⟨g,cur,e,h1,h2,h3,ah hb h4,h5⟩
theorem Wt.put {q:World} {l:Sl} {sz B C:Nat} (h:Wt q l sz B C) (a:Addr) (ha:a.spot=none) (u:Value):Wt (q.setCell a u) l sz B C:=by
 refine h.imp id ?_;rintro⟨g,cur,e,h1,h2,h3,h4,h5⟩;by_cases hg:g=a.block
 ·obtain⟨b,j,pth⟩:=a;change g=b at hg;change pth=none at ha;subst hg ha;exact⟨g,_,e,h1,h2,h3,gl h4 u,by rw [Array.size_setIfInBounds];exact h5⟩
 ·exact⟨g,cur,e,h1,h2,h3,by rw [ay hg];exact h4,h5⟩
theorem Wt.cell {q:World} {l:Sl} {sz B C:Nat} (h:Wt q l sz B C) {i k:Nat} (hi:i<l.n) (hk:k<sz):
  ∃p:Addr,l.a=some p∧p.spot=none∧B≤p.block∧p.block<C∧(∃z,q.cell? ((p.add (i*sz)).add k)=some z)∧q.frozen? ((p.add (i*sz)).add k)=false:=by
 rcases h with h |⟨g,cur,e,h1,h2,h3,h4,h5⟩
 ·omega
 have h6:(i+1)*sz≤l.n*sz:=Nat.mul_le_mul_right _ hi;rw [Nat.add_mul,Nat.one_mul]at h6;refine⟨⟨g,0,none⟩,h1,rfl,h2,h3,?_,?_⟩
 ·rw [aA,aA,cY h4];exact⟨_,Array.getElem?_eq_getElem (by omega)⟩
 ·rw [aA,aA];exact eT h4
theorem fZ {p:Addr} (h:p.spot=none) (k:Nat):(p.add k).spot=none:=by
 obtain⟨b,o,z⟩:=p;change z=none at h;subst h;rw [aA]
structure rH (a b c d:Nat) (w q:World):Prop where
 os:q.os=w.os
 tape:q.tape=w.tape
 output:q.output=w.output
 size:q.heap.size=w.heap.size
 block:∀j,(j<a∨(b≤j∧j<c)∨d≤j)→q.heap[j]? =w.heap[j]?
theorem rH.refl {a b c d:Nat} (w:World):rH a b c d w w:=⟨rfl,rfl,rfl,rfl,fun _ _=>rfl⟩
theorem rH.put {a b c d:Nat} {w q:World} (h:rH a b c d w q) (p:Addr) (u:Value) (hp:(a≤p.block∧p.block<b)∨(c≤p.block∧p.block<d)) (hab:a≤b) (hbc:b≤c) (hcd:c≤d):rH a b c d w (q.setCell p u):=
 ⟨h.os,h.tape,h.output,by rw [aO];exact h.size,fun j hj=>by rw [ay (by omega)];exact h.block j hj⟩
theorem uo (w:World) (y:GG) (ls:List Int) (cs:List (Int×Int×Int)) (js:List (Int×Int)) (xs:List (Int×Bs)) (h:sk w y ls cs js xs):CP 41 #[y.l.v,y.c.v,y.j.v,y.x.v] w fun e w'=>∃u,e= .returned u∧rJ (someV ls cs js xs) w u w':=by
 obtain⟨n1,r1,n2,r2,n3,r3,n4,r4,c2,c3,most⟩:=h;obtain⟨⟨l1',l2',l3'⟩,⟨c1',c2',c3'⟩,⟨j1',j2',j3'⟩,⟨x1',x2',x3'⟩⟩:=y;change l2'=ls.length at n1;change c2'=cs.length at n2;change j2'=js.length at n3;change x2'=xs.length at n4;subst n1 n2 n3 n4;exact kW w l1' l3' ls r1 c1' c3' cs r2 j1' j3' js r3 x1' x3' xs r4 c2 c3
theorem rX (w:World) (y:GG) (ls:List Int) (cs:List (Int×Int×Int)) (js:List (Int×Int)) (xs:List (Int×Bs)) (h:sk w y ls cs js xs) (hL:fD w):
  CP 7 #[y.l.v,y.c.v,y.j.v,y.x.v] w fun e w'=>e= .returned (.bool true)∧Below w.heap.size w w':=by
 refine az (Cd y.l.a y.l.n y.l.c y.c.a y.c.n y.c.c y.j.a y.j.n y.j.c y.x.a y.x.n y.x.c w (fun u w'=>u= .bool true∧Below w.heap.size w w') ?_) (by rintro v w' ⟨rfl,h⟩;exact⟨rfl,h⟩);refine(jd w y ls cs js xs h).mono ?_;rintro e w1 ⟨⟨b,rfl⟩,rfl⟩;refine⟨b,rfl,aa.mk (fun _=>uL hL (Below.refl _ _)) fun _=>?_⟩;refine(dB w1 hL).mono ?_;rintro e w4 ⟨rfl,b4⟩;refine⟨true,rfl,aa.no rfl ?_⟩;refine(uo w4 y ls cs js xs (h.on b4)).mono ?_;rintro e w6 ⟨u,rfl,x,s,T,rfl,hS,hrk,hright,hT,htok,hfew,hxid,hasc,hs0,b6,hW1,hW4⟩;have hsm:=bT hright;have hfit:=(zd (.inl hright)).1;obtain⟨k1,k2,k3,k4,k5⟩:=hsm;refine⟨_,_,_,_,_,_,_,_,_,_,_,_,_,_,_,_,rfl,?_⟩;intro w7 hw7;refine dD x w7 hw7 ?_;intro w8 h8 b8;have hS8:=hS.on b8;have hb8:=ab b4 (ab b6 b8);refine⟨_,_,_,_,_,_,_,_,_,_,_,_,_,_,_,_,aV h8,?_⟩;refine(fa w8 x s hS8).mono ?_;rintro e w9 ⟨u,rfl,b9,hp⟩;rw [if_pos hright,hT]at hp;obtain⟨v,rfl,hN⟩:=hp;have hvl:=hN.voc.1.lt;obtain⟨w0,x0,tp,bp,mp,hR,hvb,hown⟩:=hN;refine⟨_,_,_,rfl,aa.no rfl ?_⟩;refine(fL w9 v hR.blk hR.now.spec ⟨k1,k2,k3,k4,k5⟩).mono ?_;rintro e w10 ⟨x1,rfl,hx1,b10,_⟩;refine⟨_,_,_,_,_,_,_,_,_,_,_,_,_,_,_,_,rfl,?_⟩;refine(fS x1 s w10 hx1 hfit (iv hright)).mono ?_;rintro e w11 ⟨rfl,b11⟩;have b911:=ab b10 b11;have hR11:=hR.on b911;refine⟨_,rfl,(fL w11 v hR11.blk hR11.now.spec ⟨k1,k2,k3,k4,k5⟩).mono ?_⟩;rintro e w12 ⟨x2,rfl,hx2,b12,hown2⟩;refine⟨_,_,_,_,_,_,_,_,_,_,_,_,_,_,_,_,rfl,?_⟩;intro w13 hw13;refine dD x2 w13 hw13 ?_;intro w14 h14 b14;have b914:=ab b911 (ab b12 b14);have b814:=ab b9 b914;have hb14:=ab hb8 b814;have hR14:=hR.on b914;have hown14:=hown.on b914;have x14:=ah b814 h8;have n1:=hx2.n1;have n3:=hx2.n3;have m1:=hS.n1;have m4:=hS.n4;have z4:=b4.size;have z6:=b6.size;have z8:=b8.size;have z9:=b9.size;have z911:=b911.size;have z12:=b12.size;have lt6:w6.heap.size<w8.heap.size:=(Array.getElem?_eq_some_iff.1 h8).1;have t1:Wt w14 x2.s1 2 w11.heap.size w12.heap.size:=((Wr.of_own hown2.o1 (by decide)).top).on b14;have t3:Wt w14 x2.s3 2 w11.heap.size w12.heap.size:=((Wr.of_own hown2.o3 (by decide)).top).on b14;have s1:Wt w14 x.s1 2 w4.heap.size w6.heap.size:=(hW1.top.on b8).on b814;have s4:Wt w14 x.s4 3 w4.heap.size w6.heap.size:=(hW4.top.on b8).on b814;let Inv (q:World):Prop:=rH w4.heap.size w6.heap.size w11.heap.size w12.heap.size w14 q∧Wt q x2.s1 2 w11.heap.size w12.heap.size∧Wt q x2.s3 2 w11.heap.size w12.heap.size∧Wt q x.s1 2 w4.heap.size w6.heap.size∧Wt q x.s4 3 w4.heap.size w6.heap.size;have put:∀ {q:World} (p:Addr) (k:Nat) (u:Value),p.spot=none→(w4.heap.size≤p.block∧p.block<w6.heap.size)∨(w11.heap.size≤p.block∧p.block<w12.heap.size)→Inv q→Inv (q.setCell ((p.add k)) u):=fun p k u hpp hp ⟨i0,i1,i2,i3,i4⟩=>
  ⟨i0.put _ u (by rw [aq];exact hp) (by omega) (by omega) (by omega),i1.put _ (fZ hpp k) u,i2.put _ (fZ hpp k) u,i3.put _ (fZ hpp k) u,i4.put _ (fZ hpp k) u⟩
 have tc:∀ {q:World},Inv q→∀j,q.cell? ((nb w12).add j)=x2.cells[j]? :=fun hi j=>af _ _ (by rw [hi.1.block _ (.inr (.inr (Nat.le_refl _)))];exact h14) j;have sc:∀ {q:World},Inv q→∀j,q.cell? ((nb w6).add j)=x.cells[j]? :=fun hi j=>af _ _ (by rw [hi.1.block _ (.inr (.inl ⟨Nat.le_refl _,by omega⟩))];exact x14) j;intro I1 hI1;have key1:=aK (α:=World) x2.s1.n (fun i q=>Inv q) (fun i q=>I1 [.int .i64 (i:Int)] q) w14 ⟨rH.refl _,t1,t3,s1,s4⟩ ?_ ?_
 ·exact key1
 ·rintro i hi ih q hq;obtain⟨p,hp,hpn,hp1,hp2,hz,hf⟩:=hq.2.1.cell hi (k:=0) (by decide);refine hI1 _ _ ⟨_,_,_,tc hq 1,aa.yes (decide_eq_true (by omega)) ⟨_,_,_,tc hq 1,ae.mk p hp ⟨by omega,by omega,rfl,hz,hf,?_⟩⟩⟩;intro w15 hw15;subst hw15;exact Ar.nat (i+1) rfl (by omega) (ih _ (put _ _ _ (fZ hpn _) (by rw [aq];exact .inr ⟨hp1,hp2⟩) hq))
 rintro q hq;refine hI1 _ _ ⟨_,_,_,tc hq 1,aa.no (decide_eq_false (by omega)) ?_⟩;intro I2 hI2;have key2:=aK (α:=World) x2.s3.n (fun i q=>Inv q) (fun i q=>I2 [.int .i64 (i:Int)] q) q hq ?_ ?_
 ·exact key2
 ·rintro i hi ih q hq;obtain⟨p,hp,hpn,hp1,hp2,hz,hf⟩:=hq.2.2.1.cell hi (k:=0) (by decide);refine hI2 _ _ ⟨_,_,_,tc hq 3,aa.yes (decide_eq_true (by omega)) ⟨_,_,_,tc hq 3,ae.mk p hp ⟨by omega,by omega,rfl,hz,hf,?_⟩⟩⟩;intro w15 hw15;subst hw15;exact Ar.nat (i+1) rfl (by omega) (ih _ (put _ _ _ (fZ hpn _) (by rw [aq];exact .inr ⟨hp1,hp2⟩) hq))
 rintro q hq;refine hI2 _ _ ⟨_,_,_,tc hq 3,aa.no (decide_eq_false (by omega)) ?_⟩;intro I3 hI3;have key3:=aK (α:=World) x.s4.n (fun i q=>Inv q) (fun i q=>I3 [.int .i64 (i:Int)] q) q hq ?_ ?_
 ·exact key3
 ·rintro i hi ih q hq;obtain⟨p,hp,hpn,hp1,hp2,hz,hf⟩:=hq.2.2.2.2.cell hi (k:=2) (by decide);refine hI3 _ _ ⟨_,_,_,sc hq 4,aa.yes (decide_eq_true (by omega)) ⟨_,_,_,sc hq 4,ae.mk p hp ⟨by omega,by omega,rfl,hz,hf,?_⟩⟩⟩;intro w15 hw15;subst hw15;exact Ar.nat (i+1) rfl (by omega) (ih _ (put _ _ _ (fZ hpn _) (by rw [aq];exact .inl ⟨hp1,hp2⟩) hq))
 rintro q hq;refine hI3 _ _ ⟨_,_,_,sc hq 4,aa.no (decide_eq_false (by omega)) ?_⟩;intro I4 hI4;have key4:=aK (α:=World) x.s1.n (fun i q=>Inv q) (fun i q=>I4 [.int .i64 (i:Int)] q) q hq ?_ ?_
 ·exact key4
 ·rintro i hi ih q hq;obtain⟨p,hp,hpn,hp1,hp2,hz,hf⟩:=hq.2.2.2.1.cell hi (k:=1) (by decide);refine hI4 _ _ ⟨_,_,_,sc hq 1,aa.yes (decide_eq_true (by omega)) ⟨_,_,_,sc hq 1,ae.mk p hp ⟨by omega,by omega,rfl,hz,hf,?_⟩⟩⟩;intro w15 hw15;subst hw15;exact Ar.nat (i+1) rfl (by omega) (ih _ (put _ _ _ (fZ hpn _) (by rw [aq];exact .inl ⟨hp1,hp2⟩) hq))
 rintro q hq;refine hI4 _ _ ⟨_,_,_,sc hq 1,aa.no (decide_eq_false (by omega)) ?_⟩;have kp:=hq.1;have hvq:q.heap[v]? =some (.cells (dX x0 tp bp mp 0 ⟨none,0,0⟩ 0) dC (0,0)):=by rw [kp.block v (.inr (.inl ⟨by omega,by omega⟩))];exact hR14.blk
 have same:∀ {e:TypeId} {sz n:Nat} {u:Value} {zs:List Value},w9.ownsRow w8.heap.size e sz u n zs→q.ownsRow w8.heap.size e sz u n zs:=fun ho=>bD (aL ho b914) fun k hk=>kp.block k (.inr (.inl ⟨by have:=(cn ho k hk).1;omega,by have:=(cn ho k hk).2;omega⟩));have hoq:c_ w8.heap.size q x0 s:=⟨same hown.o1,same hown.o2,same hown.o3,same hown.o4,same hown.o5⟩;have hbq:Below w1.heap.size w1 q:=hb14.trans ⟨kp.os,kp.tape,kp.output,Nat.le_of_eq kp.size.symm,fun k hk=>kp.block k (.inl (by omega))⟩;refine(fL q v hvq (hoq.at hR.parts.spec.ranked) ⟨k1,k2,k3,k4,k5⟩).mono ?_;rintro e w22 ⟨x3,rfl,hx3,b22,_⟩;refine⟨_,_,_,_,_,_,_,_,_,_,_,_,_,_,_,_,rfl,?_⟩;refine(fS x3 s w22 hx3 hfit (iv hright)).mono ?_;rintro e w23 ⟨rfl,b23⟩;exact⟨_,rfl,by simp,ab hbq (ab b22 b23)⟩
open Go Go.RowKit Go.ChangeShapes Go.WideShapes
section
variable {H:Type} {enc0:TypeId×Value→H} {w:World} {base:Nat} {spare:Nat→Bool} {held:Bool}
theorem nr {A:Option Addr} {N C:Nat} {d:DataW H} {p:List MemPlace} (h:DataW.Trod enc0 Tryz.prog w base spare held 22 (.slice A N C) d p):∃xs:List Int,N=xs.length∧jf ⟨A,N,C⟩∧N≤C∧C≤maxLen∧Rw oP 1 w A xs:=by
 obtain⟨fuel,hf⟩:=h;obtain⟨s,xs,e,n,k,c,m,r⟩:=dJ (enc:=oP) (sz:=1) Tryz.underlying22 (by kernel_rfl) (fun _=>rfl) (Nat.succ_pos _) (EU Tryz.underlying242) hf;obtain⟨sa,sn,sc⟩:=s;simp [Value.cells]at e;obtain⟨rfl,rfl,rfl⟩:=e;exact⟨xs,n,k,c,m,r⟩
theorem nJ {A:Option Addr} {N C:Nat} {d:DataW H} {p:List MemPlace} (h:DataW.Trod enc0 Tryz.prog w base spare held 23 (.slice A N C) d p):∃xs:List (Int×Int×Int),N=xs.length∧jf ⟨A,N,C⟩∧N≤C∧C≤maxLen∧Rw aZ 3 w A xs:=by
 obtain⟨fuel,hf⟩:=h;obtain⟨s,xs,e,n,k,c,m,r⟩:=dJ (enc:=aZ) (sz:=3) lL (by kernel_rfl) (fun _=>rfl) (Nat.succ_pos _) (pH Tryz.underlying89 rfl rfl rfl Tryz.underlying3 Tryz.underlying3 Tryz.underlying3 (by kernel_rfl) (by kernel_rfl) (by kernel_rfl) (by kernel_rfl)) hf;obtain⟨sa,sn,sc⟩:=s;simp [Value.cells]at e;obtain⟨rfl,rfl,rfl⟩:=e;exact⟨xs,n,k,c,m,r⟩
theorem qi {A:Option Addr} {N C:Nat} {d:DataW H} {p:List MemPlace} (h:DataW.Trod enc0 Tryz.prog w base spare held 24 (.slice A N C) d p):∃xs:List (Int×Int),N=xs.length∧jf ⟨A,N,C⟩∧N≤C∧C≤maxLen∧Rw aD 2 w A xs:=by
 obtain⟨fuel,hf⟩:=h;obtain⟨s,xs,e,n,k,c,m,r⟩:=dJ (enc:=aD) (sz:=2) lF (by kernel_rfl) (fun _=>rfl) (Nat.succ_pos _) (nK Tryz.underlying170 rfl rfl Tryz.underlying3 Tryz.underlying3 (by kernel_rfl) (by kernel_rfl) (by kernel_rfl)) hf;obtain⟨sa,sn,sc⟩:=s;simp [Value.cells]at e;obtain⟨rfl,rfl,rfl⟩:=e;exact⟨xs,n,k,c,m,r⟩
theorem pC {A:Option Addr} {N C:Nat} {d:DataW H} {p:List MemPlace} (h:DataW.Trod enc0 Tryz.prog w base spare held 25 (.slice A N C) d p):∃xs:List (Int×Bs),N=xs.length∧jf ⟨A,N,C⟩∧N≤C∧C≤maxLen∧Rw av 2 w A xs:=by
 obtain⟨fuel,hf⟩:=h;obtain⟨s,xs,e,n,k,c,m,r⟩:=dJ (enc:=av) (sz:=2) jZ (by kernel_rfl) (fun _=>rfl) (Nat.succ_pos _) (mw Tryz.underlying87 rfl rfl Tryz.underlying3 iW (by kernel_rfl) (by kernel_rfl) (by kernel_rfl)) hf;obtain⟨sa,sn,sc⟩:=s;simp [Value.cells]at e;obtain⟨rfl,rfl,rfl⟩:=e;exact⟨xs,n,k,c,m,r⟩
theorem E1 {w:World} {A0 A1 A2 A3:Option Addr} {N0 C0 N1 C1 N2 C2 N3 C3:Nat} {ls:List Int} {cs:List (Int×Int×Int)} {js:List (Int×Int)} {xs:List (Int×Bs)} (n0:N0=ls.length) (r0:Rw oP 1 w A0 ls) (n1:N1=cs.length) (r1:Rw aZ 3 w A1 cs) (n2:N2=js.length) (r2:Rw aD 2 w A2 js) (n3:N3=xs.length) (r3:Rw av 2 w A3 xs) (l1:N1≤C1) (l2:N2≤C2) (l3:N3≤C3) (m3:C3≤maxLen):sk w ⟨⟨A0,N0,C0⟩,⟨A1,N1,C1⟩,⟨A2,N2,C2⟩,⟨A3,N3,C3⟩⟩ ls cs js xs:=
 ⟨n0,r0,n1,r1,n2,r2,n3,r3,l1,l2,by unfold maxLen at m3;omega⟩
end
end Go.Proofs.YtijbcdiffjjefaaGreatDoor.Eng
