/- The reference's tables, walked by the engine. -/
import Derived.Test.YtdlcfegnaphclaaGreatZpSp
set_option linter.unusedVariables false
set_option linter.unusedSimpArgs false
set_option maxRecDepth 100000
namespace Go.Proofs.YtdlcfegnaphclaaGreat.Eng
open Go Go.RowKit
structure lM where
 b:Sl
 m:Sl
abbrev lM.v (x:lM):Value:=.agg #[x.b.v,x.m.v]
structure gK (w:World) (x:lM) (es:List aP):Prop where
 n1:x.b.n=es.length
 r1:Rw cQ 1 w x.b.a (es.map (·.1))
 k1:tw x.b
 n2:x.m.n=(ao es).length
 r2:Rw bI 2 w x.m.a (ao es)
 k2:tw x.m
theorem gK.on {w w':World} {x:lM} {es:List aP} (h:gK w x es) (hb:Below w.heap.size w w'):gK w' x es:=⟨h.n1,h.r1.on hb,h.k1,h.n2,h.r2.on hb,h.k2⟩
def kL (B:Nat) (x:lM):Prop:=(∀p,x.b.a=some p→B≤p.block)∧∀p,x.m.a=some p→B≤p.block
theorem kL.mono {B B':Nat} {x:lM} (h:kL B x) (hB:B'≤B):kL B' x:=⟨fun p hp=>QU hB (h.1 p hp),fun p hp=>QU hB (h.2 p hp)⟩
theorem lB {w:World} {B:Nat} {e:TypeId} {sz:Nat} {l:Sl} {xs:List Value} (h:w.ownsRow B e sz l.v l.n xs):∀p,l.a=some p→B≤p.block:=by
 intro p hp;obtain⟨la,ln,lc⟩:=l;rcases h.2 with⟨hv,_⟩ |⟨g,cap,cur,hv,hB,_⟩
 ·cases hv;cases hp
 ·cases hv;cases hp;exact hB
theorem kX (w:World) (x:lM) (es:List aP) (h:gK w x es) (id:Int):CP 63 #[x.v,.int .i64 id] w fun e w'=>e= .returned (.bool (decide (bA es id)))∧Below w.heap.size w w':=by
 refine aT (A5 x.b.a x.b.n x.b.c x.m.a x.m.n x.m.c id w (fun u w'=>u= .bool (decide (bA es id))∧Below w.heap.size w w') ?_) (by rintro v w' ⟨rfl,h⟩;exact⟨rfl,h⟩);intro w1 hw1;have hb1:Below w.heap.size w w1:=by subst hw1;exact af _ _
 refine ac.mk (fun h0=>?_) fun h0=>?_
 ·have h0:=QQ h0;refine⟨_,_,_,by subst hw1;rw [aG,bf];rfl,?_,hb1⟩;congr 1;rw [h.n1];exact decide_eq_decide.2 ⟨fun h=>⟨h0,h⟩,fun h=>h.2⟩
 ·have h0:=QX h0;refine⟨?_,hb1⟩;rw [QZ (fun h=>h0 h.1)]
def yH (es:List aP) (s:Bs):Int:=AZ (fun b=>decide (b=s)) (es.map (·.1))
theorem vo (w:World) (x:lM) (es:List aP) (h:gK w x es) (hl:es.length≤1000000) (s:Bs):CP 248 #[x.v,.string (str s)] w fun e w'=>e= .returned (.int .i64 (yH es s))∧Below w.heap.size w w':=by
 refine aO (zz x.b.a x.b.n x.b.c x.m.a x.m.n x.m.c (str s) w) ?_;intro w1 hw1;have hb1:Below w.heap.size w w1:=by subst hw1;exact af _ _
 have c0:w1.cell? ((nb w).add 0)=some (.slice x.b.a x.b.n x.b.c):=by subst hw1;rw [aG,bf];rfl
 have hlen:(es.map (·.1)).length=es.length:=by simp
 have hn:=h.n1;intro I hI;have key:=aU (α:=Int) es.length (fun i _=>∀j (hj:j< (es.map (·.1)).length),j<i→decide ((es.map (·.1))[j]=s)=false) (fun i y=>I [.int .i64 (i:Int),.int .i64 y] w1) 0 (fun j _ hj=>absurd hj (Nat.not_lt_zero j)) ?_ ?_
 ·exact key
 ·rintro i hi ih y hb;obtain⟨q,hq,_,hcx⟩:=(h.r1.on hb1) i _ (QW (show i< (es.map (·.1)).length by omega));have h0:=hcx 0 _ rfl;rw [ax]at h0;refine hI _ _ _ ⟨_,_,_,c0,ac.yes (by simp;omega) ⟨_,_,_,c0,ah.mk q hq ⟨by omega,by omega,_,h0,ac.mk (fun h1=>?_) fun h1=>?_⟩⟩⟩
  ·rw [dh,dh]at h1;have h1:(es.map (·.1))[i]'(by omega)=s:=by simpa using h1
   refine⟨?_,hb1⟩;unfold yH;rw [ip (p:=fun b=>decide (b=s)) (xs:=es.map (·.1)) (i:=i) (by omega) (QY h1) fun j hj=>hb j (by omega) hj]
  ·rw [dh,dh]at h1;have h1:¬(es.map (·.1))[i]'(by omega)=s:=by simpa using h1
   refine Ar.ok64 (by omega) (by omega) (ih y fun j hj hji=>?_);by_cases he:j=i
   ·subst he;exact QZ h1
   ·exact hb j hj (by omega)
 ·rintro y hb;refine hI _ _ _ ⟨_,_,_,c0,ac.no (by simp;omega) ⟨?_,hb1⟩⟩;unfold yH;rw [gB (p:=fun b=>decide (b=s)) (xs:=es.map (·.1)) fun j hj=>hb j hj (by omega)]
theorem t_ (es:List aP) (s:Bs):yH es s≥0↔s∈es.map (·.1):=by
 have:=ly (fun b=>decide (b=s)) (es.map (·.1));unfold yH;rw [←decide_eq_true_iff (p:=AZ _ _≥0),this,List.any_eq_true];constructor
 ·rintro⟨b,hb,e⟩;rw [←QQ e];exact hb
 ·intro h;exact⟨s,h,QY rfl⟩
abbrev vI:TypeId:=36
theorem bL (a b:Sl):∀v∈ [a.v,b.v],v.oneCell'=true:=by
 intro v hv;simp only [List.mem_cons,List.not_mem_nil,or_false]at hv;rcases hv with rfl |rfl<;>rfl
theorem fK {w:World} {b:Nat} {x y:Value} {e:TypeId} {fz:Nat×Nat} (h:w.heap[b]? =some (.cells #[x,y] e fz)):w.cell? ⟨b,0,none⟩=some x∧w.cell? ((⟨b,0,none⟩:Addr).add 1)=some y∧True:=
 ⟨by have:=aj _ _ h 0;rw [ax]at this;exact this,aj _ _ h 1,trivial⟩
theorem nf {w:World} {B:Nat} {e:TypeId} {sz:Nat} {l:Sl} {xs:List Value} (h:w.ownsRow B e sz l.v l.n xs):tw l:=by
 obtain⟨la,ln,lc⟩:=l;rcases h.2 with⟨hv,_⟩ |⟨g,cap,cur,hv,_⟩
 ·cases hv;exact .inl rfl
 ·cases hv;exact .inr ⟨_,rfl⟩
theorem lX (w:World):CP 215 #[] w fun e w'=>∃x:lM,e= .returned x.v∧gK w' x aK∧Below w.heap.size w w'∧kL w.heap.size x:=by
 refine aO (wC w) ?_;intro w1 hw1 w2 hw2;have hz1:w1.heap.size=w.heap.size+1:=by subst hw1;exact av _ _
 have hb1:Below w.heap.size w w1:=by subst hw1;exact af _ _
 have l1:w1.heap[w.heap.size]? =some (.cells #[Value.slice none 0 0,Value.slice none 0 0] vI (0,0)):=by subst hw1;exact ak _ _
 refine aX [.slice none 0 0,.slice none 0 0] [.slice none 0 0,.slice none 0 0] rfl (bL ⟨none,0,0⟩ ⟨none,0,0⟩) w2 hw2 ?_;intro w3 h3 hz3 hB3;have l3:=ag hB3 l1;intro I hI;have key:=aU (α:=World) 256 (fun i x=>∃l:Sl,x.heap[w1.heap.size]? =some (.cells #[l.v,Value.slice none 0 0] vI (0,0))∧x.ownsRow w1.heap.size eM 1 l.v l.n ((((List.range i).map cC).map (·.1)).flatMap cQ)∧l.n=i∧l.v.ownBlock≠some w1.heap.size∧x.heap[w.heap.size]? =some (.cells #[Value.slice none 0 0,Value.slice none 0 0] vI (0,0))∧Below w.heap.size w x∧w1.heap.size<x.heap.size) (fun i x=>I [.int .i64 (i:Int)] x) w3 ⟨⟨none,0,0⟩,h3,c_ _ _ _ _,rfl,(by intro h;cases h),l3,hb1.trans (hB3.mono hb1.size),by omega⟩ ?_ ?_
 ·exact key
 ·rintro i hi ih w4 ⟨l,h4,hown,hln,hoff,hl4,hB,hlt4⟩;have hwr:IntKind.wrap .u8 (i:Int)=(i:Int):=cZ (by show(0:Int)≤_;omega) (by show _≤(255:Int);omega);refine hI _ _ (ac.yes (by simp;omega) ⟨_,_,_,aj _ _ h4 0,?_⟩);rw [hwr];rintro w5 rfl;have hb5:=af w4 (.cells #[Value.int .u8 (i:Int)] 5);refine⟨_,_,nM (P:=Tryz.prog) (by kernel_rfl) (by kernel_rfl) (by kernel_rfl) w4 i hi,?_⟩;rintro w7 rfl;have hrow5:=aB hown hb5;have h5:=ag hb5 h4;have hl5:=ag hb5 hl4;obtain⟨a',c',w8,hr8,hu8,hf8,h9⟩:=fo (P:=Tryz.prog) (s:=l) 0 h5 (show 0<2 by decide) hrow5 hoff (Q0 _) jx lj lu rfl (by decide) (cQ [UInt8.ofNat i]) rfl (by intro u hu;rw [List.mem_singleton.1 hu];rfl) (by omega) (by omega);refine⟨a',l.n+1,c',w8,hr8,rfl,hu8,hf8,?_⟩;intro w9 hw9;obtain⟨hblk9,hrow9,hoff9,hB9,hkeep9,hsz9,hnew9⟩:=h9 w9 hw9;have hrange:((List.range (i+1)).map cC).map (·.1)=((List.range i).map cC).map (·.1)++ [[UInt8.ofNat i]]:=by rw [List.range_succ];simp [cC]
  have hzz:(w4.alloc (.cells #[Value.int .u8 (i:Int)] 5)).heap.size=w4.heap.size+1:=av _ _;have hne:l.v.ownBlock≠some w.heap.size:=fun e=>by have:=(cm hrow5 _ e).1;omega
  have hl9:w9.heap[w.heap.size]? =some (.cells #[Value.slice none 0 0,Value.slice none 0 0] vI (0,0)):=by
   rw [hkeep9 w.heap.size (by omega) (by omega) hne];exact hl5
  refine Ar.ok64 (by omega) (by omega) (ih w9 ⟨⟨a',l.n+1,c'⟩,hblk9,?_,by show l.n+1=i+1;omega,hoff9,hl9,?_,by omega⟩)
  ·rw [hrange,List.flatMap_append];simpa using hrow9
  ·have hb45:Below w1.heap.size w4 (w4.alloc (.cells #[Value.int .u8 (i:Int)] 5)):=hb5.mono (by omega);exact hB.trans ((hB9 w4 hb45).mono (by omega))
 ·rintro w4 ⟨l,h4,hown,hln,hoff,hl4,hB,hlt4⟩;refine hI _ _ (ac.no (by simp) ⟨_,_,_,_,_,_,fK h4,?_⟩);refine aW hl4 [l.v,.slice none 0 0] rfl (bL l ⟨none,0,0⟩) ?_;intro w10 h10 hs10 hz10 hB10;refine⟨_,_,_,_,_,_,fK h10,⟨l,⟨none,0,0⟩⟩,rfl,⟨?_,?_,nf hown,?_,?_,.inl rfl⟩,hB10 _ _ (Q0 _) hB,fun p hp=>QU hb1.size (lB hown p hp),fun p hp=>(by cases hp)⟩
  ·rw [hln];simp [aK]
  ·have:=aR hown fun k hk=>hs10 k fun e=>by have:=(cm hown k hk).1;omega
   exact(Rw.of_own this (fun _=>rfl) (by decide)).1
  ·simp [ao,aK]
  ·intro j y hj;simp [ao,aK]at hj
theorem ox {α:Type} {enc:α→List Value} {sz:Nat} (hsz:∀x,(enc x).length=sz) (h0:0<sz) (h1:∀x,∀u∈enc x,u.oneCell'=true) (t e:TypeId) {z:Value} {bytes:Nat} (ht:Tryz.prog.underlying t=some (.slice e)) (hi:(Tryz.prog.info? e).map (fun i=>(i.zero,i.size,i.bytes))=some (some z,sz,bytes)) (hzs:z.cells.size=sz)
  {B:Nat} {w:World} {s:Sl} {xs:List α} (hown:w.ownsRow B e sz s.v s.n (xs.flatMap enc)) (x:α) {b:Nat} {T:TypeId} {fz:Nat×Nat} (hb:w.heap[b]? =some (.cells (enc x).toArray T fz)) (hB:B≤w.heap.size) (hbytes:(s.n+1)*bytes≤140737488355328) (h63:s.n+1≤140737488355328):
  ∃A C w',(Builtin.append_ #[t,t] t #[.slice s.a s.n s.c,.slice (some ⟨b,0,none⟩) 1 1]).run Tryz.prog w= .ok (.slice A (s.n+1) C) w'∧w'.ownsRow B e sz (.slice A (s.n+1) C) (s.n+1) ((xs++ [x]).flatMap enc)∧(∀w0,Below B w0 w→Below B w0 w')∧(∀k,k<w.heap.size→s.v.ownBlock≠some k→w'.heap[k]? =w.heap[k]?):=by
 obtain⟨A,C,w',h2,h3,h4,h5⟩:=mJ (P:=Tryz.prog) t e ht hi hzs h0 hown ⟨some ⟨b,0,none⟩,1,1⟩ (.inr ⟨_,rfl⟩) (enc x) (by rw [hsz,Nat.one_mul]) (by
  intro a ha j u hj;cases ha;rw [aj _ _ hb];simpa using hj) (h1 x) hbytes h63 hB
 exact⟨A,C,w',h2,by simpa using h3,h4,h5⟩
theorem wm {α:Type} {enc:α→List Value} {sz:Nat} (hsz:∀x,(enc x).length=sz) (h0:0<sz) (h1:∀x,∀u∈enc x,u.oneCell'=true) (t e:TypeId) {z:Value} {bytes:Nat} (ht:Tryz.prog.underlying t=some (.slice e)) (hi:(Tryz.prog.info? e).map (fun i=>(i.zero,i.size,i.bytes))=some (some z,sz,bytes)) (hzs:z.cells.size=sz)
  (w:World) (s:Sl) (xs:List α) (hs:tw s) (hr:Rw enc sz w s.a xs) (hn:s.n=xs.length) (hbytes:s.n*bytes≤140737488355328) (h63:s.n≤140737488355328):
  ∃A C w',(Builtin.append_ #[t,t] t #[.slice none 0 0,.slice s.a s.n s.c]).run Tryz.prog w= .ok (.slice A s.n C) w'∧w'.ownsRow w.heap.size e sz (.slice A s.n C) s.n (xs.flatMap enc)∧Below w.heap.size w w':=by
 obtain⟨A,C,w',h2,h3,h4,_⟩:=mJ (P:=Tryz.prog) t e ht hi hzs h0 (c_ w w.heap.size e sz) s hs (xs.flatMap enc) (by rw [bY hsz,hn]) (by
  intro a ha j u hj;rw [ha]at hr;exact hr.flat hsz h0 j u hj) (by
  intro u hu;obtain⟨x,_,hx⟩:=List.mem_flatMap.1 hu;exact h1 x u hx) (by rw [Nat.zero_add];exact hbytes) (by rw [Nat.zero_add];exact h63) (Q0 _)
 rw [Nat.zero_add]at h2 h3;exact⟨A,C,w',h2,by simpa using h3,h4 w (Below.refl _ _)⟩
def qP (w:World) (x:lM) (es:List aP) (m:Int×Int) (u:Value) (w':World):Prop:=∃(x':lM) (n:Int),u= .tuple #[x'.v,.int .i64 n]∧Below w.heap.size w w'∧(match bV es m with
 | .error n0=>n=n0∧x'=x
 | .ok y=>n=0∧gK w' x' (es++ [y])∧kL w.heap.size x')
theorem kH (w:World) (x:lM) (es:List aP) (h:gK w x es) (hok:fW es) (m:Int×Int):CP 216 #[x.v,.agg #[.int .i64 m.1,.int .i64 m.2]] w fun e w'=>∃u,e= .returned u∧qP w x es m u w':=by
 refine zx x.b.a x.b.n x.b.c x.m.a x.m.n x.m.c m.1 m.2 w (qP w x es m) ?_;intro w1 hw1 w2 hw2 w3 hw3;have hz1:w1.heap.size=w.heap.size+1:=by subst hw1;exact av _ _
 have hz2:w2.heap.size=w.heap.size+2:=by subst hw2;rw [av,hz1]
 have hz3:w3.heap.size=w.heap.size+3:=by subst hw3;rw [av,hz2]
 have hb1:Below w.heap.size w w1:=by subst hw1;exact af _ _
 have hb2:Below w1.heap.size w1 w2:=by subst hw2;exact af _ _
 have hb3:Below w2.heap.size w2 w3:=by subst hw3;exact af _ _
 have l0:w3.heap[w.heap.size]? =some (.cells #[x.b.v,x.m.v] vI (0,0)):=ag hb3 (ag hb2 (by subst hw1;exact ak _ _));have l1:w3.heap[w1.heap.size]? =some (.cells #[.int .i64 m.1,.int .i64 m.2] nn (0,0)):=ag hb3 (by subst hw2;exact ak _ _);have l2:w3.heap[w2.heap.size]? =some (.cells #[Value.slice none 0 0,Value.slice none 0 0] vI (0,0)):=by subst hw3;exact ak _ _
 have hb03:Below w.heap.size w w3:=ae hb1 (ae hb2 hb3);have h3:=h.on hb03;have hmost:=hok.most;have hlen:=h.n1;have fail:∀(n:Int) (wq:World),bV es m= .error n→Below w3.heap.size w3 wq→
   ∃g0A:Option Addr,∃g0N:Nat,∃g0C:Nat,∃g1A:Option Addr,∃g1N:Nat,∃g1C:Nat,(wq.cell? (nb w)=some (Value.slice g0A g0N g0C)∧wq.cell? ((nb w).add 1)=some (Value.slice g1A g1N g1C)∧True)∧
   aE wq (nb w2) (fun w5=>
   ∃res0A:Option Addr,∃res0N:Nat,∃res0C:Nat,∃res1A:Option Addr,∃res1N:Nat,∃res1C:Nat,(w5.cell? (nb w2)=some (Value.slice res0A res0N res0C)∧w5.cell? ((nb w2).add 1)=some (Value.slice res1A res1N res1C)∧True)∧
   qP w x es m (Value.tuple #[Value.agg #[Value.slice res0A res0N res0C,Value.slice res1A res1N res1C],Value.int .i64 n]) w5) [Value.slice g0A g0N g0C,Value.slice g1A g1N g1C] 0:=by
  intro n wq hn hbq;refine⟨_,_,_,_,_,_,fK (ag hbq l0),?_⟩;refine aW (ag hbq l2) [x.b.v,x.m.v] rfl (bL _ _) ?_;intro w5 h5 hs5 hz5 hB5;refine⟨_,_,_,_,_,_,fK h5,x,n,rfl,(hB5 _ _ (by omega) (ae hb03 hbq)),?_⟩;rw [hn];exact⟨rfl,rfl⟩
 refine⟨_,_,_,_,_,_,fK l0,m.1,aj _ _ l1 0,?_⟩;refine(kX w3 x es h3 m.1).mono ?_;rintro e w4 ⟨rfl,b4⟩;refine⟨_,rfl,ac.mk (fun h0=>?_) fun h0=>⟨_,_,_,_,_,_,fK (ag b4 l0),m.2,aj _ _ (ag b4 l1) 1,?_⟩⟩
 ·have h0:¬bA es m.1:=by simpa using h0
  exact fail 4 w4 (by rw [bV,if_pos fun h=>h0 h.1]) b4
 have i1:bA es m.1:=by simpa using h0
 refine(kX w4 x es (h3.on b4) m.2).mono ?_;rintro e w6 ⟨rfl,b6⟩;have b36:=ae b4 b6;refine⟨_,rfl,ac.mk (fun h0=>?_) fun h0=>?_⟩
 ·have h0:¬bA es m.2:=by simpa using h0
  exact fail 4 w6 (by rw [bV,if_pos fun h=>h0 h.2]) b36
 have i2:bA es m.2:=by simpa using h0
 intro w8 hw8;have b38:Below w3.heap.size w3 w8:=by subst hw8;exact b36.drew
 have h8:=h3.on b38;have l08:=ag b38 l0;have l18:=ag b38 l1;obtain⟨x1,hx1,e1⟩:=eB i1;obtain⟨x2,hx2,e2⟩:=eB i2;have hmap:∀(i:Nat) (y:aP),es[i]? =some y→(es.map (·.1))[i]? =some y.1:=fun i y hy=>by rw [List.getElem?_map,hy];rfl
 obtain⟨a1,ha1,_,hc1⟩:=h8.r1 _ _ (hmap _ _ hx1);obtain⟨a2,ha2,_,hc2⟩:=h8.r1 _ _ (hmap _ _ hx2);have c1:=hc1 0 _ rfl;have c2:=hc2 0 _ rfl;rw [ax]at c1 c2;have:=i1.1;have:=i1.2;have:=i2.1;have:=i2.2;have s1:=hok.short x1 (List.mem_of_getElem? hx1);have s2:=hok.short x2 (List.mem_of_getElem? hx2);refine⟨_,_,_,aj _ _ l08 0,m.1,aj _ _ l18 0,ah.mk a1 ha1 ⟨by omega,by omega,str x1.1,c1,_,_,_,aj _ _ l08 0,m.2,aj _ _ l18 1,ah.mk a2 ha2 ⟨by omega,by omega,str x2.1,c2,?_⟩⟩⟩;have hj:str x1.1++str x2.1=str (bQ es m):=by rw [mn,bQ,e1,e2]
 have hjl:(bQ es m).length=x1.1.length+x2.1.length:=by rw [bQ,e1,e2,List.length_append]
 rw [hj];refine⟨by rw [be,be];show _≤(9223372036854775807:Int);omega,ac.mk (fun h0=>?_) fun h0=>?_⟩
 ·have h0:=QQ h0;rw [be]at h0;exact fail 3 w8 (by rw [bV,if_neg (Classical.not_not.2 ⟨i1,i2⟩),if_pos (by omega)]) b38
 have hs:=QX h0;rw [be]at hs;have hs:¬64< (bQ es m).length:=by omega
 refine⟨_,_,_,aj _ _ l08 0,ac.mk (fun h0=>?_) fun h0=>⟨_,_,_,_,_,_,fK l08,?_⟩⟩
 ·have h0:=QQ h0;exact fail 5 w8 (by rw [bV,if_neg (Classical.not_not.2 ⟨i1,i2⟩),if_neg hs,if_pos (by omega)]) b38
 have h0:=QX h0;have hk:¬1000≤es.length:=by omega
 refine(vo w8 x es h8 (by omega) (bQ es m)).mono ?_;rintro e w11 ⟨rfl,b11⟩;have b311:=ae b38 b11;refine⟨_,rfl,ac.mk (fun h1=>?_) fun h1=>?_⟩
 ·have h1:=(t_ es _).1 (QQ h1);exact fail 10 w11 (by rw [bV,if_neg (Classical.not_not.2 ⟨i1,i2⟩),if_neg hs,if_neg hk,if_pos h1]) b311
 have hnew:bQ es m∉es.map (·.1):=fun hm=>QX h1 ((t_ es _).2 hm);have hadd:bV es m= .ok (bQ es m,m):=by rw [bV,if_neg (Classical.not_not.2 ⟨i1,i2⟩),if_neg hs,if_neg hk,if_neg hnew]
 have h11:=h8.on b11;have l011:=ag b11 l08;have l111:=ag b11 l18;have l211:=ag b311 l2;have hz11:=b311.size;obtain⟨A1,C1,w13,hr13,o13,b13⟩:=wm (enc:=cQ) (sz:=1) (fun _=>rfl) (by decide) (fun y u hu=>by rw [List.mem_singleton.1 hu];rfl) jx eM lj lu rfl w11 x.b (es.map (·.1)) h11.k1 h11.r1 (by rw [h11.n1];simp) (by omega) (by omega);have h13:=h11.on b13;have hmlen:(ao es).length≤1000:=by have:=ct hok;omega
 have hn2:=h.n2;obtain⟨A2,C2,w14,hr14,o14,b14⟩:=wm (enc:=bI) (sz:=2) (fun _=>rfl) (by decide) (fun y=>cz _ _) 34 nn BG Cf rfl w13 x.m (ao es) h13.k2 h13.r2 h13.n2 (by omega) (by omega);refine⟨_,_,_,aj _ _ l011 0,A1,x.b.n,C1,w13,hr13,_,_,_,aj _ _ (ag b13 l011) 1,A2,x.m.n,C2,w14,hr14,?_⟩;intro w15 hw15;have b15:Below w11.heap.size w11 w15:=by subst hw15;exact(ae b13 b14).drew
 have S15:w15.ownsRow w11.heap.size eM 1 (.slice A1 x.b.n C1) x.b.n ((es.map (·.1)).flatMap cQ):=by subst hw15;exact eQ (aB o13 b14)
 have P15:w15.ownsRow w11.heap.size nn 2 (.slice A2 x.m.n C2) x.m.n ((ao es).flatMap bI):=by subst hw15;exact bw (eQ o14) b13.size
 have pair_at:∀ {wq:World},Below w11.heap.size w11 wq→wq.heap[w1.heap.size]? =some (.cells #[.int .i64 m.1,.int .i64 m.2] nn (0,0)):=fun hb=>Below.keeps hb (by omega) l111;have fin:∀(wq:World) (S P:Sl),wq.ownsRow w11.heap.size eM 1 S.v S.n (((es.map (·.1))++ [bQ es m]).flatMap cQ)→wq.ownsRow w11.heap.size nn 2 P.v P.n ((ao es++ [m]).flatMap bI)→Below w11.heap.size w11 wq→
   aE wq (nb w2) (fun w5=>
   ∃res0A:Option Addr,∃res0N:Nat,∃res0C:Nat,∃res1A:Option Addr,∃res1N:Nat,∃res1C:Nat,(w5.cell? (nb w2)=some (Value.slice res0A res0N res0C)∧w5.cell? ((nb w2).add 1)=some (Value.slice res1A res1N res1C)∧True)∧
   qP w x es m (Value.tuple #[Value.agg #[Value.slice res0A res0N res0C,Value.slice res1A res1N res1C],Value.int .i64 0]) w5) [Value.slice S.a S.n S.c,Value.slice P.a P.n P.c] 0:=by
  intro wq S P hS hP hbq;refine aW (Below.keeps hbq (by omega) l211) [S.v,P.v] rfl (bL _ _) ?_;intro w5 h5 hs5 hz5 hB5;have S5:=aR hS fun k hk=>hs5 k fun e=>by have:=(cm hS k hk).1;omega
  have P5:=aR hP fun k hk=>hs5 k fun e=>by have:=(cm hP k hk).1;omega
  obtain⟨rS,nS⟩:=Rw.of_own S5 (fun _=>rfl) (by decide);obtain⟨rP,nP⟩:=Rw.of_own P5 (fun _=>rfl) (by decide);have hmap:(es++ [(bQ es m,m)]).map (·.1)=es.map (·.1)++ [bQ es m]:=by simp
  have hmer:ao (es++ [(bQ es m,m)])=ao es++ [m]:=by
   simp [ao,List.drop_append_of_le_length hok.len]
  refine⟨_,_,_,_,_,_,fK h5,⟨S,P⟩,0,rfl,hB5 _ _ (by omega) ((hb03.trans (b311.mono hb03.size)).trans (hbq.mono (by omega))),?_⟩;rw [hadd];refine⟨rfl,⟨by rw [nS];simp,by rw [hmap];exact rS,nf S5,by rw [nP,hmer],by rw [hmer];exact rP,nf P5⟩,fun p hp=>QU (hb03.trans (b311.mono hb03.size)).size (lB S5 p hp),fun p hp=>QU (hb03.trans (b311.mono hb03.size)).size (lB P5 p hp)⟩
 have pushS:∀ {wq:World} {b:Nat},wq.ownsRow w11.heap.size eM 1 (.slice A1 x.b.n C1) x.b.n ((es.map (·.1)).flatMap cQ)→wq.heap[b]? =some (.cells #[Value.string (str (bQ es m))] eM (0,0))→Below w11.heap.size w11 wq→_:=fun {wq} {b} h1 h2 h3=>
  ox (enc:=cQ) (sz:=1) (fun _=>rfl) (by decide) (fun y u hu=>by rw [List.mem_singleton.1 hu];rfl) jx eM lj lu rfl (s:=⟨A1,x.b.n,C1⟩) h1 (bQ es m) h2 h3.size (by show(x.b.n+1)*16≤_;omega) (by show x.b.n+1≤_;omega)
 have pushP:∀ {wq:World} {b:Nat},wq.ownsRow w11.heap.size nn 2 (.slice A2 x.m.n C2) x.m.n ((ao es).flatMap bI)→wq.heap[b]? =some (.cells #[Value.int .i64 m.1,Value.int .i64 m.2] nn (0,0))→Below w11.heap.size w11 wq→_:=fun {wq} {b} h1 h2 h3=>
  ox (enc:=bI) (sz:=2) (fun _=>rfl) (by decide) (fun y=>cz _ _) 34 nn BG Cf rfl (s:=⟨A2,x.m.n,C2⟩) h1 m h2 h3.size (by show(x.m.n+1)*16≤_;omega) (by show x.m.n+1≤_;omega)
 refine⟨m.1,m.2,fK (pair_at b15),?_,?_⟩
 ·intro w16 hw16;have b16:Below w11.heap.size w11 w16:=by subst hw16;exact b15.alloc b15.size _
  have c16:Below w15.heap.size w15 w16:=by subst hw16;exact af _ _
  have s16:w16.heap[w15.heap.size]? =some (.cells #[Value.string (str (bQ es m))] eM (0,0)):=by subst hw16;exact ak _ _
  refine⟨fK (pair_at b16),?_,?_⟩
  ·obtain⟨A3,C3,w17,hr17,o17,b17,k17⟩:=pushS (aB S15 c16) s16 b16;have bb17:=b17 _ b16;refine⟨A3,_,C3,w17,hr17,fK (pair_at bb17),?_⟩;intro w18 hw18;have c18:Below w17.heap.size w17 w18:=by subst hw18;exact af _ _
   have b18:Below w11.heap.size w11 w18:=by subst hw18;exact bb17.alloc bb17.size _
   have m18:w18.heap[w17.heap.size]? =some (.cells #[Value.int .i64 m.1,Value.int .i64 m.2] nn (0,0)):=by subst hw18;exact ak _ _
   have P17:=aR (aB P15 c16) fun k hk=>k17 k (cm (aB P15 c16) k hk).2 (bR (aB P15 c16) (aB S15 c16) (by decide) k hk);obtain⟨A4,C4,w19,hr19,o19,b19,k19⟩:=pushP (aB P17 c18) m18 b18;refine⟨A4,_,C4,w19,hr19,?_⟩;have S18:=aB o17 c18;exact fin w19 ⟨A3,x.b.n+1,C3⟩ ⟨A4,x.m.n+1,C4⟩ (aR S18 fun k hk=>k19 k (cm S18 k hk).2 (bR S18 (aB P17 c18) (by decide) k hk)) o19 (b19 _ b18)
  ·intro w21 hw21;have c21:Below w16.heap.size w16 w21:=by subst hw21;exact af _ _
   have b21:Below w11.heap.size w11 w21:=by subst hw21;exact b16.alloc b16.size _
   have m21:w21.heap[w16.heap.size]? =some (.cells #[Value.int .i64 m.1,Value.int .i64 m.2] nn (0,0)):=by subst hw21;exact ak _ _
   have S21:=aB (aB S15 c16) c21;have P21:=aB (aB P15 c16) c21;obtain⟨A3,C3,w22,hr22,o22,b22,k22⟩:=pushS S21 (ag c21 s16) b21;have P22:=aR P21 fun k hk=>k22 k (cm P21 k hk).2 (bR P21 S21 (by decide) k hk);have m22:w22.heap[w16.heap.size]? =some (.cells #[Value.int .i64 m.1,Value.int .i64 m.2] nn (0,0)):=by
    rw [k22 _ (QV.1 m21).1 (aA S21 m21 (by decide))];exact m21
   obtain⟨A4,C4,w23,hr23,o23,b23,k23⟩:=pushP P22 m22 (b22 _ b21);exact⟨A3,_,C3,w22,hr22,A4,_,C4,w23,hr23,fin w23 ⟨A3,x.b.n+1,C3⟩ ⟨A4,x.m.n+1,C4⟩ (aR o22 fun k hk=>k23 k (cm o22 k hk).2 (bR o22 P22 (by decide) k hk)) o23 (b23 _ (b22 _ b21))⟩
 ·intro w25 hw25 w26 hw26;have c25:Below w15.heap.size w15 w25:=by subst hw25;exact af _ _
  have b25:Below w11.heap.size w11 w25:=by subst hw25;exact b15.alloc b15.size _
  have m25:w25.heap[w15.heap.size]? =some (.cells #[Value.int .i64 m.1,Value.int .i64 m.2] nn (0,0)):=by subst hw25;exact ak _ _
  have c26:Below w25.heap.size w25 w26:=by subst hw26;exact af _ _
  have b26:Below w11.heap.size w11 w26:=by subst hw26;exact b25.alloc b25.size _
  have s26:w26.heap[w25.heap.size]? =some (.cells #[Value.string (str (bQ es m))] eM (0,0)):=by subst hw26;exact ak _ _
  have S26:=aB (aB S15 c25) c26;have P26:=aB (aB P15 c25) c26;have m26:=ag c26 m25;obtain⟨A3,C3,w27,hr27,o27,b27,k27⟩:=pushS S26 s26 b26;have P27:=aR P26 fun k hk=>k27 k (cm P26 k hk).2 (bR P26 S26 (by decide) k hk);have m27:w27.heap[w15.heap.size]? =some (.cells #[Value.int .i64 m.1,Value.int .i64 m.2] nn (0,0)):=by
   rw [k27 _ (QV.1 m26).1 (aA S26 m26 (by decide))];exact m26
  obtain⟨A4,C4,w28,hr28,o28,b28,k28⟩:=pushP P27 m27 (b27 _ b26);exact⟨A3,_,C3,w27,hr27,A4,_,C4,w28,hr28,fin w28 ⟨A3,x.b.n+1,C3⟩ ⟨A4,x.m.n+1,C4⟩ (aR o27 fun k hk=>k28 k (cm o27 k hk).2 (bR o27 P27 (by decide) k hk)) o28 (b28 _ (b27 _ b26))⟩
theorem pK (a b:Sl):∀v∈(#[a.v,b.v]:Array Value),¬lV v:=by
 intro v hv;have hv:v=a.v∨v=b.v:=by simpa using hv
 rcases hv with rfl |rfl<;>(rintro(⟨k,n,h⟩ |⟨s,h⟩)<;>cases h)
theorem gK.past {w w':World} {x:lM} {es:List aP} {b:Nat} {p q:Sl} {T:TypeId} {fz:Nat×Nat} (h:gK w x es) (hb:w.heap[b]? =some (.cells #[p.v,q.v] T fz)) (hne:∀j,j<w.heap.size→j≠b→w'.heap[j]? =w.heap[j]?) (hs:w.heap.size≤w'.heap.size):gK w' x es:=
 ⟨h.n1,h.r1.past (fun y=>⟨_,rfl,.inr ⟨_,rfl⟩⟩) hb (pK p q) hne hs,h.k1,h.n2,h.r2.past (fun y=>⟨_,rfl,.inl ⟨_,_,rfl⟩⟩) hb (pK p q) hne hs,h.k2⟩
def zh (w:World) (ms:List (Int×Int)) (u:Value) (w':World):Prop:=∃(x:lM) (n e:Int),u= .tuple #[x.v,.int .i64 n,.int .i64 e]∧Below w.heap.size w w'∧(match cd aK 0 ms with
 | .error q=>n=q.1∧e=q.2
 | .ok es=>n=ms.length∧e=0∧gK w' x es∧fW es∧kL w.heap.size x)
theorem AM (w:World) (A:Option Addr) (C:Nat) (ms:List (Int×Int)) (hr:Rw bI 2 w A ms) (hl:ms.length≤1000000):CP 250 #[.slice A ms.length C] w fun e w'=>∃u,e= .returned u∧zh w ms u w':=by
 refine yk A ms.length C w (zh w ms) ?_;intro w1 hw1;have hb1:Below w.heap.size w w1:=by subst hw1;exact af _ _
 have z1:w1.heap[w.heap.size]? =some (.cells #[(⟨none,0,0⟩:Sl).v,(⟨none,0,0⟩:Sl).v] vI (0,0)):=by subst hw1;exact ak _ _
 refine(lX w1).mono ?_;rintro e w2 ⟨x0,rfl,h2,b2,f2⟩;have z2:=ag b2 z1;have hlt2:w.heap.size<w2.heap.size:=(QV.1 z2).1;refine⟨_,_,_,_,_,_,rfl,?_⟩;intro w3 hw3;refine aX [.slice none 0 0,.slice none 0 0] [x0.b.v,x0.m.v] rfl (bL _ _) w3 hw3 ?_;intro w4 h4 hz4 b4;have hb14:Below w.heap.size w w4:=ae hb1 (ae b2 b4);intro I hI;have key:=aU (α:=Int×Int×World) ms.length (fun i y=>∃(x:lM) (es:List aP),y.2.2.heap[w2.heap.size]? =some (.cells #[x.b.v,x.m.v] vI (0,0))∧y.2.2.heap[w.heap.size]? =some (.cells #[(⟨none,0,0⟩:Sl).v,(⟨none,0,0⟩:Sl).v] vI (0,0))∧gK y.2.2 x es∧fW es∧cd aK 0 ms=cd es i (ms.drop i)∧Below w.heap.size w y.2.2∧kL w.heap.size x) (fun i y=>I [.int .i64 (i:Int),.int .i64 y.1,.int .i64 y.2.1] y.2.2) (0,0,w4) ⟨x0,aK,h4,ag b4 z2,h2.on b4,pv,by rw [List.drop_zero],hb14,f2.mono hb1.size⟩ ?_ ?_
 ·exact key
 ·rintro i hi ih ⟨y4,y3,w5⟩ ⟨x,es,h5,z5,hx5,hok,heq,hB5,f5⟩;change w5.heap[w2.heap.size]? =_ at h5;change w5.heap[w.heap.size]? =_ at z5;change gK w5 x es at hx5;change Below w.heap.size w w5 at hB5;have hdrop:ms.drop i=ms[i]::ms.drop (i+1):=List.drop_eq_getElem_cons hi;refine hI _ _ _ _ (ac.yes (by simp;omega) ?_);intro w6 hw6;have b6:Below w5.heap.size w5 w6:=by subst hw6;exact aI w5
  have h6:=ag b6 h5;have z6:=ag b6 z5;have hx6:=hx5.on b6;have hB6:Below w.heap.size w w6:=hB5.trans (b6.mono hB5.size);obtain⟨q,hq,_,hc⟩:=(hr.on hB6) i _ (QW hi);have c0:=hc 0 _ rfl;rw [ax]at c0;have hlt6:w2.heap.size<w6.heap.size:=(QV.1 h6).1;have rest:∀(loc:Nat) (wq:World) (x':lM) (n:Int),loc≠w2.heap.size→wq.heap[loc]? =some (.cells #[x'.b.v,x'.m.v] vI (0,0))→wq.heap[w2.heap.size]? =some (.cells #[x.b.v,x.m.v] vI (0,0))→wq.heap[w.heap.size]? =some (.cells #[(⟨none,0,0⟩:Sl).v,(⟨none,0,0⟩:Sl).v] vI (0,0))→Below w.heap.size w wq→(match bV es ms[i]with
    | .error n0=>n=n0∧x'=x
    | .ok y=>n=0∧gK wq x' (es++ [y])∧kL w.heap.size x')→
    ac ((n:Int) != 0)
     (∃g0A:Option Addr,∃g0N:Nat,∃g0C:Nat,∃g1A:Option Addr,∃g1N:Nat,∃g1C:Nat,(wq.cell? (nb w2)=some (Value.slice g0A g0N g0C)∧wq.cell? ((nb w2).add 1)=some (Value.slice g1A g1N g1C)∧True)∧
      aE wq (nb w) (fun w10=>
      ∃res0A:Option Addr,∃res0N:Nat,∃res0C:Nat,∃res1A:Option Addr,∃res1N:Nat,∃res1C:Nat,(w10.cell? (nb w)=some (Value.slice res0A res0N res0C)∧w10.cell? ((nb w).add 1)=some (Value.slice res1A res1N res1C)∧True)∧
      zh w ms (Value.tuple #[Value.agg #[Value.slice res0A res0N res0C,Value.slice res1A res1N res1C],Value.int .i64 (i:Int),Value.int .i64 n]) w10) [Value.slice g0A g0N g0C,Value.slice g1A g1N g1C] 0)
     (∃g0A:Option Addr,∃g0N:Nat,∃g0C:Nat,∃g1A:Option Addr,∃g1N:Nat,∃g1C:Nat,(wq.cell? ⟨loc,0,none⟩=some (Value.slice g0A g0N g0C)∧wq.cell? ((⟨loc,0,none⟩:Addr).add 1)=some (Value.slice g1A g1N g1C)∧True)∧
      aE wq (nb w2) (fun w11=>
      Ar .i64 ((i:Int)+1) (fun n=>
      I [Value.int .i64 n,Value.int .i64 y4,Value.int .i64 y3] w11)) [Value.slice g0A g0N g0C,Value.slice g1A g1N g1C] 0):=by
   intro loc wq x' n hloc hl hb2 hb0 hBq hm;cases hx:bV es ms[i]with
   |error n0=>
    rw [hx]at hm;obtain⟨rfl,rfl⟩:=hm;refine ac.yes (by simpa using gc hx) ⟨_,_,_,_,_,_,fK hb2,?_⟩;refine aW hb0 [x'.b.v,x'.m.v] rfl (bL _ _) ?_;intro w10 h10 hs10 hz10 hB10;refine⟨_,_,_,_,_,_,fK h10,x',_,_,rfl,hB10 _ _ (Q0 _) hBq,?_⟩;rw [heq,hdrop,cd,hx];exact⟨rfl,rfl⟩
   |ok y=>
    rw [hx]at hm;obtain⟨rfl,hx',fx⟩:=hm;refine ac.no rfl ⟨_,_,_,_,_,_,fK hl,?_⟩;refine aW hb2 [x'.b.v,x'.m.v] rfl (bL _ _) ?_;intro w11 h11 hs11 hz11 hB11;refine Ar.ok64 (by omega) (by omega) (ih (y4,y3,w11) ⟨x',es++ [y],h11,?_,hx'.past hb2 (fun j _ hj=>hs11 j hj) (Nat.le_of_eq hz11.symm),(lz hok hx).1,?_,hB11 _ _ (by omega) hBq,fx⟩)
    ·show w11.heap[w.heap.size]? =_;rw [hs11 _ (by omega)];exact hb0
    ·rw [heq,hdrop,cd,hx]
  refine⟨_,_,_,_,_,_,fK h6,ah.mk q hq ⟨by omega,by omega,_,_,⟨c0,hc 1 _ rfl,trivial⟩,?_,?_⟩⟩
  ·refine(kH w6 x es hx6 hok ms[i]).mono ?_;rintro e w7 ⟨u,rfl,x',n,rfl,b7,hp⟩;refine⟨_,_,_,_,_,_,n,rfl,?_⟩;intro w8 hw8;refine aX [.slice none 0 0,.slice none 0 0] [x'.b.v,x'.m.v] rfl (bL _ _) w8 hw8 ?_;intro w9 h9 hz9 b9;have hz7:=b7.size;refine rest w7.heap.size w9 x' n (by omega) h9 (ag b9 (ag b7 h6)) (ag b9 (ag b7 z6)) ((hB6.trans (b7.mono hB6.size)).trans (b9.mono (QU hB6.size hz7))) ?_;cases hx:bV es ms[i]with
   |error n0=>rw [hx]at hp;exact hp
   |ok y=>rw [hx]at hp;exact⟨hp.1,hp.2.1.on b9,hp.2.2.mono hB6.size⟩
  ·intro w12 hw12;have b12:Below w6.heap.size w6 w12:=by subst hw12;exact af _ _
   have l12:w12.heap[w6.heap.size]? =some (.cells #[Value.slice none 0 0,Value.slice none 0 0] vI (0,0)):=by subst hw12;exact ak _ _
   have hB12:Below w.heap.size w w12:=hB6.trans (b12.mono hB6.size);obtain⟨q',hq',_,hc'⟩:=(hr.on hB12) i _ (QW hi);have hqq:q'=q:=by rw [hq]at hq';exact(Option.some.inj hq').symm
   subst hqq;have c0':=hc' 0 _ rfl;rw [ax]at c0';refine⟨⟨c0',hc' 1 _ rfl,trivial⟩,fK (ag b12 h6),?_⟩;refine(kH w12 x es (hx6.on b12) hok ms[i]).mono ?_;rintro e w13 ⟨u,rfl,x',n,rfl,b13,hp⟩;refine⟨_,_,_,_,_,_,n,rfl,?_⟩;refine aW (ag b13 l12) [x'.b.v,x'.m.v] rfl (bL _ _) ?_;intro w14 h14 hs14 hz14 hB14;refine rest w6.heap.size w14 x' n (by omega) h14 (by rw [hs14 _ (by omega)];exact ag b13 (ag b12 h6)) (by rw [hs14 _ (by omega)];exact ag b13 (ag b12 z6)) (hB14 _ _ (by omega) (hB12.trans (b13.mono hB12.size))) ?_;cases hx:bV es ms[i]with
   |error n0=>rw [hx]at hp;exact hp
   |ok y=>rw [hx]at hp;exact⟨hp.1,hp.2.1.past (p:=⟨none,0,0⟩) (q:=⟨none,0,0⟩) (ag b13 l12) (fun j _ hj=>hs14 j hj) (Nat.le_of_eq hz14.symm),hp.2.2.mono hB12.size⟩
 ·rintro⟨y4,y3,w5⟩ ⟨x,es,h5,z5,hx5,hok,heq,hB5,f5⟩;change w5.heap[w2.heap.size]? =_ at h5;change w5.heap[w.heap.size]? =_ at z5;refine hI _ _ _ _ (ac.no (by simp) ⟨_,_,_,_,_,_,fK h5,?_⟩);refine aW z5 [x.b.v,x.m.v] rfl (bL _ _) ?_;intro w17 h17 hs17 hz17 hB17;refine⟨_,_,_,_,_,_,fK h17,x,_,_,rfl,hB17 _ _ (Q0 _) hB5,?_⟩;rw [heq,List.drop_length,cd];exact⟨rfl,rfl,hx5.past z5 (fun j _ hj=>hs17 j hj) (Nat.le_of_eq hz17.symm),hok,f5⟩
theorem Ar.nat {z:Int} {F:Int→Prop} (n:Nat) (hz:z=(n:Int)) (hn:n≤9223372036854775807) (h:F (n:Int)):Ar .i64 z F:=by
 subst hz;exact Ar.ok64 (by omega) (by omega) h
def ye (n:Int):List Value:=[.int .u16 n]
theorem pR {m:Int×Int} {y:aP} {es:List aP} (hy:bV es m= .ok y):∀(ms:List (Int×Int)) (es0:List aP) (i:Nat),cd es0 i ms= .ok es→cd es0 i (ms++ [m])= .ok (es++ [y])
 | [],es0,i,h=>by
  cases h;rw [List.nil_append,cd,hy];rfl
 |q::ms,es0,i,h=>by
  rw [cd]at h;rw [List.cons_append,cd];cases hq:bV es0 q with
  |error n=>rw [hq]at h;cases h
  |ok x=>rw [hq]at h;exact pR hy ms _ _ h
theorem tu {es:List aP} (h:fW es) (y:aP):ao (es++ [y])=ao es++ [y.2]:=by
 simp [ao,List.drop_append_of_le_length h.len]
theorem aS {α:Type} {enc:α→List Value} {w:World} {a:Option Addr} {xs:List α} (h:Rw enc 1 w a xs) {i:Nat} (hi:i<xs.length) {v:Value} (hv:(enc xs[i])[0]? =some v):∃q,a=some q∧w.cell? (q.add (i*1))=some v:=by
 obtain⟨q,hq,_,hc⟩:=h i _ (QW hi);have:=hc 0 _ hv;rw [ax]at this;exact⟨q,hq,this⟩
def pY (es:List aP) (c:Int):Int:=
 if decide (Int.tmod (IntKind.wrap .i64 c) ((es.length+(ao es).length:Nat):Int)≥((es.length:Nat):Int))=true
 then IntKind.wrap .i64 (IntKind.wrap .i64 (256+Int.tmod (IntKind.wrap .i64 c) ((es.length+(ao es).length:Nat):Int))- ((es.length:Nat):Int))
 else Int.tmod (IntKind.wrap .i64 c) ((es.length+(ao es).length:Nat):Int)
def zd (es:List aP) (a b:Int):List aP:=match bV es (pY es a,pY es b)with
 | .ok y=>es++ [y]
 | .error _=>es
def fT (l:List Int):Nat→List aP
 |0=>aK
 |i+1=>if 2*i+1<l.length then zd (fT l i) (l.getD (2*i) 0) (l.getD (2*i+1) 0)else fT l i
theorem si {l:List Int} {i:Nat} (h:l.length≤2*i+1):∀d,fT l (i+d)=fT l i
 |0=>rfl
 |d+1=>by rw [←Nat.add_assoc,fT,if_neg (by omega),si h d]
theorem vm (w:World) (A:Option Addr) (C:Nat) (l:List Int) (hr:Rw ye 1 w A l):CP 165 #[.slice A l.length C] w fun e w'=>∃(x:lM) (es:List aP),e= .returned x.v∧gK w' x es∧fW es∧cd aK 0 (ao es)= .ok es∧es=fT l 30∧Below w.heap.size w w':=by
 refine aT (xw A l.length C w (fun u w'=>∃(x:lM) (es:List aP),u=x.v∧gK w' x es∧fW es∧cd aK 0 (ao es)= .ok es∧es=fT l 30∧Below w.heap.size w w') ?_) (by rintro v w' ⟨x,es,rfl,h⟩;exact⟨x,es,rfl,h⟩);intro w1 hw1;have hb1:Below w.heap.size w w1:=by subst hw1;exact af _ _
 have z1:w1.heap[w.heap.size]? =some (.cells #[(⟨none,0,0⟩:Sl).v,(⟨none,0,0⟩:Sl).v] vI (0,0)):=by subst hw1;exact ak _ _
 refine(lX w1).mono ?_;rintro e w2 ⟨x0,rfl,h2,b2,_⟩;have z2:=ag b2 z1;have hlt2:w.heap.size<w2.heap.size:=(QV.1 z2).1;refine⟨_,_,_,_,_,_,rfl,?_⟩;intro w3 hw3;refine aX [.slice none 0 0,.slice none 0 0] [x0.b.v,x0.m.v] rfl (bL _ _) w3 hw3 ?_;intro w4 h4 hz4 b4;have hb14:Below w.heap.size w w4:=ae hb1 (ae b2 b4);intro I hI;let Inv (i:Nat) (q:World):Prop:=∃(x:lM) (es:List aP),q.heap[w2.heap.size]? =some (.cells #[x.b.v,x.m.v] vI (0,0))∧q.heap[w.heap.size]? =some (.cells #[(⟨none,0,0⟩:Sl).v,(⟨none,0,0⟩:Sl).v] vI (0,0))∧gK q x es∧fW es∧cd aK 0 (ao es)= .ok es∧es=fT l i∧Below w.heap.size w q;have fin:∀(i:Nat) (q:World),fT l 30=fT l i→Inv i q→∃g0A:Option Addr,∃g0N:Nat,∃g0C:Nat,∃g1A:Option Addr,∃g1N:Nat,∃g1C:Nat,(q.cell? (nb w2)=some (Value.slice g0A g0N g0C)∧q.cell? ((nb w2).add 1)=some (Value.slice g1A g1N g1C)∧True)∧
   aE q (nb w) (fun w5=>∃res0A:Option Addr,∃res0N:Nat,∃res0C:Nat,∃res1A:Option Addr,∃res1N:Nat,∃res1C:Nat,(w5.cell? (nb w)=some (Value.slice res0A res0N res0C)∧w5.cell? ((nb w).add 1)=some (Value.slice res1A res1N res1C)∧True)∧
    (∃(x:lM) (es:List aP),Value.agg #[Value.slice res0A res0N res0C,Value.slice res1A res1N res1C]=x.v∧gK w5 x es∧fW es∧cd aK 0 (ao es)= .ok es∧es=fT l 30∧Below w.heap.size w w5)) [Value.slice g0A g0N g0C,Value.slice g1A g1N g1C] 0:=by
  rintro i q hst ⟨x,es,hq2,hq0,hx,hok,hnew,hes,hB⟩;refine⟨_,_,_,_,_,_,fK hq2,?_⟩;refine aW hq0 [x.b.v,x.m.v] rfl (bL _ _) ?_;intro w5 h5 hs5 hz5 hB5;exact⟨_,_,_,_,_,_,fK h5,x,es,rfl,hx.past hq0 (fun j _ hj=>hs5 j hj) (Nat.le_of_eq hz5.symm),hok,hnew,hes.trans hst.symm,hB5 _ _ (Q0 _) hB⟩
 have key:=aU (α:=World) 30 Inv (fun i q=>I [.int .i64 ((2*i:Nat):Int)] q) w4 ⟨x0,aK,h4,ag b4 z2,h2.on b4,pv,rfl,rfl,hb14⟩ ?_ ?_
 ·exact key
 ·rintro i hi ih w5 hinv;refine hI _ _ (Ar.nat (2*i+1) (by omega) (by omega) (ac.mk (fun hl=>?_) fun hl=>fin i w5 (by have:=QX hl;have e:=si (l:=l) (i:=i) (by omega) (30-i);rwa [show i+(30-i)=30 by omega]at e) hinv));have hl:2*i+1<l.length:=by have:=QQ hl;omega
  refine ac.yes (by simp;omega) ?_;intro J hJ w7 hw7;obtain⟨x,es,h5,z5,hx5,hok,hnew,hes,hB5⟩:=hinv;have hstep:fT l (i+1)=zd es l[2*i] l[2*i+1]:=by rw [fT,if_pos hl, ←hes];simp [List.getD,hl,show 2*i<l.length by omega]
  have hJ':∀q,Inv (i+1) q→J [] q:=fun q hq=>hJ q (Ar.nat (2*(i+1)) (by omega) (by omega) (ih q hq));have b7:Below w5.heap.size w5 w7:=by subst hw7;exact aI w5
  have h7:=ag b7 h5;have z7:=ag b7 z5;have hx7:=hx5.on b7;have hB7:Below w.heap.size w w7:=hB5.trans (b7.mono hB5.size);have hlt7:w2.heap.size<w7.heap.size:=(QV.1 h7).1;obtain⟨q,hq,c0⟩:=aS (hr.on hB7) (i:=2*i) (by omega) rfl;obtain⟨q',hq',c1⟩:=aS (hr.on hB7) (i:=2*i+1) (by omega) rfl;have hn1:=hx7.n1;have hn2:=hx7.n2;have hmost:=hok.most;have hlen:=hok.len;have hml:=ct hok;have pick_yes:∀ {c:Int},decide (Int.tmod (IntKind.wrap .i64 c) ((x.b.n+x.m.n:Nat):Int)≥((x.b.n:Nat):Int))=true→IntKind.wrap .i64 (IntKind.wrap .i64 (256+Int.tmod (IntKind.wrap .i64 c) ((x.b.n+x.m.n:Nat):Int))- ((x.b.n:Nat):Int))=pY es c:=by
   intro c hc;rw [hn1,hn2]at hc⊢;rw [pY,if_pos hc]
  have pick_no:∀ {c:Int},decide (Int.tmod (IntKind.wrap .i64 c) ((x.b.n+x.m.n:Nat):Int)≥((x.b.n:Nat):Int))=false→Int.tmod (IntKind.wrap .i64 c) ((x.b.n+x.m.n:Nat):Int)=pY es c:=by
   intro c hc;rw [hn1,hn2]at hc⊢;rw [pY,if_neg (by rw [hc];exact Bool.false_ne_true)]
  refine ah.mk q hq ⟨by omega,by omega,_,c0,_,_,_,aj _ _ h7 0,_,_,_,aj _ _ h7 1,Ar.nat (x.b.n+x.m.n) (by omega) (by omega) ⟨by omega,Ar.nat (2*i+1) (by omega) (by omega) (ah.mk q' hq' ⟨by omega,by omega,_,c1,_,_,_,aj _ _ h7 0,_,_,_,aj _ _ h7 1,Ar.nat (x.b.n+x.m.n) (by omega) (by omega) ⟨by omega,?_⟩⟩)⟩⟩;intro J22 hJ22;have all:∀a:Int,a=pY es l[2*i]→J22 [.int .i64 a] w7:=by
   intro a hpa;refine hJ22 a w7 ?_;intro J23 hJ23;have all2:∀b:Int,b=pY es l[2*i+1]→J23 [.int .i64 b] w7:=by
    intro b hpb;refine hJ23 b w7 ⟨_,_,_,_,_,_,fK h7,?_⟩;refine(kH w7 x es hx7 hok (a,b)).mono ?_;rintro e w10 ⟨u,rfl,x',n,rfl,b10,hp⟩;refine⟨_,_,_,_,_,_,n,rfl,?_⟩;intro w11 hw11;refine aX [.slice none 0 0,.slice none 0 0] [x'.b.v,x'.m.v] rfl (bL _ _) w11 hw11 ?_;intro w12 h12 hz12 b12;have b712:=ae b10 b12;have h2':=ag b712 h7;have z2':=ag b712 z7;have hB12:Below w.heap.size w w12:=hB7.trans (b712.mono hB7.size);cases hx:bV es (a,b)with
    |error n0=>
     rw [hx]at hp;obtain⟨rfl,rfl⟩:=hp;refine ac.no (by simpa using gc hx) (hJ' w12 ⟨x',es,h2',z2',hx7.on b712,hok,hnew,by rw [hstep,zd, ←hpa, ←hpb,hx],hB12⟩)
    |ok y=>
     rw [hx]at hp;obtain⟨rfl,hx',_⟩:=hp;refine ac.yes rfl ⟨_,_,_,_,_,_,fK h12,?_⟩;refine aW h2' [x'.b.v,x'.m.v] rfl (bL _ _) ?_;intro w13 h13 hs13 hz13 hB13;have hadd:=lz hok hx;refine hJ' w13 ⟨x',es++ [y],h13,?_,(hx'.on b12).past h2' (fun j _ hj=>hs13 j hj) (Nat.le_of_eq hz13.symm),hadd.1,?_,by rw [hstep,zd, ←hpa, ←hpb,hx],hB13 _ _ (by omega) hB12⟩
     ·rw [hs13 _ (by omega)];exact z2'
     ·rw [tu hok,hadd.2.1];exact pR hx _ _ _ hnew
   exact⟨_,_,_,aj _ _ h7 0,ac.mk (fun hc=>⟨_,_,_,aj _ _ h7 0,all2 _ (pick_yes hc)⟩) fun hc=>all2 _ (pick_no hc)⟩
  exact⟨_,_,_,aj _ _ h7 0,ac.mk (fun hc=>⟨_,_,_,aj _ _ h7 0,all _ (pick_yes hc)⟩) fun hc=>all _ (pick_no hc)⟩
 ·rintro w5 hinv;refine hI _ _ (Ar.nat (2*30+1) (by omega) (by omega) (ac.mk (fun hl=>?_) fun hl=>fin 30 w5 rfl hinv));exact ac.no (by simp) (fin 30 w5 rfl hinv)
structure LsAt {α:Type} (enc:α→List Value) (sz:Nat) (w:World) (l:Sl) (xs:List α):Prop where
 n:l.n=xs.length
 r:Rw enc sz w l.a xs
 k:tw l
theorem LsAt.on {α:Type} {enc:α→List Value} {sz:Nat} {w w':World} {l:Sl} {xs:List α} (h:LsAt enc sz w l xs) (hb:Below w.heap.size w w'):LsAt enc sz w' l xs:=⟨h.n,h.r.on hb,h.k⟩
structure xI {α:Type} (enc:α→List Value) (sz:Nat) (t e:TypeId) (bytes:Nat):Prop where
 hsz:∀x,(enc x).length=sz
 h0:0<sz
 h1:∀x,∀u∈enc x,u.oneCell'=true
 ht:Tryz.prog.underlying t=some (.slice e)
 hz:∃z:Value,(Tryz.prog.info? e).map (fun i=>(i.zero,i.size,i.bytes))=some (some z,sz,bytes)∧z.cells.size=sz
theorem cW:xI aC 1 cJ aV 8:=⟨fun _=>rfl,by decide,fun x u hu=>by rw [List.mem_singleton.1 hu];rfl,vV,_,Dv,rfl⟩
theorem yu:xI cQ 1 jx eM 16:=⟨fun _=>rfl,by decide,fun x u hu=>by rw [List.mem_singleton.1 hu];rfl,lj,_,lu,rfl⟩
theorem LsAt.of_own {α:Type} {enc:α→List Value} {sz bytes:Nat} {t e:TypeId} (E:xI enc sz t e bytes) {w:World} {B:Nat} {l:Sl} {xs:List α} (h:w.ownsRow B e sz l.v l.n (xs.flatMap enc)):LsAt enc sz w l xs:=
 have:=Rw.of_own h E.hsz E.h0
 ⟨this.2,this.1,nf h⟩
theorem xI.push {α:Type} {enc:α→List Value} {sz bytes:Nat} {t e:TypeId} (E:xI enc sz t e bytes) {B:Nat} {w2 w3:World} {s:Sl} {xs:List α} (hown:w2.ownsRow B e sz s.v s.n (xs.flatMap enc)) (x:α) {T:TypeId} {c:Array Value} (hw:w3=w2.alloc (.cells c T)) (hc:c=(enc x).toArray) (hB:B≤w2.heap.size) (hn:s.n≤1000000000) (hb:bytes≤1000):
  ∃(l:Sl) (w4:World),l.n=s.n+1∧(Builtin.append_ #[t,t] t #[.slice s.a s.n s.c,.slice (some (nb w2)) 1 1]).run Tryz.prog w3= .ok (.slice l.a l.n l.c) w4∧w4.ownsRow B e sz l.v l.n ((xs++ [x]).flatMap enc)∧(∀w0,Below B w0 w2→Below B w0 w4)∧(∀k,k<w2.heap.size→s.v.ownBlock≠some k→w4.heap[k]? =w2.heap[k]?):=by
 obtain⟨z,hi,hzs⟩:=E.hz;subst hw hc;have hba:=af w2 (.cells (enc x).toArray T);have hmul:(s.n+1)*bytes≤(1000000000+1)*1000:=Nat.mul_le_mul (by omega) hb;obtain⟨A,C,w4,h1,h2,h3,h4⟩:=ox (enc:=enc) (sz:=sz) E.hsz E.h0 E.h1 t e E.ht hi hzs (aB hown hba) x (ak w2 _) (QU hB hba.size) (by omega) (by omega);refine⟨⟨A,s.n+1,C⟩,w4,rfl,h1,h2,fun w0 h0=>h3 w0 (h0.trans (hba.mono hB)),fun k hk hne=>?_⟩;rw [h4 k (Nat.lt_of_lt_of_le hk hba.size) hne,hba.block k hk]
theorem xI.spread {α:Type} {enc:α→List Value} {sz bytes:Nat} {t e:TypeId} (E:xI enc sz t e bytes) {B:Nat} {w2:World} {s l:Sl} {xs ys:List α} (hown:w2.ownsRow B e sz s.v s.n (xs.flatMap enc)) (hl:LsAt enc sz w2 l ys) (hB:B≤w2.heap.size) (hn:s.n≤1000000000) (hm:l.n≤1000000000) (hb:bytes≤1000):
  ∃(r:Sl) (w4:World),r.n=s.n+l.n∧(Builtin.append_ #[t,t] t #[.slice s.a s.n s.c,.slice l.a l.n l.c]).run Tryz.prog w2= .ok (.slice r.a r.n r.c) w4∧w4.ownsRow B e sz r.v r.n ((xs++ys).flatMap enc)∧(∀w0,Below B w0 w2→Below B w0 w4)∧(∀k,k<w2.heap.size→s.v.ownBlock≠some k→w4.heap[k]? =w2.heap[k]?)∧∀k,r.v.ownBlock=some k→s.v.ownBlock=some k∨w2.heap.size≤k:=by
 obtain⟨z,hi,hzs⟩:=E.hz;have hmul:(s.n+l.n)*bytes≤(1000000000+1000000000)*1000:=Nat.mul_le_mul (by omega) hb;have hr:=hl.r;obtain⟨A,C,w4,h1,h2,h3,h4,h5⟩:=qb (P:=Tryz.prog) t e E.ht hi hzs E.h0 hown l hl.k (ys.flatMap enc) (by rw [bY E.hsz,hl.n]) (by
  intro a ha j u hj;rw [ha]at hr;exact hr.flat E.hsz E.h0 j u hj) (by
  intro u hu;obtain⟨x,_,hx⟩:=List.mem_flatMap.1 hu;exact E.h1 x u hx) (by omega) (by omega) hB
 exact⟨⟨A,s.n+l.n,C⟩,w4,rfl,h1,by rw [List.flatMap_append];exact h2,h3,h4,h5⟩
theorem cr (w:World) (B:Nat) (e:TypeId) (sz:Nat) {α:Type} (enc:α→List Value):w.ownsRow B e sz bO.v bO.n (([]:List α).flatMap enc):=c_ w B e sz
theorem LG {α:Type} (n:Nat) (Inv G:Nat→α→Prop) (step:∀i,i≤n→(∀j,i<j→j≤n→∀x,Inv j x→G j x)→∀x,Inv i x→G i x):∀i,i≤n→∀x,Inv i x→G i x:=by
 have key:∀d i,n-i≤d→i≤n→∀x,Inv i x→G i x:=by
  intro d;induction d with
  |zero=>
   intro i hd hi x hx;exact step i hi (fun j h1 h2=>by omega) x hx
  |succ d ih=>
   intro i hd hi x hx;exact step i hi (fun j h1 h2 y hy=>ih j (by omega) h2 y hy) x hx
 exact fun i hi x hx=>key (n-i) i (Q0 _) hi x hx
theorem F1 (a b c:Int) (l:List Int):(b_ a b c l).length≤l.length:=by
 induction l using b_.induct a b with
 |case1=>simp [b_]
 |case2 x=>simp [b_]
 |case3 x y r hx ih=>
  obtain⟨rfl,rfl⟩:=hx;rw [bN];simp only [List.length_cons];omega
 |case4 x y r hx ih=>
  rw [bX r hx];simp only [List.length_cons]at ih⊢;omega
theorem jw (ms:List (Int×Int)) (s:List Int):∀k,k≤ms.length→(after ms k s).length≤s.length
 |0,_=>by rw [cO];exact Q0 _
 |k+1,h=>by
  rw [bZ ms (QW (show k<ms.length by omega))];exact QU (F1 _ _ _ _) (jw ms s k (by omega))
theorem uJ (b:UInt8):IntKind.wrap .i64 ((b.toNat:Nat):Int)=((b.toNat:Nat):Int):=by
 have:=b.toNat_lt;exact cZ (by show(-9223372036854775808:Int)≤_;omega) (by show _≤(9223372036854775807:Int);omega)
theorem lr (s:Bs) (i:Nat) (hi:i<s.length):a_ (s.take (i+1))=a_ (s.take i)++ [((s[i].toNat:Nat):Int)]:=EY (fun z:UInt8=>((z.toNat:Nat):Int)) s i hi
theorem sg (w:World) (x:lM) (es:List aP) (h:gK w x es) (hok:fW es) (s:Bs) (hs:s.length≤1000000) (N:Nat) (hN:N=es.length):CP 128 #[x.v,.string (str s),.int .i64 (N:Int)] w fun e w'=>∃l:Sl,e= .returned l.v∧LsAt aC 1 w' l (after (ao es) (ao es).length (a_ s))∧Below w.heap.size w w':=by
 subst hN;refine aO (Ae x.b.a x.b.n x.b.c x.m.a x.m.n x.m.c (str s) (es.length:Int) w) ?_;intro w1 hw1;have hb1:Below w.heap.size w w1:=by subst hw1;exact af _ _
 have l1:w1.heap[w.heap.size]? =some (.cells #[x.b.v,x.m.v] vI (0,0)):=by subst hw1;exact ak _ _
 have hmost:=hok.most;have hml:=ct hok;have hn2:=h.n2;intro I1 hI1;have key:=aU (α:=Sl×World) s.length (fun i y=>y.2.ownsRow w1.heap.size aV 1 y.1.v y.1.n ((a_ (s.take i)).flatMap aC)∧y.1.n=i∧Below w1.heap.size w1 y.2) (fun i y=>I1 [.int .i64 (i:Int),y.1.v] y.2) (bO,w1) ⟨cr _ _ _ _ aC,rfl,Below.refl _ _⟩ ?_ ?_
 ·exact key
 ·rintro i hi ih ⟨l,q⟩ ⟨hown,hln,hB⟩;change q.ownsRow w1.heap.size aV 1 l.v l.n _ at hown;change l.n=i at hln;change Below w1.heap.size w1 q at hB;refine hI1 _ _ _ _ _ (ac.yes (by rw [be];simp;omega) ⟨by omega,by rw [be];omega,?_⟩);intro w3 hw3;rw [eS s i hi,uJ]at hw3;obtain⟨l',w4,hl',hrun,hown',hB',_⟩:=cW.push hown ((s[i].toNat:Nat):Int) hw3 rfl hB.size (by omega) (by decide);refine⟨l'.a,l'.n,l'.c,w4,hrun,Ar.nat (i+1) rfl (by omega) (ih (l',w4) ⟨?_,by show l'.n=i+1;omega,hB' _ hB⟩)⟩;rw [lr s i hi];exact hown'
 ·rintro⟨l,q⟩ ⟨hown,hln,hB⟩;change q.ownsRow w1.heap.size aV 1 l.v l.n _ at hown;change l.n=s.length at hln;change Below w1.heap.size w1 q at hB;refine hI1 _ _ _ _ _ (ac.no (by rw [be];simp) ?_);intro I5 hI5;have hls:LsAt aC 1 q l (after (ao es) 0 (a_ s)):=by
   rw [cO];have:=LsAt.of_own cW hown;rwa [List.take_length]at this
  have key5:=aU (α:=Sl×World) (ao es).length (fun k y=>LsAt aC 1 y.2 y.1 (after (ao es) k (a_ s))∧Below w1.heap.size w1 y.2) (fun k y=>I5 [.int .i64 (k:Int),y.1.v] y.2) (l,q) ⟨hls,hB⟩ ?_ ?_
  ·exact key5
  ·rintro k hk ih5 ⟨l,q⟩ ⟨hl,hB⟩;change LsAt aC 1 q l _ at hl;change Below w1.heap.size w1 q at hB;have l1q:=ag hB l1;have hq:=(h.on hb1).on hB;refine hI5 _ l.a l.n l.c q ⟨_,_,_,aj _ _ l1q 1,ac.yes (by simp;omega) (Ar.nat (256+k) (by omega) (by omega) (ac.yes (by simp;omega) ?_))⟩;intro I13 hI13;obtain⟨m,hm⟩:∃m,(ao es)[k]? =some m:=⟨_,QW hk⟩;have hlen:=jw (ao es) (a_ s) k (by omega);have hints:(a_ s).length=s.length:=by simp [a_]
   rw [bZ (ao es) hm]at ih5;generalize after (ao es) k (a_ s)=L at hl hlen ih5;have hln:=hl.n;let Inv (i:Nat) (y:Sl×World):Prop:=∃o:List Int,y.2.ownsRow q.heap.size aV 1 y.1.v y.1.n (o.flatMap aC)∧b_ m.1 m.2 (256+(k:Int)) L=o++b_ m.1 m.2 (256+(k:Int)) (L.drop i)∧y.1.n≤i∧Below q.heap.size q y.2;have key13:=LG (α:=Sl×World) L.length Inv (fun i y=>I13 [.int .i64 (i:Int),y.1.v] y.2) ?_ 0 (Nat.zero_le _) (bO,q) ⟨[],cr _ _ _ _ aC,by simp,Q0 _,Below.refl _ _⟩
   ·exact key13
   rintro i hi ih ⟨out,v⟩ ⟨o,hown,hpass,hon,hBv⟩;change v.ownsRow q.heap.size aV 1 out.v out.n _ at hown;change out.n≤i at hon;change Below q.heap.size q v at hBv;have hBw:Below w1.heap.size w1 v:=ae hB hBv;by_cases hiL:i<L.length
   ·refine hI13 _ out.a out.n out.c v (ac.yes (by simp;omega) ?_);intro J hJ v8 hv8;have b8:Below v.heap.size v v8:=by subst hv8;exact aI v
    have hown8:v8.ownsRow q.heap.size aV 1 out.v out.n (o.flatMap aC):=by subst hv8;exact eQ hown
    have hBv8:Below q.heap.size q v8:=hBv.trans (b8.mono hBv.size);have l18:=ag b8 (ag hBv l1q);have hq8:=(hq.on hBv).on b8;obtain⟨p,hp,c0⟩:=aS ((hl.r.on hBv).on b8) hiL rfl;obtain⟨pm,hpm,_,hcm⟩:=hq8.r2 k m hm;have cm0:=hcm 0 _ rfl;have cm1:=hcm 1 _ rfl;have push:∀(z:Int) (v9:World),v9=v8.alloc (.cells #[Value.int .i64 z] aV)→∀(i':Nat) (jj:Int),jj=(i':Int)→i≤i'→i'<L.length→b_ m.1 m.2 (256+(k:Int)) (L.drop i)=z::b_ m.1 m.2 (256+(k:Int)) (L.drop (i'+1))→
      ∃A:Option Addr,∃N:Nat,∃C:Nat,∃w10:World,(Builtin.append_ #[cJ,cJ] cJ #[Value.slice out.a out.n out.c,Value.slice (some (nb v8)) 1 1]).run Tryz.prog v9= .ok (Value.slice A N C) w10∧J [.int .i64 jj,.slice A N C] w10:=by
     intro z v9 hv9 i' jj hjj hii hi' hz;obtain⟨l',w4,hl',hrun,hown',hB',_⟩:=cW.push hown8 z hv9 rfl hBv8.size (by omega) (by decide);refine⟨l'.a,l'.n,l'.c,w4,hrun,hJ _ _ _ _ _ ?_⟩;subst hjj;refine Ar.nat (i'+1) rfl (by omega) (ih (i'+1) (by omega) (by omega) (l',w4) ⟨o++ [z],hown',?_,by show l'.n≤i'+1;omega,hB' _ hBv8⟩);rw [hpass,hz];simp
    have keep:¬(L[i]=m.1∧L[i+1]? =some m.2)→b_ m.1 m.2 (256+(k:Int)) (L.drop i)=L[i]::b_ m.1 m.2 (256+(k:Int)) (L.drop (i+1)):=by
     intro hno;rw [List.drop_eq_getElem_cons hiL];by_cases h1:i+1<L.length
     ·rw [List.drop_eq_getElem_cons h1];exact bX _ fun e=>hno ⟨e.1,by rw [QW h1,e.2]⟩
     ·rw [List.drop_eq_nil_of_le (by omega)];rfl
    refine Ar.nat (i+1) rfl (by omega) (ac.mk (fun h1=>?_) fun h1=>?_)
    ·have h1:i+1<L.length:=by have:=QQ h1;omega
     obtain⟨p',hp',c1⟩:=aS ((hl.r.on hBv).on b8) h1 rfl;refine ah.mk p hp ⟨by omega,by omega,_,c0,_,_,_,aj _ _ l18 1,ah.mk pm hpm ⟨by omega,by omega,_,cm0,ac.mk (fun h2=>?_) fun h2=>?_⟩⟩
     ·have h2:L[i]=m.1:=by simpa using h2
      refine Ar.nat (i+1) rfl (by omega) (ah.mk p' hp' ⟨by omega,by omega,_,c1,_,_,_,aj _ _ l18 1,ah.mk pm hpm ⟨by omega,by omega,_,cm1,ac.mk (fun h3=>?_) fun h3=>?_⟩⟩)
      ·have h3:L[i+1]=m.2:=by simpa using h3
       refine Ar.nat (256+k) (by omega) (by omega) ?_;intro v9 hv9;obtain⟨A,N,C,w10,hrun,hj⟩:=push ((256+k:Nat):Int) v9 hv9 (i+1) ((i:Int)+1) (by omega) (by omega) h1 (by
        rw [List.drop_eq_getElem_cons hiL,List.drop_eq_getElem_cons h1,h2,h3,bN];rfl)
       exact⟨A,N,C,w10,hrun,Ar.ok64 (by omega) (by omega) hj⟩
      ·have h3:¬L[i+1]=m.2:=by simpa using h3
       refine ah.mk p hp ⟨by omega,by omega,_,c0,?_⟩;intro v9 hv9;exact push L[i] v9 hv9 i _ rfl (Q0 _) hiL (keep fun e=>h3 (by have:=e.2;rw [QW h1]at this;exact Option.some.inj this))
     ·have h2:¬L[i]=m.1:=by simpa using h2
      refine ah.mk p hp ⟨by omega,by omega,_,c0,?_⟩;intro v9 hv9;exact push L[i] v9 hv9 i _ rfl (Q0 _) hiL (keep fun e=>h2 e.1)
    ·have h1:¬i+1<L.length:=by have:=QX h1;omega
     refine ah.mk p hp ⟨by omega,by omega,_,c0,?_⟩;intro v9 hv9;exact push L[i] v9 hv9 i _ rfl (Q0 _) hiL (keep fun e=>h1 (List.getElem?_eq_some_iff.1 e.2).1)
   ·have hiL:i=L.length:=by omega
    refine hI13 _ out.a out.n out.c v (ac.no (by simp;omega) (Ar.nat (k+1) rfl (by omega) (ih5 (out,v) ⟨?_,hBw⟩)));rw [hiL,List.drop_length]at hpass;have:b_ m.1 m.2 (256+(k:Int)) L=o:=by rw [hpass];simp [b_]
    rw [this];exact LsAt.of_own cW hown
  ·rintro⟨l,q⟩ ⟨hl,hB⟩;change LsAt aC 1 q l _ at hl;change Below w1.heap.size w1 q at hB;refine hI5 _ _ _ _ _ ⟨_,_,_,aj _ _ (ag hB l1) 1,ac.no (by simp;omega) ⟨l,rfl,hl,ae hb1 hB⟩⟩
theorem zZ (w:World) (x:lM) (es:List aP) (h:gK w x es) (hok:fW es) (s:Bs) (hs:s.length≤1000000):CP 68 #[x.v,.string (str s)] w fun e w'=>∃l:Sl,e= .returned l.v∧LsAt aC 1 w' l (after (ao es) (ao es).length (a_ s))∧Below w.heap.size w w':=by
 refine aO (Be x.b.a x.b.n x.b.c x.m.a x.m.n x.m.c (str s) w) ?_;intro w1 hw1;have hb1:Below w.heap.size w w1:=by subst hw1;exact af _ _
 have l1:w1.heap[w.heap.size]? =some (.cells #[x.b.v,x.m.v] vI (0,0)):=by subst hw1;exact ak _ _
 refine⟨_,_,_,_,_,_,fK l1,_,_,_,aj _ _ l1 0,?_⟩;refine(sg w1 x es (h.on hb1) hok s hs x.b.n h.n1).mono ?_;rintro e w2 ⟨l,rfl,hl,hb2⟩;exact⟨_,_,_,rfl,l,rfl,hl,ae hb1 hb2⟩
theorem uN (w:World) (x:cw) (s:ar) (h:dw w x s) (hr:s.ranked=false) (hl:s.merges.length≤1000000):CP 217 #[x.v] w fun e w'=>∃u,e= .returned u∧zh w s.merges u w':=by
 refine Av x.ranked x.s1.a x.s1.n x.s1.c x.s2.a x.s2.n x.s2.c x.s3.a x.s3.n x.s3.c x.s4.a x.s4.n x.s4.c x.s5.a x.s5.n x.s5.c w (zh w s.merges) ?_;intro w1 hw1 w2 hw2;have hb1:Below w.heap.size w w1:=by subst hw1;exact af _ _
 have b2:Below w1.heap.size w1 w2:=by subst hw2;exact af _ _
 have hb2:=ae hb1 b2;have p1:w1.heap[w.heap.size]? =some (.cells x.cells dl (0,0)):=by subst hw1;exact ak _ _
 have p2:=ag b2 p1;have l2:w2.heap[w1.heap.size]? =some (.cells #[bO.v,bO.v] vI (0,0)):=by subst hw2;exact ak _ _
 refine⟨_,aj _ _ p2 0,ac.no (by rw [h.ranked,hr]) ⟨_,_,_,aj _ _ p2 1,?_⟩⟩;have hn:=h.n1;obtain⟨⟨a,n,c⟩,hx⟩:∃y:Sl,y=x.s1:=⟨_,rfl⟩;rw [←hx]at hn⊢;change n=s.merges.length at hn;subst hn;have hr2:Rw bI 2 w2 a s.merges:=by have:=(h.on hb2).r1;rw [←hx]at this;exact this
 refine(AM w2 a c s.merges hr2 hl).mono ?_;rintro e w5 ⟨u,rfl,y,n,e,rfl,b5,hp⟩;refine⟨_,_,_,_,_,_,n,e,rfl,?_⟩;have l5:=ag b5 l2;refine aW l5 [y.b.v,y.m.v] rfl (bL _ _) ?_;intro w6 h6 hs6 hz6 hB6;have hbb:=ae hb2 b5;refine⟨_,_,_,_,_,_,fK h6,y,n,e,rfl,hB6 _ _ hb1.size hbb,?_⟩;cases hx:cd aK 0 s.merges with
 |error q=>rw [hx]at hp;exact hp
 |ok es=>rw [hx]at hp;exact⟨hp.1,hp.2.1,hp.2.2.1.past l5 (fun j _ hj=>hs6 j hj) (Nat.le_of_eq hz6.symm),hp.2.2.2.1,hp.2.2.2.2.mono hb2.size⟩
structure ph (w:World) (x:lM) (cls:List (Int×Int×Int)) (js:List (Int×Int)):Prop where
 n1:x.b.n=cls.length
 r1:Rw cU 3 w x.b.a cls
 n2:x.m.n=js.length
 r2:Rw bI 2 w x.m.a js
theorem ph.on {w w':World} {x:lM} {cls:List (Int×Int×Int)} {js:List (Int×Int)} (h:ph w x cls js) (hb:Below w.heap.size w w'):ph w' x cls js:=⟨h.n1,h.r1.on hb,h.n2,h.r2.on hb⟩
abbrev Pp:TypeId:=38
theorem lK (w:World) (x:lM) (cls:List (Int×Int×Int)) (js:List (Int×Int)) (h:ph w x cls js) (hl:cls.length≤1000000) (b:Int) (hb:0≤b∧b<256):CP 175 #[x.v,.int .u8 b] w fun e w'=>e= .returned (.int .i64 (cB cls b))∧Below w.heap.size w w':=by
 refine aO (AT x.b.a x.b.n x.b.c x.m.a x.m.n x.m.c b w) ?_;intro w1 hw1;have hb1:Below w.heap.size w w1:=by subst hw1;exact af _ _
 have l1:w1.heap[w.heap.size]? =some (.cells #[x.b.v,x.m.v] Pp (0,0)):=by subst hw1;exact ak _ _
 have hn:=h.n1;have hwr:IntKind.wrap .i64 b=b:=cZ (by show(-9223372036854775808:Int)≤_;omega) (by show _≤(9223372036854775807:Int);omega);refine⟨_,_,_,aj _ _ l1 0,Ar.ok64 (by omega) (by omega) ?_⟩;intro I hI;have key:=aU (α:=Int) cls.length (fun j _=>cB (cls.take (cls.length-j)) b=cB cls b) (fun j y=>I [.int .i64 ((x.b.n:Int)-1- (j:Int)),.int .i64 y] w1) 0 (by simp) ?_ ?_
 ·rw [show(x.b.n:Int)-1=(x.b.n:Int)-1- ((0:Nat):Int) by omega];exact key
 ·rintro j hj ih y hinv;have hi:cls.length-1-j<cls.length:=by omega
  obtain⟨q,hq,_,hc⟩:=(h.r1.on hb1) (cls.length-1-j) _ (QW hi);have htake:cls.take (cls.length-j)=cls.take (cls.length- (j+1))++ [cls[cls.length-1-j]]:=by
   rw [show cls.length-j=cls.length-1-j+1 by omega,show cls.length- (j+1)=cls.length-1-j by omega,List.take_add_one,QW hi];rfl
  rw [htake,td]at hinv;have e:(x.b.n:Int)-1- (j:Int)=((cls.length-1-j:Nat):Int):=by omega
  have next:cB (cls.take (cls.length- (j+1))) b=cB cls b→Ar .i64 (((cls.length-1-j:Nat):Int)-1) (fun n=>I [.int .i64 n,.int .i64 y] w1):=by
   intro hn';have:=ih y hn';rw [show(x.b.n:Int)-1- ((j+1:Nat):Int)=((cls.length-1-j:Nat):Int)-1 by omega]at this;exact Ar.ok64 (by omega) (by omega) this
  rw [e];refine hI _ _ _ (ac.yes (by simp) ⟨_,_,_,aj _ _ l1 0,ah.mk q hq ⟨by omega,by omega,_,hc 0 _ rfl,?_⟩⟩);rw [hwr];refine ac.mk (fun h0=>⟨_,_,_,aj _ _ l1 0,ah.mk q hq ⟨by omega,by omega,_,hc 1 _ rfl,ac.mk (fun h1=>⟨_,_,_,aj _ _ l1 0,ah.mk q hq ⟨by omega,by omega,_,hc 2 _ rfl,?_,hb1⟩⟩) fun h1=>next ?_⟩⟩) fun h0=>next ?_
  ·have h0:=QQ h0;have h1:=QQ h1;rw [if_pos ⟨h0,h1⟩]at hinv;rw [←hinv]
  ·have h1:=QX h1;rwa [if_neg fun e=>h1 e.2]at hinv
  ·have h0:=QX h0;rwa [if_neg fun e=>h0 e.1]at hinv
 ·rintro y hinv;refine hI _ _ _ (ac.no (by simp;omega) ⟨?_,hb1⟩);rw [Nat.sub_self,List.take_zero]at hinv;rw [←hinv];rfl
theorem vl (w:World) (x:lM) (cls:List (Int×Int×Int)) (js:List (Int×Int)) (h:ph w x cls js) (hl:cls.length≤1000000) (hj:js.length≤1000000) (a b:Int) (ha:0≤a∧a<256) (hb:0≤b∧b<256):CP 127 #[x.v,.int .u8 a,.int .u8 b] w fun e w'=>e= .returned (.bool (cutB cls js a b))∧Below w.heap.size w w':=by
 refine aO (zP x.b.a x.b.n x.b.c x.m.a x.m.n x.m.c a b w) ?_;intro w1 hw1 w2 hw2;have hb1:Below w.heap.size w w1:=by subst hw1;exact af _ _
 have b2:Below w1.heap.size w1 w2:=by subst hw2;exact aI w1
 have hb2:=ae hb1 b2;have l1:w1.heap[w.heap.size]? =some (.cells #[x.b.v,x.m.v] Pp (0,0)):=by subst hw1;exact ak _ _
 have l2:=ag b2 l1;have hn:=h.n2;refine⟨_,_,_,_,_,_,fK l2,_,_,_,_,_,_,fK l2,?_⟩;refine(lK w2 x cls js (h.on hb2) hl a ha).mono ?_;rintro e w3 ⟨rfl,b3⟩;refine⟨_,rfl,fK (ag b3 l2),?_⟩;have hb3:=ae hb2 b3;refine(lK w3 x cls js (h.on hb3) hl b hb).mono ?_;rintro e w4 ⟨rfl,b4⟩;refine⟨_,rfl,?_⟩;have hb4:=ae hb3 b4;have l4:=ag b4 (ag b3 l2);intro I hI;have key:=aU (α:=Bool) js.length (fun i _=>(cB cls a,cB cls b)∉js.take i) (fun i y=>I [.int .i64 (i:Int),.bool y] w4) false (by simp) ?_ ?_
 ·exact key
 ·rintro i hi ih y hinv;obtain⟨q,hq,_,hc⟩:=(h.r2.on hb4) i _ (QW hi);have next:js[i]≠(cB cls a,cB cls b)→Ar .i64 ((i:Int)+1) (fun n=>I [.int .i64 n,.bool y] w4):=by
   intro hne;refine Ar.nat (i+1) rfl (by omega) (ih y ?_);rw [List.take_add_one,QW hi];intro hm;rcases List.mem_append.1 hm with hm |hm
   ·exact hinv hm
   ·have hm:(cB cls a,cB cls b)=js[i]:=by simpa using hm
    exact hne hm.symm
  refine hI _ _ _ ⟨_,_,_,aj _ _ l4 1,ac.yes (by simp;omega) ⟨_,_,_,aj _ _ l4 1,ah.mk q hq ⟨by omega,by omega,_,hc 0 _ rfl,ac.mk (fun h0=>⟨_,_,_,aj _ _ l4 1,ah.mk q hq ⟨by omega,by omega,_,hc 1 _ rfl,ac.mk (fun h1=>⟨?_,hb4⟩) fun h1=>next ?_⟩⟩) fun h0=>next ?_⟩⟩⟩
  ·have h0:js[i].1=cB cls a:=by simpa using h0
   have h1:js[i].2=cB cls b:=by simpa using h1
   have:(cB cls a,cB cls b)∈js:=by rw [←h0, ←h1];exact List.getElem_mem hi
   rw [cutB,QZ fun e=>e.2 this]
  ·intro e;rw [e]at h1;simp at h1
  ·intro e;rw [e]at h0;simp at h0
 ·rintro y hinv;refine hI _ _ _ ⟨_,_,_,aj _ _ l4 1,ac.no (by simp;omega) ⟨?_,hb4⟩⟩;rw [List.take_length]at hinv;rw [cutB];by_cases e:cB cls a=cB cls b<;>simp [e,hinv]
theorem DW {α:Type} {p:α→Bool} {l:List α} {i:Nat} (hi:i<l.length) (h:(l.take i).all p=true) (hp:p l[i]=true):(l.take (i+1)).all p=true:=by
 rw [List.take_add_one,QW hi,List.all_append,h];simpa using hp
theorem DQ {α:Type} {p:α→Bool} {l:List α} {i:Nat} (hi:i<l.length) (hp:p l[i]=false):l.all p=false:=by
 rw [List.all_eq_false];exact⟨_,List.getElem_mem hi,by simp [hp]⟩
theorem mg (w:World) (x:lM) (cls:List (Int×Int×Int)) (js:List (Int×Int)) (h:ph w x cls js) (hl:cls.length≤1000000) (hj:js.length≤1000000):CP 166 #[x.v] w fun e w'=>e= .returned (.bool (cls.all bc&&js.all cH))∧Below w.heap.size w w':=by
 refine aT (yv x.b.a x.b.n x.b.c x.m.a x.m.n x.m.c w (fun u w'=>u= .bool (cls.all bc&&js.all cH)∧Below w.heap.size w w') ?_) (by rintro v w' ⟨rfl,h⟩;exact⟨rfl,h⟩);intro w1 hw1;have hb1:Below w.heap.size w w1:=by subst hw1;exact af _ _
 have l1:w1.heap[w.heap.size]? =some (.cells #[x.b.v,x.m.v] Pp (0,0)):=by subst hw1;exact ak _ _
 have hn1:=h.n1;have hn2:=h.n2;intro I hI;have key:=aU (α:=Bool×World) cls.length (fun i y=>(cls.take i).all bc=true∧Below w1.heap.size w1 y.2) (fun i y=>I [.int .i64 (i:Int),.bool y.1] y.2) (false,w1) ⟨by simp,Below.refl _ _⟩ ?_ ?_
 ·exact key
 ·rintro i hi ih ⟨y,q⟩ ⟨hall,hB⟩;change Below w1.heap.size w1 q at hB;have lq:=ag hB l1;obtain⟨p,hp,_,hc⟩:=((h.on hb1).on hB).r1 i _ (QW hi);have c0:=hc 0 _ rfl;rw [ax]at c0;refine hI _ y q ⟨_,_,_,aj _ _ lq 0,ac.yes (by simp;omega) ⟨_,_,_,aj _ _ lq 0,ah.mk p hp ⟨by omega,by omega,_,_,_,⟨c0,hc 1 _ rfl,hc 2 _ rfl,trivial⟩,?_⟩⟩⟩;intro w3 hw3;refine aX [.int .i64 0,.int .i64 0,.int .i64 0] [.int .i64 cls[i].1,.int .i64 cls[i].2.1,.int .i64 cls[i].2.2] rfl (f_ _ _ _) w3 hw3 ?_;intro w4 h4 hz4 b4;have hBw:=ae hb1 (ae hB b4);have no:bc cls[i]=false→Value.bool false=Value.bool (cls.all bc&&js.all cH)∧Below w.heap.size w w4:=by
   intro e;rw [DQ hi e];exact⟨rfl,hBw⟩
  refine⟨_,aj _ _ h4 0,ac.mk (fun e=>no ?_) fun e1=>⟨_,aj _ _ h4 1,_,aj _ _ h4 0,ac.mk (fun e=>no ?_) fun e2=>⟨_,aj _ _ h4 1,ac.mk (fun e=>no ?_) fun e3=>⟨_,aj _ _ h4 2,ac.mk (fun e=>no ?_) fun e4=>⟨_,aj _ _ h4 2,ac.mk (fun e=>no ?_) fun e5=>Ar.nat (i+1) rfl (by omega) (ih (y,w4) ⟨DW hi hall ?_,ae hB b4⟩)⟩⟩⟩⟩⟩
  ·have e:=QQ e;exact QZ (by omega)
  ·have e:=QQ e;exact QZ (by omega)
  ·have e:=QQ e;exact QZ (by omega)
  ·have e:=QQ e;exact QZ (by omega)
  ·have e:=QQ e;exact QZ (by omega)
  ·have e1:=QX e1;have e2:=QX e2;have e3:=QX e3;have e4:=QX e4;have e5:=QX e5;exact QY (by omega)
 ·rintro⟨y,q⟩ ⟨hall,hB⟩;change Below w1.heap.size w1 q at hB;rw [List.take_length]at hall;refine hI _ y q ⟨_,_,_,aj _ _ (ag hB l1) 0,ac.no (by simp;omega) ?_⟩;intro I2 hI2;have key2:=aU (α:=Bool×World) js.length (fun i y=>(js.take i).all cH=true∧Below w1.heap.size w1 y.2) (fun i y=>I2 [.int .i64 (i:Int),.bool y.1] y.2) (y,q) ⟨by simp,hB⟩ ?_ ?_
  ·exact key2
  ·rintro i hi ih ⟨y,q⟩ ⟨hall2,hB⟩;change Below w1.heap.size w1 q at hB;have lq:=ag hB l1;obtain⟨p,hp,_,hc⟩:=((h.on hb1).on hB).r2 i _ (QW hi);have c0:=hc 0 _ rfl;rw [ax]at c0;refine hI2 _ y q ⟨_,_,_,aj _ _ lq 1,ac.yes (by simp;omega) ⟨_,_,_,aj _ _ lq 1,ah.mk p hp ⟨by omega,by omega,_,_,⟨c0,hc 1 _ rfl,trivial⟩,?_⟩⟩⟩;intro w3 hw3;refine aX [.int .i64 0,.int .i64 0] [.int .i64 js[i].1,.int .i64 js[i].2] rfl (cz _ _) w3 hw3 ?_;intro w4 h4 hz4 b4;have hBw:=ae hb1 (ae hB b4);have no:cH js[i]=false→Value.bool false=Value.bool (cls.all bc&&js.all cH)∧Below w.heap.size w w4:=by
    intro e;rw [DQ hi e,Bool.and_false];exact⟨rfl,hBw⟩
   refine⟨_,aj _ _ h4 0,ac.mk (fun e=>no ?_) fun e1=>⟨_,aj _ _ h4 0,ac.mk (fun e=>no ?_) fun e2=>⟨_,aj _ _ h4 1,ac.mk (fun e=>no ?_) fun e3=>⟨_,aj _ _ h4 1,ac.mk (fun e=>no ?_) fun e4=>Ar.nat (i+1) rfl (by omega) (ih (y,w4) ⟨DW hi hall2 ?_,ae hB b4⟩)⟩⟩⟩⟩
   ·have e:=QQ e;exact QZ (by omega)
   ·have e:=QQ e;exact QZ (by omega)
   ·have e:=QQ e;exact QZ (by omega)
   ·have e:=QQ e;exact QZ (by omega)
   ·have e1:=QX e1;have e2:=QX e2;have e3:=QX e3;have e4:=QX e4;exact QY (by omega)
  ·rintro⟨y,q⟩ ⟨hall2,hB⟩;change Below w1.heap.size w1 q at hB;rw [List.take_length]at hall2;refine hI2 _ y q ⟨_,_,_,aj _ _ (ag hB l1) 1,ac.no (by simp;omega) ⟨?_,ae hb1 hB⟩⟩;rw [hall,hall2];rfl
def ka (xs:List (Int×Bs)):Value:=match bW [] 0 xs with
 |none=>.tuple #[.int .i64 (xs.length:Int),.int .i64 0]
 |some q=>.tuple #[.int .i64 (q.1:Int),.int .i64 q.2]
theorem lL (w:World) (A:Option Addr) (C:Nat) (xs:List (Int×Bs)) (hr:Rw aM 2 w A xs) (hl:xs.length≤1000000):CP 167 #[.slice A xs.length C] w fun e w'=>e= .returned (ka xs)∧Below w.heap.size w w':=by
 refine aT (yK A xs.length C w (fun u w'=>u=ka xs∧Below w.heap.size w w') ?_) (by rintro v w' ⟨rfl,h⟩;exact⟨rfl,h⟩);intro I hI;have key:=aU (α:=Int×Int×World) xs.length (fun i y=>bW [] 0 xs=bW (xs.take i) i (xs.drop i)∧Below w.heap.size w y.2.2) (fun i y=>I [.int .i64 (i:Int),.int .i64 y.1,.int .i64 y.2.1] y.2.2) (0,0,w) ⟨by simp,Below.refl _ _⟩ ?_ ?_
 ·exact key
 ·rintro i hi ih ⟨y3,y2,q⟩ ⟨heq,hB⟩;change Below w.heap.size w q at hB;obtain⟨p,hp,_,hc⟩:=(hr.on hB) i _ (QW hi);have hlen:(xs.take i).length=i:=by rw [List.length_take];omega
  rw [List.drop_eq_getElem_cons hi,bW]at heq;have out:∀(n:Int) (v:World),n≠0→cG (xs.take i) xs[i]=n→Below w.heap.size w v→Value.tuple #[.int .i64 (i:Int),.int .i64 n]=ka xs∧Below w.heap.size w v:=by
   intro n v hn e hv;refine⟨?_,hv⟩;rw [if_neg (by rw [e];exact hn),e]at heq;rw [ka,heq]
  have one:bo xs[i]=false→cG (xs.take i) xs[i]=1:=fun e=>by rw [cG,if_pos e]
  refine hI _ y3 y2 q (ac.yes (by simp;omega) (ah.mk p hp ⟨by omega,by omega,_,hc 0 _ rfl,ac.mk (fun e=>out 1 q (by decide) (one ?_) hB) fun e1=>(ah.mk p hp ⟨by omega,by omega,_,hc 0 _ rfl,ac.mk (fun e=>out 1 q (by decide) (one ?_) hB) fun e2=>(ah.mk p hp ⟨by omega,by omega,_,hc 1 _ rfl,ac.mk (fun e=>out 1 q (by decide) (one ?_) hB) fun e3=>(ah.mk p hp ⟨by omega,by omega,_,hc 1 _ rfl,ac.mk (fun e=>out 1 q (by decide) (one ?_) hB) fun e4=>?_⟩)⟩)⟩)⟩))
  ·have e:=QQ e;exact QZ (by omega)
  ·have e:=QQ e;exact QZ (by omega)
  ·have e:=QQ e;rw [be]at e;exact QZ (by omega)
  ·have e:=QQ e;rw [be]at e;exact QZ (by omega)
  have hok:¬bo xs[i]=false:=by
   have e1:=QX e1;have e2:=QX e2;have e3:=QX e3;have e4:=QX e4;rw [be]at e3 e4;rw [bo,QY (by omega)];simp
  refine ac.mk (fun e=>out 3 q (by decide) ?_ hB) fun e=>?_
  ·have e:=QQ e;rw [cG,if_neg hok,hlen,if_pos (by omega)]
  have e:=QX e;have h32:¬32≤(xs.take i).length:=by rw [hlen];omega
  intro I7 hI7;have key7:=aU (α:=Int×Int×World) i (fun k y=>(xs[i].1∉(xs.take k).map (·.1)∧xs[i].2∉(xs.take k).map (·.2))∧Below w.heap.size w y.2.2) (fun k y=>I7 [.int .i64 (k:Int),.int .i64 y.1,.int .i64 y.2.1] y.2.2) (y3,y2,q) ⟨by simp,hB⟩ ?_ ?_
  ·exact key7
  ·rintro k hk ih7 ⟨z3,z2,v⟩ ⟨hno,hBv⟩;change Below w.heap.size w v at hBv;refine hI7 _ z3 z2 v (ac.yes (by simp;omega) ?_);intro v3 hv3;have b3:Below v.heap.size v v3:=by subst hv3;exact aI v
   have hB3:Below w.heap.size w v3:=hBv.trans (b3.mono hBv.size);have hkl:k<xs.length:=by omega
   obtain⟨p',hp',_,hc'⟩:=(hr.on hB3) i _ (QW hi);obtain⟨pk,hpk,_,hck⟩:=(hr.on hB3) k _ (QW hkl);have mem:xs[k]∈xs.take i:=List.mem_take_iff_getElem.2 ⟨k,by omega,rfl⟩;refine ah.mk pk hpk ⟨by omega,by omega,_,hck 0 _ rfl,ah.mk p' hp' ⟨by omega,by omega,_,hc' 0 _ rfl,ac.mk (fun h0=>out 10 v3 (by decide) ?_ hB3) fun h0=>ah.mk pk hpk ⟨by omega,by omega,_,hck 1 _ rfl,ah.mk p' hp' ⟨by omega,by omega,_,hc' 1 _ rfl,ac.mk (fun h1=>out 10 v3 (by decide) ?_ hB3) fun h1=>Ar.nat (k+1) rfl (by omega) (ih7 (z3,z2,v3) ⟨?_,hB3⟩)⟩⟩⟩⟩
   ·have h0:xs[k].1=xs[i].1:=by simpa using h0
    rw [cG,if_neg hok,if_neg h32,if_pos (.inl (by rw [←h0];exact List.mem_map_of_mem mem))]
   ·rw [dh,dh]at h1;have h1:xs[k].2=xs[i].2:=by simpa using h1
    rw [cG,if_neg hok,if_neg h32,if_pos (.inr (by rw [←h1];exact List.mem_map_of_mem mem))]
   ·rw [dh,dh]at h1;have h0:¬xs[k].1=xs[i].1:=by simpa using h0
    have h1:¬xs[k].2=xs[i].2:=by simpa using h1
    rw [List.take_add_one,QW hkl];simp only [Option.toList_some,List.map_append,List.map_cons,List.map_nil,List.mem_append,List.mem_singleton,not_or];exact⟨⟨hno.1,fun e=>h0 e.symm⟩,hno.2,fun e=>h1 e.symm⟩
  ·rintro⟨z3,z2,v⟩ ⟨hno,hBv⟩;change Below w.heap.size w v at hBv;have hadd:cG (xs.take i) xs[i]=0:=by rw [cG,if_neg hok,if_neg h32,if_neg (not_or.2 hno)]
   refine hI7 _ z3 z2 v (ac.no (by simp) (Ar.nat (i+1) rfl (by omega) (ih (z3,z2,v) ⟨?_,hBv⟩)));rw [heq,if_pos hadd,List.take_add_one,QW hi];rfl
 ·rintro⟨y3,y2,q⟩ ⟨heq,hB⟩;refine hI _ y3 y2 q (ac.no (by simp) ⟨?_,hB⟩);rw [List.drop_length,bW]at heq;rw [ka,heq]
def sC (xs:List (Int×Bs)):Bool:=xs.any (fun x=>decide (100<x.2.length))||decide (40<xs.length)
theorem sT (w:World) (A:Option Addr) (C:Nat) (xs:List (Int×Bs)) (hr:Rw aM 2 w A xs) (hl:xs.length≤9223372036854775807):CP 110 #[.slice A xs.length C] w fun e w'=>e= .returned (.bool (sC xs))∧w'=w:=by
 refine aT (xM A xs.length C w (fun u w'=>u= .bool (sC xs)∧w'=w) ?_) (by rintro v w' ⟨rfl,h⟩;exact⟨rfl,h⟩);intro I hI;have key:=aU (α:=Bool) xs.length (fun i _=>(xs.take i).any (fun x=>decide (100<x.2.length))=false) (fun i y=>I [.int .i64 (i:Int),.bool y] w) false (by simp) ?_ ?_
 ·exact key
 ·rintro i hi ih y hinv;obtain⟨p,hp,_,hc⟩:=hr i _ (QW hi);refine hI _ y w (ac.yes (by simp;omega) (ah.mk p hp ⟨by omega,by omega,_,hc 1 _ rfl,ac.mk (fun e=>⟨?_,rfl⟩) fun e=>Ar.nat (i+1) rfl (by omega) (ih y ?_)⟩))
  ·have e:=QQ e;rw [be]at e;have:xs.any (fun x=>decide (100<x.2.length))=true:=List.any_eq_true.2 ⟨_,List.getElem_mem hi,QY (by omega)⟩;rw [sC,this];rfl
  ·have e:=QX e;rw [be]at e;rw [List.take_add_one,QW hi,List.any_append,hinv];simp;omega
 ·rintro y hinv;rw [List.take_length]at hinv;refine hI _ y w (ac.no (by simp) ⟨?_,rfl⟩);rw [sC,hinv,Bool.false_or];congr 1;exact decide_eq_decide.2 (by omega)
theorem tE (w:World) (A1:Option Addr) (N1 C1:Nat) (A2:Option Addr) (N2 C2:Nat) (A3:Option Addr) (N3 C3:Nat) (A:Option Addr) (C:Nat) (xs:List (Int×Bs)) (hr:Rw aM 2 w A xs) (hl:xs.length≤9223372036854775807):CP 57 #[.slice A1 N1 C1,.slice A2 N2 C2,.slice A3 N3 C3,.slice A xs.length C] w fun e w'=>e= .returned (.bool (decide (60<N1∨20<N2∨20<N3)||sC xs))∧w'=w:=by
 refine aO (Bb A1 N1 C1 A2 N2 C2 A3 N3 C3 A xs.length C w) ?_;refine ac.mk (fun h1=>⟨?_,rfl⟩) fun h1=>ac.mk (fun h2=>⟨?_,rfl⟩) fun h2=>ac.mk (fun h3=>⟨?_,rfl⟩) fun h3=>?_
 ·have:=QQ h1;rw [QY (by omega)];rfl
 ·have:=QQ h2;rw [QY (by omega)];rfl
 ·have:=QQ h3;rw [QY (by omega)];rfl
 ·have h1:=QX h1;have h2:=QX h2;have h3:=QX h3;refine(sT w A C xs hr hl).mono ?_;rintro e w' ⟨rfl,hw⟩;subst hw;refine⟨_,rfl,?_,rfl⟩;rw [QZ (by omega),Bool.false_or]
theorem bv.more {cut:Int→Int→Bool} {p q:List Int} (hp:p≠ []) (hu:dL cut (p++q)):∀ {a:List (List Int)},bv cut (a++ [p])→bv cut (a++ [p++q])
 | [],_=>⟨by simp [hp],hu⟩
 |z::a,h=>by
  rw [List.cons_append]at h⊢;refine bv.cons h.head.1 h.head.2 (fun w r hw=>?_) (bv.more hp hu h.tail);cases a with
  |nil=>
   cases hw;obtain⟨u,v,hu',hv,hc⟩:=h.2.2.1;exact⟨u,v,hu',by rw [kT _ hp];exact hv,hc⟩
  |cons z' a=>cases hw;exact h.2.2.1
theorem GN {cut:Int→Int→Bool} {Z:List Int} {x y:Int} (hx:Z.getLast?=some x) (hc:cut x y=true):chop cut (Z++ [y])=chop cut Z++ [[y]]:=by
 obtain⟨h1,h2⟩:=d_ (cut:=cut) Z;rcases List.eq_nil_or_concat (chop cut Z)with e |⟨a,p,e⟩
 ·rw [e]at h2;rw [←h2]at hx;cases hx
 ·rw [List.concat_eq_append]at e;rw [e]at h1 h2⊢;have hp:=(chop_all' h1);have hlast:p.getLast?=some x:=by
   rw [←h2,List.flatten_append,List.flatten_cons,List.flatten_nil,List.append_nil,dp _ hp]at hx;exact hx
  have:=fr (cut:=cut) (a++p:: [[y]]) (h1.glue ⟨by simp,trivial⟩ fun q r' hq=>by cases hq;exact⟨x,y,hlast,rfl,hc⟩);rw [show(a++p:: [[y]]).flatten=Z++ [y] by rw [←h2];simp]at this;rw [this];simp
where chop_all' {cut:Int→Int→Bool} {a:List (List Int)} {p:List Int} (h:bv cut (a++ [p])):p≠ []:=(h.append).2.head.1
theorem Ep {cut:Int→Int→Bool} {Z:List Int} {x y:Int} (hx:Z.getLast?=some x) (hc:cut x y=false):∃a p,chop cut Z=a++ [p]∧chop cut (Z++ [y])=a++ [p++ [y]]:=by
 obtain⟨h1,h2⟩:=d_ (cut:=cut) Z;rcases List.eq_nil_or_concat (chop cut Z)with e |⟨a,p,e⟩
 ·rw [e]at h2;rw [←h2]at hx;cases hx
 ·rw [List.concat_eq_append]at e;rw [e]at h1 h2⊢;have hpp:=(h1.append).2.head;have hlast:p.getLast?=some x:=by
   rw [←h2,List.flatten_append,List.flatten_cons,List.flatten_nil,List.append_nil,dp _ hpp.1]at hx;exact hx
  refine⟨a,p,rfl,?_⟩;have hu:dL cut (p++ [y]):=(gS p [y]).2 ⟨hpp.2,trivial,fun u v hu hv=>by rw [hlast]at hu;cases hu;cases hv;exact hc⟩;have:=fr (cut:=cut) (a++ [p++ [y]]) (bv.more hpp.1 hu h1);rwa [show(a++ [p++ [y]]).flatten=Z++ [y] by rw [←h2];simp]at this
theorem dS {w:World} {p:Addr} {v:Value} {k:World→Prop} (h:aE w p k [v] 0):v.oneCell'=true∧(∃u,w.cell? p=some u)∧w.frozen? p=false∧∀w',w'=w.setCell p v→k w':=by
 obtain⟨h1,h2,h3,h4⟩:=h;rw [ax]at h2 h3 h4;exact⟨h1,h2,h3,h4⟩
theorem kf (a:List Bs) (p:Bs):(a++ [p]).map a_=a.map a_++ [a_ p]:=by simp
theorem Ft {a:List Bs} {x:List (List Int)} {p:List Int} (h:a.map a_=x++ [p]):∃b q,a=b++ [q]∧b.map a_=x∧a_ q=p:=by
 rcases List.eq_nil_or_concat a with e |⟨b,q,e⟩
 ·rw [e]at h;simp at h
 ·rw [List.concat_eq_append]at e;subst e;rw [kf]at h;have:=List.append_inj' h rfl;exact⟨b,q,rfl,this.1,by simpa using this.2⟩
theorem rh (w:World) (x:lM) (cls:List (Int×Int×Int)) (js:List (Int×Int)) (h:ph w x cls js) (hl:cls.length≤1000000) (hj:js.length≤1000000) (s:Bs) (hs:s.length≤1000000):
  CP 67 #[x.v,.string (str s)] w fun e w'=>∃(l:Sl) (ps:List Bs),e= .returned l.v∧w'.ownsRow w.heap.size eM 1 l.v l.n (ps.flatMap cQ)∧ps.map a_=chop (cutB cls js) (a_ s)∧Below w.heap.size w w':=by
 refine aO (CU x.b.a x.b.n x.b.c x.m.a x.m.n x.m.c (str s) w) ?_;intro w1 hw1;have hb1:Below w.heap.size w w1:=by subst hw1;exact af _ _
 have l1:w1.heap[w.heap.size]? =some (.cells #[x.b.v,x.m.v] Pp (0,0)):=by subst hw1;exact ak _ _
 intro I hI;let Inv (i:Nat) (y:Sl×World):Prop:=∃ps:List Bs,y.2.ownsRow w1.heap.size eM 1 y.1.v y.1.n (ps.flatMap cQ)∧ps.map a_=chop (cutB cls js) (a_ (s.take i))∧ps.length≤i∧(∀p∈ps,p.length≤i)∧Below w1.heap.size w1 y.2;have key:=aU (α:=Sl×World) s.length Inv (fun i y=>I [.int .i64 (i:Int),y.1.v] y.2) (bO,w1) ⟨[],cr _ _ _ _ cQ,by simp [a_,chop],Q0 _,by simp,Below.refl _ _⟩ ?_ ?_
 ·exact key
 ·rintro i hi ih ⟨l,q⟩ ⟨ps,hown,hps,hpl,hpp,hB⟩;change q.ownsRow w1.heap.size eM 1 l.v l.n _ at hown;change Below w1.heap.size w1 q at hB;have hln:l.n=ps.length:=(LsAt.of_own yu hown).n;have htake:=lr s i hi;refine hI _ l.a l.n l.c q (ac.yes (by rw [be];simp;omega) ?_);intro J hJ w6 hw6;have b6:Below q.heap.size q w6:=by subst hw6;exact aI q
  have join:∀(l':Sl) (v:World) (a:List Bs) (p:Bs),v.ownsRow w1.heap.size eM 1 l'.v l'.n ((a++ [p]).flatMap cQ)→Below w1.heap.size w1 v→a.map a_++ [a_ p++ [((s[i].toNat:Nat):Int)]]=chop (cutB cls js) (a_ (s.take (i+1)))→a.length≤i→p.length≤i→(∀z∈a,z.length≤i)→J [.slice l'.a l'.n l'.c] v:=by
   intro l' v a p hv hBv hch hal hpl hza;refine hJ l'.a l'.n l'.c v ?_;intro w4 hw4;have b4:Below v.heap.size v w4:=by subst hw4;exact aI v
   have hv4:w4.ownsRow w1.heap.size eM 1 l'.v l'.n ((a++ [p]).flatMap cQ):=by subst hw4;exact eQ hv
   have hB4:Below w1.heap.size w1 w4:=hBv.trans (b4.mono hBv.size);have hls:=LsAt.of_own yu hv4;have hn:=hls.n;rw [List.length_append,List.length_singleton]at hn;obtain⟨pa,hpa,c0⟩:=aS hls.r (i:=a.length) (v:=.string (str p)) (by simp) (by simp [cQ]);refine Ar.nat a.length (by omega) (by omega) (Ar.nat a.length (by omega) (by omega) (ah.mk pa hpa ⟨by omega,by omega,str p,c0,Ar.nat (i+1) rfl (by omega) ⟨by omega,by omega,by rw [be];omega,?_,ah.mk pa hpa ⟨by omega,by omega,?_⟩⟩⟩))
   ·show((((str p).size+((str s).extract i (i+1)).size:Nat):Int))≤(9223372036854775807:Int);rw [pV,be,be,List.length_take];omega
   ·have hext:(str p)++(str s).extract (i:Int).toNat ((i+1:Nat):Int).toNat=str (p++ [s[i]]):=by
     show str p++(str s).extract i (i+1)=_;rw [pV,mn,show i+1-i=1 by omega,List.drop_eq_getElem_cons hi];rfl
    rw [hext];refine dS (iR (enc:=cQ) (fun _=>rfl) (by decide) (fun y u hu=>by rw [List.mem_singleton.1 hu];rfl) hv4 hls.n hpa a.length (by simp) (p++ [s[i]]) ?_);intro w5 h5 hs5 hz5 hB5;have hset:(a++ [p]).set a.length (p++ [s[i]])=a++ [p++ [s[i]]]:=by rw [List.set_append_right _ _ (Q0 _),Nat.sub_self];rfl
    rw [hset]at h5;refine Ar.nat (i+1) rfl (by omega) (ih (l',w5) ⟨a++ [p++ [s[i]]],h5,?_,by simp;omega,?_,hB5 _ _ (Q0 _) hB4⟩)
    ·rw [kf, ←hch,kK];rfl
    ·intro z hz;rcases List.mem_append.1 hz with hz |hz
     ·have:=hza z hz;omega
     ·rw [List.mem_singleton.1 hz];simp;omega
  have fresh:∀(v:World) (w7:World),v.ownsRow w1.heap.size eM 1 l.v l.n (ps.flatMap cQ)→Below w1.heap.size w1 v→w7=v.alloc (.cells #[Value.string ⟨#[]⟩] eM)→chop (cutB cls js) (a_ (s.take (i+1)))=chop (cutB cls js) (a_ (s.take i))++ [[((s[i].toNat:Nat):Int)]]→
    ∃A:Option Addr,∃N:Nat,∃C:Nat,∃w8:World,(Builtin.append_ #[jx,jx] jx #[Value.slice l.a l.n l.c,Value.slice (some (nb v)) 1 1]).run Tryz.prog w7= .ok (Value.slice A N C) w8∧J [Value.slice A N C] w8:=by
   intro v w7 hv hBv hw7 hch;obtain⟨l',w8,hl',hrun,hown',hB',_⟩:=yu.push hv ([]:Bs) hw7 rfl hBv.size (by omega) (by decide);exact⟨l'.a,l'.n,l'.c,w8,hrun,join l' w8 ps [] hown' (hB' _ hBv) (by rw [hch, ←hps];rfl) hpl (Nat.zero_le _) hpp⟩
  have hown6:w6.ownsRow w1.heap.size eM 1 l.v l.n (ps.flatMap cQ):=by subst hw6;exact eQ hown
  have hB6:Below w1.heap.size w1 w6:=hB.trans (b6.mono hB.size);refine ac.mk (fun h0=>?_) fun h0=>?_
  ·have h0:i=0:=by
    have:(i:Int)=0:=by simpa using h0
    omega
   intro w7 hw7;refine fresh w6 w7 hown6 hB6 hw7 ?_;subst h0;rw [htake];simp [a_,chop]
  ·have h0:i≠0:=by
    intro e;subst e;simp at h0
   obtain⟨j,rfl⟩:∃j,i=j+1:=⟨i-1,by omega⟩;have hlast:(a_ (s.take (j+1))).getLast?=some ((s[j].toNat:Nat):Int):=by rw [lr s j (by omega),List.getLast?_append];rfl
   have hx:=s[j].toNat_lt;have hy:=s[j+1].toNat_lt;refine⟨_,_,_,_,_,_,fK (ag (hB6) l1),Ar.nat j (by omega) (by omega) ⟨by omega,by rw [be];omega,by omega,by rw [be];omega,?_⟩⟩;rw [eS s j (by omega),eS s (j+1) hi];refine(vl w6 x cls js ((h.on hb1).on hB6) hl hj _ _ (by omega) (by omega)).mono ?_;rintro e w9 ⟨rfl,b9⟩;have hown9:=aB hown6 b9;have hB9:Below w1.heap.size w1 w9:=hB6.trans (b9.mono hB6.size);refine⟨_,rfl,ac.mk (fun hc=>?_) fun hc=>?_⟩
   ·intro w10 hw10;refine fresh w9 w10 hown9 hB9 hw10 ?_;rw [htake,GN hlast hc]
   ·obtain⟨a,p,e1,e2⟩:=Ep hlast hc;rw [e1]at hps;obtain⟨b,r,rfl,e3,e4⟩:=Ft hps;refine join l w9 b r hown9 hB9 ?_ (by simp at hpl;omega) (hpp r (by simp)) (fun z hz=>hpp z (by simp [hz]));rw [htake,e2,e3,e4]
 ·rintro⟨l,q⟩ ⟨ps,hown,hps,hpl,hpp,hB⟩;change q.ownsRow w1.heap.size eM 1 l.v l.n _ at hown;change Below w1.heap.size w1 q at hB;rw [List.take_length]at hps;exact hI _ l.a l.n l.c q (ac.no (by rw [be];simp) ⟨l,ps,rfl,bw hown hb1.size,hps,ae hb1 hB⟩)
structure mR where
 t:lM
 b:lM
 sp:Sl
abbrev mR.cells (x:mR):Array Value:=#[x.t.b.v,x.t.m.v,x.b.b.v,x.b.m.v,x.sp.v]
abbrev mR.v (x:mR):Value:=.agg x.cells
structure fY (w:World) (x:mR) (s:ar) (T:List aP):Prop where
 t:gK w x.t T
 b:ph w x.b s.classes s.joins
 sn:x.sp.n=s.specials.length
 sr:Rw aM 2 w x.sp.a s.specials
 ok:fW T
 right:s.right=true
 ids:∀y∈s.specials,(T.length:Int)≤y.1
 nodup:(s.specials.map (·.1)).Nodup
theorem fY.on {w w':World} {x:mR} {s:ar} {T:List aP} (h:fY w x s T) (hb:Below w.heap.size w w'):fY w' x s T:=⟨h.t.on hb,h.b.on hb,h.sn,h.sr.on hb,h.ok,h.right,h.ids,h.nodup⟩
theorem fY.vok {w:World} {x:mR} {s:ar} {T:List aP} (h:fY w x s T):(az s T).Ok:=by
 have ml:=ct h.ok;refine⟨vC h.ok,h.nodup,fun t ht=>?_⟩;obtain⟨y,hy,rfl⟩:=List.mem_map.1 ht;have:=h.ids y hy;show 256+((ao T).length:Int)≤y.1;omega
theorem fY.few {w:World} {x:mR} {s:ar} {T:List aP} (h:fY w x s T):s.specials.length≤1000000∧s.classes.length≤1000000∧s.joins.length≤1000000:=⟨(ee h.right).2.2.1,(ee h.right).2.2.2.1,(ee h.right).2.2.2.2⟩
abbrev Ds:TypeId:=40
theorem ko {w:World} {b:Nat} {x:mR} {T:TypeId} {fz:Nat×Nat} (h:w.heap[b]? =some (.cells x.cells T fz)):
  w.cell? ⟨b,0,none⟩=some x.t.b.v∧w.cell? ((⟨b,0,none⟩:Addr).add 1)=some x.t.m.v∧w.cell? ((⟨b,0,none⟩:Addr).add 2)=some x.b.b.v∧w.cell? ((⟨b,0,none⟩:Addr).add 3)=some x.b.m.v∧w.cell? ((⟨b,0,none⟩:Addr).add 4)=some x.sp.v∧True:=by
 have hc:∀j,w.cell? ((⟨b,0,none⟩:Addr).add j)=x.cells[j]? :=fun j=>aj _ _ h j;exact⟨by have:=hc 0;rw [ax]at this;exact this,hc 1,hc 2,hc 3,hc 4,trivial⟩
theorem CV {w:World} {b:Nat} {c:Array Value} {T:TypeId} {fz:Nat×Nat} (h:w.heap[b]? =some (.cells c T fz)) (j:Nat) {x y:Value} (hx:c[j]? =some x) (hy:c[j+1]? =some y):w.cell? ((⟨b,0,none⟩:Addr).add j)=some x∧w.cell? (((⟨b,0,none⟩:Addr).add j).add 1)=some y∧True:=by
 refine⟨by rw [aj _ _ h,hx],?_,trivial⟩;rw [Addr.add_add,aj _ _ h,hy]
theorem G9 {α:Type} [BEq α] [LawfulBEq α] {l:List α} {x:α} {i:Nat} (hi:i<l.length) (hx:l[i]=x) (hn:x∉l.take i):l.idxOf? x=some i:=by
 rw [List.idxOf?,List.findIdx?_eq_some_iff_getElem];refine⟨hi,by simp [hx],fun j hj=>?_⟩;simp only [beq_iff_eq];intro e;exact hn (List.mem_take_iff_getElem.2 ⟨j,by omega,e⟩)
def fE (s:ar) (id:Int):Int:=((jc s.specials id).map fun i:Nat=> -1- (i:Int)).getD 0
theorem nG (w:World) (x:mR) (s:ar) (T:List aP) (h:fY w x s T) (id:Int):CP 64 #[x.v,.int .i64 id] w fun e w'=>e= .returned (.int .i64 (fE s id))∧Below w.heap.size w w':=by
 refine aO (Bg x.t.b.a x.t.b.n x.t.b.c x.t.m.a x.t.m.n x.t.m.c x.b.b.a x.b.b.n x.b.b.c x.b.m.a x.b.m.n x.b.m.c x.sp.a x.sp.n x.sp.c id w) ?_;intro w1 hw1;have hb1:Below w.heap.size w w1:=by subst hw1;exact af _ _
 have l1:w1.heap[w.heap.size]? =some (.cells x.cells Ds (0,0)):=by subst hw1;exact ak _ _
 have hn:=h.sn;have hfew:=h.few.1;intro I hI;have key:=aU (α:=Int) s.specials.length (fun i _=>id∉(s.specials.map (·.1)).take i) (fun i y=>I [.int .i64 (i:Int),.int .i64 y] w1) 0 (by simp) ?_ ?_
 ·exact key
 ·rintro i hi ih y hinv;obtain⟨q,hq,_,hc⟩:=(h.sr.on hb1) i _ (QW hi);have hi':i< (s.specials.map (·.1)).length:=by rw [List.length_map];exact hi
  have hget:(s.specials.map (·.1))[i]=s.specials[i].1:=by simp
  refine hI _ y w1 ⟨_,_,_,aj _ _ l1 4,ac.yes (by simp;omega) ⟨_,_,_,aj _ _ l1 4,ah.mk q hq ⟨by omega,by omega,_,hc 0 _ rfl,ac.mk (fun h0=>Ar.ok64 (by omega) (by omega) ⟨?_,hb1⟩) fun h0=>Ar.nat (i+1) rfl (by omega) (ih y ?_)⟩⟩⟩
  ·have h0:s.specials[i].1=id:=by simpa using h0
   have:jc s.specials id=some i:=G9 hi' (by rw [hget,h0]) hinv;rw [fE,this];rfl
  ·have h0:¬s.specials[i].1=id:=by simpa using h0
   rw [List.take_add_one,QW hi',hget];simp only [Option.toList_some,List.mem_append,List.mem_singleton,not_or];exact⟨hinv,fun e=>h0 e.symm⟩
 ·rintro y hinv;refine hI _ y w1 ⟨_,_,_,aj _ _ l1 4,ac.no (by simp;omega) ⟨?_,hb1⟩⟩;rw [List.take_of_length_le (by simp)]at hinv;have:jc s.specials id=none:=List.idxOf?_eq_none_iff.2 hinv;rw [fE,this];rfl
theorem Ak (s:ar) (id:Int):decide (fE s id<0)=decide (id∈s.specials.map (·.1)):=by
 apply decide_eq_decide.2;unfold fE;cases hm:jc s.specials id with
 |none=>
  have:id∉s.specials.map (·.1):=List.idxOf?_eq_none_iff.1 hm;simp only [Option.map_none,Option.getD_none];exact⟨fun e=>by omega,fun e=>absurd e this⟩
 |some i=>
  have:id∈s.specials.map (·.1):=by
   apply Classical.byContradiction;intro e;have e2:jc s.specials id=none:=List.idxOf?_eq_none_iff.2 e;rw [hm]at e2;cases e2
  simp only [Option.map_some,Option.getD_some];exact⟨fun _=>this,fun _=>by omega⟩
theorem oJ (w:World) (x:mR) (s:ar) (T:List aP) (h:fY w x s T) (id:Int):CP 21 #[x.v,.int .i64 id] w fun e w'=>e= .returned (.bool (di s T id))∧Below w.heap.size w w':=by
 refine aT (Cn x.t.b.a x.t.b.n x.t.b.c x.t.m.a x.t.m.n x.t.m.c x.b.b.a x.b.b.n x.b.b.c x.b.m.a x.b.m.n x.b.m.c x.sp.a x.sp.n x.sp.c id w (fun u w'=>u= .bool (di s T id)∧Below w.heap.size w w') ?_) (by rintro v w' ⟨rfl,h⟩;exact⟨rfl,h⟩);intro w1 hw1;have hb1:Below w.heap.size w w1:=by subst hw1;exact af _ _
 have l1:w1.heap[w.heap.size]? =some (.cells x.cells Ds (0,0)):=by subst hw1;exact ak _ _
 refine⟨_,_,_,_,_,_,CV l1 0 rfl rfl,?_⟩;refine(kX w1 x.t T (h.t.on hb1) id).mono ?_;rintro e w2 ⟨rfl,b2⟩;have hb2:=ae hb1 b2;refine⟨_,rfl,ac.mk (fun h0=>⟨?_,hb2⟩) fun h0=>?_⟩
 ·have h0:=QQ h0;rw [di,QY (.inr h0)]
 ·have h0:=QX h0;refine⟨_,_,_,_,_,_,_,_,_,_,_,_,_,_,_,ko (ag b2 l1),?_⟩;refine(nG w2 x s T (h.on hb2) id).mono ?_;rintro e w3 ⟨rfl,b3⟩;refine⟨_,rfl,?_,ae hb2 b3⟩;rw [Ak,di];congr 1;exact decide_eq_decide.2 ⟨.inl,fun e=>e.resolve_right h0⟩
theorem yQ (w:World) (x:mR) (s:ar) (T:List aP) (h:fY w x s T) (A:Option Addr) (C:Nat) (ids:List Int) (hr:Rw aC 1 w A ids) (hl:ids.length≤1000000000000):CP 17 #[x.v,.slice A ids.length C] w fun e w'=>e= .returned (.int .i64 (rK s T ids))∧Below w.heap.size w w':=by
 refine aO (BY x.t.b.a x.t.b.n x.t.b.c x.t.m.a x.t.m.n x.t.m.c x.b.b.a x.b.b.n x.b.b.c x.b.m.a x.b.m.n x.b.m.c x.sp.a x.sp.n x.sp.c A ids.length C w) ?_;intro w1 hw1;have hb1:Below w.heap.size w w1:=by subst hw1;exact af _ _
 have l1:w1.heap[w.heap.size]? =some (.cells x.cells Ds (0,0)):=by subst hw1;exact ak _ _
 intro I hI;have key:=aU (α:=Int×World) ids.length (fun i y=>(∀j (hj:j<ids.length),j<i→(!di s T ids[j])=false)∧Below w1.heap.size w1 y.2) (fun i y=>I [.int .i64 (i:Int),.int .i64 y.1] y.2) (0,w1) ⟨fun j _ hj=>absurd hj (Nat.not_lt_zero j),Below.refl _ _⟩ ?_ ?_
 ·exact key
 ·rintro i hi ih ⟨y,q⟩ ⟨hinv,hB⟩;change Below w1.heap.size w1 q at hB;refine hI _ y q (ac.yes (by simp;omega) ?_);intro w3 hw3;have b3:Below q.heap.size q w3:=by subst hw3;exact aI q
  have hB3:=ae hB b3;have hw:=ae hb1 hB3;obtain⟨p,hp,c0⟩:=aS (hr.on hw) hi rfl;refine⟨_,_,_,_,_,_,_,_,_,_,_,_,_,_,_,ko (ag hB3 l1),ah.mk p hp ⟨by omega,by omega,_,c0,?_⟩⟩;refine(oJ w3 x s T (h.on hw) ids[i]).mono ?_;rintro e w4 ⟨rfl,b4⟩;refine⟨_,rfl,ac.mk (fun h0=>⟨?_,ae hw b4⟩) fun h0=>Ar.nat (i+1) rfl (by omega) (ih (y,w4) ⟨fun j hj hji=>?_,ae hB3 b4⟩)⟩
  ·rw [rK,ip (p:=fun id=> !di s T id) hi h0 fun j hj=>hinv j (by omega) hj]
  ·by_cases e:j=i
   ·subst e;exact h0
   ·exact hinv j hj (by omega)
 ·rintro⟨y,q⟩ ⟨hinv,hB⟩;refine hI _ y q (ac.no (by simp) ⟨?_,ae hb1 hB⟩);rw [rK,gB (p:=fun id=> !di s T id) fun j hj=>hinv j hj hj]
theorem Fb {s:ar} {T:List aP} (hok:fW T) (t:Int):((az s T).items t).length≤64:=by
 unfold Voc.items;cases(az s T).place t with
 |some i=>exact Nat.le_of_ble_eq_true rfl
 |none=>
  show(a_ (bg T t)).length≤64;have:(a_ (bg T t)).length=(bg T t).length:=by simp [a_]
  rw [this,bg];cases he:T[t.toNat]? with
  |none=>exact Nat.zero_le _
  |some e=>exact hok.short e (List.mem_of_getElem? he)
theorem jZ {s:ar} {T:List aP} (hok:fW T):∀ids:List Int,((az s T).itemsAll ids).length≤64*ids.length
 | []=>Q0 _
 |t::ids=>by
  have h1:=Fb (s:=s) hok t;have h2:=jZ (s:=s) hok ids;unfold Voc.itemsAll at h2⊢;rw [List.flatMap_cons,List.length_append,List.length_cons];omega
theorem tI (w:World) (x:mR) (s:ar) (T:List aP) (h:fY w x s T) (A:Option Addr) (C:Nat) (ids:List Int) (hr:Rw aC 1 w A ids) (hl:ids.length≤1000000) (hh:∀t∈ids,(az s T).Has t):CP 30 #[x.v,.slice A ids.length C] w fun e w'=>∃l:Sl,e= .returned l.v∧LsAt aC 1 w' l ((az s T).itemsAll ids)∧Below w.heap.size w w':=by
 refine aO (Cl x.t.b.a x.t.b.n x.t.b.c x.t.m.a x.t.m.n x.t.m.c x.b.b.a x.b.b.n x.b.b.c x.b.m.a x.b.m.n x.b.m.c x.sp.a x.sp.n x.sp.c A ids.length C w) ?_;intro w1 hw1;have hb1:Below w.heap.size w w1:=by subst hw1;exact af _ _
 have l1:w1.heap[w.heap.size]? =some (.cells x.cells Ds (0,0)):=by subst hw1;exact ak _ _
 intro I hI;have key:=aU (α:=Sl×World) ids.length (fun i y=>y.2.ownsRow w1.heap.size aV 1 y.1.v y.1.n (((az s T).itemsAll (ids.take i)).flatMap aC)∧Below w1.heap.size w1 y.2) (fun i y=>I [.int .i64 (i:Int),y.1.v] y.2) (bO,w1) ⟨cr _ _ _ _ aC,Below.refl _ _⟩ ?_ ?_
 ·exact key
 ·rintro i hi ih ⟨out,q⟩ ⟨hown,hB⟩;change q.ownsRow w1.heap.size aV 1 out.v out.n _ at hown;change Below w1.heap.size w1 q at hB;have hon:=(LsAt.of_own cW hown).n;have hlen:=jZ (s:=s) h.ok (ids.take i);rw [List.length_take,Nat.min_eq_left (by omega)]at hlen;have hsnoc:(az s T).itemsAll (ids.take (i+1))=(az s T).itemsAll (ids.take i)++(az s T).items ids[i]:=by
   rw [List.take_add_one,QW hi,Voc.itemsAll_append];simp [Voc.itemsAll]
  rw [hsnoc]at ih;generalize(az s T).itemsAll (ids.take i)=o at hown hon hlen ih;refine hI _ out.a out.n out.c q (ac.yes (by simp;omega) ?_);intro J hJ w4 hw4;have hJ':∀(l:Sl) (v:World),v.ownsRow w1.heap.size aV 1 l.v l.n ((o++(az s T).items ids[i]).flatMap aC)→Below w1.heap.size w1 v→J [.slice l.a l.n l.c] v:=fun l v h1 h2=>hJ l.a l.n l.c v (Ar.nat (i+1) rfl (by omega) (ih (l,v) ⟨h1,h2⟩));have b4:Below q.heap.size q w4:=by subst hw4;exact aI q
  have hB4:=ae hB b4;have hown4:w4.ownsRow w1.heap.size aV 1 out.v out.n (o.flatMap aC):=by subst hw4;exact eQ hown
  have hw:=ae hb1 hB4;obtain⟨p,hp,c0⟩:=aS (hr.on hw) hi rfl;refine⟨_,_,_,_,_,_,_,_,_,_,_,_,_,_,_,ko (ag hB4 l1),ah.mk p hp ⟨by omega,by omega,_,c0,?_⟩⟩;refine(nG w4 x s T (h.on hw) ids[i]).mono ?_;rintro e w5 ⟨rfl,b5⟩;have hB5:=ae hB4 b5;have hown5:=aB hown4 b5;have hw5:=ae hb1 hB5;refine⟨_,rfl,?_⟩;cases hm:jc s.specials ids[i]with
  |some k=>
   have hv:fE s ids[i]= -1- (k:Int):=by rw [fE,hm];rfl
   have hit:(az s T).items ids[i]= [-1- (k:Int)]:=by
    unfold Voc.items Voc.place;rw [show(az s T).sp.idxOf? ids[i]=some k from hm]
   rw [hv];refine ac.yes (QY (by omega)) ?_;intro w6 hw6;obtain⟨l',w7,hl',hrun,hown',hB',_⟩:=cW.push hown5 (-1- (k:Int)) hw6 rfl hB5.size (by omega) (by decide);exact⟨l'.a,l'.n,l'.c,w7,hrun,hJ' l' w7 (by rw [hit];exact hown') (hB' _ hB5)⟩
  |none=>
   have hv:fE s ids[i]=0:=by rw [fE,hm];rfl
   have hit:(az s T).items ids[i]=a_ (bg T ids[i]):=by
    unfold Voc.items Voc.place;rw [show(az s T).sp.idxOf? ids[i]=none from hm];rfl
   have hin:bA T ids[i]:=by
    rcases hh _ (List.getElem_mem hi)with ht |ht
    ·exact(gY h.ok _).2 ht
    ·exact absurd ht (List.idxOf?_eq_none_iff.1 hm)
   rw [hv];refine ac.no rfl ?_;intro w8 hw8;have b8:Below w5.heap.size w5 w8:=by subst hw8;exact aI w5
   have hB8:=ae hB5 b8;have hw8':=ae hb1 hB8;have hown8:w8.ownsRow w1.heap.size aV 1 out.v out.n (o.flatMap aC):=by subst hw8;exact eQ hown5
   obtain⟨p',hp',c0'⟩:=aS (hr.on hw8') hi rfl;obtain⟨ent,he,hbe⟩:=eB hin;have hin1:=hin.1;have hin2:=hin.2;have ht1:=h.t.n1;obtain⟨pb,hpb,_,hcb⟩:=((h.on hw8').t.r1) ids[i].toNat ent.1 (by rw [List.getElem?_map,he];rfl);have cb:=hcb 0 _ rfl;rw [ax]at cb;have hshort:=h.ok.short ent (List.mem_of_getElem? he);rw [hit,hbe]at hJ';refine⟨x.t.b.a,x.t.b.n,x.t.b.c,by rw [Addr.add_add];exact aj _ _ (ag hB8 l1) 0,ah.mk p' hp' ⟨by omega,by omega,_,c0',ah.mk pb hpb ⟨by omega,by omega,_,cb,?_⟩⟩⟩;intro I2 hI2;have key2:=aU (α:=Sl×World) ent.1.length (fun k y=>y.2.ownsRow w1.heap.size aV 1 y.1.v y.1.n ((o++a_ (ent.1.take k)).flatMap aC)∧Below w1.heap.size w1 y.2) (fun k y=>I2 [.int .i64 (k:Int),y.1.v] y.2) (out,w8) ⟨by simpa [a_]using hown8,hB8⟩ ?_ ?_
   ·exact key2
   ·rintro k hk ih2 ⟨l,v⟩ ⟨hv,hBv⟩;change v.ownsRow w1.heap.size aV 1 l.v l.n _ at hv;change Below w1.heap.size w1 v at hBv;have hln:=(LsAt.of_own cW hv).n;rw [List.length_append]at hln;have:(a_ (ent.1.take k)).length≤64:=by simp [a_];omega
    refine hI2 _ l.a l.n l.c v (ac.yes (by rw [be];simp;omega) ⟨by omega,by rw [be];omega,?_⟩);intro w10 hw10;rw [eS _ k hk,uJ]at hw10;obtain⟨l',w11,hl',hrun,hown',hB',_⟩:=cW.push hv ((ent.1[k].toNat:Nat):Int) hw10 rfl hBv.size (by omega) (by decide);refine⟨l'.a,l'.n,l'.c,w11,hrun,Ar.nat (k+1) rfl (by omega) (ih2 (l',w11) ⟨?_,hB' _ hBv⟩)⟩;rw [lr _ k hk, ←List.append_assoc];exact hown'
   ·rintro⟨l,v⟩ ⟨hv,hBv⟩;change v.ownsRow w1.heap.size aV 1 l.v l.n _ at hv;change Below w1.heap.size w1 v at hBv;rw [List.take_length]at hv;exact hI2 _ l.a l.n l.c v (ac.no (by rw [be];simp) (hJ' l v hv hBv))
 ·rintro⟨out,q⟩ ⟨hown,hB⟩;rw [List.take_length]at hown;exact hI _ out.a out.n out.c q (ac.no (by simp) ⟨out,rfl,LsAt.of_own cW hown,ae hb1 hB⟩)
def fU (b:UInt8):List Value:=[.int .u8 ((b.toNat:Nat):Int)]
theorem sy (l:List UInt8):l.flatMap fU=Lib.byteCells l:=by
 induction l with
 |nil=>rfl
 |cons b l ih=>rw [List.flatMap_cons,ih];rfl
theorem BZ:xI fU 1 lf qF 1:=⟨fun _=>rfl,by decide,fun x u hu=>by rw [List.mem_singleton.1 hu];rfl,nO,_,LE,rfl⟩
theorem sv {w:World} {B:Nat} {e:TypeId} {sz:Nat} {k:Nat} (h:w.heap[k]? =some (.cells #[] e (0,0))) (hB:B≤k):w.ownsRow B e sz (.slice (some ⟨k,0,none⟩) 0 0) 0 []:=
 ⟨by simp,.inr ⟨k,0,#[],rfl,hB,h,Q0 _,by simp⟩⟩
theorem Dm {cut:Int→Int→Bool} {A B:List Int} (h:A= []∨B= []∨∃x y,A.getLast?=some x∧B.head?=some y∧cut x y=true):chop cut (A++B)=chop cut A++chop cut B:=by
 rcases h with rfl |rfl |⟨x,y,hx,hy,hc⟩
 ·rfl
 ·simp [chop]
 ·obtain⟨a1,a2⟩:=d_ (cut:=cut) A;obtain⟨b1,b2⟩:=d_ (cut:=cut) B;rcases List.eq_nil_or_concat (chop cut A)with e |⟨a,p,e⟩
  ·rw [e]at a2;rw [←a2]at hx;cases hx
  ·rw [List.concat_eq_append]at e;rw [e]at a1 a2⊢;have hp:=(a1.append).2.head.1;have hlast:p.getLast?=some x:=by
    rw [←a2,List.flatten_append,List.flatten_cons,List.flatten_nil,List.append_nil,dp _ hp]at hx;exact hx
   have:=fr (cut:=cut) (a++p::chop cut B) (a1.glue b1 fun q r hq=>by
    rw [hq]at b1 b2;have hqn:=b1.head.1;rw [←b2,List.flatten_cons,kT _ hqn]at hy;exact⟨x,y,hlast,hy,hc⟩)
   rw [show(a++p::chop cut B).flatten=A++B by rw [←a2];conv=>rhs;rw [←b2]
                                              simp]at this
   rw [this];simp
theorem rm {c c':Int→Int→Bool}:∀l:List Int,(∀x∈l,∀y∈l,c x y=c' x y)→chop c l=chop c' l
 | [],_=>rfl
 | [x],_=>rfl
 |x::y::r,h=>by
  have ih:=rm (c:=c) (c':=c') (y::r) fun a ha b hb=>h a (by simp [ha]) b (by simp [hb]);simp only [chop];rw [h x (by simp) y (by simp),ih]
theorem Voc.encode_split (V:Voc) {A B:List Int} (h:A= []∨B= []∨∃x y,A.getLast?=some x∧B.head?=some y∧V.cut x y=true):V.encode (A++B)=V.encode A++V.encode B:=by
 unfold Voc.encode;rw [Dm h,List.flatMap_append]
def Gr (P:List Int):Prop:=P= []∨∃x,P.getLast?=some x∧x<0
theorem Voc.encode_after (V:Voc) {P R:List Int} (h:Gr P):V.encode (P++R)=V.encode P++V.encode R:=by
 refine V.encode_split ?_;rcases h with h |⟨x,hx,h0⟩
 ·exact .inl h
 ·cases R with
  |nil=>exact .inr (.inl rfl)
  |cons y R=>exact .inr (.inr ⟨x,y,hx,rfl,by simp [Voc.cut,h0]⟩)
theorem Voc.encode_mark (V:Voc) {P:List Int} {x:Int} (hx:x<0):V.encode (P++ [x])=V.encode P++ [V.sp.getD (-1-x).toNat 0]:=by
 rw [V.encode_split (A:=P) (B:=[x])]
 ·congr 1;unfold Voc.encode;simp [chop,Voc.encP,hx]
 ·rcases List.eq_nil_or_concat P with e |⟨a,b,e⟩
  ·exact .inl e
  ·exact .inr (.inr ⟨b,x,by rw [e];simp,rfl,by simp [Voc.cut,hx]⟩)
theorem Voc.encode_bytes (V:Voc) {b:Bs} {ps:List Bs} (h:ps.map a_=chop V.cutB (a_ b)):V.encode (a_ b)=ps.flatMap fun p=>after V.ms V.ms.length (a_ p):=by
 unfold Voc.encode;rw [rm (c:=V.cut) (c':=V.cutB) _ fun x hx y hy=>ny V (jq _ x hx).1 (jq _ y hy).1];obtain⟨h1,h2⟩:=d_ (cut:=V.cutB) (a_ b);have hne:∀p∈ps,a_ p≠ []:=by
  intro p hp;have hm:a_ p∈chop V.cutB (a_ b):=by rw [←h];exact List.mem_map_of_mem hp
  clear h h2 hp;revert hm;generalize chop V.cutB (a_ b)=c at h1;induction c with
  |nil=>intro hm;cases hm
  |cons q c ih=>
   intro hm;rcases List.mem_cons.1 hm with e |hm
   ·rw [e];exact h1.head.1
   ·exact ih h1.tail hm
 rw [←h];clear h h1 h2;induction ps with
 |nil=>rfl
 |cons p ps ih=>
  rw [List.map_cons,List.flatMap_cons,List.flatMap_cons,ih fun q hq=>hne q (by simp [hq])];congr 1;have:=hne p (by simp);cases hp:a_ p with
  |nil=>exact absurd hp this
  |cons x r=>
   have hx:=(jq p x (by rw [hp];simp)).1;unfold Voc.encP;dsimp only;rw [if_neg (by omega)]
theorem qp {cut:Int→Int→Bool}:∀l:List Int,(chop cut l).length≤l.length
 | []=>Q0 _
 | [x]=>Q0 _
 |x::y::r=>by
  have ih:=qp (cut:=cut) (y::r);simp only [chop];split
  ·simp only [List.length_cons]at ih⊢;omega
  ·cases hc:chop cut (y::r)with
   |nil=>simp
   |cons p ps=>
    rw [hc]at ih;simp only [List.length_cons]at ih⊢;omega
theorem rV {α:Type} {f:List Int→List α} (hf:∀p,(f p).length≤p.length):∀l:List (List Int),(l.flatMap f).length≤l.flatten.length
 | []=>Q0 _
 |p::l=>by
  have:=hf p;have:=rV hf l;rw [List.flatMap_cons,List.flatten_cons,List.length_append,List.length_append];omega
theorem qI {w:World} {B:Nat} {e:TypeId} {sz:Nat} {l:Sl} {xs:List Value} (h:w.ownsRow B e sz l.v l.n xs):l.n≤l.c:=by
 obtain⟨a,c,e,hc⟩:=jt h;have e:Value.slice l.a l.n l.c= .slice a l.n c:=e;simp only [Value.slice.injEq]at e;omega
theorem oM (w:World) (x:mR) (s:ar) (T:List aP) (h:fY w x s T) (A:Option Addr) (C:Nat) (Z:List Int) (hr:Rw aC 1 w A Z) (hl:Z.length≤1000000) (hZ:(az s T).Items Z):CP 26 #[x.v,.slice A Z.length C] w fun e w'=>∃l:Sl,e= .returned l.v∧LsAt aC 1 w' l ((az s T).encode Z)∧Below w.heap.size w w'∧(∀p,l.a=some p→w.heap.size≤p.block)∧l.n≤l.c:=by
 refine aO (B8 x.t.b.a x.t.b.n x.t.b.c x.t.m.a x.t.m.n x.t.m.c x.b.b.a x.b.b.n x.b.b.c x.b.m.a x.b.m.n x.b.m.c x.sp.a x.sp.n x.sp.c A Z.length C w) ?_;intro w1 hw1 w2 hw2;have hb1:Below w.heap.size w w1:=by subst hw1;exact af _ _
 have b2:Below w1.heap.size w1 w2:=by subst hw2;exact af _ _
 have l1:w1.heap[w.heap.size]? =some (.cells x.cells Ds (0,0)):=by subst hw1;exact ak _ _
 have l2:w2.heap[w1.heap.size]? =some (.cells #[] qF (0,0)):=by subst hw2;exact ak _ _
 have hfew:=h.few;have hvok:=h.vok;have hsn:=h.sn;intro I hI;let V:=az s T;let Mid (i:Nat) (y:Sl×Sl×World):Prop:=∃(P:List Int) (r:Bs),Z.take i=P++a_ r∧Gr P∧y.2.2.ownsRow w1.heap.size aV 1 y.2.1.v y.2.1.n ((V.encode P).flatMap aC)∧y.2.1.n≤P.length∧y.2.2.ownsRow w1.heap.size qF 1 y.1.v y.1.n (r.flatMap fU)∧Below w1.heap.size w1 y.2.2;let End (y:Sl×Sl×World):Prop:=y.2.2.ownsRow w1.heap.size aV 1 y.2.1.v y.2.1.n ((V.encode Z).flatMap aC)∧Below w1.heap.size w1 y.2.2;let Inv (i:Nat) (y:Sl×Sl×World):Prop:=(i≤Z.length∧Mid i y)∨(i=Z.length+1∧End y);have key:=aU (α:=Sl×Sl×World) (Z.length+1) Inv (fun i y=>I [.int .i64 (i:Int),y.1.v,y.2.1.v] y.2.2) (⟨some (nb w1),0,0⟩,bO,w2) (.inl ⟨Nat.zero_le _,[],[],rfl,.inl rfl,cr _ _ _ _ aC,Q0 _,sv l2 (Q0 _),b2⟩) ?_ ?_
 ·exact key
 ·rintro i hi ih ⟨run,out,q⟩ hinv;obtain⟨P,r,hP,hPm,hout,hon,hrun,hB⟩:Mid i (run,out,q):=by
   rcases hinv with⟨_,h⟩ |⟨e,_⟩
   ·exact h
   ·omega
  change q.ownsRow w1.heap.size aV 1 out.v out.n _ at hout;change out.n≤P.length at hon;change q.ownsRow w1.heap.size qF 1 run.v run.n _ at hrun;change Below w1.heap.size w1 q at hB;have hrn:=(LsAt.of_own BZ hrun).n;have hPr:P.length+r.length=i:=by
   have:=congrArg List.length hP;rw [List.length_take,List.length_append,Nat.min_eq_left (by omega)]at this;simpa [a_]using this.symm
  have hw:=ae hb1 hB;refine hI _ run.a run.n run.c out.a out.n out.c q (ac.yes (by simp;omega) ?_);intro J hJ;have hJ':∀(r' o':Sl) (v:World),Inv (i+1) (r',o',v)→J [.slice r'.a r'.n r'.c,.slice o'.a o'.n o'.c] v:=fun r' o' v hv=>hJ r'.a r'.n r'.c o'.a o'.n o'.c v (Ar.nat (i+1) rfl (by omega) (ih (r',o',v) hv));have flushed:(i<Z.length→∃z,Z[i]? =some z∧z<0)→
    ∃g0A:Option Addr,∃g0N:Nat,∃g0C:Nat,∃g1A:Option Addr,∃g1N:Nat,∃g1C:Nat,(q.cell? ((nb w).add 2)=some (Value.slice g0A g0N g0C)∧q.cell? (((nb w).add 2).add 1)=some (Value.slice g1A g1N g1C)∧True)∧
    ∃s_1:ByteArray,∃w7:World,(convert lf eM (Value.slice run.a run.n run.c)).run Tryz.prog q= .ok (Value.string s_1) w7∧
    CP 67 #[Value.agg #[Value.slice g0A g0N g0C,Value.slice g1A g1N g1C],Value.string s_1] w7 (fun e8 w8=>
    ∃lA:Option Addr,∃lN:Nat,∃lC:Nat,e8= .returned (Value.slice lA lN lC)∧
    ∀I15:List Value→World→Prop,(∀k:Int,∀oA:Option Addr,∀oN:Nat,∀oC:Nat,∀w9:World,(ac (decide ((k:Int) < ((lN:Nat):Int)))
     (∀w10:World,w10=w9.drew→
      ∃h0A:Option Addr,∃h0N:Nat,∃h0C:Nat,∃h1A:Option Addr,∃h1N:Nat,∃h1C:Nat,(w10.cell? ((nb w).add 0)=some (Value.slice h0A h0N h0C)∧w10.cell? (((nb w).add 0).add 1)=some (Value.slice h1A h1N h1C)∧True)∧
      ah lA (fun pa=>(0:Int)≤k∧k< ((lN:Nat):Int)∧
      ∃s_2:ByteArray,w10.cell? (pa.add ((k:Int).toNat*1))=some (Value.string s_2)∧
      CP 68 #[Value.agg #[Value.slice h0A h0N h0C,Value.slice h1A h1N h1C],Value.string s_2] w10 (fun e11 w11=>
      ∃mA:Option Addr,∃mN:Nat,∃mC:Nat,e11= .returned (Value.slice mA mN mC)∧
      ∃nA:Option Addr,∃nN:Nat,∃nC:Nat,∃w12:World,(Builtin.append_ #[cJ,cJ] cJ #[Value.slice oA oN oC,Value.slice mA mN mC]).run Tryz.prog w11= .ok (Value.slice nA nN nC) w12∧
      Ar .i64 ((k:Int)+1) (fun n=>I15 [Value.int .i64 n,Value.slice nA nN nC] w12))))
     (∀w13:World,w13=w9.alloc (.cells #[] qF)→
      ac (decide ((i:Int) < ((Z.length:Nat):Int)))
       (∀w14:World,w14=w13.drew→
        ∃lA:Option Addr,∃lN:Nat,∃lC:Nat,w14.cell? ((nb w).add 4)=some (Value.slice lA lN lC)∧
        ah A (fun pa=>(0:Int)≤(i:Int)∧(i:Int) < ((Z.length:Nat):Int)∧
        ∃n_38:Int,w14.cell? (pa.add ((i:Int).toNat*1))=some (Value.int .i64 n_38)∧
        Ar .i64 ((-1:Int)-n_38) (fun n_39=>
        ah lA (fun pb=>(0:Int)≤n_39∧n_39< ((lN:Nat):Int)∧
        ∃n_41:Int,w14.cell? ((pb.add ((n_39:Int).toNat*2)).add 0)=some (Value.int .i64 n_41)∧
        ∀w15:World,w15=w14.alloc (.cells #[Value.int .i64 n_41] aV)→
        ∃nA:Option Addr,∃nN:Nat,∃nC:Nat,∃w16:World,(Builtin.append_ #[cJ,cJ] cJ #[Value.slice oA oN oC,Value.slice (some (nb w14)) 1 1]).run Tryz.prog w15= .ok (Value.slice nA nN nC) w16∧
        J [Value.slice (some (nb w9)) 0 0,Value.slice nA nN nC] w16))))
       (J [Value.slice (some (nb w9)) 0 0,Value.slice oA oN oC] w13)))→I15 [Value.int .i64 k,Value.slice oA oN oC] w9)→
    I15 [Value.int .i64 0,Value.slice out.a out.n out.c] w8):=by
   intro hcase;refine⟨_,_,_,_,_,_,CV (ag hB l1) 2 rfl rfl,str r,q,iN (P:=Tryz.prog) nO Hc uX (by rw [←sy];exact hrun),?_⟩;refine(rh q x.b s.classes s.joins (h.on hw).b hfew.2.1 hfew.2.2 r (by omega)).mono ?_;rintro e w8 ⟨l,ps,rfl,hlo,hps,b8⟩;have hB8:=ae hB b8;have henc:V.encode (P++a_ r)=V.encode P++ps.flatMap fun p=>after V.ms V.ms.length (a_ p):=by rw [V.encode_after hPm,V.encode_bytes hps]
   have hall:=(d_ (cut:=cutB s.classes s.joins) (a_ r)).2;rw [←hps]at hall;have hplen:∀p∈ps,p.length≤r.length:=by
    intro p hp;have h1:=congrArg List.length hall;obtain⟨a,b,e⟩:=List.append_of_mem hp;rw [e]at h1;simp [a_]at h1;omega
   have hflat:∀k,((ps.take k).flatMap fun p=>after V.ms V.ms.length (a_ p)).length≤r.length:=by
    intro k;have h1:=congrArg List.length hall;have h2:=rV (f:=after V.ms V.ms.length) (fun p=>jw V.ms p _ (Q0 _)) ((ps.take k).map a_);have h3:((ps.take k).map a_).flatten.length≤((ps.map a_).flatten).length:=by
     conv=>rhs;rw [←List.take_append_drop k ps]
     rw [List.map_append,List.flatten_append,List.length_append];omega
    rw [List.flatMap_map]at h2;have h4:(a_ r).length=r.length:=by simp [a_]
    exact QU h2 (by omega)
   have hln:=(LsAt.of_own yu hlo).n;have hpsl:ps.length≤r.length:=by
    have:=qp (cut:=cutB s.classes s.joins) (a_ r);rw [←hps]at this;simpa [a_]using this
   refine⟨l.a,l.n,l.c,rfl,?_⟩;intro I15 hI15;have key2:=aU (α:=Sl×World) ps.length (fun k y=>y.2.ownsRow w1.heap.size aV 1 y.1.v y.1.n ((V.encode P++(ps.take k).flatMap fun p=>after V.ms V.ms.length (a_ p)).flatMap aC)∧y.2.ownsRow w1.heap.size eM 1 l.v l.n (ps.flatMap cQ)∧Below w1.heap.size w1 y.2) (fun k y=>I15 [.int .i64 (k:Int),y.1.v] y.2) (out,w8) ⟨by simpa using aB hout b8,bw hlo hB.size,hB8⟩ ?_ ?_
   ·exact key2
   ·rintro k hk ih2 ⟨o,v⟩ ⟨ho,hlv,hBv⟩;change v.ownsRow w1.heap.size aV 1 o.v o.n _ at ho;change v.ownsRow w1.heap.size eM 1 l.v l.n _ at hlv;change Below w1.heap.size w1 v at hBv;have hon':=(LsAt.of_own cW ho).n;have hk2:=hflat k;have hk3:=(LsAt.of_own cW hout).n;rw [List.length_append]at hon';refine hI15 _ o.a o.n o.c v (ac.yes (by simp;omega) ?_);intro w10 hw10;have b10:Below v.heap.size v w10:=by subst hw10;exact aI v
    have hB10:=ae hBv b10;have hlv10:=aB hlv b10;obtain⟨p,hp,c0⟩:=aS ((LsAt.of_own yu hlv10).r) hk rfl;refine⟨_,_,_,_,_,_,CV (ag hB10 l1) 0 rfl rfl,ah.mk p hp ⟨by omega,by omega,_,c0,?_⟩⟩;have hpk:=hplen _ (List.getElem_mem hk);refine(zZ w10 x.t T (h.on (ae hb1 hB10)).t h.ok ps[k] (by omega)).mono ?_;rintro e w11 ⟨m,rfl,hm,b11⟩;have hB11:=ae hB10 b11;have hmn:=hm.n;have hal:=jw (ao T) (a_ ps[k]) _ (Q0 _);have:(a_ ps[k]).length=ps[k].length:=by simp [a_]
    obtain⟨n',w12,hn',hrun',hown',hB',hkeep,_⟩:=cW.spread (aB (aB ho b10) b11) hm hB11.size (by omega) (by omega) (by decide);have hl11:=aB hlv10 b11;refine⟨m.a,m.n,m.c,rfl,n'.a,n'.n,n'.c,w12,hrun',Ar.nat (k+1) rfl (by omega) (ih2 (n',w12) ⟨?_,aR hl11 fun j hj=>hkeep j (cm hl11 j hj).2 (bR hl11 (aB (aB ho b10) b11) (by decide) j hj),hB' _ hB11⟩)⟩;have e:(V.encode P++(ps.take (k+1)).flatMap fun p=>after V.ms V.ms.length (a_ p))=(V.encode P++(ps.take k).flatMap fun p=>after V.ms V.ms.length (a_ p))++after V.ms V.ms.length (a_ ps[k]):=by
     rw [List.take_add_one,QW hk];simp only [List.flatMap_append,Option.toList_some,List.flatMap_cons,List.flatMap_nil,List.append_nil,List.append_assoc]
    show w12.ownsRow w1.heap.size aV 1 n'.v n'.n _;rw [e];exact hown'
   ·rintro⟨o,v⟩ ⟨ho,hlv,hBv⟩;change v.ownsRow w1.heap.size aV 1 o.v o.n _ at ho;change Below w1.heap.size w1 v at hBv;rw [List.take_length, ←henc]at ho;have hon':=(LsAt.of_own cW ho).n;have honP:o.n≤i:=by
     have h1:=hflat ps.length;have h2:=(LsAt.of_own cW hout).n;rw [hon',henc,List.length_append];rw [List.take_length]at h1;omega
    refine hI15 _ o.a o.n o.c v (ac.no (by simp;omega) ?_);intro w13 hw13;have b13:Below v.heap.size v w13:=by subst hw13;exact af _ _
    have n13:w13.heap[v.heap.size]? =some (.cells #[] qF (0,0)):=by subst hw13;exact ak _ _
    have hB13:=ae hBv b13;have ho13:=aB ho b13;refine ac.mk (fun hlt=>?_) fun hlt=>?_
    ·have hlt:i<Z.length:=by have:=QQ hlt;omega
     obtain⟨z,hz,hz0⟩:=hcase hlt;intro w14 hw14;have b14:Below w13.heap.size w13 w14:=by subst hw14;exact aI w13
     have hB14:=ae hB13 b14;have hw14':=ae hb1 hB14;have hgz:Z[i]=z:=by rw [QW hlt]at hz;exact Option.some.inj hz
     obtain⟨p,hp,c0⟩:=aS (hr.on hw14') hlt rfl;have hlow:=(hZ z (by rw [←hgz];exact List.getElem_mem hlt)).1;have hspl:V.sp.length=s.specials.length:=by simp [V,az]
     have hlow: -(s.specials.length:Int)≤z:=by rw [←hspl];exact hlow
     have hkz:(-1-z).toNat<s.specials.length:=by omega
     obtain⟨ps',hps',_,hc'⟩:=((h.on hw14').sr) (-1-z).toNat _ (QW hkz);rw [hgz]at c0;refine⟨_,_,_,aj _ _ (ag hB14 l1) 4,ah.mk p hp ⟨by omega,by omega,z,c0,Ar.nat (-1-z).toNat (by omega) (by omega) (ah.mk ps' hps' ⟨by omega,by omega,_,hc' 0 _ rfl,?_⟩)⟩⟩;intro w15 hw15;have ho14:=aB ho13 b14;obtain⟨n',w16,hn',hrun',hown',hB',hkeep⟩:=cW.push ho14 _ hw15 rfl hB14.size (by omega) (by decide);have n14:=ag b14 n13;refine⟨n'.a,n'.n,n'.c,w16,hrun',hJ' ⟨some (nb v),0,0⟩ n' w16 (.inl ⟨hlt,P++a_ r++ [z],[],?_,.inr ⟨z,by simp,hz0⟩,?_,?_,?_,hB' _ hB14⟩)⟩
     ·rw [List.take_add_one,hz,hP];simp [a_]
     ·show w16.ownsRow w1.heap.size aV 1 n'.v n'.n _;rw [V.encode_mark hz0];have hget:V.sp.getD (-1-z).toNat 0=s.specials[(-1-z).toNat].1:=by
       show(s.specials.map (·.1)).getD _ 0=_;simp [List.getD,QW hkz]
      rw [hget];exact hown'
     ·show n'.n≤_;simp [a_];omega
     ·refine sv ?_ hBv.size;rw [hkeep _ (QV.1 n14).1 (aA ho14 n14 (by decide))];exact n14
    ·have hlt:i=Z.length:=by have:=QX hlt;omega
     refine hJ' ⟨some (nb v),0,0⟩ o w13 (.inr ⟨by omega,?_,hB13⟩);show w13.ownsRow w1.heap.size aV 1 o.v o.n _;rw [←hP,hlt,List.take_length]at ho13;exact ho13
  refine ac.mk (fun hlt=>?_) fun hlt=>flushed (fun e=>absurd (show(i:Int) < (Z.length:Int) by omega) (QX hlt));have hlt:i<Z.length:=by have:=QQ hlt;omega
  obtain⟨p,hp,c0⟩:=aS (hr.on hw) hlt rfl;refine ah.mk p hp ⟨by omega,by omega,_,c0,ac.mk (fun hge=>?_) fun hge=>flushed fun _=>⟨Z[i],QW hlt,by have:=QX hge;omega⟩⟩;have hge:0≤Z[i]:=QQ hge;have hup:=(hZ _ (List.getElem_mem hlt)).2;have hwr:IntKind.wrap .u8 Z[i]=Z[i]:=cZ (by show(0:Int)≤_;omega) (by show _≤(255:Int);omega);refine ah.mk p hp ⟨by omega,by omega,_,c0,?_⟩;intro w5 hw5;rw [hwr]at hw5;have hbyte:Z[i]=(((UInt8.ofNat Z[i].toNat).toNat:Nat):Int):=by
   rw [UInt8.toNat_ofNat',Nat.mod_eq_of_lt (show Z[i].toNat<256 by omega)];omega
  obtain⟨n',w6,hn',hrun',hown',hB',hkeep⟩:=BZ.push hrun (UInt8.ofNat Z[i].toNat) hw5 (by show _= [Value.int .u8 (((UInt8.ofNat Z[i].toNat).toNat:Nat):Int)].toArray;rw [←hbyte]) hB.size (by omega) (by decide);refine⟨n'.a,n'.n,n'.c,w6,hrun',hJ' n' out w6 (.inl ⟨hlt,P,r++ [UInt8.ofNat Z[i].toNat],?_,hPm,?_,hon,hown',hB' _ hB⟩)⟩
  ·rw [List.take_add_one,QW hlt,hP,kK, ←List.append_assoc];congr 1;show [Z[i]]= [(((UInt8.ofNat Z[i].toNat).toNat:Nat):Int)];rw [←hbyte]
  ·exact aR hout fun j hj=>hkeep j (cm hout j hj).2 (bR hout hrun (by decide) j hj)
 ·rintro⟨run,out,q⟩ hinv;obtain⟨ho,hB⟩:End (run,out,q):=by
   rcases hinv with⟨e,_⟩ |⟨_,h⟩
   ·omega
   ·exact h
  exact hI _ run.a run.n run.c out.a out.n out.c q (ac.no (by simp;omega) ⟨out,rfl,LsAt.of_own cW ho,ae hb1 hB,fun p hp=>QU hb1.size (lB ho p hp),qI ho⟩)
theorem qy (w:World) (x:mR) (s:ar) (T:List aP) (h:fY w x s T) (A:Option Addr) (C:Nat) (Z:List Int) (hr:Rw aC 1 w A Z) (hl:Z.length≤1000000) (hZ:(az s T).Items Z):CP 26 #[x.v,.slice A Z.length C] w fun e w'=>∃l:Sl,e= .returned l.v∧LsAt aC 1 w' l ((az s T).encode Z)∧Below w.heap.size w w'∧∀p,l.a=some p→w.heap.size≤p.block:=
 (oM w x s T h A C Z hr hl hZ).mono fun _ _ ⟨l,e,h1,h2,h3,_⟩=>⟨l,e,h1,h2,h3⟩
theorem Dg {s:ar} {T:List aP} {Z:List Int}:((az s T).encode Z).length≤Z.length:=by
 have h:=rV (f:=(az s T).encP) (fun p=>by
  cases p with
  |nil=>exact Q0 _
  |cons x r=>
   unfold Voc.encP;dsimp only;split
   ·simp
   ·exact jw _ _ _ (Q0 _)) (chop (az s T).cut Z)
 rwa [(d_ Z).2]at h
theorem tK (w:World) (x:mR) (s:ar) (T:List aP) (h:fY w x s T) (A:Option Addr) (C:Nat) (ids:List Int) (hr:Rw aC 1 w A ids) (hl:ids.length≤10000) (hh:∀t∈ids,(az s T).Has t):CP 29 #[x.v,.slice A ids.length C] w fun e w'=>e= .returned (.bool (decide ((az s T).Canon ids)))∧Below w.heap.size w w':=by
 refine aO (BE x.t.b.a x.t.b.n x.t.b.c x.t.m.a x.t.m.n x.t.m.c x.b.b.a x.b.b.n x.b.b.c x.b.m.a x.b.m.n x.b.m.c x.sp.a x.sp.n x.sp.c A ids.length C w) ?_;intro w1 hw1 w2 hw2;have hb1:Below w.heap.size w w1:=by subst hw1;exact af _ _
 have b2:Below w1.heap.size w1 w2:=by subst hw2;exact aI w1
 have hb2:=ae hb1 b2;have l2:w2.heap[w.heap.size]? =some (.cells x.cells Ds (0,0)):=ag b2 (by subst hw1;exact ak _ _);refine⟨_,_,_,_,_,_,_,_,_,_,_,_,_,_,_,ko l2,_,_,_,_,_,_,_,_,_,_,_,_,_,_,_,ko l2,?_⟩;refine(tI w2 x s T (h.on hb2) A C ids (hr.on hb2) (by omega) hh).mono ?_;rintro e w3 ⟨⟨a,n,c⟩,rfl,hi,b3⟩;have hb3:=ae hb2 b3;have hn:=hi.n;change n=_ at hn;subst hn;have hlen:=jZ (s:=s) h.ok ids;refine⟨_,_,_,rfl,ko (ag b3 l2),?_⟩;refine(qy w3 x s T (h.on hb3) a c _ hi.r (by omega) (Voc.itemsAll_ok h.vok hh)).mono ?_;rintro e w4 ⟨l,rfl,he,b4,_⟩;have hb4:=ae hb3 b4;have hel:=Dg (s:=s) (T:=T) (Z:=(az s T).itemsAll ids);have hln:=he.n;have hlr:=he.r;refine⟨l.a,l.n,l.c,rfl,?_⟩;have hcan:(az s T).Canon ids↔(az s T).encode ((az s T).itemsAll ids)=ids:=Iff.rfl;generalize(az s T).encode ((az s T).itemsAll ids)=E at hln hlr hel hcan;refine ac.mk (fun h0=>⟨?_,hb4⟩) fun h0=>?_
 ·have h0:¬(l.n:Int)=(ids.length:Int):=by simpa using h0
  rw [QZ fun hc=>h0 (by have:=hcan.1 hc;rw [hln,this])]
 ·have h0:(l.n:Int)=(ids.length:Int):=by simpa using h0
  intro I hI;have key:=aU (α:=Bool×World) E.length (fun i y=>(∀j (h1:j<E.length) (h2:j<ids.length),j<i→E[j]=ids[j])∧Below w4.heap.size w4 y.2) (fun i y=>I [.int .i64 (i:Int),.bool y.1] y.2) (false,w4) ⟨fun j _ _ hj=>absurd hj (Nat.not_lt_zero j),Below.refl _ _⟩ ?_ ?_
  ·exact key
  ·rintro i hi2 ih ⟨y,q⟩ ⟨hinv,hB⟩;change Below w4.heap.size w4 q at hB;have hi3:i<ids.length:=by omega
   refine hI _ y q (ac.yes (by simp;omega) ?_);intro w6 hw6;have b6:Below q.heap.size q w6:=by subst hw6;exact aI q
   have hB6:=ae hB b6;have hw6':=ae hb4 hB6;obtain⟨p,hp,c0⟩:=aS (hlr.on hB6) hi2 rfl;obtain⟨p',hp',c0'⟩:=aS (hr.on hw6') hi3 rfl;refine ah.mk p hp ⟨by omega,by omega,_,c0,ah.mk p' hp' ⟨by omega,by omega,_,c0',ac.mk (fun hne=>⟨?_,hw6'⟩) fun hne=>Ar.nat (i+1) rfl (by omega) (ih (y,w6) ⟨fun j h1 h2 hj=>?_,hB6⟩)⟩⟩
   ·have hne:¬E[i]=ids[i]:=by simpa using hne
    rw [QZ fun hc=>?_];have e:=hcan.1 hc;subst e;exact hne rfl
   ·by_cases e:j=i
    ·subst e;simpa using hne
    ·exact hinv j h1 h2 (by omega)
  ·rintro⟨y,q⟩ ⟨hinv,hB⟩;refine hI _ y q (ac.no (by simp;omega) ⟨?_,ae hb4 hB⟩);rw [QY (hcan.2 (List.ext_getElem (by omega) fun j h1 h2=>hinv j h1 h2 h1))]
abbrev oX (x:mR):List Value:=[x.t.b.v,x.t.m.v,x.b.b.v,x.b.m.v,x.sp.v]
theorem jK (x:mR):∀v∈oX x,v.oneCell'=true:=by
 intro v hv;simp only [oX,List.mem_cons,List.not_mem_nil,or_false]at hv;rcases hv with rfl |rfl |rfl |rfl |rfl<;>rfl
theorem oH (x:mR):∀v∈x.cells,¬lV v:=by
 intro v hv;simp only [List.mem_toArray,List.mem_cons,List.not_mem_nil,or_false]at hv;rcases hv with rfl |rfl |rfl |rfl |rfl<;>(rintro(⟨k,n,h⟩ |⟨s,h⟩)<;>cases h)
theorem ph.past {w w':World} {x:lM} {cls:List (Int×Int×Int)} {js:List (Int×Int)} {b:Nat} {c:Array Value} {T:TypeId} {fz:Nat×Nat} (h:ph w x cls js) (hb:w.heap[b]? =some (.cells c T fz)) (hc:∀v∈c,¬lV v) (hne:∀j,j<w.heap.size→j≠b→w'.heap[j]? =w.heap[j]?) (hs:w.heap.size≤w'.heap.size):ph w' x cls js:=
 ⟨h.n1,h.r1.past (fun y=>⟨_,rfl,dc _ _⟩) hb hc hne hs,h.n2,h.r2.past (fun y=>⟨_,rfl,dc _ _⟩) hb hc hne hs⟩
theorem fY.past {w w':World} {x:mR} {s:ar} {T:List aP} {b:Nat} {c:Array Value} {ty:TypeId} {fz:Nat×Nat} (h:fY w x s T) (hb:w.heap[b]? =some (.cells c ty fz)) (hc:∀v∈c,¬lV v) (hne:∀j,j<w.heap.size→j≠b→w'.heap[j]? =w.heap[j]?) (hs:w.heap.size≤w'.heap.size):fY w' x s T:=
 ⟨⟨h.t.n1,h.t.r1.past (fun y=>⟨_,rfl,.inr ⟨_,rfl⟩⟩) hb hc hne hs,h.t.k1,h.t.n2,h.t.r2.past (fun y=>⟨_,rfl,dc _ _⟩) hb hc hne hs,h.t.k2⟩,h.b.past hb hc hne hs,h.sn,h.sr.past (fun y=>⟨_,rfl,dc _ _⟩) hb hc hne hs,h.ok,h.right,h.ids,h.nodup⟩
abbrev Ea:mR:=⟨⟨bO,bO⟩,⟨bO,bO⟩,bO⟩
theorem qe {s:ar} {T:List aP} (h:dx s= .ok T) (hr:s.ranked=false):cd aK 0 s.merges= .ok T∧bW [] 0 s.specials=none∧(∀y∈s.specials,(T.length:Int)≤y.1):=by
 unfold dx qc at h;rw [hr]at h;simp only [Bool.false_eq_true,if_false]at h;cases ht:cd aK 0 s.merges with
 |error q=>rw [ht]at h;cases h
 |ok T'=>
  rw [ht]at h;dsimp only at h;cases hm:bW [] 0 s.specials with
  |some q=>rw [hm]at h;cases h
  |none=>
   rw [hm]at h;dsimp only at h;cases hf:s.specials.findIdx? (fun y=>decide (y.1< (T'.length:Int)))with
   |some i=>rw [hf]at h;cases h
   |none=>
    rw [hf]at h;cases h;refine⟨rfl,rfl,fun y hy=>?_⟩;have:=List.findIdx?_eq_none_iff.1 hf y hy;simpa using this
theorem vv (w:World) (x:cw) (s:ar) (h:dw w x s) (hr:s.ranked=false) (hright:s.right=true) (T:List aP) (hT:dx s= .ok T):
  CP 168 #[x.v] w fun e w'=>∃y:mR,e= .returned (.tuple #[y.v,.int .i64 0,.int .i64 0,.int .i64 0])∧fY w' y s T∧Below w.heap.size w w'∧kL w.heap.size y.t∧y.b=⟨x.s4,x.s5⟩∧y.sp=x.s3:=by
 obtain⟨hT1,hT2,hT3⟩:=qe hT hr;have hsm:=ee hright;have hnd:(s.specials.map (·.1)).Nodup:=by simpa using lW hT2 (by simp)
 refine aO (wS x.ranked x.s1.a x.s1.n x.s1.c x.s2.a x.s2.n x.s2.c x.s3.a x.s3.n x.s3.c x.s4.a x.s4.n x.s4.c x.s5.a x.s5.n x.s5.c w) ?_;intro w1 hw1 w2 hw2;have hb1:Below w.heap.size w w1:=by subst hw1;exact af _ _
 have b2:Below w1.heap.size w1 w2:=by subst hw2;exact af _ _
 have hb2:=ae hb1 b2;have p2:w2.heap[w.heap.size]? =some (.cells x.cells dl (0,0)):=ag b2 (by subst hw1;exact ak _ _);have z2:w2.heap[w1.heap.size]? =some (.cells Ea.cells Ds (0,0)):=by subst hw2;exact ak _ _
 refine⟨_,_,_,_,_,_,_,_,_,_,_,_,_,_,_,_,dV p2,?_⟩;refine(uN w2 x s (h.on hb2) hr hsm.1).mono ?_;rintro e w3 ⟨u,rfl,t,n,e,rfl,b3,hp⟩;rw [hT1]at hp;obtain⟨rfl,rfl,ht,htok,hfr⟩:=hp;refine⟨_,_,_,_,_,_,_,_,rfl,?_⟩;intro w4 hw4;refine aX [bO.v,bO.v] [t.b.v,t.m.v] rfl (bL _ _) w4 hw4 ?_;intro w5 h5 hz5 b5;have b35:=ae b3 b5;have hb5:=ae hb2 b35;have p5:=ag b35 p2;have z5:=ag b35 z2;refine ac.no rfl ⟨_,_,_,aj _ _ p5 3,?_⟩;have hn3:=h.n3;have hS:=(h.on hb5).r3;obtain⟨⟨a3,n3,c3⟩,hx3⟩:∃y:Sl,y=x.s3:=⟨_,rfl⟩;have e3:n3=s.specials.length:=by rw [←hx3]at hn3;exact hn3
 have hS':Rw aM 2 w5 a3 s.specials:=by rw [←hx3]at hS;exact hS
 rw [show x.s3.a=a3 by rw [←hx3],show x.s3.n=s.specials.length from hn3,show x.s3.c=c3 by rw [←hx3]];refine(lL w5 a3 c3 s.specials hS' hsm.2.2.1).mono ?_;rintro e w7 ⟨rfl,b7⟩;have hck:ka s.specials= .tuple #[.int .i64 (s.specials.length:Int),.int .i64 0]:=by rw [ka,hT2]
 refine⟨_,_,by rw [hck],ac.no rfl ?_⟩;have hb7:=ae hb5 b7;intro I hI;have key:=aU (α:=Int×Int×Int×World) s.specials.length (fun i y=>Below w7.heap.size w7 y.2.2.2) (fun i y=>I [.int .i64 (i:Int),.int .i64 y.1,.int .i64 y.2.1,.int .i64 y.2.2.1] y.2.2.2) (0,0,0,w7) (Below.refl _ _) ?_ ?_
 ·exact key
 ·rintro i hi ih ⟨y5,y4,y3,q⟩ hB;change Below w7.heap.size w7 q at hB;have pq:=ag hB (ag b7 p5);have hfew:=hsm.2.2.1;refine hI _ y5 y4 y3 q ⟨_,_,_,aj _ _ pq 3,ac.yes (by simp;omega) ?_⟩;intro w10 hw10;have b10:Below q.heap.size q w10:=by subst hw10;exact aI q
  have hB10:=ae hB b10;obtain⟨p,hp,_,hc⟩:=((h.on (ae hb7 hB10)).r3) i _ (QW hi);refine⟨_,_,_,aj _ _ (ag b10 pq) 3,ah.mk p hp ⟨by omega,by omega,_,hc 0 _ rfl,_,_,_,aj _ _ (ag hB10 (ag b7 h5)) 0,ac.no ?_ (Ar.nat (i+1) rfl (by omega) (ih (y5,y4,y3,w10) hB10))⟩⟩;have:=hT3 _ (List.getElem_mem hi);have:=ht.n1;exact QZ (by omega)
 ·rintro⟨y5,y4,y3,q⟩ hB;change Below w7.heap.size w7 q at hB;have pq:=ag hB (ag b7 p5);have zq:=ag hB (ag b7 z5);have tq:=ag hB (ag b7 h5);have hbq:=ae hb7 hB;have hq:=h.on hbq;refine hI _ y5 y4 y3 q ⟨_,_,_,aj _ _ pq 3,ac.no (by simp;omega) ⟨_,_,_,_,_,_,fK tq,_,_,_,aj _ _ pq 4,_,_,_,aj _ _ pq 5,_,_,_,aj _ _ pq 3,?_⟩⟩;refine aW zq (oX ⟨t,⟨x.s4,x.s5⟩,x.s3⟩) rfl (jK ⟨t,⟨x.s4,x.s5⟩,x.s3⟩) ?_;intro w12 h12 hs12 hz12 hB12;have hv:fY q ⟨t,⟨x.s4,x.s5⟩,x.s3⟩ s T:=⟨((ht.on b5).on b7).on hB,⟨hq.n4,hq.r4,hq.n5,hq.r5⟩,hq.n3,hq.r3,htok,hright,hT3,hnd⟩;exact⟨_,_,_,_,_,_,_,_,_,_,_,_,_,_,_,ko (x:=⟨t,⟨x.s4,x.s5⟩,x.s3⟩) h12,⟨t,⟨x.s4,x.s5⟩,x.s3⟩,rfl,hv.past zq (oH Ea) (fun j _ hj=>hs12 j hj) (Nat.le_of_eq hz12.symm),hB12 _ _ hb1.size hbq,hfr.mono hb2.size,rfl,rfl⟩
theorem Cr (w:World) (x:cw) (s:ar) (h:dw w x s) (hr:s.ranked=false) (hright:s.right=true) (T:List aP) (hT:dx s= .ok T):
  CP 112 #[x.v] w fun e w'=>∃y:mR,e= .returned y.v∧fY w' y s T∧Below w.heap.size w w'∧kL w.heap.size y.t∧y.b=⟨x.s4,x.s5⟩∧y.sp=x.s3:=by
 refine aO (vY x.ranked x.s1.a x.s1.n x.s1.c x.s2.a x.s2.n x.s2.c x.s3.a x.s3.n x.s3.c x.s4.a x.s4.n x.s4.c x.s5.a x.s5.n x.s5.c w) ?_;intro w1 hw1 w2 hw2;have hb1:Below w.heap.size w w1:=by subst hw1;exact af _ _
 have b2:Below w1.heap.size w1 w2:=by subst hw2;exact af _ _
 have hb2:=ae hb1 b2;have p2:w2.heap[w.heap.size]? =some (.cells x.cells dl (0,0)):=ag b2 (by subst hw1;exact ak _ _);have z2:w2.heap[w1.heap.size]? =some (.cells Ea.cells Ds (0,0)):=by subst hw2;exact ak _ _
 refine⟨_,_,_,_,_,_,_,_,_,_,_,_,_,_,_,_,dV p2,?_⟩;refine(vv w2 x s (h.on hb2) hr hright T hT).mono ?_;rintro e w3 ⟨y,rfl,hy,b3,f3,e1,e2⟩;refine⟨_,_,_,_,_,_,_,_,_,_,_,_,_,_,_,_,_,_,rfl,?_⟩;intro w4 hw4;refine aX (oX Ea) (oX y) rfl (jK y) w4 hw4 ?_;intro w5 h5 hz5 b5;have b35:=ae b3 b5;have z5:=ag b35 z2;refine⟨_,_,_,_,_,_,_,_,_,_,_,_,_,_,_,ko (x:=y) h5,?_⟩;refine aW z5 (oX y) rfl (jK y) ?_;intro w6 h6 hs6 hz6 hB6;exact⟨_,_,_,_,_,_,_,_,_,_,_,_,_,_,_,ko (x:=y) h6,y,rfl,(hy.on b5).past z5 (oH Ea) (fun j _ hj=>hs6 j hj) (Nat.le_of_eq hz6.symm),hB6 _ _ hb1.size (ae hb2 b35),f3.mono hb2.size,e1,e2⟩
end Go.Proofs.YtdlcfegnaphclaaGreat.Eng
