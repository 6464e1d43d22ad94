/- The reference's tables, walked by the engine. -/
import Derived.Test.YtijbcdiffjjefaaGreatDoorZtVo
set_option linter.unusedVariables false
set_option linter.unusedSimpArgs false
set_option maxRecDepth 100000
namespace Go.Proofs.YtijbcdiffjjefaaGreatDoor.Eng
open Go Go.RowKit
structure iU where
 b:Sl
 m:Sl
abbrev iU.v (x:iU):Value:=.agg #[x.b.v,x.m.v]
structure eA (w:World) (x:iU) (es:List bl):Prop where
 n1:x.b.n=es.length
 r1:Rw be 1 w x.b.a (es.map (·.1))
 k1:jf x.b
 n2:x.m.n=(au es).length
 r2:Rw aD 2 w x.m.a (au es)
 k2:jf x.m
theorem eA.on {w w':World} {x:iU} {es:List bl} (h:eA w x es) (hb:Below w.heap.size w w'):eA w' x es:=⟨h.n1,h.r1.on hb,h.k1,h.n2,h.r2.on hb,h.k2⟩
def iI (B:Nat) (x:iU):Prop:=(∀p,x.b.a=some p→B≤p.block)∧∀p,x.m.a=some p→B≤p.block
theorem iI.mono {B B':Nat} {x:iU} (h:iI B x) (hB:B'≤B):iI B' x:=⟨fun p hp=>Nat.le_trans hB (h.1 p hp),fun p hp=>Nat.le_trans hB (h.2 p hp)⟩
theorem nu {w:World} {B:Nat} {e:TypeId} {sz:Nat} {l:Sl} {xs:List Value} (h:w.ownsRow B e sz l.v l.n xs):∀p,l.a=some p→B≤p.block:=by
 intro p hp;obtain⟨la,ln,lc⟩:=l;rcases h.2 with⟨hv,_⟩ |⟨g,cap,cur,hv,hB,_⟩
 ·cases hv;cases hp
 ·cases hv;cases hp;exact hB
theorem jL (w:World) (x:iU) (es:List bl) (h:eA w x es) (id:Int):CP 111 #[x.v,.int .i64 id] w fun e w'=>e= .returned (.bool (decide (cq es id)))∧Below w.heap.size w w':=by
 refine az (wL x.b.a x.b.n x.b.c x.m.a x.m.n x.m.c id w (fun u w'=>u= .bool (decide (cq es id))∧Below w.heap.size w w') ?_) (by rintro v w' ⟨rfl,h⟩;exact⟨rfl,h⟩);intro w1 hw1;have hb1:Below w.heap.size w w1:=by subst hw1;exact ag _ _
 refine aa.mk (fun h0=>?_) fun h0=>?_
 ·have h0:=of_decide_eq_true h0;refine⟨_,_,_,by subst hw1;rw [aA,aT];rfl,?_,hb1⟩;congr 1;rw [h.n1];exact decide_eq_decide.2 ⟨fun h=>⟨h0,h⟩,fun h=>h.2⟩
 ·have h0:=of_decide_eq_false h0;refine⟨?_,hb1⟩;rw [decide_eq_false (fun h=>h0 h.1)]
def uW (es:List bl) (s:Bs):Int:=yT (fun b=>decide (b=s)) (es.map (·.1))
theorem tH (w:World) (x:iU) (es:List bl) (h:eA w x es) (hl:es.length≤1000000) (s:Bs):CP 205 #[x.v,.string (str s)] w fun e w'=>e= .returned (.int .i64 (uW es s))∧Below w.heap.size w w':=by
 refine aU (vJ x.b.a x.b.n x.b.c x.m.a x.m.n x.m.c (str s) w) ?_;intro w1 hw1;have hb1:Below w.heap.size w w1:=by subst hw1;exact ag _ _
 have c0:w1.cell? ((nb w).add 0)=some (.slice x.b.a x.b.n x.b.c):=by subst hw1;rw [aA,aT];rfl
 have hlen:(es.map (·.1)).length=es.length:=by simp
 have hn:=h.n1;intro I hI;have key:=aK (α:=Int) es.length (fun i _=>∀j (hj:j< (es.map (·.1)).length),j<i→decide ((es.map (·.1))[j]=s)=false) (fun i y=>I [.int .i64 (i:Int),.int .i64 y] w1) 0 (fun j _ hj=>absurd hj (Nat.not_lt_zero j)) ?_ ?_
 ·exact key
 ·rintro i hi ih y hb;obtain⟨q,hq,_,hcx⟩:=(h.r1.on hb1) i _ (List.getElem?_eq_getElem (show i< (es.map (·.1)).length by omega));have h0:=hcx 0 _ rfl;rw [an]at h0;refine hI _ _ _ ⟨_,_,_,c0,aa.yes (by simp;omega) ⟨_,_,_,c0,ae.mk q hq ⟨by omega,by omega,_,h0,aa.mk (fun h1=>?_) fun h1=>?_⟩⟩⟩
  ·rw [cr,cr]at h1;have h1:(es.map (·.1))[i]'(by omega)=s:=by simpa using h1
   refine⟨?_,hb1⟩;unfold uW;rw [ga (p:=fun b=>decide (b=s)) (xs:=es.map (·.1)) (i:=i) (by omega) (decide_eq_true h1) fun j hj=>hb j (by omega) hj]
  ·rw [cr,cr]at h1;have h1:¬(es.map (·.1))[i]'(by omega)=s:=by simpa using h1
   refine Ar.ok64 (by omega) (by omega) (ih y fun j hj hji=>?_);by_cases he:j=i
   ·subst he;exact decide_eq_false h1
   ·exact hb j hj (by omega)
 ·rintro y hb;refine hI _ _ _ ⟨_,_,_,c0,aa.no (by simp;omega) ⟨?_,hb1⟩⟩;unfold uW;rw [fU (p:=fun b=>decide (b=s)) (xs:=es.map (·.1)) fun j hj=>hb j hj (by omega)]
theorem tb (es:List bl) (s:Bs):uW es s≥0↔s∈es.map (·.1):=by
 have:=kO (fun b=>decide (b=s)) (es.map (·.1));unfold uW;rw [←decide_eq_true_iff (p:=yT _ _≥0),this,List.any_eq_true];constructor
 ·rintro⟨b,hb,e⟩;rw [←of_decide_eq_true e];exact hb
 ·intro h;exact⟨s,h,decide_eq_true rfl⟩
abbrev na:TypeId:=35
theorem aS (a b:Sl):∀v∈ [a.v,b.v],v.oneCell'=true:=by
 intro v hv;simp only [List.mem_cons,List.not_mem_nil,or_false]at hv;rcases hv with rfl |rfl<;>rfl
theorem dm {w:World} {b:Nat} {x y:Value} {e:TypeId} {fz:Nat×Nat} (h:w.heap[b]? =some (.cells #[x,y] e fz)):w.cell? ⟨b,0,none⟩=some x∧w.cell? ((⟨b,0,none⟩:Addr).add 1)=some y∧True:=
 ⟨by have:=af _ _ h 0;rw [an]at this;exact this,af _ _ h 1,trivial⟩
theorem jO {w:World} {B:Nat} {e:TypeId} {sz:Nat} {l:Sl} {xs:List Value} (h:w.ownsRow B e sz l.v l.n xs):jf l:=by
 obtain⟨la,ln,lc⟩:=l;rcases h.2 with⟨hv,_⟩ |⟨g,cap,cur,hv,_⟩
 ·cases hv;exact .inl rfl
 ·cases hv;exact .inr ⟨_,rfl⟩
theorem iF (w:World):CP 157 #[] w fun e w'=>∃x:iU,e= .returned x.v∧eA w' x bf∧Below w.heap.size w w'∧iI w.heap.size x:=by
 refine aU (vV w) ?_;intro w1 hw1 w2 hw2;have hz1:w1.heap.size=w.heap.size+1:=by subst hw1;exact ax _ _
 have hb1:Below w.heap.size w w1:=by subst hw1;exact ag _ _
 have l1:w1.heap[w.heap.size]? =some (.cells #[Value.slice none 0 0,Value.slice none 0 0] na (0,0)):=by subst hw1;exact ao _ _
 refine aJ [.slice none 0 0,.slice none 0 0] [.slice none 0 0,.slice none 0 0] rfl (aS ⟨none,0,0⟩ ⟨none,0,0⟩) w2 hw2 ?_;intro w3 h3 hz3 hB3;have l3:=ah hB3 l1;intro I hI;have key:=aK (α:=World) 256 (fun i x=>∃l:Sl,x.heap[w1.heap.size]? =some (.cells #[l.v,Value.slice none 0 0] na (0,0))∧x.ownsRow w1.heap.size bE 1 l.v l.n ((((List.range i).map b_).map (·.1)).flatMap be)∧l.n=i∧l.v.ownBlock≠some w1.heap.size∧x.heap[w.heap.size]? =some (.cells #[Value.slice none 0 0,Value.slice none 0 0] na (0,0))∧Below w.heap.size w x∧w1.heap.size<x.heap.size) (fun i x=>I [.int .i64 (i:Int)] x) w3 ⟨⟨none,0,0⟩,h3,co _ _ _ _,rfl,(by intro h;cases h),l3,hb1.trans (hB3.mono hb1.size),by omega⟩ ?_ ?_
 ·exact key
 ·rintro i hi ih w4 ⟨l,h4,hown,hln,hoff,hl4,hB,hlt4⟩;have hwr:IntKind.wrap .u8 (i:Int)=(i:Int):=bY (by show(0:Int)≤_;omega) (by show _≤(255:Int);omega);refine hI _ _ (aa.yes (by simp;omega) ⟨_,_,_,af _ _ h4 0,?_⟩);rw [hwr];rintro w5 rfl;have hb5:=ag w4 (.cells #[Value.int .u8 (i:Int)] 5);refine⟨_,_,mo (P:=Tryz.prog) (by kernel_rfl) (by kernel_rfl) (by kernel_rfl) w4 i hi,?_⟩;rintro w7 rfl;have hrow5:=aL hown hb5;have h5:=ah hb5 h4;have hl5:=ah hb5 hl4;obtain⟨a',c',w8,hr8,hu8,hf8,h9⟩:=eV (P:=Tryz.prog) (s:=l) 0 h5 (show 0<2 by decide) hrow5 hoff (Nat.le_refl _) da fp fO rfl (by decide) (be [UInt8.ofNat i]) rfl (by intro u hu;rw [List.mem_singleton.1 hu];rfl) (by omega) (by omega);refine⟨a',l.n+1,c',w8,hr8,rfl,hu8,hf8,?_⟩;intro w9 hw9;obtain⟨hblk9,hrow9,hoff9,hB9,hkeep9,hsz9,hnew9⟩:=h9 w9 hw9;have hrange:((List.range (i+1)).map b_).map (·.1)=((List.range i).map b_).map (·.1)++ [[UInt8.ofNat i]]:=by rw [List.range_succ];simp [b_]
  have hzz:(w4.alloc (.cells #[Value.int .u8 (i:Int)] 5)).heap.size=w4.heap.size+1:=ax _ _;have hne:l.v.ownBlock≠some w.heap.size:=fun e=>by have:=(cn hrow5 _ e).1;omega
  have hl9:w9.heap[w.heap.size]? =some (.cells #[Value.slice none 0 0,Value.slice none 0 0] na (0,0)):=by
   rw [hkeep9 w.heap.size (by omega) (by omega) hne];exact hl5
  refine Ar.ok64 (by omega) (by omega) (ih w9 ⟨⟨a',l.n+1,c'⟩,hblk9,?_,by show l.n+1=i+1;omega,hoff9,hl9,?_,by omega⟩)
  ·rw [hrange,List.flatMap_append];simpa using hrow9
  ·have hb45:Below w1.heap.size w4 (w4.alloc (.cells #[Value.int .u8 (i:Int)] 5)):=hb5.mono (by omega);exact hB.trans ((hB9 w4 hb45).mono (by omega))
 ·rintro w4 ⟨l,h4,hown,hln,hoff,hl4,hB,hlt4⟩;refine hI _ _ (aa.no (by simp) ⟨_,_,_,_,_,_,dm h4,?_⟩);refine aN hl4 [l.v,.slice none 0 0] rfl (aS l ⟨none,0,0⟩) ?_;intro w10 h10 hs10 hz10 hB10;refine⟨_,_,_,_,_,_,dm h10,⟨l,⟨none,0,0⟩⟩,rfl,⟨?_,?_,jO hown,?_,?_,.inl rfl⟩,hB10 _ _ (Nat.le_refl _) hB,fun p hp=>Nat.le_trans hb1.size (nu hown p hp),fun p hp=>(by cases hp)⟩
  ·rw [hln];simp [bf]
  ·have:=bD hown fun k hk=>hs10 k fun e=>by have:=(cn hown k hk).1;omega
   exact(Rw.of_own this (fun _=>rfl) (by decide)).1
  ·simp [au,bf]
  ·intro j y hj;simp [au,bf]at hj
theorem mX {α:Type} {enc:α→List Value} {sz:Nat} (hsz:∀x,(enc x).length=sz) (h0:0<sz) (h1:∀x,∀u∈enc x,u.oneCell'=true) (t e:TypeId) {z:Value} {bytes:Nat} (ht:Tryz.prog.underlying t=some (.slice e)) (hi:(Tryz.prog.info? e).map (fun i=>(i.zero,i.size,i.bytes))=some (some z,sz,bytes)) (hzs:z.cells.size=sz)
  {B:Nat} {w:World} {s:Sl} {xs:List α} (hown:w.ownsRow B e sz s.v s.n (xs.flatMap enc)) (x:α) {b:Nat} {T:TypeId} {fz:Nat×Nat} (hb:w.heap[b]? =some (.cells (enc x).toArray T fz)) (hB:B≤w.heap.size) (hbytes:(s.n+1)*bytes≤140737488355328) (h63:s.n+1≤140737488355328):
  ∃A C w',(Builtin.append_ #[t,t] t #[.slice s.a s.n s.c,.slice (some ⟨b,0,none⟩) 1 1]).run Tryz.prog w= .ok (.slice A (s.n+1) C) w'∧w'.ownsRow B e sz (.slice A (s.n+1) C) (s.n+1) ((xs++ [x]).flatMap enc)∧(∀w0,Below B w0 w→Below B w0 w')∧(∀k,k<w.heap.size→s.v.ownBlock≠some k→w'.heap[k]? =w.heap[k]?):=by
 obtain⟨A,C,w',h2,h3,h4,h5⟩:=lO (P:=Tryz.prog) t e ht hi hzs h0 hown ⟨some ⟨b,0,none⟩,1,1⟩ (.inr ⟨_,rfl⟩) (enc x) (by rw [hsz,Nat.one_mul]) (by
  intro a ha j u hj;cases ha;rw [af _ _ hb];simpa using hj) (h1 x) hbytes h63 hB
 exact⟨A,C,w',h2,by simpa using h3,h4,h5⟩
theorem wk {α:Type} {enc:α→List Value} {sz:Nat} (hsz:∀x,(enc x).length=sz) (h0:0<sz) (h1:∀x,∀u∈enc x,u.oneCell'=true) (t e:TypeId) {z:Value} {bytes:Nat} (ht:Tryz.prog.underlying t=some (.slice e)) (hi:(Tryz.prog.info? e).map (fun i=>(i.zero,i.size,i.bytes))=some (some z,sz,bytes)) (hzs:z.cells.size=sz)
  (w:World) (s:Sl) (xs:List α) (hs:jf s) (hr:Rw enc sz w s.a xs) (hn:s.n=xs.length) (hbytes:s.n*bytes≤140737488355328) (h63:s.n≤140737488355328):
  ∃A C w',(Builtin.append_ #[t,t] t #[.slice none 0 0,.slice s.a s.n s.c]).run Tryz.prog w= .ok (.slice A s.n C) w'∧w'.ownsRow w.heap.size e sz (.slice A s.n C) s.n (xs.flatMap enc)∧Below w.heap.size w w':=by
 obtain⟨A,C,w',h2,h3,h4,_⟩:=lO (P:=Tryz.prog) t e ht hi hzs h0 (co w w.heap.size e sz) s hs (xs.flatMap enc) (by rw [bF hsz,hn]) (by
  intro a ha j u hj;rw [ha]at hr;exact hr.flat hsz h0 j u hj) (by
  intro u hu;obtain⟨x,_,hx⟩:=List.mem_flatMap.1 hu;exact h1 x u hx) (by rw [Nat.zero_add];exact hbytes) (by rw [Nat.zero_add];exact h63) (Nat.le_refl _)
 rw [Nat.zero_add]at h2 h3;exact⟨A,C,w',h2,by simpa using h3,h4 w (Below.refl _ _)⟩
def F_ (w:World) (x:iU) (es:List bl) (m:Int×Int) (u:Value) (w':World):Prop:=∃(x':iU) (n:Int),u= .tuple #[x'.v,.int .i64 n]∧Below w.heap.size w w'∧(match bj es m with
 | .error n0=>n=n0∧x'=x
 | .ok y=>n=0∧eA w' x' (es++ [y])∧iI w.heap.size x')
def Wr (w:World) (l:Sl) (sz B:Nat):Prop:=l.n=0∨∃g cur e,l.a=some ⟨g,0,none⟩∧B≤g∧w.heap[g]? =some (.cells cur e (0,0))∧l.n*sz≤cur.size
theorem Wr.of_own {w:World} {B:Nat} {e:TypeId} {sz:Nat} {l:Sl} {xs:List Value} (h:w.ownsRow B e sz l.v l.n xs) (hsz:0<sz):Wr w l sz B:=by
 rcases h.2 with⟨_,hn⟩ |⟨g,cap,cur,hv,hB,hg,hc,_,hz,_⟩
 ·exact .inl hn
 ·obtain⟨a,n,c⟩:=l;cases hv;exact .inr ⟨g,cur,e,rfl,hB,hg,by rw [hz];exact Nat.mul_le_mul_right _ hc⟩
theorem Wr.on {w w':World} {l:Sl} {sz B:Nat} (h:Wr w l sz B) (hb:Below w.heap.size w w'):Wr w' l sz B:=
 h.imp id fun⟨g,cur,e,h1,h2,h3,h4⟩=>⟨g,cur,e,h1,h2,ah hb h3,h4⟩
theorem Wr.base {w:World} {l:Sl} {sz B B':Nat} (h:Wr w l sz B) (hB:B'≤B):Wr w l sz B':=
 h.imp id fun⟨g,cur,e,h1,h2,h3,h4⟩=>⟨g,cur,e,h1,Nat.le_trans hB h2,h3,h4⟩
theorem Wr.off {w w':World} {l:Sl} {sz B b:Nat} (h:Wr w l sz B) (hb:b<B) (hs:∀j,j≠b→w'.heap[j]? =w.heap[j]?):Wr w' l sz B:=
 h.imp id fun⟨g,cur,e,h1,h2,h3,h4⟩=>⟨g,cur,e,h1,h2,by rw [hs g (by omega)];exact h3,h4⟩
def mz (w:World) (x:iU) (es:List bl) (m:Int×Int) (u:Value) (w':World):Prop:=∃(x':iU) (n:Int),u= .tuple #[x'.v,.int .i64 n]∧Below w.heap.size w w'∧(match bj es m with
 | .error n0=>n=n0∧x'=x
 | .ok y=>n=0∧eA w' x' (es++ [y])∧iI w.heap.size x'∧Wr w' x'.m 2 w.heap.size)
theorem mE (w:World) (x:iU) (es:List bl) (h:eA w x es) (hok:gW es) (m:Int×Int):CP 158 #[x.v,.agg #[.int .i64 m.1,.int .i64 m.2]] w fun e w'=>∃u,e= .returned u∧mz w x es m u w':=by
 refine vq x.b.a x.b.n x.b.c x.m.a x.m.n x.m.c m.1 m.2 w (mz w x es m) ?_;intro w1 hw1 w2 hw2 w3 hw3;have hz1:w1.heap.size=w.heap.size+1:=by subst hw1;exact ax _ _
 have hz2:w2.heap.size=w.heap.size+2:=by subst hw2;rw [ax,hz1]
 have hz3:w3.heap.size=w.heap.size+3:=by subst hw3;rw [ax,hz2]
 have hb1:Below w.heap.size w w1:=by subst hw1;exact ag _ _
 have hb2:Below w1.heap.size w1 w2:=by subst hw2;exact ag _ _
 have hb3:Below w2.heap.size w2 w3:=by subst hw3;exact ag _ _
 have l0:w3.heap[w.heap.size]? =some (.cells #[x.b.v,x.m.v] na (0,0)):=ah hb3 (ah hb2 (by subst hw1;exact ao _ _));have l1:w3.heap[w1.heap.size]? =some (.cells #[.int .i64 m.1,.int .i64 m.2] lG (0,0)):=ah hb3 (by subst hw2;exact ao _ _);have l2:w3.heap[w2.heap.size]? =some (.cells #[Value.slice none 0 0,Value.slice none 0 0] na (0,0)):=by subst hw3;exact ao _ _
 have hb03:Below w.heap.size w w3:=ab hb1 (ab hb2 hb3);have h3:=h.on hb03;have hmost:=hok.most;have hlen:=h.n1;have fail:∀(n:Int) (wq:World),bj es m= .error n→Below w3.heap.size w3 wq→
   ∃g0A:Option Addr,∃g0N:Nat,∃g0C:Nat,∃g1A:Option Addr,∃g1N:Nat,∃g1C:Nat,(wq.cell? (nb w)=some (Value.slice g0A g0N g0C)∧wq.cell? ((nb w).add 1)=some (Value.slice g1A g1N g1C)∧True)∧
   ar wq (nb w2) (fun w5=>
   ∃res0A:Option Addr,∃res0N:Nat,∃res0C:Nat,∃res1A:Option Addr,∃res1N:Nat,∃res1C:Nat,(w5.cell? (nb w2)=some (Value.slice res0A res0N res0C)∧w5.cell? ((nb w2).add 1)=some (Value.slice res1A res1N res1C)∧True)∧
   mz w x es m (Value.tuple #[Value.agg #[Value.slice res0A res0N res0C,Value.slice res1A res1N res1C],Value.int .i64 n]) w5) [Value.slice g0A g0N g0C,Value.slice g1A g1N g1C] 0:=by
  intro n wq hn hbq;refine⟨_,_,_,_,_,_,dm (ah hbq l0),?_⟩;refine aN (ah hbq l2) [x.b.v,x.m.v] rfl (aS _ _) ?_;intro w5 h5 hs5 hz5 hB5;refine⟨_,_,_,_,_,_,dm h5,x,n,rfl,(hB5 _ _ (by omega) (ab hb03 hbq)),?_⟩;rw [hn];exact⟨rfl,rfl⟩
 refine⟨_,_,_,_,_,_,dm l0,m.1,af _ _ l1 0,?_⟩;refine(jL w3 x es h3 m.1).mono ?_;rintro e w4 ⟨rfl,b4⟩;refine⟨_,rfl,aa.mk (fun h0=>?_) fun h0=>⟨_,_,_,_,_,_,dm (ah b4 l0),m.2,af _ _ (ah b4 l1) 1,?_⟩⟩
 ·have h0:¬cq es m.1:=by simpa using h0
  exact fail 4 w4 (by rw [bj,if_pos fun h=>h0 h.1]) b4
 have i1:cq es m.1:=by simpa using h0
 refine(jL w4 x es (h3.on b4) m.2).mono ?_;rintro e w6 ⟨rfl,b6⟩;have b36:=ab b4 b6;refine⟨_,rfl,aa.mk (fun h0=>?_) fun h0=>?_⟩
 ·have h0:¬cq es m.2:=by simpa using h0
  exact fail 4 w6 (by rw [bj,if_pos fun h=>h0 h.2]) b36
 have i2:cq es m.2:=by simpa using h0
 intro w8 hw8;have b38:Below w3.heap.size w3 w8:=by subst hw8;exact b36.drew
 have h8:=h3.on b38;have l08:=ah b38 l0;have l18:=ah b38 l1;obtain⟨x1,hx1,e1⟩:=dY i1;obtain⟨x2,hx2,e2⟩:=dY i2;have hmap:∀(i:Nat) (y:bl),es[i]? =some y→(es.map (·.1))[i]? =some y.1:=fun i y hy=>by rw [List.getElem?_map,hy];rfl
 obtain⟨a1,ha1,_,hc1⟩:=h8.r1 _ _ (hmap _ _ hx1);obtain⟨a2,ha2,_,hc2⟩:=h8.r1 _ _ (hmap _ _ hx2);have c1:=hc1 0 _ rfl;have c2:=hc2 0 _ rfl;rw [an]at c1 c2;have:=i1.1;have:=i1.2;have:=i2.1;have:=i2.2;have s1:=hok.short x1 (List.mem_of_getElem? hx1);have s2:=hok.short x2 (List.mem_of_getElem? hx2);refine⟨_,_,_,af _ _ l08 0,m.1,af _ _ l18 0,ae.mk a1 ha1 ⟨by omega,by omega,str x1.1,c1,_,_,_,af _ _ l08 0,m.2,af _ _ l18 1,ae.mk a2 ha2 ⟨by omega,by omega,str x2.1,c2,?_⟩⟩⟩;have hj:str x1.1++str x2.1=str (bu es m):=by rw [bL,bu,e1,e2]
 have hjl:(bu es m).length=x1.1.length+x2.1.length:=by rw [bu,e1,e2,List.length_append]
 rw [hj];refine⟨by rw [aj,aj];show _≤(9223372036854775807:Int);omega,aa.mk (fun h0=>?_) fun h0=>?_⟩
 ·have h0:=of_decide_eq_true h0;rw [aj]at h0;exact fail 3 w8 (by rw [bj,if_neg (Classical.not_not.2 ⟨i1,i2⟩),if_pos (by omega)]) b38
 have hs:=of_decide_eq_false h0;rw [aj]at hs;have hs:¬64< (bu es m).length:=by omega
 refine⟨_,_,_,af _ _ l08 0,aa.mk (fun h0=>?_) fun h0=>⟨_,_,_,_,_,_,dm l08,?_⟩⟩
 ·have h0:=of_decide_eq_true h0;exact fail 5 w8 (by rw [bj,if_neg (Classical.not_not.2 ⟨i1,i2⟩),if_neg hs,if_pos (by omega)]) b38
 have h0:=of_decide_eq_false h0;have hk:¬1000≤es.length:=by omega
 refine(tH w8 x es h8 (by omega) (bu es m)).mono ?_;rintro e w11 ⟨rfl,b11⟩;have b311:=ab b38 b11;refine⟨_,rfl,aa.mk (fun h1=>?_) fun h1=>?_⟩
 ·have h1:=(tb es _).1 (of_decide_eq_true h1);exact fail 10 w11 (by rw [bj,if_neg (Classical.not_not.2 ⟨i1,i2⟩),if_neg hs,if_neg hk,if_pos h1]) b311
 have hnew:bu es m∉es.map (·.1):=fun hm=>of_decide_eq_false h1 ((tb es _).2 hm);have hadd:bj es m= .ok (bu es m,m):=by rw [bj,if_neg (Classical.not_not.2 ⟨i1,i2⟩),if_neg hs,if_neg hk,if_neg hnew]
 have h11:=h8.on b11;have l011:=ah b11 l08;have l111:=ah b11 l18;have l211:=ah b311 l2;have hz11:=b311.size;obtain⟨A1,C1,w13,hr13,o13,b13⟩:=wk (enc:=be) (sz:=1) (fun _=>rfl) (by decide) (fun y u hu=>by rw [List.mem_singleton.1 hu];rfl) da bE fp fO rfl w11 x.b (es.map (·.1)) h11.k1 h11.r1 (by rw [h11.n1];simp) (by omega) (by omega);have h13:=h11.on b13;have hmlen:(au es).length≤1000:=by have:=dK hok;omega
 have hn2:=h.n2;obtain⟨A2,C2,w14,hr14,o14,b14⟩:=wk (enc:=aD) (sz:=2) (fun _=>rfl) (by decide) (fun y=>cZ _ _) 33 lG lU nE rfl w13 x.m (au es) h13.k2 h13.r2 h13.n2 (by omega) (by omega);refine⟨_,_,_,af _ _ l011 0,A1,x.b.n,C1,w13,hr13,_,_,_,af _ _ (ah b13 l011) 1,A2,x.m.n,C2,w14,hr14,?_⟩;intro w15 hw15;have b15:Below w11.heap.size w11 w15:=by subst hw15;exact(ab b13 b14).drew
 have S15:w15.ownsRow w11.heap.size bE 1 (.slice A1 x.b.n C1) x.b.n ((es.map (·.1)).flatMap be):=by subst hw15;exact du (aL o13 b14)
 have P15:w15.ownsRow w11.heap.size lG 2 (.slice A2 x.m.n C2) x.m.n ((au es).flatMap aD):=by subst hw15;exact cD (du o14) b13.size
 have pair_at:∀ {wq:World},Below w11.heap.size w11 wq→wq.heap[w1.heap.size]? =some (.cells #[.int .i64 m.1,.int .i64 m.2] lG (0,0)):=fun hb=>Below.keeps hb (by omega) l111;have fin:∀(wq:World) (S P:Sl),wq.ownsRow w11.heap.size bE 1 S.v S.n (((es.map (·.1))++ [bu es m]).flatMap be)→wq.ownsRow w11.heap.size lG 2 P.v P.n ((au es++ [m]).flatMap aD)→Below w11.heap.size w11 wq→
   ar wq (nb w2) (fun w5=>
   ∃res0A:Option Addr,∃res0N:Nat,∃res0C:Nat,∃res1A:Option Addr,∃res1N:Nat,∃res1C:Nat,(w5.cell? (nb w2)=some (Value.slice res0A res0N res0C)∧w5.cell? ((nb w2).add 1)=some (Value.slice res1A res1N res1C)∧True)∧
   mz w x es m (Value.tuple #[Value.agg #[Value.slice res0A res0N res0C,Value.slice res1A res1N res1C],Value.int .i64 0]) w5) [Value.slice S.a S.n S.c,Value.slice P.a P.n P.c] 0:=by
  intro wq S P hS hP hbq;refine aN (Below.keeps hbq (by omega) l211) [S.v,P.v] rfl (aS _ _) ?_;intro w5 h5 hs5 hz5 hB5;have S5:=bD hS fun k hk=>hs5 k fun e=>by have:=(cn hS k hk).1;omega
  have P5:=bD hP fun k hk=>hs5 k fun e=>by have:=(cn hP k hk).1;omega
  obtain⟨rS,nS⟩:=Rw.of_own S5 (fun _=>rfl) (by decide);obtain⟨rP,nP⟩:=Rw.of_own P5 (fun _=>rfl) (by decide);have hmap:(es++ [(bu es m,m)]).map (·.1)=es.map (·.1)++ [bu es m]:=by simp
  have hmer:au (es++ [(bu es m,m)])=au es++ [m]:=by
   simp [au,List.drop_append_of_le_length hok.len]
  refine⟨_,_,_,_,_,_,dm h5,⟨S,P⟩,0,rfl,hB5 _ _ (by omega) ((hb03.trans (b311.mono hb03.size)).trans (hbq.mono (by omega))),?_⟩;rw [hadd];refine⟨rfl,⟨by rw [nS];simp,by rw [hmap];exact rS,jO S5,by rw [nP,hmer],by rw [hmer];exact rP,jO P5⟩,⟨fun p hp=>Nat.le_trans (hb03.trans (b311.mono hb03.size)).size (nu S5 p hp),fun p hp=>Nat.le_trans (hb03.trans (b311.mono hb03.size)).size (nu P5 p hp)⟩,Wr.of_own (cD P5 (hb03.trans (b311.mono hb03.size)).size) (by decide)⟩
 have pushS:∀ {wq:World} {b:Nat},wq.ownsRow w11.heap.size bE 1 (.slice A1 x.b.n C1) x.b.n ((es.map (·.1)).flatMap be)→wq.heap[b]? =some (.cells #[Value.string (str (bu es m))] bE (0,0))→Below w11.heap.size w11 wq→_:=fun {wq} {b} h1 h2 h3=>
  mX (enc:=be) (sz:=1) (fun _=>rfl) (by decide) (fun y u hu=>by rw [List.mem_singleton.1 hu];rfl) da bE fp fO rfl (s:=⟨A1,x.b.n,C1⟩) h1 (bu es m) h2 h3.size (by show(x.b.n+1)*16≤_;omega) (by show x.b.n+1≤_;omega)
 have pushP:∀ {wq:World} {b:Nat},wq.ownsRow w11.heap.size lG 2 (.slice A2 x.m.n C2) x.m.n ((au es).flatMap aD)→wq.heap[b]? =some (.cells #[Value.int .i64 m.1,Value.int .i64 m.2] lG (0,0))→Below w11.heap.size w11 wq→_:=fun {wq} {b} h1 h2 h3=>
  mX (enc:=aD) (sz:=2) (fun _=>rfl) (by decide) (fun y=>cZ _ _) 33 lG lU nE rfl (s:=⟨A2,x.m.n,C2⟩) h1 m h2 h3.size (by show(x.m.n+1)*16≤_;omega) (by show x.m.n+1≤_;omega)
 refine⟨m.1,m.2,dm (pair_at b15),?_,?_⟩
 ·intro w16 hw16;have b16:Below w11.heap.size w11 w16:=by subst hw16;exact b15.alloc b15.size _
  have c16:Below w15.heap.size w15 w16:=by subst hw16;exact ag _ _
  have s16:w16.heap[w15.heap.size]? =some (.cells #[Value.string (str (bu es m))] bE (0,0)):=by subst hw16;exact ao _ _
  refine⟨dm (pair_at b16),?_,?_⟩
  ·obtain⟨A3,C3,w17,hr17,o17,b17,k17⟩:=pushS (aL S15 c16) s16 b16;have bb17:=b17 _ b16;refine⟨A3,_,C3,w17,hr17,dm (pair_at bb17),?_⟩;intro w18 hw18;have c18:Below w17.heap.size w17 w18:=by subst hw18;exact ag _ _
   have b18:Below w11.heap.size w11 w18:=by subst hw18;exact bb17.alloc bb17.size _
   have m18:w18.heap[w17.heap.size]? =some (.cells #[Value.int .i64 m.1,Value.int .i64 m.2] lG (0,0)):=by subst hw18;exact ao _ _
   have P17:=bD (aL P15 c16) fun k hk=>k17 k (cn (aL P15 c16) k hk).2 (dj (aL P15 c16) (aL S15 c16) (by decide) k hk);obtain⟨A4,C4,w19,hr19,o19,b19,k19⟩:=pushP (aL P17 c18) m18 b18;refine⟨A4,_,C4,w19,hr19,?_⟩;have S18:=aL o17 c18;exact fin w19 ⟨A3,x.b.n+1,C3⟩ ⟨A4,x.m.n+1,C4⟩ (bD S18 fun k hk=>k19 k (cn S18 k hk).2 (dj S18 (aL P17 c18) (by decide) k hk)) o19 (b19 _ b18)
  ·intro w21 hw21;have c21:Below w16.heap.size w16 w21:=by subst hw21;exact ag _ _
   have b21:Below w11.heap.size w11 w21:=by subst hw21;exact b16.alloc b16.size _
   have m21:w21.heap[w16.heap.size]? =some (.cells #[Value.int .i64 m.1,Value.int .i64 m.2] lG (0,0)):=by subst hw21;exact ao _ _
   have S21:=aL (aL S15 c16) c21;have P21:=aL (aL P15 c16) c21;obtain⟨A3,C3,w22,hr22,o22,b22,k22⟩:=pushS S21 (ah c21 s16) b21;have P22:=bD P21 fun k hk=>k22 k (cn P21 k hk).2 (dj P21 S21 (by decide) k hk);have m22:w22.heap[w16.heap.size]? =some (.cells #[Value.int .i64 m.1,Value.int .i64 m.2] lG (0,0)):=by
    rw [k22 _ (Array.getElem?_eq_some_iff.1 m21).1 (bR S21 m21 (by decide))];exact m21
   obtain⟨A4,C4,w23,hr23,o23,b23,k23⟩:=pushP P22 m22 (b22 _ b21);exact⟨A3,_,C3,w22,hr22,A4,_,C4,w23,hr23,fin w23 ⟨A3,x.b.n+1,C3⟩ ⟨A4,x.m.n+1,C4⟩ (bD o22 fun k hk=>k23 k (cn o22 k hk).2 (dj o22 P22 (by decide) k hk)) o23 (b23 _ (b22 _ b21))⟩
 ·intro w25 hw25 w26 hw26;have c25:Below w15.heap.size w15 w25:=by subst hw25;exact ag _ _
  have b25:Below w11.heap.size w11 w25:=by subst hw25;exact b15.alloc b15.size _
  have m25:w25.heap[w15.heap.size]? =some (.cells #[Value.int .i64 m.1,Value.int .i64 m.2] lG (0,0)):=by subst hw25;exact ao _ _
  have c26:Below w25.heap.size w25 w26:=by subst hw26;exact ag _ _
  have b26:Below w11.heap.size w11 w26:=by subst hw26;exact b25.alloc b25.size _
  have s26:w26.heap[w25.heap.size]? =some (.cells #[Value.string (str (bu es m))] bE (0,0)):=by subst hw26;exact ao _ _
  have S26:=aL (aL S15 c25) c26;have P26:=aL (aL P15 c25) c26;have m26:=ah c26 m25;obtain⟨A3,C3,w27,hr27,o27,b27,k27⟩:=pushS S26 s26 b26;have P27:=bD P26 fun k hk=>k27 k (cn P26 k hk).2 (dj P26 S26 (by decide) k hk);have m27:w27.heap[w15.heap.size]? =some (.cells #[Value.int .i64 m.1,Value.int .i64 m.2] lG (0,0)):=by
   rw [k27 _ (Array.getElem?_eq_some_iff.1 m26).1 (bR S26 m26 (by decide))];exact m26
  obtain⟨A4,C4,w28,hr28,o28,b28,k28⟩:=pushP P27 m27 (b27 _ b26);exact⟨A3,_,C3,w27,hr27,A4,_,C4,w28,hr28,fin w28 ⟨A3,x.b.n+1,C3⟩ ⟨A4,x.m.n+1,C4⟩ (bD o27 fun k hk=>k28 k (cn o27 k hk).2 (dj o27 P27 (by decide) k hk)) o28 (b28 _ (b27 _ b26))⟩
theorem gZ (w:World) (x:iU) (es:List bl) (h:eA w x es) (hok:gW es) (m:Int×Int):CP 158 #[x.v,.agg #[.int .i64 m.1,.int .i64 m.2]] w fun e w'=>∃u,e= .returned u∧F_ w x es m u w':=by
 refine(mE w x es h hok m).mono fun e w' ⟨u,he,x',n,hu,hb,hp⟩=>⟨u,he,x',n,hu,hb,?_⟩;cases hx:bj es m with
 |error n0=>rw [hx]at hp;exact hp
 |ok y=>rw [hx]at hp;exact⟨hp.1,hp.2.1,hp.2.2.1⟩
theorem oD (a b:Sl):∀v∈(#[a.v,b.v]:Array Value),¬mu v:=by
 intro v hv;have hv:v=a.v∨v=b.v:=by simpa using hv
 rcases hv with rfl |rfl<;>(rintro(⟨k,n,h⟩ |⟨s,h⟩)<;>cases h)
theorem eA.past {w w':World} {x:iU} {es:List bl} {b:Nat} {p q:Sl} {T:TypeId} {fz:Nat×Nat} (h:eA w x es) (hb:w.heap[b]? =some (.cells #[p.v,q.v] T fz)) (hne:∀j,j<w.heap.size→j≠b→w'.heap[j]? =w.heap[j]?) (hs:w.heap.size≤w'.heap.size):eA w' x es:=
 ⟨h.n1,h.r1.past (fun y=>⟨_,rfl,.inr ⟨_,rfl⟩⟩) hb (oD p q) hne hs,h.k1,h.n2,h.r2.past (fun y=>⟨_,rfl,.inl ⟨_,_,rfl⟩⟩) hb (oD p q) hne hs,h.k2⟩
def wa (w:World) (ms:List (Int×Int)) (u:Value) (w':World):Prop:=∃(x:iU) (n e:Int),u= .tuple #[x.v,.int .i64 n,.int .i64 e]∧Below w.heap.size w w'∧(match bG bf 0 ms with
 | .error q=>n=q.1∧e=q.2
 | .ok es=>n=ms.length∧e=0∧eA w' x es∧gW es∧iI w.heap.size x)
theorem wl (w:World) (A:Option Addr) (C:Nat) (ms:List (Int×Int)) (hr:Rw aD 2 w A ms) (hl:ms.length≤1000000):CP 141 #[.slice A ms.length C] w fun e w'=>∃u,e= .returned u∧wa w ms u w':=by
 refine vb A ms.length C w (wa w ms) ?_;intro w1 hw1;have hb1:Below w.heap.size w w1:=by subst hw1;exact ag _ _
 have z1:w1.heap[w.heap.size]? =some (.cells #[(⟨none,0,0⟩:Sl).v,(⟨none,0,0⟩:Sl).v] na (0,0)):=by subst hw1;exact ao _ _
 refine(iF w1).mono ?_;rintro e w2 ⟨x0,rfl,h2,b2,f2⟩;have z2:=ah b2 z1;have hlt2:w.heap.size<w2.heap.size:=(Array.getElem?_eq_some_iff.1 z2).1;refine⟨_,_,_,_,_,_,rfl,?_⟩;intro w3 hw3;refine aJ [.slice none 0 0,.slice none 0 0] [x0.b.v,x0.m.v] rfl (aS _ _) w3 hw3 ?_;intro w4 h4 hz4 b4;have hb14:Below w.heap.size w w4:=ab hb1 (ab b2 b4);intro I hI;have key:=aK (α:=Int×Int×World) ms.length (fun i y=>∃(x:iU) (es:List bl),y.2.2.heap[w2.heap.size]? =some (.cells #[x.b.v,x.m.v] na (0,0))∧y.2.2.heap[w.heap.size]? =some (.cells #[(⟨none,0,0⟩:Sl).v,(⟨none,0,0⟩:Sl).v] na (0,0))∧eA y.2.2 x es∧gW es∧bG bf 0 ms=bG es i (ms.drop i)∧Below w.heap.size w y.2.2∧iI w.heap.size x) (fun i y=>I [.int .i64 (i:Int),.int .i64 y.1,.int .i64 y.2.1] y.2.2) (0,0,w4) ⟨x0,bf,h4,ah b4 z2,h2.on b4,kw,by rw [List.drop_zero],hb14,f2.mono hb1.size⟩ ?_ ?_
 ·exact key
 ·rintro i hi ih ⟨y4,y3,w5⟩ ⟨x,es,h5,z5,hx5,hok,heq,hB5,f5⟩;change w5.heap[w2.heap.size]? =_ at h5;change w5.heap[w.heap.size]? =_ at z5;change eA w5 x es at hx5;change Below w.heap.size w w5 at hB5;have hdrop:ms.drop i=ms[i]::ms.drop (i+1):=List.drop_eq_getElem_cons hi;refine hI _ _ _ _ (aa.yes (by simp;omega) ?_);intro w6 hw6;have b6:Below w5.heap.size w5 w6:=by subst hw6;exact ba w5
  have h6:=ah b6 h5;have z6:=ah b6 z5;have hx6:=hx5.on b6;have hB6:Below w.heap.size w w6:=hB5.trans (b6.mono hB5.size);obtain⟨q,hq,_,hc⟩:=(hr.on hB6) i _ (List.getElem?_eq_getElem hi);have c0:=hc 0 _ rfl;rw [an]at c0;have hlt6:w2.heap.size<w6.heap.size:=(Array.getElem?_eq_some_iff.1 h6).1;have rest:∀(loc:Nat) (wq:World) (x':iU) (n:Int),loc≠w2.heap.size→wq.heap[loc]? =some (.cells #[x'.b.v,x'.m.v] na (0,0))→wq.heap[w2.heap.size]? =some (.cells #[x.b.v,x.m.v] na (0,0))→wq.heap[w.heap.size]? =some (.cells #[(⟨none,0,0⟩:Sl).v,(⟨none,0,0⟩:Sl).v] na (0,0))→Below w.heap.size w wq→(match bj es ms[i]with
    | .error n0=>n=n0∧x'=x
    | .ok y=>n=0∧eA wq x' (es++ [y])∧iI w.heap.size x')→
    aa ((n:Int) != 0)
     (∃g0A:Option Addr,∃g0N:Nat,∃g0C:Nat,∃g1A:Option Addr,∃g1N:Nat,∃g1C:Nat,(wq.cell? (nb w2)=some (Value.slice g0A g0N g0C)∧wq.cell? ((nb w2).add 1)=some (Value.slice g1A g1N g1C)∧True)∧
      ar wq (nb w) (fun w10=>
      ∃res0A:Option Addr,∃res0N:Nat,∃res0C:Nat,∃res1A:Option Addr,∃res1N:Nat,∃res1C:Nat,(w10.cell? (nb w)=some (Value.slice res0A res0N res0C)∧w10.cell? ((nb w).add 1)=some (Value.slice res1A res1N res1C)∧True)∧
      wa w ms (Value.tuple #[Value.agg #[Value.slice res0A res0N res0C,Value.slice res1A res1N res1C],Value.int .i64 (i:Int),Value.int .i64 n]) w10) [Value.slice g0A g0N g0C,Value.slice g1A g1N g1C] 0)
     (∃g0A:Option Addr,∃g0N:Nat,∃g0C:Nat,∃g1A:Option Addr,∃g1N:Nat,∃g1C:Nat,(wq.cell? ⟨loc,0,none⟩=some (Value.slice g0A g0N g0C)∧wq.cell? ((⟨loc,0,none⟩:Addr).add 1)=some (Value.slice g1A g1N g1C)∧True)∧
      ar wq (nb w2) (fun w11=>
      Ar .i64 ((i:Int)+1) (fun n=>
      I [Value.int .i64 n,Value.int .i64 y4,Value.int .i64 y3] w11)) [Value.slice g0A g0N g0C,Value.slice g1A g1N g1C] 0):=by
   intro loc wq x' n hloc hl hb2 hb0 hBq hm;cases hx:bj es ms[i]with
   |error n0=>
    rw [hx]at hm;obtain⟨rfl,rfl⟩:=hm;refine aa.yes (by simpa using dV hx) ⟨_,_,_,_,_,_,dm hb2,?_⟩;refine aN hb0 [x'.b.v,x'.m.v] rfl (aS _ _) ?_;intro w10 h10 hs10 hz10 hB10;refine⟨_,_,_,_,_,_,dm h10,x',_,_,rfl,hB10 _ _ (Nat.le_refl _) hBq,?_⟩;rw [heq,hdrop,bG,hx];exact⟨rfl,rfl⟩
   |ok y=>
    rw [hx]at hm;obtain⟨rfl,hx',fx⟩:=hm;refine aa.no rfl ⟨_,_,_,_,_,_,dm hl,?_⟩;refine aN hb2 [x'.b.v,x'.m.v] rfl (aS _ _) ?_;intro w11 h11 hs11 hz11 hB11;refine Ar.ok64 (by omega) (by omega) (ih (y4,y3,w11) ⟨x',es++ [y],h11,?_,hx'.past hb2 (fun j _ hj=>hs11 j hj) (Nat.le_of_eq hz11.symm),(iQ hok hx).1,?_,hB11 _ _ (by omega) hBq,fx⟩)
    ·show w11.heap[w.heap.size]? =_;rw [hs11 _ (by omega)];exact hb0
    ·rw [heq,hdrop,bG,hx]
  refine⟨_,_,_,_,_,_,dm h6,ae.mk q hq ⟨by omega,by omega,_,_,⟨c0,hc 1 _ rfl,trivial⟩,?_,?_⟩⟩
  ·refine(gZ w6 x es hx6 hok ms[i]).mono ?_;rintro e w7 ⟨u,rfl,x',n,rfl,b7,hp⟩;refine⟨_,_,_,_,_,_,n,rfl,?_⟩;intro w8 hw8;refine aJ [.slice none 0 0,.slice none 0 0] [x'.b.v,x'.m.v] rfl (aS _ _) w8 hw8 ?_;intro w9 h9 hz9 b9;have hz7:=b7.size;refine rest w7.heap.size w9 x' n (by omega) h9 (ah b9 (ah b7 h6)) (ah b9 (ah b7 z6)) ((hB6.trans (b7.mono hB6.size)).trans (b9.mono (Nat.le_trans hB6.size hz7))) ?_;cases hx:bj es ms[i]with
   |error n0=>rw [hx]at hp;exact hp
   |ok y=>rw [hx]at hp;exact⟨hp.1,hp.2.1.on b9,hp.2.2.mono hB6.size⟩
  ·intro w12 hw12;have b12:Below w6.heap.size w6 w12:=by subst hw12;exact ag _ _
   have l12:w12.heap[w6.heap.size]? =some (.cells #[Value.slice none 0 0,Value.slice none 0 0] na (0,0)):=by subst hw12;exact ao _ _
   have hB12:Below w.heap.size w w12:=hB6.trans (b12.mono hB6.size);obtain⟨q',hq',_,hc'⟩:=(hr.on hB12) i _ (List.getElem?_eq_getElem hi);have hqq:q'=q:=by rw [hq]at hq';exact(Option.some.inj hq').symm
   subst hqq;have c0':=hc' 0 _ rfl;rw [an]at c0';refine⟨⟨c0',hc' 1 _ rfl,trivial⟩,dm (ah b12 h6),?_⟩;refine(gZ w12 x es (hx6.on b12) hok ms[i]).mono ?_;rintro e w13 ⟨u,rfl,x',n,rfl,b13,hp⟩;refine⟨_,_,_,_,_,_,n,rfl,?_⟩;refine aN (ah b13 l12) [x'.b.v,x'.m.v] rfl (aS _ _) ?_;intro w14 h14 hs14 hz14 hB14;refine rest w6.heap.size w14 x' n (by omega) h14 (by rw [hs14 _ (by omega)];exact ah b13 (ah b12 h6)) (by rw [hs14 _ (by omega)];exact ah b13 (ah b12 z6)) (hB14 _ _ (by omega) (hB12.trans (b13.mono hB12.size))) ?_;cases hx:bj es ms[i]with
   |error n0=>rw [hx]at hp;exact hp
   |ok y=>rw [hx]at hp;exact⟨hp.1,hp.2.1.past (p:=⟨none,0,0⟩) (q:=⟨none,0,0⟩) (ah b13 l12) (fun j _ hj=>hs14 j hj) (Nat.le_of_eq hz14.symm),hp.2.2.mono hB12.size⟩
 ·rintro⟨y4,y3,w5⟩ ⟨x,es,h5,z5,hx5,hok,heq,hB5,f5⟩;change w5.heap[w2.heap.size]? =_ at h5;change w5.heap[w.heap.size]? =_ at z5;refine hI _ _ _ _ (aa.no (by simp) ⟨_,_,_,_,_,_,dm h5,?_⟩);refine aN z5 [x.b.v,x.m.v] rfl (aS _ _) ?_;intro w17 h17 hs17 hz17 hB17;refine⟨_,_,_,_,_,_,dm h17,x,_,_,rfl,hB17 _ _ (Nat.le_refl _) hB5,?_⟩;rw [heq,List.drop_length,bG];exact⟨rfl,rfl,hx5.past z5 (fun j _ hj=>hs17 j hj) (Nat.le_of_eq hz17.symm),hok,f5⟩
theorem Ar.nat {z:Int} {F:Int→Prop} (n:Nat) (hz:z=(n:Int)) (hn:n≤9223372036854775807) (h:F (n:Int)):Ar .i64 z F:=by
 subst hz;exact Ar.ok64 (by omega) (by omega) h
def oP (n:Int):List Value:=[.int .u16 n]
theorem oS {m:Int×Int} {y:bl} {es:List bl} (hy:bj es m= .ok y):∀(ms:List (Int×Int)) (es0:List bl) (i:Nat),bG es0 i ms= .ok es→bG es0 i (ms++ [m])= .ok (es++ [y])
 | [],es0,i,h=>by
  cases h;rw [List.nil_append,bG,hy];rfl
 |q::ms,es0,i,h=>by
  rw [bG]at h;rw [List.cons_append,bG];cases hq:bj es0 q with
  |error n=>rw [hq]at h;cases h
  |ok x=>rw [hq]at h;exact oS hy ms _ _ h
theorem rR {es:List bl} (h:gW es) (y:bl):au (es++ [y])=au es++ [y.2]:=by
 simp [au,List.drop_append_of_le_length h.len]
theorem cz {α:Type} {enc:α→List Value} {w:World} {a:Option Addr} {xs:List α} (h:Rw enc 1 w a xs) {i:Nat} (hi:i<xs.length) {v:Value} (hv:(enc xs[i])[0]? =some v):∃q,a=some q∧w.cell? (q.add (i*1))=some v:=by
 obtain⟨q,hq,_,hc⟩:=h i _ (List.getElem?_eq_getElem hi);have:=hc 0 _ hv;rw [an]at this;exact⟨q,hq,this⟩
def og (es:List bl) (c:Int):Int:=
 if decide (Int.tmod (IntKind.wrap .i64 c) ((es.length+(au es).length:Nat):Int)≥((es.length:Nat):Int))=true
 then IntKind.wrap .i64 (IntKind.wrap .i64 (256+Int.tmod (IntKind.wrap .i64 c) ((es.length+(au es).length:Nat):Int))- ((es.length:Nat):Int))
 else Int.tmod (IntKind.wrap .i64 c) ((es.length+(au es).length:Nat):Int)
def AO (es:List bl) (a b:Int):List bl:=match bj es (og es a,og es b)with
 | .ok y=>es++ [y]
 | .error _=>es
def gY (l:List Int):Nat→List bl
 |0=>bf
 |i+1=>if 2*i+1<l.length then AO (gY l i) (l.getD (2*i) 0) (l.getD (2*i+1) 0)else gY l i
theorem pN {l:List Int} {i:Nat} (h:l.length≤2*i+1):∀d,gY l (i+d)=gY l i
 |0=>rfl
 |d+1=>by rw [←Nat.add_assoc,gY,if_neg (by omega),pN h d]
theorem sA (w:World) (A:Option Addr) (C:Nat) (l:List Int) (hr:Rw oP 1 w A l):CP 103 #[.slice A l.length C] w fun e w'=>∃(x:iU) (es:List bl),e= .returned x.v∧eA w' x es∧gW es∧bG bf 0 (au es)= .ok es∧es=gY l 30∧Below w.heap.size w w'∧Wr w' x.m 2 (w.heap.size+1):=by
 refine az (wt A l.length C w (fun u w'=>∃(x:iU) (es:List bl),u=x.v∧eA w' x es∧gW es∧bG bf 0 (au es)= .ok es∧es=gY l 30∧Below w.heap.size w w'∧Wr w' x.m 2 (w.heap.size+1)) ?_) (by rintro v w' ⟨x,es,rfl,h⟩;exact⟨x,es,rfl,h⟩);intro w1 hw1;have hb1:Below w.heap.size w w1:=by subst hw1;exact ag _ _
 have z1:w1.heap[w.heap.size]? =some (.cells #[(⟨none,0,0⟩:Sl).v,(⟨none,0,0⟩:Sl).v] na (0,0)):=by subst hw1;exact ao _ _
 refine(iF w1).mono ?_;rintro e w2 ⟨x0,rfl,h2,b2,_⟩;have z2:=ah b2 z1;have hlt2:w.heap.size<w2.heap.size:=(Array.getElem?_eq_some_iff.1 z2).1;refine⟨_,_,_,_,_,_,rfl,?_⟩;intro w3 hw3;refine aJ [.slice none 0 0,.slice none 0 0] [x0.b.v,x0.m.v] rfl (aS _ _) w3 hw3 ?_;intro w4 h4 hz4 b4;have hb14:Below w.heap.size w w4:=ab hb1 (ab b2 b4);intro I hI;let Inv (i:Nat) (q:World):Prop:=∃(x:iU) (es:List bl),q.heap[w2.heap.size]? =some (.cells #[x.b.v,x.m.v] na (0,0))∧q.heap[w.heap.size]? =some (.cells #[(⟨none,0,0⟩:Sl).v,(⟨none,0,0⟩:Sl).v] na (0,0))∧eA q x es∧gW es∧bG bf 0 (au es)= .ok es∧es=gY l i∧Below w.heap.size w q∧Wr q x.m 2 (w.heap.size+1);have fin:∀(i:Nat) (q:World),gY l 30=gY l i→Inv i q→∃g0A:Option Addr,∃g0N:Nat,∃g0C:Nat,∃g1A:Option Addr,∃g1N:Nat,∃g1C:Nat,(q.cell? (nb w2)=some (Value.slice g0A g0N g0C)∧q.cell? ((nb w2).add 1)=some (Value.slice g1A g1N g1C)∧True)∧
   ar q (nb w) (fun w5=>∃res0A:Option Addr,∃res0N:Nat,∃res0C:Nat,∃res1A:Option Addr,∃res1N:Nat,∃res1C:Nat,(w5.cell? (nb w)=some (Value.slice res0A res0N res0C)∧w5.cell? ((nb w).add 1)=some (Value.slice res1A res1N res1C)∧True)∧
    (∃(x:iU) (es:List bl),Value.agg #[Value.slice res0A res0N res0C,Value.slice res1A res1N res1C]=x.v∧eA w5 x es∧gW es∧bG bf 0 (au es)= .ok es∧es=gY l 30∧Below w.heap.size w w5∧Wr w5 x.m 2 (w.heap.size+1))) [Value.slice g0A g0N g0C,Value.slice g1A g1N g1C] 0:=by
  rintro i q hst ⟨x,es,hq2,hq0,hx,hok,hnew,hes,hB,hW⟩;refine⟨_,_,_,_,_,_,dm hq2,?_⟩;refine aN hq0 [x.b.v,x.m.v] rfl (aS _ _) ?_;intro w5 h5 hs5 hz5 hB5;exact⟨_,_,_,_,_,_,dm h5,x,es,rfl,hx.past hq0 (fun j _ hj=>hs5 j hj) (Nat.le_of_eq hz5.symm),hok,hnew,hes.trans hst.symm,hB5 _ _ (Nat.le_refl _) hB,hW.off (Nat.lt_succ_self _) fun j hj=>hs5 j hj⟩
 have key:=aK (α:=World) 30 Inv (fun i q=>I [.int .i64 ((2*i:Nat):Int)] q) w4 ⟨x0,bf,h4,ah b4 z2,h2.on b4,kw,rfl,rfl,hb14,.inl h2.n2⟩ ?_ ?_
 ·exact key
 ·rintro i hi ih w5 hinv;refine hI _ _ (Ar.nat (2*i+1) (by omega) (by omega) (aa.mk (fun hl=>?_) fun hl=>fin i w5 (by have:=of_decide_eq_false hl;have e:=pN (l:=l) (i:=i) (by omega) (30-i);rwa [show i+(30-i)=30 by omega]at e) hinv));have hl:2*i+1<l.length:=by have:=of_decide_eq_true hl;omega
  refine aa.yes (by simp;omega) ?_;intro J hJ w7 hw7;obtain⟨x,es,h5,z5,hx5,hok,hnew,hes,hB5,hW5⟩:=hinv;have hstep:gY l (i+1)=AO es l[2*i] l[2*i+1]:=by rw [gY,if_pos hl, ←hes];simp [List.getD,hl,show 2*i<l.length by omega]
  have hJ':∀q,Inv (i+1) q→J [] q:=fun q hq=>hJ q (Ar.nat (2*(i+1)) (by omega) (by omega) (ih q hq));have b7:Below w5.heap.size w5 w7:=by subst hw7;exact ba w5
  have h7:=ah b7 h5;have z7:=ah b7 z5;have hx7:=hx5.on b7;have hB7:Below w.heap.size w w7:=hB5.trans (b7.mono hB5.size);have hlt7:w2.heap.size<w7.heap.size:=(Array.getElem?_eq_some_iff.1 h7).1;obtain⟨q,hq,c0⟩:=cz (hr.on hB7) (i:=2*i) (by omega) rfl;obtain⟨q',hq',c1⟩:=cz (hr.on hB7) (i:=2*i+1) (by omega) rfl;have hn1:=hx7.n1;have hn2:=hx7.n2;have hmost:=hok.most;have hlen:=hok.len;have hml:=dK hok;have pick_yes:∀ {c:Int},decide (Int.tmod (IntKind.wrap .i64 c) ((x.b.n+x.m.n:Nat):Int)≥((x.b.n:Nat):Int))=true→IntKind.wrap .i64 (IntKind.wrap .i64 (256+Int.tmod (IntKind.wrap .i64 c) ((x.b.n+x.m.n:Nat):Int))- ((x.b.n:Nat):Int))=og es c:=by
   intro c hc;rw [hn1,hn2]at hc⊢;rw [og,if_pos hc]
  have pick_no:∀ {c:Int},decide (Int.tmod (IntKind.wrap .i64 c) ((x.b.n+x.m.n:Nat):Int)≥((x.b.n:Nat):Int))=false→Int.tmod (IntKind.wrap .i64 c) ((x.b.n+x.m.n:Nat):Int)=og es c:=by
   intro c hc;rw [hn1,hn2]at hc⊢;rw [og,if_neg (by rw [hc];exact Bool.false_ne_true)]
  refine ae.mk q hq ⟨by omega,by omega,_,c0,_,_,_,af _ _ h7 0,_,_,_,af _ _ h7 1,Ar.nat (x.b.n+x.m.n) (by omega) (by omega) ⟨by omega,Ar.nat (2*i+1) (by omega) (by omega) (ae.mk q' hq' ⟨by omega,by omega,_,c1,_,_,_,af _ _ h7 0,_,_,_,af _ _ h7 1,Ar.nat (x.b.n+x.m.n) (by omega) (by omega) ⟨by omega,?_⟩⟩)⟩⟩;intro J22 hJ22;have all:∀a:Int,a=og es l[2*i]→J22 [.int .i64 a] w7:=by
   intro a hpa;refine hJ22 a w7 ?_;intro J23 hJ23;have all2:∀b:Int,b=og es l[2*i+1]→J23 [.int .i64 b] w7:=by
    intro b hpb;refine hJ23 b w7 ⟨_,_,_,_,_,_,dm h7,?_⟩;refine(mE w7 x es hx7 hok (a,b)).mono ?_;rintro e w10 ⟨u,rfl,x',n,rfl,b10,hp⟩;refine⟨_,_,_,_,_,_,n,rfl,?_⟩;intro w11 hw11;refine aJ [.slice none 0 0,.slice none 0 0] [x'.b.v,x'.m.v] rfl (aS _ _) w11 hw11 ?_;intro w12 h12 hz12 b12;have b712:=ab b10 b12;have h2':=ah b712 h7;have z2':=ah b712 z7;have hB12:Below w.heap.size w w12:=hB7.trans (b712.mono hB7.size);cases hx:bj es (a,b)with
    |error n0=>
     rw [hx]at hp;obtain⟨rfl,rfl⟩:=hp;refine aa.no (by simpa using dV hx) (hJ' w12 ⟨x',es,h2',z2',hx7.on b712,hok,hnew,by rw [hstep,AO, ←hpa, ←hpb,hx],hB12,(hW5.on b7).on b712⟩)
    |ok y=>
     rw [hx]at hp;obtain⟨rfl,hx',_,hW'⟩:=hp;refine aa.yes rfl ⟨_,_,_,_,_,_,dm h12,?_⟩;refine aN h2' [x'.b.v,x'.m.v] rfl (aS _ _) ?_;intro w13 h13 hs13 hz13 hB13;have hadd:=iQ hok hx;refine hJ' w13 ⟨x',es++ [y],h13,?_,(hx'.on b12).past h2' (fun j _ hj=>hs13 j hj) (Nat.le_of_eq hz13.symm),hadd.1,?_,by rw [hstep,AO, ←hpa, ←hpb,hx],hB13 _ _ (by omega) hB12,((hW'.on b12).off hlt7 fun j hj=>hs13 j hj).base (by omega)⟩
     ·rw [hs13 _ (by omega)];exact z2'
     ·rw [rR hok,hadd.2.1];exact oS hx _ _ _ hnew
   exact⟨_,_,_,af _ _ h7 0,aa.mk (fun hc=>⟨_,_,_,af _ _ h7 0,all2 _ (pick_yes hc)⟩) fun hc=>all2 _ (pick_no hc)⟩
  exact⟨_,_,_,af _ _ h7 0,aa.mk (fun hc=>⟨_,_,_,af _ _ h7 0,all _ (pick_yes hc)⟩) fun hc=>all _ (pick_no hc)⟩
 ·rintro w5 hinv;refine hI _ _ (Ar.nat (2*30+1) (by omega) (by omega) (aa.mk (fun hl=>?_) fun hl=>fin 30 w5 rfl hinv));exact aa.no (by simp) (fin 30 w5 rfl hinv)
structure gN {α:Type} (enc:α→List Value) (sz:Nat) (w:World) (l:Sl) (xs:List α):Prop where
 n:l.n=xs.length
 r:Rw enc sz w l.a xs
 k:jf l
structure Fb {α:Type} (enc:α→List Value) (sz:Nat) (t e:TypeId) (bytes:Nat):Prop where
 hsz:∀x,(enc x).length=sz
 h0:0<sz
 h1:∀x,∀u∈enc x,u.oneCell'=true
 ht:Tryz.prog.underlying t=some (.slice e)
 hz:∃z:Value,(Tryz.prog.info? e).map (fun i=>(i.zero,i.size,i.bytes))=some (some z,sz,bytes)∧z.cells.size=sz
theorem ic:Fb aQ 1 nT cE 8:=⟨fun _=>rfl,by decide,fun x u hu=>by rw [List.mem_singleton.1 hu];rfl,px,_,um,rfl⟩
theorem D4:Fb be 1 da bE 16:=⟨fun _=>rfl,by decide,fun x u hu=>by rw [List.mem_singleton.1 hu];rfl,fp,_,fO,rfl⟩
theorem gN.of_own {α:Type} {enc:α→List Value} {sz bytes:Nat} {t e:TypeId} (E:Fb enc sz t e bytes) {w:World} {B:Nat} {l:Sl} {xs:List α} (h:w.ownsRow B e sz l.v l.n (xs.flatMap enc)):gN enc sz w l xs:=
 have:=Rw.of_own h E.hsz E.h0
 ⟨this.2,this.1,jO h⟩
theorem Fb.push {α:Type} {enc:α→List Value} {sz bytes:Nat} {t e:TypeId} (E:Fb enc sz t e bytes) {B:Nat} {w2 w3:World} {s:Sl} {xs:List α} (hown:w2.ownsRow B e sz s.v s.n (xs.flatMap enc)) (x:α) {T:TypeId} {c:Array Value} (hw:w3=w2.alloc (.cells c T)) (hc:c=(enc x).toArray) (hB:B≤w2.heap.size) (hn:s.n≤1000000000) (hb:bytes≤1000):
  ∃(l:Sl) (w4:World),l.n=s.n+1∧(Builtin.append_ #[t,t] t #[.slice s.a s.n s.c,.slice (some (nb w2)) 1 1]).run Tryz.prog w3= .ok (.slice l.a l.n l.c) w4∧w4.ownsRow B e sz l.v l.n ((xs++ [x]).flatMap enc)∧(∀w0,Below B w0 w2→Below B w0 w4)∧(∀k,k<w2.heap.size→s.v.ownBlock≠some k→w4.heap[k]? =w2.heap[k]?):=by
 obtain⟨z,hi,hzs⟩:=E.hz;subst hw hc;have hba:=ag w2 (.cells (enc x).toArray T);have hmul:(s.n+1)*bytes≤(1000000000+1)*1000:=Nat.mul_le_mul (by omega) hb;obtain⟨A,C,w4,h1,h2,h3,h4⟩:=mX (enc:=enc) (sz:=sz) E.hsz E.h0 E.h1 t e E.ht hi hzs (aL hown hba) x (ao w2 _) (Nat.le_trans hB hba.size) (by omega) (by omega);refine⟨⟨A,s.n+1,C⟩,w4,rfl,h1,h2,fun w0 h0=>h3 w0 (h0.trans (hba.mono hB)),fun k hk hne=>?_⟩;rw [h4 k (Nat.lt_of_lt_of_le hk hba.size) hne,hba.block k hk]
theorem Fb.spread {α:Type} {enc:α→List Value} {sz bytes:Nat} {t e:TypeId} (E:Fb enc sz t e bytes) {B:Nat} {w2:World} {s l:Sl} {xs ys:List α} (hown:w2.ownsRow B e sz s.v s.n (xs.flatMap enc)) (hl:gN enc sz w2 l ys) (hB:B≤w2.heap.size) (hn:s.n≤1000000000) (hm:l.n≤1000000000) (hb:bytes≤1000):
  ∃(r:Sl) (w4:World),r.n=s.n+l.n∧(Builtin.append_ #[t,t] t #[.slice s.a s.n s.c,.slice l.a l.n l.c]).run Tryz.prog w2= .ok (.slice r.a r.n r.c) w4∧w4.ownsRow B e sz r.v r.n ((xs++ys).flatMap enc)∧(∀w0,Below B w0 w2→Below B w0 w4)∧(∀k,k<w2.heap.size→s.v.ownBlock≠some k→w4.heap[k]? =w2.heap[k]?)∧∀k,r.v.ownBlock=some k→s.v.ownBlock=some k∨w2.heap.size≤k:=by
 obtain⟨z,hi,hzs⟩:=E.hz;have hmul:(s.n+l.n)*bytes≤(1000000000+1000000000)*1000:=Nat.mul_le_mul (by omega) hb;have hr:=hl.r;obtain⟨A,C,w4,h1,h2,h3,h4,h5⟩:=oy (P:=Tryz.prog) t e E.ht hi hzs E.h0 hown l hl.k (ys.flatMap enc) (by rw [bF E.hsz,hl.n]) (by
  intro a ha j u hj;rw [ha]at hr;exact hr.flat E.hsz E.h0 j u hj) (by
  intro u hu;obtain⟨x,_,hx⟩:=List.mem_flatMap.1 hu;exact E.h1 x u hx) (by omega) (by omega) hB
 exact⟨⟨A,s.n+l.n,C⟩,w4,rfl,h1,by rw [List.flatMap_append];exact h2,h3,h4,h5⟩
theorem dx (w:World) (B:Nat) (e:TypeId) (sz:Nat) {α:Type} (enc:α→List Value):w.ownsRow B e sz fF.v fF.n (([]:List α).flatMap enc):=co w B e sz
theorem H0 {α:Type} (n:Nat) (Inv G:Nat→α→Prop) (step:∀i,i≤n→(∀j,i<j→j≤n→∀x,Inv j x→G j x)→∀x,Inv i x→G i x):∀i,i≤n→∀x,Inv i x→G i x:=by
 have key:∀d i,n-i≤d→i≤n→∀x,Inv i x→G i x:=by
  intro d;induction d with
  |zero=>
   intro i hd hi x hx;exact step i hi (fun j h1 h2=>by omega) x hx
  |succ d ih=>
   intro i hd hi x hx;exact step i hi (fun j h1 h2 y hy=>ih j (by omega) h2 y hy) x hx
 exact fun i hi x hx=>key (n-i) i (Nat.le_refl _) hi x hx
theorem DM (a b c:Int) (l:List Int):(fb a b c l).length≤l.length:=by
 induction l using fb.induct a b with
 |case1=>simp [fb]
 |case2 x=>simp [fb]
 |case3 x y r hx ih=>
  obtain⟨rfl,rfl⟩:=hx;rw [mP];simp only [List.length_cons];omega
 |case4 x y r hx ih=>
  rw [ib r hx];simp only [List.length_cons]at ih⊢;omega
theorem sE (ms:List (Int×Int)) (s:List Int):∀k,k≤ms.length→(after ms k s).length≤s.length
 |0,_=>by rw [qk];exact Nat.le_refl _
 |k+1,h=>by
  rw [qC ms (List.getElem?_eq_getElem (show k<ms.length by omega))];exact Nat.le_trans (DM _ _ _ _) (sE ms s k (by omega))
theorem sY (b:UInt8):IntKind.wrap .i64 ((b.toNat:Nat):Int)=((b.toNat:Nat):Int):=by
 have:=b.toNat_lt;exact bY (by show(-9223372036854775808:Int)≤_;omega) (by show _≤(9223372036854775807:Int);omega)
theorem ku (s:Bs) (i:Nat) (hi:i<s.length):bh (s.take (i+1))=bh (s.take i)++ [((s[i].toNat:Nat):Int)]:=gD (fun z:UInt8=>((z.toNat:Nat):Int)) s i hi
theorem pR (w:World) (x:iU) (es:List bl) (h:eA w x es) (hok:gW es) (s:Bs) (hs:s.length≤1000000) (N:Nat) (hN:N=es.length):CP 166 #[x.v,.string (str s),.int .i64 (N:Int)] w fun e w'=>∃l:Sl,e= .returned l.v∧gN aQ 1 w' l (after (au es) (au es).length (bh s))∧Below w.heap.size w w':=by
 subst hN;refine aU (xf x.b.a x.b.n x.b.c x.m.a x.m.n x.m.c (str s) (es.length:Int) w) ?_;intro w1 hw1;have hb1:Below w.heap.size w w1:=by subst hw1;exact ag _ _
 have l1:w1.heap[w.heap.size]? =some (.cells #[x.b.v,x.m.v] na (0,0)):=by subst hw1;exact ao _ _
 have hmost:=hok.most;have hml:=dK hok;have hn2:=h.n2;intro I1 hI1;have key:=aK (α:=Sl×World) s.length (fun i y=>y.2.ownsRow w1.heap.size cE 1 y.1.v y.1.n ((bh (s.take i)).flatMap aQ)∧y.1.n=i∧Below w1.heap.size w1 y.2) (fun i y=>I1 [.int .i64 (i:Int),y.1.v] y.2) (fF,w1) ⟨dx _ _ _ _ aQ,rfl,Below.refl _ _⟩ ?_ ?_
 ·exact key
 ·rintro i hi ih ⟨l,q⟩ ⟨hown,hln,hB⟩;change q.ownsRow w1.heap.size cE 1 l.v l.n _ at hown;change l.n=i at hln;change Below w1.heap.size w1 q at hB;refine hI1 _ _ _ _ _ (aa.yes (by rw [aj];simp;omega) ⟨by omega,by rw [aj];omega,?_⟩);intro w3 hw3;rw [cd s i hi,sY]at hw3;obtain⟨l',w4,hl',hrun,hown',hB',_⟩:=ic.push hown ((s[i].toNat:Nat):Int) hw3 rfl hB.size (by omega) (by decide);refine⟨l'.a,l'.n,l'.c,w4,hrun,Ar.nat (i+1) rfl (by omega) (ih (l',w4) ⟨?_,by show l'.n=i+1;omega,hB' _ hB⟩)⟩;rw [ku s i hi];exact hown'
 ·rintro⟨l,q⟩ ⟨hown,hln,hB⟩;change q.ownsRow w1.heap.size cE 1 l.v l.n _ at hown;change l.n=s.length at hln;change Below w1.heap.size w1 q at hB;refine hI1 _ _ _ _ _ (aa.no (by rw [aj];simp) ?_);intro I5 hI5;have hls:gN aQ 1 q l (after (au es) 0 (bh s)):=by
   rw [qk];have:=gN.of_own ic hown;rwa [List.take_length]at this
  have key5:=aK (α:=Sl×World) (au es).length (fun k y=>gN aQ 1 y.2 y.1 (after (au es) k (bh s))∧Below w1.heap.size w1 y.2) (fun k y=>I5 [.int .i64 (k:Int),y.1.v] y.2) (l,q) ⟨hls,hB⟩ ?_ ?_
  ·exact key5
  ·rintro k hk ih5 ⟨l,q⟩ ⟨hl,hB⟩;change gN aQ 1 q l _ at hl;change Below w1.heap.size w1 q at hB;have l1q:=ah hB l1;have hq:=(h.on hb1).on hB;refine hI5 _ l.a l.n l.c q ⟨_,_,_,af _ _ l1q 1,aa.yes (by simp;omega) (Ar.nat (256+k) (by omega) (by omega) (aa.yes (by simp;omega) ?_))⟩;intro I13 hI13;obtain⟨m,hm⟩:∃m,(au es)[k]? =some m:=⟨_,List.getElem?_eq_getElem hk⟩;have hlen:=sE (au es) (bh s) k (by omega);have hints:(bh s).length=s.length:=by simp [bh]
   rw [qC (au es) hm]at ih5;generalize after (au es) k (bh s)=L at hl hlen ih5;have hln:=hl.n;let Inv (i:Nat) (y:Sl×World):Prop:=∃o:List Int,y.2.ownsRow q.heap.size cE 1 y.1.v y.1.n (o.flatMap aQ)∧fb m.1 m.2 (256+(k:Int)) L=o++fb m.1 m.2 (256+(k:Int)) (L.drop i)∧y.1.n≤i∧Below q.heap.size q y.2;have key13:=H0 (α:=Sl×World) L.length Inv (fun i y=>I13 [.int .i64 (i:Int),y.1.v] y.2) ?_ 0 (Nat.zero_le _) (fF,q) ⟨[],dx _ _ _ _ aQ,by simp,Nat.le_refl _,Below.refl _ _⟩
   ·exact key13
   rintro i hi ih ⟨out,v⟩ ⟨o,hown,hpass,hon,hBv⟩;change v.ownsRow q.heap.size cE 1 out.v out.n _ at hown;change out.n≤i at hon;change Below q.heap.size q v at hBv;have hBw:Below w1.heap.size w1 v:=ab hB hBv;by_cases hiL:i<L.length
   ·refine hI13 _ out.a out.n out.c v (aa.yes (by simp;omega) ?_);intro J hJ v8 hv8;have b8:Below v.heap.size v v8:=by subst hv8;exact ba v
    have hown8:v8.ownsRow q.heap.size cE 1 out.v out.n (o.flatMap aQ):=by subst hv8;exact du hown
    have hBv8:Below q.heap.size q v8:=hBv.trans (b8.mono hBv.size);have l18:=ah b8 (ah hBv l1q);have hq8:=(hq.on hBv).on b8;obtain⟨p,hp,c0⟩:=cz ((hl.r.on hBv).on b8) hiL rfl;obtain⟨pm,hpm,_,hcm⟩:=hq8.r2 k m hm;have cm0:=hcm 0 _ rfl;have cm1:=hcm 1 _ rfl;have push:∀(z:Int) (v9:World),v9=v8.alloc (.cells #[Value.int .i64 z] cE)→∀(i':Nat) (jj:Int),jj=(i':Int)→i≤i'→i'<L.length→fb m.1 m.2 (256+(k:Int)) (L.drop i)=z::fb m.1 m.2 (256+(k:Int)) (L.drop (i'+1))→
      ∃A:Option Addr,∃N:Nat,∃C:Nat,∃w10:World,(Builtin.append_ #[nT,nT] nT #[Value.slice out.a out.n out.c,Value.slice (some (nb v8)) 1 1]).run Tryz.prog v9= .ok (Value.slice A N C) w10∧J [.int .i64 jj,.slice A N C] w10:=by
     intro z v9 hv9 i' jj hjj hii hi' hz;obtain⟨l',w4,hl',hrun,hown',hB',_⟩:=ic.push hown8 z hv9 rfl hBv8.size (by omega) (by decide);refine⟨l'.a,l'.n,l'.c,w4,hrun,hJ _ _ _ _ _ ?_⟩;subst hjj;refine Ar.nat (i'+1) rfl (by omega) (ih (i'+1) (by omega) (by omega) (l',w4) ⟨o++ [z],hown',?_,by show l'.n≤i'+1;omega,hB' _ hBv8⟩);rw [hpass,hz];simp
    have keep:¬(L[i]=m.1∧L[i+1]? =some m.2)→fb m.1 m.2 (256+(k:Int)) (L.drop i)=L[i]::fb m.1 m.2 (256+(k:Int)) (L.drop (i+1)):=by
     intro hno;rw [List.drop_eq_getElem_cons hiL];by_cases h1:i+1<L.length
     ·rw [List.drop_eq_getElem_cons h1];exact ib _ fun e=>hno ⟨e.1,by rw [List.getElem?_eq_getElem h1,e.2]⟩
     ·rw [List.drop_eq_nil_of_le (by omega)];rfl
    refine Ar.nat (i+1) rfl (by omega) (aa.mk (fun h1=>?_) fun h1=>?_)
    ·have h1:i+1<L.length:=by have:=of_decide_eq_true h1;omega
     obtain⟨p',hp',c1⟩:=cz ((hl.r.on hBv).on b8) h1 rfl;refine ae.mk p hp ⟨by omega,by omega,_,c0,_,_,_,af _ _ l18 1,ae.mk pm hpm ⟨by omega,by omega,_,cm0,aa.mk (fun h2=>?_) fun h2=>?_⟩⟩
     ·have h2:L[i]=m.1:=by simpa using h2
      refine Ar.nat (i+1) rfl (by omega) (ae.mk p' hp' ⟨by omega,by omega,_,c1,_,_,_,af _ _ l18 1,ae.mk pm hpm ⟨by omega,by omega,_,cm1,aa.mk (fun h3=>?_) fun h3=>?_⟩⟩)
      ·have h3:L[i+1]=m.2:=by simpa using h3
       refine Ar.nat (256+k) (by omega) (by omega) ?_;intro v9 hv9;obtain⟨A,N,C,w10,hrun,hj⟩:=push ((256+k:Nat):Int) v9 hv9 (i+1) ((i:Int)+1) (by omega) (by omega) h1 (by
        rw [List.drop_eq_getElem_cons hiL,List.drop_eq_getElem_cons h1,h2,h3,mP];rfl)
       exact⟨A,N,C,w10,hrun,Ar.ok64 (by omega) (by omega) hj⟩
      ·have h3:¬L[i+1]=m.2:=by simpa using h3
       refine ae.mk p hp ⟨by omega,by omega,_,c0,?_⟩;intro v9 hv9;exact push L[i] v9 hv9 i _ rfl (Nat.le_refl _) hiL (keep fun e=>h3 (by have:=e.2;rw [List.getElem?_eq_getElem h1]at this;exact Option.some.inj this))
     ·have h2:¬L[i]=m.1:=by simpa using h2
      refine ae.mk p hp ⟨by omega,by omega,_,c0,?_⟩;intro v9 hv9;exact push L[i] v9 hv9 i _ rfl (Nat.le_refl _) hiL (keep fun e=>h2 e.1)
    ·have h1:¬i+1<L.length:=by have:=of_decide_eq_false h1;omega
     refine ae.mk p hp ⟨by omega,by omega,_,c0,?_⟩;intro v9 hv9;exact push L[i] v9 hv9 i _ rfl (Nat.le_refl _) hiL (keep fun e=>h1 (List.getElem?_eq_some_iff.1 e.2).1)
   ·have hiL:i=L.length:=by omega
    refine hI13 _ out.a out.n out.c v (aa.no (by simp;omega) (Ar.nat (k+1) rfl (by omega) (ih5 (out,v) ⟨?_,hBw⟩)));rw [hiL,List.drop_length]at hpass;have:fb m.1 m.2 (256+(k:Int)) L=o:=by rw [hpass];simp [fb]
    rw [this];exact gN.of_own ic hown
  ·rintro⟨l,q⟩ ⟨hl,hB⟩;change gN aQ 1 q l _ at hl;change Below w1.heap.size w1 q at hB;refine hI5 _ _ _ _ _ ⟨_,_,_,af _ _ (ah hB l1) 1,aa.no (by simp;omega) ⟨l,rfl,hl,ab hb1 hB⟩⟩
theorem nU (w:World) (x:iU) (es:List bl) (h:eA w x es) (hok:gW es) (s:Bs) (hs:s.length≤1000000):CP 109 #[x.v,.string (str s)] w fun e w'=>∃l:Sl,e= .returned l.v∧gN aQ 1 w' l (after (au es) (au es).length (bh s))∧Below w.heap.size w w':=by
 refine aU (wh x.b.a x.b.n x.b.c x.m.a x.m.n x.m.c (str s) w) ?_;intro w1 hw1;have hb1:Below w.heap.size w w1:=by subst hw1;exact ag _ _
 have l1:w1.heap[w.heap.size]? =some (.cells #[x.b.v,x.m.v] na (0,0)):=by subst hw1;exact ao _ _
 refine⟨_,_,_,_,_,_,dm l1,_,_,_,af _ _ l1 0,?_⟩;refine(pR w1 x es (h.on hb1) hok s hs x.b.n h.n1).mono ?_;rintro e w2 ⟨l,rfl,hl,hb2⟩;exact⟨_,_,_,rfl,l,rfl,hl,ab hb1 hb2⟩
theorem m0 (w:World) (x:aG) (s:ai) (h:aM w x s) (hr:s.ranked=false) (hl:s.merges.length≤1000000):CP 97 #[x.v] w fun e w'=>∃u,e= .returned u∧wa w s.merges u w':=by
 refine pO x.ranked x.s1.a x.s1.n x.s1.c x.s2.a x.s2.n x.s2.c x.s3.a x.s3.n x.s3.c x.s4.a x.s4.n x.s4.c x.s5.a x.s5.n x.s5.c w (wa w s.merges) ?_;intro w1 hw1 w2 hw2;have hb1:Below w.heap.size w w1:=by subst hw1;exact ag _ _
 have b2:Below w1.heap.size w1 w2:=by subst hw2;exact ag _ _
 have hb2:=ab hb1 b2;have p1:w1.heap[w.heap.size]? =some (.cells x.cells bd (0,0)):=by subst hw1;exact ao _ _
 have p2:=ah b2 p1;have l2:w2.heap[w1.heap.size]? =some (.cells #[fF.v,fF.v] na (0,0)):=by subst hw2;exact ao _ _
 refine⟨_,af _ _ p2 0,aa.no (by rw [h.ranked,hr]) ⟨_,_,_,af _ _ p2 1,?_⟩⟩;have hn:=h.n1;obtain⟨⟨a,n,c⟩,hx⟩:∃y:Sl,y=x.s1:=⟨_,rfl⟩;rw [←hx]at hn⊢;change n=s.merges.length at hn;subst hn;have hr2:Rw aD 2 w2 a s.merges:=by have:=(h.on hb2).r1;rw [←hx]at this;exact this
 refine(wl w2 a c s.merges hr2 hl).mono ?_;rintro e w5 ⟨u,rfl,y,n,e,rfl,b5,hp⟩;refine⟨_,_,_,_,_,_,n,e,rfl,?_⟩;have l5:=ah b5 l2;refine aN l5 [y.b.v,y.m.v] rfl (aS _ _) ?_;intro w6 h6 hs6 hz6 hB6;have hbb:=ab hb2 b5;refine⟨_,_,_,_,_,_,dm h6,y,n,e,rfl,hB6 _ _ hb1.size hbb,?_⟩;cases hx:bG bf 0 s.merges with
 |error q=>rw [hx]at hp;exact hp
 |ok es=>rw [hx]at hp;exact⟨hp.1,hp.2.1,hp.2.2.1.past l5 (fun j _ hj=>hs6 j hj) (Nat.le_of_eq hz6.symm),hp.2.2.2.1,hp.2.2.2.2.mono hb2.size⟩
structure nL (w:World) (x:iU) (cls:List (Int×Int×Int)) (js:List (Int×Int)):Prop where
 n1:x.b.n=cls.length
 r1:Rw aZ 3 w x.b.a cls
 n2:x.m.n=js.length
 r2:Rw aD 2 w x.m.a js
theorem nL.on {w w':World} {x:iU} {cls:List (Int×Int×Int)} {js:List (Int×Int)} (h:nL w x cls js) (hb:Below w.heap.size w w'):nL w' x cls js:=⟨h.n1,h.r1.on hb,h.n2,h.r2.on hb⟩
abbrev KZ:TypeId:=37
theorem li (w:World) (x:iU) (cls:List (Int×Int×Int)) (js:List (Int×Int)) (h:nL w x cls js) (hl:cls.length≤1000000) (b:Int) (hb:0≤b∧b<256):CP 167 #[x.v,.int .u8 b] w fun e w'=>e= .returned (.int .i64 (bS cls b))∧Below w.heap.size w w':=by
 refine aU (ww x.b.a x.b.n x.b.c x.m.a x.m.n x.m.c b w) ?_;intro w1 hw1;have hb1:Below w.heap.size w w1:=by subst hw1;exact ag _ _
 have l1:w1.heap[w.heap.size]? =some (.cells #[x.b.v,x.m.v] KZ (0,0)):=by subst hw1;exact ao _ _
 have hn:=h.n1;have hwr:IntKind.wrap .i64 b=b:=bY (by show(-9223372036854775808:Int)≤_;omega) (by show _≤(9223372036854775807:Int);omega);refine⟨_,_,_,af _ _ l1 0,Ar.ok64 (by omega) (by omega) ?_⟩;intro I hI;have key:=aK (α:=Int) cls.length (fun j _=>bS (cls.take (cls.length-j)) b=bS cls b) (fun j y=>I [.int .i64 ((x.b.n:Int)-1- (j:Int)),.int .i64 y] w1) 0 (by simp) ?_ ?_
 ·rw [show(x.b.n:Int)-1=(x.b.n:Int)-1- ((0:Nat):Int) by omega];exact key
 ·rintro j hj ih y hinv;have hi:cls.length-1-j<cls.length:=by omega
  obtain⟨q,hq,_,hc⟩:=(h.r1.on hb1) (cls.length-1-j) _ (List.getElem?_eq_getElem hi);have htake:cls.take (cls.length-j)=cls.take (cls.length- (j+1))++ [cls[cls.length-1-j]]:=by
   rw [show cls.length-j=cls.length-1-j+1 by omega,show cls.length- (j+1)=cls.length-1-j by omega,List.take_add_one,List.getElem?_eq_getElem hi];rfl
  rw [htake,rn]at hinv;have e:(x.b.n:Int)-1- (j:Int)=((cls.length-1-j:Nat):Int):=by omega
  have next:bS (cls.take (cls.length- (j+1))) b=bS cls b→Ar .i64 (((cls.length-1-j:Nat):Int)-1) (fun n=>I [.int .i64 n,.int .i64 y] w1):=by
   intro hn';have:=ih y hn';rw [show(x.b.n:Int)-1- ((j+1:Nat):Int)=((cls.length-1-j:Nat):Int)-1 by omega]at this;exact Ar.ok64 (by omega) (by omega) this
  rw [e];refine hI _ _ _ (aa.yes (by simp) ⟨_,_,_,af _ _ l1 0,ae.mk q hq ⟨by omega,by omega,_,hc 0 _ rfl,?_⟩⟩);rw [hwr];refine aa.mk (fun h0=>⟨_,_,_,af _ _ l1 0,ae.mk q hq ⟨by omega,by omega,_,hc 1 _ rfl,aa.mk (fun h1=>⟨_,_,_,af _ _ l1 0,ae.mk q hq ⟨by omega,by omega,_,hc 2 _ rfl,?_,hb1⟩⟩) fun h1=>next ?_⟩⟩) fun h0=>next ?_
  ·have h0:=of_decide_eq_true h0;have h1:=of_decide_eq_true h1;rw [if_pos ⟨h0,h1⟩]at hinv;rw [←hinv]
  ·have h1:=of_decide_eq_false h1;rwa [if_neg fun e=>h1 e.2]at hinv
  ·have h0:=of_decide_eq_false h0;rwa [if_neg fun e=>h0 e.1]at hinv
 ·rintro y hinv;refine hI _ _ _ (aa.no (by simp;omega) ⟨?_,hb1⟩);rw [Nat.sub_self,List.take_zero]at hinv;rw [←hinv];rfl
theorem uc (w:World) (x:iU) (cls:List (Int×Int×Int)) (js:List (Int×Int)) (h:nL w x cls js) (hl:cls.length≤1000000) (hj:js.length≤1000000) (a b:Int) (ha:0≤a∧a<256) (hb:0≤b∧b<256):CP 110 #[x.v,.int .u8 a,.int .u8 b] w fun e w'=>e= .returned (.bool (cutB cls js a b))∧Below w.heap.size w w':=by
 refine aU (xp x.b.a x.b.n x.b.c x.m.a x.m.n x.m.c a b w) ?_;intro w1 hw1 w2 hw2;have hb1:Below w.heap.size w w1:=by subst hw1;exact ag _ _
 have b2:Below w1.heap.size w1 w2:=by subst hw2;exact ba w1
 have hb2:=ab hb1 b2;have l1:w1.heap[w.heap.size]? =some (.cells #[x.b.v,x.m.v] KZ (0,0)):=by subst hw1;exact ao _ _
 have l2:=ah b2 l1;have hn:=h.n2;refine⟨_,_,_,_,_,_,dm l2,_,_,_,_,_,_,dm l2,?_⟩;refine(li w2 x cls js (h.on hb2) hl a ha).mono ?_;rintro e w3 ⟨rfl,b3⟩;refine⟨_,rfl,dm (ah b3 l2),?_⟩;have hb3:=ab hb2 b3;refine(li w3 x cls js (h.on hb3) hl b hb).mono ?_;rintro e w4 ⟨rfl,b4⟩;refine⟨_,rfl,?_⟩;have hb4:=ab hb3 b4;have l4:=ah b4 (ah b3 l2);intro I hI;have key:=aK (α:=Bool) js.length (fun i _=>(bS cls a,bS cls b)∉js.take i) (fun i y=>I [.int .i64 (i:Int),.bool y] w4) false (by simp) ?_ ?_
 ·exact key
 ·rintro i hi ih y hinv;obtain⟨q,hq,_,hc⟩:=(h.r2.on hb4) i _ (List.getElem?_eq_getElem hi);have next:js[i]≠(bS cls a,bS cls b)→Ar .i64 ((i:Int)+1) (fun n=>I [.int .i64 n,.bool y] w4):=by
   intro hne;refine Ar.nat (i+1) rfl (by omega) (ih y ?_);rw [List.take_add_one,List.getElem?_eq_getElem hi];intro hm;rcases List.mem_append.1 hm with hm |hm
   ·exact hinv hm
   ·have hm:(bS cls a,bS cls b)=js[i]:=by simpa using hm
    exact hne hm.symm
  refine hI _ _ _ ⟨_,_,_,af _ _ l4 1,aa.yes (by simp;omega) ⟨_,_,_,af _ _ l4 1,ae.mk q hq ⟨by omega,by omega,_,hc 0 _ rfl,aa.mk (fun h0=>⟨_,_,_,af _ _ l4 1,ae.mk q hq ⟨by omega,by omega,_,hc 1 _ rfl,aa.mk (fun h1=>⟨?_,hb4⟩) fun h1=>next ?_⟩⟩) fun h0=>next ?_⟩⟩⟩
  ·have h0:js[i].1=bS cls a:=by simpa using h0
   have h1:js[i].2=bS cls b:=by simpa using h1
   have:(bS cls a,bS cls b)∈js:=by rw [←h0, ←h1];exact List.getElem_mem hi
   rw [cutB,decide_eq_false fun e=>e.2 this]
  ·intro e;rw [e]at h1;simp at h1
  ·intro e;rw [e]at h0;simp at h0
 ·rintro y hinv;refine hI _ _ _ ⟨_,_,_,af _ _ l4 1,aa.no (by simp;omega) ⟨?_,hb4⟩⟩;rw [List.take_length]at hinv;rw [cutB];by_cases e:bS cls a=bS cls b<;>simp [e,hinv]
theorem AL {α:Type} {p:α→Bool} {l:List α} {i:Nat} (hi:i<l.length) (h:(l.take i).all p=true) (hp:p l[i]=true):(l.take (i+1)).all p=true:=by
 rw [List.take_add_one,List.getElem?_eq_getElem hi,List.all_append,h];simpa using hp
theorem AK {α:Type} {p:α→Bool} {l:List α} {i:Nat} (hi:i<l.length) (hp:p l[i]=false):l.all p=false:=by
 rw [List.all_eq_false];exact⟨_,List.getElem_mem hi,by simp [hp]⟩
theorem lj (w:World) (x:iU) (cls:List (Int×Int×Int)) (js:List (Int×Int)) (h:nL w x cls js) (hl:cls.length≤1000000) (hj:js.length≤1000000):CP 104 #[x.v] w fun e w'=>e= .returned (.bool (cls.all aR&&js.all bK))∧Below w.heap.size w w':=by
 refine az (vN x.b.a x.b.n x.b.c x.m.a x.m.n x.m.c w (fun u w'=>u= .bool (cls.all aR&&js.all bK)∧Below w.heap.size w w') ?_) (by rintro v w' ⟨rfl,h⟩;exact⟨rfl,h⟩);intro w1 hw1;have hb1:Below w.heap.size w w1:=by subst hw1;exact ag _ _
 have l1:w1.heap[w.heap.size]? =some (.cells #[x.b.v,x.m.v] KZ (0,0)):=by subst hw1;exact ao _ _
 have hn1:=h.n1;have hn2:=h.n2;intro I hI;have key:=aK (α:=Bool×World) cls.length (fun i y=>(cls.take i).all aR=true∧Below w1.heap.size w1 y.2) (fun i y=>I [.int .i64 (i:Int),.bool y.1] y.2) (false,w1) ⟨by simp,Below.refl _ _⟩ ?_ ?_
 ·exact key
 ·rintro i hi ih ⟨y,q⟩ ⟨hall,hB⟩;change Below w1.heap.size w1 q at hB;have lq:=ah hB l1;obtain⟨p,hp,_,hc⟩:=((h.on hb1).on hB).r1 i _ (List.getElem?_eq_getElem hi);have c0:=hc 0 _ rfl;rw [an]at c0;refine hI _ y q ⟨_,_,_,af _ _ lq 0,aa.yes (by simp;omega) ⟨_,_,_,af _ _ lq 0,ae.mk p hp ⟨by omega,by omega,_,_,_,⟨c0,hc 1 _ rfl,hc 2 _ rfl,trivial⟩,?_⟩⟩⟩;intro w3 hw3;refine aJ [.int .i64 0,.int .i64 0,.int .i64 0] [.int .i64 cls[i].1,.int .i64 cls[i].2.1,.int .i64 cls[i].2.2] rfl (fI _ _ _) w3 hw3 ?_;intro w4 h4 hz4 b4;have hBw:=ab hb1 (ab hB b4);have no:aR cls[i]=false→Value.bool false=Value.bool (cls.all aR&&js.all bK)∧Below w.heap.size w w4:=by
   intro e;rw [AK hi e];exact⟨rfl,hBw⟩
  refine⟨_,af _ _ h4 0,aa.mk (fun e=>no ?_) fun e1=>⟨_,af _ _ h4 1,_,af _ _ h4 0,aa.mk (fun e=>no ?_) fun e2=>⟨_,af _ _ h4 1,aa.mk (fun e=>no ?_) fun e3=>⟨_,af _ _ h4 2,aa.mk (fun e=>no ?_) fun e4=>⟨_,af _ _ h4 2,aa.mk (fun e=>no ?_) fun e5=>Ar.nat (i+1) rfl (by omega) (ih (y,w4) ⟨AL hi hall ?_,ab hB b4⟩)⟩⟩⟩⟩⟩
  ·have e:=of_decide_eq_true e;exact decide_eq_false (by omega)
  ·have e:=of_decide_eq_true e;exact decide_eq_false (by omega)
  ·have e:=of_decide_eq_true e;exact decide_eq_false (by omega)
  ·have e:=of_decide_eq_true e;exact decide_eq_false (by omega)
  ·have e:=of_decide_eq_true e;exact decide_eq_false (by omega)
  ·have e1:=of_decide_eq_false e1;have e2:=of_decide_eq_false e2;have e3:=of_decide_eq_false e3;have e4:=of_decide_eq_false e4;have e5:=of_decide_eq_false e5;exact decide_eq_true (by omega)
 ·rintro⟨y,q⟩ ⟨hall,hB⟩;change Below w1.heap.size w1 q at hB;rw [List.take_length]at hall;refine hI _ y q ⟨_,_,_,af _ _ (ah hB l1) 0,aa.no (by simp;omega) ?_⟩;intro I2 hI2;have key2:=aK (α:=Bool×World) js.length (fun i y=>(js.take i).all bK=true∧Below w1.heap.size w1 y.2) (fun i y=>I2 [.int .i64 (i:Int),.bool y.1] y.2) (y,q) ⟨by simp,hB⟩ ?_ ?_
  ·exact key2
  ·rintro i hi ih ⟨y,q⟩ ⟨hall2,hB⟩;change Below w1.heap.size w1 q at hB;have lq:=ah hB l1;obtain⟨p,hp,_,hc⟩:=((h.on hb1).on hB).r2 i _ (List.getElem?_eq_getElem hi);have c0:=hc 0 _ rfl;rw [an]at c0;refine hI2 _ y q ⟨_,_,_,af _ _ lq 1,aa.yes (by simp;omega) ⟨_,_,_,af _ _ lq 1,ae.mk p hp ⟨by omega,by omega,_,_,⟨c0,hc 1 _ rfl,trivial⟩,?_⟩⟩⟩;intro w3 hw3;refine aJ [.int .i64 0,.int .i64 0] [.int .i64 js[i].1,.int .i64 js[i].2] rfl (cZ _ _) w3 hw3 ?_;intro w4 h4 hz4 b4;have hBw:=ab hb1 (ab hB b4);have no:bK js[i]=false→Value.bool false=Value.bool (cls.all aR&&js.all bK)∧Below w.heap.size w w4:=by
    intro e;rw [AK hi e,Bool.and_false];exact⟨rfl,hBw⟩
   refine⟨_,af _ _ h4 0,aa.mk (fun e=>no ?_) fun e1=>⟨_,af _ _ h4 0,aa.mk (fun e=>no ?_) fun e2=>⟨_,af _ _ h4 1,aa.mk (fun e=>no ?_) fun e3=>⟨_,af _ _ h4 1,aa.mk (fun e=>no ?_) fun e4=>Ar.nat (i+1) rfl (by omega) (ih (y,w4) ⟨AL hi hall2 ?_,ab hB b4⟩)⟩⟩⟩⟩
   ·have e:=of_decide_eq_true e;exact decide_eq_false (by omega)
   ·have e:=of_decide_eq_true e;exact decide_eq_false (by omega)
   ·have e:=of_decide_eq_true e;exact decide_eq_false (by omega)
   ·have e:=of_decide_eq_true e;exact decide_eq_false (by omega)
   ·have e1:=of_decide_eq_false e1;have e2:=of_decide_eq_false e2;have e3:=of_decide_eq_false e3;have e4:=of_decide_eq_false e4;exact decide_eq_true (by omega)
  ·rintro⟨y,q⟩ ⟨hall2,hB⟩;change Below w1.heap.size w1 q at hB;rw [List.take_length]at hall2;refine hI2 _ y q ⟨_,_,_,af _ _ (ah hB l1) 1,aa.no (by simp;omega) ⟨?_,ab hb1 hB⟩⟩;rw [hall,hall2];rfl
def gU (xs:List (Int×Bs)):Value:=match bn [] 0 xs with
 |none=>.tuple #[.int .i64 (xs.length:Int),.int .i64 0]
 |some q=>.tuple #[.int .i64 (q.1:Int),.int .i64 q.2]
theorem iA (w:World) (A:Option Addr) (C:Nat) (xs:List (Int×Bs)) (hr:Rw av 2 w A xs) (hl:xs.length≤1000000):CP 98 #[.slice A xs.length C] w fun e w'=>e= .returned (gU xs)∧Below w.heap.size w w':=by
 refine az (zV A xs.length C w (fun u w'=>u=gU xs∧Below w.heap.size w w') ?_) (by rintro v w' ⟨rfl,h⟩;exact⟨rfl,h⟩);intro I hI;have key:=aK (α:=Int×Int×World) xs.length (fun i y=>bn [] 0 xs=bn (xs.take i) i (xs.drop i)∧Below w.heap.size w y.2.2) (fun i y=>I [.int .i64 (i:Int),.int .i64 y.1,.int .i64 y.2.1] y.2.2) (0,0,w) ⟨by simp,Below.refl _ _⟩ ?_ ?_
 ·exact key
 ·rintro i hi ih ⟨y3,y2,q⟩ ⟨heq,hB⟩;change Below w.heap.size w q at hB;obtain⟨p,hp,_,hc⟩:=(hr.on hB) i _ (List.getElem?_eq_getElem hi);have hlen:(xs.take i).length=i:=by rw [List.length_take];omega
  rw [List.drop_eq_getElem_cons hi,bn]at heq;have out:∀(n:Int) (v:World),n≠0→cf (xs.take i) xs[i]=n→Below w.heap.size w v→Value.tuple #[.int .i64 (i:Int),.int .i64 n]=gU xs∧Below w.heap.size w v:=by
   intro n v hn e hv;refine⟨?_,hv⟩;rw [if_neg (by rw [e];exact hn),e]at heq;rw [gU,heq]
  have one:aY xs[i]=false→cf (xs.take i) xs[i]=1:=fun e=>by rw [cf,if_pos e]
  refine hI _ y3 y2 q (aa.yes (by simp;omega) (ae.mk p hp ⟨by omega,by omega,_,hc 0 _ rfl,aa.mk (fun e=>out 1 q (by decide) (one ?_) hB) fun e1=>(ae.mk p hp ⟨by omega,by omega,_,hc 0 _ rfl,aa.mk (fun e=>out 1 q (by decide) (one ?_) hB) fun e2=>(ae.mk p hp ⟨by omega,by omega,_,hc 1 _ rfl,aa.mk (fun e=>out 1 q (by decide) (one ?_) hB) fun e3=>(ae.mk p hp ⟨by omega,by omega,_,hc 1 _ rfl,aa.mk (fun e=>out 1 q (by decide) (one ?_) hB) fun e4=>?_⟩)⟩)⟩)⟩))
  ·have e:=of_decide_eq_true e;exact decide_eq_false (by omega)
  ·have e:=of_decide_eq_true e;exact decide_eq_false (by omega)
  ·have e:=of_decide_eq_true e;rw [aj]at e;exact decide_eq_false (by omega)
  ·have e:=of_decide_eq_true e;rw [aj]at e;exact decide_eq_false (by omega)
  have hok:¬aY xs[i]=false:=by
   have e1:=of_decide_eq_false e1;have e2:=of_decide_eq_false e2;have e3:=of_decide_eq_false e3;have e4:=of_decide_eq_false e4;rw [aj]at e3 e4;rw [aY,decide_eq_true (by omega)];simp
  refine aa.mk (fun e=>out 3 q (by decide) ?_ hB) fun e=>?_
  ·have e:=of_decide_eq_true e;rw [cf,if_neg hok,hlen,if_pos (by omega)]
  have e:=of_decide_eq_false e;have h32:¬32≤(xs.take i).length:=by rw [hlen];omega
  intro I7 hI7;have key7:=aK (α:=Int×Int×World) i (fun k y=>(xs[i].1∉(xs.take k).map (·.1)∧xs[i].2∉(xs.take k).map (·.2))∧Below w.heap.size w y.2.2) (fun k y=>I7 [.int .i64 (k:Int),.int .i64 y.1,.int .i64 y.2.1] y.2.2) (y3,y2,q) ⟨by simp,hB⟩ ?_ ?_
  ·exact key7
  ·rintro k hk ih7 ⟨z3,z2,v⟩ ⟨hno,hBv⟩;change Below w.heap.size w v at hBv;refine hI7 _ z3 z2 v (aa.yes (by simp;omega) ?_);intro v3 hv3;have b3:Below v.heap.size v v3:=by subst hv3;exact ba v
   have hB3:Below w.heap.size w v3:=hBv.trans (b3.mono hBv.size);have hkl:k<xs.length:=by omega
   obtain⟨p',hp',_,hc'⟩:=(hr.on hB3) i _ (List.getElem?_eq_getElem hi);obtain⟨pk,hpk,_,hck⟩:=(hr.on hB3) k _ (List.getElem?_eq_getElem hkl);have mem:xs[k]∈xs.take i:=List.mem_take_iff_getElem.2 ⟨k,by omega,rfl⟩;refine ae.mk pk hpk ⟨by omega,by omega,_,hck 0 _ rfl,ae.mk p' hp' ⟨by omega,by omega,_,hc' 0 _ rfl,aa.mk (fun h0=>out 10 v3 (by decide) ?_ hB3) fun h0=>ae.mk pk hpk ⟨by omega,by omega,_,hck 1 _ rfl,ae.mk p' hp' ⟨by omega,by omega,_,hc' 1 _ rfl,aa.mk (fun h1=>out 10 v3 (by decide) ?_ hB3) fun h1=>Ar.nat (k+1) rfl (by omega) (ih7 (z3,z2,v3) ⟨?_,hB3⟩)⟩⟩⟩⟩
   ·have h0:xs[k].1=xs[i].1:=by simpa using h0
    rw [cf,if_neg hok,if_neg h32,if_pos (.inl (by rw [←h0];exact List.mem_map_of_mem mem))]
   ·rw [cr,cr]at h1;have h1:xs[k].2=xs[i].2:=by simpa using h1
    rw [cf,if_neg hok,if_neg h32,if_pos (.inr (by rw [←h1];exact List.mem_map_of_mem mem))]
   ·rw [cr,cr]at h1;have h0:¬xs[k].1=xs[i].1:=by simpa using h0
    have h1:¬xs[k].2=xs[i].2:=by simpa using h1
    rw [List.take_add_one,List.getElem?_eq_getElem hkl];simp only [Option.toList_some,List.map_append,List.map_cons,List.map_nil,List.mem_append,List.mem_singleton,not_or];exact⟨⟨hno.1,fun e=>h0 e.symm⟩,hno.2,fun e=>h1 e.symm⟩
  ·rintro⟨z3,z2,v⟩ ⟨hno,hBv⟩;change Below w.heap.size w v at hBv;have hadd:cf (xs.take i) xs[i]=0:=by rw [cf,if_neg hok,if_neg h32,if_neg (not_or.2 hno)]
   refine hI7 _ z3 z2 v (aa.no (by simp) (Ar.nat (i+1) rfl (by omega) (ih (z3,z2,v) ⟨?_,hBv⟩)));rw [heq,if_pos hadd,List.take_add_one,List.getElem?_eq_getElem hi];rfl
 ·rintro⟨y3,y2,q⟩ ⟨heq,hB⟩;refine hI _ y3 y2 q (aa.no (by simp) ⟨?_,hB⟩);rw [List.drop_length,bn]at heq;rw [gU,heq]
def qV (xs:List (Int×Bs)):Bool:=xs.any (fun x=>decide (100<x.2.length))||decide (40<xs.length)
theorem qr (w:World) (A:Option Addr) (C:Nat) (xs:List (Int×Bs)) (hr:Rw av 2 w A xs) (hl:xs.length≤9223372036854775807):CP 102 #[.slice A xs.length C] w fun e w'=>e= .returned (.bool (qV xs))∧w'=w:=by
 refine az (wJ A xs.length C w (fun u w'=>u= .bool (qV xs)∧w'=w) ?_) (by rintro v w' ⟨rfl,h⟩;exact⟨rfl,h⟩);intro I hI;have key:=aK (α:=Bool) xs.length (fun i _=>(xs.take i).any (fun x=>decide (100<x.2.length))=false) (fun i y=>I [.int .i64 (i:Int),.bool y] w) false (by simp) ?_ ?_
 ·exact key
 ·rintro i hi ih y hinv;obtain⟨p,hp,_,hc⟩:=hr i _ (List.getElem?_eq_getElem hi);refine hI _ y w (aa.yes (by simp;omega) (ae.mk p hp ⟨by omega,by omega,_,hc 1 _ rfl,aa.mk (fun e=>⟨?_,rfl⟩) fun e=>Ar.nat (i+1) rfl (by omega) (ih y ?_)⟩))
  ·have e:=of_decide_eq_true e;rw [aj]at e;have:xs.any (fun x=>decide (100<x.2.length))=true:=List.any_eq_true.2 ⟨_,List.getElem_mem hi,decide_eq_true (by omega)⟩;rw [qV,this];rfl
  ·have e:=of_decide_eq_false e;rw [aj]at e;rw [List.take_add_one,List.getElem?_eq_getElem hi,List.any_append,hinv];simp;omega
 ·rintro y hinv;rw [List.take_length]at hinv;refine hI _ y w (aa.no (by simp) ⟨?_,rfl⟩);rw [qV,hinv,Bool.false_or];congr 1;exact decide_eq_decide.2 (by omega)
theorem r_ (w:World) (A1:Option Addr) (N1 C1:Nat) (A2:Option Addr) (N2 C2:Nat) (A3:Option Addr) (N3 C3:Nat) (A:Option Addr) (C:Nat) (xs:List (Int×Bs)) (hr:Rw av 2 w A xs) (hl:xs.length≤9223372036854775807):CP 40 #[.slice A1 N1 C1,.slice A2 N2 C2,.slice A3 N3 C3,.slice A xs.length C] w fun e w'=>e= .returned (.bool (decide (60<N1∨20<N2∨20<N3)||qV xs))∧w'=w:=by
 refine aU (Aa A1 N1 C1 A2 N2 C2 A3 N3 C3 A xs.length C w) ?_;refine aa.mk (fun h1=>⟨?_,rfl⟩) fun h1=>aa.mk (fun h2=>⟨?_,rfl⟩) fun h2=>aa.mk (fun h3=>⟨?_,rfl⟩) fun h3=>?_
 ·have:=of_decide_eq_true h1;rw [decide_eq_true (by omega)];rfl
 ·have:=of_decide_eq_true h2;rw [decide_eq_true (by omega)];rfl
 ·have:=of_decide_eq_true h3;rw [decide_eq_true (by omega)];rfl
 ·have h1:=of_decide_eq_false h1;have h2:=of_decide_eq_false h2;have h3:=of_decide_eq_false h3;refine(qr w A C xs hr hl).mono ?_;rintro e w' ⟨rfl,hw⟩;subst hw;refine⟨_,rfl,?_,rfl⟩;rw [decide_eq_false (by omega),Bool.false_or]
theorem bH.more {cut:Int→Int→Bool} {p q:List Int} (hp:p≠ []) (hu:eS cut (p++q)):∀ {a:List (List Int)},bH cut (a++ [p])→bH cut (a++ [p++q])
 | [],_=>⟨by simp [hp],hu⟩
 |z::a,h=>by
  rw [List.cons_append]at h⊢;refine bH.cons h.head.1 h.head.2 (fun w r hw=>?_) (bH.more hp hu h.tail);cases a with
  |nil=>
   cases hw;obtain⟨u,v,hu',hv,hc⟩:=h.2.2.1;exact⟨u,v,hu',by rw [Eg _ hp];exact hv,hc⟩
  |cons z' a=>cases hw;exact h.2.2.1
theorem DT {cut:Int→Int→Bool} {Z:List Int} {x y:Int} (hx:Z.getLast?=some x) (hc:cut x y=true):ew cut (Z++ [y])=ew cut Z++ [[y]]:=by
 obtain⟨h1,h2⟩:=mH (cut:=cut) Z;rcases List.eq_nil_or_concat (ew cut Z)with e |⟨a,p,e⟩
 ·rw [e]at h2;rw [←h2]at hx;cases hx
 ·rw [List.concat_eq_append]at e;rw [e]at h1 h2⊢;have hp:=(chop_all' h1);have hlast:p.getLast?=some x:=by
   rw [←h2,List.flatten_append,List.flatten_cons,List.flatten_nil,List.append_nil,ox _ hp]at hx;exact hx
  have:=iu (cut:=cut) (a++p:: [[y]]) (h1.glue ⟨by simp,trivial⟩ fun q r' hq=>by cases hq;exact⟨x,y,hlast,rfl,hc⟩);rw [show(a++p:: [[y]]).flatten=Z++ [y] by rw [←h2];simp]at this;rw [this];simp
where chop_all' {cut:Int→Int→Bool} {a:List (List Int)} {p:List Int} (h:bH cut (a++ [p])):p≠ []:=(h.append).2.head.1
theorem Bb {cut:Int→Int→Bool} {Z:List Int} {x y:Int} (hx:Z.getLast?=some x) (hc:cut x y=false):∃a p,ew cut Z=a++ [p]∧ew cut (Z++ [y])=a++ [p++ [y]]:=by
 obtain⟨h1,h2⟩:=mH (cut:=cut) Z;rcases List.eq_nil_or_concat (ew cut Z)with e |⟨a,p,e⟩
 ·rw [e]at h2;rw [←h2]at hx;cases hx
 ·rw [List.concat_eq_append]at e;rw [e]at h1 h2⊢;have hpp:=(h1.append).2.head;have hlast:p.getLast?=some x:=by
   rw [←h2,List.flatten_append,List.flatten_cons,List.flatten_nil,List.append_nil,ox _ hpp.1]at hx;exact hx
  refine⟨a,p,rfl,?_⟩;have hu:eS cut (p++ [y]):=(mU p [y]).2 ⟨hpp.2,trivial,fun u v hu hv=>by rw [hlast]at hu;cases hu;cases hv;exact hc⟩;have:=iu (cut:=cut) (a++ [p++ [y]]) (bH.more hpp.1 hu h1);rwa [show(a++ [p++ [y]]).flatten=Z++ [y] by rw [←h2];simp]at this
theorem BV {w:World} {p:Addr} {v:Value} {k:World→Prop} (h:ar w p k [v] 0):v.oneCell'=true∧(∃u,w.cell? p=some u)∧w.frozen? p=false∧∀w',w'=w.setCell p v→k w':=by
 obtain⟨h1,h2,h3,h4⟩:=h;rw [an]at h2 h3 h4;exact⟨h1,h2,h3,h4⟩
theorem jv (a:List Bs) (p:Bs):(a++ [p]).map bh=a.map bh++ [bh p]:=by simp
theorem ET {a:List Bs} {x:List (List Int)} {p:List Int} (h:a.map bh=x++ [p]):∃b q,a=b++ [q]∧b.map bh=x∧bh q=p:=by
 rcases List.eq_nil_or_concat a with e |⟨b,q,e⟩
 ·rw [e]at h;simp at h
 ·rw [List.concat_eq_append]at e;subst e;rw [jv]at h;have:=List.append_inj' h rfl;exact⟨b,q,rfl,this.1,by simpa using this.2⟩
theorem qx (w:World) (x:iU) (cls:List (Int×Int×Int)) (js:List (Int×Int)) (h:nL w x cls js) (hl:cls.length≤1000000) (hj:js.length≤1000000) (s:Bs) (hs:s.length≤1000000):
  CP 45 #[x.v,.string (str s)] w fun e w'=>∃(l:Sl) (ps:List Bs),e= .returned l.v∧w'.ownsRow w.heap.size bE 1 l.v l.n (ps.flatMap be)∧ps.map bh=ew (cutB cls js) (bh s)∧Below w.heap.size w w':=by
 refine aU (zU x.b.a x.b.n x.b.c x.m.a x.m.n x.m.c (str s) w) ?_;intro w1 hw1;have hb1:Below w.heap.size w w1:=by subst hw1;exact ag _ _
 have l1:w1.heap[w.heap.size]? =some (.cells #[x.b.v,x.m.v] KZ (0,0)):=by subst hw1;exact ao _ _
 intro I hI;let Inv (i:Nat) (y:Sl×World):Prop:=∃ps:List Bs,y.2.ownsRow w1.heap.size bE 1 y.1.v y.1.n (ps.flatMap be)∧ps.map bh=ew (cutB cls js) (bh (s.take i))∧ps.length≤i∧(∀p∈ps,p.length≤i)∧Below w1.heap.size w1 y.2;have key:=aK (α:=Sl×World) s.length Inv (fun i y=>I [.int .i64 (i:Int),y.1.v] y.2) (fF,w1) ⟨[],dx _ _ _ _ be,by simp [bh,ew],Nat.le_refl _,by simp,Below.refl _ _⟩ ?_ ?_
 ·exact key
 ·rintro i hi ih ⟨l,q⟩ ⟨ps,hown,hps,hpl,hpp,hB⟩;change q.ownsRow w1.heap.size bE 1 l.v l.n _ at hown;change Below w1.heap.size w1 q at hB;have hln:l.n=ps.length:=(gN.of_own D4 hown).n;have htake:=ku s i hi;refine hI _ l.a l.n l.c q (aa.yes (by rw [aj];simp;omega) ?_);intro J hJ w6 hw6;have b6:Below q.heap.size q w6:=by subst hw6;exact ba q
  have join:∀(l':Sl) (v:World) (a:List Bs) (p:Bs),v.ownsRow w1.heap.size bE 1 l'.v l'.n ((a++ [p]).flatMap be)→Below w1.heap.size w1 v→a.map bh++ [bh p++ [((s[i].toNat:Nat):Int)]]=ew (cutB cls js) (bh (s.take (i+1)))→a.length≤i→p.length≤i→(∀z∈a,z.length≤i)→J [.slice l'.a l'.n l'.c] v:=by
   intro l' v a p hv hBv hch hal hpl hza;refine hJ l'.a l'.n l'.c v ?_;intro w4 hw4;have b4:Below v.heap.size v w4:=by subst hw4;exact ba v
   have hv4:w4.ownsRow w1.heap.size bE 1 l'.v l'.n ((a++ [p]).flatMap be):=by subst hw4;exact du hv
   have hB4:Below w1.heap.size w1 w4:=hBv.trans (b4.mono hBv.size);have hls:=gN.of_own D4 hv4;have hn:=hls.n;rw [List.length_append,List.length_singleton]at hn;obtain⟨pa,hpa,c0⟩:=cz hls.r (i:=a.length) (v:=.string (str p)) (by simp) (by simp [be]);refine Ar.nat a.length (by omega) (by omega) (Ar.nat a.length (by omega) (by omega) (ae.mk pa hpa ⟨by omega,by omega,str p,c0,Ar.nat (i+1) rfl (by omega) ⟨by omega,by omega,by rw [aj];omega,?_,ae.mk pa hpa ⟨by omega,by omega,?_⟩⟩⟩))
   ·show((((str p).size+((str s).extract i (i+1)).size:Nat):Int))≤(9223372036854775807:Int);rw [iw,aj,aj,List.length_take];omega
   ·have hext:(str p)++(str s).extract (i:Int).toNat ((i+1:Nat):Int).toNat=str (p++ [s[i]]):=by
     show str p++(str s).extract i (i+1)=_;rw [iw,bL,show i+1-i=1 by omega,List.drop_eq_getElem_cons hi];rfl
    rw [hext];refine BV (tP (enc:=be) (fun _=>rfl) (by decide) (fun y u hu=>by rw [List.mem_singleton.1 hu];rfl) hv4 hls.n hpa a.length (by simp) (p++ [s[i]]) ?_);intro w5 h5 hs5 hz5 hB5;have hset:(a++ [p]).set a.length (p++ [s[i]])=a++ [p++ [s[i]]]:=by rw [List.set_append_right _ _ (Nat.le_refl _),Nat.sub_self];rfl
    rw [hset]at h5;refine Ar.nat (i+1) rfl (by omega) (ih (l',w5) ⟨a++ [p++ [s[i]]],h5,?_,by simp;omega,?_,hB5 _ _ (Nat.le_refl _) hB4⟩)
    ·rw [jv, ←hch,vR];rfl
    ·intro z hz;rcases List.mem_append.1 hz with hz |hz
     ·have:=hza z hz;omega
     ·rw [List.mem_singleton.1 hz];simp;omega
  have fresh:∀(v:World) (w7:World),v.ownsRow w1.heap.size bE 1 l.v l.n (ps.flatMap be)→Below w1.heap.size w1 v→w7=v.alloc (.cells #[Value.string ⟨#[]⟩] bE)→ew (cutB cls js) (bh (s.take (i+1)))=ew (cutB cls js) (bh (s.take i))++ [[((s[i].toNat:Nat):Int)]]→
    ∃A:Option Addr,∃N:Nat,∃C:Nat,∃w8:World,(Builtin.append_ #[da,da] da #[Value.slice l.a l.n l.c,Value.slice (some (nb v)) 1 1]).run Tryz.prog w7= .ok (Value.slice A N C) w8∧J [Value.slice A N C] w8:=by
   intro v w7 hv hBv hw7 hch;obtain⟨l',w8,hl',hrun,hown',hB',_⟩:=D4.push hv ([]:Bs) hw7 rfl hBv.size (by omega) (by decide);exact⟨l'.a,l'.n,l'.c,w8,hrun,join l' w8 ps [] hown' (hB' _ hBv) (by rw [hch, ←hps];rfl) hpl (Nat.zero_le _) hpp⟩
  have hown6:w6.ownsRow w1.heap.size bE 1 l.v l.n (ps.flatMap be):=by subst hw6;exact du hown
  have hB6:Below w1.heap.size w1 w6:=hB.trans (b6.mono hB.size);refine aa.mk (fun h0=>?_) fun h0=>?_
  ·have h0:i=0:=by
    have:(i:Int)=0:=by simpa using h0
    omega
   intro w7 hw7;refine fresh w6 w7 hown6 hB6 hw7 ?_;subst h0;rw [htake];simp [bh,ew]
  ·have h0:i≠0:=by
    intro e;subst e;simp at h0
   obtain⟨j,rfl⟩:∃j,i=j+1:=⟨i-1,by omega⟩;have hlast:(bh (s.take (j+1))).getLast?=some ((s[j].toNat:Nat):Int):=by rw [ku s j (by omega),List.getLast?_append];rfl
   have hx:=s[j].toNat_lt;have hy:=s[j+1].toNat_lt;refine⟨_,_,_,_,_,_,dm (ah (hB6) l1),Ar.nat j (by omega) (by omega) ⟨by omega,by rw [aj];omega,by omega,by rw [aj];omega,?_⟩⟩;rw [cd s j (by omega),cd s (j+1) hi];refine(uc w6 x cls js ((h.on hb1).on hB6) hl hj _ _ (by omega) (by omega)).mono ?_;rintro e w9 ⟨rfl,b9⟩;have hown9:=aL hown6 b9;have hB9:Below w1.heap.size w1 w9:=hB6.trans (b9.mono hB6.size);refine⟨_,rfl,aa.mk (fun hc=>?_) fun hc=>?_⟩
   ·intro w10 hw10;refine fresh w9 w10 hown9 hB9 hw10 ?_;rw [htake,DT hlast hc]
   ·obtain⟨a,p,e1,e2⟩:=Bb hlast hc;rw [e1]at hps;obtain⟨b,r,rfl,e3,e4⟩:=ET hps;refine join l w9 b r hown9 hB9 ?_ (by simp at hpl;omega) (hpp r (by simp)) (fun z hz=>hpp z (by simp [hz]));rw [htake,e2,e3,e4]
 ·rintro⟨l,q⟩ ⟨ps,hown,hps,hpl,hpp,hB⟩;change q.ownsRow w1.heap.size bE 1 l.v l.n _ at hown;change Below w1.heap.size w1 q at hB;rw [List.take_length]at hps;exact hI _ l.a l.n l.c q (aa.no (by rw [aj];simp) ⟨l,ps,rfl,cD hown hb1.size,hps,ab hb1 hB⟩)
structure rM where
 t:iU
 b:iU
 sp:Sl
abbrev rM.cells (x:rM):Array Value:=#[x.t.b.v,x.t.m.v,x.b.b.v,x.b.m.v,x.sp.v]
abbrev rM.v (x:rM):Value:=.agg x.cells
structure jy (w:World) (x:rM) (s:ai) (T:List bl):Prop where
 t:eA w x.t T
 b:nL w x.b s.classes s.joins
 sn:x.sp.n=s.specials.length
 sr:Rw av 2 w x.sp.a s.specials
 ok:gW T
 right:s.right=true
 ids:∀y∈s.specials,(T.length:Int)≤y.1
 nodup:(s.specials.map (·.1)).Nodup
theorem jy.on {w w':World} {x:rM} {s:ai} {T:List bl} (h:jy w x s T) (hb:Below w.heap.size w w'):jy w' x s T:=⟨h.t.on hb,h.b.on hb,h.sn,h.sr.on hb,h.ok,h.right,h.ids,h.nodup⟩
theorem jy.few {w:World} {x:rM} {s:ai} {T:List bl} (h:jy w x s T):s.specials.length≤1000000∧s.classes.length≤1000000∧s.joins.length≤1000000:=⟨(bT h.right).2.2.1,(bT h.right).2.2.2.1,(bT h.right).2.2.2.2⟩
abbrev HR:TypeId:=39
theorem kS {w:World} {b:Nat} {x:rM} {T:TypeId} {fz:Nat×Nat} (h:w.heap[b]? =some (.cells x.cells T fz)):
  w.cell? ⟨b,0,none⟩=some x.t.b.v∧w.cell? ((⟨b,0,none⟩:Addr).add 1)=some x.t.m.v∧w.cell? ((⟨b,0,none⟩:Addr).add 2)=some x.b.b.v∧w.cell? ((⟨b,0,none⟩:Addr).add 3)=some x.b.m.v∧w.cell? ((⟨b,0,none⟩:Addr).add 4)=some x.sp.v∧True:=by
 have hc:∀j,w.cell? ((⟨b,0,none⟩:Addr).add j)=x.cells[j]? :=fun j=>af _ _ h j;exact⟨by have:=hc 0;rw [an]at this;exact this,hc 1,hc 2,hc 3,hc 4,trivial⟩
theorem H5 {w:World} {b:Nat} {c:Array Value} {T:TypeId} {fz:Nat×Nat} (h:w.heap[b]? =some (.cells c T fz)) (j:Nat) {x y:Value} (hx:c[j]? =some x) (hy:c[j+1]? =some y):w.cell? ((⟨b,0,none⟩:Addr).add j)=some x∧w.cell? (((⟨b,0,none⟩:Addr).add j).add 1)=some y∧True:=by
 refine⟨by rw [af _ _ h,hx],?_,trivial⟩;rw [Addr.add_add,af _ _ h,hy]
theorem Em {α:Type} [BEq α] [LawfulBEq α] {l:List α} {x:α} {i:Nat} (hi:i<l.length) (hx:l[i]=x) (hn:x∉l.take i):l.idxOf? x=some i:=by
 rw [List.idxOf?,List.findIdx?_eq_some_iff_getElem];refine⟨hi,by simp [hx],fun j hj=>?_⟩;simp only [beq_iff_eq];intro e;exact hn (List.mem_take_iff_getElem.2 ⟨j,by omega,e⟩)
def fe (s:ai) (id:Int):Int:=((eN s.specials id).map fun i:Nat=> -1- (i:Int)).getD 0
theorem mA (w:World) (x:rM) (s:ai) (T:List bl) (h:jy w x s T) (id:Int):CP 112 #[x.v,.int .i64 id] w fun e w'=>e= .returned (.int .i64 (fe s id))∧Below w.heap.size w w':=by
 refine aU (wV x.t.b.a x.t.b.n x.t.b.c x.t.m.a x.t.m.n x.t.m.c x.b.b.a x.b.b.n x.b.b.c x.b.m.a x.b.m.n x.b.m.c x.sp.a x.sp.n x.sp.c id w) ?_;intro w1 hw1;have hb1:Below w.heap.size w w1:=by subst hw1;exact ag _ _
 have l1:w1.heap[w.heap.size]? =some (.cells x.cells HR (0,0)):=by subst hw1;exact ao _ _
 have hn:=h.sn;have hfew:=h.few.1;intro I hI;have key:=aK (α:=Int) s.specials.length (fun i _=>id∉(s.specials.map (·.1)).take i) (fun i y=>I [.int .i64 (i:Int),.int .i64 y] w1) 0 (by simp) ?_ ?_
 ·exact key
 ·rintro i hi ih y hinv;obtain⟨q,hq,_,hc⟩:=(h.sr.on hb1) i _ (List.getElem?_eq_getElem hi);have hi':i< (s.specials.map (·.1)).length:=by rw [List.length_map];exact hi
  have hget:(s.specials.map (·.1))[i]=s.specials[i].1:=by simp
  refine hI _ y w1 ⟨_,_,_,af _ _ l1 4,aa.yes (by simp;omega) ⟨_,_,_,af _ _ l1 4,ae.mk q hq ⟨by omega,by omega,_,hc 0 _ rfl,aa.mk (fun h0=>Ar.ok64 (by omega) (by omega) ⟨?_,hb1⟩) fun h0=>Ar.nat (i+1) rfl (by omega) (ih y ?_)⟩⟩⟩
  ·have h0:s.specials[i].1=id:=by simpa using h0
   have:eN s.specials id=some i:=Em hi' (by rw [hget,h0]) hinv;rw [fe,this];rfl
  ·have h0:¬s.specials[i].1=id:=by simpa using h0
   rw [List.take_add_one,List.getElem?_eq_getElem hi',hget];simp only [Option.toList_some,List.mem_append,List.mem_singleton,not_or];exact⟨hinv,fun e=>h0 e.symm⟩
 ·rintro y hinv;refine hI _ y w1 ⟨_,_,_,af _ _ l1 4,aa.no (by simp;omega) ⟨?_,hb1⟩⟩;rw [List.take_of_length_le (by simp)]at hinv;have:eN s.specials id=none:=List.idxOf?_eq_none_iff.2 hinv;rw [fe,this];rfl
theorem vM (s:ai) (id:Int):decide (fe s id<0)=decide (id∈s.specials.map (·.1)):=by
 apply decide_eq_decide.2;unfold fe;cases hm:eN s.specials id with
 |none=>
  have:id∉s.specials.map (·.1):=List.idxOf?_eq_none_iff.1 hm;simp only [Option.map_none,Option.getD_none];exact⟨fun e=>by omega,fun e=>absurd e this⟩
 |some i=>
  have:id∈s.specials.map (·.1):=by
   apply Classical.byContradiction;intro e;have e2:eN s.specials id=none:=List.idxOf?_eq_none_iff.2 e;rw [hm]at e2;cases e2
  simp only [Option.map_some,Option.getD_some];exact⟨fun _=>this,fun _=>by omega⟩
theorem gm (w:World) (x:rM) (s:ai) (T:List bl) (h:jy w x s T) (id:Int):CP 46 #[x.v,.int .i64 id] w fun e w'=>e= .returned (.bool (cJ s T id))∧Below w.heap.size w w':=by
 refine az (zR x.t.b.a x.t.b.n x.t.b.c x.t.m.a x.t.m.n x.t.m.c x.b.b.a x.b.b.n x.b.b.c x.b.m.a x.b.m.n x.b.m.c x.sp.a x.sp.n x.sp.c id w (fun u w'=>u= .bool (cJ s T id)∧Below w.heap.size w w') ?_) (by rintro v w' ⟨rfl,h⟩;exact⟨rfl,h⟩);intro w1 hw1;have hb1:Below w.heap.size w w1:=by subst hw1;exact ag _ _
 have l1:w1.heap[w.heap.size]? =some (.cells x.cells HR (0,0)):=by subst hw1;exact ao _ _
 refine⟨_,_,_,_,_,_,H5 l1 0 rfl rfl,?_⟩;refine(jL w1 x.t T (h.t.on hb1) id).mono ?_;rintro e w2 ⟨rfl,b2⟩;have hb2:=ab hb1 b2;refine⟨_,rfl,aa.mk (fun h0=>⟨?_,hb2⟩) fun h0=>?_⟩
 ·have h0:=of_decide_eq_true h0;rw [cJ,decide_eq_true (.inr h0)]
 ·have h0:=of_decide_eq_false h0;refine⟨_,_,_,_,_,_,_,_,_,_,_,_,_,_,_,kS (ah b2 l1),?_⟩;refine(mA w2 x s T (h.on hb2) id).mono ?_;rintro e w3 ⟨rfl,b3⟩;refine⟨_,rfl,?_,ab hb2 b3⟩;rw [vM,cJ];congr 1;exact decide_eq_decide.2 ⟨.inl,fun e=>e.resolve_right h0⟩
theorem wu (w:World) (x:rM) (s:ai) (T:List bl) (h:jy w x s T) (A:Option Addr) (C:Nat) (ids:List Int) (hr:Rw aQ 1 w A ids) (hl:ids.length≤1000000000000):CP 17 #[x.v,.slice A ids.length C] w fun e w'=>e= .returned (.int .i64 (jQ s T ids))∧Below w.heap.size w w':=by
 refine aU (zO x.t.b.a x.t.b.n x.t.b.c x.t.m.a x.t.m.n x.t.m.c x.b.b.a x.b.b.n x.b.b.c x.b.m.a x.b.m.n x.b.m.c x.sp.a x.sp.n x.sp.c A ids.length C w) ?_;intro w1 hw1;have hb1:Below w.heap.size w w1:=by subst hw1;exact ag _ _
 have l1:w1.heap[w.heap.size]? =some (.cells x.cells HR (0,0)):=by subst hw1;exact ao _ _
 intro I hI;have key:=aK (α:=Int×World) ids.length (fun i y=>(∀j (hj:j<ids.length),j<i→(!cJ s T ids[j])=false)∧Below w1.heap.size w1 y.2) (fun i y=>I [.int .i64 (i:Int),.int .i64 y.1] y.2) (0,w1) ⟨fun j _ hj=>absurd hj (Nat.not_lt_zero j),Below.refl _ _⟩ ?_ ?_
 ·exact key
 ·rintro i hi ih ⟨y,q⟩ ⟨hinv,hB⟩;change Below w1.heap.size w1 q at hB;refine hI _ y q (aa.yes (by simp;omega) ?_);intro w3 hw3;have b3:Below q.heap.size q w3:=by subst hw3;exact ba q
  have hB3:=ab hB b3;have hw:=ab hb1 hB3;obtain⟨p,hp,c0⟩:=cz (hr.on hw) hi rfl;refine⟨_,_,_,_,_,_,_,_,_,_,_,_,_,_,_,kS (ah hB3 l1),ae.mk p hp ⟨by omega,by omega,_,c0,?_⟩⟩;refine(gm w3 x s T (h.on hw) ids[i]).mono ?_;rintro e w4 ⟨rfl,b4⟩;refine⟨_,rfl,aa.mk (fun h0=>⟨?_,ab hw b4⟩) fun h0=>Ar.nat (i+1) rfl (by omega) (ih (y,w4) ⟨fun j hj hji=>?_,ab hB3 b4⟩)⟩
  ·rw [jQ,ga (p:=fun id=> !cJ s T id) hi h0 fun j hj=>hinv j (by omega) hj]
  ·by_cases e:j=i
   ·subst e;exact h0
   ·exact hinv j hj (by omega)
 ·rintro⟨y,q⟩ ⟨hinv,hB⟩;refine hI _ y q (aa.no (by simp) ⟨?_,ab hb1 hB⟩);rw [jQ,fU (p:=fun id=> !cJ s T id) fun j hj=>hinv j hj hj]
theorem BO {s:ai} {T:List bl} (hok:gW T) (t:Int):((cm s T).items t).length≤64:=by
 unfold Voc.items;cases(cm s T).place t with
 |some i=>exact Nat.le_of_ble_eq_true rfl
 |none=>
  show(bh (aX T t)).length≤64;have:(bh (aX T t)).length=(aX T t).length:=by simp [bh]
  rw [this,aX];cases he:T[t.toNat]? with
  |none=>exact Nat.zero_le _
  |some e=>exact hok.short e (List.mem_of_getElem? he)
theorem mr {s:ai} {T:List bl} (hok:gW T):∀ids:List Int,((cm s T).itemsAll ids).length≤64*ids.length
 | []=>Nat.le_refl _
 |t::ids=>by
  have h1:=BO (s:=s) hok t;have h2:=mr (s:=s) hok ids;unfold Voc.itemsAll at h2⊢;rw [List.flatMap_cons,List.length_append,List.length_cons];omega
theorem sv (w:World) (x:rM) (s:ai) (T:List bl) (h:jy w x s T) (A:Option Addr) (C:Nat) (ids:List Int) (hr:Rw aQ 1 w A ids) (hl:ids.length≤1000000) (hh:∀t∈ids,(cm s T).Has t):CP 53 #[x.v,.slice A ids.length C] w fun e w'=>∃l:Sl,e= .returned l.v∧gN aQ 1 w' l ((cm s T).itemsAll ids)∧Below w.heap.size w w':=by
 refine aU (Ac x.t.b.a x.t.b.n x.t.b.c x.t.m.a x.t.m.n x.t.m.c x.b.b.a x.b.b.n x.b.b.c x.b.m.a x.b.m.n x.b.m.c x.sp.a x.sp.n x.sp.c A ids.length C w) ?_;intro w1 hw1;have hb1:Below w.heap.size w w1:=by subst hw1;exact ag _ _
 have l1:w1.heap[w.heap.size]? =some (.cells x.cells HR (0,0)):=by subst hw1;exact ao _ _
 intro I hI;have key:=aK (α:=Sl×World) ids.length (fun i y=>y.2.ownsRow w1.heap.size cE 1 y.1.v y.1.n (((cm s T).itemsAll (ids.take i)).flatMap aQ)∧Below w1.heap.size w1 y.2) (fun i y=>I [.int .i64 (i:Int),y.1.v] y.2) (fF,w1) ⟨dx _ _ _ _ aQ,Below.refl _ _⟩ ?_ ?_
 ·exact key
 ·rintro i hi ih ⟨out,q⟩ ⟨hown,hB⟩;change q.ownsRow w1.heap.size cE 1 out.v out.n _ at hown;change Below w1.heap.size w1 q at hB;have hon:=(gN.of_own ic hown).n;have hlen:=mr (s:=s) h.ok (ids.take i);rw [List.length_take,Nat.min_eq_left (by omega)]at hlen;have hsnoc:(cm s T).itemsAll (ids.take (i+1))=(cm s T).itemsAll (ids.take i)++(cm s T).items ids[i]:=by
   rw [List.take_add_one,List.getElem?_eq_getElem hi,Voc.itemsAll_append];simp [Voc.itemsAll]
  rw [hsnoc]at ih;generalize(cm s T).itemsAll (ids.take i)=o at hown hon hlen ih;refine hI _ out.a out.n out.c q (aa.yes (by simp;omega) ?_);intro J hJ w4 hw4;have hJ':∀(l:Sl) (v:World),v.ownsRow w1.heap.size cE 1 l.v l.n ((o++(cm s T).items ids[i]).flatMap aQ)→Below w1.heap.size w1 v→J [.slice l.a l.n l.c] v:=fun l v h1 h2=>hJ l.a l.n l.c v (Ar.nat (i+1) rfl (by omega) (ih (l,v) ⟨h1,h2⟩));have b4:Below q.heap.size q w4:=by subst hw4;exact ba q
  have hB4:=ab hB b4;have hown4:w4.ownsRow w1.heap.size cE 1 out.v out.n (o.flatMap aQ):=by subst hw4;exact du hown
  have hw:=ab hb1 hB4;obtain⟨p,hp,c0⟩:=cz (hr.on hw) hi rfl;refine⟨_,_,_,_,_,_,_,_,_,_,_,_,_,_,_,kS (ah hB4 l1),ae.mk p hp ⟨by omega,by omega,_,c0,?_⟩⟩;refine(mA w4 x s T (h.on hw) ids[i]).mono ?_;rintro e w5 ⟨rfl,b5⟩;have hB5:=ab hB4 b5;have hown5:=aL hown4 b5;have hw5:=ab hb1 hB5;refine⟨_,rfl,?_⟩;cases hm:eN s.specials ids[i]with
  |some k=>
   have hv:fe s ids[i]= -1- (k:Int):=by rw [fe,hm];rfl
   have hit:(cm s T).items ids[i]= [-1- (k:Int)]:=by
    unfold Voc.items Voc.place;rw [show(cm s T).sp.idxOf? ids[i]=some k from hm]
   rw [hv];refine aa.yes (decide_eq_true (by omega)) ?_;intro w6 hw6;obtain⟨l',w7,hl',hrun,hown',hB',_⟩:=ic.push hown5 (-1- (k:Int)) hw6 rfl hB5.size (by omega) (by decide);exact⟨l'.a,l'.n,l'.c,w7,hrun,hJ' l' w7 (by rw [hit];exact hown') (hB' _ hB5)⟩
  |none=>
   have hv:fe s ids[i]=0:=by rw [fe,hm];rfl
   have hit:(cm s T).items ids[i]=bh (aX T ids[i]):=by
    unfold Voc.items Voc.place;rw [show(cm s T).sp.idxOf? ids[i]=none from hm];rfl
   have hin:cq T ids[i]:=by
    rcases hh _ (List.getElem_mem hi)with ht |ht
    ·exact(AT h.ok _).2 ht
    ·exact absurd ht (List.idxOf?_eq_none_iff.1 hm)
   rw [hv];refine aa.no rfl ?_;intro w8 hw8;have b8:Below w5.heap.size w5 w8:=by subst hw8;exact ba w5
   have hB8:=ab hB5 b8;have hw8':=ab hb1 hB8;have hown8:w8.ownsRow w1.heap.size cE 1 out.v out.n (o.flatMap aQ):=by subst hw8;exact du hown5
   obtain⟨p',hp',c0'⟩:=cz (hr.on hw8') hi rfl;obtain⟨ent,he,hbe⟩:=dY hin;have hin1:=hin.1;have hin2:=hin.2;have ht1:=h.t.n1;obtain⟨pb,hpb,_,hcb⟩:=((h.on hw8').t.r1) ids[i].toNat ent.1 (by rw [List.getElem?_map,he];rfl);have cb:=hcb 0 _ rfl;rw [an]at cb;have hshort:=h.ok.short ent (List.mem_of_getElem? he);rw [hit,hbe]at hJ';refine⟨x.t.b.a,x.t.b.n,x.t.b.c,by rw [Addr.add_add];exact af _ _ (ah hB8 l1) 0,ae.mk p' hp' ⟨by omega,by omega,_,c0',ae.mk pb hpb ⟨by omega,by omega,_,cb,?_⟩⟩⟩;intro I2 hI2;have key2:=aK (α:=Sl×World) ent.1.length (fun k y=>y.2.ownsRow w1.heap.size cE 1 y.1.v y.1.n ((o++bh (ent.1.take k)).flatMap aQ)∧Below w1.heap.size w1 y.2) (fun k y=>I2 [.int .i64 (k:Int),y.1.v] y.2) (out,w8) ⟨by simpa [bh]using hown8,hB8⟩ ?_ ?_
   ·exact key2
   ·rintro k hk ih2 ⟨l,v⟩ ⟨hv,hBv⟩;change v.ownsRow w1.heap.size cE 1 l.v l.n _ at hv;change Below w1.heap.size w1 v at hBv;have hln:=(gN.of_own ic hv).n;rw [List.length_append]at hln;have:(bh (ent.1.take k)).length≤64:=by simp [bh];omega
    refine hI2 _ l.a l.n l.c v (aa.yes (by rw [aj];simp;omega) ⟨by omega,by rw [aj];omega,?_⟩);intro w10 hw10;rw [cd _ k hk,sY]at hw10;obtain⟨l',w11,hl',hrun,hown',hB',_⟩:=ic.push hv ((ent.1[k].toNat:Nat):Int) hw10 rfl hBv.size (by omega) (by decide);refine⟨l'.a,l'.n,l'.c,w11,hrun,Ar.nat (k+1) rfl (by omega) (ih2 (l',w11) ⟨?_,hB' _ hBv⟩)⟩;rw [ku _ k hk, ←List.append_assoc];exact hown'
   ·rintro⟨l,v⟩ ⟨hv,hBv⟩;change v.ownsRow w1.heap.size cE 1 l.v l.n _ at hv;change Below w1.heap.size w1 v at hBv;rw [List.take_length]at hv;exact hI2 _ l.a l.n l.c v (aa.no (by rw [aj];simp) (hJ' l v hv hBv))
 ·rintro⟨out,q⟩ ⟨hown,hB⟩;rw [List.take_length]at hown;exact hI _ out.a out.n out.c q (aa.no (by simp) ⟨out,rfl,gN.of_own ic hown,ab hb1 hB⟩)
theorem D3 {w:World} {B:Nat} {e:TypeId} {sz:Nat} {k:Nat} (h:w.heap[k]? =some (.cells #[] e (0,0))) (hB:B≤k):w.ownsRow B e sz (.slice (some ⟨k,0,none⟩) 0 0) 0 []:=
 ⟨by simp,.inr ⟨k,0,#[],rfl,hB,h,Nat.le_refl _,by simp⟩⟩
abbrev gq (x:rM):List Value:=[x.t.b.v,x.t.m.v,x.b.b.v,x.b.m.v,x.sp.v]
theorem eh (x:rM):∀v∈gq x,v.oneCell'=true:=by
 intro v hv;simp only [gq,List.mem_cons,List.not_mem_nil,or_false]at hv;rcases hv with rfl |rfl |rfl |rfl |rfl<;>rfl
theorem AQ (x:rM):∀v∈x.cells,¬mu v:=by
 intro v hv;simp only [List.mem_toArray,List.mem_cons,List.not_mem_nil,or_false]at hv;rcases hv with rfl |rfl |rfl |rfl |rfl<;>(rintro(⟨k,n,h⟩ |⟨s,h⟩)<;>cases h)
theorem nL.past {w w':World} {x:iU} {cls:List (Int×Int×Int)} {js:List (Int×Int)} {b:Nat} {c:Array Value} {T:TypeId} {fz:Nat×Nat} (h:nL w x cls js) (hb:w.heap[b]? =some (.cells c T fz)) (hc:∀v∈c,¬mu v) (hne:∀j,j<w.heap.size→j≠b→w'.heap[j]? =w.heap[j]?) (hs:w.heap.size≤w'.heap.size):nL w' x cls js:=
 ⟨h.n1,h.r1.past (fun y=>⟨_,rfl,eZ _ _⟩) hb hc hne hs,h.n2,h.r2.past (fun y=>⟨_,rfl,eZ _ _⟩) hb hc hne hs⟩
theorem jy.past {w w':World} {x:rM} {s:ai} {T:List bl} {b:Nat} {c:Array Value} {ty:TypeId} {fz:Nat×Nat} (h:jy w x s T) (hb:w.heap[b]? =some (.cells c ty fz)) (hc:∀v∈c,¬mu v) (hne:∀j,j<w.heap.size→j≠b→w'.heap[j]? =w.heap[j]?) (hs:w.heap.size≤w'.heap.size):jy w' x s T:=
 ⟨⟨h.t.n1,h.t.r1.past (fun y=>⟨_,rfl,.inr ⟨_,rfl⟩⟩) hb hc hne hs,h.t.k1,h.t.n2,h.t.r2.past (fun y=>⟨_,rfl,eZ _ _⟩) hb hc hne hs,h.t.k2⟩,h.b.past hb hc hne hs,h.sn,h.sr.past (fun y=>⟨_,rfl,eZ _ _⟩) hb hc hne hs,h.ok,h.right,h.ids,h.nodup⟩
abbrev py:rM:=⟨⟨fF,fF⟩,⟨fF,fF⟩,fF⟩
theorem v_ {s:ai} {T:List bl} (h:bq s= .ok T) (hr:s.ranked=false):bG bf 0 s.merges= .ok T∧bn [] 0 s.specials=none∧(∀y∈s.specials,(T.length:Int)≤y.1):=by
 unfold bq ff at h;rw [hr]at h;simp only [Bool.false_eq_true,if_false]at h;cases ht:bG bf 0 s.merges with
 |error q=>rw [ht]at h;cases h
 |ok T'=>
  rw [ht]at h;dsimp only at h;cases hm:bn [] 0 s.specials with
  |some q=>rw [hm]at h;cases h
  |none=>
   rw [hm]at h;dsimp only at h;cases hf:s.specials.findIdx? (fun y=>decide (y.1< (T'.length:Int)))with
   |some i=>rw [hf]at h;cases h
   |none=>
    rw [hf]at h;cases h;refine⟨rfl,rfl,fun y hy=>?_⟩;have:=List.findIdx?_eq_none_iff.1 hf y hy;simpa using this
theorem ul (w:World) (x:aG) (s:ai) (h:aM w x s) (hr:s.ranked=false) (hright:s.right=true) (T:List bl) (hT:bq s= .ok T):
  CP 33 #[x.v] w fun e w'=>∃y:rM,e= .returned (.tuple #[y.v,.int .i64 0,.int .i64 0,.int .i64 0])∧jy w' y s T∧Below w.heap.size w w'∧iI w.heap.size y.t∧y.b=⟨x.s4,x.s5⟩∧y.sp=x.s3:=by
 obtain⟨hT1,hT2,hT3⟩:=v_ hT hr;have hsm:=bT hright;have hnd:(s.specials.map (·.1)).Nodup:=by simpa using kX hT2 (by simp)
 refine aU (ru x.ranked x.s1.a x.s1.n x.s1.c x.s2.a x.s2.n x.s2.c x.s3.a x.s3.n x.s3.c x.s4.a x.s4.n x.s4.c x.s5.a x.s5.n x.s5.c w) ?_;intro w1 hw1 w2 hw2;have hb1:Below w.heap.size w w1:=by subst hw1;exact ag _ _
 have b2:Below w1.heap.size w1 w2:=by subst hw2;exact ag _ _
 have hb2:=ab hb1 b2;have p2:w2.heap[w.heap.size]? =some (.cells x.cells bd (0,0)):=ah b2 (by subst hw1;exact ao _ _);have z2:w2.heap[w1.heap.size]? =some (.cells py.cells HR (0,0)):=by subst hw2;exact ao _ _
 refine⟨_,_,_,_,_,_,_,_,_,_,_,_,_,_,_,_,aV p2,?_⟩;refine(m0 w2 x s (h.on hb2) hr hsm.1).mono ?_;rintro e w3 ⟨u,rfl,t,n,e,rfl,b3,hp⟩;rw [hT1]at hp;obtain⟨rfl,rfl,ht,htok,hfr⟩:=hp;refine⟨_,_,_,_,_,_,_,_,rfl,?_⟩;intro w4 hw4;refine aJ [fF.v,fF.v] [t.b.v,t.m.v] rfl (aS _ _) w4 hw4 ?_;intro w5 h5 hz5 b5;have b35:=ab b3 b5;have hb5:=ab hb2 b35;have p5:=ah b35 p2;have z5:=ah b35 z2;refine aa.no rfl ⟨_,_,_,af _ _ p5 3,?_⟩;have hn3:=h.n3;have hS:=(h.on hb5).r3;obtain⟨⟨a3,n3,c3⟩,hx3⟩:∃y:Sl,y=x.s3:=⟨_,rfl⟩;have e3:n3=s.specials.length:=by rw [←hx3]at hn3;exact hn3
 have hS':Rw av 2 w5 a3 s.specials:=by rw [←hx3]at hS;exact hS
 rw [show x.s3.a=a3 by rw [←hx3],show x.s3.n=s.specials.length from hn3,show x.s3.c=c3 by rw [←hx3]];refine(iA w5 a3 c3 s.specials hS' hsm.2.2.1).mono ?_;rintro e w7 ⟨rfl,b7⟩;have hck:gU s.specials= .tuple #[.int .i64 (s.specials.length:Int),.int .i64 0]:=by rw [gU,hT2]
 refine⟨_,_,by rw [hck],aa.no rfl ?_⟩;have hb7:=ab hb5 b7;intro I hI;have key:=aK (α:=Int×Int×Int×World) s.specials.length (fun i y=>Below w7.heap.size w7 y.2.2.2) (fun i y=>I [.int .i64 (i:Int),.int .i64 y.1,.int .i64 y.2.1,.int .i64 y.2.2.1] y.2.2.2) (0,0,0,w7) (Below.refl _ _) ?_ ?_
 ·exact key
 ·rintro i hi ih ⟨y5,y4,y3,q⟩ hB;change Below w7.heap.size w7 q at hB;have pq:=ah hB (ah b7 p5);have hfew:=hsm.2.2.1;refine hI _ y5 y4 y3 q ⟨_,_,_,af _ _ pq 3,aa.yes (by simp;omega) ?_⟩;intro w10 hw10;have b10:Below q.heap.size q w10:=by subst hw10;exact ba q
  have hB10:=ab hB b10;obtain⟨p,hp,_,hc⟩:=((h.on (ab hb7 hB10)).r3) i _ (List.getElem?_eq_getElem hi);refine⟨_,_,_,af _ _ (ah b10 pq) 3,ae.mk p hp ⟨by omega,by omega,_,hc 0 _ rfl,_,_,_,af _ _ (ah hB10 (ah b7 h5)) 0,aa.no ?_ (Ar.nat (i+1) rfl (by omega) (ih (y5,y4,y3,w10) hB10))⟩⟩;have:=hT3 _ (List.getElem_mem hi);have:=ht.n1;exact decide_eq_false (by omega)
 ·rintro⟨y5,y4,y3,q⟩ hB;change Below w7.heap.size w7 q at hB;have pq:=ah hB (ah b7 p5);have zq:=ah hB (ah b7 z5);have tq:=ah hB (ah b7 h5);have hbq:=ab hb7 hB;have hq:=h.on hbq;refine hI _ y5 y4 y3 q ⟨_,_,_,af _ _ pq 3,aa.no (by simp;omega) ⟨_,_,_,_,_,_,dm tq,_,_,_,af _ _ pq 4,_,_,_,af _ _ pq 5,_,_,_,af _ _ pq 3,?_⟩⟩;refine aN zq (gq ⟨t,⟨x.s4,x.s5⟩,x.s3⟩) rfl (eh ⟨t,⟨x.s4,x.s5⟩,x.s3⟩) ?_;intro w12 h12 hs12 hz12 hB12;have hv:jy q ⟨t,⟨x.s4,x.s5⟩,x.s3⟩ s T:=⟨((ht.on b5).on b7).on hB,⟨hq.n4,hq.r4,hq.n5,hq.r5⟩,hq.n3,hq.r3,htok,hright,hT3,hnd⟩;exact⟨_,_,_,_,_,_,_,_,_,_,_,_,_,_,_,kS (x:=⟨t,⟨x.s4,x.s5⟩,x.s3⟩) h12,⟨t,⟨x.s4,x.s5⟩,x.s3⟩,rfl,hv.past zq (AQ py) (fun j _ hj=>hs12 j hj) (Nat.le_of_eq hz12.symm),hB12 _ _ hb1.size hbq,hfr.mono hb2.size,rfl,rfl⟩
theorem q_ (w:World) (x:aG) (s:ai) (h:aM w x s) (hr:s.ranked=false) (hright:s.right=true) (T:List bl) (hT:bq s= .ok T):
  CP 42 #[x.v] w fun e w'=>∃y:rM,e= .returned y.v∧jy w' y s T∧Below w.heap.size w w'∧iI w.heap.size y.t∧y.b=⟨x.s4,x.s5⟩∧y.sp=x.s3:=by
 refine aU (Ab x.ranked x.s1.a x.s1.n x.s1.c x.s2.a x.s2.n x.s2.c x.s3.a x.s3.n x.s3.c x.s4.a x.s4.n x.s4.c x.s5.a x.s5.n x.s5.c w) ?_;intro w1 hw1 w2 hw2;have hb1:Below w.heap.size w w1:=by subst hw1;exact ag _ _
 have b2:Below w1.heap.size w1 w2:=by subst hw2;exact ag _ _
 have hb2:=ab hb1 b2;have p2:w2.heap[w.heap.size]? =some (.cells x.cells bd (0,0)):=ah b2 (by subst hw1;exact ao _ _);have z2:w2.heap[w1.heap.size]? =some (.cells py.cells HR (0,0)):=by subst hw2;exact ao _ _
 refine⟨_,_,_,_,_,_,_,_,_,_,_,_,_,_,_,_,aV p2,?_⟩;refine(ul w2 x s (h.on hb2) hr hright T hT).mono ?_;rintro e w3 ⟨y,rfl,hy,b3,f3,e1,e2⟩;refine⟨_,_,_,_,_,_,_,_,_,_,_,_,_,_,_,_,_,_,rfl,?_⟩;intro w4 hw4;refine aJ (gq py) (gq y) rfl (eh y) w4 hw4 ?_;intro w5 h5 hz5 b5;have b35:=ab b3 b5;have z5:=ah b35 z2;refine⟨_,_,_,_,_,_,_,_,_,_,_,_,_,_,_,kS (x:=y) h5,?_⟩;refine aN z5 (gq y) rfl (eh y) ?_;intro w6 h6 hs6 hz6 hB6;exact⟨_,_,_,_,_,_,_,_,_,_,_,_,_,_,_,kS (x:=y) h6,y,rfl,(hy.on b5).past z5 (AQ py) (fun j _ hj=>hs6 j hj) (Nat.le_of_eq hz6.symm),hB6 _ _ hb1.size (ab hb2 b35),f3.mono hb2.size,e1,e2⟩
abbrev FU:TypeId:=25
abbrev Lk:TypeId:=23
abbrev Lc:TypeId:=24
theorem ek:Fb av 2 FU kU 24:=⟨fun _=>rfl,by decide,fun x=>ft _ _,jZ,_,np,rfl⟩
theorem Fb.pushAt {α:Type} {enc:α→List Value} {sz bytes:Nat} {t e:TypeId} (E:Fb enc sz t e bytes) {B:Nat} {w:World} {s:Sl} {xs:List α} (hown:w.ownsRow B e sz s.v s.n (xs.flatMap enc)) (x:α) {b:Nat} {T:TypeId} {fz:Nat×Nat} (hx:w.heap[b]? =some (.cells (enc x).toArray T fz)) (hB:B≤w.heap.size) (hn:s.n≤1000000000) (hb:bytes≤1000):
  ∃(l:Sl) (w4:World),l.n=s.n+1∧(Builtin.append_ #[t,t] t #[.slice s.a s.n s.c,.slice (some ⟨b,0,none⟩) 1 1]).run Tryz.prog w= .ok (.slice l.a l.n l.c) w4∧w4.ownsRow B e sz l.v l.n ((xs++ [x]).flatMap enc)∧(∀w0,Below B w0 w→Below B w0 w4)∧(∀k,k<w.heap.size→s.v.ownBlock≠some k→w4.heap[k]? =w.heap[k]?):=by
 obtain⟨z,hi,hzs⟩:=E.hz;have hmul:(s.n+1)*bytes≤(1000000000+1)*1000:=Nat.mul_le_mul (by omega) hb;obtain⟨A,C,w4,h1,h2,h3,h4⟩:=mX (enc:=enc) (sz:=sz) E.hsz E.h0 E.h1 t e E.ht hi hzs hown x hx hB (by omega) (by omega);exact⟨⟨A,s.n+1,C⟩,w4,rfl,h1,h2,h3,h4⟩
theorem Rw.cut {α:Type} {enc:α→List Value} {sz:Nat} {w:World} {a:Option Addr} {xs:List α} (h:Rw enc sz w a xs) (i m:Nat) (hm:xs.length≤m):Rw enc sz w (cu a i m sz) (xs.drop i):=by
 intro j x hj;rw [List.getElem?_drop]at hj;have hlt:=(List.getElem?_eq_some_iff.1 hj).1;obtain⟨p,rfl,hp,hc⟩:=h _ _ hj;unfold cu;rw [if_neg (by omega)];refine⟨p.add (i*sz),rfl,by rw [aq];exact hp,fun k v hk=>?_⟩;rw [Addr.add_add p, ←Nat.add_mul];exact hc k v hk
theorem Rw.take {α:Type} {enc:α→List Value} {sz:Nat} {w:World} {a:Option Addr} {xs:List α} (h:Rw enc sz w a xs) (n:Nat):Rw enc sz w a (xs.take n):=by
 intro j x hj;rw [List.getElem?_take]at hj;split at hj
 ·exact h j x hj
 ·cases hj
theorem rt:∀(xs ys:List (Int×Bs)) (i:Nat),bn ys i xs=none→∀x∈xs,aY x=true
 | [],_,_,_,x,hx=>by cases hx
 |y::xs,ys,i,h,x,hx=>by
  rw [bn]at h;split at h
  ·rename_i h0;rcases List.mem_cons.1 hx with rfl |hx
   ·cases hs:aY x with
    |true=>rfl
    |false=>rw [cf,if_pos hs]at h0;cases h0
   ·exact rt xs _ _ h x hx
  ·cases h
structure gh (w4 q:World) (m:Sl) (sp cl jn:Sl) (xs:List (Int×Bs)) (cls:List (Int×Int×Int)) (js:List (Int×Int)):Prop where
 blk:q.heap[w4.heap.size]? =some (.cells #[.bool false,m.v,fF.v,sp.v,cl.v,jn.v] bd (0,0))
 o1:q.ownsRow w4.heap.size kU 2 sp.v sp.n (xs.flatMap av)
 o2:q.ownsRow w4.heap.size wK 3 cl.v cl.n (cls.flatMap aZ)
 o3:q.ownsRow w4.heap.size AN 2 jn.v jn.n (js.flatMap aD)
 cok:cls.all aR=true
 jok:js.all bK=true
 mrk:bn [] 0 xs=none
 xid:∀y∈xs,1000≤y.1∧y.1<1006
 asc:(xs.map (·.1)).Pairwise (·< ·)
 l1:xs.length≤6
 l2:cls.length≤8
 l3:js.length≤8
 B:Below w4.heap.size w4 q
theorem gh.on {w4 q q':World} {m sp cl jn:Sl} {xs:List (Int×Bs)} {cls:List (Int×Int×Int)} {js:List (Int×Int)} (h:gh w4 q m sp cl jn xs cls js) (hb:Below q.heap.size q q'):gh w4 q' m sp cl jn xs cls js:=
 ⟨ah hb h.blk,aL h.o1 hb,aL h.o2 hb,aL h.o3 hb,h.cok,h.jok,h.mrk,h.xid,h.asc,h.l1,h.l2,h.l3,h.B.trans (hb.mono h.B.size)⟩
def tB (es:List bl) (xs:List (Int×Bs)) (cls:List (Int×Int×Int)) (js:List (Int×Int)):ai:={merges:=au es,specials:=xs,classes:=cls,joins:=js}
theorem some_right {es:List bl} (h:gW es) {xs:List (Int×Bs)} {cls:List (Int×Int×Int)} {js:List (Int×Int)} (cok:cls.all aR=true) (jok:js.all bK=true) (mk:bn [] 0 xs=none) (l1:xs.length≤6) (l2:cls.length≤8) (l3:js.length≤8):(tB es xs cls js).right=true:=by
 have hm:=h.most;have hml:=dK h;have e1:bk (au es) 744 dr=true:=by
  rw [bk,decide_eq_true (by omega),Bool.true_and,List.all_eq_true];intro m hm;obtain⟨k,hk⟩:=List.getElem?_of_mem hm;have hkl:=(List.getElem?_eq_some_iff.1 hk).1;obtain⟨h1,h2⟩:=ky h hk;exact decide_eq_true (by omega)
 have e2:bk xs 32 aY=true:=by
  rw [bk,decide_eq_true (by omega),Bool.true_and,List.all_eq_true];exact rt xs [] 0 mk
 have e3:bk cls 64 aR=true:=by rw [bk,decide_eq_true (by omega),cok];rfl
 have e4:bk js 64 bK=true:=by rw [bk,decide_eq_true (by omega),jok];rfl
 show(((((true&&bk (au es) 744 dr)&&bk ([]:List Bs) 744 ee)&&bk xs 32 aY)&&bk cls 64 aR)&&bk js 64 bK)=true;rw [e1,e2,e3,e4];rfl
theorem some_build {es:List bl} (h:gW es) (hnew:bG bf 0 (au es)= .ok es) {xs:List (Int×Bs)} {cls:List (Int×Int×Int)} {js:List (Int×Int)} (mk:bn [] 0 xs=none) (xid:∀y∈xs,1000≤y.1∧y.1<1006):bq (tB es xs cls js)= .ok es:=by
 have hm:=h.most;unfold bq ff tB;simp only [Bool.false_eq_true,if_false,hnew,mk];have:xs.findIdx? (fun y=>decide (y.1< (es.length:Int)))=none:=by
  rw [List.findIdx?_eq_none_iff];intro y hy;have:=xid y hy;exact decide_eq_false (by omega)
 rw [this]
def jx (ys:List (Int×Bs)):Nat→List (Int×Bs)
 |0=>[]
 |i+1=>match bn [] 0 (jx ys i++ [(((1000+i:Nat):Int),(ys.getD i (0,[])).2)])with
  |none=>jx ys i++ [(((1000+i:Nat):Int),(ys.getD i (0,[])).2)]
  |some _=>jx ys i
theorem pD {ys:List (Int×Bs)} {i:Nat} (hi:i<ys.length):jx ys (i+1)=match bn [] 0 (jx ys i++ [(((1000+i:Nat):Int),ys[i].2)])with
  |none=>jx ys i++ [(((1000+i:Nat):Int),ys[i].2)]
  |some _=>jx ys i:=by
 have e:ys.getD i (0,[])=ys[i]:=by simp [List.getD,hi]
 rw [jx,e]
theorem ie {α:Type} (p:α→Bool) (xs:List α) {i:Nat} (hi:i<xs.length):(xs.take (i+1)).filter p=(xs.take i).filter p++(if p xs[i]=true then [xs[i]]else []):=by
 rw [List.take_add_one,List.getElem?_eq_getElem hi,List.filter_append];cases h:p xs[i]<;>simp [h]
def someV (l:List Int) (cs:List (Int×Int×Int)) (gs:List (Int×Int)) (ys:List (Int×Bs)):ai:=
 tB (gY l 30) (jx ys (min ys.length 6)) ((cs.take (min cs.length 8)).filter aR) ((gs.take (min gs.length 8)).filter bK)
def GF (s0:ai) (w:World) (u:Value) (w':World):Prop:=∃(x:aG) (s:ai) (T:List bl),u=x.v∧aM w' x s∧s.ranked=false∧s.right=true∧bq s= .ok T∧gW T∧s.specials.length≤6∧(∀y∈s.specials,1000≤y.1∧y.1<1006)∧(s.specials.map (·.1)).Pairwise (·< ·)∧s=s0∧Below w.heap.size w w'
def rJ (s0:ai) (w:World) (u:Value) (w':World):Prop:=∃(x:aG) (s:ai) (T:List bl),u=x.v∧aM w' x s∧s.ranked=false∧s.right=true∧bq s= .ok T∧gW T∧s.specials.length≤6∧(∀y∈s.specials,1000≤y.1∧y.1<1006)∧(s.specials.map (·.1)).Pairwise (·< ·)∧s=s0∧Below w.heap.size w w'∧Wr w' x.s1 2 w.heap.size∧Wr w' x.s4 3 w.heap.size
theorem kW (w:World) (A1:Option Addr) (C1:Nat) (l:List Int) (h1:Rw oP 1 w A1 l) (A2:Option Addr) (C2:Nat) (cs:List (Int×Int×Int)) (h2:Rw aZ 3 w A2 cs) (A3:Option Addr) (C3:Nat) (gs:List (Int×Int)) (h3:Rw aD 2 w A3 gs) (A4:Option Addr) (C4:Nat) (ys:List (Int×Bs)) (h4:Rw av 2 w A4 ys)
  (hc2:cs.length≤C2) (hc3:gs.length≤C3):
  CP 41 #[.slice A1 l.length C1,.slice A2 cs.length C2,.slice A3 gs.length C3,.slice A4 ys.length C4] w fun e w'=>∃u,e= .returned u∧rJ (someV l cs gs ys) w u w':=by
 refine Ae A1 l.length C1 A2 cs.length C2 A3 gs.length C3 A4 ys.length C4 w (rJ (someV l cs gs ys) w) ?_;intro w1 hw1;have hb1:Below w.heap.size w w1:=by subst hw1;exact ag _ _
 have z1:w1.heap[w.heap.size]? =some (.cells bX.cells bd (0,0)):=by subst hw1;exact ao _ _
 refine(sA w1 A1 C1 l (h1.on hb1)).mono ?_;rintro e w2 ⟨t,es,rfl,ht,htok,hnew,hes,b2,hWt⟩;refine⟨_,_,_,_,_,_,rfl,?_⟩;intro w3 hw3;refine aJ [fF.v,fF.v] [t.b.v,t.m.v] rfl (aS _ _) w3 hw3 ?_;intro w4 h4' hz4 b4;have b14:=ab b2 b4;have hb4:=ab hb1 b14;have z4:=ah b14 z1;have hlt4:w.heap.size<w4.heap.size:=(Array.getElem?_eq_some_iff.1 z4).1;refine⟨_,_,_,af _ _ h4' 1,?_⟩;intro w5 hw5;refine dD ⟨false,t.m,fF,fF,fF,fF⟩ w5 hw5 ?_;intro w6 h6 b6;have ht4:=ht.on b4;have fin:∀(q:World) (sp cl jn:Sl) (xs:List (Int×Bs)) (cls:List (Int×Int×Int)) (js:List (Int×Int)),gh w4 q t.m sp cl jn xs cls js→xs=jx ys (min ys.length 6)→cls=(cs.take (min cs.length 8)).filter aR→js=(gs.take (min gs.length 8)).filter bK→
   ar q (nb w) (fun w7=>∃res0:Bool,∃res1A:Option Addr,∃res1N:Nat,∃res1C:Nat,∃res2A:Option Addr,∃res2N:Nat,∃res2C:Nat,∃res3A:Option Addr,∃res3N:Nat,∃res3C:Nat,∃res4A:Option Addr,∃res4N:Nat,∃res4C:Nat,∃res5A:Option Addr,∃res5N:Nat,∃res5C:Nat,(w7.cell? (nb w)=some (Value.bool res0)∧w7.cell? ((nb w).add 1)=some (Value.slice res1A res1N res1C)∧w7.cell? ((nb w).add 2)=some (Value.slice res2A res2N res2C)∧w7.cell? ((nb w).add 3)=some (Value.slice res3A res3N res3C)∧w7.cell? ((nb w).add 4)=some (Value.slice res4A res4N res4C)∧w7.cell? ((nb w).add 5)=some (Value.slice res5A res5N res5C)∧True)∧
    rJ (someV l cs gs ys) w (aG.v ⟨res0,⟨res1A,res1N,res1C⟩,⟨res2A,res2N,res2C⟩,⟨res3A,res3N,res3C⟩,⟨res4A,res4N,res4C⟩,⟨res5A,res5N,res5C⟩⟩) w7)
   [Value.bool false,Value.slice t.m.a t.m.n t.m.c,Value.slice none 0 0,Value.slice sp.a sp.n sp.c,Value.slice cl.a cl.n cl.c,Value.slice jn.a jn.n jn.c] 0:=by
  intro q sp cl jn xs cls js hq ex ec ej;have zq:=Below.keeps hq.B hlt4 z4;have hbq:Below w.heap.size w q:=hb4.trans (hq.B.mono (by omega));have r1:=gN.of_own ek hq.o1;have r2:=Rw.of_own hq.o2 (fun _=>rfl) (by decide);have r3:=Rw.of_own hq.o3 (fun _=>rfl) (by decide);have htq:=ht4.on hq.B;have hS:aM q ⟨false,t.m,fF,sp,cl,jn⟩ (tB es xs cls js):=⟨rfl,htq.n2,htq.r2,rfl,fun j x hj=>(by cases hj),r1.n,r1.r,r2.2,r2.1,r3.2,r3.1⟩;refine dI (w:=w) (w6:=q) (fun x w7=>rJ (someV l cs gs ys) w x.v w7) ⟨false,t.m,fF,sp,cl,jn⟩ zq rfl ?_;intro w7 hB7 hs7;have hz7:q.heap.size≤w7.heap.size:=(hB7 q (Below.refl _ _)).size;exact⟨⟨false,t.m,fF,sp,cl,jn⟩,tB es xs cls js,es,rfl,hS.past zq (by
   intro v hv;simp only [List.mem_toArray,List.mem_cons,List.not_mem_nil,or_false]at hv;rcases hv with rfl |rfl |rfl |rfl |rfl |rfl<;>(rintro(⟨k,n,h⟩ |⟨s,h⟩)<;>cases h)) (fun j _ hj=>hs7 j hj) hz7,rfl,some_right htok hq.cok hq.jok hq.mrk hq.l1 hq.l2 hq.l3,some_build htok hnew hq.mrk hq.xid,htok,hq.l1,hq.xid,hq.asc,by rw [someV, ←hes, ←ex, ←ec, ←ej],hB7 w hbq,((((hWt.on b4).on hq.B).base (show w.heap.size+1≤_ by have:=hb1.size;omega)).off (Nat.lt_succ_self _) hs7).base (Nat.le_succ _),(((Wr.of_own hq.o2 (by decide)).base (show w.heap.size+1≤_ by omega)).off (Nat.lt_succ_self _) hs7).base (Nat.le_succ _)⟩
 have start:gh w4 w6 t.m fF fF fF [] [] []:=⟨h6,dx _ _ _ _ av,dx _ _ _ _ aZ,dx _ _ _ _ aD,rfl,rfl,rfl,fun y hy=>(by cases hy),List.Pairwise.nil,Nat.zero_le _,Nat.zero_le _,Nat.zero_le _,b6⟩;have soft:∀ {q:World} {sp cl jn:Sl} {xs:List (Int×Bs)} {cls:List (Int×Int×Int)} {js:List (Int×Int)},gh w4 q t.m sp cl jn xs cls js→sp.v.ownBlock≠some w4.heap.size∧cl.v.ownBlock≠some w4.heap.size∧jn.v.ownBlock≠some w4.heap.size:=fun h=>⟨bR h.o1 h.blk (by decide),bR h.o2 h.blk (by decide),bR h.o3 h.blk (by decide)⟩;intro I4 hI4;have key:=aK (α:=World) (min cs.length 8) (fun i q=>∃(cl:Sl) (cls:List (Int×Int×Int)),gh w4 q t.m fF cl fF [] cls []∧cls.length≤i∧cls=(cs.take i).filter aR) (fun i q=>I4 [.int .i64 (i:Int)] q) w6 ⟨fF,[],start,Nat.zero_le _,rfl⟩ ?_ ?_
 ·exact key
 ·rintro i hi ih q ⟨cl,cls,hst,hcl,hce⟩;have hi1:i<cs.length:=by omega
  have hi2:i<8:=by omega
  refine hI4 _ _ (aa.yes (by simp;omega) (aa.yes (by simp;omega) ?_));intro J hJ;have hJ':∀(v:World) (cl:Sl) (cls:List (Int×Int×Int)),gh w4 v t.m fF cl fF [] cls []→cls.length≤i+1→cls=(cs.take (i+1)).filter aR→J [] v:=fun v cl cls h1 h2 h3=>hJ v (Ar.nat (i+1) rfl (by omega) (ih v ⟨cl,cls,h1,h2,h3⟩));have hbq:Below w.heap.size w q:=hb4.trans (hst.B.mono (by omega));have hbt:nL q ⟨⟨cu A2 i C2 3,i+1-i,C2-i⟩,fF⟩ [cs[i]] []:=by
   refine⟨by show i+1-i=1;omega,?_,rfl,fun j x hj=>by cases hj⟩;have:=((h2.on hbq).cut i C2 hc2).take 1;rw [List.drop_eq_getElem_cons hi1]at this;exact this
  refine Ar.nat (i+1) rfl (by omega) ⟨by omega,by omega,by omega,trivial,trivial,?_⟩;refine(lj q ⟨⟨cu A2 i C2 3,i+1-i,C2-i⟩,fF⟩ [cs[i]] [] hbt (by simp) (by simp)).mono ?_;rintro e w9 ⟨rfl,b9⟩;have hst9:=hst.on b9;refine⟨_,rfl,aa.mk (fun hok=>?_) fun hno=>hJ' w9 cl cls hst9 (by omega) (by rw [ie aR cs hi1,if_neg (by intro h;simp [h]at hno),List.append_nil];exact hce)⟩;intro w10 hw10;have b10:Below w9.heap.size w9 w10:=by subst hw10;exact ba w9
  have hst10:=hst9.on b10;have hb10:=hbq.trans ((ab b9 b10).mono hbq.size);obtain⟨p,hp,_,hc⟩:=(h2.on hb10) i _ (List.getElem?_eq_getElem hi1);have c0:=hc 0 _ rfl;rw [an]at c0;refine⟨_,_,_,af _ _ hst10.blk 4,ae.mk p hp ⟨by omega,by omega,_,_,_,⟨c0,hc 1 _ rfl,hc 2 _ rfl,trivial⟩,?_⟩⟩;intro w11 hw11;have b11:Below w10.heap.size w10 w11:=by subst hw11;exact ag _ _
  refine⟨⟨af _ _ (hst10.on b11).blk 4,trivial⟩,?_⟩;obtain⟨a',c',w12,hr12,hu12,hf12,h13⟩:=eV (P:=Tryz.prog) (s:=cl) 4 hst10.blk (show 4<6 by decide) hst10.o2 (soft hst10).2.1 (Nat.le_refl _) Lk lL rf rfl (by decide) (aZ cs[i]) rfl (fI _ _ _) (by have:=(Rw.of_own hst10.o2 (fun _=>rfl) (by decide)).2;have:=hst10.l2;omega) (by have:=(Rw.of_own hst10.o2 (fun _=>rfl) (by decide)).2;have:=hst10.l2;omega);subst hw11;refine⟨a',cl.n+1,c',w12,hr12,rfl,hu12,hf12,?_⟩;intro w13 hw13;obtain⟨g1,g2,g3,g4,g5,g6,g7⟩:=h13 w13 hw13;have hok:aR cs[i]=true:=by simpa using hok
  refine hJ' w13 ⟨a',cl.n+1,c'⟩ (cls++ [cs[i]]) ⟨g1,dx _ _ _ _ av,by rw [List.flatMap_append];simpa using g2,dx _ _ _ _ aD,by rw [List.all_append,hst10.cok];simpa using hok,rfl,rfl,fun y hy=>(by cases hy),List.Pairwise.nil,Nat.zero_le _,by rw [List.length_append];simp;omega,Nat.zero_le _,g4 _ hst10.B⟩ (by rw [List.length_append];simp;omega) (by rw [ie aR cs hi1,if_pos hok, ←hce])
 rintro q ⟨cl,cls,hst,hcl,hce⟩;refine hI4 _ _ (aa.mk (fun hlt=>aa.no ?_ ?_) fun hlt=>?_)
 ·have:=of_decide_eq_true hlt;exact decide_eq_false (by omega)
 all_goals
  clear hlt;intro I13 hI13;have key2:=aK (α:=World) (min gs.length 8) (fun i q=>∃(jn:Sl) (js:List (Int×Int)),gh w4 q t.m fF cl jn [] cls js∧js.length≤i∧js=(gs.take i).filter bK) (fun i q=>I13 [.int .i64 (i:Int)] q) q ⟨fF,[],hst,Nat.zero_le _,rfl⟩ ?_ ?_
  ·exact key2
  ·rintro i hi ih q ⟨jn,js,hst,hjn,hje⟩;have hi1:i<gs.length:=by omega
   have hi2:i<8:=by omega
   refine hI13 _ _ (aa.yes (by simp;omega) (aa.yes (by simp;omega) ?_));intro J hJ;have hJ':∀(v:World) (jn:Sl) (js:List (Int×Int)),gh w4 v t.m fF cl jn [] cls js→js.length≤i+1→js=(gs.take (i+1)).filter bK→J [] v:=fun v jn js h1 h2 h3=>hJ v (Ar.nat (i+1) rfl (by omega) (ih v ⟨jn,js,h1,h2,h3⟩));have hbq:Below w.heap.size w q:=hb4.trans (hst.B.mono (by omega));have hbt:nL q ⟨fF,⟨cu A3 i C3 2,i+1-i,C3-i⟩⟩ [] [gs[i]]:=by
    refine⟨rfl,fun j x hj=>(by cases hj),by show i+1-i=1;omega,?_⟩;have:=((h3.on hbq).cut i C3 hc3).take 1;rw [List.drop_eq_getElem_cons hi1]at this;exact this
   refine Ar.nat (i+1) rfl (by omega) ⟨by omega,by omega,by omega,trivial,trivial,?_⟩;refine(lj q ⟨fF,⟨cu A3 i C3 2,i+1-i,C3-i⟩⟩ [] [gs[i]] hbt (by simp) (by simp)).mono ?_;rintro e w9 ⟨rfl,b9⟩;have hst9:=hst.on b9;refine⟨_,rfl,aa.mk (fun hok=>?_) fun hno=>hJ' w9 jn js hst9 (by omega) (by rw [ie bK gs hi1,if_neg (by intro h;simp [h]at hno),List.append_nil];exact hje)⟩;intro w10 hw10;have b10:Below w9.heap.size w9 w10:=by subst hw10;exact ba w9
   have hst10:=hst9.on b10;have hb10:=hbq.trans ((ab b9 b10).mono hbq.size);obtain⟨p,hp,_,hc⟩:=(h3.on hb10) i _ (List.getElem?_eq_getElem hi1);have c0:=hc 0 _ rfl;rw [an]at c0;refine⟨_,_,_,af _ _ hst10.blk 5,ae.mk p hp ⟨by omega,by omega,_,_,⟨c0,hc 1 _ rfl,trivial⟩,?_⟩⟩;intro w11 hw11;have b11:Below w10.heap.size w10 w11:=by subst hw11;exact ag _ _
   refine⟨⟨af _ _ (hst10.on b11).blk 5,trivial⟩,?_⟩;obtain⟨a',c',w12,hr12,hu12,hf12,h13⟩:=eV (P:=Tryz.prog) (s:=jn) 5 hst10.blk (show 5<6 by decide) hst10.o3 (soft hst10).2.2 (Nat.le_refl _) Lc lF qU rfl (by decide) (aD gs[i]) rfl (cZ _ _) (by have:=(Rw.of_own hst10.o3 (fun _=>rfl) (by decide)).2;have:=hst10.l3;omega) (by have:=(Rw.of_own hst10.o3 (fun _=>rfl) (by decide)).2;have:=hst10.l3;omega);subst hw11;refine⟨a',jn.n+1,c',w12,hr12,rfl,hu12,hf12,?_⟩;intro w13 hw13;obtain⟨g1,g2,g3,g4,g5,g6,g7⟩:=h13 w13 hw13;have hok:bK gs[i]=true:=by simpa using hok
   have k2:w13.ownsRow w4.heap.size wK 3 cl.v cl.n (cls.flatMap aZ):=bD hst10.o2 fun k hk=>g5 k (cn hst10.o2 k hk).2 (fun e=>(soft hst10).2.1 (by rw [←e];exact hk)) (dj hst10.o2 hst10.o3 (by decide) k hk);refine hJ' w13 ⟨a',jn.n+1,c'⟩ (js++ [gs[i]]) ⟨g1,dx _ _ _ _ av,k2,by rw [List.flatMap_append];simpa using g2,hst10.cok,by rw [List.all_append,hst10.jok];simpa using hok,rfl,fun y hy=>(by cases hy),List.Pairwise.nil,Nat.zero_le _,hst10.l2,by rw [List.length_append];simp;omega,g4 _ hst10.B⟩ (by rw [List.length_append];simp;omega) (by rw [ie bK gs hi1,if_pos hok, ←hje])
  rintro q ⟨jn,js,hst,hjn,hje⟩;refine hI13 _ _ (aa.mk (fun hlt=>aa.no ?_ ?_) fun hlt=>?_)
  ·have:=of_decide_eq_true hlt;exact decide_eq_false (by omega)
  all_goals
   clear hlt;intro I28 hI28;have key3:=aK (α:=World) (min ys.length 6) (fun i q=>∃(sp:Sl) (xs:List (Int×Bs)),gh w4 q t.m sp cl jn xs cls js∧xs.length≤i∧(∀y∈xs,y.1<1000+(i:Int))∧xs=jx ys i) (fun i q=>I28 [.int .i64 (i:Int)] q) q ⟨fF,[],hst,Nat.zero_le _,fun y hy=>(by cases hy),rfl⟩ ?_ ?_
   ·exact key3
   ·rintro i hi ih q ⟨sp,xs,hst,hxl,hxb,hxe⟩;have hi1:i<ys.length:=by omega
    have hi2:i<6:=by omega
    refine hI28 _ _ (aa.yes (by simp;omega) (aa.yes (by simp;omega) ?_));intro J hJ;have hJ':∀(v:World) (sp:Sl) (xs:List (Int×Bs)),gh w4 v t.m sp cl jn xs cls js→xs.length≤i+1→(∀y∈xs,y.1<1000+((i+1:Nat):Int))→xs=jx ys (i+1)→J [] v:=fun v sp xs h1 h2 h3 h4=>hJ v (Ar.nat (i+1) rfl (by omega) (ih v ⟨sp,xs,h1,h2,h3,h4⟩));intro w23 hw23;have b23:Below q.heap.size q w23:=by subst hw23;exact ba q
    have hst23:=hst.on b23;have hb23:Below w.heap.size w w23:=hb4.trans (hst23.B.mono (by omega));obtain⟨p,hp,_,_⟩:=(h4.on hb23) i _ (List.getElem?_eq_getElem hi1);have cellS:∀v:World,Below w23.heap.size w23 v→v.cell? ((p.add (i*2)).add 1)=some (.string (str ys[i].2)):=by
     intro v hv;obtain⟨p',hp',_,hc⟩:=(h4.on (ab hb23 hv)) i _ (List.getElem?_eq_getElem hi1);have:p'=p:=by rw [hp]at hp';exact(Option.some.inj hp').symm
     subst this;exact hc 1 _ rfl
    have cell3:∀v:World,Below w23.heap.size w23 v→v.cell? ((nb w4).add 3)=some sp.v:=fun v hv=>af _ _ (hst23.on hv).blk 3;have hspn:=(gN.of_own ek hst23.o1).n;have hl1:=hst23.l1;have check:∀(y:Sl) (v:World),Below w23.heap.size w23 v→v.ownsRow w23.heap.size kU 2 y.v y.n ((xs++ [(((1000+i:Nat):Int),ys[i].2)]).flatMap av)→
      CP 98 #[Value.slice y.a y.n y.c] v (fun e28 w28=>∃r0:Int,∃r1:Int,e28= .returned (Value.tuple #[Value.int .i64 r0,Value.int .i64 r1])∧
       aa ((r1:Int)==0)
        ((Value.slice y.a y.n y.c).oneCell'=true∧(∃u,w28.cell? ((nb w4).add 3)=some u)∧w28.frozen? ((nb w4).add 3)=false∧
         ∀w29:World,w29=(w28.setCell ((nb w4).add 3) (Value.slice y.a y.n y.c))→J [] w29)
        (J [] w28)):=by
     intro y v hv hy;have hls:=gN.of_own ek hy;have hyn:=hls.n;obtain⟨ya,yn,yc⟩:=y;change yn=_ at hyn;subst hyn;refine(iA v ya yc _ hls.r (by rw [List.length_append];simp;omega)).mono ?_;rintro e w28 ⟨rfl,b28⟩;have hb28:=ab hv b28;have st28:=hst23.on hb28;have hy28:=cD (aL hy b28) hst23.B.size;cases hm:bn [] 0 (xs++ [(((1000+i:Nat):Int),ys[i].2)])with
     |some z=>
      refine⟨_,_,by rw [gU,hm],aa.no (by simpa using lH hm) (hJ' w28 sp xs st28 (by omega) (fun y hy=>by have:=hxb y hy;omega) (by rw [pD hi1, ←hxe,hm]))⟩
     |none=>
      refine⟨_,_,by rw [gU,hm],aa.yes rfl ⟨rfl,⟨_,cell3 w28 hb28⟩,a_ st28.blk,?_⟩⟩;intro w29 hw29;subst hw29;have s28:=soft st28;refine hJ' _ ⟨ya,_,yc⟩ (xs++ [(((1000+i:Nat):Int),ys[i].2)]) ⟨bo st28.blk _,db hy28 _ (by rw [aq];exact bR hy28 st28.blk (by decide)),db st28.o2 _ (by rw [aq];exact s28.2.1),db st28.o3 _ (by rw [aq];exact s28.2.2),st28.cok,st28.jok,hm,?_,?_,by rw [List.length_append];simp;omega,st28.l2,st28.l3,bg st28.B (Nat.le_refl _) _⟩ (by rw [List.length_append];simp;omega) ?_ (by rw [pD hi1, ←hxe,hm])
      ·intro z hz;rcases List.mem_append.1 hz with hz |hz
       ·exact st28.xid z hz
       ·rw [List.mem_singleton.1 hz];show(1000:Int)≤((1000+i:Nat):Int)∧((1000+i:Nat):Int) <1006;omega
      ·rw [List.map_append,List.pairwise_append];refine⟨st28.asc,List.pairwise_singleton _ _,fun a ha b hb=>?_⟩;obtain⟨y,hy,rfl⟩:=List.mem_map.1 ha;have:=hxb y hy;simp at hb;omega
      ·intro y hy;rcases List.mem_append.1 hy with hy |hy
       ·have:=hxb y hy;omega
       ·rw [List.mem_singleton.1 hy];show((1000+i:Nat):Int) <1000+((i+1:Nat):Int);omega
    have spr:∀(v:World) (k:Nat),Below w23.heap.size w23 v→v.heap[k]? =some (.cells #[] kU (0,0))→w23.heap.size≤k→∃(r:Sl) (v':World),r.n=sp.n∧(Builtin.append_ #[FU,FU] FU #[.slice (some ⟨k,0,none⟩) 0 0,.slice sp.a sp.n sp.c]).run Tryz.prog v= .ok (.slice r.a r.n r.c) v'∧v'.ownsRow w23.heap.size kU 2 r.v r.n (xs.flatMap av)∧Below w23.heap.size w23 v'∧(∀j,j<v.heap.size→j≠k→v'.heap[j]? =v.heap[j]?):=by
     intro v k hv hk hle;have hls:=gN.of_own ek (hst23.on hv).o1;obtain⟨r,v',g1,g2,g3,g4,g5,_⟩:=ek.spread (s:=⟨some ⟨k,0,none⟩,0,0⟩) (xs:=[]) (D3 hk hle) hls hv.size (Nat.zero_le _) (by omega) (by decide);refine⟨r,v',by rw [g1];show 0+sp.n=sp.n;omega,g2,g3,g4 _ hv,fun j hj hjk=>g5 j hj fun e=>hjk ?_⟩;have:k=j:=by simpa [Value.ownBlock]using e
     exact this.symm
    refine⟨_,_,_,cell3 w23 (Below.refl _ _),Ar.nat (1000+i) (by omega) (by omega) (ae.mk p hp ⟨by omega,by omega,_,cellS w23 (Below.refl _ _),?_,?_⟩)⟩
    ·intro w24 hw24;have b24:Below w23.heap.size w23 w24:=by subst hw24;exact ag _ _
     have n24:w24.heap[w23.heap.size]? =some (.cells #[] kU (0,0)):=by subst hw24;exact ao _ _
     refine⟨⟨cellS w24 b24,trivial⟩,⟨cell3 w24 b24,trivial⟩,?_,?_⟩
     ·obtain⟨r,w25,g1,g2,g3,g4,g5⟩:=spr w24 _ b24 n24 (Nat.le_refl _);refine⟨r.a,r.n,r.c,w25,g2,⟨cellS w25 g4,trivial⟩,?_⟩;intro w26 hw26;obtain⟨y,w27,f1,f2,f3,f4,f5⟩:=ek.push g3 (((1000+i:Nat):Int),ys[i].2) hw26 rfl g4.size (by omega) (by decide);exact⟨y.a,y.n,y.c,w27,f2,check y w27 (f4 _ g4) f3⟩
     ·intro w30 hw30;have b30:Below w24.heap.size w24 w30:=by subst hw30;exact ag _ _
      have e30:w30.heap[w24.heap.size]? =some (.cells (av (((1000+i:Nat):Int),ys[i].2)).toArray kU (0,0)):=by subst hw30;exact ao _ _
      have b2330:=ab b24 b30;refine⟨⟨cell3 w30 b2330,trivial⟩,?_⟩;obtain⟨r,w31,g1,g2,g3,g4,g5⟩:=spr w30 _ b2330 (ah b30 n24) (Nat.le_refl _);have hz24:=(Array.getElem?_eq_some_iff.1 n24).1;have e31:w31.heap[w24.heap.size]? =some (.cells (av (((1000+i:Nat):Int),ys[i].2)).toArray kU (0,0)):=by
       rw [g5 _ (Array.getElem?_eq_some_iff.1 e30).1 (by omega)];exact e30
      obtain⟨y,w32,f1,f2,f3,f4,f5⟩:=ek.pushAt g3 (((1000+i:Nat):Int),ys[i].2) e31 g4.size (by omega) (by decide);exact⟨r.a,r.n,r.c,w31,g2,y.a,y.n,y.c,w32,f2,check y w32 (f4 _ g4) f3⟩
    ·intro w86 hw86;have b86:Below w23.heap.size w23 w86:=by subst hw86;exact ag _ _
     have e86:w86.heap[w23.heap.size]? =some (.cells (av (((1000+i:Nat):Int),ys[i].2)).toArray kU (0,0)):=by subst hw86;exact ao _ _
     refine⟨⟨cell3 w86 b86,trivial⟩,?_⟩;intro w87 hw87;have b87:Below w86.heap.size w86 w87:=by subst hw87;exact ag _ _
     have n87:w87.heap[w86.heap.size]? =some (.cells #[] kU (0,0)):=by subst hw87;exact ao _ _
     have b2387:=ab b86 b87;have hz86:=(Array.getElem?_eq_some_iff.1 e86).1;refine⟨⟨cell3 w87 b2387,trivial⟩,?_⟩;obtain⟨r,w88,g1,g2,g3,g4,g5⟩:=spr w87 _ b2387 n87 (by omega);have e88:w88.heap[w23.heap.size]? =some (.cells (av (((1000+i:Nat):Int),ys[i].2)).toArray kU (0,0)):=by
      rw [g5 _ (Array.getElem?_eq_some_iff.1 (ah b87 e86)).1 (by omega)];exact ah b87 e86
     obtain⟨y,w89,f1,f2,f3,f4,f5⟩:=ek.pushAt g3 (((1000+i:Nat):Int),ys[i].2) e88 g4.size (by omega) (by decide);exact⟨r.a,r.n,r.c,w88,g2,y.a,y.n,y.c,w89,f2,check y w89 (f4 _ g4) f3⟩
   ·rintro q ⟨sp,xs,hst,hxl,_,hxe⟩;have done:=fin q sp cl jn xs cls js hst hxe hce hje;have cells:=aV (x:=⟨false,t.m,fF,sp,cl,jn⟩) hst.blk;refine hI28 _ _ (aa.mk (fun hlt=>aa.no ?_ ⟨_,_,_,_,_,_,_,_,_,_,_,_,_,_,_,_,cells,done⟩) fun hlt=>⟨_,_,_,_,_,_,_,_,_,_,_,_,_,_,_,_,cells,done⟩);have:=of_decide_eq_true hlt;exact decide_eq_false (by omega)
theorem uf (w:World) (A1:Option Addr) (C1:Nat) (l:List Int) (h1:Rw oP 1 w A1 l) (A2:Option Addr) (C2:Nat) (cs:List (Int×Int×Int)) (h2:Rw aZ 3 w A2 cs) (A3:Option Addr) (C3:Nat) (gs:List (Int×Int)) (h3:Rw aD 2 w A3 gs) (A4:Option Addr) (C4:Nat) (ys:List (Int×Bs)) (h4:Rw av 2 w A4 ys)
  (hc2:cs.length≤C2) (hc3:gs.length≤C3):
  CP 41 #[.slice A1 l.length C1,.slice A2 cs.length C2,.slice A3 gs.length C3,.slice A4 ys.length C4] w fun e w'=>∃u,e= .returned u∧GF (someV l cs gs ys) w u w':=by
 refine(kW w A1 C1 l h1 A2 C2 cs h2 A3 C3 gs h3 A4 C4 ys h4 hc2 hc3).mono fun e w' ⟨u,he,x,s,T,q1,q2,q3,q4,q5,q6,q7,q8,q9,q10,q11,_⟩=>⟨u,he,x,s,T,q1,q2,q3,q4,q5,q6,q7,q8,q9,q10,q11⟩
end Go.Proofs.YtijbcdiffjjefaaGreatDoor.Eng
