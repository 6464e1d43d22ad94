/- The vocabulary of a statement, and the reference's. -/
import Derived.Test.YtijbcdiffjjefaaGreatDoorZwRb
import Derived.Test.YtijbcdiffjjefaaGreatDoorZwTab
import Derived.Test.YtijbcdiffjjefaaGreatDoorZwMk
import Derived.Test.YtijbcdiffjjefaaGreatDoorZwVo
set_option linter.unusedVariables false
set_option linter.unusedSimpArgs false
set_option maxRecDepth 100000
namespace Go.Proofs.YtijbcdiffjjefaaGreatDoor.Eng
open Go Go.RowKit
structure HP where
 l:Sl
 c:Sl
 j:Sl
 x:Sl
abbrev HP.cells (y:HP):Array Value:=#[y.l.v,y.c.v,y.j.v,y.x.v]
abbrev HP.v (y:HP):Value:=.agg y.cells
structure BG (w:World) (y:HP) (ls:List Int) (cs:List (Int×Int×Int)) (js:List (Int×Int)) (xs:List (Int×Bs)):Prop where
 n1:y.l.n=ls.length
 r1:Rw uY 1 w y.l.a ls
 n2:y.c.n=cs.length
 r2:Rw bS 3 w y.c.a cs
 n3:y.j.n=js.length
 r3:Rw be 2 w y.j.a js
 n4:y.x.n=xs.length
 r4:Rw aM 2 w y.x.a xs
 c2:y.c.n≤y.c.c
 c3:y.j.n≤y.j.c
 most:xs.length≤9223372036854775807
theorem BG.on {w w':World} {y:HP} {ls:List Int} {cs:List (Int×Int×Int)} {js:List (Int×Int)} {xs:List (Int×Bs)} (h:BG w y ls cs js xs) (hb:ZH w w'):BG w' y ls cs js xs:=⟨h.n1,h.r1.on hb,h.n2,h.r2.on hb,h.n3,h.r3.on hb,h.n4,h.r4.on hb,h.c2,h.c3,h.most⟩
abbrev OB:TypeId:=27
theorem R5 {w:World} {b:Nat} {y:HP} {T:TypeId} {fz:Nat×Nat} (h:w.heap[b]? =some (.cells y.cells T fz)):
  w.cell? ⟨b,0,none⟩=some y.l.v∧w.cell? ((⟨b,0,none⟩:Addr).add 1)=some y.c.v∧w.cell? ((⟨b,0,none⟩:Addr).add 2)=some y.j.v∧w.cell? ((⟨b,0,none⟩:Addr).add 3)=some y.x.v∧True:=by
 have a:∀j,w.cell? ((⟨b,0,none⟩:Addr).add j)=y.cells[j]? :=fun j=>ai _ _ h j;exact⟨by have:=a 0;rw [aC]at this;exact this,a 1,a 2,a 3,trivial⟩
theorem up (w:World) (y:HP) (ls:List Int) (cs:List (Int×Int×Int)) (js:List (Int×Int)) (xs:List (Int×Bs)) (h:BG w y ls cs js xs):CP 11 #[y.v] w fun e w'=>∃n:Int,e= .returned (.int .i64 n)∧ZH w w':=by
 refine aV (FP y.l.a y.l.n y.l.c y.c.a y.c.n y.c.c y.j.a y.j.n y.j.c y.x.a y.x.n y.x.c w) ?_;intro p b;have a:ZH w p:=by subst b;exact ah _ _
 have c:p.heap[w.heap.size]? =some (.cells y.cells OB (0,0)):=by subst b;exact aq _ _
 refine⟨_,_,_,ai _ _ c 0,_,_,_,ai _ _ c 1,_,_,_,ai _ _ c 2,_,_,_,ai _ _ c 3,?_⟩;have u:=(h.on a).r4;have t:=h.n4;obtain⟨⟨l,m,o⟩,⟨d,f,g⟩,⟨i,j,k⟩,⟨q,r,s⟩⟩:=y;change r=xs.length at t;subst t;refine(uq p l m o d f g i j k q s xs u h.most).mono ?_;rintro e x ⟨rfl,v⟩;subst v;exact⟨_,rfl,ac.mk (fun _=>⟨1,rfl,a⟩) fun _=>⟨0,rfl,a⟩⟩
structure CV (w:World) (v:Nat) (y:nI) (s:am) (T:List aX):Prop where
 voc:aW w v s T
 rv:∀w',aD v w w'→ij w' y s T
 few:s.specials.length≤6
 ids:∀z∈s.specials,1000≤z.1∧z.1<1006
 asc:(s.specials.map (·.1)).Pairwise (·< ·)
theorem CV.now {w:World} {v:Nat} {y:nI} {s:am} {T:List aX} (h:CV w v y s T):ij w y s T:=h.rv w (aD.of_below (Below.refl _ _))
theorem CV.on {w w':World} {v:Nat} {y:nI} {s:am} {T:List aX} (h:CV w v y s T) (hb:ZH w w'):CV w' v y s T:=⟨h.voc.on hb,fun w2 t=>h.rv w2 ((aD.of_below hb).trans t),h.few,h.ids,h.asc⟩
theorem aW.lt {w:World} {v:Nat} {s:am} {T:List aX} (h:aW w v s T):v<w.heap.size:=by
 obtain⟨g,x,f,c,e,d,l,a,b⟩:=h;exact(XY.1 b.blk).1
theorem Rw.far {α:Type} {enc:α→List Value} {sz:Nat} {w:World} {a:Option Addr} {xs:List α} (h:Rw enc sz w a xs) {v:Nat} (hv:w.heap.size≤v):xs≠ []→∀p,a=some p→p.block≠v:=by
 intro b p f e;cases xs with
 |nil=>exact b rfl
 |cons x xs=>
  obtain⟨q,c,d,_⟩:=h 0 x rfl;rw [f]at c;cases c;omega
theorem gI.touch {w w':World} {x:lK} {es:List aX} {B v:Nat} (h:gI w x es) (hf:kH B x) (hB:v<B) (t:aD v w w'):gI w' x es:=
 ⟨h.n1,h.r1.touch t fun _ p hp e=>by have:=hf.1 p hp;omega,h.k1,h.n2,h.r2.touch t fun _ p hp e=>by have:=hf.2 p hp;omega,h.k2⟩
structure rh (b:Nat) (e:TypeId) (w w':World):Prop where
 blk:∃c fz,w.heap[b]? =some (.cells c e fz)∧∀v∈c,¬mJ v
 ne:∀j,j≠b→w'.heap[j]? =w.heap[j]?
 size:w'.heap.size=w.heap.size
theorem rh.row {α:Type} {enc:α→List Value} {sz:Nat} {w w':World} {b:Nat} {e:TypeId} {a:Option Addr} {xs:List α} (t:rh b e w w') (h:Rw enc sz w a xs) (henc:∀x,∃v,(enc x)[0]? =some v∧mJ v):Rw enc sz w' a xs:=by
 obtain⟨c,i,d,f⟩:=t.blk;exact h.past henc d f (fun j _ g=>t.ne j g) (Nat.le_of_eq t.size.symm)
theorem rh.cells {w w':World} {b k:Nat} {e e':TypeId} {c:Array Value} {fz:Nat×Nat} (t:rh b e w w') (h:w.heap[k]? =some (.cells c e' fz)) (hne:e≠e'):w'.heap[k]? =some (.cells c e' fz):=by
 obtain⟨f,a,d,_⟩:=t.blk;rw [t.ne k fun e=>?_]
 ·exact h
 ·subst e;rw [d]at h;cases h;exact hne rfl
theorem rh.map {κ:Type} [DecidableEq κ] {kv:κ→Value} {w w':World} {b r:Nat} {e:TypeId} {m:List (κ×Value)} (t:rh b e w w') (h:bJ kv w r m):bJ kv w' r m:=by
 obtain⟨f,c,d,_⟩:=t.blk;refine h.same (t.ne r fun e=>?_);subst e;obtain⟨g,k,a,_⟩:=h;rw [d]at a;cases a
theorem rh.parts {w w':World} {b:Nat} {e:TypeId} {s:am} {T:List aX} {x:bk} {tp bp mp:Nat} (t:rh b e w w') (h:bZ w s T x tp bp mp) (n1:e≠kZ) (n2:e≠kf) (n3:e≠sw):bZ w' s T x tp bp mp:=by
 obtain⟨a,o,p,q,r,u,v,y⟩:=h;refine⟨?_,?_,p,?_,?_,u,v,y⟩
 ·exact⟨a.ranked,a.n1,t.row a.r1 fun m=>⟨_,rfl,dq _ _⟩,a.n2,t.row a.r2 fun m=>⟨_,rfl,.inr ⟨_,rfl⟩⟩,a.n3,t.row a.r3 fun m=>⟨_,rfl,dq _ _⟩,a.n4,t.row a.r4 fun m=>⟨_,rfl,dq _ _⟩,a.n5,t.row a.r5 fun m=>⟨_,rfl,dq _ _⟩⟩
 ·obtain⟨l,z,mp,g,d,f,i,j,k,n⟩:=o;exact⟨l,z,mp,g,t.cells d n1,f,t.row i fun m=>⟨_,rfl,.inr ⟨_,rfl⟩⟩,t.map j,t.map k,n⟩
 ·obtain⟨c,d,f⟩:=q;exact⟨c,t.cells d n2,f⟩
 ·obtain⟨l,A,B,c,d,f,i,j,k,n⟩:=r;exact⟨l,A,B,c,t.cells d n3,f,i,t.row j fun m=>⟨_,rfl,dq _ _⟩,t.map k,t.map n⟩
theorem rh.voc {w w':World} {b v:Nat} {e:TypeId} {s:am} {T:List aX} (t:rh b e w w') (h:aW w v s T) (n1:e≠kZ) (n2:e≠kf) (n3:e≠sw) (n4:e≠dJ) (n5:e≠bW) (hB:Below b w w'):aW w' v s T:=by
 obtain⟨f,x,E,B,D,d,l,m,n⟩:=h;have p:=t.cells n.blk n4;have g:(d=0∧l=⟨none,0,0⟩)∨(d=1∧l.n=T.length∧w'.ownsRow (v+1) bW 1 l.v l.n ((fw s T).flatMap da)):=by
  rcases n.once with h |⟨F,G,C⟩
  ·exact .inl h
  ·refine .inr ⟨F,G,aN C fun k o=>t.ne k fun e=>?_⟩;obtain⟨c,y,r,_⟩:=t.blk;exact az C r (fun e=>n5 e.symm) (by rw [o,e])
 have a:=n.below;by_cases hlt:b<f.heap.size
 ·obtain⟨c,y,r,H⟩:=t.blk;have z:f.heap[b]? =some (.cells c e y):=by rw [←a.block b hlt];exact r
  have A:b<w.heap.size:=(XY.1 r).1;have q:b<w'.heap.size:=by rw [t.size];exact A
  let w1:World:={f with heap:=f.heap.setIfInBounds b w'.heap[b]};have u:w1.heap.size=f.heap.size:=by simp [w1]
  have i:∀j,j≠b→w1.heap[j]? =f.heap[j]? :=fun j I=>by
   show(f.heap.setIfInBounds b w'.heap[b])[j]? =_;rw [Array.getElem?_setIfInBounds_ne (fun e=>I e.symm)]
  have J:rh b e f w1:=⟨⟨c,y,z,H⟩,i,u⟩;refine⟨w1,x,E,B,D,d,l,m,J.parts n.parts n1 n2 n3,?_,by rw [u];exact n.lt,p,g⟩;refine⟨hB.os.trans a.os,hB.tape.trans a.tape,hB.output.trans a.output,by rw [u,t.size];exact a.size,fun k o=>?_⟩;by_cases hkb:k=b
  ·subst hkb;show w'.heap[k]? =(f.heap.setIfInBounds k w'.heap[k])[k]?
   rw [Array.getElem?_setIfInBounds_self_of_lt hlt,Array.getElem?_eq_getElem q]
  ·rw [i k hkb,t.ne k hkb];exact a.block k (by rw [u]at o;exact o)
 ·refine⟨f,x,E,B,D,d,l,m,n.parts,?_,n.lt,p,g⟩;exact⟨hB.os.trans a.os,hB.tape.trans a.tape,hB.output.trans a.output,by rw [t.size];exact a.size,fun k o=>by rw [t.ne k (by omega)];exact a.block k o⟩
def T4 (w:World) (u:Value) (w':World):Prop:=∃(v:Nat) (y:nI) (s:am) (T:List aX),u= .tuple #[.pointer (some ⟨v,0,none⟩),y.v]∧CV w' v y s T∧w.heap.size≤v∧ZH w w'
def RX (s0:am) (w:World) (u:Value) (w':World):Prop:=∃(v:Nat) (y:nI) (s:am) (T:List aX),u= .tuple #[.pointer (some ⟨v,0,none⟩),y.v]∧CV w' v y s T∧w.heap.size≤v∧ZH w w'∧s=s0∧dk s= .ok T
theorem AT (w:World) (y:HP) (ls:List Int) (cs:List (Int×Int×Int)) (js:List (Int×Int)) (xs:List (Int×Bs)) (h:BG w y ls cs js xs):CP 13 #[y.v] w fun e w'=>∃u,e= .returned u∧RX (someV ls cs js xs) w u w':=by
 refine EB y.l.a y.l.n y.l.c y.c.a y.c.n y.c.c y.j.a y.j.n y.j.c y.x.a y.x.n y.x.c w (RX (someV ls cs js xs) w) ?_;intro D c f z;have l:ZH w D:=by subst c;exact ah _ _
 have b2:ZH D f:=by subst z;exact ah _ _
 have m:=ae l b2;have B:f.heap[w.heap.size]? =some (.cells y.cells OB (0,0)):=aj b2 (by subst c;exact aq _ _);have z2:f.heap[D.heap.size]? =some (.cells Lr.cells Jz (0,0)):=by subst z;exact aq _ _
 refine⟨_,_,_,ai _ _ B 0,_,_,_,ai _ _ B 1,_,_,_,ai _ _ B 2,_,_,_,ai _ _ B 3,?_⟩;have h2:=h.on m;clear B;clear c;have d:CP 41 #[y.l.v,y.c.v,y.j.v,y.x.v] f fun e w'=>∃u,e= .returned u∧MC (someV ls cs js xs) f u w':=by
  obtain⟨n1,r1,n2,r2,n3,r3,n4,r4,c2,c3,most⟩:=h2;obtain⟨⟨a0,a1,a2⟩,⟨F,G,H⟩,⟨X,Y,Z⟩,⟨x1',x2',x3'⟩⟩:=y;change a1=ls.length at n1;change G=cs.length at n2;change Y=js.length at n3;change x2'=xs.length at n4;subst n1 n2 n3 n4;exact wy f a0 a2 ls r1 F H cs r2 X Z js r3 x1' x3' xs r4 c2 c3
 refine d.mono ?_;rintro e w3 ⟨u,rfl,x,s,T,rfl,hS,Q,a,L,htok,o,p,k,R,b3⟩;refine⟨_,_,_,_,_,_,_,_,_,_,_,_,_,_,_,_,rfl,?_⟩;intro w4 V;refine nh x w4 V ?_;intro w5 h5 b5;have g:=ae b3 b5;have n:=ae m g;have b:=hS.on b5;refine⟨_,_,_,_,_,_,_,_,_,_,_,_,_,_,_,_,dX h5,?_⟩;refine(uA w5 x s b).mono ?_;rintro e w6 ⟨u,rfl,C,hp⟩;rw [if_pos a,L]at hp;obtain⟨v,rfl,hV,S⟩:=hp;have N:=ae n C;have h6:=aj C h5;refine⟨_,_,_,rfl,ac.no rfl ⟨_,_,_,_,_,_,_,_,_,_,_,_,_,_,_,_,dX h6,?_⟩⟩;refine(Fp w6 x s (b.on C) Q a T L).mono ?_;rintro e w8 ⟨r,rfl,hr,E,hf,eb,I⟩;have O:=ae N E;have z8:=aj E (aj C (aj g z2));refine⟨_,_,_,_,_,_,_,_,_,_,_,_,_,_,_,rfl,?_⟩;refine bo z8 (uF r) rfl (pf r) ?_;intro w9 h9 q A i;have U:=hV.lt;have hz5:=n.size;have W:=l.size;have tp:rh D.heap.size Jz w8 w9:=⟨⟨_,_,z8,rq Lr⟩,q,A⟩;have M:aW w9 v s T:=tp.voc (hV.on E) (by decide) (by decide) (by decide) (by decide) (by decide) (i _ _ (XV _) (Below.refl _ _));have P:ij w9 r s T:=hr.past z8 (rq Lr) (fun j _ hj=>q j hj) (Nat.le_of_eq A.symm);have f3:=b.r3.far S;have f4:=b.r4.far S;have f5:=b.r5.far S;refine⟨_,_,_,_,_,_,_,_,_,_,_,_,_,_,_,rf (x:=r) h9,v,r,s,T,rfl,⟨M,fun w' t=>?_,o,p,k⟩,by omega,i _ _ W O,R,L⟩;obtain⟨g1,⟨g2,g3,g4,g5⟩,g6,g7,g8,g9,J,K⟩:=P;refine⟨g1.touch hf U t,⟨g2,g3.touch t (by rw [eb];exact f4),g4,g5.touch t (by rw [eb];exact f5)⟩,g6,g7.touch t (by rw [I];exact f3),g8,g9,J,K⟩
theorem E5 (w:World) (y:HP) (ls:List Int) (cs:List (Int×Int×Int)) (js:List (Int×Int)) (xs:List (Int×Bs)) (h:BG w y ls cs js xs):CP 13 #[y.v] w fun e w'=>∃u,e= .returned u∧T4 w u w':=
 (AT w y ls cs js xs h).mono fun _ _ ⟨u,e,v,r,s,T,h1,h2,h3,h4,_⟩=>⟨u,e,v,r,s,T,h1,h2,h3,h4⟩
open Go.ChangeShapes Go.WideShapes
section
variable {H:Type} {enc0:TypeId×Value→H} {w:World} {base:Nat} {spare:Nat→Bool} {held:Bool}
theorem H4 {e:TypeId} (he:Tryz.prog.underlying e=some (.int .i64)):∀n cs' y,DataW.trod enc0 Tryz.prog w base spare held n e cs'=some y→∃m:Int,cs'=an m:=by
 intro n cs' y h;obtain⟨i,a,_⟩:=DataW.trod_int he h;exact⟨i,a⟩
theorem Jl {e:TypeId} (he:Tryz.prog.underlying e=some (.int .u16)):∀n cs' y,DataW.trod enc0 Tryz.prog w base spare held n e cs'=some y→∃m:Int,cs'=uY m:=by
 intro n cs' y h;obtain⟨i,a,_⟩:=DataW.trod_int he h;exact⟨i,a⟩
theorem lU.zero {s:Sl} (h:lU s):s.a=none→s.c=0:=by
 intro b;rcases h with rfl |⟨a,ha⟩
 ·rfl
 ·rw [ha]at b;cases b
theorem GB {A:Option Addr} {N C:Nat} {d:DataW H} {p:List MemPlace} (h:DataW.Trod enc0 Tryz.prog w base spare held bQ (.slice A N C) d p):∃xs:List Int,N=xs.length∧lU ⟨A,N,C⟩∧N≤C∧C≤maxLen∧Rw an 1 w A xs:=by
 obtain⟨a,b⟩:=h;obtain⟨s,xs,e,n,k,c,m,r⟩:=iy (enc:=an) (sz:=1) ov (by kernel_rfl) (fun _=>rfl) (Nat.succ_pos _) (H4 Tryz.underlying3) b;obtain⟨f,i,g⟩:=s;simp [Value.cells]at e;obtain⟨rfl,rfl,rfl⟩:=e;exact⟨xs,n,k,c,m,r⟩
theorem Hf {b0:Nat} {v:Value} {d:DataW H} {p:List MemPlace} (hv:Value.okWide Tryz.prog w .any b0 OB v) (h:DataW.Trod enc0 Tryz.prog w base spare held OB v d p):∃(y:HP) (ls:List Int) (cs:List (Int×Int×Int)) (js:List (Int×Int)) (xs:List (Int×Bs)),v=y.v∧BG w y ls cs js xs:=by
 obtain⟨cs,rfl,c⟩:=okWide_struct Tryz.underlying27 hv;rw [show Tryz.prog.cellsOf OB=4 by kernel_rfl]at c;obtain⟨r,x⟩:=h;obtain⟨xs,n,_,_,_,b,e⟩:=DataW.trod_struct Tryz.underlying27 x;have f:DataW.trod enc0 Tryz.prog w base spare held n 22 ((cs.toList.drop 0).take (Tryz.prog.cellsOf 22))=xs[0]? :=e 0 _ rfl;have g:DataW.trod enc0 Tryz.prog w base spare held n 23 ((cs.toList.drop 1).take (Tryz.prog.cellsOf 23))=xs[1]? :=e 1 _ rfl;have i:DataW.trod enc0 Tryz.prog w base spare held n 24 ((cs.toList.drop 2).take (Tryz.prog.cellsOf 24))=xs[2]? :=e 2 _ rfl;have j:DataW.trod enc0 Tryz.prog w base spare held n 25 ((cs.toList.drop 3).take (Tryz.prog.cellsOf 25))=xs[3]? :=e 3 _ rfl;rw [show Tryz.prog.cellsOf 22=1 by kernel_rfl]at f;rw [show Tryz.prog.cellsOf 23=1 by kernel_rfl]at g;rw [show Tryz.prog.cellsOf 24=1 by kernel_rfl]at i;rw [show Tryz.prog.cellsOf 25=1 by kernel_rfl]at j;have a:cs.toList.length=4:=by simpa using c
 obtain⟨l,s⟩:∃l,cs.toList=l:=⟨_,rfl⟩;obtain rfl:cs=l.toArray:=by rw [←s]
 rw [s]at f g i j a
 match l,a,xs,b with
 | [a0,a1,a2,a3],_,[y0,y1,y2,y3],_=>
  obtain⟨N,z,k,E,T,R,X,J⟩:=iy (enc:=uY) (sz:=1) Tryz.underlying22 (by kernel_rfl) (fun _=>rfl) (Nat.succ_pos _) (Jl Tryz.underlying242) f;obtain⟨O,A,m,F,U,t,Y,K⟩:=iy (enc:=bS) (sz:=3) xO (by kernel_rfl) (fun _=>rfl) (Nat.succ_pos _) (D1 Tryz.underlying89 rfl rfl rfl Tryz.underlying3 Tryz.underlying3 Tryz.underlying3 (by kernel_rfl) (by kernel_rfl) (by kernel_rfl) (by kernel_rfl)) g;obtain⟨P,B,o,G,V,u,Z,L⟩:=iy (enc:=be) (sz:=2) wZ (by kernel_rfl) (fun _=>rfl) (Nat.succ_pos _) (GQ Tryz.underlying170 rfl rfl Tryz.underlying3 Tryz.underlying3 (by kernel_rfl) (by kernel_rfl) (by kernel_rfl)) i;obtain⟨Q,C,q,I,W,S,D,M⟩:=iy (enc:=aM) (sz:=2) tw (by kernel_rfl) (fun _=>rfl) (Nat.succ_pos _) (wM Tryz.underlying87 rfl rfl Tryz.underlying3 m' (by kernel_rfl) (by kernel_rfl) (by kernel_rfl)) j;simp at k m o q;subst k m o q;exact⟨⟨N,O,P,Q⟩,z,A,B,C,rfl,E,J,F,K,G,L,I,M,t,u,by unfold maxLen at D;omega⟩
end
open Go Go.Value
def TE (a:OA) (b:Int) (w:World) (R:RW):Prop:=
 Zv w #[pointer a] 31 fun c=>
 Zt c (nb w) fun d=>
 CP 48 #[pointer d] c (fun f g=>
 Zr f fun h i j=>
 Zv g #[slice none 0 0] 28 fun k=>
 Zu k (nb g) (slice h i j) fun l=>
 Zt l (nb w) fun m=>
 ac (Option.isNone m)
 (R (tuple #[pointer none,int .i64 1]) l)
 (Zl l (nb g) fun n o p=>
 Zl l (nb g) fun q r s=>
 Ar .i64 ((o:Int)*(r:Int)) (fun t=>
 ac (decide (t>b))
 (R (tuple #[pointer none,int .i64 5]) l)
 (Zl l (nb g) fun x y z=>
 ∃a1 b1,(Instr.makeMap 108 none).run Tryz.prog l= .ok (map a1) b1∧
 Zv b1 #[slice x y z,map a1,slice none 0 0,slice none 0 0] 113 fun c1=>
 Zv c1 #[pointer none] 42 fun d1=>
 (pointer (some (nb b1))).oneCell'=true∧(∃u,d1.cell? (nb c1)=some u)∧d1.frozen? (nb c1)=false∧
 ∀e1,e1=(d1.setCell (nb c1) (pointer (some (nb b1))))→
 Zl e1 (nb g) fun f1 g1 h1=>
 ∀i1:KW,(∀(j1:Int) (k1:World),(ac (decide (j1< (g1:Int)))
 (Zm f1 j1 g1 (fun l1=>
 Zs k1 (l1.add (j1.toNat*1)) fun m1=>
 Zt k1 (nb c1) fun n1=>
 ag n1 (fun o1=>
 ∃p1,k1.cell? (o1.add 1)=some (map p1)∧
 ∃q1,(Instr.mapUpdate 108 (map p1) (int .i64 m1) (int .i64 j1)).run Tryz.prog k1= .ok () q1∧
 Ar .i64 (j1+1) (fun r1=>
 i1 [int .i64 r1] q1))))
 (∀s1,s1=k1.drew→
 Zt s1 (nb c1) fun t1=>
 Zl s1 (nb g) fun u1 v1 x1=>
 CP 58 #[int .i64 (v1:Int),func (.func 59) #[] #[pointer (some (nb w)),pointer (some (nb g))]] s1 (fun y1 z1=>
 Zr y1 fun a2 b2 c2=>
 (z1.cell? (nb c1)=some (pointer t1)∧True)∧
 ag t1 (fun d2=>
 Zu z1 (d2.add 3) (slice a2 b2 c2) fun e2=>
 Zl e2 (nb g) fun f2 g2 h2=>
 ∀i2:KW,(∀(j2:Int) (k2:World),(ac (decide (j2< (g2:Int)))
 (Zm f2 j2 g2 (fun l2=>
 Zs k2 (l2.add (j2.toNat*1)) fun m2=>
 Zv k2 #[int .i64 0] 3 fun n2=>
 Zv n2 #[int .i64 0] 3 fun o2=>
 Zu o2 (nb k2) (int .i64 j2) fun p2=>
 Zu p2 (nb n2) (int .i64 m2) fun q2=>
 ∀r2,r2=q2.drew→
 Zt r2 (nb c1) fun s2=>
 Zt r2 (nb c1) fun t2=>
 ag t2 (fun u2=>
 Zl r2 (u2.add 2) fun v2 x2 y2=>
 Zl r2 (nb g) fun z2 a3 b3=>
 CP 58 #[int .i64 (a3:Int),func (.func 60) #[] #[pointer (some (nb c1)),pointer (some (nb k2)),pointer (some (nb w)),pointer (some (nb n2)),pointer (some (nb g))]] r2 (fun c3 d3=>
 Zr c3 fun e3 f3 g3=>
 (d3.cell? (u2.add 2)=some (slice v2 x2 y2)∧True)∧
 (d3.cell? (nb c1)=some (pointer t2)∧True)∧
 (d3.cell? (nb c1)=some (pointer s2)∧True)∧
 Zv d3 #[slice e3 f3 g3] 111 fun h3=>
 (h3.cell? (u2.add 2)=some (slice v2 x2 y2)∧True)∧
 (h3.cell? (nb c1)=some (pointer t2)∧True)∧
 (h3.cell? (nb c1)=some (pointer s2)∧True)∧
 Zh 109 #[slice v2 x2 y2,slice (some (nb d3)) 1 1] h3 fun i3 j3 k3 l3=>
 (l3.cell? (nb c1)=some (pointer s2)∧True)∧
 ag s2 (fun m3=>
 Zu l3 (m3.add 2) (slice i3 j3 k3) fun n3=>
 Ar .i64 (j2+1) (fun o3=>
 i2 [int .i64 o3] n3))))))
 (Zt k2 (nb c1) fun p3=>
 R (tuple #[pointer p3,int .i64 0]) k2))→i2 [int .i64 j2] k2)→
 i2 [int .i64 0] e2))))→i1 [int .i64 j1] k1)→
 i1 [int .i64 0] e1))))
theorem DW (a:OA) (b:Int) (w:World) (R:RW) (hh:TE a b w R):CR 14 #[pointer a,int .i64 b] w R:=by refine aH (fn:=Tryz.f14) ?_ ?_ ?_ ?_ ?_ hh<;>kernel_rfl
def TL (a:OA) (w:World) (R:RW):Prop:=
 CP 50 #[pointer a] w (fun b c=>
 Zx b fun d=>
 ∀f:KW,(∀(g:Int) (h:OA) (i j:Nat) (k:World),(ac (decide (g<d))
 (Zv k #[int .i64 g] 3 fun l=>
 Zh 28 #[slice h i j,slice (some (nb k)) 1 1] l fun m n o p=>
 Ar .i64 (g+1) (fun q=>
 f [int .i64 q,slice m n o] p))
 (CP 56 #[pointer a] k (fun r s=>
 Zj r fun t=>
 CP 114 #[pointer t] s (fun u x=>
 Zr u fun y z a1=>
 ∀b1:KW,(∀(c1:Int) (d1:OA) (e1 f1:Nat) (g1:World),(ac (decide (c1< (z:Int)))
 (Zm y c1 z (fun h1=>
 Zc g1 (h1.add (c1.toNat*2)) fun i1 j1=>
 Zv g1 #[int .i64 0,string ⟨#[]⟩] 87 fun k1=>
 aI k1 (nb g1) (fun l1=>
 Zs l1 ((nb g1).add 0) fun m1=>
 Zv l1 #[int .i64 m1] 3 fun n1=>
 Zh 28 #[slice d1 e1 f1,slice (some (nb l1)) 1 1] n1 fun o1 p1 q1 r1=>
 Ar .i64 (c1+1) (fun s1=>
 b1 [int .i64 s1,slice o1 p1 q1] r1)) [int .i64 i1,string j1] 0))
 (CP 115 #[slice d1 e1 f1] g1 (fun t1 u1=>
 t1= .returned (tuple #[])∧
 R (slice d1 e1 f1) u1)))→b1 [int .i64 c1,slice d1 e1 f1] g1)→
 b1 [int .i64 0,slice h i j] x))))→f [int .i64 g,slice h i j] k)→
 f [int .i64 0,slice none 0 0] c)
theorem Fl (a:OA) (w:World) (R:RW) (hh:TL a w R):CR 48 #[pointer a] w R:=by refine aH (fn:=Tryz.f48) ?_ ?_ ?_ ?_ ?_ hh<;>kernel_rfl
def SR (a:Int) (b:Value) (w:World) (R:RW):Prop:=
 Ar .i64 (a+64) (fun c=>
 Ar .i64 (c-1) (fun d=>
 (64:Int)≠0∧
 ∃f g h i,(Instr.makeSlice 111 (int .i64 (IntKind.wrap .i64 (Int.tdiv d 64))) (int .i64 (IntKind.wrap .i64 (Int.tdiv d 64)))).run Tryz.prog w= .ok (slice f g h) i∧
 ∀j:KW,(∀(k:Int) (l:World),(ac (decide (k<a))
 (∀m:KW,(∀n:World,(Ar .i64 (k+1) (fun o=>
 j [int .i64 o] n))→m [] n)→
 bM gq b [int .i64 k] l (fun p q=>
 Zp p fun r=>
 ac r
 (CP 120 #[slice f g h,int .i64 k] q (fun s t=>
 s= .returned (tuple #[])∧
 m [] t))
 (m [] q)))
 (R (slice f g h) l))→j [int .i64 k] l)→
 j [int .i64 0] i))
theorem EU (a:Int) (b:Value) (w:World) (R:RW) (hh:SR a b w R):CR 58 #[int .i64 a,b] w R:=by refine aH (fn:=Tryz.f58) ?_ ?_ ?_ ?_ ?_ hh<;>kernel_rfl
def Tl (a:Int) (b c:OA) (w:World) (R:RW):Prop:=
 ∀d,d=w.drew→
 ag b (fun f=>
 Zt d f fun g=>
 ag c (fun h=>
 Zl d h fun i j k=>
 Zm i a j (fun l=>
 Zs d (l.add (a.toNat*1)) fun m=>
 CP 43 #[pointer g,int .i64 m] d (fun n o=>
 Zp n fun p=>
 R (bool p) o))))
theorem Er (a:Int) (b c:OA) (w:World) (R:RW) (hh:Tl a b c w R):CR 59 #[int .i64 a,pointer b,pointer c] w R:=by refine aH (fn:=Tryz.f59) ?_ ?_ ?_ ?_ ?_ hh<;>kernel_rfl
def SN (a:Int) (b c d f g:OA) (w:World) (R:RW):Prop:=
 ∀h,h=w.drew→
 ag b (fun i=>
 Zt h i fun j=>
 ag j (fun k=>
 Zl h (k.add 3) fun l m n=>
 ag c (fun o=>
 Zs h o fun p=>
 CP 61 #[slice l m n,int .i64 p] h (fun q r=>
 Zp q fun s=>
 ac s
 (ag b (fun t=>
 Zt r t fun u=>
 ag u (fun x=>
 Zl r (x.add 3) fun y z a1=>
 CP 61 #[slice y z a1,int .i64 a] r (fun b1 c1=>
 Zp b1 fun d1=>
 ac d1
 (ag d (fun e1=>
 Zt c1 e1 fun f1=>
 ag f (fun g1=>
 Zs c1 g1 fun h1=>
 ag g (fun i1=>
 Zl c1 i1 fun j1 k1 l1=>
 Zm j1 a k1 (fun m1=>
 Zs c1 (m1.add (a.toNat*1)) fun n1=>
 CP 62 #[pointer f1,int .i64 h1,int .i64 n1] c1 (fun o1 p1=>
 Zp o1 fun q1=>
 R (bool q1) p1))))))
 (R (bool false) c1)))))
 (R (bool false) r)))))
theorem EJ (a:Int) (b c d f g:OA) (w:World) (R:RW) (hh:SN a b c d f g w R):CR 60 #[int .i64 a,pointer b,pointer c,pointer d,pointer f,pointer g] w R:=by refine aH (fn:=Tryz.f60) ?_ ?_ ?_ ?_ ?_ hh<;>kernel_rfl
def RK (a:OA) (b c:Nat) (d:Int) (w:World) (R:RW):Prop:=
 (64:Int)≠0∧
 ag a (fun f=>
 (0:Int)≤(IntKind.wrap .i64 (Int.tdiv d 64))∧(IntKind.wrap .i64 (Int.tdiv d 64)) < (b:Int)∧
 ZV w (f.add ((IntKind.wrap .i64 (Int.tdiv d 64):Int).toNat*1)) fun g=>
 (64:Int)≠0∧
 (0:Int)≤(Int.tmod d 64)∧
 R (bool ((IntKind.wrap .u64 ((BitVec.ofInt (IntKind.bits .u64) (Int.fdiv g (2^(min (Int.tmod d 64:Int).toNat (IntKind.bits .u64))))&&&BitVec.ofInt (IntKind.bits .u64) 1).toNat:Int):Int)==1)) w)
theorem Fn (a:OA) (b c:Nat) (d:Int) (w:World) (R:RW) (hh:RK a b c d w R):CR 61 #[slice a b c,int .i64 d] w R:=by refine aH (fn:=Tryz.f61) ?_ ?_ ?_ ?_ ?_ hh<;>kernel_rfl
def Tv (a:OA) (b c:Int) (w:World) (R:RW):Prop:=
 CP 43 #[pointer a,int .i64 b] w (fun d f=>
 Zp d fun g=>
 ac g
 (CP 43 #[pointer a,int .i64 c] f (fun h i=>
 Zp h fun j=>
 ac j
 (CP 121 #[pointer a,int .i64 b,int .i64 c] i (fun k l=>
 Zp k fun m=>
 R (bool m) l))
 (R (bool false) i)))
 (R (bool false) f))
theorem D7 (a:OA) (b c:Int) (w:World) (R:RW) (hh:Tv a b c w R):CR 62 #[pointer a,int .i64 b,int .i64 c] w R:=by refine aH (fn:=Tryz.f62) ?_ ?_ ?_ ?_ ?_ hh<;>kernel_rfl
def TH (a:OA) (w:World) (R:RW):Prop:=
 ac (Option.isNone a)
 (R (int .i64 0) w)
 (ag a (fun b=>
 Zl w (b.add 0) fun c d f=>
 R (int .i64 (d:Int)) w))
theorem FJ (a:OA) (w:World) (R:RW) (hh:TH a w R):CR 63 #[pointer a] w R:=by refine aH (fn:=Tryz.f63) ?_ ?_ ?_ ?_ ?_ hh<;>kernel_rfl
def S_ (a:OA) (b:Int) (w:World) (R:RW):Prop:=
 ac (decide (b<0))
 (R (tuple #[int .i64 0,bool false]) w)
 (CP 63 #[pointer a] w (fun c d=>
 Zx c fun f=>
 ac (decide (b≥f))
 (R (tuple #[int .i64 0,bool false]) d)
 (ag a (fun g=>
 Zl d (g.add 0) fun h i j=>
 Zm h b i (fun k=>
 Zs d (k.add (b.toNat*1)) fun l=>
 R (tuple #[int .i64 l,bool true]) d)))))
theorem DT (a:OA) (b:Int) (w:World) (R:RW) (hh:S_ a b w R):CR 65 #[pointer a,int .i64 b] w R:=by refine aH (fn:=Tryz.f65) ?_ ?_ ?_ ?_ ?_ hh<;>kernel_rfl
def Tt (a:OA) (b:Int) (w:World) (R:RW):Prop:=
 CP 122 #[pointer a,int .i64 b] w (fun c d=>
 Zy c fun f g=>
 ac g
 (ag a (fun h=>
 Zl d (h.add 3) fun i j k=>
 CP 61 #[slice i j k,int .i64 f] d (fun l m=>
 Zp l fun n=>
 R (bool n) m)))
 (R (bool false) d))
theorem EM (a:OA) (b:Int) (w:World) (R:RW) (hh:Tt a b w R):CR 68 #[pointer a,int .i64 b] w R:=by refine aH (fn:=Tryz.f68) ?_ ?_ ?_ ?_ ?_ hh<;>kernel_rfl
def TC (a:OA) (b:Int) (w:World) (R:RW):Prop:=
 CP 122 #[pointer a,int .i64 b] w (fun c d=>
 Zy c fun f g=>
 ac (!g)
 (R (slice none 0 0) d)
 (ag a (fun h=>
 Zl d (h.add 2) fun i j k=>
 Zm i f j (fun l=>
 Zl d (l.add (f.toNat*1)) fun m n o=>
 CP 123 #[slice m n o] d (fun p q=>
 Zr p fun r s t=>
 R (slice r s t) q)))))
theorem EQ (a:OA) (b:Int) (w:World) (R:RW) (hh:TC a b w R):CR 69 #[pointer a,int .i64 b] w R:=by refine aH (fn:=Tryz.f69) ?_ ?_ ?_ ?_ ?_ hh<;>kernel_rfl
def SQ (a:OA) (b c:Int) (w:World) (R:RW):Prop:=
 CP 122 #[pointer a,int .i64 b] w (fun d f=>
 Zy d fun g h=>
 CP 122 #[pointer a,int .i64 c] f (fun i j=>
 Zy i fun k l=>
 ac h
 (ac l
 (ag a (fun m=>
 Zl j (m.add 2) fun n o p=>
 Zm n g o (fun q=>
 Zl j (q.add (g.toNat*1)) fun r s t=>
 CP 61 #[slice r s t,int .i64 k] j (fun u x=>
 Zp u fun y=>
 R (bool y) x))))
 (R (bool false) j))
 (R (bool false) j)))
theorem FE (a:OA) (b c:Int) (w:World) (R:RW) (hh:SQ a b c w R):CR 84 #[pointer a,int .i64 b,int .i64 c] w R:=by refine aH (fn:=Tryz.f84) ?_ ?_ ?_ ?_ ?_ hh<;>kernel_rfl
def Re (a:OA) (w:World) (R:RW):Prop:=
 ac (Option.isNone a)
 (R (slice none 0 0) w)
 (ag a (fun b=>
 Zl w (b.add 0) fun c d f=>
 CP 144 #[slice c d f] w (fun g h=>
 Zr g fun i j k=>
 R (slice i j k) h)))
theorem BS (a:OA) (w:World) (R:RW) (hh:Re a w R):CR 114 #[pointer a] w R:=by refine aH (fn:=Tryz.f114) ?_ ?_ ?_ ?_ ?_ hh<;>kernel_rfl
def Nz (a:OA) (b c:Nat) (w:World) (R:RW):Prop:=
 CP 170 #[int .u64 (IntKind.wrap .u64 (b:Int))] w (fun d f=>
 Zx d fun g=>
 CP 169 #[slice a b c,int .i64 0,int .i64 (b:Int),int .i64 g] f (fun h i=>
 h= .returned (tuple #[])∧
 R (tuple #[]) i))
theorem B5 (a:OA) (b c:Nat) (w:World) (R:RW) (hh:Nz a b c w R):CR 115 #[slice a b c] w R:=by refine aH (fn:=Tryz.f115) ?_ ?_ ?_ ?_ ?_ hh<;>kernel_rfl
def Sd (a:OA) (b c:Nat) (d:Int) (w:World) (R:RW):Prop:=
 ∀f,f=w.drew→
 (64:Int)≠0∧
 ag a (fun g=>
 (0:Int)≤(IntKind.wrap .i64 (Int.tdiv d 64))∧(IntKind.wrap .i64 (Int.tdiv d 64)) < (b:Int)∧
 ZV f (g.add ((IntKind.wrap .i64 (Int.tdiv d 64):Int).toNat*1)) fun h=>
 (64:Int)≠0∧
 (0:Int)≤(Int.tmod d 64)∧
 ag a (fun i=>
 (0:Int)≤(IntKind.wrap .i64 (Int.tdiv d 64))∧(IntKind.wrap .i64 (Int.tdiv d 64)) < (b:Int)∧
 (int .u64 (IntKind.wrap .u64 ((BitVec.ofInt (IntKind.bits .u64) h|||BitVec.ofInt (IntKind.bits .u64) (IntKind.wrap .u64 ((1:Int)*2^(min (Int.tmod d 64:Int).toNat (IntKind.bits .u64))))).toNat:Int))).oneCell'=true∧(∃u,f.cell? (i.add ((IntKind.wrap .i64 (Int.tdiv d 64):Int).toNat*1))=some u)∧f.frozen? (i.add ((IntKind.wrap .i64 (Int.tdiv d 64):Int).toNat*1))=false∧
 ∀j,j=(f.setCell (i.add ((IntKind.wrap .i64 (Int.tdiv d 64):Int).toNat*1)) (int .u64 (IntKind.wrap .u64 ((BitVec.ofInt (IntKind.bits .u64) h|||BitVec.ofInt (IntKind.bits .u64) (IntKind.wrap .u64 ((1:Int)*2^(min (Int.tmod d 64:Int).toNat (IntKind.bits .u64))))).toNat:Int))))→
 R (tuple #[]) j))
theorem AX (a:OA) (b c:Nat) (d:Int) (w:World) (R:RW) (hh:Sd a b c d w R):CR 120 #[slice a b c,int .i64 d] w R:=by refine aH (fn:=Tryz.f120) ?_ ?_ ?_ ?_ ?_ hh<;>kernel_rfl
def Qk (a:OA) (b:Int) (w:World) (R:RW):Prop:=
 ac (Option.isNone a)
 (R (tuple #[int .i64 0,bool false]) w)
 (ag a (fun c=>
 ∃d,w.cell? (c.add 1)=some (map d)∧
 ∃f g h,(Instr.lookup 108 (map d) (int .i64 b) true).run Tryz.prog w= .ok (tuple #[int .i64 f,bool g]) h∧
 R (tuple #[int .i64 f,bool g]) h))
theorem AM (a:OA) (b:Int) (w:World) (R:RW) (hh:Qk a b w R):CR 122 #[pointer a,int .i64 b] w R:=by refine aH (fn:=Tryz.f122) ?_ ?_ ?_ ?_ ?_ hh<;>kernel_rfl
def RF (a:OA) (b c:Nat) (w:World) (R:RW):Prop:=
 ac (Option.isNone a)
 (R (slice none 0 0) w)
 (Zv w #[] 138 fun d=>
 Zh 111 #[slice (some (nb w)) 0 0,slice a b c] d fun f g h i=>
 R (slice f g h) i)
theorem zk (a:OA) (b c:Nat) (w:World) (R:RW) (hh:RF a b c w R):CR 123 #[slice a b c] w R:=by refine aH (fn:=Tryz.f123) ?_ ?_ ?_ ?_ ?_ hh<;>kernel_rfl
def So (a:OA) (b c:Nat) (d f g:Int) (w:World) (R:RW):Prop:=
 ∀h:KW,(∀(i j:Bool) (k l m:Int) (n:World),(∀o:KW,(∀(p q:Bool) (r s t:Int) (u:World),(h [bool p,bool q,int .i64 r,int .i64 s,int .i64 t] u)→o [bool p,bool q,int .i64 r,int .i64 s,int .i64 t] u)→
 Ar .i64 (l-k) (fun x=>
 ac (decide (x≤12))
 (CP 213 #[slice a b c,int .i64 k,int .i64 l] n (fun y z=>
 y= .returned (tuple #[])∧
 R (tuple #[]) z))
 (ac (m==0)
 (CP 214 #[slice a b c,int .i64 k,int .i64 l] n (fun a1 b1=>
 a1= .returned (tuple #[])∧
 R (tuple #[]) b1))
 (∀c1:KW,(∀(d1:Int) (e1:World),(CP 216 #[slice a b c,int .i64 k,int .i64 l] e1 (fun f1 g1=>
 Zz f1 fun h1 i1=>
 ∀j1:KW,(∀(k1 l1:Int) (m1:World),(∀n1:KW,(∀o1:World,(∀p1,p1=o1.drew→
 ac (decide (k>0))
 (Ar .i64 (k-1) (fun q1=>
 Zm a q1 b (fun r1=>
 Zs p1 (r1.add (q1.toNat*1)) fun s1=>
 Zm a l1 b (fun t1=>
 Zs p1 (t1.add (l1.toNat*1)) fun u1=>
 CP 219 #[int .i64 s1,int .i64 u1] p1 (fun v1 x1=>
 Zp v1 fun y1=>
 ac (!y1)
 (CP 220 #[slice a b c,int .i64 k,int .i64 l,int .i64 l1] x1 (fun z1 a2=>
 Zx z1 fun b2=>
 o [bool i,bool j,int .i64 b2,int .i64 l,int .i64 d1] a2))
 (CP 221 #[slice a b c,int .i64 k,int .i64 l,int .i64 l1] x1 (fun c2 d2=>
 Zy c2 fun e2 f2=>
 Ar .i64 (e2-k) (fun g2=>
 Ar .i64 (l-e2) (fun h2=>
 (8:Int)≠0∧
 ac (decide (g2<h2))
 (CP 169 #[slice a b c,int .i64 k,int .i64 e2,int .i64 d1] d2 (fun i2 j2=>
 i2= .returned (tuple #[])∧
 Ar .i64 (e2+1) (fun k2=>
 o [bool f2,bool (decide (g2≥(IntKind.wrap .i64 (Int.tdiv x 8)))),int .i64 k2,int .i64 l,int .i64 d1] j2)))
 (Ar .i64 (e2+1) (fun l2=>
 CP 169 #[slice a b c,int .i64 l2,int .i64 l,int .i64 d1] d2 (fun m2 n2=>
 m2= .returned (tuple #[])∧
 o [bool f2,bool (decide (h2≥(IntKind.wrap .i64 (Int.tdiv x 8)))),int .i64 k,int .i64 e2,int .i64 d1] n2))))))))))))
 (CP 221 #[slice a b c,int .i64 k,int .i64 l,int .i64 l1] p1 (fun o2 p2=>
 Zy o2 fun q2 r2=>
 Ar .i64 (q2-k) (fun s2=>
 Ar .i64 (l-q2) (fun t2=>
 (8:Int)≠0∧
 ac (decide (s2<t2))
 (CP 169 #[slice a b c,int .i64 k,int .i64 q2,int .i64 d1] p2 (fun u2 v2=>
 u2= .returned (tuple #[])∧
 Ar .i64 (q2+1) (fun x2=>
 o [bool r2,bool (decide (s2≥(IntKind.wrap .i64 (Int.tdiv x 8)))),int .i64 x2,int .i64 l,int .i64 d1] v2)))
 (Ar .i64 (q2+1) (fun y2=>
 CP 169 #[slice a b c,int .i64 y2,int .i64 l,int .i64 d1] p2 (fun z2 a3=>
 z2= .returned (tuple #[])∧
 o [bool r2,bool (decide (t2≥(IntKind.wrap .i64 (Int.tdiv x 8)))),int .i64 k,int .i64 q2,int .i64 d1] a3))))))))→n1 [] o1)→
 ac j
 (ac i
 (ac (k1==1)
 (CP 218 #[slice a b c,int .i64 k,int .i64 l] m1 (fun b3 c3=>
 Zp b3 fun d3=>
 ac d3
 (R (tuple #[]) c3)
 (n1 [] c3)))
 (n1 [] m1))
 (n1 [] m1))
 (n1 [] m1))→j1 [int .i64 k1,int .i64 l1] m1)→
 ac (i1==2)
 (CP 217 #[slice a b c,int .i64 k,int .i64 l] g1 (fun e3 f3=>
 e3= .returned (tuple #[])∧
 Ar .i64 (l-1) (fun g3=>
 Ar .i64 (h1-k) (fun h3=>
 Ar .i64 (g3-h3) (fun i3=>
 j1 [int .i64 1,int .i64 i3] f3)))))
 (j1 [int .i64 i1,int .i64 h1] g1)))→c1 [int .i64 d1] e1)→
 ac (!j)
 (CP 215 #[slice a b c,int .i64 k,int .i64 l] n (fun j3 k3=>
 j3= .returned (tuple #[])∧
 Ar .i64 (m-1) (fun l3=>
 c1 [int .i64 l3] k3)))
 (c1 [int .i64 m] n)))))→h [bool i,bool j,int .i64 k,int .i64 l,int .i64 m] n)→
 h [bool true,bool true,int .i64 d,int .i64 f,int .i64 g] w
theorem B3 (a:OA) (b c:Nat) (d f g:Int) (w:World) (R:RW) (hh:So a b c d f g w R):CR 169 #[slice a b c,int .i64 d,int .i64 f,int .i64 g] w R:=by refine aH (fn:=Tryz.f169) ?_ ?_ ?_ ?_ ?_ hh<;>kernel_rfl
def QR (a:Int) (w:World) (R:RW):Prop:=
 CP 223 #[int .u64 a] w (fun b c=>
 Zx b fun d=>
 R (int .i64 d) c)
theorem Bm (a:Int) (w:World) (R:RW) (hh:QR a w R):CR 170 #[int .u64 a] w R:=by refine aH (fn:=Tryz.f170) ?_ ?_ ?_ ?_ ?_ hh<;>kernel_rfl
def Qx (a:OA) (b c:Nat) (d f:Int) (w:World) (R:RW):Prop:=
 Ar .i64 (f-d) (fun g=>
 Zv w #[int .i64 0] 3 fun h=>
 (4:Int)≠0∧
 Ar .i64 ((IntKind.wrap .i64 (Int.tdiv g 4):Int)*1) (fun i=>
 Ar .i64 (d+i) (fun j=>
 (4:Int)≠0∧
 Ar .i64 ((IntKind.wrap .i64 (Int.tdiv g 4):Int)*2) (fun k=>
 Ar .i64 (d+k) (fun l=>
 (4:Int)≠0∧
 Ar .i64 ((IntKind.wrap .i64 (Int.tdiv g 4):Int)*3) (fun m=>
 Ar .i64 (d+m) (fun n=>
 ∀o:KW,(∀(p q r:Int) (s:World),(Zs s (nb w) fun t=>
 ac (t==0)
 (R (tuple #[int .i64 q,int .i64 1]) s)
 (ac (t==12)
 (R (tuple #[int .i64 q,int .i64 2]) s)
 (R (tuple #[int .i64 q,int .i64 0]) s)))→o [int .i64 p,int .i64 q,int .i64 r] s)→
 ac (decide (g≥8))
 (∀u:KW,(∀(x y z:Int) (a1:World),(CP 258 #[slice a b c,int .i64 z,int .i64 y,int .i64 x,pointer (some (nb w))] a1 (fun b1 c1=>
 Zx b1 fun d1=>
 o [int .i64 x,int .i64 d1,int .i64 z] c1))→u [int .i64 x,int .i64 y,int .i64 z] a1)→
 ac (decide (g≥50))
 (CP 257 #[slice a b c,int .i64 j,pointer (some (nb w))] h (fun e1 f1=>
 Zx e1 fun g1=>
 CP 257 #[slice a b c,int .i64 l,pointer (some (nb w))] f1 (fun h1 i1=>
 Zx h1 fun j1=>
 CP 257 #[slice a b c,int .i64 n,pointer (some (nb w))] i1 (fun k1 l1=>
 Zx k1 fun m1=>
 u [int .i64 m1,int .i64 j1,int .i64 g1] l1))))
 (u [int .i64 n,int .i64 l,int .i64 j] h))
 (o [int .i64 n,int .i64 l,int .i64 j] h))))))))
theorem Ah (a:OA) (b c:Nat) (d f:Int) (w:World) (R:RW) (hh:Qx a b c d f w R):CR 216 #[slice a b c,int .i64 d,int .i64 f] w R:=by refine aH (fn:=Tryz.f216) ?_ ?_ ?_ ?_ ?_ hh<;>kernel_rfl
def Qr (a:OA) (b c:Nat) (d f:Int) (w:World) (R:RW):Prop:=
 Ar .i64 (d+1) (fun g=>
 ∀h:KW,(∀(i j:Int) (k:Bool) (l:World),(ac (decide (i<5))
 (∀m:KW,(∀(n:Int) (o:Bool) (p:World),(Ar .i64 (i+1) (fun q=>
 h [int .i64 q,int .i64 n,bool o] p))→m [int .i64 n,bool o] p)→
 ∀r:KW,(∀(s:Int) (t:World),(∀x,x=t.drew→
 ac (decide (s<f))
 (Zm a s b (fun y=>
 Zs x (y.add (s.toNat*1)) fun z=>
 Ar .i64 (s-1) (fun a1=>
 Zm a a1 b (fun b1=>
 Zs x (b1.add (a1.toNat*1)) fun c1=>
 CP 219 #[int .i64 z,int .i64 c1] x (fun d1 e1=>
 Zp d1 fun f1=>
 ac (!f1)
 (Ar .i64 (s+1) (fun g1=>
 r [int .i64 g1] e1))
 (ac (s==f)
 (R (bool true) e1)
 (Ar .i64 (f-d) (fun h1=>
 ac (decide (h1<50))
 (R (bool false) e1)
 (∀i1,i1=e1.drew→
 Ar .i64 (s-1) (fun j1=>
 Ar .i64 (s-1) (fun k1=>
 Zm a k1 b (fun l1=>
 Zs i1 (l1.add (k1.toNat*1)) fun m1=>
 Zm a s b (fun n1=>
 Zs i1 (n1.add (s.toNat*1)) fun o1=>
 Zm a s b (fun p1=>
 Zu i1 (p1.add (s.toNat*1)) (int .i64 m1) fun q1=>
 Zm a j1 b (fun r1=>
 Zu q1 (r1.add (j1.toNat*1)) (int .i64 o1) fun s1=>
 ∀t1:KW,(∀u1:World,(Ar .i64 (f-s) (fun v1=>
 ac (decide (v1≥2))
 (Ar .i64 (s+1) (fun x1=>
 ∀y1:KW,(∀(z1:Int) (a2:World),(m [int .i64 s,bool k] a2)→y1 [int .i64 z1] a2)→
 ∀b2:KW,(∀(c2:Int) (d2:World),(ac (decide (c2<f))
 (∀e2,e2=d2.drew→
 Zm a c2 b (fun f2=>
 Zs e2 (f2.add (c2.toNat*1)) fun g2=>
 Ar .i64 (c2-1) (fun h2=>
 Zm a h2 b (fun i2=>
 Zs e2 (i2.add (h2.toNat*1)) fun j2=>
 CP 219 #[int .i64 g2,int .i64 j2] e2 (fun k2 l2=>
 Zp k2 fun m2=>
 ac (!m2)
 (y1 [int .i64 c2] l2)
 (∀n2,n2=l2.drew→
 Ar .i64 (c2-1) (fun o2=>
 Ar .i64 (c2-1) (fun p2=>
 Zm a p2 b (fun q2=>
 Zs n2 (q2.add (p2.toNat*1)) fun r2=>
 Zm a c2 b (fun s2=>
 Zs n2 (s2.add (c2.toNat*1)) fun t2=>
 Zm a c2 b (fun u2=>
 Zu n2 (u2.add (c2.toNat*1)) (int .i64 r2) fun v2=>
 Zm a o2 b (fun x2=>
 Zu v2 (x2.add (o2.toNat*1)) (int .i64 t2) fun y2=>
 Ar .i64 (c2+1) (fun z2=>
 b2 [int .i64 z2] y2)))))))))))))
 (y1 [int .i64 c2] d2))→b2 [int .i64 c2] d2)→
 b2 [int .i64 x1] u1))
 (m [int .i64 s,bool k] u1)))→t1 [] u1)→
 Ar .i64 (s-d) (fun a3=>
 ac (decide (a3≥2))
 (Ar .i64 (s-1) (fun b3=>
 ∀c3:KW,(∀(d3:Int) (e3:World),(t1 [] e3)→c3 [int .i64 d3] e3)→
 ∀f3:KW,(∀(g3:Int) (h3:World),(ac (decide (g3≥1))
 (∀i3,i3=h3.drew→
 Zm a g3 b (fun j3=>
 Zs i3 (j3.add (g3.toNat*1)) fun k3=>
 Ar .i64 (g3-1) (fun l3=>
 Zm a l3 b (fun m3=>
 Zs i3 (m3.add (l3.toNat*1)) fun n3=>
 CP 219 #[int .i64 k3,int .i64 n3] i3 (fun o3 p3=>
 Zp o3 fun q3=>
 ac (!q3)
 (c3 [int .i64 g3] p3)
 (∀r3,r3=p3.drew→
 Ar .i64 (g3-1) (fun s3=>
 Ar .i64 (g3-1) (fun t3=>
 Zm a t3 b (fun u3=>
 Zs r3 (u3.add (t3.toNat*1)) fun v3=>
 Zm a g3 b (fun x3=>
 Zs r3 (x3.add (g3.toNat*1)) fun y3=>
 Zm a g3 b (fun z3=>
 Zu r3 (z3.add (g3.toNat*1)) (int .i64 v3) fun a4=>
 Zm a s3 b (fun b4=>
 Zu a4 (b4.add (s3.toNat*1)) (int .i64 y3) fun c4=>
 Ar .i64 (g3-1) (fun d4=>
 f3 [int .i64 d4] c4)))))))))))))
 (c3 [int .i64 g3] h3))→f3 [int .i64 g3] h3)→
 f3 [int .i64 b3] s1))
 (t1 [] s1)))))))))))))))))
 (ac (s==f)
 (R (bool true) x)
 (Ar .i64 (f-d) (fun e4=>
 ac (decide (e4<50))
 (R (bool false) x)
 (∀f4,f4=x.drew→
 Ar .i64 (s-1) (fun g4=>
 Ar .i64 (s-1) (fun h4=>
 Zm a h4 b (fun i4=>
 Zs f4 (i4.add (h4.toNat*1)) fun j4=>
 Zm a s b (fun k4=>
 Zs f4 (k4.add (s.toNat*1)) fun l4=>
 Zm a s b (fun m4=>
 Zu f4 (m4.add (s.toNat*1)) (int .i64 j4) fun n4=>
 Zm a g4 b (fun o4=>
 Zu n4 (o4.add (g4.toNat*1)) (int .i64 l4) fun p4=>
 ∀q4:KW,(∀r4:World,(Ar .i64 (f-s) (fun s4=>
 ac (decide (s4≥2))
 (Ar .i64 (s+1) (fun t4=>
 ∀u4:KW,(∀(v4:Int) (x4:World),(m [int .i64 s,bool k] x4)→u4 [int .i64 v4] x4)→
 ∀y4:KW,(∀(z4:Int) (a5:World),(ac (decide (z4<f))
 (∀b5,b5=a5.drew→
 Zm a z4 b (fun c5=>
 Zs b5 (c5.add (z4.toNat*1)) fun d5=>
 Ar .i64 (z4-1) (fun e5=>
 Zm a e5 b (fun f5=>
 Zs b5 (f5.add (e5.toNat*1)) fun g5=>
 CP 219 #[int .i64 d5,int .i64 g5] b5 (fun h5 i5=>
 Zp h5 fun j5=>
 ac (!j5)
 (u4 [int .i64 z4] i5)
 (∀k5,k5=i5.drew→
 Ar .i64 (z4-1) (fun l5=>
 Ar .i64 (z4-1) (fun m5=>
 Zm a m5 b (fun n5=>
 Zs k5 (n5.add (m5.toNat*1)) fun o5=>
 Zm a z4 b (fun p5=>
 Zs k5 (p5.add (z4.toNat*1)) fun q5=>
 Zm a z4 b (fun r5=>
 Zu k5 (r5.add (z4.toNat*1)) (int .i64 o5) fun s5=>
 Zm a l5 b (fun t5=>
 Zu s5 (t5.add (l5.toNat*1)) (int .i64 q5) fun u5=>
 Ar .i64 (z4+1) (fun v5=>
 y4 [int .i64 v5] u5)))))))))))))
 (u4 [int .i64 z4] a5))→y4 [int .i64 z4] a5)→
 y4 [int .i64 t4] r4))
 (m [int .i64 s,bool k] r4)))→q4 [] r4)→
 Ar .i64 (s-d) (fun x5=>
 ac (decide (x5≥2))
 (Ar .i64 (s-1) (fun y5=>
 ∀z5:KW,(∀(a6:Int) (b6:World),(q4 [] b6)→z5 [int .i64 a6] b6)→
 ∀c6:KW,(∀(d6:Int) (e6:World),(ac (decide (d6≥1))
 (∀f6,f6=e6.drew→
 Zm a d6 b (fun g6=>
 Zs f6 (g6.add (d6.toNat*1)) fun h6=>
 Ar .i64 (d6-1) (fun i6=>
 Zm a i6 b (fun j6=>
 Zs f6 (j6.add (i6.toNat*1)) fun k6=>
 CP 219 #[int .i64 h6,int .i64 k6] f6 (fun l6 m6=>
 Zp l6 fun n6=>
 ac (!n6)
 (z5 [int .i64 d6] m6)
 (∀o6,o6=m6.drew→
 Ar .i64 (d6-1) (fun p6=>
 Ar .i64 (d6-1) (fun q6=>
 Zm a q6 b (fun r6=>
 Zs o6 (r6.add (q6.toNat*1)) fun s6=>
 Zm a d6 b (fun t6=>
 Zs o6 (t6.add (d6.toNat*1)) fun u6=>
 Zm a d6 b (fun v6=>
 Zu o6 (v6.add (d6.toNat*1)) (int .i64 s6) fun x6=>
 Zm a p6 b (fun y6=>
 Zu x6 (y6.add (p6.toNat*1)) (int .i64 u6) fun z6=>
 Ar .i64 (d6-1) (fun a7=>
 c6 [int .i64 a7] z6)))))))))))))
 (z5 [int .i64 d6] e6))→c6 [int .i64 d6] e6)→
 c6 [int .i64 y5] p4))
 (q4 [] p4)))))))))))))→r [int .i64 s] t)→
 r [int .i64 j] l)
 (R (bool false) l))→h [int .i64 i,int .i64 j,bool k] l)→
 h [int .i64 0,int .i64 g,bool false] w)
theorem CD (a:OA) (b c:Nat) (d f:Int) (w:World) (R:RW) (hh:Qr a b c d f w R):CR 218 #[slice a b c,int .i64 d,int .i64 f] w R:=by refine aH (fn:=Tryz.f218) ?_ ?_ ?_ ?_ ?_ hh<;>kernel_rfl
def QK (a b:Int) (w:World) (R:RW):Prop:=
 CP 259 #[int .i64 a] w (fun c d=>
 Zp c fun f=>
 ac f
 (CP 259 #[int .i64 b] d (fun g h=>
 Zp g fun i=>
 ac (!i)
 (R (bool true) h)
 (R (bool (decide (a<b))) h)))
 (R (bool (decide (a<b))) d))
theorem BB (a b:Int) (w:World) (R:RW) (hh:QK a b w R):CR 219 #[int .i64 a,int .i64 b] w R:=by refine aH (fn:=Tryz.f219) ?_ ?_ ?_ ?_ ?_ hh<;>kernel_rfl
def Sn (a:Int) (w:World) (R:RW):Prop:=
 ∀b:KW,(∀(c d:Int) (f:World),(∀g:KW,(∀(h i:Int) (j:World),(∀k:KW,(∀(l m:Int) (n:World),((0:Int)≤(IntKind.wrap .u8 m)∧(IntKind.wrap .u8 m) < ((⟨#[0,1,2,2,3,3,3,3,4,4,4,4,4,4,4,4,5,5,5,5,5,5,5,5,5,5,5,5,5,5,5,5,6,6,6,6,6,6,6,6,6,6,6,6,6,6,6,6,6,6,6,6,6,6,6,6,6,6,6,6,6,6,6,6,7,7,7,7,7,7,7,7,7,7,7,7,7,7,7,7,7,7,7,7,7,7,7,7,7,7,7,7,7,7,7,7,7,7,7,7,7,7,7,7,7,7,7,7,7,7,7,7,7,7,7,7,7,7,7,7,7,7,7,7,7,7,7,7,8,8,8,8,8,8,8,8,8,8,8,8,8,8,8,8,8,8,8,8,8,8,8,8,8,8,8,8,8,8,8,8,8,8,8,8,8,8,8,8,8,8,8,8,8,8,8,8,8,8,8,8,8,8,8,8,8,8,8,8,8,8,8,8,8,8,8,8,8,8,8,8,8,8,8,8,8,8,8,8,8,8,8,8,8,8,8,8,8,8,8,8,8,8,8,8,8,8,8,8,8,8,8,8,8,8,8,8,8,8,8,8,8,8,8,8,8,8,8,8,8,8,8,8,8,8,8,8]⟩:ByteArray).size:Int)∧
 Ar .i64 (l+(IntKind.wrap .i64 (dM ⟨#[0,1,2,2,3,3,3,3,4,4,4,4,4,4,4,4,5,5,5,5,5,5,5,5,5,5,5,5,5,5,5,5,6,6,6,6,6,6,6,6,6,6,6,6,6,6,6,6,6,6,6,6,6,6,6,6,6,6,6,6,6,6,6,6,7,7,7,7,7,7,7,7,7,7,7,7,7,7,7,7,7,7,7,7,7,7,7,7,7,7,7,7,7,7,7,7,7,7,7,7,7,7,7,7,7,7,7,7,7,7,7,7,7,7,7,7,7,7,7,7,7,7,7,7,7,7,7,7,8,8,8,8,8,8,8,8,8,8,8,8,8,8,8,8,8,8,8,8,8,8,8,8,8,8,8,8,8,8,8,8,8,8,8,8,8,8,8,8,8,8,8,8,8,8,8,8,8,8,8,8,8,8,8,8,8,8,8,8,8,8,8,8,8,8,8,8,8,8,8,8,8,8,8,8,8,8,8,8,8,8,8,8,8,8,8,8,8,8,8,8,8,8,8,8,8,8,8,8,8,8,8,8,8,8,8,8,8,8,8,8,8,8,8,8,8,8,8,8,8,8,8,8,8,8,8,8]⟩ (IntKind.wrap .u8 m)))) (fun o=>
 R (int .i64 o) n))→k [int .i64 l,int .u64 m] n)→
 ac (decide (i≥256))
 ((0:Int)≤8∧
 Ar .i64 (h+8) (fun p=>
 k [int .i64 p,int .u64 (Int.fdiv i (2^(min (8:Int).toNat (IntKind.bits .u64))))] j))
 (k [int .i64 h,int .u64 i] j))→g [int .i64 h,int .u64 i] j)→
 ac (decide (d≥65536))
 ((0:Int)≤16∧
 Ar .i64 (c+16) (fun q=>
 g [int .i64 q,int .u64 (Int.fdiv d (2^(min (16:Int).toNat (IntKind.bits .u64))))] f))
 (g [int .i64 c,int .u64 d] f))→b [int .i64 c,int .u64 d] f)→
 ac (decide (a≥4294967296))
 ((0:Int)≤32∧
 b [int .i64 32,int .u64 (Int.fdiv a (2^(min (32:Int).toNat (IntKind.bits .u64))))] w)
 (b [int .i64 0,int .u64 a] w)
theorem Do (a:Int) (w:World) (R:RW) (hh:Sn a w R):CR 223 #[int .u64 a] w R:=by refine aH (fn:=Tryz.f223) ?_ ?_ ?_ ?_ ?_ hh<;>kernel_rfl
def QU (a:OA) (b c:Nat) (d:Int) (f:OA) (w:World) (R:RW):Prop:=
 Ar .i64 (d-1) (fun g=>
 Ar .i64 (d+1) (fun h=>
 CP 258 #[slice a b c,int .i64 g,int .i64 d,int .i64 h,pointer f] w (fun i j=>
 Zx i fun k=>
 R (int .i64 k) j)))
theorem zJ (a:OA) (b c:Nat) (d:Int) (f:OA) (w:World) (R:RW) (hh:QU a b c d f w R):CR 257 #[slice a b c,int .i64 d,pointer f] w R:=by refine aH (fn:=Tryz.f257) ?_ ?_ ?_ ?_ ?_ hh<;>kernel_rfl
def O0 (a:OA) (b c:Nat) (d f g:Int) (h:OA) (w:World) (R:RW):Prop:=
 CP 284 #[slice a b c,int .i64 d,int .i64 f,pointer h] w (fun i j=>
 Zz i fun k l=>
 CP 284 #[slice a b c,int .i64 l,int .i64 g,pointer h] j (fun m n=>
 Zz m fun o p=>
 CP 284 #[slice a b c,int .i64 k,int .i64 o,pointer h] n (fun q r=>
 Zz q fun s t=>
 R (int .i64 t) r)))
theorem Aq (a:OA) (b c:Nat) (d f g:Int) (h:OA) (w:World) (R:RW) (hh:O0 a b c d f g h w R):CR 258 #[slice a b c,int .i64 d,int .i64 f,int .i64 g,pointer h] w R:=by refine aH (fn:=Tryz.f258) ?_ ?_ ?_ ?_ ?_ hh<;>kernel_rfl
def Q_ (a:Int) (w:World) (R:RW):Prop:=
 R (bool (a != a)) w
theorem Cx (a:Int) (w:World) (R:RW) (hh:Q_ a w R):CR 259 #[int .i64 a] w R:=by refine aH (fn:=Tryz.f259) ?_ ?_ ?_ ?_ ?_ hh<;>kernel_rfl
def PU (a:OA) (b c:Nat) (d f:Int) (g:OA) (w:World) (R:RW):Prop:=
 ∀h,h=w.drew→
 Zm a f b (fun i=>
 Zs h (i.add (f.toNat*1)) fun j=>
 Zm a d b (fun k=>
 Zs h (k.add (d.toNat*1)) fun l=>
 CP 219 #[int .i64 j,int .i64 l] h (fun m n=>
 Zp m fun o=>
 ac o
 (ag g (fun p=>
 Zs n p fun q=>
 Ar .i64 (q+1) (fun r=>
 ag g (fun s=>
 Zu n s (int .i64 r) fun t=>
 R (tuple #[int .i64 f,int .i64 d]) t))))
 (R (tuple #[int .i64 d,int .i64 f]) n))))
theorem Cf (a:OA) (b c:Nat) (d f:Int) (g:OA) (w:World) (R:RW) (hh:PU a b c d f g w R):CR 284 #[slice a b c,int .i64 d,int .i64 f,pointer g] w R:=by refine aH (fn:=Tryz.f284) ?_ ?_ ?_ ?_ ?_ hh<;>kernel_rfl
def OS (a b:OA) (c d:Nat) (w:World) (R:RW):Prop:=
 ∀f:KW,(∀(g:Int) (h:Bool) (i:Int) (j:World),(ac (decide (g< (c:Int)))
 (Zm b g c (fun k=>
 Zs j (k.add (g.toNat*1)) fun l=>
 CP 68 #[pointer a,int .i64 l] j (fun m n=>
 Zp m fun o=>
 ac (!o)
 (R (tuple #[int .i64 g,bool true]) n)
 (ac (decide (g>0))
 (Ar .i64 (g-1) (fun p=>
 Zm b p c (fun q=>
 Zs n (q.add (p.toNat*1)) fun r=>
 CP 84 #[pointer a,int .i64 r,int .i64 l] n (fun s t=>
 Zp s fun u=>
 ac (!u)
 (R (tuple #[int .i64 g,bool true]) t)
 (Ar .i64 (g+1) (fun x=>
 f [int .i64 x,bool h,int .i64 i] t))))))
 (Ar .i64 (g+1) (fun y=>
 f [int .i64 y,bool h,int .i64 i] n))))))
 (R (tuple #[int .i64 0,bool false]) j))→f [int .i64 g,bool h,int .i64 i] j)→
 f [int .i64 0,bool false,int .i64 0] w
theorem Aw (a b:OA) (c d:Nat) (w:World) (R:RW) (hh:OS a b c d w R):CR 360 #[pointer a,slice b c d] w R:=by refine aH (fn:=Tryz.f360) ?_ ?_ ?_ ?_ ?_ hh<;>kernel_rfl
theorem Ei (n:Int) (w:World):CP 259 #[.int .i64 n] w fun e w'=>e= .returned (.bool false)∧w'=w:=by
 refine aV (Cx n w) ?_;exact⟨by simp,rfl⟩
theorem vp (x y:Int) (w:World):CP 219 #[.int .i64 x,.int .i64 y] w fun e w'=>e= .returned (.bool (decide (x<y)))∧w'=w:=by
 refine aV (BB x y w) ?_;refine(Ei x w).mono ?_;rintro e b ⟨rfl,a⟩;subst a;exact⟨_,rfl,ac.no rfl ⟨rfl,rfl⟩⟩
def mV (l:List Int):Prop:=∀(i j:Nat) (hi:i<l.length) (hj:j<l.length),i<j→l[i] <l[j]
section
variable {A:Option Addr} {C:Nat} {l:List Int}
theorem kX (hs:mV l) (w:World) (hr:Rw an 1 w A l) (i j:Nat) (hij:i<j) (hj:j<l.length) (p:Option Addr):
  CP 284 #[.slice A l.length C,.int .i64 (i:Int),.int .i64 (j:Int),.pointer p] w fun e w'=>e= .returned (.tuple #[.int .i64 (i:Int),.int .i64 (j:Int)])∧ZH w w':=by
 refine aV (Cf A l.length C i j p w) ?_;intro d c;have a:ZH w d:=by subst c;exact aU w
 obtain⟨q,h,g⟩:=a_ (hr.on a) hj rfl;obtain⟨m,b,f⟩:=a_ (hr.on a) (show i<l.length by omega) rfl;refine ag.mk q h ⟨by omega,by omega,_,g,ag.mk m b ⟨by omega,by omega,_,f,?_⟩⟩;refine(vp _ _ d).mono ?_;rintro e n ⟨rfl,k⟩;subst k;exact⟨_,rfl,ac.no (XZ (by have:=hs i j (by omega) hj hij;omega)) ⟨rfl,a⟩⟩
theorem qk (hs:mV l) (hl:l.length≤1000000) (w:World) (hr:Rw an 1 w A l) (i j k:Nat) (hij:i<j) (hjk:j<k) (hk:k<l.length) (p:Option Addr):
  CP 258 #[.slice A l.length C,.int .i64 (i:Int),.int .i64 (j:Int),.int .i64 (k:Int),.pointer p] w fun e w'=>e= .returned (.int .i64 (j:Int))∧ZH w w':=by
 refine aV (Aq A l.length C i j k p w) ?_;refine(kX hs w hr i j hij (by omega) p).mono ?_;rintro e f ⟨rfl,b⟩;refine⟨_,_,rfl,?_⟩;refine(kX hs f (hr.on b) j k hjk hk p).mono ?_;rintro e g ⟨rfl,c⟩;refine⟨_,_,rfl,?_⟩;have a:=ae b c;refine(kX hs g (hr.on a) i j hij (by omega) p).mono ?_;rintro e h ⟨rfl,d⟩;exact⟨_,_,rfl,rfl,ae a d⟩
theorem iM (hs:mV l) (hl:l.length≤1000000) (w:World) (hr:Rw an 1 w A l) (j:Nat) (h0:0<j) (hj:j+1<l.length) (p:Option Addr):
  CP 257 #[.slice A l.length C,.int .i64 (j:Int),.pointer p] w fun e w'=>e= .returned (.int .i64 (j:Int))∧ZH w w':=by
 refine aV (zJ A l.length C j p w) ?_;refine Ar.nat (j-1) (by omega) (by omega) (Ar.nat (j+1) (by omega) (by omega) ?_);refine(qk hs hl w hr (j-1) j (j+1) (by omega) (by omega) hj p).mono ?_;rintro e b ⟨rfl,a⟩;exact⟨_,rfl,rfl,a⟩
theorem D_ (hs:mV l) (hl:l.length≤1000000) (w:World) (hr:Rw an 1 w A l) (h50:50≤l.length):
  CP 216 #[.slice A l.length C,.int .i64 0,.int .i64 (l.length:Int)] w fun e w'=>∃n:Int,e= .returned (.tuple #[.int .i64 n,.int .i64 1])∧ZH w w':=by
 refine aV (Ah A l.length C 0 l.length w) ?_;refine Ar.nat l.length (by omega) (by omega) ?_;intro i f;have j:ZH w i:=by subst f;exact ah _ _
 have q:i.heap[w.heap.size]? =some (.cells #[.int .i64 0] aT (0,0)):=by subst f;exact aq _ _
 have d:IntKind.wrap .i64 (Int.tdiv (l.length:Int) 4)=((l.length/4:Nat):Int):=by
  have:Int.tdiv (l.length:Int) 4=((l.length/4:Nat):Int):=rfl;rw [this];exact cL (by show(-9223372036854775808:Int)≤_;omega) (by show _≤(9223372036854775807:Int);omega)
 rw [d];refine⟨by decide,Ar.nat (l.length/4*1) (by omega) (by omega) (Ar.nat (l.length/4*1) (by omega) (by omega) ⟨by decide,Ar.nat (l.length/4*2) (by omega) (by omega) (Ar.nat (l.length/4*2) (by omega) (by omega) ⟨by decide,Ar.nat (l.length/4*3) (by omega) (by omega) (Ar.nat (l.length/4*3) (by omega) (by omega) ?_)⟩)⟩)⟩;intro v g;refine ac.yes (XJ (by omega)) ?_;intro x h;refine ac.yes (XJ (by omega)) ?_;refine(iM hs hl i (hr.on j) (l.length/4*1) (by omega) (by omega) _).mono ?_;rintro e s ⟨rfl,k⟩;have a:=ae j k;refine⟨_,rfl,(iM hs hl s (hr.on a) (l.length/4*2) (by omega) (by omega) _).mono ?_⟩;rintro e t ⟨rfl,m⟩;have b:=ae a m;refine⟨_,rfl,(iM hs hl t (hr.on b) (l.length/4*3) (by omega) (by omega) _).mono ?_⟩;rintro e u ⟨rfl,o⟩;have c:=ae b o;refine⟨_,rfl,h _ _ _ _ ((qk hs hl u (hr.on c) (l.length/4*1) (l.length/4*2) (l.length/4*3) (by omega) (by omega) (by omega) _).mono ?_)⟩;rintro e y ⟨rfl,p⟩;have r:=aj p (aj o (aj m (aj k q)));exact⟨_,rfl,g _ _ _ _ ⟨0,by rw [aQ r];rfl,ac.yes rfl ⟨_,rfl,ae c p⟩⟩⟩
theorem xI (hs:mV l) (hl:l.length≤1000000) (w:World) (hr:Rw an 1 w A l) (h0:0<l.length):
  CP 218 #[.slice A l.length C,.int .i64 0,.int .i64 (l.length:Int)] w fun e w'=>e= .returned (.bool true)∧ZH w w':=by
 refine aV (CD A l.length C 0 l.length w) ?_;refine Ar.nat 1 (by omega) (by omega) ?_;intro y h;refine h _ _ _ _ (ac.yes rfl ?_);intro z r;intro m c;have k:=aZ (α:=World) (l.length-1) (fun i q=>ZH w q) (fun i q=>m [.int .i64 ((i+1:Nat):Int)] q) w (Below.refl _ _) ?_ ?_
 ·exact k
 ·rintro i B u q g;refine c _ _ ?_;intro d b;have f:ZH q d:=by subst b;exact aU q
  have a:=ae g f;obtain⟨p,s,o⟩:=a_ (hr.on a) (show i+1<l.length by omega) rfl;obtain⟨v,j,n⟩:=a_ (hr.on a) (show i<l.length by omega) rfl;refine ac.yes (by simp;omega) (ag.mk p s ⟨by omega,by omega,_,o,Ar.nat i (by omega) (by omega) (ag.mk v j ⟨by omega,by omega,_,n,?_⟩)⟩);refine(vp _ _ d).mono ?_;rintro e x ⟨rfl,t⟩;subst t;have:=hs i (i+1) (by omega) (by omega) (by omega);refine⟨_,rfl,ac.yes (by rw [XZ (by omega)];rfl) (Ar.nat (i+1+1) rfl (by omega) (u x a))⟩
 ·rintro q g;refine c _ _ ?_;intro d b;have f:ZH q d:=by subst b;exact aU q
  have e:((l.length-1+1:Nat):Int)=(l.length:Int):=by omega
  rw [e];exact ac.no (by simp) (ac.yes (by simp) ⟨rfl,ae g f⟩)
end
theorem Em (n:Nat) (w:World) (h1:256≤n) (h2:n≤65535):CP 223 #[.int .u64 (n:Int)] w fun e w'=>∃k:Int,e= .returned (.int .i64 k)∧k≠0∧w'=w:=by
 refine aJ (Do n w (fun u w'=>∃k:Int,u= .int .i64 k∧k≠0∧w'=w) ?_) (by rintro v w' ⟨k,rfl,h⟩;exact⟨k,rfl,h⟩);intro l c;refine ac.no (XZ (by omega)) (c _ _ _ ?_);intro m d;refine ac.no (XZ (by omega)) (d _ _ _ ?_);intro o f;refine ac.yes (XJ (by omega)) ⟨by decide,Ar.nat 8 rfl (by omega) (f _ _ _ ?_)⟩;have e:Int.fdiv (n:Int) (2^(min (8:Int).toNat (IntKind.bits .u64)))=((n/256:Nat):Int):=by
  show Int.fdiv (n:Int) 256=_;rw [Int.fdiv_eq_ediv_of_nonneg _ (by decide)];rfl
 rw [e];have g:IntKind.wrap .u8 ((n/256:Nat):Int)=((n/256:Nat):Int):=cL (by show(0:Int)≤_;omega) (by show _≤(255:Int);omega);rw [g];refine⟨by omega,by show((n/256:Nat):Int) <256;omega,?_⟩;have j:∀s:ByteArray,0≤dM s ((n/256:Nat):Int)∧dM s ((n/256:Nat):Int)≤255:=by
  intro s;unfold dM;cases s.data[((n/256:Nat):Int).toNat]? with
  |none=>simp
  |some b=>
   have:=b.toNat_lt;simp only [Option.map_some,Option.getD_some];omega
 have a:∀s:ByteArray,Ar .i64 (((8:Nat):Int)+IntKind.wrap .i64 (dM s ((n/256:Nat):Int))) (fun i=>∃k:Int,Value.int .i64 i= .int .i64 k∧k≠0∧w=w):=by
  intro s;have:=j s;rw [cL (z:=dM s ((n/256:Nat):Int)) (by show(-9223372036854775808:Int)≤_;omega) (by show _≤(9223372036854775807:Int);omega)];exact Ar.ok64 (by omega) (by omega) ⟨_,rfl,by omega,rfl⟩
 exact a _
theorem Ii (n:Nat) (w:World) (h1:256≤n) (h2:n≤65535):CP 170 #[.int .u64 (n:Int)] w fun e w'=>∃k:Int,e= .returned (.int .i64 k)∧k≠0∧w'=w:=by
 refine aV (Bm n w) ?_;refine(Em n w h1 h2).mono ?_;rintro e c ⟨k,rfl,a,b⟩;exact⟨_,rfl,k,rfl,a,b⟩
theorem G0 (w:World) (A:Option Addr) (C:Nat) (l:List Int) (hr:Rw an 1 w A l) (hs:mV l) (h1:256≤l.length) (h2:l.length≤65535):
  CP 115 #[.slice A l.length C] w fun e w'=>e= .returned (.tuple #[])∧ZH w w':=by
 refine aV (B5 A l.length C w) ?_;have t:IntKind.wrap .u64 (l.length:Int)=(l.length:Int):=cL (by show(0:Int)≤_;omega) (by show _≤(18446744073709551615:Int);omega);unfold Nz;rw [t];refine(Ii l.length w h1 h2).mono ?_;rintro e c ⟨k,rfl,s,f⟩;subst f;refine⟨_,rfl,?_⟩;have g:CP 169 #[.slice A l.length C,.int .i64 0,.int .i64 (l.length:Int),.int .i64 k] c fun e w'=>e= .returned (.tuple #[])∧ZH c w':=by
  refine aV (B3 A l.length C 0 l.length k c) ?_;intro I q;refine q _ _ _ _ _ _ ?_;intro x r;refine Ar.nat l.length (by omega) (by omega) (ac.no (XZ (by omega)) (ac.no (by simpa using s) ?_));intro j a;refine ac.no rfl (a _ _ ?_);refine(D_ hs (by omega) c hr (by omega)).mono ?_;rintro e v ⟨n,rfl,h⟩;refine⟨_,_,rfl,?_⟩;intro m b;refine ac.no rfl (b _ _ _ ?_);intro o i;refine ac.yes rfl (ac.yes rfl (ac.yes rfl ?_));refine(xI hs (by omega) v (hr.on h) (by omega)).mono ?_;rintro e u ⟨rfl,d⟩;exact⟨_,rfl,ac.yes rfl ⟨rfl,ae h d⟩⟩
 refine g.mono ?_;rintro e y ⟨rfl,p⟩;exact⟨rfl,rfl,p⟩
def pY (f:Nat→Bool):Nat→Nat
 |0=>0
 |m+1=>pY f m|||(if f m then 2^m else 0)
theorem dL (f:Nat→Bool):∀m j,(pY f m).testBit j=(decide (j<m)&&f j)
 |0,j=>by simp [pY]
 |m+1,j=>by
  rw [pY,Nat.testBit_or,dL f m j];by_cases h:f m=true
  ·rw [if_pos h,Nat.testBit_two_pow];by_cases e:m=j
   ·subst e;simp [h]
   ·by_cases e2:j<m
    ·simp [e,e2,show j<m+1 by omega]
    ·simp [e,e2,show ¬j<m+1 by omega]
  ·rw [if_neg h,Nat.zero_testBit];by_cases e:j=m
   ·subst e;simp [h]
   ·by_cases e2:j<m
    ·simp [e2,show j<m+1 by omega]
    ·simp [e2,show ¬j<m+1 by omega]
theorem JJ (f:Nat→Bool) (m:Nat):pY f m<2^m:=by
 apply Nat.lt_pow_two_of_testBit;intro j a;rw [dL,XZ (by omega)];rfl
theorem kQ {f g:Nat→Bool} {m:Nat} (h:∀j,j<m→f j=g j):pY f m=pY g m:=by
 apply Nat.eq_of_testBit_eq;intro j;rw [dL,dL];by_cases hj:j<m
 ·rw [h j hj]
 ·simp [hj]
def wordAt (n:Nat) (p:Nat→Bool) (k:Nat):Nat:=pY (fun j=>decide (64*k+j<n)&&p (64*k+j)) 64
def bG (n:Nat) (p:Nat→Bool):List Int:=(List.range ((n+63)/64)).map fun k=>((wordAt n p k:Nat):Int)
theorem de (n:Nat) (p:Nat→Bool):(bG n p).length=(n+63)/64:=by simp [bG]
theorem pZ (n:Nat) (p:Nat→Bool) {k:Nat} (hk:k< (n+63)/64):(bG n p)[k]? =some ((wordAt n p k:Nat):Int):=by simp [bG,hk]
theorem jL (n:Nat) (p:Nat→Bool) (k:Nat):wordAt n p k<2^64:=JJ _ _
theorem iZ (n:Nat) (p:Nat→Bool) {i:Nat} (hi:i<n):(wordAt n p (i/64)).testBit (i%64)=p i:=by
 rw [wordAt,dL];have a:i%64<64:=Nat.mod_lt _ (by decide);have b:64*(i/64)+i%64=i:=by omega
 simp [a,b,hi]
theorem qK (n:Nat) (p:Nat→Bool) {i:Nat} (hi:i<n) (hp:p i=true) (k:Nat):wordAt n (fun j=>p j&&decide (j<i+1)) k=if k=i/64 then wordAt n (fun j=>p j&&decide (j<i)) k|||2^(i%64)else wordAt n (fun j=>p j&&decide (j<i)) k:=by
 apply Nat.eq_of_testBit_eq;intro j;unfold wordAt;by_cases hk:k=i/64
 ·rw [if_pos hk,Nat.testBit_or,dL,dL,Nat.testBit_two_pow];by_cases hj:j<64
  ·by_cases e:i%64=j
   ·have:64*k+j=i:=by omega
    simp [hj,e,this,hi,hp]
   ·have a:64*k+j≠i:=by omega
    simp only [hj,e,decide_true,decide_false,Bool.true_and,Bool.or_false];congr 2;exact decide_eq_decide.2 (by omega)
  ·have:i%64≠j:=by omega
   simp [hj,this]
 ·rw [if_neg hk,dL,dL];by_cases hj:j<64
  ·have a:64*k+j≠i:=by omega
   simp only [hj,decide_true,Bool.true_and];congr 2;exact decide_eq_decide.2 (by omega)
  ·simp [hj]
theorem B_ (n:Nat) (p:Nat→Bool) {i:Nat} (hp:p i=false) (k:Nat):wordAt n (fun j=>p j&&decide (j<i+1)) k=wordAt n (fun j=>p j&&decide (j<i)) k:=by
 unfold wordAt;apply kQ;intro j _;congr 1;by_cases e:64*k+j=i
 ·simp [e,hp]
 ·have a:decide (64*k+j<i+1)=decide (64*k+j<i):=decide_eq_decide.2 ⟨fun h=>by omega,fun h=>by omega⟩;simp only [a]
theorem vX (n:Nat) (p:Nat→Bool) {i:Nat} (hi:i<n) (hp:p i=true):bG n (fun j=>p j&&decide (j<i+1))=(bG n (fun j=>p j&&decide (j<i))).set (i/64) (((wordAt n (fun j=>p j&&decide (j<i)) (i/64)|||2^(i%64):Nat)):Int):=by
 apply List.ext_getElem
 ·rw [List.length_set,de,de]
 ·intro k a b;rw [List.getElem_set];rw [de]at a;by_cases e:i/64=k
  ·rw [if_pos e];simp only [bG,List.getElem_map,List.getElem_range];rw [qK n p hi hp,if_pos e.symm,e]
  ·rw [if_neg e];simp only [bG,List.getElem_map,List.getElem_range];rw [qK n p hi hp,if_neg (fun h=>e h.symm)]
theorem wS (n:Nat) (p:Nat→Bool) {i:Nat} (hp:p i=false):bG n (fun j=>p j&&decide (j<i+1))=bG n (fun j=>p j&&decide (j<i)):=by
 unfold bG;apply List.map_congr_left;intro k _;rw [B_ n p hp]
theorem wB (n:Nat) (p:Nat→Bool):bG n (fun j=>p j&&decide (j<0))=List.replicate ((n+63)/64) 0:=by
 apply List.ext_getElem
 ·rw [de,List.length_replicate]
 ·intro k a b;simp only [bG,List.getElem_map,List.getElem_range,List.getElem_replicate];have:wordAt n (fun j=>p j&&decide (j<0)) k=0:=by
   apply Nat.eq_of_testBit_eq;intro j;unfold wordAt;rw [dL];simp
  rw [this];rfl
theorem zV (n:Nat) (p:Nat→Bool):bG n (fun j=>p j&&decide (j<n))=bG n p:=by
 unfold bG;apply List.map_congr_left;intro k _;congr 1;unfold wordAt;apply kQ;intro j _;by_cases e:64*k+j<n<;>simp [e]
abbrev iE:TypeId:=138
abbrev pv:TypeId:=111
theorem E4:Tryz.prog.underlying pv=some (.slice iE):=by kernel_rfl
theorem wC:(Tryz.prog.info? iE).map (fun i=>(i.zero,i.size,i.bytes))=some (some (.int .u64 0),1,8):=by kernel_rfl
def dj (n:Int):List Value:=[.int .u64 n]
theorem p_:Du dj 1 pv iE 8:=⟨fun _=>rfl,by decide,fun x u hu=>by rw [List.mem_singleton.1 hu];rfl,E4,_,wC,rfl⟩
theorem ux (w:World) (n:Nat) (hn:n≤1000000):(Instr.makeSlice pv (.int .i64 n) (.int .i64 n)).run Tryz.prog w= .ok (.slice (some (nb w)) n n) (w.alloc (.cells (Array.replicate n (.int .u64 0)) iE)):=by
 obtain⟨i,b,d,c,a⟩:=info_parts wC;have:=Go.run_make (P:=Tryz.prog) w pv iE i (.int .u64 0) E4 b d .i64 .i64 (n:Int) (n:Int) (by omega) (Int.le_refl _) (by rw [a];omega) (by omega);rw [this];congr 3;rw [c];apply Array.ext
 ·rw [size_madeCells];simp
 ·intro j e f;simp only [madeCells,Array.getElem_map,Array.getElem_range,Array.getElem_replicate];show(#[Value.int .u64 0]:Array Value)[j%1]! =_;rw [Nat.mod_one];rfl
theorem iG {w:World} {n:Nat} {e:TypeId} (xs:List Value) (hx:xs.length=n) (hn:n≤1000000) {B:Nat} (hB:B≤w.heap.size):(w.alloc (.cells xs.toArray e)).ownsRow B e 1 (.slice (some (nb w)) n n) n xs:=by
 refine⟨by rw [hx,Nat.mul_one],.inr ⟨w.heap.size,n,xs.toArray,rfl,hB,aq _ _,XV _,by unfold maxLen;omega,by rw [List.size_toArray,hx,Nat.mul_one],?_⟩⟩;rw [←hx,Nat.mul_one];exact List.take_length
theorem Ga (i:Nat) (hi:i≤1000000):IntKind.wrap .i64 (Int.tdiv (i:Int) 64)=((i/64:Nat):Int):=by
 have:Int.tdiv (i:Int) 64=((i/64:Nat):Int):=rfl;rw [this];exact cL (by show(-9223372036854775808:Int)≤_;omega) (by show _≤(9223372036854775807:Int);omega)
theorem Jy (i:Nat):Int.tmod (i:Int) 64=((i%64:Nat):Int):=rfl
theorem jO (x:Nat) (hx:x<2^64):(BitVec.ofInt 64 (x:Int)).toNat=x:=by
 rw [BitVec.ofInt_natCast,BitVec.toNat_ofNat,Nat.mod_eq_of_lt hx]
theorem jN (x:Nat) (hx:x<2^64):IntKind.wrap .u64 (x:Int)=(x:Int):=cL (by show(0:Int)≤_;omega) (by show _≤(18446744073709551615:Int);omega)
theorem F8 (x m:Nat) (hx:x<2^64) (hm:m<64):((IntKind.wrap .u64 ((BitVec.ofInt (IntKind.bits .u64) (Int.fdiv (x:Int) (2^(min ((m:Nat):Int).toNat (IntKind.bits .u64))))&&&BitVec.ofInt (IntKind.bits .u64) 1).toNat:Int):Int)==1)=x.testBit m:=by
 show((IntKind.wrap .u64 ((BitVec.ofInt 64 (Int.fdiv (x:Int) (2^(min m 64)))&&&BitVec.ofInt 64 1).toNat:Int):Int)==1)=_;have a:Int.fdiv (x:Int) (2^(min m 64))=((x/2^m:Nat):Int):=by
  rw [Nat.min_eq_left (by omega),Int.fdiv_eq_ediv_of_nonneg _ (Int.pow_nonneg (by decide))];simp
 have c:x/2^m<2^64:=Nat.lt_of_le_of_lt (Nat.div_le_self _ _) hx;rw [a,BitVec.toNat_and,jO _ c];have b:(BitVec.ofInt 64 1).toNat=1:=by decide
 rw [b,Nat.and_one_is_mod,jN _ (by omega),Nat.testBit_eq_decide_div_mod_eq];by_cases e:x/2^m%2=1
 ·rw [e];simp
 ·have:x/2^m%2=0:=by omega
  rw [this];simp
theorem Lo (x m:Nat) (hx:x<2^64) (hm:m<64):IntKind.wrap .u64 ((BitVec.ofInt (IntKind.bits .u64) (x:Int)|||BitVec.ofInt (IntKind.bits .u64) (IntKind.wrap .u64 ((1:Int)*2^(min ((m:Nat):Int).toNat (IntKind.bits .u64))))).toNat:Int)=((x|||2^m:Nat):Int):=by
 show IntKind.wrap .u64 ((BitVec.ofInt 64 (x:Int)|||BitVec.ofInt 64 (IntKind.wrap .u64 ((1:Int)*2^(min m 64)))).toNat:Int)=_;have a:2^m<2^64:=Nat.pow_lt_pow_right (by decide) hm;have b:(1:Int)*2^(min m 64)=((2^m:Nat):Int):=by
  rw [Nat.min_eq_left (by omega),Int.one_mul];simp
 rw [b,jN _ a,BitVec.toNat_or,jO _ hx,jO _ a];exact jN _ (Nat.or_lt_two_pow hx a)
theorem jl (w:World) (A:Option Addr) (N C n:Nat) (p:Nat→Bool) (hr:Rw dj 1 w A (bG n p)) (hN:N=(bG n p).length) (hn:n≤100000) (i:Nat) (hi:i<n):
  CP 61 #[.slice A N C,.int .i64 (i:Int)] w fun e w'=>e= .returned (.bool (p i))∧w'=w:=by
 refine aV (Fn A N C i w) ?_;unfold RK;rw [Ga i (by omega),Jy];rw [de]at hN;have c:i/64< (n+63)/64:=by omega
 obtain⟨q,d,_,b⟩:=hr _ _ (pZ n p c);have a:=b 0 _ rfl;rw [aC]at a;refine⟨by decide,ag.mk q d ⟨by omega,by omega,_,a,by decide,by omega,?_,rfl⟩⟩;rw [F8 _ _ (jL _ _ _) (Nat.mod_lt _ (by decide)),iZ n p hi]
theorem zO (w:World) (B:Nat) (l:Sl) (ws:List Int) (h:w.ownsRow B iE 1 l.v l.n (ws.flatMap dj)) (i x:Nat) (hi:i≤1000000) (hk:i/64<ws.length) (hx:ws[i/64]=(x:Int)) (hlt:x<2^64):
  CP 120 #[.slice l.a l.n l.c,.int .i64 (i:Int)] w fun e w'=>e= .returned (.tuple #[])∧w'.ownsRow B iE 1 l.v l.n ((ws.set (i/64) ((x|||2^(i%64):Nat):Int)).flatMap dj)∧(∀j,l.v.ownBlock≠some j→w'.heap[j]? =w.heap[j]?)∧w'.heap.size=w.heap.size∧Below B w w':=by
 refine aV (AX l.a l.n l.c i w) ?_;rintro p rfl;have d:w.drew.ownsRow B iE 1 l.v l.n (ws.flatMap dj):=eA h;have a:=bO.of_own p_ d;have k:=a.n;rw [Ga i hi,Jy];obtain⟨q,b,c⟩:=a_ a.r hk rfl;rw [hx]at c;refine⟨by decide,ag.mk q b ⟨by omega,by omega,_,c,by decide,by omega,ag.mk q b ⟨by omega,by omega,?_⟩⟩⟩;rw [Lo x _ hlt (Nat.mod_lt _ (by decide))];refine mf (oK (enc:=dj) (fun _=>rfl) (by decide) (fun y u n=>by rw [List.mem_singleton.1 n];rfl) d k b (i/64) hk _ ?_);intro w' f m o g;exact⟨rfl,f,m,o,g _ _ (XV _) ((Below.refl _ _).drew)⟩
theorem aW.off {w w':World} {v:Nat} {s:am} {T:List aX} (h:aW w v s T) {B:Nat} (hb:Below B w w') (hv:v<B) {B' sz n:Nat} {e:TypeId} {u:Value} {xs:List Value} (ho:w.ownsRow B' e sz u n xs) (he:bW≠e) (hk:∀k,u.ownBlock≠some k→w'.heap[k]? =w.heap[k]?):aW w' v s T:=by
 obtain⟨q,x,p,i,o,d,l,b,a⟩:=h;have f:=a.lt;refine⟨q,x,p,i,o,d,l,b,a.parts,a.below.trans (hb.mono (by omega)),f,by rw [hb.block v hv];exact a.blk,?_⟩;rcases a.once with h |⟨j,m,g⟩
 ·exact .inl h
 ·exact .inr ⟨j,m,aN g fun k c=>hk k (cj g ho he k c)⟩
theorem aW.own_touch {w w':World} {v:Nat} {s:am} {T:List aX} (h:aW w v s T) (t:aD v w w') {B sz n:Nat} {e:TypeId} {u:Value} {xs:List Value} (ho:w.ownsRow B e sz u n xs) (he:e≠dJ):w'.ownsRow B e sz u n xs:=by
 obtain⟨i,x,g,c,f,d,l,a,b⟩:=h;exact t.own ho (az ho b.blk he)
theorem aD.then_off {v B:Nat} {a b c:World} (t:aD v a b) (hb:Below B b c) (hB:a.heap.size≤B):aD v a c:=
 ⟨hb.os.trans t.os,hb.tape.trans t.tape,hb.output.trans t.output,XW t.size hb.size,fun k hk hv=>(hb.block k (Nat.lt_of_lt_of_le hk hB)).trans (t.block k hk hv)⟩
theorem vq (w:World) (n:Nat) (is:Value) (p:Nat→Bool) (v:Nat) (s:am) (T:List aX) (hV:aW w v s T) (hn:n≤100000)
  (his:∀i,i<n→∀w1,aW w1 v s T→aD v w w1→bM gq is [.int .i64 (i:Int)] w1 (fun e w2=>e= .returned (.bool (p i))∧aW w2 v s T∧aD v w1 w2)):
  CP 58 #[.int .i64 (n:Int),is] w fun e w'=>∃l:Sl,e= .returned l.v∧w'.ownsRow w.heap.size iE 1 l.v l.n ((bG n p).flatMap dj)∧aW w' v s T∧aD v w w':=by
 refine aV (EU n is w) ?_;have y:=hV.lt;refine Ar.nat (n+64) (by omega) (by omega) (Ar.nat (n+63) (by omega) (by omega) ⟨by decide,?_⟩);rw [Ga (n+63) (by omega)];obtain⟨m,r⟩:∃m,m=(n+63)/64:=⟨_,rfl⟩;rw [←r];refine⟨_,_,_,_,ux w m (by omega),?_⟩;have L:(w.alloc (.cells (Array.replicate m (.int .u64 0)) iE)).ownsRow w.heap.size iE 1 (.slice (some (nb w)) m m) m ((bG n (fun j=>p j&&decide (j<0))).flatMap dj):=by
  have:=iG (w:=w) (e:=iE) (n:=m) (List.replicate m (Value.int .u64 0)) (by simp) (by omega) (XV w.heap.size);rw [wB, ←r];have e:(List.replicate m (0:Int)).flatMap dj=List.replicate m (Value.int .u64 0):=by
   clear this r;induction m with
   |zero=>rfl
   |succ m z=>rw [List.replicate_succ,List.flatMap_cons,z,List.replicate_succ];rfl
  rw [e];simpa using this
 have B:=ah w (.cells (Array.replicate m (.int .u64 0)) iE);intro I D;have A:=aZ (α:=World) n (fun i q=>q.ownsRow w.heap.size iE 1 (.slice (some (nb w)) m m) m ((bG n (fun j=>p j&&decide (j<i))).flatMap dj)∧aW q v s T∧aD v w q) (fun i q=>I [.int .i64 (i:Int)] q) _ ⟨L,hV.on B,aD.of_below B⟩ ?_ ?_
 ·exact A
 ·rintro i E z q ⟨a,b,o⟩;refine D _ _ (ac.yes (by simp;omega) ?_);intro J H;have f:∀d,(d.ownsRow w.heap.size iE 1 (.slice (some (nb w)) m m) m ((bG n (fun j=>p j&&decide (j<i+1))).flatMap dj)∧aW d v s T∧aD v w d)→J [] d:=fun d h=>H _ (Ar.nat (i+1) rfl (by omega) (z d h));refine(his i E q b o).mono ?_;rintro e G ⟨rfl,g,F⟩;have c:=b.own_touch F a (by decide);have k:=o.trans F;refine⟨_,rfl,ac.mk (fun u=>?_) fun u=>f G ⟨by rw [wS n p u];exact c,g,k⟩⟩;have K:i/64< (bG n (fun j=>p j&&decide (j<i))).length:=by rw [de];omega
  refine(zO G w.heap.size ⟨some (nb w),m,m⟩ _ c i (wordAt n (fun j=>p j&&decide (j<i)) (i/64)) (by omega) K (by simp [bG]) (jL _ _ _)).mono ?_;rintro e N ⟨rfl,t,x,M,C⟩;refine⟨rfl,f N ⟨?_,g.off C y c (by decide) x,k.then_off C (XV _)⟩⟩;rw [vX n p E u];exact t
 ·rintro q ⟨a,b,o⟩;rw [zV]at a;exact D _ _ (ac.no (by simp) ⟨⟨some (nb w),m,m⟩,rfl,a,b,o⟩)
def bV (s:am) (T:List aX):List Int:=(List.range T.length).map (fun i:Nat=>(i:Int))++s.specials.map (·.1)
theorem gV (s:am) (T:List aX):(bV s T).length=T.length+s.specials.length:=by simp [bV]
theorem HI {l:List Int} (h:l.Pairwise (·< ·)):mV l:=fun i j hi hj hij=>List.pairwise_iff_getElem.1 h i j hi hj hij
theorem kV {s:am} {T:List aX} (hasc:(s.specials.map (·.1)).Pairwise (·< ·)) (hids:∀y∈s.specials,(T.length:Int)≤y.1):(bV s T).Pairwise (·< ·):=by
 rw [bV,List.pairwise_append];refine⟨?_,hasc,?_⟩
 ·rw [List.pairwise_map];exact List.pairwise_lt_range.imp (by intro a b h;omega)
 ·intro a c b d;obtain⟨i,e,rfl⟩:=List.mem_map.1 c;obtain⟨y,f,rfl⟩:=List.mem_map.1 d;have:=hids y f;have:=List.mem_range.1 e;omega
theorem o_ (s:am) (T:List aX) (t:Int):t∈bV s T↔bY s T t=true:=by
 unfold bV bY;rw [List.mem_append,decide_eq_true_eq,Or.comm];refine or_congr Iff.rfl ?_;rw [List.mem_map];constructor
 ·rintro⟨i,a,rfl⟩;have:=List.mem_range.1 a;exact⟨by omega,by omega⟩
 ·rintro⟨b,c⟩;exact⟨t.toNat,List.mem_range.2 (by omega),by omega⟩
theorem wJ (w:World) (p:Nat) (xs:List (Int×Bs)) (h:ni w p xs) (hl:xs.length≤1000000):CP 114 #[.pointer (some ⟨p,0,none⟩)] w fun e w'=>∃l:Sl,e= .returned l.v∧l.n=xs.length∧w'.ownsRow w.heap.size nH 2 l.v l.n (xs.flatMap aM)∧ZH w w':=by
 refine aV (BS (some ⟨p,0,none⟩) w) ?_;obtain⟨l,o,q,c,f,g,a,i,_,_⟩:=h;obtain⟨b,n,d⟩:=l;change n=xs.length at a;subst a;refine ac.no rfl (ag.mk _ rfl ⟨b,_,d,by rw [ai _ _ f];exact g.c0,?_⟩);refine(qD w b d xs i (by omega)).mono ?_;rintro e r ⟨l,rfl,k,m,j⟩;exact⟨_,_,_,rfl,l,rfl,k,m,j⟩
theorem C7 (w:World) (v:Nat) (s:am) (T:List aX) (hV:aW w v s T) (hasc:(s.specials.map (·.1)).Pairwise (·< ·)):
  CP 48 #[.pointer (some ⟨v,0,none⟩)] w fun e w'=>∃l:Sl,e= .returned l.v∧w'.ownsRow w.heap.size aT 1 l.v l.n ((bV s T).flatMap an)∧ZH w w':=by
 refine aV (Fl (some ⟨v,0,none⟩) w) ?_;obtain⟨w0,x,tp,bp,mp,d,l,uses,P⟩:=hV;have r:=P.now;have U:=r.ok.most;have hlen:=r.ok.len;have G:=(dz r.right).2.2.1;have hmx:s.specials.length≤32:=by
  have:=(iU r.right).2.2.2.1;exact gv this
 refine(kA P.vblk r.tab).mono ?_;rintro e c ⟨rfl,W⟩;subst W;refine⟨_,rfl,?_⟩;intro I hI;have a0:=aZ (α:=Sl×World) T.length (fun i y=>y.2.ownsRow c.heap.size aT 1 y.1.v y.1.n (((List.range i).map (fun i:Nat=>(i:Int))).flatMap an)∧y.1.n=i∧ZH c y.2) (fun i y=>I [.int .i64 (i:Int),y.1.v] y.2) (cW,c) ⟨bE _ _ _ _ an,rfl,Below.refl _ _⟩ ?_ ?_
 ·exact a0
 ·rintro i S Z ⟨f,q⟩ ⟨b,V,m⟩;change q.ownsRow c.heap.size aT 1 f.v f.n _ at b;change f.n=i at V;change ZH c q at m;refine hI _ f.a f.n f.c q (ac.yes (by simp;omega) ?_);intro w3 X;obtain⟨C,w4,g1,g2,g3,g4,_⟩:=co.push b (i:Int) X rfl m.size (by omega) (by decide);refine⟨C.a,C.n,C.c,w4,g2,Ar.nat (i+1) rfl (by omega) (Z (C,w4) ⟨?_,by show C.n=i+1;omega,g4 _ m⟩)⟩;rw [List.range_succ,List.map_append];exact g3
 ·rintro⟨f,q⟩ ⟨b,V,m⟩;change q.ownsRow c.heap.size aT 1 f.v f.n _ at b;change f.n=T.length at V;change ZH c q at m;refine hI _ f.a f.n f.c q (ac.no (by simp) ?_);refine(eD (P.vblk.on m)).mono ?_;rintro e w5 ⟨rfl,W⟩;subst W;refine⟨_,rfl,?_⟩;refine(wJ w5 mp s.specials (r.on m).marks G).mono ?_;rintro e w6 ⟨a,rfl,han,Q,b6⟩;refine⟨a.a,a.n,a.c,rfl,?_⟩;have O:=ae m b6;intro I2 F;have L:=aZ (α:=Sl×World) s.specials.length (fun i y=>y.2.ownsRow c.heap.size aT 1 y.1.v y.1.n (((List.range T.length).map (fun i:Nat=>(i:Int))++(s.specials.take i).map (·.1)).flatMap an)∧y.1.n=T.length+i∧y.2.ownsRow c.heap.size nH 2 a.v a.n (s.specials.flatMap aM)∧ZH c y.2) (fun i y=>I2 [.int .i64 (i:Int),y.1.v] y.2) (f,w6) ⟨by simpa using aE b b6,by show f.n=T.length+0;omega,aS Q m.size,O⟩ ?_ ?_
  ·exact L
  ·rintro i S Z ⟨g,z⟩ ⟨t,n,o,h⟩;change z.ownsRow c.heap.size aT 1 g.v g.n _ at t;change g.n=T.length+i at n;change z.ownsRow c.heap.size nH 2 a.v a.n _ at o;change ZH c z at h;obtain⟨p,hp,_,hc⟩:=(bO.of_own eT o).r i _ (XK S);have c0:=hc 0 _ rfl;rw [aC]at c0;refine F _ g.a g.n g.c z (ac.yes (by simp;omega) (ag.mk p hp ⟨by omega,by omega,_,_,⟨c0,hc 1 _ rfl,trivial⟩,?_⟩));intro w8 Y;refine bg [.int .i64 0,.string ⟨#[]⟩] [.int .i64 s.specials[i].1,.string (str s.specials[i].2)] rfl (eh _ _) w8 Y ?_;intro w9 h9 hz9 N;refine⟨_,ai _ _ h9 0,?_⟩;intro w10 K;have E:=ae h N;obtain⟨D,M,e1,e2,e3,e4,e5⟩:=co.push (aE t N) s.specials[i].1 K rfl E.size (by omega) (by decide);have j:=aE o N;refine⟨D.a,D.n,D.c,M,e2,Ar.nat (i+1) rfl (by omega) (Z (D,M) ⟨?_,by show D.n=T.length+(i+1);omega,aN j fun k hk=>e5 k (bL j k hk).2 (cj j (aE t N) (by decide) k hk),e4 _ E⟩)⟩;rw [List.take_add_one,XK S,List.map_append, ←List.append_assoc];exact e3
  ·rintro⟨g,z⟩ ⟨t,n,o,h⟩;change z.ownsRow c.heap.size aT 1 g.v g.n _ at t;change g.n=T.length+s.specials.length at n;change ZH c z at h;rw [List.take_length]at t;have R:g.n=(bV s T).length:=by rw [gV,n]
   have H:z.ownsRow c.heap.size aT 1 g.v g.n ((bV s T).flatMap an):=t;refine F _ g.a g.n g.c z (ac.no (by simp;omega) ?_);have J:=(bO.of_own co H).r;have u:=HI (kV hasc r.ids);have A:CP 115 #[.slice g.a g.n g.c] z fun e w'=>e= .returned (.tuple #[])∧ZH z w':=by
    rw [R];exact G0 z g.a g.c _ J u (by rw [gV];omega) (by rw [gV];omega)
   refine A.mono ?_;rintro e w12 ⟨rfl,B⟩;exact⟨rfl,g,rfl,aE H B,ae h B⟩
theorem Ej (w:World) (v:Nat) (s:am) (T:List aX) (hV:aW w v s T) (a b:Int) (ha:(ap s T).Has a) (hb:(ap s T).Has b):
  CP 62 #[.pointer (some ⟨v,0,none⟩),.int .i64 a,.int .i64 b] w fun e w'=>e= .returned (.bool (decide ((ap s T).Canon [a,b])))∧aW w' v s T∧aD v w w':=by
 refine aJ (D7 (some ⟨v,0,none⟩) a b w (fun u w'=>u= .bool (decide ((ap s T).Canon [a,b]))∧aW w' v s T∧aD v w w') ?_) (by rintro v w' ⟨rfl,h⟩;exact⟨rfl,h⟩);have f:∀ {q:World},aW q v s T→∃x z j p,bZ q s T x z j p∧∃c,iv q v c z j p:=by
  rintro q ⟨X,x,z,j,p,d,l,M,H⟩;exact⟨x,z,j,p,H.now,_,H.vblk⟩
 obtain⟨x,z,j,p,k,_⟩:=f hV;have i:=pP k;have n:∀t∈ [a]++ [b],(ap s T).Has t:=by
  intro t J;simp at J;rcases J with rfl |rfl
  ·exact ha
  ·exact hb
 refine(jU w v s T hV a).mono ?_;rintro e V ⟨rfl,m,L⟩;refine⟨_,rfl,ac.mk (fun A=>?_) fun A=>⟨?_,m,L⟩⟩
 ·have F:=(gH k ha).1 A;refine(jU V v s T m b).mono ?_;rintro e Y ⟨rfl,g,S⟩;have y:=L.trans S;refine⟨_,rfl,ac.mk (fun B=>?_) fun B=>⟨?_,g,y⟩⟩
  ·have G:=(gH k hb).1 B;obtain⟨x2,U,N,R,D,W,C⟩:=f g;refine(qw C D a b ha hb F G).mono ?_;rintro e Z ⟨r,rfl,I,E⟩;refine⟨r,rfl,?_,g.on E,y.trans (aD.of_below E)⟩;have O:=Voc.canon_more i (init:=[]) (l:=a) (t:=b) (fun x K=>by simp at K;rw [K];exact ha) F hb;congr 1;have o:(ap s T).Canon [a,b]↔(ap s T).Canon [b]∧(ap s T).Pair a b:=O;cases r with
   |true=>exact(XJ (o.2 ⟨G,I.1 rfl⟩)).symm
   |false=>exact(XZ fun e=>by have:=I.2 (o.1 e).2;cases this).symm
  ·rw [XZ fun e=>?_];have:=(gH k hb).2 (Voc.canon_append i (P:=[a]) (Q:=[b]) n e).2;rw [B]at this;cases this
 ·rw [XZ fun e=>?_];have:=(gH k ha).2 (Voc.canon_append i (P:=[a]) (Q:=[b]) n e).1;rw [A]at this;cases this
abbrev vj:TypeId:=113
abbrev Ny:TypeId:=109
theorem Lm:Tryz.prog.underlying Ny=some (.slice pv):=by kernel_rfl
theorem LJ:(Tryz.prog.info? pv).map (fun i=>(i.zero,i.size,i.bytes))=some (some (.slice none 0 0),1,24):=by kernel_rfl
def nL (r:Sl):List Value:=[r.v]
theorem Kt:Du nL 1 Ny pv 24:=⟨fun _=>rfl,by decide,fun x u hu=>by rw [List.mem_singleton.1 hu];rfl,Lm,_,LJ,rfl⟩
def uw (G:List Int):List (Int×Value):=G.zipIdx.map fun x=>(x.1,.int .i64 (x.2:Int))
theorem GA (G:List Int) (x:Int):uw (G++ [x])=uw G++ [(x,.int .i64 (G.length:Int))]:=by simp [uw,List.zipIdx_append]
theorem vu (G:List Int) (k:Int):e_ k (uw G)=(G.idxOf? k).map fun i:Nat=>Value.int .i64 (i:Int):=by
 have:=gC (fun x:Int=>x) k G 0;simp only [Nat.zero_add,List.map_id']at this;exact this
def kb (s:am) (T:List aX) (i:Nat):Bool:=decide ((ap s T).Canon [(bV s T).getD i 0])
def df (s:am) (T:List aX) (i k:Nat):Bool:=decide ((ap s T).Canon [(bV s T).getD i 0,(bV s T).getD k 0])
structure ly (w:World) (g:Nat) (G:List Int) (al:Nat→Bool) (rel:Nat→Nat→Bool) (ids rows alone:Sl) (mb:Nat) (rs:List Sl) (m:Nat):Prop where
 blk:w.heap[g]? =some (.cells #[ids.v,.map (some mb),rows.v,alone.v] vj (0,0))
 oi:w.ownsRow 0 aT 1 ids.v ids.n (G.flatMap an)
 map:bJ eu w mb (uw G)
 orows:w.ownsRow 0 pv 1 rows.v rows.n (rs.flatMap nL)
 rl:rs.length=m
 each:∀(i:Nat) (r:Sl),rs[i]? =some r→w.ownsRow 0 iE 1 r.v r.n ((bG G.length (rel i)).flatMap dj)
 oal:w.ownsRow 0 iE 1 alone.v alone.n ((bG G.length al).flatMap dj)
def su (w:World) (g:Nat) (G:List Int) (al:Nat→Bool) (rel:Nat→Nat→Bool):Prop:=∃ids rows alone mb rs,ly w g G al rel ids rows alone mb rs G.length
theorem ly.on {w w':World} {g:Nat} {G:List Int} {al:Nat→Bool} {rel:Nat→Nat→Bool} {ids rows alone:Sl} {mb:Nat} {rs:List Sl} {m:Nat} (h:ly w g G al rel ids rows alone mb rs m) (hb:ZH w w'):ly w' g G al rel ids rows alone mb rs m:=
 ⟨aj hb h.blk,aE h.oi hb,h.map.on hb,aE h.orows hb,h.rl,fun i r hr=>aE (h.each i r hr) hb,aE h.oal hb⟩
theorem su.on {w w':World} {g:Nat} {G:List Int} {al:Nat→Bool} {rel:Nat→Nat→Bool} (h:su w g G al rel) (hb:ZH w w'):su w' g G al rel:=by
 obtain⟨c,b,a,d,e,h⟩:=h;exact⟨c,b,a,d,e,h.on hb⟩
theorem aW.typed {w:World} {v:Nat} {s:am} {T:List aX} (h:aW w v s T):∃c,w.heap[v]? =some (.cells c dJ (0,0)):=by
 obtain⟨i,x,g,e,f,d,l,a,b⟩:=h;exact⟨_,b.blk⟩
theorem aW.ne_cells {w:World} {v:Nat} {s:am} {T:List aX} (h:aW w v s T) {k:Nat} {c:Array Value} {e:TypeId} {fz:Nat×Nat} (hk:w.heap[k]? =some (.cells c e fz)) (he:e≠dJ):k≠v:=by
 obtain⟨b,a⟩:=h.typed;rintro rfl;rw [a]at hk;cases hk;exact he rfl
theorem aW.ne_map {w:World} {v:Nat} {s:am} {T:List aX} (h:aW w v s T) {κ:Type} [DecidableEq κ] {kv:κ→Value} {r:Nat} {m:List (κ×Value)} (hm:bJ kv w r m):r≠v:=by
 obtain⟨c,b⟩:=h.typed;rintro rfl;obtain⟨d,k,a,_⟩:=hm;rw [b]at a;cases a
theorem ly.touch {w w':World} {g:Nat} {G:List Int} {al:Nat→Bool} {rel:Nat→Nat→Bool} {ids rows alone:Sl} {mb:Nat} {rs:List Sl} {m:Nat} (h:ly w g G al rel ids rows alone mb rs m) {v:Nat} {s:am} {T:List aX} (hV:aW w v s T) (t:aD v w w'):ly w' g G al rel ids rows alone mb rs m:=
 ⟨t.held (hV.ne_cells h.blk (by decide)) h.blk,hV.own_touch t h.oi (by decide),h.map.same (t.block mb h.map.lt (hV.ne_map h.map)),hV.own_touch t h.orows (by decide),h.rl,fun i r hr=>hV.own_touch t (h.each i r hr) (by decide),hV.own_touch t h.oal (by decide)⟩
theorem iC {w2 w3:World} {x u:Value} {e:TypeId} (hw:w3=w2.alloc (.cells #[x] e)) (hu:u.oneCell'=true) {k:World→Prop} (hk:∀w4,w4.heap[w2.heap.size]? =some (.cells #[u] e (0,0))→ZH w2 w4→k w4):u.oneCell'=true∧(∃y,w3.cell? (nb w2)=some y)∧w3.frozen? (nb w2)=false∧∀w4,w4=w3.setCell (nb w2) u→k w4:=
 mf (bg [x] [u] rfl (by intro y hy;rw [List.mem_singleton.1 hy];exact hu) w3 hw fun w4 h4 _ b4=>hk w4 h4 b4)
theorem bD {w:World} {b:Nat} {x:Value} {e:TypeId} {fz:Nat×Nat} (h:w.heap[b]? =some (.cells #[x] e fz)):w.cell? ⟨b,0,none⟩=some x:=aQ h
theorem gL {α:Type} {l:List α} {i:Nat} (h:i<l.length) (d:α):l.getD i d=l[i]:=by simp [List.getD,h]
theorem sg {s:am} {T:List aX} (h1:fo T) (h2:s.right=true):256≤(bV s T).length∧(bV s T).length≤1032:=by
 have:=h1.most;have:=h1.len;have:=gv (iU h2).2.2.2.1;rw [gV];omega
theorem aD.put {v d j:Nat} {a b:World} (t:aD v a b) (hd:a.heap.size≤d) (u:Value):aD v a (b.setCell ((⟨d,0,none⟩:Addr).add j) u):=
 ⟨t.os,t.tape,t.output,by rw [ba];exact t.size,fun k hk hv=>by rw [ar (by rw [ay];show k≠d;omega)];exact t.block k hk hv⟩
theorem aW.put {w:World} {v d j:Nat} {s:am} {T:List aX} (h:aW w v s T) {c:Array Value} {e:TypeId} (hd:w.heap[d]? =some (.cells c e (0,0))) (he:bW≠e) (hv:v<d) (u:Value):aW (w.setCell ((⟨d,0,none⟩:Addr).add j) u) v s T:=by
 obtain⟨p,x,o,i,n,q,l,b,a⟩:=h;have f:=a.lt;refine⟨p,x,o,i,n,q,l,b,a.parts,bv a.below (by omega) u,f,by rw [ar (by rw [ay];show v≠d;omega)];exact a.blk,?_⟩;rcases a.once with h |⟨k,m,g⟩
 ·exact .inl h
 ·exact .inr ⟨k,m,bw g u (by rw [ay];exact az g hd he)⟩
theorem aW.growE {w w':World} {v:Nat} {s:am} {T:List aX} (h:aW w v s T) {B:Nat} (hb:Below B w w') (hv:v<B) {B' n sz:Nat} {e:TypeId} {u:Value} {xs:List Value} (ho:w.ownsRow B' e sz u n xs) (he:bW≠e) (hk:∀k,k<w.heap.size→u.ownBlock≠some k→w'.heap[k]? =w.heap[k]?):aW w' v s T:=by
 obtain⟨q,x,p,i,o,d,l,c,a⟩:=h;have g:=a.lt;refine⟨q,x,p,i,o,d,l,c,a.parts,a.below.trans (hb.mono (by omega)),g,by rw [hb.block v hv];exact a.blk,?_⟩;rcases a.once with h |⟨j,m,f⟩
 ·exact .inl h
 ·exact .inr ⟨j,m,aN f fun k b=>hk k (bL f k b).2 (cj f ho he k b)⟩
theorem GT (w:World) (v:Nat) (s:am) (T:List aX) (hV:aW w v s T) (t:Int) (ht:(ap s T).Has t):
  CP 43 #[.pointer (some ⟨v,0,none⟩),.int .i64 t] w fun e w'=>e= .returned (.bool (decide ((ap s T).Canon [t])))∧aW w' v s T∧aD v w w':=by
 have f:∃x c a b,bZ w s T x c a b:=by
  obtain⟨j,x,c,a,b,d,l,g,i⟩:=hV;exact⟨x,c,a,b,i.now⟩
 obtain⟨x,c,a,b,f⟩:=f;refine(jU w v s T hV t).mono ?_;rintro e k ⟨rfl,h⟩;refine⟨?_,h⟩;congr 2;have:=gH f ht;cases ha:fQ s T t with
 |true=>exact(XJ (this.1 ha)).symm
 |false=>exact(XZ fun e=>by rw [this.2 e]at ha;cases ha).symm
theorem Hq (w:World) (v:Nat) (s:am) (T:List aX) (hV:aW w v s T) (b0 b1:Nat) {e0 e1:TypeId} (ids:Sl) (G:List Int) (h0:w.heap[b0]? =some (.cells #[.pointer (some ⟨v,0,none⟩)] e0 (0,0))) (h1:w.heap[b1]? =some (.cells #[ids.v] e1 (0,0))) (oi:w.ownsRow 0 aT 1 ids.v ids.n (G.flatMap an)) (hG:∀t∈G,(ap s T).Has t) (i:Nat) (hi:i<G.length):
  CP 59 #[.int .i64 (i:Int),.pointer (some ⟨b0,0,none⟩),.pointer (some ⟨b1,0,none⟩)] w fun e w'=>e= .returned (.bool (decide ((ap s T).Canon [G.getD i 0])))∧aW w' v s T∧aD v w w':=by
 refine aV (Er i (some ⟨b0,0,none⟩) (some ⟨b1,0,none⟩) w) ?_;intro f d;have a:ZH w f:=by subst d;exact aU w
 have b:=bO.of_own co (aE oi a);have k:=b.n;obtain⟨p,h,g⟩:=a_ b.r hi rfl;refine ag.mk _ rfl ⟨_,bD (aj a h0),ag.mk _ rfl ⟨ids.a,ids.n,ids.c,bD (aj a h1),ag.mk p h ⟨by omega,by omega,_,g,?_⟩⟩⟩;refine(GT f v s T (hV.on a) G[i] (hG _ (List.getElem_mem hi))).mono ?_;rintro e l ⟨rfl,c,j⟩;refine⟨_,rfl,?_,c,(aD.of_below a).trans j⟩;rw [gL hi]
theorem HC (w:World) (v:Nat) (s:am) (T:List aX) (hV:aW w v s T) (cg ci cv ca cids:Nat) {eg ei ev ea ed:TypeId} (g:Nat) (ids rows alone:Sl) (mb:Nat) (rs:List Sl) (m i k:Nat) (hb:v<cg∧v<ci∧v<cv∧v<ca∧v<cids)
  (hR:ly w g (bV s T) (kb s T) (df s T) ids rows alone mb rs m) (hgh:∀t∈bV s T,(ap s T).Has t) (hgl:(bV s T).length≤1032)
  (h0:w.heap[cg]? =some (.cells #[.pointer (some ⟨g,0,none⟩)] eg (0,0))) (h1:w.heap[ci]? =some (.cells #[.int .i64 (i:Int)] ei (0,0))) (h2:w.heap[cv]? =some (.cells #[.pointer (some ⟨v,0,none⟩)] ev (0,0))) (h3:w.heap[ca]? =some (.cells #[.int .i64 ((bV s T).getD i 0)] ea (0,0))) (h4:w.heap[cids]? =some (.cells #[ids.v] ed (0,0)))
  (hi:i< (bV s T).length) (hk:k< (bV s T).length):
  CP 60 #[.int .i64 (k:Int),.pointer (some ⟨cg,0,none⟩),.pointer (some ⟨ci,0,none⟩),.pointer (some ⟨cv,0,none⟩),.pointer (some ⟨ca,0,none⟩),.pointer (some ⟨cids,0,none⟩)] w fun e w'=>e= .returned (.bool (df s T i k))∧aW w' v s T∧aD v w w':=by
 refine aV (EJ k (some ⟨cg,0,none⟩) (some ⟨ci,0,none⟩) (some ⟨cv,0,none⟩) (some ⟨ca,0,none⟩) (some ⟨cids,0,none⟩) w) ?_;have y:∃x u q r,bZ w s T x u q r:=by
  obtain⟨O,x,u,q,r,d,l,J,hR⟩:=hV;exact⟨x,u,q,r,hR.now⟩
 obtain⟨x,u,q,r,y⟩:=y;have B:=pP y;have G:(ap s T).Has ((bV s T).getD i 0):=by rw [gL hi];exact hgh _ (List.getElem_mem hi)
 have H:(ap s T).Has ((bV s T).getD k 0):=by rw [gL hk];exact hgh _ (List.getElem_mem hk)
 have b:df s T i k=true→kb s T i=true∧kb s T k=true:=by
  intro h;have:=Voc.canon_append B (P:=[(bV s T).getD i 0]) (Q:=[(bV s T).getD k 0]) (by
   intro t I;simp only [List.cons_append,List.nil_append,List.mem_cons,List.not_mem_nil,or_false]at I;rcases I with rfl |rfl
   ·exact G
   ·exact H) (XQ h)
  exact⟨XJ this.1,XJ this.2⟩
 intro o C;have a:ZH w o:=by subst C;exact aU w
 have F:aD v w o:=aD.of_below a;have f:=hR.on a;have j:=hV.on a;have c:=bO.of_own p_ f.oal;refine ag.mk _ rfl ⟨_,bD (aj a h0),ag.mk _ rfl ⟨alone.a,alone.n,alone.c,by rw [aF f.blk];rfl,ag.mk _ rfl ⟨_,bD (aj a h1),?_⟩⟩⟩;refine(jl o alone.a alone.n alone.c _ (kb s T) c.r c.n (by omega) i hi).mono ?_;rintro e R ⟨rfl,D⟩;rw [D];refine⟨_,rfl,ac.mk (fun A=>?_) fun A=>⟨?_,j,F⟩⟩
 ·refine ag.mk _ rfl ⟨_,bD (aj a h0),ag.mk _ rfl ⟨alone.a,alone.n,alone.c,by rw [aF f.blk];rfl,?_⟩⟩;refine(jl o alone.a alone.n alone.c _ (kb s T) c.r c.n (by omega) k hk).mono ?_;rintro e S ⟨rfl,E⟩;rw [E];refine⟨_,rfl,ac.mk (fun hb=>?_) fun hb=>⟨?_,j,F⟩⟩
  ·have n:=bO.of_own co f.oi;have N:=n.n;obtain⟨p,L,K⟩:=a_ n.r hk rfl;refine ag.mk _ rfl ⟨_,bD (aj a h2),ag.mk _ rfl ⟨_,bD (aj a h3),ag.mk _ rfl ⟨ids.a,ids.n,ids.c,bD (aj a h4),ag.mk p L ⟨by omega,by omega,_,K,?_⟩⟩⟩⟩;rw [←gL hk 0];refine(Ej o v s T j _ _ G H).mono ?_;rintro e U ⟨rfl,z,M⟩;exact⟨_,rfl,rfl,z,F.trans M⟩
  ·cases hr:df s T i k with
   |false=>rfl
   |true=>rw [(b hr).2]at hb;cases hb
 ·cases hr:df s T i k with
  |false=>rfl
  |true=>rw [(b hr).1]at A;cases A
theorem dh {w:World} {B:Nat} {e:TypeId} {sz n:Nat} {u:Value} {xs:List Value} (h:w.ownsRow B e sz u n xs) {κ:Type} [DecidableEq κ] {kv:κ→Value} {r:Nat} {m:List (κ×Value)} (hm:bJ kv w r m):u.ownBlock≠some r:=by
 obtain⟨i,k,f,_⟩:=hm;intro a;rcases h.2 with⟨rfl,_⟩ |⟨g,c,d,rfl,_,b,_⟩
 ·cases a
 ·cases a;rw [f]at b;cases b
theorem HM {q w1 w2:World} {x y u z:Value} {e e':TypeId} (h1:w1=q.alloc (.cells #[x] e)) (h2:w2=w1.alloc (.cells #[y] e')) (hu:u.oneCell'=true) (hz:z.oneCell'=true) {k:World→Prop} (hk:∀w4,w4.heap[q.heap.size]? =some (.cells #[u] e (0,0))→w4.heap[w1.heap.size]? =some (.cells #[z] e' (0,0))→ZH q w4→k w4):
  u.oneCell'=true∧(∃a,w2.cell? (nb q)=some a)∧w2.frozen? (nb q)=false∧∀w3,w3=w2.setCell (nb q) u→z.oneCell'=true∧(∃a,w3.cell? (nb w1)=some a)∧w3.frozen? (nb w1)=false∧∀w4,w4=w3.setCell (nb w1) z→k w4:=by
 have o:ZH q w1:=by subst h1;exact ah _ _
 have l:w1.heap[q.heap.size]? =some (.cells #[x] e (0,0)):=by subst h1;exact aq _ _
 have m:ZH w1 w2:=by subst h2;exact ah _ _
 have n:w2.heap[w1.heap.size]? =some (.cells #[y] e' (0,0)):=by subst h2;exact aq _ _
 have b:=aj m l;have j:q.heap.size<w1.heap.size:=(XY.1 l).1;have f:=ae o m;refine⟨hu,⟨_,aQ b⟩,cd b,?_⟩;intro w3 h;have d:w3.heap[q.heap.size]? =some (.cells #[u] e (0,0)):=by subst h;exact cf b u
 have c:w3.heap[w1.heap.size]? =some (.cells #[y] e' (0,0)):=by subst h;rw [ar (by show w1.heap.size≠q.heap.size;omega)];exact n
 have g:ZH q w3:=by subst h;exact f.setCell (p:=nb q) (XV _) u
 refine⟨hz,⟨_,aQ c⟩,cd c,?_⟩;intro w4 i;refine hk w4 ?_ ?_ ?_
 ·subst i;rw [ar (by show q.heap.size≠w1.heap.size;omega)];exact d
 ·subst i;exact cf c z
 ·subst i;exact g.setCell (p:=nb w1) (Nat.le_of_lt j) z
def MZ (w:World) (v:Nat) (s:am) (T:List aX) (most:Int) (u:Value) (w':World):Prop:=aW w' v s T∧aD v w w'∧(if(((bV s T).length*(bV s T).length:Nat):Int)>most then u= .tuple #[.pointer none,.int .i64 5]else ∃g,u= .tuple #[.pointer (some ⟨g,0,none⟩),.int .i64 0]∧su w' g (bV s T) (kb s T) (df s T)∧w.heap.size≤g)
set_option maxHeartbeats 2000000 in
theorem wn (w:World) (v:Nat) (s:am) (T:List aX) (hV:aW w v s T) (hasc:(s.specials.map (·.1)).Pairwise (·< ·)) (most:Int):
  CP 14 #[.pointer (some ⟨v,0,none⟩),.int .i64 most] w fun e w'=>∃u,e= .returned u∧MZ w v s T most u w':=by
 refine DW (some ⟨v,0,none⟩) most w (MZ w v s T most) ?_;have hgb:256≤(bV s T).length∧(bV s T).length≤1032∧(∀t∈bV s T,(ap s T).Has t)∧(bV s T).Pairwise (·< ·):=by
  obtain⟨w0,x,tp,bp,mp,d,l,uses,hR⟩:=hV;have hP:=hR.now;exact⟨(sg hP.ok hP.right).1,(sg hP.ok hP.right).2,fun t ht=>(Gu hP t).1 ((o_ s T t).1 ht),kV hasc hP.ids⟩
 obtain⟨hg1,hg2,hgh,hgr⟩:=hgb;intro w1 hw1;have b1:ZH w w1:=by subst hw1;exact ah _ _
 have l1:w1.heap[w.heap.size]? =some (.cells #[.pointer (some ⟨v,0,none⟩)] 31 (0,0)):=by subst hw1;exact aq _ _
 refine⟨_,bD l1,?_⟩;have hV1:=hV.on b1;refine(C7 w1 v s T hV1 hasc).mono ?_;rintro e w2 ⟨a,rfl,oids,b2⟩;refine⟨_,_,_,rfl,?_⟩;intro w3 hw3;refine iC hw3 rfl ?_;intro y l4 b4;have b24:=ae b2 b4;have b14:=ae b1 b24;have F:=aS (aE oids b4) (Nat.zero_le _);have hin:=(bO.of_own co F).n;have l14:=aj b24 l1;have hV4:=hV.on b14;refine⟨_,bD l14,ac.no rfl ⟨a.a,a.n,a.c,bD l4,a.a,a.n,a.c,bD l4,Ar.nat ((bV s T).length*(bV s T).length) (by rw [hin];simp) (by
  have:(bV s T).length*(bV s T).length≤1032*1032:=Nat.mul_le_mul hg2 hg2;omega) (ac.mk (fun hm=>⟨hV4,aD.of_below b14,?_⟩) fun hm=>?_)⟩⟩
 ·rw [if_pos (XQ hm)]
 have hm:=XX hm;obtain⟨G,hG⟩:∃G,G=bV s T:=⟨_,rfl⟩;rw [←hG]at F hin hg1 hg2 hgh hgr hm;obtain⟨n,hn⟩:∃n,n=G.length:=⟨_,rfl⟩;rw [←hn]at hin;refine⟨a.a,a.n,a.c,bD l4,_,_,fR _,?_⟩;have b5:=ah y (.map #[] 0);have m5:bJ eu (y.alloc (.map #[] 0)) y.heap.size (uw []):=ip y;obtain⟨J,hw5⟩:∃J,J=y.alloc (.map #[] 0):=⟨_,rfl⟩;rw [←hw5]at b5 m5;rw [←hw5];intro w6 hw6 w7 hw7;have b6:ZH J w6:=by subst hw6;exact ah _ _
 have g6:w6.heap[J.heap.size]? =some (.cells #[a.v,.map (some y.heap.size),cW.v,cW.v] vj (0,0)):=by subst hw6;exact aq _ _
 refine iC hw7 rfl ?_;intro w8 l8 b8;have b58:=ae b6 b8;have E:=ae b5 b58;have b08:=ae b14 E;have hz4:=b14.size;have hz5:=b5.size;have lt4:y.heap.size<J.heap.size:=m5.lt;have lt6:J.heap.size<w6.heap.size:=(XY.1 g6).1;have lt8:w6.heap.size<w8.heap.size:=(XY.1 l8).1;have lt2:w2.heap.size<y.heap.size:=(XY.1 l4).1;have lt1:w.heap.size<y.heap.size:=(XY.1 l14).1;have hvl:=hV.lt;have boxes:∀ {q:World},Below (y.heap.size) w8 q→q.heap[w.heap.size]? =some (.cells #[.pointer (some ⟨v,0,none⟩)] 31 (0,0))∧q.heap[w2.heap.size]? =some (.cells #[a.v] bQ (0,0)):=by
  intro q hq;exact⟨Below.keeps hq lt1 (aj E l14),Below.keeps hq lt2 (aj E l4)⟩
 refine⟨a.a,a.n,a.c,bD (aj E l4),?_⟩;have oids8:=aE F E;have idsLt:∀k,a.v.ownBlock=some k→k<y.heap.size:=fun k K=>(bL F k K).2;intro I hI;let Inv (i:Nat) (q:World):Prop:=bJ eu q y.heap.size (uw (G.take i))∧(∀j,j≠y.heap.size→q.heap[j]? =w8.heap[j]?)∧q.heap.size=w8.heap.size∧ZH y q;have key:=aZ (α:=World) n Inv (fun i q=>I [.int .i64 (i:Int)] q) w8 ⟨by rw [List.take_zero];exact m5.on b58,fun _ _=>rfl,rfl,E⟩ ?_ ?_
 ·exact key
 ·rintro i hi ih q ⟨U,hs,hz,hB⟩;have O:i<G.length:=by omega
  have oq:q.ownsRow 0 aT 1 a.v a.n (G.flatMap an):=aN oids8 fun k K=>hs k (by have:=idsLt k K;omega);obtain⟨p,hp,c0⟩:=a_ (bO.of_own co oq).r O rfl;have hlook:e_ G[i] (uw (G.take i))=none:=by
   rw [vu,List.idxOf?_eq_none_iff.2]
   ·rfl
   ·intro hmem;obtain⟨j,hj,e⟩:=List.mem_take_iff_getElem.1 hmem;have:=List.pairwise_iff_getElem.1 hgr j i (by omega) O (by omega);omega
  obtain⟨q',hr',hm',hs',hz',hB'⟩:=eO oD ou U G[i] (.int .i64 (i:Int)) hlook;refine hI _ _ (ac.yes (by simp;omega) (ag.mk p hp ⟨by omega,by omega,_,c0,_,bD (by rw [hs w6.heap.size (by omega)];exact l8),ag.mk _ rfl ⟨_,ai _ _ (by rw [hs J.heap.size (by omega)];exact aj b8 g6) 1,q',hr',Ar.nat (i+1) rfl (by omega) (ih q' ⟨?_,fun j hj=>by rw [hs' j hj,hs j hj],by rw [hz',hz],hB' _ _ (XV _) hB⟩)⟩⟩));have e:uw (G.take (i+1))=uw (G.take i)++ [(G[i],.int .i64 (i:Int))]:=by
   rw [List.take_add_one,XK O];have:=GA (G.take i) G[i];rw [List.length_take,Nat.min_eq_left (by omega)]at this;exact this
  rw [e];exact hm'
 ·rintro q ⟨U,hs,hz,hB⟩;rw [List.take_of_length_le (by omega)]at U;refine hI _ _ (ac.no (by simp;omega) ?_);intro A hw11;have M:ZH q A:=by subst hw11;exact aU q
  have hq8:Below y.heap.size w8 q:=⟨by rw [hB.os, ←E.os],by rw [hB.tape, ←E.tape],by rw [hB.output, ←E.output],by rw [hz];exact XV _,fun k K=>hs k (by omega)⟩;have hq8':Below y.heap.size w8 A:=hq8.trans (M.mono (by have:=hq8.size;omega));have hV11:aW A v s T:=(hV4.on b5 |> fun h5=>(hV4.on ⟨hB.os,hB.tape,hB.output,hB.size,hB.block⟩)).on M;have t11:aD v w A:=(aD.of_below b14).trans (aD.of_below (hB.trans (M.mono hB.size)));have g11:=aj M (show q.heap[J.heap.size]? =some (.cells #[a.v,.map (some y.heap.size),cW.v,cW.v] vj (0,0)) by rw [hs _ (by omega)];exact aj b8 g6);have lg11:=aj M (show q.heap[w6.heap.size]? =_ by rw [hs _ (by omega)];exact l8);have m:=boxes hq8';have m11:=U.on M;have o11:A.ownsRow 0 aT 1 a.v a.n (G.flatMap an):=aE (aN oids8 fun k K=>hs k (by have:=idsLt k K;omega)) M;subst hG;have bxL:w.heap.size<A.heap.size∧w2.heap.size<A.heap.size∧w6.heap.size<A.heap.size∧J.heap.size<A.heap.size:=⟨(XY.1 m.1).1,(XY.1 m.2).1,(XY.1 lg11).1,(XY.1 g11).1⟩;have sz2:w.heap.size≤w2.heap.size:=XW b1.size b2.size;refine⟨_,bD lg11,a.a,a.n,a.c,bD m.2,?_⟩;refine(vq A a.n _ (fun i=>kb s T i) v s T hV11 (by omega) ?_).mono ?_
  ·intro i hi q hVq tq;refine b_ (by kernel_rfl) ?_;exact Hq q v s T hVq w.heap.size w2.heap.size a (bV s T) (tq.held (by omega) m.1) (tq.held (by omega) m.2) (hV11.own_touch tq o11 (by decide)) hgh i (by omega)
  rintro e w12 ⟨al,rfl,oal,hV12,P⟩;rw [hin,hn]at oal;have lg12:=P.held (by omega) lg11;have Z:=P.held (by omega) g11;have x12:=P.held (by omega) m.1;have y12:=P.held (by omega) m.2;have o12:=hV11.own_touch P o11 (by decide);have m12:=m11.same (P.block _ m11.lt (by omega));refine⟨al.a,al.n,al.c,rfl,⟨bD lg12,trivial⟩,ag.mk _ rfl ⟨rfl,⟨_,by rw [aF Z];rfl⟩,bc Z,?_⟩⟩;intro H V;have g13:H.heap[J.heap.size]? =some (.cells #[a.v,.map (some y.heap.size),cW.v,al.v] vj (0,0)):=by subst V;exact bu Z _
  have C:∀j,j≠J.heap.size→H.heap[j]? =w12.heap[j]? :=by
   intro j hj;subst V;exact ar (by rw [ay];exact hj)
  have hV13:aW H v s T:=by subst V;exact hV12.put Z (by decide) (by omega) _
  have t13:aD v w H:=by subst V;exact(t11.trans P).put (by omega) _
  have lg13:H.heap[w6.heap.size]? =_:=(C _ (by omega)).trans lg12;have x13:H.heap[w.heap.size]? =_:=(C _ (by omega)).trans x12;have y13:H.heap[w2.heap.size]? =_:=(C _ (by omega)).trans y12;have hR13:ly H J.heap.size (bV s T) (kb s T) (df s T) a cW al y.heap.size [] 0:=
   ⟨g13,aN o12 fun k K=>C k fun e=>az o12 Z (by decide) (by rw [K,e]),m12.same (C _ (by omega)),bE _ _ _ _ nL,rfl,(by intro i r h;cases h),aN (aS oal (Nat.zero_le _)) fun k K=>C k fun e=>az oal Z (by decide) (by rw [K,e])⟩
  refine⟨a.a,a.n,a.c,bD y13,?_⟩;intro I2 hI2;let Inv2 (i:Nat) (q:World):Prop:=∃c rs,ly q J.heap.size (bV s T) (kb s T) (df s T) a c al y.heap.size rs i∧q.ownsRow w.heap.size pv 1 c.v c.n (rs.flatMap nL)∧aW q v s T∧aD v w q∧q.heap[w6.heap.size]? =some (.cells #[.pointer (some (nb J))] 42 (0,0))∧q.heap[w.heap.size]? =some (.cells #[.pointer (some ⟨v,0,none⟩)] 31 (0,0))∧q.heap[w2.heap.size]? =some (.cells #[a.v] bQ (0,0));have key2:=aZ (α:=World) n Inv2 (fun i q=>I2 [.int .i64 (i:Int)] q) H ⟨cW,[],hR13,bE _ _ _ _ nL,hV13,t13,lg13,x13,y13⟩ ?_ ?_
  ·exact key2
  ·rintro i hi ih z ⟨c,rs,hR,orow,hVz,tz,lgz,xz,yz⟩;have O:i< (bV s T).length:=by omega
   have zb:w.heap.size<z.heap.size∧w2.heap.size<z.heap.size∧w6.heap.size<z.heap.size∧J.heap.size<z.heap.size:=⟨(XY.1 xz).1,(XY.1 yz).1,(XY.1 lgz).1,(XY.1 hR.blk).1⟩;have hlz:=bO.of_own co hR.oi;obtain⟨p,hp,c0⟩:=a_ hlz.r O rfl;have hnz:=hlz.n;refine hI2 _ _ (ac.yes (by simp;omega) (ag.mk p hp ⟨by omega,by omega,_,c0,?_⟩));intro w15 hw15 w16 hw16;refine HM hw15 hw16 rfl rfl ?_;intro w18 bi18 ba18 b18;have zs15:z.heap.size<w15.heap.size:=by subst hw15;rw [aK];omega
   intro w19 hw19;have b19':ZH w18 w19:=by subst hw19;exact aU w18
   have N:=ae b18 b19';have bi19:=aj b19' bi18;have ba19:=aj b19' ba18;have hR19:=hR.on N;have R:=hVz.on N;have X:=aj N lgz;have x19:=aj N xz;have y19:=aj N yz;have or19:=aE orow N;have t19:aD v w w19:=tz.then_off N tz.size;refine⟨_,bD X,_,bD X,ag.mk _ rfl ⟨c.a,c.n,c.c,by rw [aF hR19.blk];rfl,a.a,a.n,a.c,bD y19,?_⟩⟩;refine(vq w19 a.n _ (fun k=>df s T i k) v s T R (by omega) ?_).mono ?_
   ·intro k K q hVq tq;refine b_ (by kernel_rfl) ?_;refine HC q v s T hVq w6.heap.size z.heap.size w.heap.size w15.heap.size w2.heap.size J.heap.size a c al y.heap.size rs i i k ⟨by omega,by omega,by omega,by omega,by omega⟩ (hR19.touch R tq) hgh hg2 (tq.held (by omega) X) (tq.held (by omega) bi19) (tq.held (by omega) x19) (tq.held (by omega) (by rw [gL O];exact ba19)) (tq.held (by omega) y19) O (by omega)
   rintro e w20 ⟨r,rfl,orw,hV20,Q⟩;rw [hin,hn]at orw;have b:=hR19.touch R Q;have L:=Q.held (by omega) X;have x20:=Q.held (by omega) x19;have y20:=Q.held (by omega) y19;have f:=R.own_touch Q or19 (by decide);refine⟨r.a,r.n,r.c,rfl,⟨by rw [aF b.blk];rfl,trivial⟩,⟨bD L,trivial⟩,⟨bD L,trivial⟩,?_⟩;intro w21 hw21;have b21:ZH w20 w21:=by subst hw21;exact ah _ _
   have lg21:=aj b21 L;have wb:w.heap.size≤w20.heap.size:=(t19.trans Q).size;obtain⟨g,w22,hn22,hrun,own22,hB22,S⟩:=Kt.push f r hw21 rfl wb (by have:=(bO.of_own Kt f).n;have:=hR.rl;omega) (by decide);refine⟨⟨by rw [aF (aj b21 b.blk)];rfl,trivial⟩,⟨bD lg21,trivial⟩,⟨bD lg21,trivial⟩,g.a,g.n,g.c,w22,hrun,?_⟩;have kp:∀ {k:Nat} {o:Obj},w20.heap[k]? =some o→c.v.ownBlock≠some k→w22.heap[k]? =some o:=fun {k o} h hne=>(S k (XY.1 h).1 hne).trans h;have lg22:=kp L (az f L (by decide));have x22:=kp x20 (az f x20 (by decide));have y22:=kp y20 (az f y20 (by decide));have g22:=kp b.blk (az f b.blk (by decide));have B22:=hB22 w20 (Below.refl _ _);have hV22:=hV20.growE B22 hvl f (by decide) S;have t22:aD v w w22:=(t19.trans Q).then_off B22 (XV _);refine⟨⟨bD lg22,trivial⟩,ag.mk _ rfl ⟨rfl,⟨_,by rw [aF g22];rfl⟩,bc g22,?_⟩⟩;intro w23 W;have D:∀j,j≠J.heap.size→w23.heap[j]? =w22.heap[j]? :=by
    intro j hj;subst W;exact ar (by rw [ay];exact hj)
   have Y:∀ {B sz n:Nat} {e:TypeId} {u:Value} {xs:List Value},w20.ownsRow B e sz u n xs→e≠pv→e≠vj→w23.ownsRow B e sz u n xs:=by
    intro B sz n e u xs h h1 h2;refine aN h fun k K=>?_;rw [D k fun e=>az h b.blk h2 (by rw [K,e])];exact S k (bL h k K).2 (cj h f h1 k K)
   have own23:w23.ownsRow w.heap.size pv 1 g.v g.n ((rs++ [r]).flatMap nL):=aN own22 fun k K=>D k fun e=>az own22 g22 (by decide) (by rw [K,e]);refine Ar.nat (i+1) rfl (by omega) (ih w23 ⟨g,rs++ [r],?_,own23,?_,?_,(D _ (by omega)).trans lg22,(D _ (by omega)).trans x22,(D _ (by omega)).trans y22⟩)
   ·refine⟨by subst W;exact bu g22 _,Y b.oi (by decide) (by decide),?_,aS own23 (Nat.zero_le _),by have:=hR.rl;simp;omega,?_,Y b.oal (by decide) (by decide)⟩
    ·exact b.map.same ((D _ (by omega)).trans (S _ b.map.lt (dh f b.map)))
    ·intro j r' hj;have hrl:=hR.rl;by_cases h:j<rs.length
     ·rw [List.getElem?_append_left h]at hj;exact Y (b.each j r' hj) (by decide) (by decide)
     ·have hji:j=i:=by
       have:=(List.getElem?_eq_some_iff.1 hj).1;simp at this;omega
      subst hji;rw [List.getElem?_append_right (by omega),hrl,Nat.sub_self]at hj;cases hj;exact Y (aS orw (Nat.zero_le _)) (by decide) (by decide)
   ·subst W;exact hV22.put g22 (by decide) (by omega) _
   ·subst W;exact t22.put (by omega) _
  ·rintro z ⟨c,rs,hR,orow,hVz,tz,lgz,xz,yz⟩;rw [hn]at hR;refine hI2 _ _ (ac.no (by simp;omega) ⟨_,bD lgz,hVz,tz,?_⟩);rw [if_neg (by have:=hm;rw [hn]at*;omega)];exact⟨J.heap.size,rfl,⟨a,c,al,y.heap.size,rs,hR⟩,by omega⟩
def s1 (x:Nat):Nat:=(x/2&&&6148914691236517205)+(x&&&6148914691236517205)
def s2 (x:Nat):Nat:=(x/4&&&3689348814741910323)+(x&&&3689348814741910323)
def s3 (x:Nat):Nat:=x/16+x
def s4 (x:Nat):Nat:=(x&&&1085102592571150095)+(x&&&1085102592571150095)/256
def s5 (x:Nat):Nat:=x+x/65536
theorem Qo (x k:Nat) (hk:k≤64):Int.fdiv (x:Int) (2^(min (k:Int).toNat (IntKind.bits .u64)))=((x/2^k:Nat):Int):=by
 show Int.fdiv (x:Int) (2^(min k 64))=_;rw [Nat.min_eq_left hk,Int.fdiv_eq_ediv_of_nonneg _ (Int.pow_nonneg (by decide))];simp
theorem Sj (x m:Nat) (hx:x<2^64) (hm:m<2^64):IntKind.wrap .u64 ((BitVec.ofInt (IntKind.bits .u64) (x:Int)&&&BitVec.ofInt (IntKind.bits .u64) (m:Int)).toNat:Int)=((x&&&m:Nat):Int):=by
 show IntKind.wrap .u64 ((BitVec.ofInt 64 (x:Int)&&&BitVec.ofInt 64 (m:Int)).toNat:Int)=_;rw [BitVec.toNat_and,jO _ hx,jO _ hm];exact jN _ (Nat.lt_of_le_of_lt Nat.and_le_left hx)
abbrev il (w:World) (g:Nat) (s:am) (T:List aX):Prop:=su w g (bV s T) (kb s T) (df s T)
def mT (s:am) (T:List aX) (id:Int):Option Nat:=(bV s T).idxOf? id
theorem Et {l:List Int} {a:Int} {i:Nat} (h:l.idxOf? a=some i):∃h:i<l.length,l[i]=a:=by
 have:=List.findIdx?_eq_some_iff_getElem.1 h;obtain⟨b,c,_⟩:=this;exact⟨b,by simpa using c⟩
theorem dE {s:am} {T:List aX} {id:Int} {i:Nat} (h:mT s T id=some i):i< (bV s T).length∧(bV s T).getD i 0=id∧bY s T id=true:=by
 obtain⟨a,b⟩:=Et h;exact⟨a,by rw [gL a];exact b,(o_ s T id).1 (by rw [←b];exact List.getElem_mem a)⟩
theorem kR {s:am} {T:List aX} {id:Int} (h:mT s T id=none):bY s T id=false:=by
 have a:=List.idxOf?_eq_none_iff.1 h;cases hh:bY s T id with
 |false=>rfl
 |true=>exact absurd ((o_ s T id).2 hh) a
theorem xN {s:am} {T:List aX} (id:Int):(mT s T id).isSome=bY s T id:=by
 cases h:mT s T id with
 |none=>exact(kR h).symm
 |some i=>exact(dE h).2.2.symm
def IA (s:am) (T:List aX) (id:Int):Bool:=bY s T id&&decide ((ap s T).Canon [id])
def oR (s:am) (T:List aX) (a b:Int):Bool:=bY s T a&&bY s T b&&decide ((ap s T).Canon [a,b])
theorem Py:(Tryz.prog.info? aT).map (·.zero)=some (some (.int .i64 0)):=by kernel_rfl
theorem fK (w:World) (g:Nat) (s:am) (T:List aX) (h:il w g s T) (id:Int):
  CP 122 #[.pointer (some ⟨g,0,none⟩),.int .i64 id] w fun e w'=>e= .returned (.tuple #[.int .i64 (((mT s T id).getD 0:Nat):Int),.bool (mT s T id).isSome])∧w'=w:=by
 refine aV (AM (some ⟨g,0,none⟩) id w) ?_;obtain⟨f,d,a,j,k,c⟩:=h;refine ac.no rfl (ag.mk _ rfl ⟨some j,by rw [aF c.blk];rfl,?_⟩);have b:=eL oD ou Py c.map id;rw [vu]at b;have e:((((bV s T).idxOf? id).map fun i:Nat=>Value.int .i64 (i:Int)).getD (.int .i64 0))= .int .i64 (((mT s T id).getD 0:Nat):Int):=by
  show _=Value.int .i64 ((((bV s T).idxOf? id).getD 0:Nat):Int);cases(bV s T).idxOf? id<;>rfl
 rw [e,Option.isSome_map]at b;exact⟨_,_,w,b,rfl,rfl⟩
theorem jd (w:World) (g:Nat) (s:am) (T:List aX) (h:il w g s T) (hn:(bV s T).length≤1032) (id:Int):
  CP 68 #[.pointer (some ⟨g,0,none⟩),.int .i64 id] w fun e w'=>e= .returned (.bool (IA s T id))∧w'=w:=by
 refine aV (EM (some ⟨g,0,none⟩) id w) ?_;refine(fK w g s T h id).mono ?_;rintro e o ⟨rfl,rfl⟩;obtain⟨n,m,a,p,q,k⟩:=h;refine⟨_,_,rfl,ac.mk (fun c=>?_) fun c=>⟨?_,rfl⟩⟩
 ·obtain⟨i,l⟩:=Option.isSome_iff_exists.1 c;obtain⟨d,f,j⟩:=dE l;have b:=bO.of_own p_ k.oal;refine ag.mk _ rfl ⟨a.a,a.n,a.c,by rw [aF k.blk];rfl,?_⟩;rw [l];refine(jl o a.a a.n a.c _ (kb s T) b.r b.n (by omega) i d).mono ?_;rintro e r ⟨rfl,rfl⟩;refine⟨_,rfl,?_,rfl⟩;unfold IA kb;rw [f,j,Bool.true_and]
 ·rw [xN]at c;unfold IA;rw [c,Bool.false_and]
theorem Gv {s:am} {T:List aX} {w:World} {g:Nat} {ids rows alone:Sl} {mb:Nat} {rs:List Sl} (hR:ly w g (bV s T) (kb s T) (df s T) ids rows alone mb rs (bV s T).length) (i:Nat) (hi:i< (bV s T).length):∃(p:Addr) (r:Sl),rows.a=some p∧i<rows.n∧w.cell? (p.add (i*1))=some (.slice r.a r.n r.c)∧bO dj 1 w r (bG (bV s T).length (df s T i)):=by
 have b:=bO.of_own Kt hR.orows;have e:=hR.rl;have a:i<rs.length:=by omega
 obtain⟨p,d,c⟩:=a_ b.r a (v:=rs[i].v) rfl;exact⟨p,rs[i],d,by rw [b.n];exact a,c,bO.of_own p_ (hR.each i _ (XK a))⟩
theorem pn (w:World) (g:Nat) (s:am) (T:List aX) (h:il w g s T) (hn:(bV s T).length≤1032) (a b:Int):
  CP 84 #[.pointer (some ⟨g,0,none⟩),.int .i64 a,.int .i64 b] w fun e w'=>e= .returned (.bool (oR s T a b))∧w'=w:=by
 refine aV (FE (some ⟨g,0,none⟩) a b w) ?_;refine(fK w g s T h a).mono ?_;rintro e E ⟨rfl,rfl⟩;refine⟨_,_,rfl,(fK E g s T h b).mono ?_⟩;rintro e z ⟨rfl,rfl⟩;obtain⟨D,c,l,F,G,v⟩:=h;refine⟨_,_,rfl,ac.mk (fun f=>ac.mk (fun k=>?_) fun k=>⟨?_,rfl⟩) fun f=>⟨?_,rfl⟩⟩
 ·obtain⟨i,x⟩:=Option.isSome_iff_exists.1 f;obtain⟨m,n,o⟩:=dE x;obtain⟨j,y⟩:=Option.isSome_iff_exists.1 k;obtain⟨q,t,u⟩:=dE y;obtain⟨p,r,C,B,A,d⟩:=Gv v i m;rw [x,y];refine ag.mk _ rfl ⟨c.a,c.n,c.c,by rw [aF v.blk];rfl,ag.mk p C ⟨by omega,by show((i:Nat):Int) <_;omega,r.a,r.n,r.c,A,?_⟩⟩;refine(jl z r.a r.n r.c _ (df s T i) d.r d.n (by omega) j q).mono ?_;rintro e z ⟨rfl,rfl⟩;refine⟨_,rfl,?_,rfl⟩;unfold oR df;rw [n,o,t,u,Bool.true_and,Bool.true_and]
 ·rw [xN]at k;unfold oR;rw [k,Bool.and_false,Bool.false_and]
 ·rw [xN]at f;unfold oR;rw [f,Bool.false_and,Bool.false_and]
theorem jZ (w:World) (g:Nat) (s:am) (T:List aX) (h:il w g s T):
  CP 63 #[.pointer (some ⟨g,0,none⟩)] w fun e w'=>e= .returned (.int .i64 (((bV s T).length:Nat):Int))∧w'=w:=by
 refine aV (FJ (some ⟨g,0,none⟩) w) ?_;obtain⟨a,d,b,f,i,c⟩:=h;refine ac.no rfl (ag.mk _ rfl ⟨a.a,a.n,a.c,by rw [aF c.blk];rfl,?_,rfl⟩);rw [(bO.of_own co c.oi).n]
theorem Ks (w:World) (g:Nat) (s:am) (T:List aX) (h:il w g s T) (place:Int):
  CP 65 #[.pointer (some ⟨g,0,none⟩),.int .i64 place] w fun e w'=>e= .returned (if 0≤place∧place< ((bV s T).length:Int)then .tuple #[.int .i64 ((bV s T).getD place.toNat 0),.bool true]else .tuple #[.int .i64 0,.bool false])∧w'=w:=by
 refine aJ (DT (some ⟨g,0,none⟩) place w (fun u w'=>u=(if 0≤place∧place< ((bV s T).length:Int)then .tuple #[.int .i64 ((bV s T).getD place.toNat 0),.bool true]else .tuple #[.int .i64 0,.bool false])∧w'=w) ?_) (by rintro v w' ⟨rfl,h⟩;exact⟨rfl,h⟩);refine ac.mk (fun c=>⟨?_,rfl⟩) fun c=>?_
 ·rw [if_neg (by have:=XQ c;omega)]
 have c:=XX c;refine(jZ w g s T h).mono ?_;rintro e r ⟨rfl,rfl⟩;refine⟨_,rfl,ac.mk (fun d=>⟨?_,rfl⟩) fun d=>?_⟩
 ·rw [if_neg (by have:=XQ d;omega)]
 have d:=XX d;obtain⟨a,l,f,o,q,j⟩:=h;obtain⟨i,rfl⟩:∃i:Nat,place=i:=⟨place.toNat,by omega⟩;have k:i< (bV s T).length:=by omega
 have b:=bO.of_own co j.oi;obtain⟨p,n,m⟩:=a_ b.r k rfl;have:=b.n;refine ag.mk _ rfl ⟨a.a,a.n,a.c,by rw [aF j.blk];rfl,ag.mk p n ⟨by omega,by omega,_,m,?_,rfl⟩⟩;rw [if_pos ⟨by omega,by omega⟩];show _=Value.tuple #[.int .i64 ((bV s T).getD i 0),.bool true];rw [gL k]
theorem AB (w:World) (a:Option Addr) (c:Nat) (xs:List Int) (hr:Rw dj 1 w a xs) (hl:xs.length≤1000000000):
  CP 123 #[.slice a xs.length c] w fun e w'=>∃s:Sl,e= .returned s.v∧s.n=xs.length∧w'.ownsRow w.heap.size iE 1 s.v s.n (xs.flatMap dj)∧ZH w w':=by
 refine aV (zk a xs.length c w) ?_;refine ac.mk (fun b=>?_) fun b=>?_
 ·have k:xs= []:=by
   cases xs with
   |nil=>rfl
   |cons x t=>
    obtain⟨p,i,_⟩:=hr 0 x rfl;rw [i]at b;cases b
  subst k;exact⟨⟨none,0,0⟩,rfl,rfl,cU _ _ _ _,Below.refl _ _⟩
 ·obtain⟨p,rfl⟩:∃p,a=some p:=by
   cases a with
   |none=>cases b
   |some p=>exact⟨p,rfl⟩
  intro l d;obtain⟨A,C,m,f,g,h⟩:=iP (enc:=dj) (sz:=1) (fun _=>rfl) (by decide) (fun x u j=>by rw [List.mem_singleton.1 j];rfl) pv iE E4 wC rfl w ⟨some p,xs.length,c⟩ xs (.inr ⟨p,rfl⟩) hr rfl (by simp only;omega) (by simp only;omega) l d;exact⟨A,xs.length,C,m,f,⟨A,xs.length,C⟩,rfl,rfl,g,h⟩
theorem vH (w:World) (g:Nat) (s:am) (T:List aX) (h:il w g s T) (hn:(bV s T).length≤1032) (id:Int):
  CP 69 #[.pointer (some ⟨g,0,none⟩),.int .i64 id] w fun e w'=>ZH w w'∧((mT s T id=none∧e= .returned (.slice none 0 0))∨∃i l,mT s T id=some i∧e= .returned (Sl.v l)∧w'.ownsRow w.heap.size iE 1 l.v l.n ((bG (bV s T).length (df s T i)).flatMap dj)):=by
 refine aJ (EQ (some ⟨g,0,none⟩) id w (fun u w'=>ZH w w'∧((mT s T id=none∧u= .slice none 0 0)∨∃i l,mT s T id=some i∧u=Sl.v l∧w'.ownsRow w.heap.size iE 1 l.v l.n ((bG (bV s T).length (df s T i)).flatMap dj))) ?_) (by rintro v w' ⟨b,⟨f,rfl⟩ |⟨i,l,f,rfl,q⟩⟩;exact⟨b,.inl ⟨f,rfl⟩⟩;exact⟨b,.inr ⟨i,l,f,rfl,q⟩⟩);refine(fK w g s T h id).mono ?_;rintro e C ⟨rfl,rfl⟩;obtain⟨B,a,d,E,F,m⟩:=h;refine⟨_,_,rfl,ac.mk (fun b=>⟨Below.refl _ _,.inl ⟨?_,rfl⟩⟩) fun b=>?_⟩
 ·cases k:mT s T id with
  |none=>rfl
  |some i=>rw [k]at b;cases b
 ·obtain⟨i,n⟩:=Option.isSome_iff_exists.1 (by simpa using b);obtain⟨j,x,y⟩:=dE n;obtain⟨p,r,k,z,t,c⟩:=Gv m i j;rw [n];refine ag.mk _ rfl ⟨a.a,a.n,a.c,by rw [aF m.blk];rfl,ag.mk p k ⟨by omega,by show((i:Nat):Int) <_;omega,r.a,r.n,r.c,t,?_⟩⟩;rw [c.n];refine(AB C r.a r.c _ c.r (by rw [de];omega)).mono ?_;rintro e G ⟨l,rfl,D,A,o⟩;exact⟨l.a,l.n,l.c,rfl,o,.inr ⟨i,l,rfl,rfl,A⟩⟩
def mU (V:Voc) (ids:List Int):Option Nat→Prop
 |none=>∀(i:Nat) (h:i<ids.length),V.Has ids[i]∧V.Canon (ids.take (i+1))
 |some k=>(∀(i:Nat) (h:i<ids.length),i<k→V.Has ids[i]∧V.Canon (ids.take (i+1)))∧∃h:k<ids.length,¬(V.Has ids[k]∧V.Canon (ids.take (k+1)))
theorem pI {V:Voc} {ids:List Int} (hh:∀t∈ids,V.Has t) {o:Option Nat} (h:mU V ids o):cN V ids o:=by
 cases o with
 |none=>
  rcases Nat.eq_zero_or_pos ids.length with e |e
  ·rw [List.eq_nil_of_length_eq_zero e];rfl
  ·have:=(h (ids.length-1) (by omega)).2;rwa [Nat.sub_add_cancel e,List.take_length]at this
 |some k=>
  obtain⟨b,a,c⟩:=h;refine⟨a,?_,fun e=>c ⟨hh _ (List.getElem_mem a),e⟩⟩;cases k with
  |zero=>rfl
  |succ j=>exact(b j (by omega) (by omega)).2
theorem du {s:am} {T:List aX} (hok:fo T) (t:Int):bY s T t=true↔(ap s T).Has t:=by
 unfold bY;rw [decide_eq_true_eq,fV hok];exact Or.comm
theorem Km (w w1:World) (xs:List Int) (c:Array Value) (hc:c=(xs.map fun n=>Value.int .i64 n).toArray) (hw1:w1=w.alloc (.cells c aT)):Rw an 1 w1 (some (nb w)) xs:=by
 intro j x d;have b:w1.heap[w.heap.size]? =some (.cells c aT (0,0)):=by subst hw1;exact aq _ _
 refine⟨nb w,rfl,(XY.1 b).1,fun k v a=>?_⟩
 match k,a with
 |0,a=>
  cases a;rw [aC,Nat.mul_one,ai _ _ b,hc];simp [d]
theorem yj (w:World) (g:Nat) (s:am) (T:List aX) (h:il w g s T) (hn:(bV s T).length≤1032) (hok:fo T) (hV:(ap s T).Ok) (A:Option Addr) (C:Nat) (ids:List Int) (hr:Rw an 1 w A ids) (hl:ids.length≤10000):
  CP 360 #[.pointer (some ⟨g,0,none⟩),.slice A ids.length C] w fun e w'=>∃o:Option Nat,e= .returned (.tuple #[.int .i64 ((o.getD 0:Nat):Int),.bool o.isSome])∧mU (ap s T) ids o∧w'=w:=by
 refine aV (Aw (some ⟨g,0,none⟩) A ids.length C w) ?_;have B:∀t,IA s T t=true↔(ap s T).Has t∧(ap s T).Canon [t]:=by
  intro t;unfold IA;rw [Bool.and_eq_true,du hok,decide_eq_true_iff]
 have F:∀a b,oR s T a b=true↔((ap s T).Has a∧(ap s T).Has b)∧(ap s T).Canon [a,b]:=by
  intro a b;unfold oR;rw [Bool.and_eq_true,Bool.and_eq_true,du hok,du hok,decide_eq_true_iff]
 intro I Q;have O:=aZ (α:=World) ids.length (fun i q=>(∀(j:Nat) (h:j<ids.length),j<i→(ap s T).Has ids[j]∧(ap s T).Canon (ids.take (j+1)))∧q=w) (fun i q=>∀L K,I [.int .i64 (i:Int),.bool L,.int .i64 K] q) w ⟨fun j _ f=>absurd f (Nat.not_lt_zero j),rfl⟩ ?_ ?_
 ·exact O _ _
 ·rintro i E ih q ⟨c,rfl⟩ L K;obtain⟨p,Z,V⟩:=a_ hr E rfl;refine Q _ _ _ _ (ac.yes (by simp;omega) (ag.mk p Z ⟨by omega,by omega,_,V,?_⟩));refine(jd q g s T h hn _).mono ?_;rintro e P ⟨rfl,rfl⟩;refine⟨_,rfl,ac.mk (fun G=>?_) fun G=>?_⟩
  ·refine⟨some i,rfl,⟨fun j f u=>c j f u,E,fun e=>?_⟩,rfl⟩;have D:∀t∈ids.take (i+1),(ap s T).Has t:=by
    intro t J;obtain⟨j,f,rfl⟩:=List.mem_take_iff_getElem.1 J;by_cases y:j=i
    ·subst y;exact e.1
    ·exact(c j (by omega) (by omega)).1
   have r:ids.take (i+1)=ids.take i++ [ids[i]]:=by rw [List.take_add_one,XK E];rfl
   rw [r]at D e;rw [(B _).2 ⟨e.1,(Voc.canon_append hV D e.2).2⟩]at G;cases G
  ·have z:=(B _).1 (by simpa using G);have r:ids.take (i+1)=ids.take i++ [ids[i]]:=by rw [List.take_add_one,XK E];rfl
   have next:(ap s T).Canon (ids.take (i+1))→Ar .i64 ((i:Int)+1) (fun n=>I [.int .i64 n,.bool L,.int .i64 K] P):=by
    intro Y;refine Ar.nat (i+1) rfl (by omega) (ih P ⟨fun j f u=>?_,rfl⟩ _ _);by_cases y:j=i
    ·subst y;exact⟨z.1,Y⟩
    ·exact c j f (by omega)
   refine ac.mk (fun m=>?_) fun m=>?_
   ·have m:=XQ m;obtain⟨k,rfl⟩:∃k,i=k+1:=⟨i-1,by omega⟩;obtain⟨p2,N,W⟩:=a_ hr (show k<ids.length by omega) rfl;refine Ar.nat k (by omega) (by omega) (ag.mk p2 N ⟨by omega,by omega,_,W,?_⟩);refine(pn P g s T h hn _ _).mono ?_;rintro e w3 ⟨rfl,rfl⟩;have M:=c k (by omega) (by omega);have d:ids.take (k+1)=ids.take k++ [ids[k]]:=by rw [List.take_add_one,XK (by omega)];rfl
    have D:∀t∈ids.take k++ [ids[k]],(ap s T).Has t:=by
     intro t J;rw [←d]at J;obtain⟨j,f,rfl⟩:=List.mem_take_iff_getElem.1 J;exact(c j (by omega) (by omega)).1
    have v:=M.2;rw [d]at v;have S:=Voc.canon_more hV D v z.1;have U:(ap s T).Canon [ids[k],ids[k+1]]↔(ap s T).Canon [ids[k+1]]∧(ap s T).Pair ids[k] ids[k+1]:=Voc.canon_more hV (init:=[]) (l:=ids[k]) (t:=ids[k+1]) (fun x R=>by rw [List.nil_append,List.mem_singleton]at R;rw [R];exact M.1) (Voc.canon_append hV D v).2 z.1;refine⟨_,rfl,ac.mk (fun H=>?_) fun H=>?_⟩
    ·refine⟨some (k+1),rfl,⟨fun j f u=>c j f u,E,fun e=>?_⟩,rfl⟩;have y:=e.2;rw [r,d]at y;rw [(F _ _).2 ⟨⟨M.1,z.1⟩,U.2 (S.1 y)⟩]at H;cases H
    ·have X:=(F _ _).1 (by simpa using H);exact next (by rw [r,d];exact S.2 (U.1 X.2))
   ·have m:=XX m;obtain rfl:i=0:=by omega
    refine next ?_;rw [r,List.take_zero,List.nil_append];exact z.2
 ·rintro q ⟨c,rfl⟩ L K;exact Q _ _ _ _ (ac.no (by simp) ⟨none,rfl,fun j f=>c j f f,rfl⟩)
theorem Kb {w:World} {v:Nat} {y:nI} {s:am} {T:List aX} (h:CV w v y s T):(bV s T).length≤1006∧(((bV s T).length*(bV s T).length:Nat):Int)≤1048576:=by
 have b:=h.now.ok.most;have c:=h.few;have d:=h.ids;have e:T.length≤1000:=b;have a:(bV s T).length≤1006:=by rw [gV];omega
 refine⟨a,?_⟩;have:(bV s T).length*(bV s T).length≤1006*1006:=Nat.mul_le_mul a a;omega
end Go.Proofs.YtijbcdiffjjefaaGreatDoor.Eng
