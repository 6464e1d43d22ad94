/- The reference's table grown by numbers, and what is made of bytes, walked by the engine. -/
import Derived.Test.YtijbcdiffjjefaaGreatDoorZwVd
set_option linter.unusedVariables false
set_option linter.unusedSimpArgs false
set_option maxRecDepth 100000
namespace Go.Proofs.YtijbcdiffjjefaaGreatDoor.Eng
open Go Go.RowKit
theorem Ar.nat {z:Int} {F:Int→Prop} (n:Nat) (hz:z=(n:Int)) (hn:n≤9223372036854775807) (h:F (n:Int)):Ar .i64 z F:=by
 subst hz;exact Ar.ok64 (by omega) (by omega) h
def uY (n:Int):List Value:=[.int .u16 n]
theorem qa {m:Int×Int} {y:aX} {es:List aX} (hy:cq es m= .ok y):∀(ms:List (Int×Int)) (es0:List aX) (i:Nat),cI es0 i ms= .ok es→cI es0 i (ms++ [m])= .ok (es++ [y])
 | [],es0,i,h=>by
  cases h;rw [List.nil_append,cI,hy];rfl
 |q::ms,es0,i,h=>by
  rw [cI]at h;rw [List.cons_append,cI];cases hq:cq es0 q with
  |error n=>rw [hq]at h;cases h
  |ok x=>rw [hq]at h;exact qa hy ms _ _ h
theorem uG {es:List aX} (h:fo es) (y:aX):au (es++ [y])=au es++ [y.2]:=by
 simp [au,List.drop_append_of_le_length h.len]
theorem a_ {α:Type} {enc:α→List Value} {w:World} {a:Option Addr} {xs:List α} (h:Rw enc 1 w a xs) {i:Nat} (hi:i<xs.length) {v:Value} (hv:(enc xs[i])[0]? =some v):∃q,a=some q∧w.cell? (q.add (i*1))=some v:=by
 obtain⟨q,c,_,b⟩:=h i _ (XK hi);have:=b 0 _ hv;rw [aC]at this;exact⟨q,c,this⟩
def qn (es:List aX) (c:Int):Int:=
 if decide (Int.tmod (IntKind.wrap .i64 c) ((es.length+(au es).length:Nat):Int)≥((es.length:Nat):Int))=true
 then IntKind.wrap .i64 (IntKind.wrap .i64 (256+Int.tmod (IntKind.wrap .i64 c) ((es.length+(au es).length:Nat):Int))- ((es.length:Nat):Int))
 else Int.tmod (IntKind.wrap .i64 c) ((es.length+(au es).length:Nat):Int)
def FZ (es:List aX) (a b:Int):List aX:=match cq es (qn es a,qn es b)with
 | .ok y=>es++ [y]
 | .error _=>es
def i_ (l:List Int):Nat→List aX
 |0=>bU
 |i+1=>if 2*i+1<l.length then FZ (i_ l i) (l.getD (2*i) 0) (l.getD (2*i+1) 0)else i_ l i
theorem tc {l:List Int} {i:Nat} (h:l.length≤2*i+1):∀d,i_ l (i+d)=i_ l i
 |0=>rfl
 |d+1=>by rw [←Nat.add_assoc,i_,if_neg (by omega),tc h d]
theorem uM (w:World) (A:Option Addr) (C:Nat) (l:List Int) (hr:Rw uY 1 w A l):CP 103 #[.slice A l.length C] w fun e w'=>∃(x:lK) (es:List aX),e= .returned x.v∧gI w' x es∧fo es∧cI bU 0 (au es)= .ok es∧es=i_ l 30∧ZH w w'∧Wr w' x.m 2 (w.heap.size+1):=by
 refine aJ (AO A l.length C w (fun u w'=>∃(x:lK) (es:List aX),u=x.v∧gI w' x es∧fo es∧cI bU 0 (au es)= .ok es∧es=i_ l 30∧ZH w w'∧Wr w' x.m 2 (w.heap.size+1)) ?_) (by rintro v w' ⟨x,es,rfl,h⟩;exact⟨x,es,rfl,h⟩);intro w1 a7;have hb1:ZH w w1:=by subst a7;exact ah _ _
 have z1:w1.heap[w.heap.size]? =some (.cells #[(⟨none,0,0⟩:Sl).v,(⟨none,0,0⟩:Sl).v] wY (0,0)):=by subst a7;exact aq _ _
 refine(mQ w1).mono ?_;rintro e w2 ⟨x0,rfl,h2,b2,_⟩;have z2:=aj b2 z1;have hlt2:w.heap.size<w2.heap.size:=(XY.1 z2).1;refine⟨_,_,_,_,_,_,rfl,?_⟩;intro w3 hw3;refine bg [.slice none 0 0,.slice none 0 0] [x0.b.v,x0.m.v] rfl (bX _ _) w3 hw3 ?_;intro w4 h4 hz4 b4;have Z:ZH w w4:=ae hb1 (ae b2 b4);intro I hI;let Inv (i:Nat) (q:World):Prop:=∃(x:lK) (es:List aX),q.heap[w2.heap.size]? =some (.cells #[x.b.v,x.m.v] wY (0,0))∧q.heap[w.heap.size]? =some (.cells #[(⟨none,0,0⟩:Sl).v,(⟨none,0,0⟩:Sl).v] wY (0,0))∧gI q x es∧fo es∧cI bU 0 (au es)= .ok es∧es=i_ l i∧ZH w q∧Wr q x.m 2 (w.heap.size+1);have O:∀(i:Nat) (q:World),i_ l 30=i_ l i→Inv i q→∃g0A:Option Addr,∃g0N:Nat,∃g0C:Nat,∃g1A:Option Addr,∃g1N:Nat,∃g1C:Nat,(q.cell? (nb w2)=some (Value.slice g0A g0N g0C)∧q.cell? ((nb w2).add 1)=some (Value.slice g1A g1N g1C)∧True)∧
   aI q (nb w) (fun r=>∃res0A:Option Addr,∃res0N:Nat,∃res0C:Nat,∃res1A:Option Addr,∃res1N:Nat,∃res1C:Nat,(r.cell? (nb w)=some (Value.slice res0A res0N res0C)∧r.cell? ((nb w).add 1)=some (Value.slice res1A res1N res1C)∧True)∧
    (∃(x:lK) (es:List aX),Value.agg #[Value.slice res0A res0N res0C,Value.slice res1A res1N res1C]=x.v∧gI r x es∧fo es∧cI bU 0 (au es)= .ok es∧es=i_ l 30∧ZH w r∧Wr r x.m 2 (w.heap.size+1))) [Value.slice g0A g0N g0C,Value.slice g1A g1N g1C] 0:=by
  rintro i q hst ⟨x,es,hq2,a5,E,f,o,Q,hB,hW⟩;refine⟨_,_,_,_,_,_,gj hq2,?_⟩;refine bo a5 [x.b.v,x.m.v] rfl (bX _ _) ?_;intro r h5 a6 hz5 B;exact⟨_,_,_,_,_,_,gj h5,x,es,rfl,E.past a5 (fun j _ R=>a6 j R) (Nat.le_of_eq hz5.symm),f,o,Q.trans hst.symm,B _ _ (XV _) hB,hW.off (Nat.lt_succ_self _) fun j R=>a6 j R⟩
 have key:=aZ (α:=World) 30 Inv (fun i q=>I [.int .i64 ((2*i:Nat):Int)] q) w4 ⟨x0,bU,h4,aj b4 z2,h2.on b4,pE,rfl,rfl,Z,.inl h2.n2⟩ ?_ ?_
 ·exact key
 ·rintro i hi ih r k;refine hI _ _ (Ar.nat (2*i+1) (by omega) (by omega) (ac.mk (fun L=>?_) fun L=>O i r (by have:=XX L;have e:=tc (l:=l) (i:=i) (by omega) (30-i);rwa [show i+(30-i)=30 by omega]at e) k));have L:2*i+1<l.length:=by have:=XQ L;omega
  refine ac.yes (by simp;omega) ?_;intro J hJ M hw7;obtain⟨x,es,h5,z5,hx5,f,o,Q,B,hW5⟩:=k;have z:i_ l (i+1)=FZ es l[2*i] l[2*i+1]:=by rw [i_,if_pos L, ←Q];simp [List.getD,L,show 2*i<l.length by omega]
  have W:∀q,Inv (i+1) q→J [] q:=fun q hq=>hJ q (Ar.nat (2*(i+1)) (by omega) (by omega) (ih q hq));have U:ZH r M:=by subst hw7;exact aU r
  have s:=aj U h5;have z7:=aj U z5;have F:=hx5.on U;have D:ZH w M:=B.trans (U.mono B.size);have a0:w2.heap.size<M.heap.size:=(XY.1 s).1;obtain⟨q,hq,c0⟩:=a_ (hr.on D) (i:=2*i) (by omega) rfl;obtain⟨q',hq',c1⟩:=a_ (hr.on D) (i:=2*i+1) (by omega) rfl;have a1:=F.n1;have a2:=F.n2;have hmost:=f.most;have hlen:=f.len;have hml:=cE f;have d:∀ {c:Int},decide (Int.tmod (IntKind.wrap .i64 c) ((x.b.n+x.m.n:Nat):Int)≥((x.b.n:Nat):Int))=true→IntKind.wrap .i64 (IntKind.wrap .i64 (256+Int.tmod (IntKind.wrap .i64 c) ((x.b.n+x.m.n:Nat):Int))- ((x.b.n:Nat):Int))=qn es c:=by
   intro c p;rw [a1,a2]at p⊢;rw [qn,if_pos p]
  have m:∀ {c:Int},decide (Int.tmod (IntKind.wrap .i64 c) ((x.b.n+x.m.n:Nat):Int)≥((x.b.n:Nat):Int))=false→Int.tmod (IntKind.wrap .i64 c) ((x.b.n+x.m.n:Nat):Int)=qn es c:=by
   intro c p;rw [a1,a2]at p⊢;rw [qn,if_neg (by rw [p];exact Bool.false_ne_true)]
  refine ag.mk q hq ⟨by omega,by omega,_,c0,_,_,_,ai _ _ s 0,_,_,_,ai _ _ s 1,Ar.nat (x.b.n+x.m.n) (by omega) (by omega) ⟨by omega,Ar.nat (2*i+1) (by omega) (by omega) (ag.mk q' hq' ⟨by omega,by omega,_,c1,_,_,_,ai _ _ s 0,_,_,_,ai _ _ s 1,Ar.nat (x.b.n+x.m.n) (by omega) (by omega) ⟨by omega,?_⟩⟩)⟩⟩;intro J22 X;have T:∀a:Int,a=qn es l[2*i]→J22 [.int .i64 a] M:=by
   intro a a3;refine X a M ?_;intro J23 Y;have G:∀b:Int,b=qn es l[2*i+1]→J23 [.int .i64 b] M:=by
    intro b a4;refine Y b M ⟨_,_,_,_,_,_,gj s,?_⟩;refine(oP M x es F f (a,b)).mono ?_;rintro e w10 ⟨u,rfl,S,n,rfl,b10,hp⟩;refine⟨_,_,_,_,_,_,n,rfl,?_⟩;intro w11 a8;refine bg [.slice none 0 0,.slice none 0 0] [S.b.v,S.m.v] rfl (bX _ _) w11 a8 ?_;intro aa h12 hz12 N;have g:=ae b10 N;have P:=aj g s;have z2':=aj g z7;have H:ZH w aa:=D.trans (g.mono D.size);cases E:cq es (a,b)with
    |error n0=>
     rw [E]at hp;obtain⟨rfl,rfl⟩:=hp;refine ac.no (by simpa using gB E) (W aa ⟨S,es,P,z2',F.on g,f,o,by rw [z,FZ, ←a3, ←a4,E],H,(hW5.on U).on g⟩)
    |ok y=>
     rw [E]at hp;obtain⟨rfl,hx',_,hW'⟩:=hp;refine ac.yes rfl ⟨_,_,_,_,_,_,gj h12,?_⟩;refine bo P [S.b.v,S.m.v] rfl (bX _ _) ?_;intro w13 h13 t a9 V;have K:=lW f E;refine W w13 ⟨S,es++ [y],h13,?_,(hx'.on N).past P (fun j _ R=>t j R) (Nat.le_of_eq a9.symm),K.1,?_,by rw [z,FZ, ←a3, ←a4,E],V _ _ (by omega) H,((hW'.on N).off a0 fun j R=>t j R).base (by omega)⟩
     ·rw [t _ (by omega)];exact z2'
     ·rw [uG f,K.2.1];exact qa E _ _ _ o
   exact⟨_,_,_,ai _ _ s 0,ac.mk (fun p=>⟨_,_,_,ai _ _ s 0,G _ (d p)⟩) fun p=>G _ (m p)⟩
  exact⟨_,_,_,ai _ _ s 0,ac.mk (fun p=>⟨_,_,_,ai _ _ s 0,T _ (d p)⟩) fun p=>T _ (m p)⟩
 ·rintro r k;refine hI _ _ (Ar.nat (2*30+1) (by omega) (by omega) (ac.mk (fun L=>?_) fun L=>O 30 r rfl k));exact ac.no (by simp) (O 30 r rfl k)
structure bO {α:Type} (enc:α→List Value) (sz:Nat) (w:World) (l:Sl) (xs:List α):Prop where
 n:l.n=xs.length
 r:Rw enc sz w l.a xs
 k:lU l
structure Du {α:Type} (enc:α→List Value) (sz:Nat) (t e:TypeId) (bytes:Nat):Prop where
 hsz:∀x,(enc x).length=sz
 h0:0<sz
 h1:∀x,∀u∈enc x,u.oneCell'=true
 ht:Tryz.prog.underlying t=some (.slice e)
 hz:∃z:Value,(Tryz.prog.info? e).map (fun i=>(i.zero,i.size,i.bytes))=some (some z,sz,bytes)∧z.cells.size=sz
theorem co:Du an 1 bQ aT 8:=⟨fun _=>rfl,by decide,fun x u hu=>by rw [List.mem_singleton.1 hu];rfl,ov,_,rt,rfl⟩
theorem As:Du cz 1 eH dN 16:=⟨fun _=>rfl,by decide,fun x u hu=>by rw [List.mem_singleton.1 hu];rfl,jc,_,jk,rfl⟩
theorem bO.of_own {α:Type} {enc:α→List Value} {sz bytes:Nat} {t e:TypeId} (E:Du enc sz t e bytes) {w:World} {B:Nat} {l:Sl} {xs:List α} (h:w.ownsRow B e sz l.v l.n (xs.flatMap enc)):bO enc sz w l xs:=
 have:=Rw.of_own h E.hsz E.h0
 ⟨this.2,this.1,lD h⟩
theorem Du.push {α:Type} {enc:α→List Value} {sz bytes:Nat} {t e:TypeId} (E:Du enc sz t e bytes) {B:Nat} {w2 w3:World} {s:Sl} {xs:List α} (hown:w2.ownsRow B e sz s.v s.n (xs.flatMap enc)) (x:α) {T:TypeId} {c:Array Value} (hw:w3=w2.alloc (.cells c T)) (hc:c=(enc x).toArray) (hB:B≤w2.heap.size) (hn:s.n≤1000000000) (hb:bytes≤1000):
  ∃(l:Sl) (w4:World),l.n=s.n+1∧(Builtin.append_ #[t,t] t #[.slice s.a s.n s.c,.slice (some (nb w2)) 1 1]).run Tryz.prog w3= .ok (.slice l.a l.n l.c) w4∧w4.ownsRow B e sz l.v l.n ((xs++ [x]).flatMap enc)∧(∀w0,Below B w0 w2→Below B w0 w4)∧(∀k,k<w2.heap.size→s.v.ownBlock≠some k→w4.heap[k]? =w2.heap[k]?):=by
 obtain⟨z,o,d⟩:=E.hz;subst hw hc;have a:=ah w2 (.cells (enc x).toArray T);have g:(s.n+1)*bytes≤(1000000000+1)*1000:=Nat.mul_le_mul (by omega) hb;obtain⟨A,C,w4,i,j,m,n⟩:=oJ (enc:=enc) (sz:=sz) E.hsz E.h0 E.h1 t e E.ht o d (aE hown a) x (aq w2 _) (XW hB a.size) (by omega) (by omega);refine⟨⟨A,s.n+1,C⟩,w4,rfl,i,j,fun w0 h=>m w0 (h.trans (a.mono hB)),fun k f b=>?_⟩;rw [n k (Nat.lt_of_lt_of_le f a.size) b,a.block k f]
theorem Du.spread {α:Type} {enc:α→List Value} {sz bytes:Nat} {t e:TypeId} (E:Du enc sz t e bytes) {B:Nat} {w2:World} {s l:Sl} {xs ys:List α} (hown:w2.ownsRow B e sz s.v s.n (xs.flatMap enc)) (hl:bO enc sz w2 l ys) (hB:B≤w2.heap.size) (hn:s.n≤1000000000) (hm:l.n≤1000000000) (hb:bytes≤1000):
  ∃(r:Sl) (w4:World),r.n=s.n+l.n∧(Builtin.append_ #[t,t] t #[.slice s.a s.n s.c,.slice l.a l.n l.c]).run Tryz.prog w2= .ok (.slice r.a r.n r.c) w4∧w4.ownsRow B e sz r.v r.n ((xs++ys).flatMap enc)∧(∀w0,Below B w0 w2→Below B w0 w4)∧(∀k,k<w2.heap.size→s.v.ownBlock≠some k→w4.heap[k]? =w2.heap[k]?)∧∀k,r.v.ownBlock=some k→s.v.ownBlock=some k∨w2.heap.size≤k:=by
 obtain⟨z,o,b⟩:=E.hz;have c:(s.n+l.n)*bytes≤(1000000000+1000000000)*1000:=Nat.mul_le_mul (by omega) hb;have d:=hl.r;obtain⟨A,C,w4,f,g,h,i,m⟩:=qc (P:=Tryz.prog) t e E.ht o b E.h0 hown l hl.k (ys.flatMap enc) (by rw [cA E.hsz,hl.n]) (by
  intro a n j u p;rw [n]at d;exact d.flat E.hsz E.h0 j u p) (by
  intro u q;obtain⟨x,_,v⟩:=List.mem_flatMap.1 q;exact E.h1 x u v) (by omega) (by omega) hB
 exact⟨⟨A,s.n+l.n,C⟩,w4,rfl,f,by rw [List.flatMap_append];exact g,h,i,m⟩
theorem bE (w:World) (B:Nat) (e:TypeId) (sz:Nat) {α:Type} (enc:α→List Value):w.ownsRow B e sz cW.v cW.n (([]:List α).flatMap enc):=cU w B e sz
theorem N4 {α:Type} (n:Nat) (Inv G:Nat→α→Prop) (step:∀i,i≤n→(∀j,i<j→j≤n→∀x,Inv j x→G j x)→∀x,Inv i x→G i x):∀i,i≤n→∀x,Inv i x→G i x:=by
 have c:∀d i,n-i≤d→i≤n→∀x,Inv i x→G i x:=by
  intro d;induction d with
  |zero=>
   intro i g a x b;exact step i a (fun j f e=>by omega) x b
  |succ d ih=>
   intro i g a x b;exact step i a (fun j f e y h=>ih j (by omega) e y h) x b
 exact fun i a x b=>c (n-i) i (XV _) a x b
theorem Ku (a b c:Int) (l:List Int):(cB a b c l).length≤l.length:=by
 induction l using cB.induct a b with
 |case1=>simp [cB]
 |case2 x=>simp [cB]
 |case3 x y r hx ih=>
  obtain⟨rfl,rfl⟩:=hx;rw [cm];simp only [List.length_cons];omega
 |case4 x y r hx ih=>
  rw [cu r hx];simp only [List.length_cons]at ih⊢;omega
theorem iw (ms:List (Int×Int)) (s:List Int):∀k,k≤ms.length→(after ms k s).length≤s.length
 |0,_=>by rw [cZ];exact XV _
 |k+1,h=>by
  rw [cw ms (XK (show k<ms.length by omega))];exact XW (Ku _ _ _ _) (iw ms s k (by omega))
theorem u_ (b:UInt8):IntKind.wrap .i64 ((b.toNat:Nat):Int)=((b.toNat:Nat):Int):=by
 have:=b.toNat_lt;exact cL (by show(-9223372036854775808:Int)≤_;omega) (by show _≤(9223372036854775807:Int);omega)
theorem mu (s:Bs) (i:Nat) (hi:i<s.length):bf (s.take (i+1))=bf (s.take i)++ [((s[i].toNat:Nat):Int)]:=HB (fun z:UInt8=>((z.toNat:Nat):Int)) s i hi
theorem rH (w:World) (x:lK) (es:List aX) (h:gI w x es) (hok:fo es) (s:Bs) (hs:s.length≤1000000) (N:Nat) (hN:N=es.length):CP 166 #[x.v,.string (str s),.int .i64 (N:Int)] w fun e w'=>∃l:Sl,e= .returned l.v∧bO an 1 w' l (after (au es) (au es).length (bf s))∧ZH w w':=by
 subst hN;refine aV (Cw x.b.a x.b.n x.b.c x.m.a x.m.n x.m.c (str s) (es.length:Int) w) ?_;intro B a3;have Y:ZH w B:=by subst a3;exact ah _ _
 have l1:B.heap[w.heap.size]? =some (.cells #[x.b.v,x.m.v] wY (0,0)):=by subst a3;exact aq _ _
 have hmost:=hok.most;have hml:=cE hok;have hn2:=h.n2;intro I1 W;have key:=aZ (α:=Sl×World) s.length (fun i y=>y.2.ownsRow B.heap.size aT 1 y.1.v y.1.n ((bf (s.take i)).flatMap an)∧y.1.n=i∧ZH B y.2) (fun i y=>I1 [.int .i64 (i:Int),y.1.v] y.2) (cW,B) ⟨bE _ _ _ _ an,rfl,Below.refl _ _⟩ ?_ ?_
 ·exact key
 ·rintro i hi ih ⟨l,q⟩ ⟨b,G,j⟩;change q.ownsRow B.heap.size aT 1 l.v l.n _ at b;change l.n=i at G;change ZH B q at j;refine W _ _ _ _ _ (ac.yes (by rw [aP];simp;omega) ⟨by omega,by rw [aP];omega,?_⟩);intro w3 a4;rw [dB s i hi,u_]at a4;obtain⟨E,w4,hl',g,n,R,_⟩:=co.push b ((s[i].toNat:Nat):Int) a4 rfl j.size (by omega) (by decide);refine⟨E.a,E.n,E.c,w4,g,Ar.nat (i+1) rfl (by omega) (ih (E,w4) ⟨?_,by show E.n=i+1;omega,R _ j⟩)⟩;rw [mu s i hi];exact n
 ·rintro⟨l,q⟩ ⟨b,G,j⟩;change q.ownsRow B.heap.size aT 1 l.v l.n _ at b;change l.n=s.length at G;change ZH B q at j;refine W _ _ _ _ _ (ac.no (by rw [aP];simp) ?_);intro I5 X;have hls:bO an 1 q l (after (au es) 0 (bf s)):=by
   rw [cZ];have:=bO.of_own co b;rwa [List.take_length]at this
  have a5:=aZ (α:=Sl×World) (au es).length (fun k y=>bO an 1 y.2 y.1 (after (au es) k (bf s))∧ZH B y.2) (fun k y=>I5 [.int .i64 (k:Int),y.1.v] y.2) (l,q) ⟨hls,j⟩ ?_ ?_
  ·exact a5
  ·rintro k hk T ⟨l,q⟩ ⟨M,j⟩;change bO an 1 q l _ at M;change ZH B q at j;have a7:=aj j l1;have hq:=(h.on Y).on j;refine X _ l.a l.n l.c q ⟨_,_,_,ai _ _ a7 1,ac.yes (by simp;omega) (Ar.nat (256+k) (by omega) (by omega) (ac.yes (by simp;omega) ?_))⟩;intro I13 K;obtain⟨m,hm⟩:∃m,(au es)[k]? =some m:=⟨_,XK hk⟩;have a0:=iw (au es) (bf s) k (by omega);have hints:(bf s).length=s.length:=by simp [bf]
   rw [cw (au es) hm]at T;generalize after (au es) k (bf s)=L at M a0 T;have G:=M.n;let Inv (i:Nat) (y:Sl×World):Prop:=∃o:List Int,y.2.ownsRow q.heap.size aT 1 y.1.v y.1.n (o.flatMap an)∧cB m.1 m.2 (256+(k:Int)) L=o++cB m.1 m.2 (256+(k:Int)) (L.drop i)∧y.1.n≤i∧ZH q y.2;have U:=N4 (α:=Sl×World) L.length Inv (fun i y=>I13 [.int .i64 (i:Int),y.1.v] y.2) ?_ 0 (Nat.zero_le _) (cW,q) ⟨[],bE _ _ _ _ an,by simp,XV _,Below.refl _ _⟩
   ·exact U
   rintro i hi ih ⟨a,v⟩ ⟨o,b,r,hon,d⟩;change v.ownsRow q.heap.size aT 1 a.v a.n _ at b;change a.n≤i at hon;change ZH q v at d;have hBw:ZH B v:=ae j d;by_cases f:i<L.length
   ·refine K _ a.a a.n a.c v (ac.yes (by simp;omega) ?_);intro J hJ v8 a2;have V:ZH v v8:=by subst a2;exact aU v
    have S:v8.ownsRow q.heap.size aT 1 a.v a.n (o.flatMap an):=by subst a2;exact eA b
    have I:ZH q v8:=d.trans (V.mono d.size);have a6:=aj V (aj d a7);have hq8:=(hq.on d).on V;obtain⟨p,hp,c0⟩:=a_ ((M.r.on d).on V) f rfl;obtain⟨pm,a1,_,Z⟩:=hq8.r2 k m hm;have cm0:=Z 0 _ rfl;have cm1:=Z 1 _ rfl;have t:∀(z:Int) (F:World),F=v8.alloc (.cells #[Value.int .i64 z] aT)→∀(O:Nat) (jj:Int),jj=(O:Int)→i≤O→O<L.length→cB m.1 m.2 (256+(k:Int)) (L.drop i)=z::cB m.1 m.2 (256+(k:Int)) (L.drop (O+1))→
      ∃A:Option Addr,∃N:Nat,∃C:Nat,∃H:World,(Builtin.append_ #[bQ,bQ] bQ #[Value.slice a.a a.n a.c,Value.slice (some (nb v8)) 1 1]).run Tryz.prog F= .ok (Value.slice A N C) H∧J [.int .i64 jj,.slice A N C] H:=by
     intro z F c O jj hjj hii hi' hz;obtain⟨E,w4,hl',g,n,R,_⟩:=co.push S z c rfl I.size (by omega) (by decide);refine⟨E.a,E.n,E.c,w4,g,hJ _ _ _ _ _ ?_⟩;subst hjj;refine Ar.nat (O+1) rfl (by omega) (ih (O+1) (by omega) (by omega) (E,w4) ⟨o++ [z],n,?_,by show E.n≤O+1;omega,R _ I⟩);rw [r,hz];simp
    have D:¬(L[i]=m.1∧L[i+1]? =some m.2)→cB m.1 m.2 (256+(k:Int)) (L.drop i)=L[i]::cB m.1 m.2 (256+(k:Int)) (L.drop (i+1)):=by
     intro hno;rw [List.drop_eq_getElem_cons f];by_cases u:i+1<L.length
     ·rw [List.drop_eq_getElem_cons u];exact cu _ fun e=>hno ⟨e.1,by rw [XK u,e.2]⟩
     ·rw [List.drop_eq_nil_of_le (by omega)];rfl
    refine Ar.nat (i+1) rfl (by omega) (ac.mk (fun u=>?_) fun u=>?_)
    ·have u:i+1<L.length:=by have:=XQ u;omega
     obtain⟨p',hp',c1⟩:=a_ ((M.r.on d).on V) u rfl;refine ag.mk p hp ⟨by omega,by omega,_,c0,_,_,_,ai _ _ a6 1,ag.mk pm a1 ⟨by omega,by omega,_,cm0,ac.mk (fun P=>?_) fun P=>?_⟩⟩
     ·have P:L[i]=m.1:=by simpa using P
      refine Ar.nat (i+1) rfl (by omega) (ag.mk p' hp' ⟨by omega,by omega,_,c1,_,_,_,ai _ _ a6 1,ag.mk pm a1 ⟨by omega,by omega,_,cm1,ac.mk (fun Q=>?_) fun Q=>?_⟩⟩)
      ·have Q:L[i+1]=m.2:=by simpa using Q
       refine Ar.nat (256+k) (by omega) (by omega) ?_;intro F c;obtain⟨A,N,C,H,g,hj⟩:=t ((256+k:Nat):Int) F c (i+1) ((i:Int)+1) (by omega) (by omega) u (by
        rw [List.drop_eq_getElem_cons f,List.drop_eq_getElem_cons u,P,Q,cm];rfl)
       exact⟨A,N,C,H,g,Ar.ok64 (by omega) (by omega) hj⟩
      ·have Q:¬L[i+1]=m.2:=by simpa using Q
       refine ag.mk p hp ⟨by omega,by omega,_,c0,?_⟩;intro F c;exact t L[i] F c i _ rfl (XV _) f (D fun e=>Q (by have:=e.2;rw [XK u]at this;exact Option.some.inj this))
     ·have P:¬L[i]=m.1:=by simpa using P
      refine ag.mk p hp ⟨by omega,by omega,_,c0,?_⟩;intro F c;exact t L[i] F c i _ rfl (XV _) f (D fun e=>P e.1)
    ·have u:¬i+1<L.length:=by have:=XX u;omega
     refine ag.mk p hp ⟨by omega,by omega,_,c0,?_⟩;intro F c;exact t L[i] F c i _ rfl (XV _) f (D fun e=>u (List.getElem?_eq_some_iff.1 e.2).1)
   ·have f:i=L.length:=by omega
    refine K _ a.a a.n a.c v (ac.no (by simp;omega) (Ar.nat (k+1) rfl (by omega) (T (a,v) ⟨?_,hBw⟩)));rw [f,List.drop_length]at r;have:cB m.1 m.2 (256+(k:Int)) L=o:=by rw [r];simp [cB]
    rw [this];exact bO.of_own co b
  ·rintro⟨l,q⟩ ⟨M,j⟩;change bO an 1 q l _ at M;change ZH B q at j;refine X _ _ _ _ _ ⟨_,_,_,ai _ _ (aj j l1) 1,ac.no (by simp;omega) ⟨l,rfl,M,ae Y j⟩⟩
theorem CX (w:World) (x:lK) (es:List aX) (h:gI w x es) (hok:fo es) (s:Bs) (hs:s.length≤1000000):CP 109 #[x.v,.string (str s)] w fun e w'=>∃l:Sl,e= .returned l.v∧bO an 1 w' l (after (au es) (au es).length (bf s))∧ZH w w':=by
 refine aV (yR x.b.a x.b.n x.b.c x.m.a x.m.n x.m.c (str s) w) ?_;intro d b;have a:ZH w d:=by subst b;exact ah _ _
 have f:d.heap[w.heap.size]? =some (.cells #[x.b.v,x.m.v] wY (0,0)):=by subst b;exact aq _ _
 refine⟨_,_,_,_,_,_,gj f,_,_,_,ai _ _ f 0,?_⟩;refine(rH d x es (h.on a) hok s hs x.b.n h.n1).mono ?_;rintro e i ⟨l,rfl,g,c⟩;exact⟨_,_,_,rfl,l,rfl,g,ae a c⟩
theorem wj (w:World) (x:bk) (s:am) (h:cY w x s) (hr:s.ranked=false) (hl:s.merges.length≤1000000):CP 97 #[x.v] w fun e w'=>∃u,e= .returned u∧Ca w s.merges u w':=by
 refine Fx x.ranked x.s1.a x.s1.n x.s1.c x.s2.a x.s2.n x.s2.c x.s3.a x.s3.n x.s3.c x.s4.a x.s4.n x.s4.c x.s5.a x.s5.n x.s5.c w (Ca w s.merges) ?_;intro l g m i;have f:ZH w l:=by subst g;exact ah _ _
 have A:ZH l m:=by subst i;exact ah _ _
 have d:=ae f A;have H:l.heap[w.heap.size]? =some (.cells x.cells dp (0,0)):=by subst g;exact aq _ _
 have D:=aj A H;have G:m.heap[l.heap.size]? =some (.cells #[cW.v,cW.v] wY (0,0)):=by subst i;exact aq _ _
 refine⟨_,ai _ _ D 0,ac.no (by rw [h.ranked,hr]) ⟨_,_,_,ai _ _ D 1,?_⟩⟩;have r:=h.n1;obtain⟨⟨a,n,c⟩,k⟩:∃y:Sl,y=x.s1:=⟨_,rfl⟩;rw [←k]at r⊢;change n=s.merges.length at r;subst r;have t:Rw be 2 m a s.merges:=by have:=(h.on d).r1;rw [←k]at this;exact this
 refine(zw m a c s.merges t hl).mono ?_;rintro e I ⟨u,rfl,y,n,e,rfl,B,b⟩;refine⟨_,_,_,_,_,_,n,e,rfl,?_⟩;have C:=aj B G;refine bo C [y.b.v,y.m.v] rfl (bX _ _) ?_;intro J E v z o;have p:=ae d B;refine⟨_,_,_,_,_,_,gj E,y,n,e,rfl,o _ _ f.size p,?_⟩;cases k:cI bU 0 s.merges with
 |error q=>rw [k]at b;exact b
 |ok es=>rw [k]at b;exact⟨b.1,b.2.1,b.2.2.1.past C (fun j _ F=>v j F) (Nat.le_of_eq z.symm),b.2.2.2.1,b.2.2.2.2.mono d.size⟩
structure pL (w:World) (x:lK) (cls:List (Int×Int×Int)) (js:List (Int×Int)):Prop where
 n1:x.b.n=cls.length
 r1:Rw bS 3 w x.b.a cls
 n2:x.m.n=js.length
 r2:Rw be 2 w x.m.a js
theorem pL.on {w w':World} {x:lK} {cls:List (Int×Int×Int)} {js:List (Int×Int)} (h:pL w x cls js) (hb:ZH w w'):pL w' x cls js:=⟨h.n1,h.r1.on hb,h.n2,h.r2.on hb⟩
abbrev Sy:TypeId:=37
theorem mL (w:World) (x:lK) (cls:List (Int×Int×Int)) (js:List (Int×Int)) (h:pL w x cls js) (hl:cls.length≤1000000) (b:Int) (hb:0≤b∧b<256):CP 167 #[x.v,.int .u8 b] w fun e w'=>e= .returned (.int .i64 (cJ cls b))∧ZH w w':=by
 refine aV (xU x.b.a x.b.n x.b.c x.m.a x.m.n x.m.c b w) ?_;intro l i;have f:ZH w l:=by subst i;exact ah _ _
 have k:l.heap[w.heap.size]? =some (.cells #[x.b.v,x.m.v] Sy (0,0)):=by subst i;exact aq _ _
 have A:=h.n1;have r:IntKind.wrap .i64 b=b:=cL (by show(-9223372036854775808:Int)≤_;omega) (by show _≤(9223372036854775807:Int);omega);refine⟨_,_,_,ai _ _ k 0,Ar.ok64 (by omega) (by omega) ?_⟩;intro I t;have s:=aZ (α:=Int) cls.length (fun j _=>cJ (cls.take (cls.length-j)) b=cJ cls b) (fun j y=>I [.int .i64 ((x.b.n:Int)-1- (j:Int)),.int .i64 y] l) 0 (by simp) ?_ ?_
 ·rw [show(x.b.n:Int)-1=(x.b.n:Int)-1- ((0:Nat):Int) by omega];exact s
 ·rintro j z v y a;have u:cls.length-1-j<cls.length:=by omega
  obtain⟨q,p,_,m⟩:=(h.r1.on f) (cls.length-1-j) _ (XK u);have g:cls.take (cls.length-j)=cls.take (cls.length- (j+1))++ [cls[cls.length-1-j]]:=by
   rw [show cls.length-j=cls.length-1-j+1 by omega,show cls.length- (j+1)=cls.length-1-j by omega,List.take_add_one,XK u];rfl
  rw [g,sV]at a;have e:(x.b.n:Int)-1- (j:Int)=((cls.length-1-j:Nat):Int):=by omega
  have next:cJ (cls.take (cls.length- (j+1))) b=cJ cls b→Ar .i64 (((cls.length-1-j:Nat):Int)-1) (fun n=>I [.int .i64 n,.int .i64 y] l):=by
   intro o;have:=v y o;rw [show(x.b.n:Int)-1- ((j+1:Nat):Int)=((cls.length-1-j:Nat):Int)-1 by omega]at this;exact Ar.ok64 (by omega) (by omega) this
  rw [e];refine t _ _ _ (ac.yes (by simp) ⟨_,_,_,ai _ _ k 0,ag.mk q p ⟨by omega,by omega,_,m 0 _ rfl,?_⟩⟩);rw [r];refine ac.mk (fun c=>⟨_,_,_,ai _ _ k 0,ag.mk q p ⟨by omega,by omega,_,m 1 _ rfl,ac.mk (fun d=>⟨_,_,_,ai _ _ k 0,ag.mk q p ⟨by omega,by omega,_,m 2 _ rfl,?_,f⟩⟩) fun d=>next ?_⟩⟩) fun c=>next ?_
  ·have c:=XQ c;have d:=XQ d;rw [if_pos ⟨c,d⟩]at a;rw [←a]
  ·have d:=XX d;rwa [if_neg fun e=>d e.2]at a
  ·have c:=XX c;rwa [if_neg fun e=>c e.1]at a
 ·rintro y a;refine t _ _ _ (ac.no (by simp;omega) ⟨?_,f⟩);rw [Nat.sub_self,List.take_zero]at a;rw [←a];rfl
theorem xL (w:World) (x:lK) (cls:List (Int×Int×Int)) (js:List (Int×Int)) (h:pL w x cls js) (hl:cls.length≤1000000) (hj:js.length≤1000000) (a b:Int) (ha:0≤a∧a<256) (hb:0≤b∧b<256):CP 110 #[x.v,.int .u8 a,.int .u8 b] w fun e w'=>e= .returned (.bool (cutB cls js a b))∧ZH w w':=by
 refine aV (zr x.b.a x.b.n x.b.c x.m.a x.m.n x.m.c a b w) ?_;intro r m G z;have t:ZH w r:=by subst m;exact ah _ _
 have B:ZH r G:=by subst z;exact aU r
 have k:=ae t B;have K:r.heap[w.heap.size]? =some (.cells #[x.b.v,x.m.v] Sy (0,0)):=by subst m;exact aq _ _
 have o:=aj B K;have M:=h.n2;refine⟨_,_,_,_,_,_,gj o,_,_,_,_,_,_,gj o,?_⟩;refine(mL G x cls js (h.on k) hl a ha).mono ?_;rintro e L ⟨rfl,s⟩;refine⟨_,rfl,gj (aj s o),?_⟩;have l:=ae k s;refine(mL L x cls js (h.on l) hl b hb).mono ?_;rintro e H ⟨rfl,C⟩;refine⟨_,rfl,?_⟩;have d:=ae l C;have p:=aj C (aj s o);intro I D;have A:=aZ (α:=Bool) js.length (fun i _=>(cJ cls a,cJ cls b)∉js.take i) (fun i y=>I [.int .i64 (i:Int),.bool y] H) false (by simp) ?_ ?_
 ·exact A
 ·rintro i u J y c;obtain⟨q,F,_,E⟩:=(h.r2.on d) i _ (XK u);have next:js[i]≠(cJ cls a,cJ cls b)→Ar .i64 ((i:Int)+1) (fun n=>I [.int .i64 n,.bool y] H):=by
   intro v;refine Ar.nat (i+1) rfl (by omega) (J y ?_);rw [List.take_add_one,XK u];intro f;rcases List.mem_append.1 f with f |f
   ·exact c f
   ·have f:(cJ cls a,cJ cls b)=js[i]:=by simpa using f
    exact v f.symm
  refine D _ _ _ ⟨_,_,_,ai _ _ p 1,ac.yes (by simp;omega) ⟨_,_,_,ai _ _ p 1,ag.mk q F ⟨by omega,by omega,_,E 0 _ rfl,ac.mk (fun g=>⟨_,_,_,ai _ _ p 1,ag.mk q F ⟨by omega,by omega,_,E 1 _ rfl,ac.mk (fun j=>⟨?_,d⟩) fun j=>next ?_⟩⟩) fun g=>next ?_⟩⟩⟩
  ·have g:js[i].1=cJ cls a:=by simpa using g
   have j:js[i].2=cJ cls b:=by simpa using j
   have:(cJ cls a,cJ cls b)∈js:=by rw [←g, ←j];exact List.getElem_mem u
   rw [cutB,XZ fun e=>e.2 this]
  ·intro e;rw [e]at j;simp at j
  ·intro e;rw [e]at g;simp at g
 ·rintro y c;refine D _ _ _ ⟨_,_,_,ai _ _ p 1,ac.no (by simp;omega) ⟨?_,d⟩⟩;rw [List.take_length]at c;rw [cutB];by_cases e:cJ cls a=cJ cls b<;>simp [e,c]
theorem Gr {α:Type} {p:α→Bool} {l:List α} {i:Nat} (hi:i<l.length) (h:(l.take i).all p=true) (hp:p l[i]=true):(l.take (i+1)).all p=true:=by
 rw [List.take_add_one,XK hi,List.all_append,h];simpa using hp
theorem FR {α:Type} {p:α→Bool} {l:List α} {i:Nat} (hi:i<l.length) (hp:p l[i]=false):l.all p=false:=by
 rw [List.all_eq_false];exact⟨_,List.getElem_mem hi,by simp [hp]⟩
theorem mK (w:World) (x:lK) (cls:List (Int×Int×Int)) (js:List (Int×Int)) (h:pL w x cls js) (hl:cls.length≤1000000) (hj:js.length≤1000000):CP 104 #[x.v] w fun e w'=>e= .returned (.bool (cls.all bh&&js.all cO))∧ZH w w':=by
 refine aJ (C6 x.b.a x.b.n x.b.c x.m.a x.m.n x.m.c w (fun u w'=>u= .bool (cls.all bh&&js.all cO)∧ZH w w') ?_) (by rintro v w' ⟨rfl,h⟩;exact⟨rfl,h⟩);intro j C;have f:ZH w j:=by subst C;exact ah _ _
 have G:j.heap[w.heap.size]? =some (.cells #[x.b.v,x.m.v] Sy (0,0)):=by subst C;exact aq _ _
 have Q:=h.n1;have R:=h.n2;intro I O;have L:=aZ (α:=Bool×World) cls.length (fun i y=>(cls.take i).all bh=true∧ZH j y.2) (fun i y=>I [.int .i64 (i:Int),.bool y.1] y.2) (false,j) ⟨by simp,Below.refl _ _⟩ ?_ ?_
 ·exact L
 ·rintro i l K ⟨y,q⟩ ⟨c,a⟩;change ZH j q at a;have E:=aj a G;obtain⟨p,H,_,n⟩:=((h.on f).on a).r1 i _ (XK l);have r:=n 0 _ rfl;rw [aC]at r;refine O _ y q ⟨_,_,_,ai _ _ E 0,ac.yes (by simp;omega) ⟨_,_,_,ai _ _ E 0,ag.mk p H ⟨by omega,by omega,_,_,_,⟨r,n 1 _ rfl,n 2 _ rfl,trivial⟩,?_⟩⟩⟩;intro M m;refine bg [.int .i64 0,.int .i64 0,.int .i64 0] [.int .i64 cls[i].1,.int .i64 cls[i].2.1,.int .i64 cls[i].2.2] rfl (gE _ _ _) M m ?_;intro F d J o;have k:=ae f (ae a o);have g:bh cls[i]=false→Value.bool false=Value.bool (cls.all bh&&js.all cO)∧ZH w F:=by
   intro e;rw [FR l e];exact⟨rfl,k⟩
  refine⟨_,ai _ _ d 0,ac.mk (fun e=>g ?_) fun s=>⟨_,ai _ _ d 1,_,ai _ _ d 0,ac.mk (fun e=>g ?_) fun t=>⟨_,ai _ _ d 1,ac.mk (fun e=>g ?_) fun z=>⟨_,ai _ _ d 2,ac.mk (fun e=>g ?_) fun A=>⟨_,ai _ _ d 2,ac.mk (fun e=>g ?_) fun N=>Ar.nat (i+1) rfl (by omega) (K (y,F) ⟨Gr l c ?_,ae a o⟩)⟩⟩⟩⟩⟩
  ·have e:=XQ e;exact XZ (by omega)
  ·have e:=XQ e;exact XZ (by omega)
  ·have e:=XQ e;exact XZ (by omega)
  ·have e:=XQ e;exact XZ (by omega)
  ·have e:=XQ e;exact XZ (by omega)
  ·have s:=XX s;have t:=XX t;have z:=XX z;have A:=XX A;have N:=XX N;exact XJ (by omega)
 ·rintro⟨y,q⟩ ⟨c,a⟩;change ZH j q at a;rw [List.take_length]at c;refine O _ y q ⟨_,_,_,ai _ _ (aj a G) 0,ac.no (by simp;omega) ?_⟩;intro P B;have D:=aZ (α:=Bool×World) js.length (fun i y=>(js.take i).all cO=true∧ZH j y.2) (fun i y=>P [.int .i64 (i:Int),.bool y.1] y.2) (y,q) ⟨by simp,a⟩ ?_ ?_
  ·exact D
  ·rintro i l K ⟨y,q⟩ ⟨b,a⟩;change ZH j q at a;have E:=aj a G;obtain⟨p,H,_,n⟩:=((h.on f).on a).r2 i _ (XK l);have r:=n 0 _ rfl;rw [aC]at r;refine B _ y q ⟨_,_,_,ai _ _ E 1,ac.yes (by simp;omega) ⟨_,_,_,ai _ _ E 1,ag.mk p H ⟨by omega,by omega,_,_,⟨r,n 1 _ rfl,trivial⟩,?_⟩⟩⟩;intro M m;refine bg [.int .i64 0,.int .i64 0] [.int .i64 js[i].1,.int .i64 js[i].2] rfl (cK _ _) M m ?_;intro F d J o;have k:=ae f (ae a o);have g:cO js[i]=false→Value.bool false=Value.bool (cls.all bh&&js.all cO)∧ZH w F:=by
    intro e;rw [FR l e,Bool.and_false];exact⟨rfl,k⟩
   refine⟨_,ai _ _ d 0,ac.mk (fun e=>g ?_) fun s=>⟨_,ai _ _ d 0,ac.mk (fun e=>g ?_) fun t=>⟨_,ai _ _ d 1,ac.mk (fun e=>g ?_) fun z=>⟨_,ai _ _ d 1,ac.mk (fun e=>g ?_) fun A=>Ar.nat (i+1) rfl (by omega) (K (y,F) ⟨Gr l b ?_,ae a o⟩)⟩⟩⟩⟩
   ·have e:=XQ e;exact XZ (by omega)
   ·have e:=XQ e;exact XZ (by omega)
   ·have e:=XQ e;exact XZ (by omega)
   ·have e:=XQ e;exact XZ (by omega)
   ·have s:=XX s;have t:=XX t;have z:=XX z;have A:=XX A;exact XJ (by omega)
  ·rintro⟨y,q⟩ ⟨b,a⟩;change ZH j q at a;rw [List.take_length]at b;refine B _ y q ⟨_,_,_,ai _ _ (aj a G) 1,ac.no (by simp;omega) ⟨?_,ae f a⟩⟩;rw [c,b];rfl
def kd (xs:List (Int×Bs)):Value:=match cr [] 0 xs with
 |none=>.tuple #[.int .i64 (xs.length:Int),.int .i64 0]
 |some q=>.tuple #[.int .i64 (q.1:Int),.int .i64 q.2]
theorem mM (w:World) (A:Option Addr) (C:Nat) (xs:List (Int×Bs)) (hr:Rw aM 2 w A xs) (hl:xs.length≤1000000):CP 98 #[.slice A xs.length C] w fun e w'=>e= .returned (kd xs)∧ZH w w':=by
 refine aJ (DU A xs.length C w (fun u w'=>u=kd xs∧ZH w w') ?_) (by rintro v w' ⟨rfl,h⟩;exact⟨rfl,h⟩);intro I Y;have V:=aZ (α:=Int×Int×World) xs.length (fun i y=>cr [] 0 xs=cr (xs.take i) i (xs.drop i)∧ZH w y.2.2) (fun i y=>I [.int .i64 (i:Int),.int .i64 y.1,.int .i64 y.2.1] y.2.2) (0,0,w) ⟨by simp,Below.refl _ _⟩ ?_ ?_
 ·exact V
 ·rintro i N ih ⟨Q,P,q⟩ ⟨a,f⟩;change ZH w q at f;obtain⟨p,O,_,M⟩:=(hr.on f) i _ (XK N);have o:(xs.take i).length=i:=by rw [List.length_take];omega
  rw [List.drop_eq_getElem_cons N,cr]at a;have b:∀(n:Int) (v:World),n≠0→cP (xs.take i) xs[i]=n→ZH w v→Value.tuple #[.int .i64 (i:Int),.int .i64 n]=kd xs∧ZH w v:=by
   intro n v hn e hv;refine⟨?_,hv⟩;rw [if_neg (by rw [e];exact hn),e]at a;rw [kd,a]
  have m:bF xs[i]=false→cP (xs.take i) xs[i]=1:=fun e=>by rw [cP,if_pos e]
  refine Y _ Q P q (ac.yes (by simp;omega) (ag.mk p O ⟨by omega,by omega,_,M 0 _ rfl,ac.mk (fun e=>b 1 q (by decide) (m ?_) f) fun W=>(ag.mk p O ⟨by omega,by omega,_,M 0 _ rfl,ac.mk (fun e=>b 1 q (by decide) (m ?_) f) fun X=>(ag.mk p O ⟨by omega,by omega,_,M 1 _ rfl,ac.mk (fun e=>b 1 q (by decide) (m ?_) f) fun R=>(ag.mk p O ⟨by omega,by omega,_,M 1 _ rfl,ac.mk (fun e=>b 1 q (by decide) (m ?_) f) fun S=>?_⟩)⟩)⟩)⟩))
  ·have e:=XQ e;exact XZ (by omega)
  ·have e:=XQ e;exact XZ (by omega)
  ·have e:=XQ e;rw [aP]at e;exact XZ (by omega)
  ·have e:=XQ e;rw [aP]at e;exact XZ (by omega)
  have l:¬bF xs[i]=false:=by
   have W:=XX W;have X:=XX X;have R:=XX R;have S:=XX S;rw [aP]at R S;rw [bF,XJ (by omega)];simp
  refine ac.mk (fun e=>b 3 q (by decide) ?_ f) fun e=>?_
  ·have e:=XQ e;rw [cP,if_neg l,o,if_pos (by omega)]
  have e:=XX e;have s:¬32≤(xs.take i).length:=by rw [o];omega
  intro I7 t;have G:=aZ (α:=Int×Int×World) i (fun k y=>(xs[i].1∉(xs.take k).map (·.1)∧xs[i].2∉(xs.take k).map (·.2))∧ZH w y.2.2) (fun k y=>I7 [.int .i64 (k:Int),.int .i64 y.1,.int .i64 y.2.1] y.2.2) (Q,P,q) ⟨by simp,f⟩ ?_ ?_
  ·exact G
  ·rintro k hk U ⟨L,K,v⟩ ⟨j,c⟩;change ZH w v at c;refine t _ L K v (ac.yes (by simp;omega) ?_);intro J T;have b3:ZH v J:=by subst T;exact aU v
   have d:ZH w J:=c.trans (b3.mono c.size);have D:k<xs.length:=by omega
   obtain⟨Z,E,_,z⟩:=(hr.on d) i _ (XK N);obtain⟨pk,F,_,B⟩:=(hr.on d) k _ (XK D);have H:xs[k]∈xs.take i:=List.mem_take_iff_getElem.2 ⟨k,by omega,rfl⟩;refine ag.mk pk F ⟨by omega,by omega,_,B 0 _ rfl,ag.mk Z E ⟨by omega,by omega,_,z 0 _ rfl,ac.mk (fun r=>b 10 J (by decide) ?_ d) fun r=>ag.mk pk F ⟨by omega,by omega,_,B 1 _ rfl,ag.mk Z E ⟨by omega,by omega,_,z 1 _ rfl,ac.mk (fun g=>b 10 J (by decide) ?_ d) fun g=>Ar.nat (k+1) rfl (by omega) (U (L,K,J) ⟨?_,d⟩)⟩⟩⟩⟩
   ·have r:xs[k].1=xs[i].1:=by simpa using r
    rw [cP,if_neg l,if_neg s,if_pos (.inl (by rw [←r];exact List.mem_map_of_mem H))]
   ·rw [cG,cG]at g;have g:xs[k].2=xs[i].2:=by simpa using g
    rw [cP,if_neg l,if_neg s,if_pos (.inr (by rw [←g];exact List.mem_map_of_mem H))]
   ·rw [cG,cG]at g;have r:¬xs[k].1=xs[i].1:=by simpa using r
    have g:¬xs[k].2=xs[i].2:=by simpa using g
    rw [List.take_add_one,XK D];simp only [Option.toList_some,List.map_append,List.map_cons,List.map_nil,List.mem_append,List.mem_singleton,not_or];exact⟨⟨j.1,fun e=>r e.symm⟩,j.2,fun e=>g e.symm⟩
  ·rintro⟨L,K,v⟩ ⟨j,c⟩;change ZH w v at c;have x:cP (xs.take i) xs[i]=0:=by rw [cP,if_neg l,if_neg s,if_neg (not_or.2 j)]
   refine t _ L K v (ac.no (by simp) (Ar.nat (i+1) rfl (by omega) (ih (L,K,v) ⟨?_,c⟩)));rw [a,if_pos x,List.take_add_one,XK N];rfl
 ·rintro⟨Q,P,q⟩ ⟨a,f⟩;refine Y _ Q P q (ac.no (by simp) ⟨?_,f⟩);rw [List.drop_length,cr]at a;rw [kd,a]
def tb (xs:List (Int×Bs)):Bool:=xs.any (fun x=>decide (100<x.2.length))||decide (40<xs.length)
theorem tB (w:World) (A:Option Addr) (C:Nat) (xs:List (Int×Bs)) (hr:Rw aM 2 w A xs) (hl:xs.length≤9223372036854775807):CP 102 #[.slice A xs.length C] w fun e w'=>e= .returned (.bool (tb xs))∧w'=w:=by
 refine aJ (yU A xs.length C w (fun u w'=>u= .bool (tb xs)∧w'=w) ?_) (by rintro v w' ⟨rfl,h⟩;exact⟨rfl,h⟩);intro I d;have c:=aZ (α:=Bool) xs.length (fun i _=>(xs.take i).any (fun x=>decide (100<x.2.length))=false) (fun i y=>I [.int .i64 (i:Int),.bool y] w) false (by simp) ?_ ?_
 ·exact c
 ·rintro i b j y a;obtain⟨p,g,_,f⟩:=hr i _ (XK b);refine d _ y w (ac.yes (by simp;omega) (ag.mk p g ⟨by omega,by omega,_,f 1 _ rfl,ac.mk (fun e=>⟨?_,rfl⟩) fun e=>Ar.nat (i+1) rfl (by omega) (j y ?_)⟩))
  ·have e:=XQ e;rw [aP]at e;have:xs.any (fun x=>decide (100<x.2.length))=true:=List.any_eq_true.2 ⟨_,List.getElem_mem b,XJ (by omega)⟩;rw [tb,this];rfl
  ·have e:=XX e;rw [aP]at e;rw [List.take_add_one,XK b,List.any_append,a];simp;omega
 ·rintro y a;rw [List.take_length]at a;refine d _ y w (ac.no (by simp) ⟨?_,rfl⟩);rw [tb,a,Bool.false_or];congr 1;exact decide_eq_decide.2 (by omega)
theorem uq (w:World) (A1:Option Addr) (N1 C1:Nat) (A2:Option Addr) (N2 C2:Nat) (A3:Option Addr) (N3 C3:Nat) (A:Option Addr) (C:Nat) (xs:List (Int×Bs)) (hr:Rw aM 2 w A xs) (hl:xs.length≤9223372036854775807):CP 40 #[.slice A1 N1 C1,.slice A2 N2 C2,.slice A3 N3 C3,.slice A xs.length C] w fun e w'=>e= .returned (.bool (decide (60<N1∨20<N2∨20<N3)||tb xs))∧w'=w:=by
 refine aV (EG A1 N1 C1 A2 N2 C2 A3 N3 C3 A xs.length C w) ?_;refine ac.mk (fun a=>⟨?_,rfl⟩) fun a=>ac.mk (fun b=>⟨?_,rfl⟩) fun b=>ac.mk (fun c=>⟨?_,rfl⟩) fun c=>?_
 ·have:=XQ a;rw [XJ (by omega)];rfl
 ·have:=XQ b;rw [XJ (by omega)];rfl
 ·have:=XQ c;rw [XJ (by omega)];rfl
 ·have a:=XX a;have b:=XX b;have c:=XX c;refine(tB w A C xs hr hl).mono ?_;rintro e w' ⟨rfl,d⟩;subst d;refine⟨_,rfl,?_,rfl⟩;rw [XZ (by omega),Bool.false_or]
theorem bK.more {cut:Int→Int→Bool} {p q:List Int} (hp:p≠ []) (hu:dW cut (p++q)):∀ {a:List (List Int)},bK cut (a++ [p])→bK cut (a++ [p++q])
 | [],_=>⟨by simp [hp],hu⟩
 |z::a,h=>by
  rw [List.cons_append]at h⊢;refine bK.cons h.head.1 h.head.2 (fun w r hw=>?_) (bK.more hp hu h.tail);cases a with
  |nil=>
   cases hw;obtain⟨u,v,hu',hv,hc⟩:=h.2.2.1;exact⟨u,v,hu',by rw [li _ hp];exact hv,hc⟩
  |cons z' a=>cases hw;exact h.2.2.1
theorem HT {cut:Int→Int→Bool} {Z:List Int} {x y:Int} (hx:Z.getLast?=some x) (hc:cut x y=true):chop cut (Z++ [y])=chop cut Z++ [[y]]:=by
 obtain⟨d,c⟩:=dR (cut:=cut) Z;rcases List.eq_nil_or_concat (chop cut Z)with e |⟨a,p,e⟩
 ·rw [e]at c;rw [←c]at hx;cases hx
 ·rw [List.concat_eq_append]at e;rw [e]at d c⊢;have f:=(chop_all' d);have b:p.getLast?=some x:=by
   rw [←c,List.flatten_append,List.flatten_cons,List.flatten_nil,List.append_nil,dH _ f]at hx;exact hx
  have:=fL (cut:=cut) (a++p:: [[y]]) (d.glue ⟨by simp,trivial⟩ fun q i g=>by cases g;exact⟨x,y,b,rfl,hc⟩);rw [show(a++p:: [[y]]).flatten=Z++ [y] by rw [←c];simp]at this;rw [this];simp
where chop_all' {cut:Int→Int→Bool} {a:List (List Int)} {p:List Int} (h:bK cut (a++ [p])):p≠ []:=(h.append).2.head.1
theorem Hz {cut:Int→Int→Bool} {Z:List Int} {x y:Int} (hx:Z.getLast?=some x) (hc:cut x y=false):∃a p,chop cut Z=a++ [p]∧chop cut (Z++ [y])=a++ [p++ [y]]:=by
 obtain⟨g,d⟩:=dR (cut:=cut) Z;rcases List.eq_nil_or_concat (chop cut Z)with e |⟨a,p,e⟩
 ·rw [e]at d;rw [←d]at hx;cases hx
 ·rw [List.concat_eq_append]at e;rw [e]at g d⊢;have c:=(g.append).2.head;have b:p.getLast?=some x:=by
   rw [←d,List.flatten_append,List.flatten_cons,List.flatten_nil,List.append_nil,dH _ c.1]at hx;exact hx
  refine⟨a,p,rfl,?_⟩;have f:dW cut (p++ [y]):=(iu p [y]).2 ⟨c.2,trivial,fun u v f h=>by rw [b]at f;cases f;cases h;exact hc⟩;have:=fL (cut:=cut) (a++ [p++ [y]]) (bK.more c.1 f g);rwa [show(a++ [p++ [y]]).flatten=Z++ [y] by rw [←d];simp]at this
theorem mf {w:World} {p:Addr} {v:Value} {k:World→Prop} (h:aI w p k [v] 0):v.oneCell'=true∧(∃u,w.cell? p=some u)∧w.frozen? p=false∧∀w',w'=w.setCell p v→k w':=by
 obtain⟨d,a,b,c⟩:=h;rw [aC]at a b c;exact⟨d,a,b,c⟩
theorem kF (a:List Bs) (p:Bs):(a++ [p]).map bf=a.map bf++ [bf p]:=by simp
theorem Jf {a:List Bs} {x:List (List Int)} {p:List Int} (h:a.map bf=x++ [p]):∃b q,a=b++ [q]∧b.map bf=x∧bf q=p:=by
 rcases List.eq_nil_or_concat a with e |⟨b,q,e⟩
 ·rw [e]at h;simp at h
 ·rw [List.concat_eq_append]at e;subst e;rw [kF]at h;have:=List.append_inj' h rfl;exact⟨b,q,rfl,this.1,by simpa using this.2⟩
theorem sQ (w:World) (x:lK) (cls:List (Int×Int×Int)) (js:List (Int×Int)) (h:pL w x cls js) (hl:cls.length≤1000000) (hj:js.length≤1000000) (s:Bs) (hs:s.length≤1000000):
  CP 45 #[x.v,.string (str s)] w fun e w'=>∃(l:Sl) (ps:List Bs),e= .returned l.v∧w'.ownsRow w.heap.size dN 1 l.v l.n (ps.flatMap cz)∧ps.map bf=chop (cutB cls js) (bf s)∧ZH w w':=by
 refine aV (Eb x.b.a x.b.n x.b.c x.m.a x.m.n x.m.c (str s) w) ?_;intro d Y;have H:ZH w d:=by subst Y;exact ah _ _
 have l1:d.heap[w.heap.size]? =some (.cells #[x.b.v,x.m.v] Sy (0,0)):=by subst Y;exact aq _ _
 intro I hI;let Inv (i:Nat) (y:Sl×World):Prop:=∃ps:List Bs,y.2.ownsRow d.heap.size dN 1 y.1.v y.1.n (ps.flatMap cz)∧ps.map bf=chop (cutB cls js) (bf (s.take i))∧ps.length≤i∧(∀p∈ps,p.length≤i)∧ZH d y.2;have key:=aZ (α:=Sl×World) s.length Inv (fun i y=>I [.int .i64 (i:Int),y.1.v] y.2) (cW,d) ⟨[],bE _ _ _ _ cz,by simp [bf,chop],XV _,by simp,Below.refl _ _⟩ ?_ ?_
 ·exact key
 ·rintro i hi ih ⟨l,q⟩ ⟨ps,c,k,E,F,S⟩;change q.ownsRow d.heap.size dN 1 l.v l.n _ at c;change ZH d q at S;have hln:l.n=ps.length:=(bO.of_own As c).n;have g:=mu s i hi;refine hI _ l.a l.n l.c q (ac.yes (by rw [aP];simp;omega) ?_);intro J hJ w6 a1;have b6:ZH q w6:=by subst a1;exact aU q
  have G:∀(f:Sl) (v:World) (a:List Bs) (p:Bs),v.ownsRow d.heap.size dN 1 f.v f.n ((a++ [p]).flatMap cz)→ZH d v→a.map bf++ [bf p++ [((s[i].toNat:Nat):Int)]]=chop (cutB cls js) (bf (s.take (i+1)))→a.length≤i→p.length≤i→(∀z∈a,z.length≤i)→J [.slice f.a f.n f.c] v:=by
   intro f v a p hv o K hal E hza;refine hJ f.a f.n f.c v ?_;intro w4 a0;have b4:ZH v w4:=by subst a0;exact aU v
   have X:w4.ownsRow d.heap.size dN 1 f.v f.n ((a++ [p]).flatMap cz):=by subst a0;exact eA hv
   have hB4:ZH d w4:=o.trans (b4.mono o.size);have L:=bO.of_own As X;have hn:=L.n;rw [List.length_append,List.length_singleton]at hn;obtain⟨pa,O,c0⟩:=a_ L.r (i:=a.length) (v:=.string (str p)) (by simp) (by simp [cz]);refine Ar.nat a.length (by omega) (by omega) (Ar.nat a.length (by omega) (by omega) (ag.mk pa O ⟨by omega,by omega,str p,c0,Ar.nat (i+1) rfl (by omega) ⟨by omega,by omega,by rw [aP];omega,?_,ag.mk pa O ⟨by omega,by omega,?_⟩⟩⟩))
   ·show((((str p).size+((str s).extract i (i+1)).size:Nat):Int))≤(9223372036854775807:Int);rw [jg,aP,aP,List.length_take];omega
   ·have U:(str p)++(str s).extract (i:Int).toNat ((i+1:Nat):Int).toNat=str (p++ [s[i]]):=by
     show str p++(str s).extract i (i+1)=_;rw [jg,nk,show i+1-i=1 by omega,List.drop_eq_getElem_cons hi];rfl
    rw [U];refine mf (oK (enc:=cz) (fun _=>rfl) (by decide) (fun y u hu=>by rw [List.mem_singleton.1 hu];rfl) X L.n O a.length (by simp) (p++ [s[i]]) ?_);intro w5 h5 hs5 hz5 hB5;have W:(a++ [p]).set a.length (p++ [s[i]])=a++ [p++ [s[i]]]:=by rw [List.set_append_right _ _ (XV _),Nat.sub_self];rfl
    rw [W]at h5;refine Ar.nat (i+1) rfl (by omega) (ih (f,w5) ⟨a++ [p++ [s[i]]],h5,?_,by simp;omega,?_,hB5 _ _ (XV _) hB4⟩)
    ·rw [kF, ←K,lx];rfl
    ·intro z Q;rcases List.mem_append.1 Q with Q |Q
     ·have:=hza z Q;omega
     ·rw [List.mem_singleton.1 Q];simp;omega
  have m:∀(v:World) (w7:World),v.ownsRow d.heap.size dN 1 l.v l.n (ps.flatMap cz)→ZH d v→w7=v.alloc (.cells #[Value.string ⟨#[]⟩] dN)→chop (cutB cls js) (bf (s.take (i+1)))=chop (cutB cls js) (bf (s.take i))++ [[((s[i].toNat:Nat):Int)]]→
    ∃A:Option Addr,∃N:Nat,∃C:Nat,∃w8:World,(Builtin.append_ #[eH,eH] eH #[Value.slice l.a l.n l.c,Value.slice (some (nb v)) 1 1]).run Tryz.prog w7= .ok (Value.slice A N C) w8∧J [Value.slice A N C] w8:=by
   intro v w7 hv o P K;obtain⟨f,w8,hl',V,M,hB',_⟩:=As.push hv ([]:Bs) P rfl o.size (by omega) (by decide);exact⟨f.a,f.n,f.c,w8,V,G f w8 ps [] M (hB' _ o) (by rw [K, ←k];rfl) E (Nat.zero_le _) F⟩
  have B:w6.ownsRow d.heap.size dN 1 l.v l.n (ps.flatMap cz):=by subst a1;exact eA c
  have n:ZH d w6:=S.trans (b6.mono S.size);refine ac.mk (fun R=>?_) fun R=>?_
  ·have R:i=0:=by
    have:(i:Int)=0:=by simpa using R
    omega
   intro w7 P;refine m w6 w7 B n P ?_;subst R;rw [g];simp [bf,chop]
  ·have R:i≠0:=by
    intro e;subst e;simp at R
   obtain⟨j,rfl⟩:∃j,i=j+1:=⟨i-1,by omega⟩;have t:(bf (s.take (j+1))).getLast?=some ((s[j].toNat:Nat):Int):=by rw [mu s j (by omega),List.getLast?_append];rfl
   have hx:=s[j].toNat_lt;have hy:=s[j+1].toNat_lt;refine⟨_,_,_,_,_,_,gj (aj (n) l1),Ar.nat j (by omega) (by omega) ⟨by omega,by rw [aP];omega,by omega,by rw [aP];omega,?_⟩⟩;rw [dB s j (by omega),dB s (j+1) hi];refine(xL w6 x cls js ((h.on H).on n) hl hj _ _ (by omega) (by omega)).mono ?_;rintro e w9 ⟨rfl,b9⟩;have D:=aE B b9;have T:ZH d w9:=n.trans (b9.mono n.size);refine⟨_,rfl,ac.mk (fun hc=>?_) fun hc=>?_⟩
   ·intro w10 Z;refine m w9 w10 D T Z ?_;rw [g,HT t hc]
   ·obtain⟨a,p,e1,e2⟩:=Hz t hc;rw [e1]at k;obtain⟨b,r,rfl,e3,e4⟩:=Jf k;refine G l w9 b r D T ?_ (by simp at E;omega) (F r (by simp)) (fun z Q=>F z (by simp [Q]));rw [g,e2,e3,e4]
 ·rintro⟨l,q⟩ ⟨ps,c,k,E,F,S⟩;change q.ownsRow d.heap.size dN 1 l.v l.n _ at c;change ZH d q at S;rw [List.take_length]at k;exact hI _ l.a l.n l.c q (ac.no (by rw [aP];simp) ⟨l,ps,rfl,aS c H.size,k,ae H S⟩)
structure nI where
 t:lK
 b:lK
 sp:Sl
abbrev nI.cells (x:nI):Array Value:=#[x.t.b.v,x.t.m.v,x.b.b.v,x.b.m.v,x.sp.v]
abbrev nI.v (x:nI):Value:=.agg x.cells
structure ij (w:World) (x:nI) (s:am) (T:List aX):Prop where
 t:gI w x.t T
 b:pL w x.b s.classes s.joins
 sn:x.sp.n=s.specials.length
 sr:Rw aM 2 w x.sp.a s.specials
 ok:fo T
 right:s.right=true
 ids:∀y∈s.specials,(T.length:Int)≤y.1
 nodup:(s.specials.map (·.1)).Nodup
theorem ij.on {w w':World} {x:nI} {s:am} {T:List aX} (h:ij w x s T) (hb:ZH w w'):ij w' x s T:=⟨h.t.on hb,h.b.on hb,h.sn,h.sr.on hb,h.ok,h.right,h.ids,h.nodup⟩
theorem ij.vok {w:World} {x:nI} {s:am} {T:List aX} (h:ij w x s T):(ap s T).Ok:=by
 have c:=cE h.ok;refine⟨rA h.ok,h.nodup,fun t a=>?_⟩;obtain⟨y,b,rfl⟩:=List.mem_map.1 a;have:=h.ids y b;show 256+((au T).length:Int)≤y.1;omega
theorem ij.few {w:World} {x:nI} {s:am} {T:List aX} (h:ij w x s T):s.specials.length≤1000000∧s.classes.length≤1000000∧s.joins.length≤1000000:=⟨(dz h.right).2.2.1,(dz h.right).2.2.2.1,(dz h.right).2.2.2.2⟩
abbrev Jz:TypeId:=39
theorem rf {w:World} {b:Nat} {x:nI} {T:TypeId} {fz:Nat×Nat} (h:w.heap[b]? =some (.cells x.cells T fz)):
  w.cell? ⟨b,0,none⟩=some x.t.b.v∧w.cell? ((⟨b,0,none⟩:Addr).add 1)=some x.t.m.v∧w.cell? ((⟨b,0,none⟩:Addr).add 2)=some x.b.b.v∧w.cell? ((⟨b,0,none⟩:Addr).add 3)=some x.b.m.v∧w.cell? ((⟨b,0,none⟩:Addr).add 4)=some x.sp.v∧True:=by
 have a:∀j,w.cell? ((⟨b,0,none⟩:Addr).add j)=x.cells[j]? :=fun j=>ai _ _ h j;exact⟨by have:=a 0;rw [aC]at this;exact this,a 1,a 2,a 3,a 4,trivial⟩
theorem Fg {w:World} {b:Nat} {c:Array Value} {T:TypeId} {fz:Nat×Nat} (h:w.heap[b]? =some (.cells c T fz)) (j:Nat) {x y:Value} (hx:c[j]? =some x) (hy:c[j+1]? =some y):w.cell? ((⟨b,0,none⟩:Addr).add j)=some x∧w.cell? (((⟨b,0,none⟩:Addr).add j).add 1)=some y∧True:=by
 refine⟨by rw [ai _ _ h,hx],?_,trivial⟩;rw [Addr.add_add,ai _ _ h,hy]
theorem IL {α:Type} [BEq α] [LawfulBEq α] {l:List α} {x:α} {i:Nat} (hi:i<l.length) (hx:l[i]=x) (hn:x∉l.take i):l.idxOf? x=some i:=by
 rw [List.idxOf?,List.findIdx?_eq_some_iff_getElem];refine⟨hi,by simp [hx],fun j a=>?_⟩;simp only [beq_iff_eq];intro e;exact hn (List.mem_take_iff_getElem.2 ⟨j,by omega,e⟩)
def gp (s:am) (id:Int):Int:=((fA s.specials id).map fun i:Nat=> -1- (i:Int)).getD 0
theorem od (w:World) (x:nI) (s:am) (T:List aX) (h:ij w x s T) (id:Int):CP 112 #[x.v,.int .i64 id] w fun e w'=>e= .returned (.int .i64 (gp s id))∧ZH w w':=by
 refine aV (AY x.t.b.a x.t.b.n x.t.b.c x.t.m.a x.t.m.n x.t.m.c x.b.b.a x.b.b.n x.b.b.c x.b.m.a x.b.m.n x.b.m.c x.sp.a x.sp.n x.sp.c id w) ?_;intro j g;have d:ZH w j:=by subst g;exact ah _ _
 have l:j.heap[w.heap.size]? =some (.cells x.cells Jz (0,0)):=by subst g;exact aq _ _
 have u:=h.sn;have n:=h.few.1;intro I m;have k:=aZ (α:=Int) s.specials.length (fun i _=>id∉(s.specials.map (·.1)).take i) (fun i y=>I [.int .i64 (i:Int),.int .i64 y] j) 0 (by simp) ?_ ?_
 ·exact k
 ·rintro i o t y a;obtain⟨q,r,_,p⟩:=(h.sr.on d) i _ (XK o);have f:i< (s.specials.map (·.1)).length:=by rw [List.length_map];exact o
  have b:(s.specials.map (·.1))[i]=s.specials[i].1:=by simp
  refine m _ y j ⟨_,_,_,ai _ _ l 4,ac.yes (by simp;omega) ⟨_,_,_,ai _ _ l 4,ag.mk q r ⟨by omega,by omega,_,p 0 _ rfl,ac.mk (fun c=>Ar.ok64 (by omega) (by omega) ⟨?_,d⟩) fun c=>Ar.nat (i+1) rfl (by omega) (t y ?_)⟩⟩⟩
  ·have c:s.specials[i].1=id:=by simpa using c
   have:fA s.specials id=some i:=IL f (by rw [b,c]) a;rw [gp,this];rfl
  ·have c:¬s.specials[i].1=id:=by simpa using c
   rw [List.take_add_one,XK f,b];simp only [Option.toList_some,List.mem_append,List.mem_singleton,not_or];exact⟨a,fun e=>c e.symm⟩
 ·rintro y a;refine m _ y j ⟨_,_,_,ai _ _ l 4,ac.no (by simp;omega) ⟨?_,d⟩⟩;rw [List.take_of_length_le (by simp)]at a;have:fA s.specials id=none:=List.idxOf?_eq_none_iff.2 a;rw [gp,this];rfl
theorem yS (s:am) (id:Int):decide (gp s id<0)=decide (id∈s.specials.map (·.1)):=by
 apply decide_eq_decide.2;unfold gp;cases hm:fA s.specials id with
 |none=>
  have:id∉s.specials.map (·.1):=List.idxOf?_eq_none_iff.1 hm;simp only [Option.map_none,Option.getD_none];exact⟨fun e=>by omega,fun e=>absurd e this⟩
 |some i=>
  have:id∈s.specials.map (·.1):=by
   apply Classical.byContradiction;intro e;have a:fA s.specials id=none:=List.idxOf?_eq_none_iff.2 e;rw [hm]at a;cases a
  simp only [Option.map_some,Option.getD_some];exact⟨fun _=>this,fun _=>by omega⟩
theorem v_ (w:World) (x:nI) (s:am) (T:List aX) (h:ij w x s T) (id:Int):CP 46 #[x.v,.int .i64 id] w fun e w'=>e= .returned (.bool (bY s T id))∧ZH w w':=by
 refine aJ (Dw x.t.b.a x.t.b.n x.t.b.c x.t.m.a x.t.m.n x.t.m.c x.b.b.a x.b.b.n x.b.b.c x.b.m.a x.b.m.n x.b.m.c x.sp.a x.sp.n x.sp.c id w (fun u w'=>u= .bool (bY s T id)∧ZH w w') ?_) (by rintro v w' ⟨rfl,h⟩;exact⟨rfl,h⟩);intro f d;have c:ZH w f:=by subst d;exact ah _ _
 have i:f.heap[w.heap.size]? =some (.cells x.cells Jz (0,0)):=by subst d;exact aq _ _
 refine⟨_,_,_,_,_,_,Fg i 0 rfl rfl,?_⟩;refine(lI f x.t T (h.t.on c) id).mono ?_;rintro e k ⟨rfl,g⟩;have b:=ae c g;refine⟨_,rfl,ac.mk (fun a=>⟨?_,b⟩) fun a=>?_⟩
 ·have a:=XQ a;rw [bY,XJ (.inr a)]
 ·have a:=XX a;refine⟨_,_,_,_,_,_,_,_,_,_,_,_,_,_,_,rf (aj g i),?_⟩;refine(od k x s T (h.on b) id).mono ?_;rintro e l ⟨rfl,j⟩;refine⟨_,rfl,?_,ae b j⟩;rw [yS,bY];congr 1;exact decide_eq_decide.2 ⟨.inl,fun e=>e.resolve_right a⟩
theorem CC (w:World) (x:nI) (s:am) (T:List aX) (h:ij w x s T) (A:Option Addr) (C:Nat) (ids:List Int) (hr:Rw an 1 w A ids) (hl:ids.length≤1000000000000):CP 17 #[x.v,.slice A ids.length C] w fun e w'=>e= .returned (.int .i64 (dP s T ids))∧ZH w w':=by
 refine aV (FF x.t.b.a x.t.b.n x.t.b.c x.t.m.a x.t.m.n x.t.m.c x.b.b.a x.b.b.n x.b.b.c x.b.m.a x.b.m.n x.b.m.c x.sp.a x.sp.n x.sp.c A ids.length C w) ?_;intro g f;have d:ZH w g:=by subst f;exact ah _ _
 have H:g.heap[w.heap.size]? =some (.cells x.cells Jz (0,0)):=by subst f;exact aq _ _
 intro I u;have r:=aZ (α:=Int×World) ids.length (fun i y=>(∀j (b:j<ids.length),j<i→(!bY s T ids[j])=false)∧ZH g y.2) (fun i y=>I [.int .i64 (i:Int),.int .i64 y.1] y.2) (0,g) ⟨fun j _ b=>absurd b (Nat.not_lt_zero j),Below.refl _ _⟩ ?_ ?_
 ·exact r
 ·rintro i v G ⟨y,q⟩ ⟨a,k⟩;change ZH g q at k;refine u _ y q (ac.yes (by simp;omega) ?_);intro z n;have B:ZH q z:=by subst n;exact aU q
  have c:=ae k B;have m:=ae d c;obtain⟨p,F,D⟩:=a_ (hr.on m) v rfl;refine⟨_,_,_,_,_,_,_,_,_,_,_,_,_,_,_,rf (aj c H),ag.mk p F ⟨by omega,by omega,_,D,?_⟩⟩;refine(v_ z x s T (h.on m) ids[i]).mono ?_;rintro e J ⟨rfl,t⟩;refine⟨_,rfl,ac.mk (fun l=>⟨?_,ae m t⟩) fun l=>Ar.nat (i+1) rfl (by omega) (G (y,J) ⟨fun j b E=>?_,ae c t⟩)⟩
  ·rw [dP,gn (p:=fun o=> !bY s T o) v l fun j b=>a j (by omega) b]
  ·by_cases e:j=i
   ·subst e;exact l
   ·exact a j b (by omega)
 ·rintro⟨y,q⟩ ⟨a,k⟩;refine u _ y q (ac.no (by simp) ⟨?_,ae d k⟩);rw [dP,dY (p:=fun o=> !bY s T o) fun j b=>a j b b]
theorem GN {s:am} {T:List aX} (hok:fo T) (t:Int):((ap s T).items t).length≤64:=by
 unfold Voc.items;cases(ap s T).place t with
 |some i=>exact Nat.le_of_ble_eq_true rfl
 |none=>
  show(bf (bj T t)).length≤64;have:(bf (bj T t)).length=(bj T t).length:=by simp [bf]
  rw [this,bj];cases he:T[t.toNat]? with
  |none=>exact Nat.zero_le _
  |some e=>exact hok.short e (List.mem_of_getElem? he)
theorem ir {s:am} {T:List aX} (hok:fo T):∀ids:List Int,((ap s T).itemsAll ids).length≤64*ids.length
 | []=>XV _
 |t::ids=>by
  have h1:=GN (s:=s) hok t;have h2:=ir (s:=s) hok ids;unfold Voc.itemsAll at h2⊢;rw [List.flatMap_cons,List.length_append,List.length_cons];omega
theorem uR (w:World) (x:nI) (s:am) (T:List aX) (h:ij w x s T) (A:Option Addr) (C:Nat) (ids:List Int) (hr:Rw an 1 w A ids) (hl:ids.length≤1000000) (hh:∀t∈ids,(ap s T).Has t):CP 53 #[x.v,.slice A ids.length C] w fun e w'=>∃l:Sl,e= .returned l.v∧bO an 1 w' l ((ap s T).itemsAll ids)∧ZH w w':=by
 refine aV (Fv x.t.b.a x.t.b.n x.t.b.c x.t.m.a x.t.m.n x.t.m.c x.b.b.a x.b.b.n x.b.b.c x.b.m.a x.b.m.n x.b.m.c x.sp.a x.sp.n x.sp.c A ids.length C w) ?_;intro c R;have u:ZH w c:=by subst R;exact ah _ _
 have l1:c.heap[w.heap.size]? =some (.cells x.cells Jz (0,0)):=by subst R;exact aq _ _
 intro I hI;have key:=aZ (α:=Sl×World) ids.length (fun i y=>y.2.ownsRow c.heap.size aT 1 y.1.v y.1.n (((ap s T).itemsAll (ids.take i)).flatMap an)∧ZH c y.2) (fun i y=>I [.int .i64 (i:Int),y.1.v] y.2) (cW,c) ⟨bE _ _ _ _ an,Below.refl _ _⟩ ?_ ?_
 ·exact key
 ·rintro i Y ih ⟨a,q⟩ ⟨b,X⟩;change q.ownsRow c.heap.size aT 1 a.v a.n _ at b;change ZH c q at X;have a5:=(bO.of_own co b).n;have B:=ir (s:=s) h.ok (ids.take i);rw [List.length_take,Nat.min_eq_left (by omega)]at B;have P:(ap s T).itemsAll (ids.take (i+1))=(ap s T).itemsAll (ids.take i)++(ap s T).items ids[i]:=by
   rw [List.take_add_one,XK Y,Voc.itemsAll_append];simp [Voc.itemsAll]
  rw [P]at ih;generalize(ap s T).itemsAll (ids.take i)=o at b a5 B ih;refine hI _ a.a a.n a.c q (ac.yes (by simp;omega) ?_);intro J hJ w4 S;have K:∀(l:Sl) (v:World),v.ownsRow c.heap.size aT 1 l.v l.n ((o++(ap s T).items ids[i]).flatMap an)→ZH c v→J [.slice l.a l.n l.c] v:=fun l v h1 h2=>hJ l.a l.n l.c v (Ar.nat (i+1) rfl (by omega) (ih (l,v) ⟨h1,h2⟩));have b4:ZH q w4:=by subst S;exact aU q
  have G:=ae X b4;have N:w4.ownsRow c.heap.size aT 1 a.v a.n (o.flatMap an):=by subst S;exact eA b
  have hw:=ae u G;obtain⟨p,hp,c0⟩:=a_ (hr.on hw) Y rfl;refine⟨_,_,_,_,_,_,_,_,_,_,_,_,_,_,_,rf (aj G l1),ag.mk p hp ⟨by omega,by omega,_,c0,?_⟩⟩;refine(od w4 x s T (h.on hw) ids[i]).mono ?_;rintro e w5 ⟨rfl,b5⟩;have r:=ae G b5;have j:=aE N b5;have hw5:=ae u r;refine⟨_,rfl,?_⟩;cases hm:fA s.specials ids[i]with
  |some k=>
   have n:gp s ids[i]= -1- (k:Int):=by rw [gp,hm];rfl
   have M:(ap s T).items ids[i]= [-1- (k:Int)]:=by
    unfold Voc.items Voc.place;rw [show(ap s T).sp.idxOf? ids[i]=some k from hm]
   rw [n];refine ac.yes (XJ (by omega)) ?_;intro w6 hw6;obtain⟨z,w7,a3,m,d,F,_⟩:=co.push j (-1- (k:Int)) hw6 rfl r.size (by omega) (by decide);exact⟨z.a,z.n,z.c,w7,m,K z w7 (by rw [M];exact d) (F _ r)⟩
  |none=>
   have n:gp s ids[i]=0:=by rw [gp,hm];rfl
   have M:(ap s T).items ids[i]=bf (bj T ids[i]):=by
    unfold Voc.items Voc.place;rw [show(ap s T).sp.idxOf? ids[i]=none from hm];rfl
   have L:bH T ids[i]:=by
    rcases hh _ (List.getElem_mem Y)with ht |ht
    ·exact(fV h.ok _).2 ht
    ·exact absurd ht (List.idxOf?_eq_none_iff.1 hm)
   rw [n];refine ac.no rfl ?_;intro w8 U;have b8:ZH w5 w8:=by subst U;exact aU w5
   have H:=ae r b8;have E:=ae u H;have O:w8.ownsRow c.heap.size aT 1 a.v a.n (o.flatMap an):=by subst U;exact eA j
   obtain⟨p',a6,a0⟩:=a_ (hr.on E) Y rfl;obtain⟨f,he,a1⟩:=ee L;have hin1:=L.1;have hin2:=L.2;have ht1:=h.t.n1;obtain⟨pb,a7,_,a2⟩:=((h.on E).t.r1) ids[i].toNat f.1 (by rw [List.getElem?_map,he];rfl);have cb:=a2 0 _ rfl;rw [aC]at cb;have Z:=h.ok.short f (List.mem_of_getElem? he);rw [M,a1]at K;refine⟨x.t.b.a,x.t.b.n,x.t.b.c,by rw [Addr.add_add];exact ai _ _ (aj H l1) 0,ag.mk p' a6 ⟨by omega,by omega,_,a0,ag.mk pb a7 ⟨by omega,by omega,_,cb,?_⟩⟩⟩;intro I2 Q;have V:=aZ (α:=Sl×World) f.1.length (fun k y=>y.2.ownsRow c.heap.size aT 1 y.1.v y.1.n ((o++bf (f.1.take k)).flatMap an)∧ZH c y.2) (fun k y=>I2 [.int .i64 (k:Int),y.1.v] y.2) (a,w8) ⟨by simpa [bf]using O,H⟩ ?_ ?_
   ·exact V
   ·rintro k hk ih2 ⟨l,v⟩ ⟨n,g⟩;change v.ownsRow c.heap.size aT 1 l.v l.n _ at n;change ZH c v at g;have a4:=(bO.of_own co n).n;rw [List.length_append]at a4;have:(bf (f.1.take k)).length≤64:=by simp [bf];omega
    refine Q _ l.a l.n l.c v (ac.yes (by rw [aP];simp;omega) ⟨by omega,by rw [aP];omega,?_⟩);intro w10 D;rw [dB _ k hk,u_]at D;obtain⟨z,W,a3,m,d,F,_⟩:=co.push n ((f.1[k].toNat:Nat):Int) D rfl g.size (by omega) (by decide);refine⟨z.a,z.n,z.c,W,m,Ar.nat (k+1) rfl (by omega) (ih2 (z,W) ⟨?_,F _ g⟩)⟩;rw [mu _ k hk, ←List.append_assoc];exact d
   ·rintro⟨l,v⟩ ⟨n,g⟩;change v.ownsRow c.heap.size aT 1 l.v l.n _ at n;change ZH c v at g;rw [List.take_length]at n;exact Q _ l.a l.n l.c v (ac.no (by rw [aP];simp) (K l v n g))
 ·rintro⟨a,q⟩ ⟨b,X⟩;rw [List.take_length]at b;exact hI _ a.a a.n a.c q (ac.no (by simp) ⟨a,rfl,bO.of_own co b,ae u X⟩)
def fg (b:UInt8):List Value:=[.int .u8 ((b.toNat:Nat):Int)]
theorem kU (l:List UInt8):l.flatMap fg=Lib.byteCells l:=by
 induction l with
 |nil=>rfl
 |cons b l ih=>rw [List.flatMap_cons,ih];rfl
theorem xy:Du fg 1 ic kI 1:=⟨fun _=>rfl,by decide,fun x u hu=>by rw [List.mem_singleton.1 hu];rfl,gc,_,Fq,rfl⟩
theorem sL {w:World} {B:Nat} {e:TypeId} {sz:Nat} {k:Nat} (h:w.heap[k]? =some (.cells #[] e (0,0))) (hB:B≤k):w.ownsRow B e sz (.slice (some ⟨k,0,none⟩) 0 0) 0 []:=
 ⟨by simp,.inr ⟨k,0,#[],rfl,hB,h,XV _,by simp⟩⟩
theorem DX {cut:Int→Int→Bool} {A B:List Int} (h:A= []∨B= []∨∃x y,A.getLast?=some x∧B.head?=some y∧cut x y=true):chop cut (A++B)=chop cut A++chop cut B:=by
 rcases h with rfl |rfl |⟨x,y,hx,hy,hc⟩
 ·rfl
 ·simp [chop]
 ·obtain⟨d,c⟩:=dR (cut:=cut) A;obtain⟨f,g⟩:=dR (cut:=cut) B;rcases List.eq_nil_or_concat (chop cut A)with e |⟨a,p,e⟩
  ·rw [e]at c;rw [←c]at hx;cases hx
  ·rw [List.concat_eq_append]at e;rw [e]at d c⊢;have j:=(d.append).2.head.1;have b:p.getLast?=some x:=by
    rw [←c,List.flatten_append,List.flatten_cons,List.flatten_nil,List.append_nil,dH _ j]at hx;exact hx
   have:=fL (cut:=cut) (a++p::chop cut B) (d.glue f fun q r k=>by
    rw [k]at f g;have i:=f.head.1;rw [←g,List.flatten_cons,li _ i]at hy;exact⟨x,y,b,hy,hc⟩)
   rw [show(a++p::chop cut B).flatten=A++B by rw [←c];conv=>rhs;rw [←g]
                                              simp]at this
   rw [this];simp
theorem tD {c c':Int→Int→Bool}:∀l:List Int,(∀x∈l,∀y∈l,c x y=c' x y)→chop c l=chop c' l
 | [],_=>rfl
 | [x],_=>rfl
 |x::y::r,h=>by
  have ih:=tD (c:=c) (c':=c') (y::r) fun a ha b hb=>h a (by simp [ha]) b (by simp [hb]);simp only [chop];rw [h x (by simp) y (by simp),ih]
theorem Voc.encode_split (V:Voc) {A B:List Int} (h:A= []∨B= []∨∃x y,A.getLast?=some x∧B.head?=some y∧V.cut x y=true):V.encode (A++B)=V.encode A++V.encode B:=by
 unfold Voc.encode;rw [DX h,List.flatMap_append]
def Kw (P:List Int):Prop:=P= []∨∃x,P.getLast?=some x∧x<0
theorem Voc.encode_after (V:Voc) {P R:List Int} (h:Kw P):V.encode (P++R)=V.encode P++V.encode R:=by
 refine V.encode_split ?_;rcases h with h |⟨x,b,a⟩
 ·exact .inl h
 ·cases R with
  |nil=>exact .inr (.inl rfl)
  |cons y R=>exact .inr (.inr ⟨x,y,b,rfl,by simp [Voc.cut,a]⟩)
theorem Voc.encode_mark (V:Voc) {P:List Int} {x:Int} (hx:x<0):V.encode (P++ [x])=V.encode P++ [V.sp.getD (-1-x).toNat 0]:=by
 rw [V.encode_split (A:=P) (B:=[x])]
 ·congr 1;unfold Voc.encode;simp [chop,Voc.encP,hx]
 ·rcases List.eq_nil_or_concat P with e |⟨a,b,e⟩
  ·exact .inl e
  ·exact .inr (.inr ⟨b,x,by rw [e];simp,rfl,by simp [Voc.cut,hx]⟩)
theorem Voc.encode_bytes (V:Voc) {b:Bs} {ps:List Bs} (h:ps.map bf=chop V.cutB (bf b)):V.encode (bf b)=ps.flatMap fun p=>after V.ms V.ms.length (bf p):=by
 unfold Voc.encode;rw [tD (c:=V.cut) (c':=V.cutB) _ fun x j y l=>pe V (jC _ x j).1 (jC _ y l).1];obtain⟨g,i⟩:=dR (cut:=V.cutB) (bf b);have d:∀p∈ps,bf p≠ []:=by
  intro p f;have a:bf p∈chop V.cutB (bf b):=by rw [←h];exact List.mem_map_of_mem f
  clear h i f;revert a;generalize chop V.cutB (bf b)=c at g;induction c with
  |nil=>intro a;cases a
  |cons q c ih=>
   intro a;rcases List.mem_cons.1 a with e |a
   ·rw [e];exact g.head.1
   ·exact ih g.tail a
 rw [←h];clear h g i;induction ps with
 |nil=>rfl
 |cons p ps ih=>
  rw [List.map_cons,List.flatMap_cons,List.flatMap_cons,ih fun q k=>d q (by simp [k])];congr 1;have:=d p (by simp);cases f:bf p with
  |nil=>exact absurd f this
  |cons x r=>
   have j:=(jC p x (by rw [f];simp)).1;unfold Voc.encP;dsimp only;rw [if_neg (by omega)]
theorem qR {cut:Int→Int→Bool}:∀l:List Int,(chop cut l).length≤l.length
 | []=>XV _
 | [x]=>XV _
 |x::y::r=>by
  have ih:=qR (cut:=cut) (y::r);simp only [chop];split
  ·simp only [List.length_cons]at ih⊢;omega
  ·cases hc:chop cut (y::r)with
   |nil=>simp
   |cons p ps=>
    rw [hc]at ih;simp only [List.length_cons]at ih⊢;omega
theorem nK {α:Type} {f:List Int→List α} (hf:∀p,(f p).length≤p.length):∀l:List (List Int),(l.flatMap f).length≤l.flatten.length
 | []=>XV _
 |p::l=>by
  have:=hf p;have:=nK hf l;rw [List.flatMap_cons,List.flatten_cons,List.length_append,List.length_append];omega
theorem Gb {w:World} {B:Nat} {e:TypeId} {sz:Nat} {l:Sl} {xs:List Value} (h:w.ownsRow B e sz l.v l.n xs):l.n≤l.c:=by
 obtain⟨a,c,e,b⟩:=iI h;have e:Value.slice l.a l.n l.c= .slice a l.n c:=e;simp only [Value.slice.injEq]at e;omega
theorem pW (w:World) (x:nI) (s:am) (T:List aX) (h:ij w x s T) (A:Option Addr) (C:Nat) (Z:List Int) (hr:Rw an 1 w A Z) (hl:Z.length≤1000000) (hZ:(ap s T).Items Z):CP 89 #[x.v,.slice A Z.length C] w fun e w'=>∃l:Sl,e= .returned l.v∧bO an 1 w' l ((ap s T).encode Z)∧ZH w w'∧(∀p,l.a=some p→w.heap.size≤p.block)∧l.n≤l.c:=by
 refine aV (EC x.t.b.a x.t.b.n x.t.b.c x.t.m.a x.t.m.n x.t.m.c x.b.b.a x.b.b.n x.b.b.c x.b.m.a x.b.m.n x.b.m.c x.sp.a x.sp.n x.sp.c A Z.length C w) ?_;intro t hw1 w2 hw2;have a1:ZH w t:=by subst hw1;exact ah _ _
 have b2:ZH t w2:=by subst hw2;exact ah _ _
 have l1:t.heap[w.heap.size]? =some (.cells x.cells Jz (0,0)):=by subst hw1;exact aq _ _
 have l2:w2.heap[t.heap.size]? =some (.cells #[] kI (0,0)):=by subst hw2;exact aq _ _
 have hfew:=h.few;have hvok:=h.vok;have hsn:=h.sn;intro I hI;let V:=ap s T;let Mid (i:Nat) (y:Sl×Sl×World):Prop:=∃(P:List Int) (r:Bs),Z.take i=P++bf r∧Kw P∧y.2.2.ownsRow t.heap.size aT 1 y.2.1.v y.2.1.n ((V.encode P).flatMap an)∧y.2.1.n≤P.length∧y.2.2.ownsRow t.heap.size kI 1 y.1.v y.1.n (r.flatMap fg)∧ZH t y.2.2;let End (y:Sl×Sl×World):Prop:=y.2.2.ownsRow t.heap.size aT 1 y.2.1.v y.2.1.n ((V.encode Z).flatMap an)∧ZH t y.2.2;let Inv (i:Nat) (y:Sl×Sl×World):Prop:=(i≤Z.length∧Mid i y)∨(i=Z.length+1∧End y);have key:=aZ (α:=Sl×Sl×World) (Z.length+1) Inv (fun i y=>I [.int .i64 (i:Int),y.1.v,y.2.1.v] y.2.2) (⟨some (nb t),0,0⟩,cW,w2) (.inl ⟨Nat.zero_le _,[],[],rfl,.inl rfl,bE _ _ _ _ an,XV _,sL l2 (XV _),b2⟩) ?_ ?_
 ·exact key
 ·rintro i hi ih ⟨g,d,q⟩ a4;obtain⟨P,r,hP,hPm,B,hon,L,hB⟩:Mid i (g,d,q):=by
   rcases a4 with⟨_,h⟩ |⟨e,_⟩
   ·exact h
   ·omega
  change q.ownsRow t.heap.size aT 1 d.v d.n _ at B;change d.n≤P.length at hon;change q.ownsRow t.heap.size kI 1 g.v g.n _ at L;change ZH t q at hB;have hrn:=(bO.of_own xy L).n;have hPr:P.length+r.length=i:=by
   have:=congrArg List.length hP;rw [List.length_take,List.length_append,Nat.min_eq_left (by omega)]at this;simpa [bf]using this.symm
  have hw:=ae a1 hB;refine hI _ g.a g.n g.c d.a d.n d.c q (ac.yes (by simp;omega) ?_);intro J hJ;have hJ':∀(r' o':Sl) (v:World),Inv (i+1) (r',o',v)→J [.slice r'.a r'.n r'.c,.slice o'.a o'.n o'.c] v:=fun r' o' v hv=>hJ r'.a r'.n r'.c o'.a o'.n o'.c v (Ar.nat (i+1) rfl (by omega) (ih (r',o',v) hv));have K:(i<Z.length→∃z,Z[i]? =some z∧z<0)→
    ∃g0A:Option Addr,∃g0N:Nat,∃g0C:Nat,∃g1A:Option Addr,∃g1N:Nat,∃g1C:Nat,(q.cell? ((nb w).add 2)=some (Value.slice g0A g0N g0C)∧q.cell? (((nb w).add 2).add 1)=some (Value.slice g1A g1N g1C)∧True)∧
    ∃s_1:ByteArray,∃w7:World,(convert ic dN (Value.slice g.a g.n g.c)).run Tryz.prog q= .ok (Value.string s_1) w7∧
    CP 45 #[Value.agg #[Value.slice g0A g0N g0C,Value.slice g1A g1N g1C],Value.string s_1] w7 (fun e8 w8=>
    ∃lA:Option Addr,∃lN:Nat,∃lC:Nat,e8= .returned (Value.slice lA lN lC)∧
    ∀W:List Value→World→Prop,(∀k:Int,∀oA:Option Addr,∀oN:Nat,∀oC:Nat,∀w9:World,(ac (decide ((k:Int) < ((lN:Nat):Int)))
     (∀M:World,M=w9.drew→
      ∃h0A:Option Addr,∃h0N:Nat,∃h0C:Nat,∃h1A:Option Addr,∃h1N:Nat,∃h1C:Nat,(M.cell? ((nb w).add 0)=some (Value.slice h0A h0N h0C)∧M.cell? (((nb w).add 0).add 1)=some (Value.slice h1A h1N h1C)∧True)∧
      ag lA (fun pa=>(0:Int)≤k∧k< ((lN:Nat):Int)∧
      ∃s_2:ByteArray,M.cell? (pa.add ((k:Int).toNat*1))=some (Value.string s_2)∧
      CP 109 #[Value.agg #[Value.slice h0A h0N h0C,Value.slice h1A h1N h1C],Value.string s_2] M (fun e11 w11=>
      ∃mA:Option Addr,∃mN:Nat,∃mC:Nat,e11= .returned (Value.slice mA mN mC)∧
      ∃nA:Option Addr,∃nN:Nat,∃nC:Nat,∃S:World,(Builtin.append_ #[bQ,bQ] bQ #[Value.slice oA oN oC,Value.slice mA mN mC]).run Tryz.prog w11= .ok (Value.slice nA nN nC) S∧
      Ar .i64 ((k:Int)+1) (fun n=>W [Value.int .i64 n,Value.slice nA nN nC] S))))
     (∀F:World,F=w9.alloc (.cells #[] kI)→
      ac (decide ((i:Int) < ((Z.length:Nat):Int)))
       (∀N:World,N=F.drew→
        ∃lA:Option Addr,∃lN:Nat,∃lC:Nat,N.cell? ((nb w).add 4)=some (Value.slice lA lN lC)∧
        ag A (fun pa=>(0:Int)≤(i:Int)∧(i:Int) < ((Z.length:Nat):Int)∧
        ∃n_38:Int,N.cell? (pa.add ((i:Int).toNat*1))=some (Value.int .i64 n_38)∧
        Ar .i64 ((-1:Int)-n_38) (fun aa=>
        ag lA (fun pb=>(0:Int)≤aa∧aa< ((lN:Nat):Int)∧
        ∃n_41:Int,N.cell? ((pb.add ((aa:Int).toNat*2)).add 0)=some (Value.int .i64 n_41)∧
        ∀w15:World,w15=N.alloc (.cells #[Value.int .i64 n_41] aT)→
        ∃nA:Option Addr,∃nN:Nat,∃nC:Nat,∃U:World,(Builtin.append_ #[bQ,bQ] bQ #[Value.slice oA oN oC,Value.slice (some (nb N)) 1 1]).run Tryz.prog w15= .ok (Value.slice nA nN nC) U∧
        J [Value.slice (some (nb w9)) 0 0,Value.slice nA nN nC] U))))
       (J [Value.slice (some (nb w9)) 0 0,Value.slice oA oN oC] F)))→W [Value.int .i64 k,Value.slice oA oN oC] w9)→
    W [Value.int .i64 0,Value.slice d.a d.n d.c] w8):=by
   intro hcase;refine⟨_,_,_,_,_,_,Fg (aj hB l1) 2 rfl rfl,str r,q,eQ (P:=Tryz.prog) gc vP m' (by rw [←kU];exact L),?_⟩;refine(sQ q x.b s.classes s.joins (h.on hw).b hfew.2.1 hfew.2.2 r (by omega)).mono ?_;rintro e w8 ⟨l,H,rfl,hlo,hps,b8⟩;have hB8:=ae hB b8;have henc:V.encode (P++bf r)=V.encode P++H.flatMap fun p=>after V.ms V.ms.length (bf p):=by rw [V.encode_after hPm,V.encode_bytes hps]
   have a0:=(dR (cut:=cutB s.classes s.joins) (bf r)).2;rw [←hps]at a0;have hplen:∀p∈H,p.length≤r.length:=by
    intro p hp;have h1:=congrArg List.length a0;obtain⟨a,b,e⟩:=List.append_of_mem hp;rw [e]at h1;simp [bf]at h1;omega
   have a3:∀k,((H.take k).flatMap fun p=>after V.ms V.ms.length (bf p)).length≤r.length:=by
    intro k;have h1:=congrArg List.length a0;have h2:=nK (f:=after V.ms V.ms.length) (fun p=>iw V.ms p _ (XV _)) ((H.take k).map bf);have h3:((H.take k).map bf).flatten.length≤((H.map bf).flatten).length:=by
     conv=>rhs;rw [←List.take_append_drop k H]
     rw [List.map_append,List.flatten_append,List.length_append];omega
    rw [List.flatMap_map]at h2;have h4:(bf r).length=r.length:=by simp [bf]
    exact XW h2 (by omega)
   have hln:=(bO.of_own As hlo).n;have hpsl:H.length≤r.length:=by
    have:=qR (cut:=cutB s.classes s.joins) (bf r);rw [←hps]at this;simpa [bf]using this
   refine⟨l.a,l.n,l.c,rfl,?_⟩;intro W hI15;have key2:=aZ (α:=Sl×World) H.length (fun k y=>y.2.ownsRow t.heap.size aT 1 y.1.v y.1.n ((V.encode P++(H.take k).flatMap fun p=>after V.ms V.ms.length (bf p)).flatMap an)∧y.2.ownsRow t.heap.size dN 1 l.v l.n (H.flatMap cz)∧ZH t y.2) (fun k y=>W [.int .i64 (k:Int),y.1.v] y.2) (d,w8) ⟨by simpa using aE B b8,aS hlo hB.size,hB8⟩ ?_ ?_
   ·exact key2
   ·rintro k hk ih2 ⟨o,v⟩ ⟨R,hlv,Q⟩;change v.ownsRow t.heap.size aT 1 o.v o.n _ at R;change v.ownsRow t.heap.size dN 1 l.v l.n _ at hlv;change ZH t v at Q;have a8:=(bO.of_own co R).n;have hk2:=a3 k;have hk3:=(bO.of_own co B).n;rw [List.length_append]at a8;refine hI15 _ o.a o.n o.c v (ac.yes (by simp;omega) ?_);intro M hw10;have b10:ZH v M:=by subst hw10;exact aU v
    have Y:=ae Q b10;have a6:=aE hlv b10;obtain⟨p,hp,c0⟩:=a_ ((bO.of_own As a6).r) hk rfl;refine⟨_,_,_,_,_,_,Fg (aj Y l1) 0 rfl rfl,ag.mk p hp ⟨by omega,by omega,_,c0,?_⟩⟩;have hpk:=hplen _ (List.getElem_mem hk);refine(CX M x.t T (h.on (ae a1 Y)).t h.ok H[k] (by omega)).mono ?_;rintro e w11 ⟨m,rfl,hm,b11⟩;have hB11:=ae Y b11;have hmn:=hm.n;have hal:=iw (au T) (bf H[k]) _ (XV _);have:(bf H[k]).length=H[k].length:=by simp [bf]
    obtain⟨G,S,hn',E,D,X,u,_⟩:=co.spread (aE (aE R b10) b11) hm hB11.size (by omega) (by omega) (by decide);have a5:=aE a6 b11;refine⟨m.a,m.n,m.c,rfl,G.a,G.n,G.c,S,E,Ar.nat (k+1) rfl (by omega) (ih2 (G,S) ⟨?_,aN a5 fun j hj=>u j (bL a5 j hj).2 (cj a5 (aE (aE R b10) b11) (by decide) j hj),X _ hB11⟩)⟩;have e:(V.encode P++(H.take (k+1)).flatMap fun p=>after V.ms V.ms.length (bf p))=(V.encode P++(H.take k).flatMap fun p=>after V.ms V.ms.length (bf p))++after V.ms V.ms.length (bf H[k]):=by
     rw [List.take_add_one,XK hk];simp only [List.flatMap_append,Option.toList_some,List.flatMap_cons,List.flatMap_nil,List.append_nil,List.append_assoc]
    show S.ownsRow t.heap.size aT 1 G.v G.n _;rw [e];exact D
   ·rintro⟨o,v⟩ ⟨R,hlv,Q⟩;change v.ownsRow t.heap.size aT 1 o.v o.n _ at R;change ZH t v at Q;rw [List.take_length, ←henc]at R;have a8:=(bO.of_own co R).n;have honP:o.n≤i:=by
     have h1:=a3 H.length;have h2:=(bO.of_own co B).n;rw [a8,henc,List.length_append];rw [List.take_length]at h1;omega
    refine hI15 _ o.a o.n o.c v (ac.no (by simp;omega) ?_);intro F hw13;have b13:ZH v F:=by subst hw13;exact ah _ _
    have n13:F.heap[v.heap.size]? =some (.cells #[] kI (0,0)):=by subst hw13;exact aq _ _
    have hB13:=ae Q b13;have a7:=aE R b13;refine ac.mk (fun c=>?_) fun c=>?_
    ·have c:i<Z.length:=by have:=XQ c;omega
     obtain⟨z,hz,hz0⟩:=hcase c;intro N hw14;have b14:ZH F N:=by subst hw14;exact aU F
     have O:=ae hB13 b14;have a9:=ae a1 O;have hgz:Z[i]=z:=by rw [XK c]at hz;exact Option.some.inj hz
     obtain⟨p,hp,c0⟩:=a_ (hr.on a9) c rfl;have hlow:=(hZ z (by rw [←hgz];exact List.getElem_mem c)).1;have hspl:V.sp.length=s.specials.length:=by simp [V,ap]
     have hlow: -(s.specials.length:Int)≤z:=by rw [←hspl];exact hlow
     have hkz:(-1-z).toNat<s.specials.length:=by omega
     obtain⟨ps',hps',_,hc'⟩:=((h.on a9).sr) (-1-z).toNat _ (XK hkz);rw [hgz]at c0;refine⟨_,_,_,ai _ _ (aj O l1) 4,ag.mk p hp ⟨by omega,by omega,z,c0,Ar.nat (-1-z).toNat (by omega) (by omega) (ag.mk ps' hps' ⟨by omega,by omega,_,hc' 0 _ rfl,?_⟩)⟩⟩;intro w15 hw15;have ho14:=aE a7 b14;obtain⟨G,U,hn',E,D,X,u⟩:=co.push ho14 _ hw15 rfl O.size (by omega) (by decide);have n14:=aj b14 n13;refine⟨G.a,G.n,G.c,U,E,hJ' ⟨some (nb v),0,0⟩ G U (.inl ⟨c,P++bf r++ [z],[],?_,.inr ⟨z,by simp,hz0⟩,?_,?_,?_,X _ O⟩)⟩
     ·rw [List.take_add_one,hz,hP];simp [bf]
     ·show U.ownsRow t.heap.size aT 1 G.v G.n _;rw [V.encode_mark hz0];have hget:V.sp.getD (-1-z).toNat 0=s.specials[(-1-z).toNat].1:=by
       show(s.specials.map (·.1)).getD _ 0=_;simp [List.getD,XK hkz]
      rw [hget];exact D
     ·show G.n≤_;simp [bf];omega
     ·refine sL ?_ Q.size;rw [u _ (XY.1 n14).1 (az ho14 n14 (by decide))];exact n14
    ·have c:i=Z.length:=by have:=XX c;omega
     refine hJ' ⟨some (nb v),0,0⟩ o F (.inr ⟨by omega,?_,hB13⟩);show F.ownsRow t.heap.size aT 1 o.v o.n _;rw [←hP,c,List.take_length]at a7;exact a7
  refine ac.mk (fun c=>?_) fun c=>K (fun e=>absurd (show(i:Int) < (Z.length:Int) by omega) (XX c));have c:i<Z.length:=by have:=XQ c;omega
  obtain⟨p,hp,c0⟩:=a_ (hr.on hw) c rfl;refine ag.mk p hp ⟨by omega,by omega,_,c0,ac.mk (fun hge=>?_) fun hge=>K fun _=>⟨Z[i],XK c,by have:=XX hge;omega⟩⟩;have hge:0≤Z[i]:=XQ hge;have hup:=(hZ _ (List.getElem_mem c)).2;have hwr:IntKind.wrap .u8 Z[i]=Z[i]:=cL (by show(0:Int)≤_;omega) (by show _≤(255:Int);omega);refine ag.mk p hp ⟨by omega,by omega,_,c0,?_⟩;intro w5 hw5;rw [hwr]at hw5;have a2:Z[i]=(((UInt8.ofNat Z[i].toNat).toNat:Nat):Int):=by
   rw [UInt8.toNat_ofNat',Nat.mod_eq_of_lt (show Z[i].toNat<256 by omega)];omega
  obtain⟨G,w6,hn',E,D,X,u⟩:=xy.push L (UInt8.ofNat Z[i].toNat) hw5 (by show _= [Value.int .u8 (((UInt8.ofNat Z[i].toNat).toNat:Nat):Int)].toArray;rw [←a2]) hB.size (by omega) (by decide);refine⟨G.a,G.n,G.c,w6,E,hJ' G d w6 (.inl ⟨c,P,r++ [UInt8.ofNat Z[i].toNat],?_,hPm,?_,hon,D,X _ hB⟩)⟩
  ·rw [List.take_add_one,XK c,hP,lx, ←List.append_assoc];congr 1;show [Z[i]]= [(((UInt8.ofNat Z[i].toNat).toNat:Nat):Int)];rw [←a2]
  ·exact aN B fun j hj=>u j (bL B j hj).2 (cj B L (by decide) j hj)
 ·rintro⟨g,d,q⟩ a4;obtain⟨R,hB⟩:End (g,d,q):=by
   rcases a4 with⟨e,_⟩ |⟨_,h⟩
   ·omega
   ·exact h
  exact hI _ g.a g.n g.c d.a d.n d.c q (ac.no (by simp;omega) ⟨d,rfl,bO.of_own co R,ae a1 hB,fun p hp=>XW a1.size (iz R p hp),Gb R⟩)
theorem qT (w:World) (x:nI) (s:am) (T:List aX) (h:ij w x s T) (A:Option Addr) (C:Nat) (Z:List Int) (hr:Rw an 1 w A Z) (hl:Z.length≤1000000) (hZ:(ap s T).Items Z):CP 89 #[x.v,.slice A Z.length C] w fun e w'=>∃l:Sl,e= .returned l.v∧bO an 1 w' l ((ap s T).encode Z)∧ZH w w'∧∀p,l.a=some p→w.heap.size≤p.block:=
 (pW w x s T h A C Z hr hl hZ).mono fun _ _ ⟨l,e,h1,h2,h3,_⟩=>⟨l,e,h1,h2,h3⟩
theorem EY {s:am} {T:List aX} {Z:List Int}:((ap s T).encode Z).length≤Z.length:=by
 have h:=nK (f:=(ap s T).encP) (fun p=>by
  cases p with
  |nil=>exact XV _
  |cons x r=>
   unfold Voc.encP;dsimp only;split
   ·simp
   ·exact iw _ _ _ (XV _)) (chop (ap s T).cut Z)
 rwa [(dR Z).2]at h
theorem uy (w:World) (x:nI) (s:am) (T:List aX) (h:ij w x s T) (A:Option Addr) (C:Nat) (ids:List Int) (hr:Rw an 1 w A ids) (hl:ids.length≤10000) (hh:∀t∈ids,(ap s T).Has t):CP 29 #[x.v,.slice A ids.length C] w fun e w'=>e= .returned (.bool (decide ((ap s T).Canon ids)))∧ZH w w':=by
 refine aV (Ee x.t.b.a x.t.b.n x.t.b.c x.t.m.a x.t.m.n x.t.m.c x.b.b.a x.b.b.n x.b.b.c x.b.m.a x.b.m.n x.b.m.c x.sp.a x.sp.n x.sp.c A ids.length C w) ?_;intro U D V P;have J:ZH w U:=by subst D;exact ah _ _
 have X:ZH U V:=by subst P;exact aU U
 have m:=ae J X;have S:V.heap[w.heap.size]? =some (.cells x.cells Jz (0,0)):=aj X (by subst D;exact aq _ _);refine⟨_,_,_,_,_,_,_,_,_,_,_,_,_,_,_,rf S,_,_,_,_,_,_,_,_,_,_,_,_,_,_,_,rf S,?_⟩;refine(uR V x s T (h.on m) A C ids (hr.on m) (by omega) hh).mono ?_;rintro e w3 ⟨⟨a,n,c⟩,rfl,hi,Y⟩;have v:=ae m Y;have hn:=hi.n;change n=_ at hn;subst hn;have hlen:=ir (s:=s) h.ok ids;refine⟨_,_,_,rfl,rf (aj Y S),?_⟩;refine(qT w3 x s T (h.on v) a c _ hi.r (by omega) (Voc.itemsAll_ok h.vok hh)).mono ?_;rintro e W ⟨l,rfl,he,b4,_⟩;have o:=ae v b4;have L:=EY (s:=s) (T:=T) (Z:=(ap s T).itemsAll ids);have z:=he.n;have B:=he.r;refine⟨l.a,l.n,l.c,rfl,?_⟩;have b:(ap s T).Canon ids↔(ap s T).encode ((ap s T).itemsAll ids)=ids:=Iff.rfl;generalize(ap s T).encode ((ap s T).itemsAll ids)=E at z B L b;refine ac.mk (fun r=>⟨?_,o⟩) fun r=>?_
 ·have r:¬(l.n:Int)=(ids.length:Int):=by simpa using r
  rw [XZ fun K=>r (by have:=b.1 K;rw [z,this])]
 ·have r:(l.n:Int)=(ids.length:Int):=by simpa using r
  intro I hI;have R:=aZ (α:=Bool×World) E.length (fun i y=>(∀j (u:j<E.length) (F:j<ids.length),j<i→E[j]=ids[j])∧ZH W y.2) (fun i y=>I [.int .i64 (i:Int),.bool y.1] y.2) (false,W) ⟨fun j _ _ hj=>absurd hj (Nat.not_lt_zero j),Below.refl _ _⟩ ?_ ?_
  ·exact R
  ·rintro i M ih ⟨y,q⟩ ⟨d,G⟩;change ZH W q at G;have N:i<ids.length:=by omega
   refine hI _ y q (ac.yes (by simp;omega) ?_);intro w6 Q;have b6:ZH q w6:=by subst Q;exact aU q
   have k:=ae G b6;have g:=ae o k;obtain⟨p,hp,c0⟩:=a_ (B.on k) M rfl;obtain⟨p',O,H⟩:=a_ (hr.on g) N rfl;refine ag.mk p hp ⟨by omega,by omega,_,c0,ag.mk p' O ⟨by omega,by omega,_,H,ac.mk (fun f=>⟨?_,g⟩) fun f=>Ar.nat (i+1) rfl (by omega) (ih (y,w6) ⟨fun j u F hj=>?_,k⟩)⟩⟩
   ·have f:¬E[i]=ids[i]:=by simpa using f
    rw [XZ fun K=>?_];have e:=b.1 K;subst e;exact f rfl
   ·by_cases e:j=i
    ·subst e;simpa using f
    ·exact d j u F (by omega)
  ·rintro⟨y,q⟩ ⟨d,G⟩;refine hI _ y q (ac.no (by simp;omega) ⟨?_,ae o G⟩);rw [XJ (b.2 (List.ext_getElem (by omega) fun j u F=>d j u F u))]
abbrev uF (x:nI):List Value:=[x.t.b.v,x.t.m.v,x.b.b.v,x.b.m.v,x.sp.v]
theorem pf (x:nI):∀v∈uF x,v.oneCell'=true:=by
 intro v a;simp only [uF,List.mem_cons,List.not_mem_nil,or_false]at a;rcases a with rfl |rfl |rfl |rfl |rfl<;>rfl
theorem rq (x:nI):∀v∈x.cells,¬mJ v:=by
 intro v a;simp only [List.mem_toArray,List.mem_cons,List.not_mem_nil,or_false]at a;rcases a with rfl |rfl |rfl |rfl |rfl<;>(rintro(⟨k,n,h⟩ |⟨s,h⟩)<;>cases h)
theorem pL.past {w w':World} {x:lK} {cls:List (Int×Int×Int)} {js:List (Int×Int)} {b:Nat} {c:Array Value} {T:TypeId} {fz:Nat×Nat} (h:pL w x cls js) (hb:w.heap[b]? =some (.cells c T fz)) (hc:∀v∈c,¬mJ v) (hne:∀j,j<w.heap.size→j≠b→w'.heap[j]? =w.heap[j]?) (hs:w.heap.size≤w'.heap.size):pL w' x cls js:=
 ⟨h.n1,h.r1.past (fun y=>⟨_,rfl,dq _ _⟩) hb hc hne hs,h.n2,h.r2.past (fun y=>⟨_,rfl,dq _ _⟩) hb hc hne hs⟩
theorem ij.past {w w':World} {x:nI} {s:am} {T:List aX} {b:Nat} {c:Array Value} {ty:TypeId} {fz:Nat×Nat} (h:ij w x s T) (hb:w.heap[b]? =some (.cells c ty fz)) (hc:∀v∈c,¬mJ v) (hne:∀j,j<w.heap.size→j≠b→w'.heap[j]? =w.heap[j]?) (hs:w.heap.size≤w'.heap.size):ij w' x s T:=
 ⟨⟨h.t.n1,h.t.r1.past (fun y=>⟨_,rfl,.inr ⟨_,rfl⟩⟩) hb hc hne hs,h.t.k1,h.t.n2,h.t.r2.past (fun y=>⟨_,rfl,dq _ _⟩) hb hc hne hs,h.t.k2⟩,h.b.past hb hc hne hs,h.sn,h.sr.past (fun y=>⟨_,rfl,dq _ _⟩) hb hc hne hs,h.ok,h.right,h.ids,h.nodup⟩
abbrev Lr:nI:=⟨⟨cW,cW⟩,⟨cW,cW⟩,cW⟩
theorem yv {s:am} {T:List aX} (h:dk s= .ok T) (hr:s.ranked=false):cI bU 0 s.merges= .ok T∧cr [] 0 s.specials=none∧(∀y∈s.specials,(T.length:Int)≤y.1):=by
 unfold dk qC at h;rw [hr]at h;simp only [Bool.false_eq_true,if_false]at h;cases ht:cI bU 0 s.merges with
 |error q=>rw [ht]at h;cases h
 |ok T'=>
  rw [ht]at h;dsimp only at h;cases hm:cr [] 0 s.specials with
  |some q=>rw [hm]at h;cases h
  |none=>
   rw [hm]at h;dsimp only at h;cases hf:s.specials.findIdx? (fun y=>decide (y.1< (T'.length:Int)))with
   |some i=>rw [hf]at h;cases h
   |none=>
    rw [hf]at h;cases h;refine⟨rfl,rfl,fun y a=>?_⟩;have:=List.findIdx?_eq_none_iff.1 hf y a;simpa using this
theorem wm (w:World) (x:bk) (s:am) (h:cY w x s) (hr:s.ranked=false) (hright:s.right=true) (T:List aX) (hT:dk s= .ok T):
  CP 33 #[x.v] w fun e w'=>∃y:nI,e= .returned (.tuple #[y.v,.int .i64 0,.int .i64 0,.int .i64 0])∧ij w' y s T∧ZH w w'∧kH w.heap.size y.t∧y.b=⟨x.s4,x.s5⟩∧y.sp=x.s3:=by
 obtain⟨X,z,A⟩:=yv hT hr;have l:=dz hright;have a0:(s.specials.map (·.1)).Nodup:=by simpa using mH z (by simp)
 refine aV (Fo x.ranked x.s1.a x.s1.n x.s1.c x.s2.a x.s2.n x.s2.c x.s3.a x.s3.n x.s3.c x.s4.a x.s4.n x.s4.c x.s5.a x.s5.n x.s5.c w) ?_;intro w1 H O K;have B:ZH w w1:=by subst H;exact ah _ _
 have b2:ZH w1 O:=by subst K;exact ah _ _
 have g:=ae B b2;have p2:O.heap[w.heap.size]? =some (.cells x.cells dp (0,0)):=aj b2 (by subst H;exact aq _ _);have z2:O.heap[w1.heap.size]? =some (.cells Lr.cells Jz (0,0)):=by subst K;exact aq _ _
 refine⟨_,_,_,_,_,_,_,_,_,_,_,_,_,_,_,_,dX p2,?_⟩;refine(wj O x s (h.on g) hr l.1).mono ?_;rintro e w3 ⟨u,rfl,t,n,e,rfl,b3,N⟩;rw [X]at N;obtain⟨rfl,rfl,ht,G,Z⟩:=N;refine⟨_,_,_,_,_,_,_,_,rfl,?_⟩;intro w4 a1;refine bg [cW.v,cW.v] [t.b.v,t.m.v] rfl (bX _ _) w4 a1 ?_;intro w5 h5 hz5 b5;have d:=ae b3 b5;have C:=ae g d;have p5:=aj d p2;have z5:=aj d z2;refine ac.no rfl ⟨_,_,_,ai _ _ p5 3,?_⟩;have k:=h.n3;have hS:=(h.on C).r3;obtain⟨⟨U,n3,c3⟩,c⟩:∃y:Sl,y=x.s3:=⟨_,rfl⟩;have e3:n3=s.specials.length:=by rw [←c]at k;exact k
 have W:Rw aM 2 w5 U s.specials:=by rw [←c]at hS;exact hS
 rw [show x.s3.a=U by rw [←c],show x.s3.n=s.specials.length from k,show x.s3.c=c3 by rw [←c]];refine(mM w5 U c3 s.specials W l.2.2.1).mono ?_;rintro e P ⟨rfl,f⟩;have Y:kd s.specials= .tuple #[.int .i64 (s.specials.length:Int),.int .i64 0]:=by rw [kd,z]
 refine⟨_,_,by rw [Y],ac.no rfl ?_⟩;have D:=ae C f;intro I hI;have a2:=aZ (α:=Int×Int×Int×World) s.specials.length (fun i y=>ZH P y.2.2.2) (fun i y=>I [.int .i64 (i:Int),.int .i64 y.1,.int .i64 y.2.1,.int .i64 y.2.2.1] y.2.2.2) (0,0,0,P) (Below.refl _ _) ?_ ?_
 ·exact a2
 ·rintro i hi ih ⟨S,R,Q,q⟩ b;change ZH P q at b;have m:=aj b (aj f p5);have hfew:=l.2.2.1;refine hI _ S R Q q ⟨_,_,_,ai _ _ m 3,ac.yes (by simp;omega) ?_⟩;intro M J;have r:ZH q M:=by subst J;exact aU q
  have a:=ae b r;obtain⟨p,N,_,hc⟩:=((h.on (ae D a)).r3) i _ (XK hi);refine⟨_,_,_,ai _ _ (aj r m) 3,ag.mk p N ⟨by omega,by omega,_,hc 0 _ rfl,_,_,_,ai _ _ (aj a (aj f h5)) 0,ac.no ?_ (Ar.nat (i+1) rfl (by omega) (ih (S,R,Q,M) a))⟩⟩;have:=A _ (List.getElem_mem hi);have:=ht.n1;exact XZ (by omega)
 ·rintro⟨S,R,Q,q⟩ b;change ZH P q at b;have m:=aj b (aj f p5);have zq:=aj b (aj f z5);have tq:=aj b (aj f h5);have E:=ae D b;have o:=h.on E;refine hI _ S R Q q ⟨_,_,_,ai _ _ m 3,ac.no (by simp;omega) ⟨_,_,_,_,_,_,gj tq,_,_,_,ai _ _ m 4,_,_,_,ai _ _ m 5,_,_,_,ai _ _ m 3,?_⟩⟩;refine bo zq (uF ⟨t,⟨x.s4,x.s5⟩,x.s3⟩) rfl (pf ⟨t,⟨x.s4,x.s5⟩,x.s3⟩) ?_;intro w12 V F L v;have hv:ij q ⟨t,⟨x.s4,x.s5⟩,x.s3⟩ s T:=⟨((ht.on b5).on f).on b,⟨o.n4,o.r4,o.n5,o.r5⟩,o.n3,o.r3,G,hright,A,a0⟩;exact⟨_,_,_,_,_,_,_,_,_,_,_,_,_,_,_,rf (x:=⟨t,⟨x.s4,x.s5⟩,x.s3⟩) V,⟨t,⟨x.s4,x.s5⟩,x.s3⟩,rfl,hv.past zq (rq Lr) (fun j _ hj=>F j hj) (Nat.le_of_eq L.symm),v _ _ B.size E,Z.mono g.size,rfl,rfl⟩
theorem Fp (w:World) (x:bk) (s:am) (h:cY w x s) (hr:s.ranked=false) (hright:s.right=true) (T:List aX) (hT:dk s= .ok T):
  CP 42 #[x.v] w fun e w'=>∃y:nI,e= .returned y.v∧ij w' y s T∧ZH w w'∧kH w.heap.size y.t∧y.b=⟨x.s4,x.s5⟩∧y.sp=x.s3:=by
 refine aV (Fy x.ranked x.s1.a x.s1.n x.s1.c x.s2.a x.s2.n x.s2.c x.s3.a x.s3.n x.s3.c x.s4.a x.s4.n x.s4.c x.s5.a x.s5.n x.s5.c w) ?_;intro n d g f;have c:ZH w n:=by subst d;exact ah _ _
 have o:ZH n g:=by subst f;exact ah _ _
 have a:=ae c o;have E:g.heap[w.heap.size]? =some (.cells x.cells dp (0,0)):=aj o (by subst d;exact aq _ _);have G:g.heap[n.heap.size]? =some (.cells Lr.cells Jz (0,0)):=by subst f;exact aq _ _
 refine⟨_,_,_,_,_,_,_,_,_,_,_,_,_,_,_,_,dX E,?_⟩;refine(wm g x s (h.on a) hr hright T hT).mono ?_;rintro e H ⟨y,rfl,C,r,v,t,u⟩;refine⟨_,_,_,_,_,_,_,_,_,_,_,_,_,_,_,_,_,_,rfl,?_⟩;intro F l;refine bg (uF Lr) (uF y) rfl (pf y) F l ?_;intro I z D p;have b:=ae r p;have q:=aj b G;refine⟨_,_,_,_,_,_,_,_,_,_,_,_,_,_,_,rf (x:=y) z,?_⟩;refine bo q (uF y) rfl (pf y) ?_;intro J A k m i;exact⟨_,_,_,_,_,_,_,_,_,_,_,_,_,_,_,rf (x:=y) A,y,rfl,(C.on p).past q (rq Lr) (fun j _ B=>k j B) (Nat.le_of_eq m.symm),i _ _ c.size (ae a b),v.mono a.size,t,u⟩
abbrev Lq:TypeId:=25
abbrev SF:TypeId:=23
abbrev Tm:TypeId:=24
theorem eT:Du aM 2 Lq nH 24:=⟨fun _=>rfl,by decide,fun x=>eh _ _,tw,_,xb,rfl⟩
theorem Du.pushAt {α:Type} {enc:α→List Value} {sz bytes:Nat} {t e:TypeId} (E:Du enc sz t e bytes) {B:Nat} {w:World} {s:Sl} {xs:List α} (hown:w.ownsRow B e sz s.v s.n (xs.flatMap enc)) (x:α) {b:Nat} {T:TypeId} {fz:Nat×Nat} (hx:w.heap[b]? =some (.cells (enc x).toArray T fz)) (hB:B≤w.heap.size) (hn:s.n≤1000000000) (hb:bytes≤1000):
  ∃(l:Sl) (w4:World),l.n=s.n+1∧(Builtin.append_ #[t,t] t #[.slice s.a s.n s.c,.slice (some ⟨b,0,none⟩) 1 1]).run Tryz.prog w= .ok (.slice l.a l.n l.c) w4∧w4.ownsRow B e sz l.v l.n ((xs++ [x]).flatMap enc)∧(∀w0,Below B w0 w→Below B w0 w4)∧(∀k,k<w.heap.size→s.v.ownBlock≠some k→w4.heap[k]? =w.heap[k]?):=by
 obtain⟨z,i,a⟩:=E.hz;have c:(s.n+1)*bytes≤(1000000000+1)*1000:=Nat.mul_le_mul (by omega) hb;obtain⟨A,C,w4,d,f,g,h⟩:=oJ (enc:=enc) (sz:=sz) E.hsz E.h0 E.h1 t e E.ht i a hown x hx hB (by omega) (by omega);exact⟨⟨A,s.n+1,C⟩,w4,rfl,d,f,g,h⟩
theorem Rw.cut {α:Type} {enc:α→List Value} {sz:Nat} {w:World} {a:Option Addr} {xs:List α} (h:Rw enc sz w a xs) (i m:Nat) (hm:xs.length≤m):Rw enc sz w (bB a i m sz) (xs.drop i):=by
 intro j x b;rw [List.getElem?_drop]at b;have e:=(List.getElem?_eq_some_iff.1 b).1;obtain⟨p,rfl,f,c⟩:=h _ _ b;unfold bB;rw [if_neg (by omega)];refine⟨p.add (i*sz),rfl,by rw [ay];exact f,fun k v d=>?_⟩;rw [Addr.add_add p, ←Nat.add_mul];exact c k v d
theorem Rw.take {α:Type} {enc:α→List Value} {sz:Nat} {w:World} {a:Option Addr} {xs:List α} (h:Rw enc sz w a xs) (n:Nat):Rw enc sz w a (xs.take n):=by
 intro j x b;rw [List.getElem?_take]at b;split at b
 ·exact h j x b
 ·cases b
theorem tm:∀(xs ys:List (Int×Bs)) (i:Nat),cr ys i xs=none→∀x∈xs,bF x=true
 | [],_,_,_,x,hx=>by cases hx
 |y::xs,ys,i,h,x,hx=>by
  rw [cr]at h;split at h
  ·rename_i h0;rcases List.mem_cons.1 hx with rfl |hx
   ·cases hs:bF x with
    |true=>rfl
    |false=>rw [cP,if_pos hs]at h0;cases h0
   ·exact tm xs _ _ h x hx
  ·cases h
structure gX (w4 q:World) (m:Sl) (sp cl jn:Sl) (xs:List (Int×Bs)) (cls:List (Int×Int×Int)) (js:List (Int×Int)):Prop where
 blk:q.heap[w4.heap.size]? =some (.cells #[.bool false,m.v,cW.v,sp.v,cl.v,jn.v] dp (0,0))
 o1:q.ownsRow w4.heap.size nH 2 sp.v sp.n (xs.flatMap aM)
 o2:q.ownsRow w4.heap.size Hu 3 cl.v cl.n (cls.flatMap bS)
 o3:q.ownsRow w4.heap.size KI 2 jn.v jn.n (js.flatMap be)
 cok:cls.all bh=true
 jok:js.all cO=true
 mrk:cr [] 0 xs=none
 xid:∀y∈xs,1000≤y.1∧y.1<1006
 asc:(xs.map (·.1)).Pairwise (·< ·)
 l1:xs.length≤6
 l2:cls.length≤8
 l3:js.length≤8
 B:ZH w4 q
theorem gX.on {w4 q q':World} {m sp cl jn:Sl} {xs:List (Int×Bs)} {cls:List (Int×Int×Int)} {js:List (Int×Int)} (h:gX w4 q m sp cl jn xs cls js) (hb:ZH q q'):gX w4 q' m sp cl jn xs cls js:=
 ⟨aj hb h.blk,aE h.o1 hb,aE h.o2 hb,aE h.o3 hb,h.cok,h.jok,h.mrk,h.xid,h.asc,h.l1,h.l2,h.l3,h.B.trans (hb.mono h.B.size)⟩
def va (es:List aX) (xs:List (Int×Bs)) (cls:List (Int×Int×Int)) (js:List (Int×Int)):am:={merges:=au es,specials:=xs,classes:=cls,joins:=js}
theorem some_right {es:List aX} (h:fo es) {xs:List (Int×Bs)} {cls:List (Int×Int×Int)} {js:List (Int×Int)} (cok:cls.all bh=true) (jok:js.all cO=true) (mk:cr [] 0 xs=none) (l1:xs.length≤6) (l2:cls.length≤8) (l3:js.length≤8):(va es xs cls js).right=true:=by
 have b:=h.most;have i:=cE h;have c:cF (au es) 744 fp=true:=by
  rw [cF,XJ (by omega),Bool.true_and,List.all_eq_true];intro m b;obtain⟨k,a⟩:=List.getElem?_of_mem b;have g:=(List.getElem?_eq_some_iff.1 a).1;obtain⟨j,l⟩:=eZ h a;exact XJ (by omega)
 have d:cF xs 32 bF=true:=by
  rw [cF,XJ (by omega),Bool.true_and,List.all_eq_true];exact tm xs [] 0 mk
 have e:cF cls 64 bh=true:=by rw [cF,XJ (by omega),cok];rfl
 have f:cF js 64 cO=true:=by rw [cF,XJ (by omega),jok];rfl
 show(((((true&&cF (au es) 744 fp)&&cF ([]:List Bs) 744 gK)&&cF xs 32 bF)&&cF cls 64 bh)&&cF js 64 cO)=true;rw [c,d,e,f];rfl
theorem some_build {es:List aX} (h:fo es) (hnew:cI bU 0 (au es)= .ok es) {xs:List (Int×Bs)} {cls:List (Int×Int×Int)} {js:List (Int×Int)} (mk:cr [] 0 xs=none) (xid:∀y∈xs,1000≤y.1∧y.1<1006):dk (va es xs cls js)= .ok es:=by
 have b:=h.most;unfold dk qC va;simp only [Bool.false_eq_true,if_false,hnew,mk];have:xs.findIdx? (fun y=>decide (y.1< (es.length:Int)))=none:=by
  rw [List.findIdx?_eq_none_iff];intro y a;have:=xid y a;exact XZ (by omega)
 rw [this]
def kE (ys:List (Int×Bs)):Nat→List (Int×Bs)
 |0=>[]
 |i+1=>match cr [] 0 (kE ys i++ [(((1000+i:Nat):Int),(ys.getD i (0,[])).2)])with
  |none=>kE ys i++ [(((1000+i:Nat):Int),(ys.getD i (0,[])).2)]
  |some _=>kE ys i
theorem sY {ys:List (Int×Bs)} {i:Nat} (hi:i<ys.length):kE ys (i+1)=match cr [] 0 (kE ys i++ [(((1000+i:Nat):Int),ys[i].2)])with
  |none=>kE ys i++ [(((1000+i:Nat):Int),ys[i].2)]
  |some _=>kE ys i:=by
 have e:ys.getD i (0,[])=ys[i]:=by simp [List.getD,hi]
 rw [kE,e]
theorem jb {α:Type} (p:α→Bool) (xs:List α) {i:Nat} (hi:i<xs.length):(xs.take (i+1)).filter p=(xs.take i).filter p++(if p xs[i]=true then [xs[i]]else []):=by
 rw [List.take_add_one,XK hi,List.filter_append];cases h:p xs[i]<;>simp [h]
def someV (l:List Int) (cs:List (Int×Int×Int)) (gs:List (Int×Int)) (ys:List (Int×Bs)):am:=
 va (i_ l 30) (kE ys (min ys.length 6)) ((cs.take (min cs.length 8)).filter bh) ((gs.take (min gs.length 8)).filter cO)
def MC (s0:am) (w:World) (u:Value) (w':World):Prop:=∃(x:bk) (s:am) (T:List aX),u=x.v∧cY w' x s∧s.ranked=false∧s.right=true∧dk s= .ok T∧fo T∧s.specials.length≤6∧(∀y∈s.specials,1000≤y.1∧y.1<1006)∧(s.specials.map (·.1)).Pairwise (·< ·)∧s=s0∧ZH w w'
def xw (s0:am) (w:World) (u:Value) (w':World):Prop:=∃(x:bk) (s:am) (T:List aX),u=x.v∧cY w' x s∧s.ranked=false∧s.right=true∧dk s= .ok T∧fo T∧s.specials.length≤6∧(∀y∈s.specials,1000≤y.1∧y.1<1006)∧(s.specials.map (·.1)).Pairwise (·< ·)∧s=s0∧ZH w w'∧Wr w' x.s1 2 w.heap.size∧Wr w' x.s4 3 w.heap.size
theorem uN (w:World) (A1:Option Addr) (C1:Nat) (l:List Int) (h1:Rw uY 1 w A1 l) (A2:Option Addr) (C2:Nat) (cs:List (Int×Int×Int)) (h2:Rw bS 3 w A2 cs) (A3:Option Addr) (C3:Nat) (gs:List (Int×Int)) (h3:Rw be 2 w A3 gs) (A4:Option Addr) (C4:Nat) (ys:List (Int×Bs)) (h4:Rw aM 2 w A4 ys)
  (hc2:cs.length≤C2) (hc3:gs.length≤C3):
  CP 41 #[.slice A1 l.length C1,.slice A2 cs.length C2,.slice A3 gs.length C3,.slice A4 ys.length C4] w fun e w'=>∃u,e= .returned u∧xw (someV l cs gs ys) w u w':=by
 refine EI A1 l.length C1 A2 cs.length C2 A3 gs.length C3 A4 ys.length C4 w (xw (someV l cs gs ys) w) ?_;intro w1 hw1;have hb1:ZH w w1:=by subst hw1;exact ah _ _
 have z1:w1.heap[w.heap.size]? =some (.cells gu.cells dp (0,0)):=by subst hw1;exact aq _ _
 refine(uM w1 A1 C1 l (h1.on hb1)).mono ?_;rintro e w2 ⟨t,es,rfl,ht,htok,hnew,hes,b2,hWt⟩;refine⟨_,_,_,_,_,_,rfl,?_⟩;intro w3 hw3;refine bg [cW.v,cW.v] [t.b.v,t.m.v] rfl (bX _ _) w3 hw3 ?_;intro M h4' hz4 b4;have b14:=ae b2 b4;have hb4:=ae hb1 b14;have z4:=aj b14 z1;have hlt4:w.heap.size<M.heap.size:=(XY.1 z4).1;refine⟨_,_,_,ai _ _ h4' 1,?_⟩;intro w5 hw5;refine nh ⟨false,t.m,cW,cW,cW,cW⟩ w5 hw5 ?_;intro w6 h6 b6;have ht4:=ht.on b4;have fin:∀(q:World) (C m E:Sl) (xs:List (Int×Bs)) (d:List (Int×Int×Int)) (F:List (Int×Int)),gX M q t.m C m E xs d F→xs=kE ys (min ys.length 6)→d=(cs.take (min cs.length 8)).filter bh→F=(gs.take (min gs.length 8)).filter cO→
   aI q (nb w) (fun w7=>∃res0:Bool,∃res1A:Option Addr,∃res1N:Nat,∃res1C:Nat,∃res2A:Option Addr,∃res2N:Nat,∃res2C:Nat,∃res3A:Option Addr,∃res3N:Nat,∃res3C:Nat,∃res4A:Option Addr,∃res4N:Nat,∃res4C:Nat,∃res5A:Option Addr,∃res5N:Nat,∃res5C:Nat,(w7.cell? (nb w)=some (Value.bool res0)∧w7.cell? ((nb w).add 1)=some (Value.slice res1A res1N res1C)∧w7.cell? ((nb w).add 2)=some (Value.slice res2A res2N res2C)∧w7.cell? ((nb w).add 3)=some (Value.slice res3A res3N res3C)∧w7.cell? ((nb w).add 4)=some (Value.slice res4A res4N res4C)∧w7.cell? ((nb w).add 5)=some (Value.slice res5A res5N res5C)∧True)∧
    xw (someV l cs gs ys) w (bk.v ⟨res0,⟨res1A,res1N,res1C⟩,⟨res2A,res2N,res2C⟩,⟨res3A,res3N,res3C⟩,⟨res4A,res4N,res4C⟩,⟨res5A,res5N,res5C⟩⟩) w7)
   [Value.bool false,Value.slice t.m.a t.m.n t.m.c,Value.slice none 0 0,Value.slice C.a C.n C.c,Value.slice m.a m.n m.c,Value.slice E.a E.n E.c] 0:=by
  intro q C m E xs d F L ex ec ej;have zq:=Below.keeps L.B hlt4 z4;have I:ZH w q:=hb4.trans (L.B.mono (by omega));have r1:=bO.of_own eT L.o1;have r2:=Rw.of_own L.o2 (fun _=>rfl) (by decide);have r3:=Rw.of_own L.o3 (fun _=>rfl) (by decide);have htq:=ht4.on L.B;have hS:cY q ⟨false,t.m,cW,C,m,E⟩ (va es xs d F):=⟨rfl,htq.n2,htq.r2,rfl,fun j x hj=>(by cases hj),r1.n,r1.r,r2.2,r2.1,r3.2,r3.1⟩;refine uV (w:=w) (w6:=q) (fun x w7=>xw (someV l cs gs ys) w x.v w7) ⟨false,t.m,cW,C,m,E⟩ zq rfl ?_;intro w7 hB7 hs7;have hz7:q.heap.size≤w7.heap.size:=(hB7 q (Below.refl _ _)).size;exact⟨⟨false,t.m,cW,C,m,E⟩,va es xs d F,es,rfl,hS.past zq (by
   intro v Y;simp only [List.mem_toArray,List.mem_cons,List.not_mem_nil,or_false]at Y;rcases Y with rfl |rfl |rfl |rfl |rfl |rfl<;>(rintro(⟨k,n,h⟩ |⟨s,h⟩)<;>cases h)) (fun j _ hj=>hs7 j hj) hz7,rfl,some_right htok L.cok L.jok L.mrk L.l1 L.l2 L.l3,some_build htok hnew L.mrk L.xid,htok,L.l1,L.xid,L.asc,by rw [someV, ←hes, ←ex, ←ec, ←ej],hB7 w I,((((hWt.on b4).on L.B).base (show w.heap.size+1≤_ by have:=hb1.size;omega)).off (Nat.lt_succ_self _) hs7).base (Nat.le_succ _),(((Wr.of_own L.o2 (by decide)).base (show w.heap.size+1≤_ by omega)).off (Nat.lt_succ_self _) hs7).base (Nat.le_succ _)⟩
 have start:gX M w6 t.m cW cW cW [] [] []:=⟨h6,bE _ _ _ _ aM,bE _ _ _ _ bS,bE _ _ _ _ be,rfl,rfl,rfl,fun y H=>(by cases H),List.Pairwise.nil,Nat.zero_le _,Nat.zero_le _,Nat.zero_le _,b6⟩;have W:∀ {q:World} {C m E:Sl} {xs:List (Int×Bs)} {d:List (Int×Int×Int)} {F:List (Int×Int)},gX M q t.m C m E xs d F→C.v.ownBlock≠some M.heap.size∧m.v.ownBlock≠some M.heap.size∧E.v.ownBlock≠some M.heap.size:=fun h=>⟨az h.o1 h.blk (by decide),az h.o2 h.blk (by decide),az h.o3 h.blk (by decide)⟩;intro I4 hI4;have key:=aZ (α:=World) (min cs.length 8) (fun i q=>∃(m:Sl) (d:List (Int×Int×Int)),gX M q t.m cW m cW [] d []∧d.length≤i∧d=(cs.take i).filter bh) (fun i q=>I4 [.int .i64 (i:Int)] q) w6 ⟨cW,[],start,Nat.zero_le _,rfl⟩ ?_ ?_
 ·exact key
 ·rintro i hi ih q ⟨m,d,B,hcl,hce⟩;have A:i<cs.length:=by omega
  have hi2:i<8:=by omega
  refine hI4 _ _ (ac.yes (by simp;omega) (ac.yes (by simp;omega) ?_));intro J hJ;have N:∀(v:World) (m:Sl) (d:List (Int×Int×Int)),gX M v t.m cW m cW [] d []→d.length≤i+1→d=(cs.take (i+1)).filter bh→J [] v:=fun v m d h1 h2 h3=>hJ v (Ar.nat (i+1) rfl (by omega) (ih v ⟨m,d,h1,h2,h3⟩));have I:ZH w q:=hb4.trans (B.B.mono (by omega));have hbt:pL q ⟨⟨bB A2 i C2 3,i+1-i,C2-i⟩,cW⟩ [cs[i]] []:=by
   refine⟨by show i+1-i=1;omega,?_,rfl,fun j x hj=>by cases hj⟩;have:=((h2.on I).cut i C2 hc2).take 1;rw [List.drop_eq_getElem_cons A]at this;exact this
  refine Ar.nat (i+1) rfl (by omega) ⟨by omega,by omega,by omega,trivial,trivial,?_⟩;refine(mK q ⟨⟨bB A2 i C2 3,i+1-i,C2-i⟩,cW⟩ [cs[i]] [] hbt (by simp) (by simp)).mono ?_;rintro e w9 ⟨rfl,b9⟩;have O:=B.on b9;refine⟨_,rfl,ac.mk (fun K=>?_) fun hno=>N w9 m d O (by omega) (by rw [jb bh cs A,if_neg (by intro h;simp [h]at hno),List.append_nil];exact hce)⟩;intro w10 hw10;have Z:ZH w9 w10:=by subst hw10;exact aU w9
  have c:=O.on Z;have hb10:=I.trans ((ae b9 Z).mono I.size);obtain⟨p,hp,_,hc⟩:=(h2.on hb10) i _ (XK A);have c0:=hc 0 _ rfl;rw [aC]at c0;refine⟨_,_,_,ai _ _ c.blk 4,ag.mk p hp ⟨by omega,by omega,_,_,_,⟨c0,hc 1 _ rfl,hc 2 _ rfl,trivial⟩,?_⟩⟩;intro w11 Q;have b11:ZH w10 w11:=by subst Q;exact ah _ _
  refine⟨⟨ai _ _ (c.on b11).blk 4,trivial⟩,?_⟩;obtain⟨a',c',w12,hr12,hu12,hf12,h13⟩:=fG (P:=Tryz.prog) (s:=m) 4 c.blk (show 4<6 by decide) c.o2 (W c).2.1 (XV _) SF xO Ed rfl (by decide) (bS cs[i]) rfl (gE _ _ _) (by have:=(Rw.of_own c.o2 (fun _=>rfl) (by decide)).2;have:=c.l2;omega) (by have:=(Rw.of_own c.o2 (fun _=>rfl) (by decide)).2;have:=c.l2;omega);subst Q;refine⟨a',m.n+1,c',w12,hr12,rfl,hu12,hf12,?_⟩;intro X hw13;obtain⟨g1,g2,g3,U,g5,g6,g7⟩:=h13 X hw13;have K:bh cs[i]=true:=by simpa using K
  refine N X ⟨a',m.n+1,c'⟩ (d++ [cs[i]]) ⟨g1,bE _ _ _ _ aM,by rw [List.flatMap_append];simpa using g2,bE _ _ _ _ be,by rw [List.all_append,c.cok];simpa using K,rfl,rfl,fun y H=>(by cases H),List.Pairwise.nil,Nat.zero_le _,by rw [List.length_append];simp;omega,Nat.zero_le _,U _ c.B⟩ (by rw [List.length_append];simp;omega) (by rw [jb bh cs A,if_pos K, ←hce])
 rintro q ⟨m,d,B,hcl,hce⟩;refine hI4 _ _ (ac.mk (fun G=>ac.no ?_ ?_) fun G=>?_)
 ·have:=XQ G;exact XZ (by omega)
 all_goals
  clear G;intro I13 hI13;have key2:=aZ (α:=World) (min gs.length 8) (fun i q=>∃(E:Sl) (F:List (Int×Int)),gX M q t.m cW m E [] d F∧F.length≤i∧F=(gs.take i).filter cO) (fun i q=>I13 [.int .i64 (i:Int)] q) q ⟨cW,[],B,Nat.zero_le _,rfl⟩ ?_ ?_
  ·exact key2
  ·rintro i hi ih q ⟨E,F,B,hjn,hje⟩;have A:i<gs.length:=by omega
   have hi2:i<8:=by omega
   refine hI13 _ _ (ac.yes (by simp;omega) (ac.yes (by simp;omega) ?_));intro J hJ;have N:∀(v:World) (E:Sl) (F:List (Int×Int)),gX M v t.m cW m E [] d F→F.length≤i+1→F=(gs.take (i+1)).filter cO→J [] v:=fun v E F h1 h2 h3=>hJ v (Ar.nat (i+1) rfl (by omega) (ih v ⟨E,F,h1,h2,h3⟩));have I:ZH w q:=hb4.trans (B.B.mono (by omega));have hbt:pL q ⟨cW,⟨bB A3 i C3 2,i+1-i,C3-i⟩⟩ [] [gs[i]]:=by
    refine⟨rfl,fun j x hj=>(by cases hj),by show i+1-i=1;omega,?_⟩;have:=((h3.on I).cut i C3 hc3).take 1;rw [List.drop_eq_getElem_cons A]at this;exact this
   refine Ar.nat (i+1) rfl (by omega) ⟨by omega,by omega,by omega,trivial,trivial,?_⟩;refine(mK q ⟨cW,⟨bB A3 i C3 2,i+1-i,C3-i⟩⟩ [] [gs[i]] hbt (by simp) (by simp)).mono ?_;rintro e w9 ⟨rfl,b9⟩;have O:=B.on b9;refine⟨_,rfl,ac.mk (fun K=>?_) fun hno=>N w9 E F O (by omega) (by rw [jb cO gs A,if_neg (by intro h;simp [h]at hno),List.append_nil];exact hje)⟩;intro w10 hw10;have Z:ZH w9 w10:=by subst hw10;exact aU w9
   have c:=O.on Z;have hb10:=I.trans ((ae b9 Z).mono I.size);obtain⟨p,hp,_,hc⟩:=(h3.on hb10) i _ (XK A);have c0:=hc 0 _ rfl;rw [aC]at c0;refine⟨_,_,_,ai _ _ c.blk 5,ag.mk p hp ⟨by omega,by omega,_,_,⟨c0,hc 1 _ rfl,trivial⟩,?_⟩⟩;intro w11 Q;have b11:ZH w10 w11:=by subst Q;exact ah _ _
   refine⟨⟨ai _ _ (c.on b11).blk 5,trivial⟩,?_⟩;obtain⟨a',c',w12,hr12,hu12,hf12,h13⟩:=fG (P:=Tryz.prog) (s:=E) 5 c.blk (show 5<6 by decide) c.o3 (W c).2.2 (XV _) Tm wZ Ep rfl (by decide) (be gs[i]) rfl (cK _ _) (by have:=(Rw.of_own c.o3 (fun _=>rfl) (by decide)).2;have:=c.l3;omega) (by have:=(Rw.of_own c.o3 (fun _=>rfl) (by decide)).2;have:=c.l3;omega);subst Q;refine⟨a',E.n+1,c',w12,hr12,rfl,hu12,hf12,?_⟩;intro X hw13;obtain⟨g1,g2,g3,U,g5,g6,g7⟩:=h13 X hw13;have K:cO gs[i]=true:=by simpa using K
   have k2:X.ownsRow M.heap.size Hu 3 m.v m.n (d.flatMap bS):=aN c.o2 fun k hk=>g5 k (bL c.o2 k hk).2 (fun e=>(W c).2.1 (by rw [←e];exact hk)) (cj c.o2 c.o3 (by decide) k hk);refine N X ⟨a',E.n+1,c'⟩ (F++ [gs[i]]) ⟨g1,bE _ _ _ _ aM,k2,by rw [List.flatMap_append];simpa using g2,c.cok,by rw [List.all_append,c.jok];simpa using K,rfl,fun y H=>(by cases H),List.Pairwise.nil,Nat.zero_le _,c.l2,by rw [List.length_append];simp;omega,U _ c.B⟩ (by rw [List.length_append];simp;omega) (by rw [jb cO gs A,if_pos K, ←hje])
  rintro q ⟨E,F,B,hjn,hje⟩;refine hI13 _ _ (ac.mk (fun G=>ac.no ?_ ?_) fun G=>?_)
  ·have:=XQ G;exact XZ (by omega)
  all_goals
   clear G;intro I28 hI28;have key3:=aZ (α:=World) (min ys.length 6) (fun i q=>∃(C:Sl) (xs:List (Int×Bs)),gX M q t.m C m E xs d F∧xs.length≤i∧(∀y∈xs,y.1<1000+(i:Int))∧xs=kE ys i) (fun i q=>I28 [.int .i64 (i:Int)] q) q ⟨cW,[],B,Nat.zero_le _,fun y H=>(by cases H),rfl⟩ ?_ ?_
   ·exact key3
   ·rintro i hi ih q ⟨C,xs,B,hxl,hxb,hxe⟩;have A:i<ys.length:=by omega
    have hi2:i<6:=by omega
    refine hI28 _ _ (ac.yes (by simp;omega) (ac.yes (by simp;omega) ?_));intro J hJ;have N:∀(v:World) (C:Sl) (xs:List (Int×Bs)),gX M v t.m C m E xs d F→xs.length≤i+1→(∀y∈xs,y.1<1000+((i+1:Nat):Int))→xs=kE ys (i+1)→J [] v:=fun v C xs h1 h2 h3 h4=>hJ v (Ar.nat (i+1) rfl (by omega) (ih v ⟨C,xs,h1,h2,h3,h4⟩));intro g hw23;have b23:ZH q g:=by subst hw23;exact aU q
    have o:=B.on b23;have hb23:ZH w g:=hb4.trans (o.B.mono (by omega));obtain⟨p,hp,_,_⟩:=(h4.on hb23) i _ (XK A);have S:∀v:World,ZH g v→v.cell? ((p.add (i*2)).add 1)=some (.string (str ys[i].2)):=by
     intro v Y;obtain⟨p',hp',_,hc⟩:=(h4.on (ae hb23 Y)) i _ (XK A);have:p'=p:=by rw [hp]at hp';exact(Option.some.inj hp').symm
     subst this;exact hc 1 _ rfl
    have D:∀v:World,ZH g v→v.cell? ((nb M).add 3)=some C.v:=fun v Y=>ai _ _ (o.on Y).blk 3;have hspn:=(bO.of_own eT o.o1).n;have hl1:=o.l1;have T:∀(y:Sl) (v:World),ZH g v→v.ownsRow g.heap.size nH 2 y.v y.n ((xs++ [(((1000+i:Nat):Int),ys[i].2)]).flatMap aM)→
      CP 98 #[Value.slice y.a y.n y.c] v (fun e28 V=>∃r0:Int,∃r1:Int,e28= .returned (Value.tuple #[Value.int .i64 r0,Value.int .i64 r1])∧
       ac ((r1:Int)==0)
        ((Value.slice y.a y.n y.c).oneCell'=true∧(∃u,V.cell? ((nb M).add 3)=some u)∧V.frozen? ((nb M).add 3)=false∧
         ∀w29:World,w29=(V.setCell ((nb M).add 3) (Value.slice y.a y.n y.c))→J [] w29)
        (J [] V)):=by
     intro y v Y H;have hls:=bO.of_own eT H;have hyn:=hls.n;obtain⟨ya,yn,yc⟩:=y;change yn=_ at hyn;subst hyn;refine(mM v ya yc _ hls.r (by rw [List.length_append];simp;omega)).mono ?_;rintro e V ⟨rfl,b28⟩;have hb28:=ae Y b28;have f:=o.on hb28;have hy28:=aS (aE H b28) o.B.size;cases hm:cr [] 0 (xs++ [(((1000+i:Nat):Int),ys[i].2)])with
     |some z=>
      refine⟨_,_,by rw [kd,hm],ac.no (by simpa using uh hm) (N V C xs f (by omega) (fun y H=>by have:=hxb y H;omega) (by rw [sY A, ←hxe,hm]))⟩
     |none=>
      refine⟨_,_,by rw [kd,hm],ac.yes rfl ⟨rfl,⟨_,D V hb28⟩,bc f.blk,?_⟩⟩;intro w29 hw29;subst hw29;have s28:=W f;refine N _ ⟨ya,_,yc⟩ (xs++ [(((1000+i:Nat):Int),ys[i].2)]) ⟨bu f.blk _,bw hy28 _ (by rw [ay];exact az hy28 f.blk (by decide)),bw f.o2 _ (by rw [ay];exact s28.2.1),bw f.o3 _ (by rw [ay];exact s28.2.2),f.cok,f.jok,hm,?_,?_,by rw [List.length_append];simp;omega,f.l2,f.l3,bv f.B (XV _) _⟩ (by rw [List.length_append];simp;omega) ?_ (by rw [sY A, ←hxe,hm])
      ·intro z hz;rcases List.mem_append.1 hz with hz |hz
       ·exact f.xid z hz
       ·rw [List.mem_singleton.1 hz];show(1000:Int)≤((1000+i:Nat):Int)∧((1000+i:Nat):Int) <1006;omega
      ·rw [List.map_append,List.pairwise_append];refine⟨f.asc,List.pairwise_singleton _ _,fun a ha b hb=>?_⟩;obtain⟨y,H,rfl⟩:=List.mem_map.1 ha;have:=hxb y H;simp at hb;omega
      ·intro y H;rcases List.mem_append.1 H with H |H
       ·have:=hxb y H;omega
       ·rw [List.mem_singleton.1 H];show((1000+i:Nat):Int) <1000+((i+1:Nat):Int);omega
    have spr:∀(v:World) (k:Nat),ZH g v→v.heap[k]? =some (.cells #[] nH (0,0))→g.heap.size≤k→∃(r:Sl) (v':World),r.n=C.n∧(Builtin.append_ #[Lq,Lq] Lq #[.slice (some ⟨k,0,none⟩) 0 0,.slice C.a C.n C.c]).run Tryz.prog v= .ok (.slice r.a r.n r.c) v'∧v'.ownsRow g.heap.size nH 2 r.v r.n (xs.flatMap aM)∧ZH g v'∧(∀j,j<v.heap.size→j≠k→v'.heap[j]? =v.heap[j]?):=by
     intro v k Y hk hle;have hls:=bO.of_own eT (o.on Y).o1;obtain⟨r,v',g1,g2,g3,U,g5,_⟩:=eT.spread (s:=⟨some ⟨k,0,none⟩,0,0⟩) (xs:=[]) (sL hk hle) hls Y.size (Nat.zero_le _) (by omega) (by decide);refine⟨r,v',by rw [g1];show 0+C.n=C.n;omega,g2,g3,U _ Y,fun j hj hjk=>g5 j hj fun e=>hjk ?_⟩;have:k=j:=by simpa [Value.ownBlock]using e
     exact this.symm
    refine⟨_,_,_,D g (Below.refl _ _),Ar.nat (1000+i) (by omega) (by omega) (ag.mk p hp ⟨by omega,by omega,_,S g (Below.refl _ _),?_,?_⟩)⟩
    ·intro R hw24;have b24:ZH g R:=by subst hw24;exact ah _ _
     have n24:R.heap[g.heap.size]? =some (.cells #[] nH (0,0)):=by subst hw24;exact aq _ _
     refine⟨⟨S R b24,trivial⟩,⟨D R b24,trivial⟩,?_,?_⟩
     ·obtain⟨r,w25,g1,g2,g3,U,g5⟩:=spr R _ b24 n24 (XV _);refine⟨r.a,r.n,r.c,w25,g2,⟨S w25 U,trivial⟩,?_⟩;intro w26 hw26;obtain⟨y,w27,f1,f2,f3,f4,f5⟩:=eT.push g3 (((1000+i:Nat):Int),ys[i].2) hw26 rfl U.size (by omega) (by decide);exact⟨y.a,y.n,y.c,w27,f2,T y w27 (f4 _ U) f3⟩
     ·intro w30 hw30;have b30:ZH R w30:=by subst hw30;exact ah _ _
      have e30:w30.heap[R.heap.size]? =some (.cells (aM (((1000+i:Nat):Int),ys[i].2)).toArray nH (0,0)):=by subst hw30;exact aq _ _
      have a0:=ae b24 b30;refine⟨⟨D w30 a0,trivial⟩,?_⟩;obtain⟨r,w31,g1,g2,g3,U,g5⟩:=spr w30 _ a0 (aj b30 n24) (XV _);have hz24:=(XY.1 n24).1;have e31:w31.heap[R.heap.size]? =some (.cells (aM (((1000+i:Nat):Int),ys[i].2)).toArray nH (0,0)):=by
       rw [g5 _ (XY.1 e30).1 (by omega)];exact e30
      obtain⟨y,w32,f1,f2,f3,f4,f5⟩:=eT.pushAt g3 (((1000+i:Nat):Int),ys[i].2) e31 U.size (by omega) (by decide);exact⟨r.a,r.n,r.c,w31,g2,y.a,y.n,y.c,w32,f2,T y w32 (f4 _ U) f3⟩
    ·intro w86 hw86;have b86:ZH g w86:=by subst hw86;exact ah _ _
     have e86:w86.heap[g.heap.size]? =some (.cells (aM (((1000+i:Nat):Int),ys[i].2)).toArray nH (0,0)):=by subst hw86;exact aq _ _
     refine⟨⟨D w86 b86,trivial⟩,?_⟩;intro w87 hw87;have b87:ZH w86 w87:=by subst hw87;exact ah _ _
     have n87:w87.heap[w86.heap.size]? =some (.cells #[] nH (0,0)):=by subst hw87;exact aq _ _
     have a1:=ae b86 b87;have hz86:=(XY.1 e86).1;refine⟨⟨D w87 a1,trivial⟩,?_⟩;obtain⟨r,w88,g1,g2,g3,U,g5⟩:=spr w87 _ a1 n87 (by omega);have e88:w88.heap[g.heap.size]? =some (.cells (aM (((1000+i:Nat):Int),ys[i].2)).toArray nH (0,0)):=by
      rw [g5 _ (XY.1 (aj b87 e86)).1 (by omega)];exact aj b87 e86
     obtain⟨y,w89,f1,f2,f3,f4,f5⟩:=eT.pushAt g3 (((1000+i:Nat):Int),ys[i].2) e88 U.size (by omega) (by decide);exact⟨r.a,r.n,r.c,w88,g2,y.a,y.n,y.c,w89,f2,T y w89 (f4 _ U) f3⟩
   ·rintro q ⟨C,xs,B,hxl,_,hxe⟩;have done:=fin q C m E xs d F B hxe hce hje;have a2:=dX (x:=⟨false,t.m,cW,C,m,E⟩) B.blk;refine hI28 _ _ (ac.mk (fun G=>ac.no ?_ ⟨_,_,_,_,_,_,_,_,_,_,_,_,_,_,_,_,a2,done⟩) fun G=>⟨_,_,_,_,_,_,_,_,_,_,_,_,_,_,_,_,a2,done⟩);have:=XQ G;exact XZ (by omega)
theorem wy (w:World) (A1:Option Addr) (C1:Nat) (l:List Int) (h1:Rw uY 1 w A1 l) (A2:Option Addr) (C2:Nat) (cs:List (Int×Int×Int)) (h2:Rw bS 3 w A2 cs) (A3:Option Addr) (C3:Nat) (gs:List (Int×Int)) (h3:Rw be 2 w A3 gs) (A4:Option Addr) (C4:Nat) (ys:List (Int×Bs)) (h4:Rw aM 2 w A4 ys)
  (hc2:cs.length≤C2) (hc3:gs.length≤C3):
  CP 41 #[.slice A1 l.length C1,.slice A2 cs.length C2,.slice A3 gs.length C3,.slice A4 ys.length C4] w fun e w'=>∃u,e= .returned u∧MC (someV l cs gs ys) w u w':=by
 refine(uN w A1 C1 l h1 A2 C2 cs h2 A3 C3 gs h3 A4 C4 ys h4 hc2 hc3).mono fun e w' ⟨u,c,x,s,T,d,f,g,h,i,j,k,m,n,a,b,_⟩=>⟨u,c,x,s,T,d,f,g,h,i,j,k,m,n,a,b⟩
end Go.Proofs.YtijbcdiffjjefaaGreatDoor.Eng
