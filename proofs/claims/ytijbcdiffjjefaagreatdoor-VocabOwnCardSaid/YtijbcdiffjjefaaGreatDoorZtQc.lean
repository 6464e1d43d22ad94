/- The reference's vocabulary of any spec, walked by the engine; VocabLoads, VocabNews. -/
import Derived.Test.YtijbcdiffjjefaaGreatDoorZtRk
set_option linter.unusedVariables false
set_option linter.unusedSimpArgs false
set_option maxRecDepth 100000
namespace Go.Proofs.YtijbcdiffjjefaaGreatDoor.Eng
open Go Go.RowKit
theorem B9 {l:List Int} (h:l.length≠2):gR l=none:=by
 unfold gR;split
 ·exact absurd rfl h
 ·rfl
theorem EV {l:List Int} (h:l.length=2):∃a b,l= [a,b]:=by
 match l,h with
 | [a,b],_=>exact⟨a,b,rfl⟩
def DN (w:World) (ts:List Bs) (u:Value) (w':World):Prop:=∃(x:iU) (n e:Int),u= .tuple #[x.v,.int .i64 n,.int .i64 e]∧Below w.heap.size w w'∧(match bQ bf 0 ts with
 | .error q=>n=q.1∧e=q.2
 | .ok es=>n=ts.length∧e=0∧eA w' x es∧gW es)
theorem qI (w:World) (A:Option Addr) (C:Nat) (ts:List Bs) (hr:Rw be 1 w A ts) (hl:ts.length≤1000000) (hts:∀t∈ts,t.length≤100000):CP 140 #[.slice A ts.length C] w fun e w'=>∃u,e= .returned u∧DN w ts u w':=by
 refine vX A ts.length C w (DN w ts) ?_;intro w1 hw1;have hb1:Below w.heap.size w w1:=by subst hw1;exact ag _ _
 have z1:w1.heap[w.heap.size]? =some (.cells #[(⟨none,0,0⟩:Sl).v,(⟨none,0,0⟩:Sl).v] na (0,0)):=by subst hw1;exact ao _ _
 refine(iF w1).mono ?_;rintro e w2 ⟨x0,rfl,h2,b2,f2⟩;have z2:=ah b2 z1;have hlt2:w.heap.size<w2.heap.size:=(Array.getElem?_eq_some_iff.1 z2).1;refine⟨_,_,_,_,_,_,rfl,?_⟩;intro w3 hw3;refine aJ [.slice none 0 0,.slice none 0 0] [x0.b.v,x0.m.v] rfl (aS _ _) w3 hw3 ?_;intro w4 h4 hz4 b4;have hb14:Below w.heap.size w w4:=ab hb1 (ab b2 b4);intro I hI;have key:=aK (α:=Int×Int×World) ts.length (fun i y=>∃(x:iU) (es:List bl),y.2.2.heap[w2.heap.size]? =some (.cells #[x.b.v,x.m.v] na (0,0))∧y.2.2.heap[w.heap.size]? =some (.cells #[(⟨none,0,0⟩:Sl).v,(⟨none,0,0⟩:Sl).v] na (0,0))∧eA y.2.2 x es∧gW es∧bQ bf 0 ts=bQ es i (ts.drop i)∧Below w.heap.size w y.2.2) (fun i y=>I [.int .i64 (i:Int),.int .i64 y.1,.int .i64 y.2.1] y.2.2) (0,0,w4) ⟨x0,bf,h4,by rw [b4.block _ hlt2];exact z2,h2.on b4,kw,by rw [List.drop_zero],hb14⟩ ?_ ?_
 ·exact key
 ·rintro i hi ih ⟨y4,y3,w5⟩ ⟨x,es,h5,z5,hx5,hok,heq,hB5⟩;change w5.heap[w2.heap.size]? =_ at h5;change w5.heap[w.heap.size]? =_ at z5;change eA w5 x es at hx5;change Below w.heap.size w w5 at hB5;have hdrop:ts.drop i=ts[i]::ts.drop (i+1):=List.drop_eq_getElem_cons hi;refine hI _ _ _ _ (aa.yes (by simp;omega) ?_);intro w6 hw6;have b6:Below w5.heap.size w5 w6:=by subst hw6;exact ba w5
  have h6:=ah b6 h5;have z6:=ah b6 z5;have hx6:=hx5.on b6;have hB6:Below w.heap.size w w6:=hB5.trans (b6.mono hB5.size);obtain⟨q,hq,_,hc⟩:=(hr.on hB6) i _ (List.getElem?_eq_getElem hi);have c0:=hc 0 _ rfl;rw [an]at c0;refine⟨_,_,_,_,_,_,dm h6,ae.mk q hq ⟨by omega,by omega,_,c0,?_⟩⟩;refine(nU w6 x es hx6 hok ts[i] (by have:=hts _ (List.getElem_mem hi);omega)).mono ?_;rintro e w7 ⟨l,rfl,hl7,b7⟩;rw [←mZ hok]at hl7;have h7:=ah b7 h6;have z7:=ah b7 z6;have hx7:=hx6.on b7;have hB7:Below w.heap.size w w7:=hB6.trans (b7.mono hB6.size);have hn:=hl7.n;refine⟨_,_,_,rfl,aa.mk (fun h0=>?_) fun h0=>?_⟩
  ·have h0:(l.n:Int)≠2:=by simpa using h0
   have hp:gR (cW es ts[i])=none:=B9 (by omega);refine⟨_,_,_,_,_,_,dm h7,?_⟩;refine aN z7 [x.b.v,x.m.v] rfl (aS _ _) ?_;intro w10 h10 hs10 hz10 hB10;refine⟨_,_,_,_,_,_,dm h10,x,_,_,rfl,hB10 _ _ (Nat.le_refl _) hB7,?_⟩;rw [heq,hdrop,bQ,hp];exact⟨rfl,rfl⟩
  ·have h0:(l.n:Int)=2:=by simpa using h0
   obtain⟨a,b,hab⟩:=EV (l:=cW es ts[i]) (by omega);have hp:gR (cW es ts[i])=some (a,b):=by rw [hab];rfl
   rw [hab]at hl7;intro w9 hw9;have b9:Below w7.heap.size w7 w9:=by subst hw9;exact ba w7
   have h9:=ah b9 h7;have z9:=ah b9 z7;have hx9:=hx7.on b9;have hB9:Below w.heap.size w w9:=hB7.trans (b9.mono hB7.size);obtain⟨p,hpa,_,hca⟩:=(hl7.r.on b9) 0 a rfl;obtain⟨p',hpb,_,hcb⟩:=(hl7.r.on b9) 1 b rfl;have hlt9:w2.heap.size<w9.heap.size:=(Array.getElem?_eq_some_iff.1 h9).1;have rest:∀(loc:Nat) (wq:World) (x':iU) (n:Int),loc≠w2.heap.size→wq.heap[loc]? =some (.cells #[x'.b.v,x'.m.v] na (0,0))→wq.heap[w2.heap.size]? =some (.cells #[x.b.v,x.m.v] na (0,0))→wq.heap[w.heap.size]? =some (.cells #[(⟨none,0,0⟩:Sl).v,(⟨none,0,0⟩:Sl).v] na (0,0))→Below w.heap.size w wq→(match bj es (a,b)with
     | .error n0=>n=n0∧x'=x
     | .ok y=>n=0∧eA wq x' (es++ [y]))→
     aa ((n:Int) != 0)
      (∃g0A:Option Addr,∃g0N:Nat,∃g0C:Nat,∃g1A:Option Addr,∃g1N:Nat,∃g1C:Nat,(wq.cell? (nb w2)=some (Value.slice g0A g0N g0C)∧wq.cell? ((nb w2).add 1)=some (Value.slice g1A g1N g1C)∧True)∧
       ar wq (nb w) (fun w10=>
       ∃res0A:Option Addr,∃res0N:Nat,∃res0C:Nat,∃res1A:Option Addr,∃res1N:Nat,∃res1C:Nat,(w10.cell? (nb w)=some (Value.slice res0A res0N res0C)∧w10.cell? ((nb w).add 1)=some (Value.slice res1A res1N res1C)∧True)∧
       DN w ts (Value.tuple #[Value.agg #[Value.slice res0A res0N res0C,Value.slice res1A res1N res1C],Value.int .i64 (i:Int),Value.int .i64 n]) w10) [Value.slice g0A g0N g0C,Value.slice g1A g1N g1C] 0)
      (∃g0A:Option Addr,∃g0N:Nat,∃g0C:Nat,∃g1A:Option Addr,∃g1N:Nat,∃g1C:Nat,(wq.cell? ⟨loc,0,none⟩=some (Value.slice g0A g0N g0C)∧wq.cell? ((⟨loc,0,none⟩:Addr).add 1)=some (Value.slice g1A g1N g1C)∧True)∧
       ar wq (nb w2) (fun w11=>
       Ar .i64 ((i:Int)+1) (fun n=>
       I [Value.int .i64 n,Value.int .i64 y4,Value.int .i64 y3] w11)) [Value.slice g0A g0N g0C,Value.slice g1A g1N g1C] 0):=by
    intro loc wq x' n hloc hll hb2 hb0 hBq hm;cases hx:bj es (a,b)with
    |error n0=>
     rw [hx]at hm;obtain⟨rfl,rfl⟩:=hm;refine aa.yes (by simpa using dV hx) ⟨_,_,_,_,_,_,dm hb2,?_⟩;refine aN hb0 [x'.b.v,x'.m.v] rfl (aS _ _) ?_;intro w10 h10 hs10 hz10 hB10;refine⟨_,_,_,_,_,_,dm h10,x',_,_,rfl,hB10 _ _ (Nat.le_refl _) hBq,?_⟩;rw [heq,hdrop,bQ,hp];simp only [hx];exact⟨trivial,trivial⟩
    |ok y=>
     rw [hx]at hm;obtain⟨rfl,hx'⟩:=hm;refine aa.no rfl ⟨_,_,_,_,_,_,dm hll,?_⟩;refine aN hb2 [x'.b.v,x'.m.v] rfl (aS _ _) ?_;intro w11 h11 hs11 hz11 hB11;refine Ar.ok64 (by omega) (by omega) (ih (y4,y3,w11) ⟨x',es++ [y],h11,?_,hx'.past hb2 (fun j _ hj=>hs11 j hj) (Nat.le_of_eq hz11.symm),(iQ hok hx).1,?_,hB11 _ _ (by omega) hBq⟩)
     ·show w11.heap[w.heap.size]? =_;rw [hs11 _ (by omega)];exact hb0
     ·rw [heq,hdrop,bQ,hp];simp only [hx]
   have hn2:l.n=2:=by omega
   refine⟨_,_,_,_,_,_,dm h9,ae.mk p hpa ⟨Int.le_refl _,by omega,a,by have:=hca 0 _ rfl;rw [an]at this;exact this,ae.mk p' hpb ⟨by omega,by omega,b,by have:=hcb 0 _ rfl;rw [an]at this;exact this,?_,?_⟩⟩⟩
   ·refine(gZ w9 x es hx9 hok (a,b)).mono ?_;rintro e w10 ⟨u,rfl,x',n,rfl,b10,hp'⟩;refine⟨_,_,_,_,_,_,n,rfl,?_⟩;intro w11 hw11;refine aJ [.slice none 0 0,.slice none 0 0] [x'.b.v,x'.m.v] rfl (aS _ _) w11 hw11 ?_;intro w12 h12 hz12 b12;have hz10:=b10.size;refine rest w10.heap.size w12 x' n (by omega) h12 (ah b12 (ah b10 h9)) (ah b12 (ah b10 z9)) ((hB9.trans (b10.mono hB9.size)).trans (b12.mono (Nat.le_trans hB9.size hz10))) ?_;cases hx:bj es (a,b)with
    |error n0=>rw [hx]at hp';exact hp'
    |ok y=>rw [hx]at hp';exact⟨hp'.1,hp'.2.1.on b12⟩
   ·intro w12 hw12;have b12:Below w9.heap.size w9 w12:=by subst hw12;exact ag _ _
    have l12:w12.heap[w9.heap.size]? =some (.cells #[Value.slice none 0 0,Value.slice none 0 0] na (0,0)):=by subst hw12;exact ao _ _
    have hB12:Below w.heap.size w w12:=hB9.trans (b12.mono hB9.size);obtain⟨r,hra,_,hcr⟩:=((hl7.r.on b9).on b12) 0 a rfl;obtain⟨r',hrb,_,hcr'⟩:=((hl7.r.on b9).on b12) 1 b rfl;have er:r=p:=by rw [hpa]at hra;exact(Option.some.inj hra).symm
    have er':r'=p':=by rw [hpb]at hrb;exact(Option.some.inj hrb).symm
    subst er er';refine⟨⟨by have:=hcr' 0 _ rfl;rw [an]at this;exact this,trivial⟩,⟨by have:=hcr 0 _ rfl;rw [an]at this;exact this,trivial⟩,dm (ah b12 h9),?_⟩;refine(gZ w12 x es (hx9.on b12) hok (a,b)).mono ?_;rintro e w13 ⟨u,rfl,x',n,rfl,b13,hp'⟩;refine⟨_,_,_,_,_,_,n,rfl,?_⟩;refine aN (ah b13 l12) [x'.b.v,x'.m.v] rfl (aS _ _) ?_;intro w14 h14 hs14 hz14 hB14;refine rest w9.heap.size w14 x' n (by omega) h14 (by rw [hs14 _ (by omega)];exact ah b13 (ah b12 h9)) (by rw [hs14 _ (by omega)];exact ah b13 (ah b12 z9)) (hB14 _ _ (by omega) (hB12.trans (b13.mono hB12.size))) ?_;cases hx:bj es (a,b)with
    |error n0=>rw [hx]at hp';exact hp'
    |ok y=>rw [hx]at hp';exact⟨hp'.1,hp'.2.1.past (p:=⟨none,0,0⟩) (q:=⟨none,0,0⟩) (ah b13 l12) (fun j _ hj=>hs14 j hj) (Nat.le_of_eq hz14.symm)⟩
 ·rintro⟨y4,y3,w5⟩ ⟨x,es,h5,z5,hx5,hok,heq,hB5⟩;change w5.heap[w2.heap.size]? =_ at h5;change w5.heap[w.heap.size]? =_ at z5;refine hI _ _ _ _ (aa.no (by simp) ⟨_,_,_,_,_,_,dm h5,?_⟩);refine aN z5 [x.b.v,x.m.v] rfl (aS _ _) ?_;intro w17 h17 hs17 hz17 hB17;refine⟨_,_,_,_,_,_,dm h17,x,_,_,rfl,hB17 _ _ (Nat.le_refl _) hB5,?_⟩;rw [heq,List.drop_length,bQ];exact⟨rfl,rfl,hx5.past z5 (fun j _ hj=>hs17 j hj) (Nat.le_of_eq hz17.symm),hok⟩
theorem oI:∀ {ts:List Bs} {es:List bl} {i:Nat} {q:Nat×Int},bQ es i ts= .error q→q.2≠0
 | [],es,i,q,h=>by cases h
 |t::ts,es,i,q,h=>by
  rw [bQ]at h;cases hp:gR (cW es t)with
  |none=>rw [hp]at h;cases h;show(2:Int)≠0;decide
  |some m=>
   rw [hp]at h;dsimp only at h;cases hx:bj es m with
   |error n=>rw [hx]at h;cases h;exact dV hx
   |ok x=>rw [hx]at h;exact oI h
theorem Bm {s:ai} {q:Nat×Int} (h:ff s= .error q):q.2≠0:=by
 unfold ff at h;split at h
 ·exact oI h
 ·exact pJ h
def EX (w:World) (s:ai) (u:Value) (w':World):Prop:=∃(x:iU) (n e:Int),u= .tuple #[x.v,.int .i64 n,.int .i64 e]∧Below w.heap.size w w'∧(match ff s with
 | .error q=>n=q.1∧e=q.2
 | .ok es=>e=0∧eA w' x es∧gW es)
theorem xQ (w:World) (x:aG) (s:ai) (h:aM w x s) (hs:dO s) (hts:∀t∈s.tokens,t.length≤100000):CP 97 #[x.v] w fun e w'=>∃u,e= .returned u∧EX w s u w':=by
 cases hrk:s.ranked with
 |false=>
  refine(m0 w x s h hrk hs.1).mono ?_;rintro e w' ⟨u,rfl,y,n,e,rfl,b,hp⟩;refine⟨_,rfl,y,n,e,rfl,b,?_⟩;rw [show ff s=bG bf 0 s.merges by unfold ff;rw [hrk];rfl];cases hx:bG bf 0 s.merges with
  |error q=>rw [hx]at hp;exact hp
  |ok es=>rw [hx]at hp;exact⟨hp.2.1,hp.2.2.1,hp.2.2.2.1⟩
 |true=>
  refine pO x.ranked x.s1.a x.s1.n x.s1.c x.s2.a x.s2.n x.s2.c x.s3.a x.s3.n x.s3.c x.s4.a x.s4.n x.s4.c x.s5.a x.s5.n x.s5.c w (EX w s) ?_;intro w1 hw1 w2 hw2;have hb1:Below w.heap.size w w1:=by subst hw1;exact ag _ _
  have b2:Below w1.heap.size w1 w2:=by subst hw2;exact ag _ _
  have hb2:=ab hb1 b2;have p1:w1.heap[w.heap.size]? =some (.cells x.cells bd (0,0)):=by subst hw1;exact ao _ _
  have p2:=ah b2 p1;have l2:w2.heap[w1.heap.size]? =some (.cells #[fF.v,fF.v] na (0,0)):=by subst hw2;exact ao _ _
  refine⟨_,af _ _ p2 0,aa.yes (by rw [h.ranked,hrk]) ⟨_,_,_,af _ _ p2 2,?_⟩⟩;have hn:=h.n2;obtain⟨⟨a,n,c⟩,hx⟩:∃y:Sl,y=x.s2:=⟨_,rfl⟩;rw [←hx]at hn⊢;change n=s.tokens.length at hn;subst hn;have hr2:Rw be 1 w2 a s.tokens:=by have:=(h.on hb2).r2;rw [←hx]at this;exact this
  refine(qI w2 a c s.tokens hr2 hs.2.1 hts).mono ?_;rintro e w5 ⟨u,rfl,y,n,e,rfl,b5,hp⟩;refine⟨_,_,_,_,_,_,n,e,rfl,?_⟩;have l5:=ah b5 l2;refine aN l5 [y.b.v,y.m.v] rfl (aS _ _) ?_;intro w6 h6 hs6 hz6 hB6;have hbb:=ab hb2 b5;refine⟨_,_,_,_,_,_,dm h6,y,n,e,rfl,hB6 _ _ hb1.size hbb,?_⟩;rw [show ff s=bQ bf 0 s.tokens by unfold ff;rw [hrk];rfl];cases hx:bQ bf 0 s.tokens with
  |error q=>rw [hx]at hp;exact hp
  |ok es=>rw [hx]at hp;exact⟨hp.2.1,hp.2.2.1.past l5 (fun j _ hj=>hs6 j hj) (Nat.le_of_eq hz6.symm),hp.2.2.2⟩
def Cl (w:World) (s:ai) (u:Value) (w':World):Prop:=∃(y:rM) (a b c:Int),u= .tuple #[y.v,.int .i64 a,.int .i64 b,.int .i64 c]∧Below w.heap.size w w'∧(match bq s with
 | .error q=>a=q.1∧b=q.2.1∧c=q.2.2∧c≠0
 | .ok _=>a=0∧b=0∧c=0)
theorem ij (w:World) (x:aG) (s:ai) (h:aM w x s) (hright:s.right=true):
  CP 33 #[x.v] w fun e w'=>∃u,e= .returned u∧Cl w s u w':=by
 have hsm:=bT hright;obtain⟨_,_,okt⟩:=qJ hright;refine ru x.ranked x.s1.a x.s1.n x.s1.c x.s2.a x.s2.n x.s2.c x.s3.a x.s3.n x.s3.c x.s4.a x.s4.n x.s4.c x.s5.a x.s5.n x.s5.c w (Cl w s) ?_;intro w1 hw1 w2 hw2;have hb1:Below w.heap.size w w1:=by subst hw1;exact ag _ _
 have b2:Below w1.heap.size w1 w2:=by subst hw2;exact ag _ _
 have hb2:=ab hb1 b2;have p2:w2.heap[w.heap.size]? =some (.cells x.cells bd (0,0)):=ah b2 (by subst hw1;exact ao _ _);have z2:w2.heap[w1.heap.size]? =some (.cells py.cells HR (0,0)):=by subst hw2;exact ao _ _
 refine⟨_,_,_,_,_,_,_,_,_,_,_,_,_,_,_,_,aV p2,?_⟩;refine(xQ w2 x s (h.on hb2) hsm okt).mono ?_;rintro e w3 ⟨u,rfl,t,n,e,rfl,b3,hp⟩;refine⟨_,_,_,_,_,_,_,_,rfl,?_⟩;intro w4 hw4;refine aJ [fF.v,fF.v] [t.b.v,t.m.v] rfl (aS _ _) w4 hw4 ?_;intro w5 h5 hz5 b5;have b35:=ab b3 b5;have hb5:=ab hb2 b35;have p5:=ah b35 p2;have z5:=ah b35 z2;cases hl:ff s with
 |error q=>
  rw [hl]at hp;obtain⟨rfl,rfl⟩:=hp;have hne:=Bm hl;refine aa.yes (by simpa using hne) ?_;refine aN z5 (gq py) rfl (eh py) ?_;intro w6 h6 hs6 hz6 hB6;refine⟨_,_,_,_,_,_,_,_,_,_,_,_,_,_,_,kS (x:=py) h6,py,_,_,_,rfl,hB6 _ _ hb1.size hb5,?_⟩;rw [show bq s= .error (1,q.1,q.2) by rw [bq,hl]];exact⟨rfl,rfl,rfl,hne⟩
 |ok T=>
  rw [hl]at hp;obtain⟨rfl,ht,htok⟩:=hp;refine aa.no rfl ⟨_,_,_,af _ _ p5 3,?_⟩;have hn3:=h.n3;have hS:=(h.on hb5).r3;obtain⟨⟨a3,n3,c3⟩,hx3⟩:∃y:Sl,y=x.s3:=⟨_,rfl⟩;have hS':Rw av 2 w5 a3 s.specials:=by rw [←hx3]at hS;exact hS
  rw [show x.s3.a=a3 by rw [←hx3],show x.s3.n=s.specials.length from hn3,show x.s3.c=c3 by rw [←hx3]];refine(iA w5 a3 c3 s.specials hS' hsm.2.2.1).mono ?_;rintro e w7 ⟨rfl,b7⟩;have hb7:=ab hb5 b7;have z7:=ah b7 z5;cases hm:bn [] 0 s.specials with
  |some q=>
   have hne:=lH hm;refine⟨_,_,by rw [gU,hm],aa.yes (by simpa using hne) ?_⟩;refine aN z7 (gq py) rfl (eh py) ?_;intro w8 h8 hs8 hz8 hB8;refine⟨_,_,_,_,_,_,_,_,_,_,_,_,_,_,_,kS (x:=py) h8,py,_,_,_,rfl,hB8 _ _ hb1.size hb7,?_⟩;rw [show bq s= .error (2,q.1,q.2) by rw [bq,hl];simp only [hm]];exact⟨rfl,rfl,rfl,hne⟩
  |none=>
   refine⟨_,_,by rw [gU,hm],aa.no rfl ?_⟩;intro I hI;have key:=aK (α:=Int×Int×Int×World) s.specials.length (fun i y=>(∀j (hj:j<s.specials.length),j<i→¬s.specials[j].1< (T.length:Int))∧Below w7.heap.size w7 y.2.2.2) (fun i y=>I [.int .i64 (i:Int),.int .i64 y.1,.int .i64 y.2.1,.int .i64 y.2.2.1] y.2.2.2) (0,0,0,w7) ⟨fun j _ hj=>absurd hj (Nat.not_lt_zero _),Below.refl _ _⟩ ?_ ?_
   ·exact key
   ·rintro i hi ih ⟨y5,y4,y3,q⟩ ⟨hno,hB⟩;change Below w7.heap.size w7 q at hB;have pq:=ah hB (ah b7 p5);have hfew:=hsm.2.2.1;refine hI _ y5 y4 y3 q ⟨_,_,_,af _ _ pq 3,aa.yes (by simp;omega) ?_⟩;intro w10 hw10;have b10:Below q.heap.size q w10:=by subst hw10;exact ba q
    have hB10:=ab hB b10;have z10:=ah hB10 z7;obtain⟨p,hp,_,hc⟩:=((h.on (ab hb7 hB10)).r3) i _ (List.getElem?_eq_getElem hi);have htn:=ht.n1;refine⟨_,_,_,af _ _ (ah b10 pq) 3,ae.mk p hp ⟨by omega,by omega,_,hc 0 _ rfl,_,_,_,af _ _ (ah hB10 (ah b7 h5)) 0,aa.mk (fun h0=>?_) fun h0=>Ar.nat (i+1) rfl (by omega) (ih (y5,y4,y3,w10) ⟨fun j hj hji=>?_,hB10⟩)⟩⟩
    ·have h0:=of_decide_eq_true h0;refine aN z10 (gq py) rfl (eh py) ?_;intro w11 h11 hs11 hz11 hB11;refine⟨_,_,_,_,_,_,_,_,_,_,_,_,_,_,_,kS (x:=py) h11,py,_,_,_,rfl,hB11 _ _ hb1.size (ab hb7 hB10),?_⟩;have hf:s.specials.findIdx? (fun y=>decide (y.1< (T.length:Int)))=some i:=by
      rw [List.findIdx?_eq_some_iff_getElem];exact⟨hi,decide_eq_true (by omega),fun j hj=>by simpa using hno j (by omega) hj⟩
     rw [show bq s= .error (2,i,4) by rw [bq,hl];simp only [hm,hf]];exact⟨rfl,rfl,rfl,by decide⟩
    ·have h0:=of_decide_eq_false h0;by_cases e:j=i
     ·subst e;omega
     ·exact hno j hj (by omega)
   ·rintro⟨y5,y4,y3,q⟩ ⟨hno,hB⟩;change Below w7.heap.size w7 q at hB;have pq:=ah hB (ah b7 p5);have zq:=ah hB z7;have tq:=ah hB (ah b7 h5);have hbq:=ab hb7 hB;refine hI _ y5 y4 y3 q ⟨_,_,_,af _ _ pq 3,aa.no (by simp;omega) ⟨_,_,_,_,_,_,dm tq,_,_,_,af _ _ pq 4,_,_,_,af _ _ pq 5,_,_,_,af _ _ pq 3,?_⟩⟩;refine aN zq (gq ⟨t,⟨x.s4,x.s5⟩,x.s3⟩) rfl (eh ⟨t,⟨x.s4,x.s5⟩,x.s3⟩) ?_;intro w12 h12 hs12 hz12 hB12;have hf:s.specials.findIdx? (fun y=>decide (y.1< (T.length:Int)))=none:=by
     rw [List.findIdx?_eq_none_iff];intro y hy;obtain⟨j,hj,rfl⟩:=List.getElem_of_mem hy;simpa using hno j hj hj
    refine⟨_,_,_,_,_,_,_,_,_,_,_,_,_,_,_,kS (x:=⟨t,⟨x.s4,x.s5⟩,x.s3⟩) h12,⟨t,⟨x.s4,x.s5⟩,x.s3⟩,_,_,_,rfl,hB12 _ _ hb1.size hbq,?_⟩;rw [show bq s= .ok T by rw [bq,hl];simp only [hm,hf]];exact⟨rfl,rfl,rfl⟩
theorem gg (w:World) (x:aG) (s:ai) (h:aM w x s):CP 38 #[x.v] w fun e w'=>e= .returned (.bool s.right)∧Below w.heap.size w w':=by
 refine aU (zB x.ranked x.s1.a x.s1.n x.s1.c x.s2.a x.s2.n x.s2.c x.s3.a x.s3.n x.s3.c x.s4.a x.s4.n x.s4.c x.s5.a x.s5.n x.s5.c w) ?_;intro w1 hw1;have hb1:Below w.heap.size w w1:=by subst hw1;exact ag _ _
 have p1:w1.heap[w.heap.size]? =some (.cells x.cells bd (0,0)):=by subst hw1;exact ao _ _
 refine⟨_,_,_,_,_,_,_,_,_,_,_,_,_,_,_,_,aV p1,?_⟩;refine(ki x s w1 (h.on hb1)).mono ?_;rintro e w2 ⟨rfl,b2⟩;exact⟨_,rfl,rfl,ab hb1 b2⟩
theorem pi (t:Bs) (w:World) (h:fD w):CP 5 #[.string (str t)] w fun e w'=>e= .returned (.bool true)∧Below w.heap.size w w':=by
 refine az (Bo (str t) w (fun v w'=>v= .bool true∧Below w.heap.size w w') ?_) (by rintro v w' ⟨rfl,h⟩;exact⟨rfl,h⟩);have wake:∀ {w3:World},Below w.heap.size w w3→CP 30 #[] w3 fun e w4=>∃q:Bool,e= .returned (.bool q)∧(Value.bool q= .bool true∧Below w.heap.size w w4):=by
  intro w3 hB;refine(dB w3 (h.on hB)).mono ?_;rintro e w4 ⟨rfl,hB4⟩;exact⟨true,rfl,rfl,ab hB hB4⟩
 refine aa.mk (fun _=>wake (Below.refl _ _)) fun h0=>?_;have hl:t.length≤3000:=by have:=of_decide_eq_false h0;rw [aj]at this;omega
 refine(ed t w h).mono ?_;rintro e w2 ⟨v,rfl,b2,hp⟩;rw [if_neg (by omega)]at hp;cases hq:bW t with
 |error m=>
  rw [hq]at hp;subst hp;refine⟨_,_,_,rfl,(fB t w2 (by omega)).mono ?_⟩;rintro e w3 ⟨y,rfl,hy,b3⟩;refine⟨y.ranked,_,_,_,_,_,_,_,_,_,_,_,_,_,_,_,_,rfl,?_⟩;intro w4 hw4;refine dD y w4 hw4 ?_;intro w5 h5 b5;have hb5:=ab b2 (ab b3 b5);have e1:cT t=(m:Int):=by unfold cT;rw [hq]
  have hm:=BQ hq;rw [e1];exact aa.yes (decide_eq_true (by omega)) (aa.yes rfl (aa.yes (by simp) (aa.yes rfl (wake hb5))))
 |ok s=>
  rw [hq]at hp;have hright:=(qw t s hq).2;have hsm:=bT hright;have e1:cT t=0:=by unfold cT;rw [hq]
  have e2:dw t=s:=by unfold dw;rw [hq]
  cases hx:bq s with
  |error q=>
   simp only [hx]at hp;obtain⟨rfl,hne⟩:=hp;refine⟨_,_,_,rfl,(fB t w2 (by omega)).mono ?_⟩;rintro e w3 ⟨y,rfl,hy,b3⟩;rw [e2]at hy;rw [e1];refine⟨y.ranked,_,_,_,_,_,_,_,_,_,_,_,_,_,_,_,_,rfl,?_⟩;intro w4 hw4;refine dD y w4 hw4 ?_;intro w5 h5 b5;have hb5:=ab b2 (ab b3 b5);have hy5:=hy.on b5;refine aa.no (by decide) ⟨_,_,_,_,_,_,_,_,_,_,_,_,_,_,_,_,aV h5,?_⟩;refine(ij w5 y s hy5 hright).mono ?_;rintro e w7 ⟨u,rfl,z,a,b,c,rfl,b7,hm⟩;rw [hx]at hm;obtain⟨rfl,rfl,rfl,_⟩:=hm;refine⟨_,_,_,_,_,_,_,_,_,_,_,_,_,_,_,_,_,_,rfl,?_⟩;intro w8 hw8;refine aJ (gq py) (gq z) rfl (eh z) w8 hw8 ?_;intro w9 h9 hz9 b9;have hb9:=ab hb5 (ab b7 b9);have h59:=ah b9 (ah b7 h5);have ht:=jK hx;have hpl:=jY hx hsm;refine aa.no (by rcases ht with e |e<;>rw [e]<;>rfl) (Ar.ok64 (by omega) (by omega) ?_)
   intro J hJ;have out:∀n:Int,n=gI s q→J [.int .i64 n] w9:=fun n hn=>hJ n w9 (aa.yes rfl (aa.yes (by rw [hn];simp) (aa.yes (by simp) (wake hb9))));have n1:=hy5.n1;have n2:=hy5.n2;obtain⟨k1,k2,_⟩:=hsm;rcases ht with e |e
   ·exact aa.no (by rw [e];rfl) (out _ (by rw [gI,if_pos e];omega))
   ·refine aa.yes (by rw [e];rfl) ⟨_,_,_,af _ _ h59 1,Ar.ok64 (by omega) (by omega) ⟨_,_,_,af _ _ h59 2,Ar.ok64 (by omega) (by omega) (out _ ?_)⟩⟩;rw [gI,if_neg (by omega)];omega
  |ok T=>
   simp only [hx]at hp;obtain⟨p,rfl,hN⟩:=hp;refine⟨_,_,_,rfl,(fB t w2 (by omega)).mono ?_⟩;rintro e w3 ⟨y,rfl,hy,b3⟩;rw [e2]at hy;rw [e1];refine⟨y.ranked,_,_,_,_,_,_,_,_,_,_,_,_,_,_,_,_,rfl,?_⟩;intro w4 hw4;refine dD y w4 hw4 ?_;intro w5 h5 b5;have hb25:=ab b3 b5;have hb5:=ab b2 hb25;have hy5:=hy.on b5;refine aa.no (by decide) ⟨_,_,_,_,_,_,_,_,_,_,_,_,_,_,_,_,aV h5,?_⟩;refine(ij w5 y s hy5 hright).mono ?_;rintro e w7 ⟨u,rfl,z,a,b,c,rfl,b7,hm⟩;rw [hx]at hm;obtain⟨rfl,rfl,rfl⟩:=hm;refine⟨_,_,_,_,_,_,_,_,_,_,_,_,_,_,_,_,_,_,rfl,?_⟩;intro w8 hw8;refine aJ (gq py) (gq z) rfl (eh z) w8 hw8 ?_;intro w9 h9 hz9 b9;refine aa.yes rfl ?_;intro w10 hw10;have b10:Below w9.heap.size w9 w10:=by subst hw10;exact ba w9
   have b510:=ab b7 (ab b9 b10);have h10:=ah b510 h5;obtain⟨w0,x,tp,bp,mp,hR,_⟩:=(hN.on hb25).on b510;refine aa.yes rfl (aa.yes rfl (aa.yes rfl ⟨_,_,_,_,_,_,_,_,_,_,_,_,_,_,_,_,aV h10,?_⟩));refine(fL w10 p hR.blk hR.now.spec hsm).mono ?_;rintro e w11 ⟨x',rfl,hx',b11,_⟩;refine⟨_,_,_,_,_,_,_,_,_,_,_,_,_,_,_,_,rfl,aV (ah b11 h10),?_⟩;refine(gA x' y s s w11 hx' ((hy5.on b510).on b11) hsm).mono ?_;rintro e w12 ⟨rfl,b12⟩;exact⟨_,rfl,aa.yes (by simp) (wake (ab (ab (ab hb5 b510) b11) b12))⟩
theorem pM (x:aG) (s:ai) (w:World) (hx:aM w x s) (h:fD w):CP 6 #[x.v] w fun e w'=>e= .returned (.bool true)∧Below w.heap.size w w':=by
 refine az (B5 x.ranked x.s1.a x.s1.n x.s1.c x.s2.a x.s2.n x.s2.c x.s3.a x.s3.n x.s3.c x.s4.a x.s4.n x.s4.c x.s5.a x.s5.n x.s5.c w (fun v w'=>v= .bool true∧Below w.heap.size w w') ?_) (by rintro v w' ⟨rfl,h⟩;exact⟨rfl,h⟩);have wake:∀ {w3:World},Below w.heap.size w w3→CP 30 #[] w3 fun e w4=>∃q:Bool,e= .returned (.bool q)∧(Value.bool q= .bool true∧Below w.heap.size w w4):=by
  intro w3 hB;refine(dB w3 (h.on hB)).mono ?_;rintro e w4 ⟨rfl,hB4⟩;exact⟨true,rfl,rfl,ab hB hB4⟩
 intro w1 hw1;have hb1:Below w.heap.size w w1:=by subst hw1;exact ag _ _
 have h1:w1.heap[w.heap.size]? =some (.cells x.cells bd (0,0)):=by subst hw1;exact ao _ _
 refine⟨_,_,_,_,_,_,_,_,_,_,_,_,_,_,_,_,aV h1,?_⟩;refine(zo x s w1 (hx.on hb1)).mono ?_;rintro e w2 ⟨rfl,b2⟩;have hb2:=ab hb1 b2;have h2:=ah b2 h1;refine⟨_,rfl,aa.mk (fun _=>wake hb2) fun hg=>⟨_,_,_,af _ _ h2 1,aa.mk (fun _=>wake hb2) fun hm=>?_⟩⟩;have hx2:=hx.on hb2;refine⟨_,_,_,_,_,_,_,_,_,_,_,_,_,_,_,_,aV h2,?_⟩;refine(fa w2 x s hx2).mono ?_;rintro e w5 ⟨v,rfl,b5,hp⟩;have hb5:=ab hb2 b5;have h5:=ah b5 h2;cases hright:s.right with
 |false=>
  rw [if_neg (by rw [hright];simp)]at hp;subst hp;refine⟨_,_,_,rfl,_,_,_,_,_,_,_,_,_,_,_,_,_,_,_,_,aV h5,?_⟩;refine(gg w5 x s (hx2.on b5)).mono ?_;rintro e w6 ⟨rfl,b6⟩;rw [hright];exact⟨_,rfl,aa.yes rfl (aa.yes rfl (aa.yes rfl (aa.yes rfl (wake (ab hb5 b6)))))⟩
 |true=>
  rw [if_pos hright]at hp;have hsm:=bT hright;have hfit:=(zd (.inl hright)).1;have hlen:=Aq hright hg;cases hb:bq s with
  |error q=>
   rw [hb]at hp;obtain⟨rfl,hne⟩:=hp;refine⟨_,_,_,rfl,_,_,_,_,_,_,_,_,_,_,_,_,_,_,_,_,aV h5,?_⟩;refine(gg w5 x s (hx2.on b5)).mono ?_;rintro e w6 ⟨rfl,b6⟩;rw [hright];have h6:=ah b6 h5;have hx6:=(hx2.on b5).on b6;refine⟨_,rfl,aa.no rfl ⟨_,_,_,_,_,_,_,_,_,_,_,_,_,_,_,_,aV h6,?_⟩⟩;refine(ij w6 x s hx6 hright).mono ?_;rintro e w8 ⟨u,rfl,z,a,b,c,rfl,b8,hm⟩;rw [hb]at hm;obtain⟨rfl,rfl,rfl,_⟩:=hm;refine⟨_,_,_,_,_,_,_,_,_,_,_,_,_,_,_,_,_,_,rfl,?_⟩;intro w9 hw9;refine aJ (gq py) (gq z) rfl (eh z) w9 hw9 ?_;intro w10 h10' hz10 b10;have b610:=ab b8 b10;have h10:=ah b610 h6;have hx10:=hx6.on b610;have hb10:=ab (ab hb5 b6) b610;refine⟨_,_,_,_,_,_,_,_,_,_,_,_,_,_,_,_,aV h10,?_⟩;refine(fS x s w10 hx10 hfit (iv hright)).mono ?_;rintro e w11 ⟨rfl,b11⟩;have hb11:=ab hb10 b11;refine⟨_,rfl,(ed s.text w11 (h.on hb11)).mono ?_⟩;rintro e w12 ⟨v,rfl,b12,hp⟩;rw [if_neg (by omega),jk s hright]at hp;simp only [hb]at hp;obtain⟨rfl,_⟩:=hp;have hb12:=ab hb11 b12;have h12:=ah b12 (ah b11 h10);refine⟨_,_,_,rfl,?_⟩;intro J hJ;have ht:=jK hb;have hpl:=jY hb hsm;have n1:=hx.n1;have n2:=hx.n2;obtain⟨k1,k2,_⟩:=hsm;have key:∀want0:Int,(q.1=1→want0=gI s q)→J [.int .i64 want0] w12:=by
    intro want0 hw0;refine hJ want0 w12 ?_;intro J2 hJ2;have out:∀n:Int,n=gI s q→J2 [.int .i64 n] w12:=by
     intro n hn;refine hJ2 n w12 (aa.no (by simp) (aa.no (by simp) (aa.no (by rw [hn];simp) (aa.no (by simp) (aa.no (by simpa using hne) (aa.no (by simpa using hne) ?_))))));intro w15 hw15;have b15:Below w12.heap.size w12 w15:=by subst hw15;exact ba w12
     exact aa.yes rfl (wake (ab hb12 b15))
    rcases ht with e |e
    ·exact aa.no (by rw [e];rfl) (out _ (hw0 e))
    ·refine aa.yes (by rw [e];rfl) ⟨_,_,_,af _ _ h12 1,Ar.ok64 (by omega) (by omega) ⟨_,_,_,af _ _ h12 2,Ar.ok64 (by omega) (by omega) (Ar.ok64 (by omega) (by omega) (out _ ?_))⟩⟩;rw [gI,if_neg (by omega),n1,n2];omega
   rcases ht with e |e
   ·exact aa.yes (by rw [e];rfl) (Ar.ok64 (by omega) (by omega) (key _ fun _=>by rw [gI,if_pos e];omega))
   ·exact aa.no (by rw [e];rfl) (key 0 fun e'=>by omega)
  |ok T=>
   rw [hb]at hp;obtain⟨p,rfl,hN⟩:=hp;refine⟨_,_,_,rfl,_,_,_,_,_,_,_,_,_,_,_,_,_,_,_,_,aV h5,?_⟩;refine(gg w5 x s (hx2.on b5)).mono ?_;rintro e w6 ⟨rfl,b6⟩;rw [hright];have h6:=ah b6 h5;have hx6:=(hx2.on b5).on b6;refine⟨_,rfl,aa.no rfl ⟨_,_,_,_,_,_,_,_,_,_,_,_,_,_,_,_,aV h6,?_⟩⟩;refine(ij w6 x s hx6 hright).mono ?_;rintro e w8 ⟨u,rfl,z,a,b,c,rfl,b8,hm⟩;rw [hb]at hm;obtain⟨rfl,rfl,rfl⟩:=hm;refine⟨_,_,_,_,_,_,_,_,_,_,_,_,_,_,_,_,_,_,rfl,?_⟩;intro w9 hw9;refine aJ (gq py) (gq z) rfl (eh z) w9 hw9 ?_;intro w10 h10' hz10 b10;have b610:=ab b8 b10;have h10:=ah b610 h6;have hx10:=hx6.on b610;have hb10:=ab (ab hb5 b6) b610;refine⟨_,_,_,_,_,_,_,_,_,_,_,_,_,_,_,_,aV h10,?_⟩;refine(fS x s w10 hx10 hfit (iv hright)).mono ?_;rintro e w11 ⟨rfl,b11⟩;have hb11:=ab hb10 b11;refine⟨_,rfl,(ed s.text w11 (h.on hb11)).mono ?_⟩;rintro e w12 ⟨v,rfl,b12,hp⟩;rw [if_neg (by omega),jk s hright]at hp;simp only [hb]at hp;obtain⟨p2,rfl,hN2⟩:=hp;have b1012:=ab b11 b12;have hb12:=ab hb10 b1012;have h12:=ah b1012 h10;refine⟨_,_,_,rfl,?_⟩;intro J hJ;refine aa.no rfl (hJ 0 w12 ?_);intro J2 hJ2;refine aa.no rfl (hJ2 0 w12 (aa.no rfl (aa.no rfl (aa.no rfl (aa.no rfl (aa.no rfl (aa.no rfl ?_)))))));intro w15 hw15;have b15:Below w12.heap.size w12 w15:=by subst hw15;exact ba w12
   have h15:=ah b15 h12;have hx15:=(hx10.on b1012).on b15;have hb15:=ab hb12 b15;have b615:=ab (ab b610 b1012) b15;obtain⟨w0,x1,tp,bp,mp,hR,_⟩:=(hN.on b6).on b615;refine aa.no rfl ⟨_,_,_,_,_,_,_,_,_,_,_,_,_,_,_,_,aV h15,?_⟩;refine(fL w15 p hR.blk hR.now.spec hsm).mono ?_;rintro e w17 ⟨x',rfl,hx',b17,_⟩;have h17:=ah b17 h15;refine⟨_,_,_,_,_,_,_,_,_,_,_,_,_,_,_,_,rfl,aV h17,?_⟩;refine(gA x' x s s w17 hx' (hx15.on b17) hsm).mono ?_;rintro e w18 ⟨rfl,b18⟩;have b1518:=ab b17 b18;have h18:=ah b18 h17;refine⟨_,rfl,aa.yes (by simp) ⟨_,_,_,_,_,_,_,_,_,_,_,_,_,_,_,_,aV h18,?_⟩⟩;obtain⟨w0',x2,tp2,bp2,mp2,hR2,_⟩:=(hN2.on b15).on b1518;refine(fL w18 p2 hR2.blk hR2.now.spec hsm).mono ?_;rintro e w19 ⟨x'',rfl,hx'',b19,_⟩;refine⟨_,_,_,_,_,_,_,_,_,_,_,_,_,_,_,_,rfl,aV (ah b19 h18),?_⟩;refine(gA x'' x s s w19 hx'' ((hx15.on b1518).on b19) hsm).mono ?_;rintro e w20 ⟨rfl,b20⟩;exact⟨_,rfl,aa.yes (by simp) (wake (ab hb15 (ab (ab b1518 b19) b20)))⟩
end Go.Proofs.YtijbcdiffjjefaaGreatDoor.Eng
