/- Vocabularies: what they are, and how they are made, walked by the engine. -/
import Derived.Test.YtijbcdiffjjefaaGreatDoorZtHp
import Derived.Laws.MakeOwn
import Derived.Tactics
import Derived.Tactics2
import Derived.Defers
import Derived.Laws.Pointers
import Derived.Laws.LoneSync
import Derived.RegionTactic
import Derived.RegionCalls
import Derived.ChangeAlike
import Derived.Test.YtijbcdiffjjefaaGreatDoorZtRy
import Derived.Test.YtijbcdiffjjefaaGreatDoorZtTab
set_option linter.unusedVariables false
set_option linter.unusedSimpArgs false
set_option maxRecDepth 100000
namespace Go.Proofs.YtijbcdiffjjefaaGreatDoor.Eng
open Go Go.RowKit
abbrev na:TypeId:=186
abbrev Bd:TypeId:=4
def Av (s:aj) (T:List bJ) (i:Nat):Bool:=decide (d' T (db T (i:Int))= [(i:Int)])&&Aw (cutB s.classes s.joins) (db T (i:Int))
def AB (s:aj) (T:List bJ):List Bool:=(List.range T.length).map (Av s T)
def BU (b:Bool):List Value:=[.bool b]
structure dF (w:World) (s:aj) (T:List bJ) (x:aI) (tp bp mp:Nat):Prop where
 spec:bF w x s
 tab:cX w tp T
 ok:rd T
 bound:uL w bp s.classes s.joins
 marks:pu w mp s.specials
 right:s.right=true
 ids:∀y∈s.specials,(T.length:Int)≤y.1
 nodup:(s.specials.map (·.1)).Nodup
theorem dF.on {w w':World} {s:aj} {T:List bJ} {x:aI} {tp bp mp:Nat} (h:dF w s T x tp bp mp) (hb:Below w.heap.size w w'):dF w' s T x tp bp mp:=
 ⟨h.spec.on hb,h.tab.on hb,h.ok,h.bound.on hb,h.marks.on hb,h.right,h.ids,h.nodup⟩
abbrev kp (x:aI) (tp bp mp:Nat) (d:Int) (l:Sl) (uses:Int):Array Value:=#[.bool x.ranked,x.s1.v,x.s2.v,x.s3.v,x.s4.v,x.s5.v,.pointer (some ⟨tp,0,none⟩),.pointer (some ⟨bp,0,none⟩),.pointer (some ⟨mp,0,none⟩),.int .u32 d,.int .i32 0,.int .u32 0,l.v,.int .i64 uses]
structure fh (w:World) (v:Nat) (s:aj) (T:List bJ) (w0:World) (x:aI) (tp bp mp:Nat) (d:Int) (l:Sl) (uses:Int):Prop where
 parts:dF w0 s T x tp bp mp
 below:Below w0.heap.size w0 w
 lt:w0.heap.size≤v
 blk:w.heap[v]? =some (.cells (kp x tp bp mp d l uses) na (0,0))
 once:(d=0∧l=⟨none,0,0⟩)∨(d=1∧l.n=T.length∧w.ownsRow (v+1) Bd 1 l.v l.n ((AB s T).flatMap BU))
def CI (w:World) (v:Nat) (s:aj) (T:List bJ):Prop:=∃w0 x tp bp mp d l uses,fh w v s T w0 x tp bp mp d l uses
theorem fh.on {w w':World} {v:Nat} {s:aj} {T:List bJ} {w0:World} {x:aI} {tp bp mp:Nat} {d:Int} {l:Sl} {uses:Int} (h:fh w v s T w0 x tp bp mp d l uses) (hb:Below w.heap.size w w'):fh w' v s T w0 x tp bp mp d l uses:=
 ⟨h.parts,h.below.trans (hb.mono h.below.size),h.lt,av hb h.blk,h.once.imp id fun⟨a,b,c⟩=>⟨a,b,bl c hb⟩⟩
theorem fh.now {w:World} {v:Nat} {s:aj} {T:List bJ} {w0:World} {x:aI} {tp bp mp:Nat} {d:Int} {l:Sl} {uses:Int} (h:fh w v s T w0 x tp bp mp d l uses):dF w s T x tp bp mp:=h.parts.on h.below
theorem nd (w:World) (cb:Nat) (tp:Nat) (T:List bJ) (hT:cX w tp T) (y:Int×Bs) (hcb:cb<w.heap.size) (hc:w.cell? ⟨cb,0,none⟩=some (.pointer (some ⟨tp,0,none⟩))):
  CP 133 #[.agg #[.int .i64 y.1,.string (str y.2)],.pointer (some ⟨cb,0,none⟩)] w fun e w'=>e= .returned (.bool (decide (y.1< (T.length:Int))))∧Below w.heap.size w w':=by
 refine aK (pT y.1 (str y.2) (some ⟨cb,0,none⟩) w) ?_;intro w1 hw1 w2 hw2;have hb2:Below w.heap.size w w2:=by subst hw2;subst hw1;exact(ak _ _).drew
 have hl2:w2.heap[w.heap.size]? =some (.cells #[.int .i64 y.1,.string (str y.2)] rq (0,0)):=by subst hw2;subst hw1;exact aC _ _
 refine⟨_,af _ _ hl2 0,ac.mk _ rfl ⟨_,by rw [hb2.cell hcb];exact hc,?_⟩⟩;refine(ea w2 tp T (hT.on hb2)).mono ?_;rintro e w3 ⟨rfl,hw⟩;subst hw;exact⟨_,rfl,⟨af _ _ hl2 0,trivial⟩,rfl,hb2⟩
def bQ (s:aj):Except (Int×Nat×Int) (List bJ):=match iB s with
 | .error q=>.error (1,q.1,q.2)
 | .ok T=>match bD [] 0 s.specials with
  |some q=>.error (2,q.1,q.2)
  |none=>match s.specials.findIdx? (fun y=>decide (y.1< (T.length:Int)))with
   |some i=>.error (2,i,4)
   |none=>.ok T
def AE (w:World) (s:aj) (v:Value) (w':World):Prop:=Below w.heap.size w w'∧match bQ s with
 | .error q=>v= .tuple #[.pointer none,.int .i64 q.1,.int .i64 q.2.1,.int .i64 q.2.2]∧q.2.2≠0
 | .ok T=>∃p,v= .tuple #[.pointer (some ⟨p,0,none⟩),.int .i64 0,.int .i64 0,.int .i64 0]∧CI w' p s T∧w.heap.size≤p
def fJ (B:Nat) (w':World) (p:Nat) (s:aj) (T:List bJ):Prop:=∃w0 x tp bp mp,fh w' p s T w0 x tp bp mp 0 ⟨none,0,0⟩ 0∧B≤p∧dy B w' x s
def hG (w:World) (s:aj) (v:Value) (w':World):Prop:=Below w.heap.size w w'∧match bQ s with
 | .error q=>v= .tuple #[.pointer none,.int .i64 q.1,.int .i64 q.2.1,.int .i64 q.2.2]∧q.2.2≠0
 | .ok T=>∃p,v= .tuple #[.pointer (some ⟨p,0,none⟩),.int .i64 0,.int .i64 0,.int .i64 0]∧fJ w.heap.size w' p s T
theorem fJ.on {B:Nat} {w w':World} {p:Nat} {s:aj} {T:List bJ} (h:fJ B w p s T) (hb:Below w.heap.size w w'):fJ B w' p s T:=by
 obtain⟨w0,x,tp,bp,mp,hR,hp,ho⟩:=h;exact⟨w0,x,tp,bp,mp,hR.on hb,hp,ho.on hb⟩
theorem fJ.base {B B':Nat} {w:World} {p:Nat} {s:aj} {T:List bJ} (h:fJ B w p s T) (hB:B'≤B):fJ B' w p s T:=by
 obtain⟨w0,x,tp,bp,mp,hR,hp,ho⟩:=h;exact⟨w0,x,tp,bp,mp,hR,Nat.le_trans hB hp,ho.base hB⟩
theorem rD {xs:List (Int×Bs)}:∀ {ys:List (Int×Bs)} {i:Nat} {q:Nat×Int},bD ys i xs=some q→q.2≠0:=by
 induction xs with
 |nil=>intro ys i q h;cases h
 |cons x xs ih=>
  intro ys i q h;rw [bD]at h;split at h
  ·exact ih h
  ·rename_i hne;cases h;exact hne
theorem lO {xs:List (Int×Bs)}:∀ {ys:List (Int×Bs)} {i:Nat},bD ys i xs=none→(ys.map (·.1)).Nodup→((ys++xs).map (·.1)).Nodup:=by
 induction xs with
 |nil=>intro ys i _ h;rw [List.append_nil];exact h
 |cons x xs ih=>
  intro ys i h hn;rw [bD]at h;split at h
  ·rename_i hz;have:=ih h (by
    rw [List.map_append,List.nodup_append];refine⟨hn,by simp,fun a ha b hb=>?_⟩;simp at hb;subst hb;rintro rfl;unfold cf at hz;split at hz
    ·omega
    ·split at hz
     ·omega
     ·split at hz
      ·omega
      ·rename_i h3;exact h3 (.inl ha))
   simpa using this
  ·cases h
theorem uE {s:aj} (h:s.right=true):(∀c∈s.classes,aS c=true)∧(∀j∈s.joins,cQ j=true)∧(∀t∈s.tokens,t.length≤100000):=by
 obtain⟨_,_,h3,_,h5,h6⟩:=bv h;simp only [aQ,Bool.and_eq_true,List.all_eq_true]at h3 h5 h6;refine⟨h5.2,h6.2,fun t ht=>?_⟩;have:=of_decide_eq_true (by simpa [cZ]using h3.2 t ht:decide _=true);omega
theorem oy (w:World) (x:aI) (s:aj) (h:bF w x s) (hright:s.right=true):
  CP 91 #[x.v] w fun e w'=>∃v,e= .returned v∧hG w s v w':=by
 refine rx x.ranked x.s1.a x.s1.n x.s1.c x.s2.a x.s2.n x.s2.c x.s3.a x.s3.n x.s3.c x.s4.a x.s4.n x.s4.c x.s5.a x.s5.n x.s5.c w (hG w s) ?_;intro w1 hw1;have hs:=ej hright;obtain⟨okc,okj,okt⟩:=uE hright;have hb1:Below w.heap.size w w1:=by subst hw1;exact ak _ _
 have hz1:w1.heap.size=w.heap.size+1:=by subst hw1;exact ao _ _
 have p1:w1.heap[w.heap.size]? =some (.cells x.cells bO (0,0)):=by subst hw1;exact aC _ _
 have h1:=h.on hb1;refine⟨_,_,_,_,_,_,_,_,_,_,_,_,_,_,_,_,f7 p1,?_⟩;refine(tW w1 x s h1 hs okt).mono ?_;rintro e w2 ⟨v,rfl,hb2,hload⟩;have hb12:=ae hb1 hb2;have p2:=av hb2 p1;have hz2:=hb2.size;have store:∀(r0:Option Addr) (w3 w4:World),w3=w2.alloc (.cells #[Value.pointer none] 100)→w4=w3.setCell (nb w2) (.pointer r0)→w4.heap[w2.heap.size]? =some (.cells #[.pointer r0] 100 (0,0))∧Below w2.heap.size w2 w4:=by
  intro r0 w3 w4 hw3 hw4;have a3:w3.heap[w2.heap.size]? =some (.cells #[Value.pointer none] 100 (0,0)):=by subst hw3;exact aC _ _
  have b3:Below w2.heap.size w2 w3:=by subst hw3;exact ak _ _
  have hp:=aV (j:=0) a3 (.pointer r0);have bp:=aN (j:=0) b3 (Nat.le_refl _) (.pointer r0);rw [al]at hp bp;subst hw4;exact⟨hp,bp⟩
 have slot:∀(w3:World),w3=w2.alloc (.cells #[Value.pointer none] 100)→(∃u,w3.cell? (nb w2)=some u)∧w3.frozen? (nb w2)=false:=by
  intro w3 hw3;subst hw3;have a3:=aC w2 (.cells #[Value.pointer none] 100);refine⟨⟨.pointer none,by rw [ay];rfl⟩,fN a3⟩
 have fail:∀(q:Int×Nat×Int) (w':World),bQ s= .error q→q.2.2≠0→Below w.heap.size w w'→hG w s (.tuple #[.pointer none,.int .i64 q.1,.int .i64 q.2.1,.int .i64 q.2.2]) w':=by
  intro q w' hq hne hb;refine⟨hb,?_⟩;rw [hq];exact⟨rfl,hne⟩
 cases hl:iB s with
 |error q=>
  rw [hl]at hload;obtain⟨rfl,hq⟩:=hload;refine⟨_,_,_,rfl,?_⟩;intro w3 hw3;obtain⟨u3,f3⟩:=slot w3 hw3;refine⟨rfl,u3,f3,?_⟩;intro w4 hw4;obtain⟨a4,b4⟩:=store none w3 w4 hw3 hw4;refine aa.yes (by simpa using hq) ?_;exact fail (1,q.1,q.2) w4 (by rw [bQ,hl]) hq (ae hb12 b4)
 |ok T=>
  rw [hl]at hload;obtain⟨tp,rfl,hT,hok⟩:=hload;refine⟨_,_,_,rfl,?_⟩;intro w3 hw3;obtain⟨u3,f3⟩:=slot w3 hw3;refine⟨rfl,u3,f3,?_⟩;intro w4 hw4;obtain⟨a4,b4⟩:=store (some ⟨tp,0,none⟩) w3 w4 hw3 hw4;have hb14:=ae hb12 b4;have hz4:=b4.size;have p4:=av b4 p2;have hT4:=hT.on b4;have h4:=h.on hb14;refine aa.no rfl ⟨_,_,_,by rw [af _ _ p4];rfl,?_⟩;have hM:=nl w4 x.s3.a x.s3.c s.specials h4.r3 (by have:=hs.2.2.1;omega);rw [←h.n3]at hM;refine hM.mono ?_;rintro e w5 ⟨v,rfl,b5,hmark⟩;have hb15:=ae hb14 b5;have p5:=av b5 p4;cases hm:bD [] 0 s.specials with
  |some q=>
   rw [hm]at hmark;subst hmark;have hne:=rD hm;refine⟨_,_,_,rfl,aa.yes (by simpa using hne) ?_⟩;exact fail (2,q.1,q.2) w5 (by rw [bQ,hl];simp only [hm]) hne hb15
  |none=>
   rw [hm]at hmark;obtain⟨mp,hv,hMk⟩:=hmark;subst hv;refine⟨_,_,_,rfl,aa.no rfl ⟨_,_,_,by rw [af _ _ p5];rfl,?_⟩⟩;have hI:=jn x.s3.a x.s3.c s.specials (.func (.func 133) #[] #[.pointer (some (nb w2))]) (fun y=>decide (y.1< (T.length:Int))) w5 (h.on hb15).r3 (by have:=hs.2.2.1;omega) (by
    intro y hy w6 hb6;refine cv (by kernel_rfl) ?_;refine(nd w6 w2.heap.size tp T ((hT4.on b5).on hb6) y (by have:=b5.size;have:=hb6.size;have:=(Array.getElem?_eq_some_iff.1 a4).1;omega) ?_);have:=af _ _ (av hb6 (av b5 a4)) 0;rw [al]at this;exact this)
   rw [←h.n3]at hI;refine hI.mono ?_;rintro e w6 ⟨rfl,b6⟩;have hb16:=ae hb15 b6;have p6:=av b6 p5;refine⟨_,rfl,?_⟩;unfold ub;cases hi:s.specials.findIdx? (fun y=>decide (y.1< (T.length:Int)))with
   |some i=>
    refine aa.yes (by simp) ?_;exact fail (2,i,4) w6 (by rw [bQ,hl];simp only [hm,hi]) (show(4:Int)≠0 by decide) hb16
   |none=>
    refine aa.no (by simp) ?_;have h6:=h.on hb16;have hB:=lJ w6 x.s4.a x.s5.a x.s4.c x.s5.c s.classes s.joins h6.r4 h6.r5 hs.2.2.2.1 hs.2.2.2.2 okc okj;rw [←h.n4, ←h.n5]at hB;refine⟨_,_,_,by rw [af _ _ p6];rfl,_,_,_,by rw [af _ _ p6];rfl,?_⟩;refine hB.mono ?_;rintro e w7 ⟨bp,rfl,hBd,b7,_⟩;refine⟨_,_,rfl,aa.no rfl ?_⟩;intro w8 hw8;have b8:Below w7.heap.size w7 w8:=by subst hw8;exact cK w7
    have b48:Below w4.heap.size w4 w8:=ae b5 (ae b6 (ae b7 b8));have p8:=av b48 p4;have a8:=av b48 a4;have hb18:=ae hb14 b48;have ptr8:∀ {w':World},w'.heap[w2.heap.size]? =some (.cells #[.pointer (some ⟨tp,0,none⟩)] 100 (0,0))→w'.cell? (nb w2)=some (.pointer (some ⟨tp,0,none⟩)):=fun hh=>by
     have:=af _ _ hh 0;rw [al]at this;exact this
    refine⟨_,_,_,_,_,_,_,_,_,_,_,_,_,_,_,_,f7 p8,_,ptr8 a8,?_⟩;refine(nF w8 x s (h.on hb18) hs).mono ?_;rintro e w9 ⟨x',rfl,hx',b9,ho9⟩;refine⟨_,_,_,_,_,_,_,_,_,_,_,_,_,_,_,_,rfl,⟨ptr8 (av b9 a8),trivial⟩,?_⟩;rintro w10 rfl;have b10:=ak w9 (.cells (kp x' tp bp mp 0 ⟨none,0,0⟩ 0) na);have b19:=ae hb18 b9;refine⟨ae b19 b10,?_⟩;have hbv:bQ s= .ok T:=by rw [bQ,hl];simp only [hm,hi]
    rw [hbv];refine⟨w9.heap.size,rfl,w9,x',tp,bp,mp,⟨⟨hx',?_,hok,?_,?_,hright,?_,?_⟩,b10,Nat.le_refl _,aC _ _,.inl ⟨rfl,rfl⟩⟩,b19.size,(ho9.base hb18.size).on b10⟩
    ·exact(hT4.on b48).on b9
    ·exact(hBd.on b8).on b9
    ·exact((((hMk.is).on b6).on b7).on b8).on b9
    ·intro y hy;have:=List.findIdx?_eq_none_iff.1 hi y hy;have:=of_decide_eq_false this;omega
    ·have:=lO (ys:=[]) hm (by simp);simpa using this
structure ug (w:World) (v:Nat) (c:Array Value) (tp bp mp:Nat):Prop where
 blk:w.heap[v]? =some (.cells c na (0,0))
 size:c.size=14
 c6:c[6]? =some (.pointer (some ⟨tp,0,none⟩))
 c7:c[7]? =some (.pointer (some ⟨bp,0,none⟩))
 c8:c[8]? =some (.pointer (some ⟨mp,0,none⟩))
theorem fh.vblk {w:World} {v:Nat} {s:aj} {T:List bJ} {w0:World} {x:aI} {tp bp mp:Nat} {d:Int} {l:Sl} {uses:Int} (h:fh w v s T w0 x tp bp mp d l uses):ug w v (kp x tp bp mp d l uses) tp bp mp:=⟨h.blk,rfl,rfl,rfl,rfl⟩
theorem zU (w:World) (v:Nat) {c:Array Value} (h:w.heap[v]? =some (.cells c na (0,0))) (a b:Nat):w.cell? (((⟨v,0,none⟩:Addr).add a).add b)=c[a+b]? :=by rw [Addr.add_add];exact af _ _ h _
theorem lI {w:World} {v:Nat} {c:Array Value} {tp bp mp:Nat} (h:ug w v c tp bp mp):CP 54 #[.pointer (some ⟨v,0,none⟩)] w fun e w'=>e= .returned (.pointer (some ⟨tp,0,none⟩))∧w'=w:=by
 refine aK (gW (some ⟨v,0,none⟩) w) ?_;exact aa.no rfl (ac.mk _ rfl ⟨_,by rw [zU w v h.blk];exact h.c6,rfl,rfl⟩)
theorem lK {w:World} {v:Nat} {c:Array Value} {tp bp mp:Nat} (h:ug w v c tp bp mp):CP 56 #[.pointer (some ⟨v,0,none⟩)] w fun e w'=>e= .returned (.pointer (some ⟨mp,0,none⟩))∧w'=w:=by
 refine aK (g8 (some ⟨v,0,none⟩) w) ?_;exact aa.no rfl (ac.mk _ rfl ⟨_,by rw [zU w v h.blk];exact h.c8,rfl,rfl⟩)
theorem ia {w:World} {v:Nat} {c:Array Value} {tp bp mp:Nat} (h:ug w v c tp bp mp) {T:List bJ} (hT:cX w tp T):CP 50 #[.pointer (some ⟨v,0,none⟩)] w fun e w'=>e= .returned (.int .i64 T.length)∧w'=w:=by
 refine aK (gY (some ⟨v,0,none⟩) w) ?_;refine(lI h).mono ?_;rintro e w1 ⟨rfl,hw⟩;subst hw;refine⟨_,rfl,(ea w1 tp T hT).mono ?_⟩;rintro e w2 ⟨rfl,hw⟩;subst hw;exact⟨_,rfl,rfl,rfl⟩
theorem dF.few {w:World} {s:aj} {T:List bJ} {x:aI} {tp bp mp:Nat} (h:dF w s T x tp bp mp):s.specials.length≤1000000:=(ej h.right).2.2.1
def ky (s:aj) (T:List bJ) (id:Int):Bool:=decide (id∈s.specials.map (·.1)∨dB T id)
theorem ji {w:World} {v:Nat} {c:Array Value} {tp bp mp:Nat} (h:ug w v c tp bp mp) {s:aj} {T:List bJ} {x:aI} (hp:dF w s T x tp bp mp) (id:Int):CP 49 #[.pointer (some ⟨v,0,none⟩),.int .i64 id] w fun e w'=>e= .returned (.bool (ky s T id))∧w'=w:=by
 refine az (lE (some ⟨v,0,none⟩) id w (fun u w'=>u= .bool (ky s T id)∧w'=w) ?_) (by rintro v w' ⟨rfl,h⟩;exact⟨rfl,h⟩);refine(lK h).mono ?_;rintro e w1 ⟨rfl,hw⟩;subst hw;refine⟨_,rfl,(lT w1 mp s.specials hp.marks hp.few id).mono ?_⟩;rintro e w2 ⟨rfl,hw⟩;subst hw;have hm:(mR s.specials id).isSome=true↔id∈s.specials.map (·.1):=m8;refine⟨_,_,rfl,aa.mk (fun h0=>?_) fun h0=>aa.mk (fun h1=>?_) fun h1=>?_⟩
 ·refine⟨?_,rfl⟩;rw [ky,decide_eq_true (.inl (hm.1 h0))]
 ·have h1:=of_decide_eq_true h1;refine(ia h hp.tab).mono ?_;rintro e w3 ⟨rfl,hw⟩;subst hw;refine⟨_,rfl,?_,rfl⟩;congr 1;have hn:id∉s.specials.map (·.1):=fun h=>by rw [hm.2 h]at h0;cases h0
  unfold ky;exact decide_eq_decide.2 ⟨fun h=>.inr ⟨h1,h⟩,fun h=>h.elim (fun h=>absurd h hn) fun h=>h.2⟩
 ·have h1:=of_decide_eq_false h1;have hn:id∉s.specials.map (·.1):=fun h=>by rw [hm.2 h]at h0;cases h0
  refine⟨?_,rfl⟩;rw [ky,decide_eq_false (fun h=>h.elim (fun h=>hn h) fun h=>h1 h.1)]
theorem th (w:World) (id:Int):CP 43 #[.pointer none,.int .i64 id] w fun e w'=>e= .returned (.bool false)∧w'=w:=by
 refine aK (sg none id w) ?_;exact aa.yes rfl ⟨rfl,rfl⟩
instance (V:Voc) (ids:List Int):Decidable (V.Canon ids):=inferInstanceAs (Decidable (V.encode (V.itemsAll ids)=ids))
open Go Go.Value
theorem Ar.nat {z:Int} {F:Int→Prop} (n:Nat) (hz:z=(n:Int)) (hn:n≤9223372036854775807) (h:F (n:Int)):Ar .i64 z F:=by
 subst hz;exact Ar.ok64 (by omega) (by omega) h
open Go.ChangeShapes Go.WideShapes
section
variable {H:Type} {enc0:TypeId×Value→H} {w:World} {base:Nat} {spare:Nat→Bool} {held:Bool}
end
def Dc (a:OA) (w:World) (R:RW):Prop:=
 CP 50 #[pointer a] w (fun b c=>
 ∃d,b= .returned (int .i64 d)∧
 ∀f:KW,(∀(g:Int) (h:OA) (i j:Nat) (k:World),(aa (decide (g<d))
 (∀l,l=k.alloc (.cells #[int .i64 g] 3)→
 ∃m n o p,(Builtin.append_ #[28,28] 28 #[slice h i j,slice (some (nb k)) 1 1]).run Tryz.prog l= .ok (slice m n o) p∧
 Ar .i64 (g+1) (fun q=>
 f [int .i64 q,slice m n o] p))
 (CP 56 #[pointer a] k (fun r s=>
 ∃t,r= .returned (pointer t)∧
 CP 114 #[pointer t] s (fun u x=>
 ∃y z a1,u= .returned (slice y z a1)∧
 ∀b1:KW,(∀(c1:Int) (d1:OA) (e1 f1:Nat) (g1:World),(aa (decide (c1< (z:Int)))
 (ac y (fun h1=>
 (0:Int)≤c1∧c1< (z:Int)∧
 ∃i1 j1,(g1.cell? (h1.add (c1.toNat*2))=some (int .i64 i1)∧g1.cell? ((h1.add (c1.toNat*2)).add 1)=some (string j1)∧True)∧
 ∀k1,k1=g1.alloc (.cells #[int .i64 0,string ⟨#[]⟩] 87)→
 aG k1 (nb g1) (fun l1=>
 ∃m1,l1.cell? ((nb g1).add 0)=some (int .i64 m1)∧
 ∀n1,n1=l1.alloc (.cells #[int .i64 m1] 3)→
 ∃o1 p1 q1 r1,(Builtin.append_ #[28,28] 28 #[slice d1 e1 f1,slice (some (nb l1)) 1 1]).run Tryz.prog n1= .ok (slice o1 p1 q1) r1∧
 Ar .i64 (c1+1) (fun s1=>
 b1 [int .i64 s1,slice o1 p1 q1] r1)) [int .i64 i1,string j1] 0))
 (CP 115 #[slice d1 e1 f1] g1 (fun t1 u1=>
 t1= .returned (tuple #[])∧
 R (slice d1 e1 f1) u1)))→b1 [int .i64 c1,slice d1 e1 f1] g1)→
 b1 [int .i64 0,slice h i j] x))))→f [int .i64 g,slice h i j] k)→
 f [int .i64 0,slice none 0 0] c)
theorem r9 (a:OA) (w:World) (R:RW) (hh:Dc a w R):CR 48 #[pointer a] w R:=
 aB (fn:=Tryz.f48) (by kernel_rfl) (by kernel_rfl) (by kernel_rfl) (by kernel_rfl) (by kernel_rfl) hh
def CN (a:OA) (w:World) (R:RW):Prop:=
 aa (Option.isNone a)
 (R (slice none 0 0) w)
 (ac a (fun b=>
 ∃c d f,w.cell? (b.add 0)=some (slice c d f)∧
 CP 144 #[slice c d f] w (fun g h=>
 ∃i j k,g= .returned (slice i j k)∧
 R (slice i j k) h)))
theorem pG (a:OA) (w:World) (R:RW) (hh:CN a w R):CR 114 #[pointer a] w R:=
 aB (fn:=Tryz.f114) (by kernel_rfl) (by kernel_rfl) (by kernel_rfl) (by kernel_rfl) (by kernel_rfl) hh
def Ck (a:OA) (b c:Nat) (w:World) (R:RW):Prop:=
 CP 170 #[int .u64 (IntKind.wrap .u64 (b:Int))] w (fun d f=>
 ∃g,d= .returned (int .i64 g)∧
 CP 169 #[slice a b c,int .i64 0,int .i64 (b:Int),int .i64 g] f (fun h i=>
 h= .returned (tuple #[])∧
 R (tuple #[]) i))
theorem oG (a:OA) (b c:Nat) (w:World) (R:RW) (hh:Ck a b c w R):CR 115 #[slice a b c] w R:=
 aB (fn:=Tryz.f115) (by kernel_rfl) (by kernel_rfl) (by kernel_rfl) (by kernel_rfl) (by kernel_rfl) hh
def AV (a:OA) (b c:Nat) (d f g:Int) (w:World) (R:RW):Prop:=
 ∀h:KW,(∀(i j:Bool) (k l m:Int) (n:World),(∀o:KW,(∀(p q:Bool) (r s t:Int) (u:World),(h [bool p,bool q,int .i64 r,int .i64 s,int .i64 t] u)→o [bool p,bool q,int .i64 r,int .i64 s,int .i64 t] u)→
 Ar .i64 (l-k) (fun x=>
 aa (decide (x≤12))
 (CP 213 #[slice a b c,int .i64 k,int .i64 l] n (fun y z=>
 y= .returned (tuple #[])∧
 R (tuple #[]) z))
 (aa (m==0)
 (CP 214 #[slice a b c,int .i64 k,int .i64 l] n (fun a1 b1=>
 a1= .returned (tuple #[])∧
 R (tuple #[]) b1))
 (∀c1:KW,(∀(d1:Int) (e1:World),(CP 216 #[slice a b c,int .i64 k,int .i64 l] e1 (fun f1 g1=>
 ∃h1 i1,f1= .returned (tuple #[int .i64 h1,int .i64 i1])∧
 ∀j1:KW,(∀(k1 l1:Int) (m1:World),(∀n1:KW,(∀o1:World,(∀p1,p1=o1.drew→
 aa (decide (k>0))
 (Ar .i64 (k-1) (fun q1=>
 ac a (fun r1=>
 (0:Int)≤q1∧q1< (b:Int)∧
 ∃s1,p1.cell? (r1.add (q1.toNat*1))=some (int .i64 s1)∧
 ac a (fun t1=>
 (0:Int)≤l1∧l1< (b:Int)∧
 ∃u1,p1.cell? (t1.add (l1.toNat*1))=some (int .i64 u1)∧
 CP 219 #[int .i64 s1,int .i64 u1] p1 (fun v1 x1=>
 ∃y1,v1= .returned (bool y1)∧
 aa (!y1)
 (CP 220 #[slice a b c,int .i64 k,int .i64 l,int .i64 l1] x1 (fun z1 a2=>
 ∃b2,z1= .returned (int .i64 b2)∧
 o [bool i,bool j,int .i64 b2,int .i64 l,int .i64 d1] a2))
 (CP 221 #[slice a b c,int .i64 k,int .i64 l,int .i64 l1] x1 (fun c2 d2=>
 ∃e2 f2,c2= .returned (tuple #[int .i64 e2,bool f2])∧
 Ar .i64 (e2-k) (fun g2=>
 Ar .i64 (l-e2) (fun h2=>
 (8:Int)≠0∧
 aa (decide (g2<h2))
 (CP 169 #[slice a b c,int .i64 k,int .i64 e2,int .i64 d1] d2 (fun i2 j2=>
 i2= .returned (tuple #[])∧
 Ar .i64 (e2+1) (fun k2=>
 o [bool f2,bool (decide (g2≥(IntKind.wrap .i64 (Int.tdiv x 8)))),int .i64 k2,int .i64 l,int .i64 d1] j2)))
 (Ar .i64 (e2+1) (fun l2=>
 CP 169 #[slice a b c,int .i64 l2,int .i64 l,int .i64 d1] d2 (fun m2 n2=>
 m2= .returned (tuple #[])∧
 o [bool f2,bool (decide (h2≥(IntKind.wrap .i64 (Int.tdiv x 8)))),int .i64 k,int .i64 e2,int .i64 d1] n2))))))))))))
 (CP 221 #[slice a b c,int .i64 k,int .i64 l,int .i64 l1] p1 (fun o2 p2=>
 ∃q2 r2,o2= .returned (tuple #[int .i64 q2,bool r2])∧
 Ar .i64 (q2-k) (fun s2=>
 Ar .i64 (l-q2) (fun t2=>
 (8:Int)≠0∧
 aa (decide (s2<t2))
 (CP 169 #[slice a b c,int .i64 k,int .i64 q2,int .i64 d1] p2 (fun u2 v2=>
 u2= .returned (tuple #[])∧
 Ar .i64 (q2+1) (fun x2=>
 o [bool r2,bool (decide (s2≥(IntKind.wrap .i64 (Int.tdiv x 8)))),int .i64 x2,int .i64 l,int .i64 d1] v2)))
 (Ar .i64 (q2+1) (fun y2=>
 CP 169 #[slice a b c,int .i64 y2,int .i64 l,int .i64 d1] p2 (fun z2 a3=>
 z2= .returned (tuple #[])∧
 o [bool r2,bool (decide (t2≥(IntKind.wrap .i64 (Int.tdiv x 8)))),int .i64 k,int .i64 q2,int .i64 d1] a3))))))))→n1 [] o1)→
 aa j
 (aa i
 (aa (k1==1)
 (CP 218 #[slice a b c,int .i64 k,int .i64 l] m1 (fun b3 c3=>
 ∃d3,b3= .returned (bool d3)∧
 aa d3
 (R (tuple #[]) c3)
 (n1 [] c3)))
 (n1 [] m1))
 (n1 [] m1))
 (n1 [] m1))→j1 [int .i64 k1,int .i64 l1] m1)→
 aa (i1==2)
 (CP 217 #[slice a b c,int .i64 k,int .i64 l] g1 (fun e3 f3=>
 e3= .returned (tuple #[])∧
 Ar .i64 (l-1) (fun g3=>
 Ar .i64 (h1-k) (fun h3=>
 Ar .i64 (g3-h3) (fun i3=>
 j1 [int .i64 1,int .i64 i3] f3)))))
 (j1 [int .i64 i1,int .i64 h1] g1)))→c1 [int .i64 d1] e1)→
 aa (!j)
 (CP 215 #[slice a b c,int .i64 k,int .i64 l] n (fun j3 k3=>
 j3= .returned (tuple #[])∧
 Ar .i64 (m-1) (fun l3=>
 c1 [int .i64 l3] k3)))
 (c1 [int .i64 m] n)))))→h [bool i,bool j,int .i64 k,int .i64 l,int .i64 m] n)→
 h [bool true,bool true,int .i64 d,int .i64 f,int .i64 g] w
theorem oT (a:OA) (b c:Nat) (d f g:Int) (w:World) (R:RW) (hh:AV a b c d f g w R):CR 169 #[slice a b c,int .i64 d,int .i64 f,int .i64 g] w R:=
 aB (fn:=Tryz.f169) (by kernel_rfl) (by kernel_rfl) (by kernel_rfl) (by kernel_rfl) (by kernel_rfl) hh
def Bm (a:Int) (w:World) (R:RW):Prop:=
 CP 223 #[int .u64 a] w (fun b c=>
 ∃d,b= .returned (int .i64 d)∧
 R (int .i64 d) c)
theorem pg (a:Int) (w:World) (R:RW) (hh:Bm a w R):CR 170 #[int .u64 a] w R:=
 aB (fn:=Tryz.f170) (by kernel_rfl) (by kernel_rfl) (by kernel_rfl) (by kernel_rfl) (by kernel_rfl) hh
def BL (a:OA) (b c:Nat) (d f:Int) (w:World) (R:RW):Prop:=
 Ar .i64 (d+1) (fun g=>
 ∀h:KW,(∀(i:Int) (j:World),(aa (decide (i<f))
 (∀k:KW,(∀(l:Int) (m:World),(∀n,n=m.drew→
 aa (decide (l>d))
 (ac a (fun o=>
 (0:Int)≤l∧l< (b:Int)∧
 ∃p,n.cell? (o.add (l.toNat*1))=some (int .i64 p)∧
 Ar .i64 (l-1) (fun q=>
 ac a (fun r=>
 (0:Int)≤q∧q< (b:Int)∧
 ∃s,n.cell? (r.add (q.toNat*1))=some (int .i64 s)∧
 CP 219 #[int .i64 p,int .i64 s] n (fun t x=>
 ∃y,t= .returned (bool y)∧
 aa y
 (∀z,z=x.drew→
 Ar .i64 (l-1) (fun a1=>
 Ar .i64 (l-1) (fun b1=>
 ac a (fun c1=>
 (0:Int)≤b1∧b1< (b:Int)∧
 ∃d1,z.cell? (c1.add (b1.toNat*1))=some (int .i64 d1)∧
 ac a (fun e1=>
 (0:Int)≤l∧l< (b:Int)∧
 ∃f1,z.cell? (e1.add (l.toNat*1))=some (int .i64 f1)∧
 ac a (fun g1=>
 (0:Int)≤l∧l< (b:Int)∧
 (int .i64 d1).oneCell'=true∧(∃u,z.cell? (g1.add (l.toNat*1))=some u)∧z.frozen? (g1.add (l.toNat*1))=false∧
 ∀h1,h1=(z.setCell (g1.add (l.toNat*1)) (int .i64 d1))→
 ac a (fun i1=>
 (0:Int)≤a1∧a1< (b:Int)∧
 (int .i64 f1).oneCell'=true∧(∃u,h1.cell? (i1.add (a1.toNat*1))=some u)∧h1.frozen? (i1.add (a1.toNat*1))=false∧
 ∀j1,j1=(h1.setCell (i1.add (a1.toNat*1)) (int .i64 f1))→
 Ar .i64 (l-1) (fun k1=>
 k [int .i64 k1] j1))))))))
 (Ar .i64 (i+1) (fun l1=>
 h [int .i64 l1] x)))))))
 (Ar .i64 (i+1) (fun m1=>
 h [int .i64 m1] n)))→k [int .i64 l] m)→
 k [int .i64 i] j)
 (R (tuple #[]) j))→h [int .i64 i] j)→
 h [int .i64 g] w)
theorem pj (a:OA) (b c:Nat) (d f:Int) (w:World) (R:RW) (hh:BL a b c d f w R):CR 213 #[slice a b c,int .i64 d,int .i64 f] w R:=
 aB (fn:=Tryz.f213) (by kernel_rfl) (by kernel_rfl) (by kernel_rfl) (by kernel_rfl) (by kernel_rfl) hh
def AY (a:Int) (w:World) (R:RW):Prop:=
 ∀b:KW,(∀(c d:Int) (f:World),(∀g:KW,(∀(h i:Int) (j:World),(∀k:KW,(∀(l m:Int) (n:World),((0:Int)≤(IntKind.wrap .u8 m)∧(IntKind.wrap .u8 m) < ((⟨#[0,1,2,2,3,3,3,3,4,4,4,4,4,4,4,4,5,5,5,5,5,5,5,5,5,5,5,5,5,5,5,5,6,6,6,6,6,6,6,6,6,6,6,6,6,6,6,6,6,6,6,6,6,6,6,6,6,6,6,6,6,6,6,6,7,7,7,7,7,7,7,7,7,7,7,7,7,7,7,7,7,7,7,7,7,7,7,7,7,7,7,7,7,7,7,7,7,7,7,7,7,7,7,7,7,7,7,7,7,7,7,7,7,7,7,7,7,7,7,7,7,7,7,7,7,7,7,7,8,8,8,8,8,8,8,8,8,8,8,8,8,8,8,8,8,8,8,8,8,8,8,8,8,8,8,8,8,8,8,8,8,8,8,8,8,8,8,8,8,8,8,8,8,8,8,8,8,8,8,8,8,8,8,8,8,8,8,8,8,8,8,8,8,8,8,8,8,8,8,8,8,8,8,8,8,8,8,8,8,8,8,8,8,8,8,8,8,8,8,8,8,8,8,8,8,8,8,8,8,8,8,8,8,8,8,8,8,8,8,8,8,8,8,8,8,8,8,8,8,8,8,8,8,8,8,8]⟩:ByteArray).size:Int)∧
 Ar .i64 (l+(IntKind.wrap .i64 (fI ⟨#[0,1,2,2,3,3,3,3,4,4,4,4,4,4,4,4,5,5,5,5,5,5,5,5,5,5,5,5,5,5,5,5,6,6,6,6,6,6,6,6,6,6,6,6,6,6,6,6,6,6,6,6,6,6,6,6,6,6,6,6,6,6,6,6,7,7,7,7,7,7,7,7,7,7,7,7,7,7,7,7,7,7,7,7,7,7,7,7,7,7,7,7,7,7,7,7,7,7,7,7,7,7,7,7,7,7,7,7,7,7,7,7,7,7,7,7,7,7,7,7,7,7,7,7,7,7,7,7,8,8,8,8,8,8,8,8,8,8,8,8,8,8,8,8,8,8,8,8,8,8,8,8,8,8,8,8,8,8,8,8,8,8,8,8,8,8,8,8,8,8,8,8,8,8,8,8,8,8,8,8,8,8,8,8,8,8,8,8,8,8,8,8,8,8,8,8,8,8,8,8,8,8,8,8,8,8,8,8,8,8,8,8,8,8,8,8,8,8,8,8,8,8,8,8,8,8,8,8,8,8,8,8,8,8,8,8,8,8,8,8,8,8,8,8,8,8,8,8,8,8,8,8,8,8,8,8]⟩ (IntKind.wrap .u8 m)))) (fun o=>
 R (int .i64 o) n))→k [int .i64 l,int .u64 m] n)→
 aa (decide (i≥256))
 ((0:Int)≤8∧
 Ar .i64 (h+8) (fun p=>
 k [int .i64 p,int .u64 (Int.fdiv i (2^(min (8:Int).toNat (IntKind.bits .u64))))] j))
 (k [int .i64 h,int .u64 i] j))→g [int .i64 h,int .u64 i] j)→
 aa (decide (d≥65536))
 ((0:Int)≤16∧
 Ar .i64 (c+16) (fun q=>
 g [int .i64 q,int .u64 (Int.fdiv d (2^(min (16:Int).toNat (IntKind.bits .u64))))] f))
 (g [int .i64 c,int .u64 d] f))→b [int .i64 c,int .u64 d] f)→
 aa (decide (a≥4294967296))
 ((0:Int)≤32∧
 b [int .i64 32,int .u64 (Int.fdiv a (2^(min (32:Int).toNat (IntKind.bits .u64))))] w)
 (b [int .i64 0,int .u64 a] w)
theorem qM (a:Int) (w:World) (R:RW) (hh:AY a w R):CR 223 #[int .u64 a] w R:=
 aB (fn:=Tryz.f223) (by kernel_rfl) (by kernel_rfl) (by kernel_rfl) (by kernel_rfl) (by kernel_rfl) hh
section
variable {A:Option Addr} {C:Nat} {l:List Int}
end
theorem lM (w:World) (A:Option Addr) (N C:Nat):CP 213 #[.slice A N C,.int .i64 0,.int .i64 0] w fun e w'=>e= .returned (.tuple #[])∧w'=w:=by
 refine aK (pj A N C 0 0 w) ?_;refine Ar.nat 1 rfl (by omega) ?_;intro I hI;exact hI _ _ (aa.no rfl ⟨rfl,rfl⟩)
theorem tI (w:World):CP 223 #[.int .u64 0] w fun e w'=>∃k:Int,e= .returned (.int .i64 k)∧w'=w:=by
 refine aK (qM 0 w) ?_;intro J1 hJ1;refine aa.no rfl (hJ1 _ _ _ ?_);intro J3 hJ3;refine aa.no rfl (hJ3 _ _ _ ?_);intro J6 hJ6;refine aa.no rfl (hJ6 _ _ _ ?_);exact⟨by decide,by decide,_,rfl,rfl⟩
theorem uz (w:World):CP 115 #[.slice none 0 0] w fun e w'=>e= .returned (.tuple #[])∧w'=w:=by
 refine aK (oG none 0 0 w) ?_;have len0:CP 170 #[.int .u64 0] w fun e w'=>∃k:Int,e= .returned (.int .i64 k)∧w'=w:=by
  refine aK (pg 0 w) ?_;refine(tI w).mono ?_;rintro e w1 ⟨k,rfl,hw⟩;exact⟨_,rfl,k,rfl,hw⟩
 refine len0.mono ?_;rintro e w1 ⟨k,rfl,hw1⟩;subst hw1;refine⟨_,rfl,?_⟩;have pdq:CP 169 #[.slice none 0 0,.int .i64 0,.int .i64 0,.int .i64 k] w1 fun e w'=>e= .returned (.tuple #[])∧w'=w1:=by
  refine aK (oT none 0 0 0 0 k w1) ?_;intro I hI;refine hI _ _ _ _ _ _ ?_;intro J5 hJ5;refine Ar.nat 0 rfl (by omega) (aa.yes rfl ((lM w1 none 0 0).mono ?_));rintro e w2 ⟨rfl,h⟩;exact⟨rfl,rfl,h⟩
 refine pdq.mono ?_;rintro e w2 ⟨rfl,h⟩;exact⟨rfl,rfl,h⟩
def s1 (x:Nat):Nat:=(x/2&&&6148914691236517205)+(x&&&6148914691236517205)
def s2 (x:Nat):Nat:=(x/4&&&3689348814741910323)+(x&&&3689348814741910323)
def s3 (x:Nat):Nat:=x/16+x
def s4 (x:Nat):Nat:=(x&&&1085102592571150095)+(x&&&1085102592571150095)/256
def s5 (x:Nat):Nat:=x+x/65536
def CU:List bJ:=bk++ [([97,98],(97,98))]
theorem rG (w:World):CP 48 #[.pointer none] w fun e w'=>e= .returned (.slice none 0 0)∧w'=w:=by
 refine aK (r9 none w) ?_;have size0:CP 50 #[.pointer none] w fun e w'=>e= .returned (.int .i64 0)∧w'=w:=by
  refine aK (gY none w) ?_;have tab0:CP 54 #[.pointer none] w fun e w'=>e= .returned (.pointer none)∧w'=w:=az (gW none w (fun u w'=>u= .pointer none∧w'=w) (aa.yes rfl ⟨rfl,rfl⟩)) (by rintro v w' ⟨rfl,h⟩;exact⟨rfl,h⟩);refine tab0.mono ?_;rintro e w1 ⟨rfl,rfl⟩;have len0:CP 116 #[.pointer none] w1 fun e w'=>e= .returned (.int .i64 0)∧w'=w1:=az (fM none w1 (fun u w'=>u= .int .i64 0∧w'=w1) (aa.yes rfl ⟨rfl,rfl⟩)) (by rintro v w' ⟨rfl,h⟩;exact⟨rfl,h⟩);refine⟨_,rfl,len0.mono ?_⟩;rintro e w2 ⟨rfl,rfl⟩;exact⟨_,rfl,rfl,rfl⟩
 refine size0.mono ?_;rintro e w1 ⟨rfl,rfl⟩;refine⟨_,rfl,?_⟩;intro I hI;refine hI 0 _ _ _ _ (aa.no rfl ?_);have marks0:CP 56 #[.pointer none] w1 fun e w'=>e= .returned (.pointer none)∧w'=w1:=az (g8 none w1 (fun u w'=>u= .pointer none∧w'=w1) (aa.yes rfl ⟨rfl,rfl⟩)) (by rintro v w' ⟨rfl,h⟩;exact⟨rfl,h⟩);refine marks0.mono ?_;rintro e w2 ⟨rfl,rfl⟩;have all0:CP 114 #[.pointer none] w2 fun e w'=>e= .returned (.slice none 0 0)∧w'=w2:=az (pG none w2 (fun u w'=>u= .slice none 0 0∧w'=w2) (aa.yes rfl ⟨rfl,rfl⟩)) (by rintro v w' ⟨rfl,h⟩;exact⟨rfl,h⟩);refine⟨_,rfl,all0.mono ?_⟩;rintro e w3 ⟨rfl,rfl⟩;refine⟨_,_,_,rfl,?_⟩;intro I2 hI2;refine hI2 0 _ _ _ _ (aa.no rfl ?_);refine(uz w3).mono ?_;rintro e w4 ⟨rfl,rfl⟩;exact⟨rfl,rfl,rfl⟩
def nh (s:aj) (q:Int×Nat×Int):Int:=if q.1=1 then(q.2.1:Int)+2 else(q.2.1:Int)+(2+(s.merges.length:Int)+(s.tokens.length:Int))
def mJ (w:World) (t:Bs) (v:Value) (w':World):Prop:=Below w.heap.size w w'∧if 60000<t.length then v= .tuple #[.pointer none,.int .i64 0,.int .i64 3]else match cu t with
 | .error m=>v= .tuple #[.pointer none,.int .i64 m,.int .i64 2]
 | .ok s=>match bQ s with
  | .error q=>v= .tuple #[.pointer none,.int .i64 (nh s q),.int .i64 q.2.2]∧q.2.2≠0
  | .ok T=>∃p,v= .tuple #[.pointer (some ⟨p,0,none⟩),.int .i64 0,.int .i64 0]∧fJ w.heap.size w' p s T
theorem uN:Lib.itoa 257= [50,53,55]:=by
 unfold Lib.itoa;rw [if_neg (by decide),show(257:Int).toNat=257 from rfl,bR (by decide),bR (by decide),Lib.decDigits_one (by decide)];rfl
theorem uv:Lib.itoa 256= [50,53,54]:=by
 unfold Lib.itoa;rw [if_neg (by decide),show(256:Int).toNat=256 from rfl,bR (by decide),bR (by decide),Lib.decDigits_one (by decide)];rfl
def xd:aj:={merges:=[(97,98)],specials:=[(257,[60])]}
def yL:aj:={merges:=[(97,98)],specials:=[(256,[60])]}
def De:Bs:=[118,111,99,97,98,32,109,101,114,103,101,115,10,109,101,114,103,101,32,57,55,32,57,56,10,115,112,101,99,105,97,108,32,50,53,55,32,51,99,10]
def C4:Bs:=[118,111,99,97,98,32,109,101,114,103,101,115,10,109,101,114,103,101,32,57,55,32,57,56,10,115,112,101,99,105,97,108,32,50,53,54,32,51,99,10]
theorem vM:fR [60]= [51,99]:=by decide+kernel
theorem ye:xd.text=De:=by
 unfold aj.text aj.lines aj.tail xd dg bP dW;simp only [List.map_cons,List.map_nil,List.nil_append,List.append_nil,List.cons_append,ta,sW,uN,vM];decide+kernel
theorem xM:yL.text=C4:=by
 unfold aj.text aj.lines aj.tail yL dg bP dW;simp only [List.map_cons,List.map_nil,List.nil_append,List.append_nil,List.cons_append,ta,sW,uv,vM];decide+kernel
theorem vp:xd.right=true:=by decide+kernel
theorem vG:yL.right=true:=by decide+kernel
theorem vV:cu De= .ok xd:=by rw [←ye];exact kx xd vp
theorem v7:cu C4= .ok yL:=by rw [←xM];exact kx yL vG
theorem uC:bQ xd= .ok CU:=by
 have h:(match bQ xd with | .ok t=>decide (t=CU) | .error _=>false)=true:=by decide+kernel
 cases hx:bQ xd with
 |error q=>rw [hx]at h;cases h
 |ok t=>rw [hx]at h;rw [of_decide_eq_true h]
theorem vl:bQ yL= .error (2,0,4):=by
 have h:(match bQ yL with | .ok t=>false | .error q=>decide (q=(2,0,4)))=true:=by decide+kernel
 cases hx:bQ yL with
 |error q=>rw [hx]at h;rw [of_decide_eq_true h]
 |ok t=>rw [hx]at h;cases h
theorem nR {s:aj} {q:Int×Nat×Int} (h:bQ s= .error q):q.1=1∨q.1=2:=by
 unfold bQ at h;cases hl:iB s with
 |error r=>rw [hl]at h;cases h;exact .inl rfl
 |ok T=>
  rw [hl]at h;dsimp only at h;cases hm:bD [] 0 s.specials with
  |some r=>rw [hm]at h;cases h;exact .inr rfl
  |none=>
   rw [hm]at h;dsimp only at h;cases hf:s.specials.findIdx? (fun y=>decide (y.1< (T.length:Int)))with
   |some i=>rw [hf]at h;cases h;exact .inr rfl
   |none=>rw [hf]at h;cases h
def C8 (a b:OA) (c d:Nat) (w:World) (R:RW):Prop:=
 aa (Option.isNone a)
 (R (tuple #[slice none 0 0,int .i64 0,int .i64 1]) w)
 (ac a (fun f=>
 CP 105 #[pointer (some (f.add 13)),int .i64 1] w (fun g h=>
 ∃i,g= .returned (int .i64 i)∧
 ∀j:KW,(∀(k:Int) (l:OA) (m n:Nat) (o p:Int) (q:OA) (r s:Nat) (t:World),(aa (decide (k< (c:Int)))
 (ac b (fun u=>
 (0:Int)≤k∧k< (c:Int)∧
 ∃x,t.cell? (u.add (k.toNat*1))=some (int .i64 x)∧
 CP 113 #[pointer a,int .i64 x] t (fun y z=>
 ∃a1 b1 c1 d1,y= .returned (tuple #[slice a1 b1 c1,bool d1])∧
 aa (!d1)
 (R (tuple #[slice none 0 0,int .i64 k,int .i64 4]) z)
 (∃e1 f1 g1 h1,(Builtin.append_ #[28,28] 28 #[slice l m n,slice a1 b1 c1]).run Tryz.prog z= .ok (slice e1 f1 g1) h1∧
 Ar .i64 (k+1) (fun i1=>
 j [int .i64 i1,slice e1 f1 g1,int .i64 o,int .i64 p,slice q r s] h1)))))
 (R (tuple #[slice l m n,int .i64 (c:Int),int .i64 0]) t))→j [int .i64 k,slice l m n,int .i64 o,int .i64 p,slice q r s] t)→
 j [int .i64 0,slice none 0 0,int .i64 0,int .i64 0,slice none 0 0] h)))
theorem sB (a b:OA) (c d:Nat) (w:World) (R:RW) (hh:C8 a b c d w R):CR 47 #[pointer a,slice b c d] w R:=
 aB (fn:=Tryz.f47) (by kernel_rfl) (by kernel_rfl) (by kernel_rfl) (by kernel_rfl) (by kernel_rfl) hh
theorem h_:∀ {ms:List (Int×Int)} {es:List bJ} {i:Nat} {q:Nat×Int},di es i ms= .error q→q.1<i+ms.length
 | [],es,i,q,h=>by cases h
 |m::ms,es,i,q,h=>by
  rw [di]at h;cases hx:bT es m with
  |error n=>rw [hx]at h;cases h;simp
  |ok x=>rw [hx]at h;have:=h_ h;simp only [List.length_cons];omega
theorem gC:∀ {ts:List Bs} {es:List bJ} {i:Nat} {q:Nat×Int},cg es i ts= .error q→q.1<i+ts.length
 | [],es,i,q,h=>by cases h
 |t::ts,es,i,q,h=>by
  rw [cg]at h;cases hp:iJ (d' es t)with
  |none=>rw [hp]at h;cases h;simp
  |some m=>
   rw [hp]at h;dsimp only at h;cases hx:bT es m with
   |error n=>rw [hx]at h;cases h;simp
   |ok x=>rw [hx]at h;have:=gC h;simp only [List.length_cons];omega
theorem gA:∀ {xs ys:List (Int×Bs)} {i:Nat} {q:Nat×Int},bD ys i xs=some q→q.1<i+xs.length
 | [],ys,i,q,h=>by cases h
 |x::xs,ys,i,q,h=>by
  rw [bD]at h;split at h
  ·have:=gA h;simp only [List.length_cons];omega
  ·cases h;simp
theorem p_ {s:aj} {q:Int×Nat×Int} (h:bQ s= .error q) (hs:cH s):q.2.1≤1000000:=by
 obtain⟨h1,h2,h3,_,_⟩:=hs;unfold bQ at h;cases hl:iB s with
 |error r=>
  rw [hl]at h;cases h;unfold iB at hl;split at hl
  ·have:=gC hl;simp only;omega
  ·have:=h_ hl;simp only;omega
 |ok T=>
  rw [hl]at h;dsimp only at h;cases hm:bD [] 0 s.specials with
  |some r=>rw [hm]at h;cases h;have:=gA hm;simp only;omega
  |none=>
   rw [hm]at h;dsimp only at h;cases hf:s.specials.findIdx? (fun y=>decide (y.1< (T.length:Int)))with
   |some i=>
    rw [hf]at h;cases h;have:=(List.findIdx?_eq_some_iff_getElem.1 hf).1;simp only;omega
   |none=>rw [hf]at h;cases h
theorem fK (t:Bs) (w:World) (h:k_ w):
  CP 31 #[.string (str t)] w fun e w'=>∃v,e= .returned v∧mJ w t v w':=by
 refine sG (str t) w (mJ w t) ?_;refine(lr t w h.pow h.errs h.mx).mono ?_;rintro e w1 ⟨v,rfl,hp,b1⟩;obtain⟨x,n,m,rfl,hcase⟩:∃(x:aI) (n m:Int),v= .tuple #[x.v,.int .i64 n,.int .i64 m]∧((60000<t.length∧n=0∧m=3)∨(¬60000<t.length∧((∃k:Nat,cu t= .error k∧n=(k:Int)∧m=2)∨∃s,cu t= .ok s∧n=0∧m=0∧bF w1 x s))):=by
  unfold cd at hp;split at hp
  ·rename_i hl;obtain⟨x,rfl,_⟩:=hp;exact⟨x,0,3,rfl,.inl ⟨hl,rfl,rfl⟩⟩
  ·rename_i hl;cases hq:cu t with
   |ok s=>rw [hq]at hp;obtain⟨x,rfl,hx⟩:=hp;exact⟨x,0,0,rfl,.inr ⟨hl,.inr ⟨s,rfl,rfl,rfl,hx⟩⟩⟩
   |error k=>rw [hq]at hp;obtain⟨x,rfl,_⟩:=hp;exact⟨x,k,2,rfl,.inr ⟨hl,.inl ⟨k,rfl,rfl,rfl⟩⟩⟩
 refine⟨_,_,_,_,_,_,_,_,_,_,_,_,_,_,_,_,n,m,rfl,?_⟩;intro w2 hw2;refine rJ x w2 hw2 ?_;intro w3 h3 b3;have hb3:=ae b1 b3;rcases hcase with⟨hl,rfl,rfl⟩ |⟨hl,⟨k,hk,rfl,rfl⟩ |⟨s,hs,rfl,rfl,hx⟩⟩
 ·exact aa.yes rfl ⟨hb3,by rw [if_pos hl]⟩
 ·exact aa.yes rfl ⟨hb3,by rw [if_neg hl,hk]⟩
 ·have hright:=(ro t s hs).2;have hx3:=hx.on b3;have hsm:=ej hright;refine aa.no rfl ⟨_,_,_,_,_,_,_,_,_,_,_,_,_,_,_,_,f7 h3,?_⟩;refine(oy w3 x s hx3 hright).mono ?_;rintro e w4 ⟨v,rfl,b4,hp⟩;have hb4:=ae hb3 b4;have h4:=av b4 h3;cases hq:bQ s with
  |error q=>
   rw [hq]at hp;obtain⟨rfl,hne⟩:=hp;refine⟨_,_,_,_,rfl,?_⟩;intro J hJ;have out:∀n:Int,n=nh s q→J [.int .i64 n] w4:=fun n hn=>hJ n w4 ⟨hb4,by rw [if_neg hl,hs];simp only [hq];exact⟨by rw [hn],hne⟩⟩;have hpl:=p_ hq hsm;have n1:=hx3.n1;have n2:=hx3.n2;obtain⟨k1,k2,_⟩:=hsm;rcases nR hq with e1 |e1
   ·exact aa.yes (by rw [e1];rfl) (Ar.ok64 (by omega) (by omega) (out _ (by rw [nh,if_pos e1])))
   ·refine aa.no (by rw [e1];rfl) (aa.yes (by rw [e1];rfl) ⟨_,_,_,af _ _ h4 1,Ar.ok64 (by omega) (by omega) ⟨_,_,_,af _ _ h4 2,Ar.ok64 (by omega) (by omega) (Ar.ok64 (by omega) (by omega) (out _ ?_))⟩⟩);rw [nh,if_neg (by omega),n1,n2]
  |ok T=>
   rw [hq]at hp;obtain⟨p,rfl,hN⟩:=hp;refine⟨_,_,_,_,rfl,?_⟩;intro J hJ;exact aa.no rfl (aa.no rfl (hJ 0 w4 ⟨hb4,by rw [if_neg hl,hs];simp only [hq];exact⟨p,rfl,hN.base hb3.size⟩⟩))
theorem ki (w:World):CP 54 #[.pointer none] w fun e w'=>e= .returned (.pointer none)∧w'=w:=az (gW none w (fun u w'=>u= .pointer none∧w'=w) (aa.yes rfl ⟨rfl,rfl⟩)) (by rintro v w' ⟨rfl,h⟩;exact⟨rfl,h⟩)
theorem pF (w:World):CP 55 #[.pointer none] w fun e w'=>e= .returned (.pointer none)∧w'=w:=az (rK none w (fun u w'=>u= .pointer none∧w'=w) (aa.yes rfl ⟨rfl,rfl⟩)) (by rintro v w' ⟨rfl,h⟩;exact⟨rfl,h⟩)
theorem lj (w:World):CP 56 #[.pointer none] w fun e w'=>e= .returned (.pointer none)∧w'=w:=az (g8 none w (fun u w'=>u= .pointer none∧w'=w) (aa.yes rfl ⟨rfl,rfl⟩)) (by rintro v w' ⟨rfl,h⟩;exact⟨rfl,h⟩)
theorem mE (w:World):CP 50 #[.pointer none] w fun e w'=>e= .returned (.int .i64 0)∧w'=w:=by
 refine aK (gY none w) ?_;refine(ki w).mono ?_;rintro e w1 ⟨rfl,rfl⟩;have len0:CP 116 #[.pointer none] w1 fun e w'=>e= .returned (.int .i64 0)∧w'=w1:=az (fM none w1 (fun u w'=>u= .int .i64 0∧w'=w1) (aa.yes rfl ⟨rfl,rfl⟩)) (by rintro v w' ⟨rfl,h⟩;exact⟨rfl,h⟩);refine⟨_,rfl,len0.mono ?_⟩;rintro e w2 ⟨rfl,rfl⟩;exact⟨_,rfl,rfl,rfl⟩
theorem t_ (w:World):CP 51 #[.pointer none] w fun e w'=>e= .returned (.int .i64 0)∧w'=w:=
 aK (sC none w) (aa.yes rfl ⟨rfl,rfl⟩)
theorem rz (w:World) (A:Option Addr) (N C:Nat):CP 47 #[.pointer none,.slice A N C] w fun e w'=>e= .returned (.tuple #[.slice none 0 0,.int .i64 0,.int .i64 1])∧w'=w:=
 aK (sB none A N C w) (aa.yes rfl ⟨rfl,rfl⟩)
theorem uc (w:World) (id:Int):CP 49 #[.pointer none,.int .i64 id] w fun e w'=>e= .returned (.bool false)∧w'=w:=by
 refine aK (lE none id w) ?_;refine(lj w).mono ?_;rintro e w1 ⟨rfl,rfl⟩;refine⟨_,rfl,(nf w1 id).mono ?_⟩;rintro e w2 ⟨rfl,rfl⟩;refine⟨_,_,rfl,aa.no rfl (aa.mk (fun h0=>?_) fun _=>⟨rfl,rfl⟩)⟩;refine(mE w2).mono ?_;rintro e w3 ⟨rfl,rfl⟩;have h0:=of_decide_eq_true h0;exact⟨_,rfl,by rw [decide_eq_false (by omega)],rfl⟩
theorem tv (w:World):CP 35 #[.pointer none] w fun e w'=>e= .returned cj.v∧Below w.heap.size w w':=by
 refine az (rF none w (fun u w'=>u=cj.v∧Below w.heap.size w w') ?_) (by rintro v w' ⟨rfl,h⟩;exact⟨rfl,h⟩);intro w1 hw1;have b1:Below w.heap.size w w1:=by subst hw1;exact ak _ _
 have z1:w1.heap[w.heap.size]? =some (.cells cj.cells bO (0,0)):=by subst hw1;exact aC _ _
 refine aa.yes rfl ?_;refine mc (w:=w) (w6:=w1) (fun x w4=>x.v=cj.v∧Below w.heap.size w w4) cj z1 rfl ?_;intro w4 hB4 hs4;exact⟨rfl,hB4 w b1⟩
theorem vC:ky xd CU 257=true∧ky xd CU 258=false:=by decide+kernel
theorem mQ (w:World) (h:k_ w):CP 30 #[] w fun e w'=>e= .returned (.bool true)∧Below w.heap.size w w':=by
 refine aK (r8 w) ?_;refine(fK De w h).mono ?_;rintro e w1 ⟨v,rfl,b1,hp⟩;rw [if_neg (by decide),vV]at hp;simp only [uC]at hp;obtain⟨p,rfl,hN⟩:=hp;refine⟨_,_,_,rfl,(fK C4 w1 (h.on b1)).mono ?_⟩;rintro e w2 ⟨v,rfl,b2,hp⟩;rw [if_neg (by decide),v7]at hp;simp only [vl]at hp;obtain⟨rfl,_⟩:=hp;obtain⟨w0,x,tp,bp,mp,hR,_⟩:=hN.on b2;refine⟨_,_,_,rfl,aa.yes rfl (aa.yes rfl (aa.yes rfl ((ia hR.vblk hR.now.tab).mono ?_)))⟩;rintro e w3 ⟨rfl,rfl⟩;refine⟨_,rfl,aa.yes (by decide+kernel) ((ji hR.vblk hR.now 257).mono ?_)⟩;rintro e w4 ⟨rfl,rfl⟩;rw [vC.1];refine⟨_,rfl,aa.yes rfl ((ji hR.vblk hR.now 258).mono ?_)⟩;rintro e w5 ⟨rfl,rfl⟩;rw [vC.2];exact⟨_,rfl,aa.yes rfl (aa.yes (by decide) ⟨rfl,ae b1 b2⟩)⟩
theorem kz (id:Int) (w:World) (h:k_ w):CP 10 #[.int .i64 id] w fun e w'=>e= .returned (.bool true)∧Below w.heap.size w w':=by
 refine aK (rQ id w) ?_;intro w1 hw1;have b1:Below w.heap.size w w1:=by subst hw1;exact ak _ _
 refine(rz w1 _ _ _).mono ?_;rintro e w2 ⟨rfl,rfl⟩;refine⟨_,_,_,_,_,rfl,aa.yes rfl (aa.yes rfl (aa.yes rfl ((th w2 id).mono ?_)))⟩;rintro e w3 ⟨rfl,rfl⟩;refine⟨_,rfl,aa.yes rfl ((uc w3 id).mono ?_)⟩;rintro e w4 ⟨rfl,rfl⟩;refine⟨_,rfl,aa.yes rfl ((mE w4).mono ?_)⟩;rintro e w5 ⟨rfl,rfl⟩;refine⟨_,rfl,aa.yes rfl ((rG w5).mono ?_)⟩;rintro e w6 ⟨rfl,rfl⟩;refine⟨_,_,_,rfl,aa.yes rfl ((t_ w6).mono ?_)⟩;rintro e w7 ⟨rfl,rfl⟩;refine⟨_,rfl,aa.yes rfl ((ki w7).mono ?_)⟩;rintro e w8 ⟨rfl,rfl⟩;refine⟨_,rfl,aa.yes rfl ((pF w8).mono ?_)⟩;rintro e w9 ⟨rfl,rfl⟩;refine⟨_,rfl,aa.yes rfl ((lj w9).mono ?_)⟩;rintro e w10 ⟨rfl,rfl⟩;refine⟨_,rfl,aa.yes rfl ((tv w10).mono ?_)⟩;rintro e w11 ⟨rfl,b11⟩;refine⟨_,_,_,_,_,_,_,_,_,_,_,_,_,_,_,_,rfl,?_⟩;refine(mP cj cj {} {} w11 (jF _) (jF _) pH).mono ?_;rintro e w12 ⟨rfl,b12⟩;have hb12:=ae (ae b1 b11) b12;refine⟨_,rfl,aa.yes (by decide) ((mQ w12 (h.on hb12)).mono ?_)⟩;rintro e w13 ⟨rfl,b13⟩;exact⟨_,rfl,rfl,ae hb12 b13⟩
end Go.Proofs.YtijbcdiffjjefaaGreatDoor.Eng
