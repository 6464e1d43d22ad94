/- Vocabularies: what they are, and how they are made, walked by the engine. -/
import Derived.Test.YtijbcdiffjjefaaGreatDoorZxHp
import Derived.Laws.MakeOwn
import Derived.Tactics
import Derived.Tactics2
import Derived.Defers
import Derived.Laws.Pointers
import Derived.Laws.LoneSync
import Derived.RegionTactic
import Derived.RegionCalls
import Derived.ChangeAlike
import Derived.Test.YtijbcdiffjjefaaGreatDoorZxMk
set_option linter.unusedVariables false
set_option linter.unusedSimpArgs false
set_option maxRecDepth 100000
namespace Go.Proofs.YtijbcdiffjjefaaGreatDoor.Eng
open Go Go.RowKit
abbrev dH:TypeId:=186
abbrev b_:TypeId:=4
def gQ (s:ak) (T:List aT) (i:Nat):Bool:=decide (eO T (bk T (i:Int))= [(i:Int)])&&nc (cutB s.classes s.joins) (bk T (i:Int))
def fc (s:ak) (T:List aT):List Bool:=(List.range T.length).map (gQ s T)
def dS (b:Bool):List Value:=[.bool b]
structure bW (w:World) (s:ak) (T:List aT) (x:aY) (tp bp mp:Nat):Prop where
 spec:cI w x s
 tab:dl w tp T
 ok:iD T
 bound:sJ w bp s.classes s.joins
 marks:nw w mp s.specials
 right:s.right=true
 ids:∀y∈s.specials,(T.length:Int)≤y.1
 nodup:(s.specials.map (·.1)).Nodup
theorem bW.on {w w':World} {s:ak} {T:List aT} {x:aY} {tp bp mp:Nat} (h:bW w s T x tp bp mp) (hb:Below w.heap.size w w'):bW w' s T x tp bp mp:=
 ⟨h.spec.on hb,h.tab.on hb,h.ok,h.bound.on hb,h.marks.on hb,h.right,h.ids,h.nodup⟩
abbrev ix (x:aY) (tp bp mp:Nat) (d:Int) (l:Sl) (uses:Int):Array Value:=#[.bool x.ranked,x.s1.v,x.s2.v,x.s3.v,x.s4.v,x.s5.v,.pointer (some ⟨tp,0,none⟩),.pointer (some ⟨bp,0,none⟩),.pointer (some ⟨mp,0,none⟩),.int .u32 d,.int .i32 0,.int .u32 0,l.v,.int .i64 uses]
structure iu (w:World) (v:Nat) (s:ak) (T:List aT) (w0:World) (x:aY) (tp bp mp:Nat) (d:Int) (l:Sl) (uses:Int):Prop where
 parts:bW w0 s T x tp bp mp
 below:Below w0.heap.size w0 w
 lt:w0.heap.size≤v
 blk:w.heap[v]? =some (.cells (ix x tp bp mp d l uses) dH (0,0))
 once:(d=0∧l=⟨none,0,0⟩)∨(d=1∧l.n=T.length∧w.ownsRow (v+1) b_ 1 l.v l.n ((fc s T).flatMap dS))
def aW (w:World) (v:Nat) (s:ak) (T:List aT):Prop:=∃w0 x tp bp mp d l uses,iu w v s T w0 x tp bp mp d l uses
theorem iu.on {w w':World} {v:Nat} {s:ak} {T:List aT} {w0:World} {x:aY} {tp bp mp:Nat} {d:Int} {l:Sl} {uses:Int} (h:iu w v s T w0 x tp bp mp d l uses) (hb:Below w.heap.size w w'):iu w' v s T w0 x tp bp mp d l uses:=
 ⟨h.parts,h.below.trans (hb.mono h.below.size),h.lt,aj hb h.blk,h.once.imp id fun⟨a,b,c⟩=>⟨a,b,aF c hb⟩⟩
theorem aW.on {w w':World} {v:Nat} {s:ak} {T:List aT} (h:aW w v s T) (hb:Below w.heap.size w w'):aW w' v s T:=by
 obtain⟨w0,x,tp,bp,mp,d,l,uses,h⟩:=h;exact⟨w0,x,tp,bp,mp,d,l,uses,h.on hb⟩
theorem iu.now {w:World} {v:Nat} {s:ak} {T:List aT} {w0:World} {x:aY} {tp bp mp:Nat} {d:Int} {l:Sl} {uses:Int} (h:iu w v s T w0 x tp bp mp d l uses):bW w s T x tp bp mp:=h.parts.on h.below
structure aC (v:Nat) (w w':World):Prop where
 os:w'.os=w.os
 tape:w'.tape=w.tape
 output:w'.output=w.output
 size:w.heap.size≤w'.heap.size
 block:∀k,k<w.heap.size→k≠v→w'.heap[k]? =w.heap[k]?
theorem aC.of_below {v:Nat} {w w':World} (h:Below w.heap.size w w'):aC v w w':=⟨h.os,h.tape,h.output,h.size,fun k hk _=>h.block k hk⟩
theorem aC.trans {v:Nat} {a b c:World} (h:aC v a b) (k:aC v b c):aC v a c:=
 ⟨k.os.trans h.os,k.tape.trans h.tape,k.output.trans h.output,Nat.le_trans h.size k.size,fun i hi hv=>(k.block i (Nat.lt_of_lt_of_le hi h.size) hv).trans (h.block i hi hv)⟩
theorem aC.below {v B:Nat} {a b:World} (h:aC v a b) (hv:B≤v) (hB:B≤a.heap.size):Below B a b:=⟨h.os,h.tape,h.output,h.size,fun k hk=>h.block k (by omega) (by omega)⟩
theorem aC.held {v:Nat} {a b:World} (h:aC v a b) {k:Nat} (hk:k≠v) {o:Obj} (ho:a.heap[k]? =some o):b.heap[k]? =some o:=by
 rw [h.block k (Array.getElem?_eq_some_iff.1 ho).1 hk,ho]
theorem aC.own {v:Nat} {a b:World} (h:aC v a b) {B:Nat} {e:TypeId} {sz n:Nat} {u:Value} {xs:List Value} (ho:a.ownsRow B e sz u n xs) (hne:u.ownBlock≠some v):b.ownsRow B e sz u n xs:=
 aU ho fun k hk=>h.block k (cB ho k hk).2 fun e=>hne (by rw [hk,e])
theorem vq (w:World) (cb:Nat) (tp:Nat) (T:List aT) (hT:dl w tp T) (y:Int×Bs) (hcb:cb<w.heap.size) (hc:w.cell? ⟨cb,0,none⟩=some (.pointer (some ⟨tp,0,none⟩))):
  CP 133 #[.agg #[.int .i64 y.1,.string (str y.2)],.pointer (some ⟨cb,0,none⟩)] w fun e w'=>e= .returned (.bool (decide (y.1< (T.length:Int))))∧Below w.heap.size w w':=by
 refine aN (zd y.1 (str y.2) (some ⟨cb,0,none⟩) w) ?_;intro w1 hw1 w2 hw2;have hb2:Below w.heap.size w w2:=by subst hw2;subst hw1;exact(ah _ _).drew
 have hl2:w2.heap[w.heap.size]? =some (.cells #[.int .i64 y.1,.string (str y.2)] nr (0,0)):=by subst hw2;subst hw1;exact ap _ _
 refine⟨_,ai _ _ hl2 0,af.mk _ rfl ⟨_,by rw [hb2.cell hcb];exact hc,?_⟩⟩;refine(fD w2 tp T (hT.on hb2)).mono ?_;rintro e w3 ⟨rfl,hw⟩;subst hw;exact⟨_,rfl,⟨ai _ _ hl2 0,trivial⟩,rfl,hb2⟩
def cC (s:ak):Except (Int×Nat×Int) (List aT):=match kW s with
 | .error q=>.error (1,q.1,q.2)
 | .ok T=>match bJ [] 0 s.specials with
  |some q=>.error (2,q.1,q.2)
  |none=>match s.specials.findIdx? (fun y=>decide (y.1< (T.length:Int)))with
   |some i=>.error (2,i,4)
   |none=>.ok T
def MN (w:World) (s:ak) (v:Value) (w':World):Prop:=Below w.heap.size w w'∧match cC s with
 | .error q=>v= .tuple #[.pointer none,.int .i64 q.1,.int .i64 q.2.1,.int .i64 q.2.2]∧q.2.2≠0
 | .ok T=>∃p,v= .tuple #[.pointer (some ⟨p,0,none⟩),.int .i64 0,.int .i64 0,.int .i64 0]∧aW w' p s T∧w.heap.size≤p
def lw (B:Nat) (w':World) (p:Nat) (s:ak) (T:List aT):Prop:=∃w0 x tp bp mp,iu w' p s T w0 x tp bp mp 0 ⟨none,0,0⟩ 0∧B≤p∧gz B w' x s
def mT (w:World) (s:ak) (v:Value) (w':World):Prop:=Below w.heap.size w w'∧match cC s with
 | .error q=>v= .tuple #[.pointer none,.int .i64 q.1,.int .i64 q.2.1,.int .i64 q.2.2]∧q.2.2≠0
 | .ok T=>∃p,v= .tuple #[.pointer (some ⟨p,0,none⟩),.int .i64 0,.int .i64 0,.int .i64 0]∧lw w.heap.size w' p s T
theorem lw.voc {B:Nat} {w':World} {p:Nat} {s:ak} {T:List aT} (h:lw B w' p s T):aW w' p s T∧B≤p:=by
 obtain⟨w0,x,tp,bp,mp,hR,hp,_⟩:=h;exact⟨⟨w0,x,tp,bp,mp,0,_,0,hR⟩,hp⟩
theorem lw.base {B B':Nat} {w:World} {p:Nat} {s:ak} {T:List aT} (h:lw B w p s T) (hB:B'≤B):lw B' w p s T:=by
 obtain⟨w0,x,tp,bp,mp,hR,hp,ho⟩:=h;exact⟨w0,x,tp,bp,mp,hR,Nat.le_trans hB hp,ho.base hB⟩
theorem s_ {xs:List (Int×Bs)}:∀ {ys:List (Int×Bs)} {i:Nat} {q:Nat×Int},bJ ys i xs=some q→q.2≠0:=by
 induction xs with
 |nil=>intro ys i q h;cases h
 |cons x xs ih=>
  intro ys i q h;rw [bJ]at h;split at h
  ·exact ih h
  ·rename_i hne;cases h;exact hne
theorem mB {xs:List (Int×Bs)}:∀ {ys:List (Int×Bs)} {i:Nat},bJ ys i xs=none→(ys.map (·.1)).Nodup→((ys++xs).map (·.1)).Nodup:=by
 induction xs with
 |nil=>intro ys i _ h;rw [List.append_nil];exact h
 |cons x xs ih=>
  intro ys i h hn;rw [bJ]at h;split at h
  ·rename_i hz;have:=ih h (by
    rw [List.map_append,List.nodup_append];refine⟨hn,by simp,fun a ha b hb=>?_⟩;simp at hb;subst hb;rintro rfl;unfold cE at hz;split at hz
    ·omega
    ·split at hz
     ·omega
     ·split at hz
      ·omega
      ·rename_i h3;exact h3 (.inl ha))
   simpa using this
  ·cases h
theorem nt {s:ak} (h:s.right=true):(∀c∈s.classes,aQ c=true)∧(∀j∈s.joins,cr j=true)∧(∀t∈s.tokens,t.length≤100000):=by
 obtain⟨_,_,h3,_,h5,h6⟩:=cP h;simp only [bB,Bool.and_eq_true,List.all_eq_true]at h3 h5 h6;refine⟨h5.2,h6.2,fun t ht=>?_⟩;have:=of_decide_eq_true (by simpa [eX]using h3.2 t ht:decide _=true);omega
theorem pQ (w:World) (x:aY) (s:ak) (h:cI w x s) (hright:s.right=true):
  CP 91 #[x.v] w fun e w'=>∃v,e= .returned v∧mT w s v w':=by
 refine Dd x.ranked x.s1.a x.s1.n x.s1.c x.s2.a x.s2.n x.s2.c x.s3.a x.s3.n x.s3.c x.s4.a x.s4.n x.s4.c x.s5.a x.s5.n x.s5.c w (mT w s) ?_;intro w1 hw1;have hs:=dc hright;obtain⟨okc,okj,okt⟩:=nt hright;have hb1:Below w.heap.size w w1:=by subst hw1;exact ah _ _
 have hz1:w1.heap.size=w.heap.size+1:=by subst hw1;exact aA _ _
 have p1:w1.heap[w.heap.size]? =some (.cells x.cells da (0,0)):=by subst hw1;exact ap _ _
 have h1:=h.on hb1;refine⟨_,_,_,_,_,_,_,_,_,_,_,_,_,_,_,_,dF p1,?_⟩;refine(FI w1 x s h1 hs okt).mono ?_;rintro e w2 ⟨v,rfl,hb2,hload⟩;have hb12:=ae hb1 hb2;have p2:=aj hb2 p1;have hz2:=hb2.size;have store:∀(r0:Option Addr) (w3 w4:World),w3=w2.alloc (.cells #[Value.pointer none] 100)→w4=w3.setCell (nb w2) (.pointer r0)→w4.heap[w2.heap.size]? =some (.cells #[.pointer r0] 100 (0,0))∧Below w2.heap.size w2 w4:=by
  intro r0 w3 w4 hw3 hw4;have a3:w3.heap[w2.heap.size]? =some (.cells #[Value.pointer none] 100 (0,0)):=by subst hw3;exact ap _ _
  have b3:Below w2.heap.size w2 w3:=by subst hw3;exact ah _ _
  have hp:=bF (j:=0) a3 (.pointer r0);have bp:=bv (j:=0) b3 (Nat.le_refl _) (.pointer r0);rw [au]at hp bp;subst hw4;exact⟨hp,bp⟩
 have slot:∀(w3:World),w3=w2.alloc (.cells #[Value.pointer none] 100)→(∃u,w3.cell? (nb w2)=some u)∧w3.frozen? (nb w2)=false:=by
  intro w3 hw3;subst hw3;have a3:=ap w2 (.cells #[Value.pointer none] 100);refine⟨⟨.pointer none,by rw [aV];rfl⟩,bV a3⟩
 have fail:∀(q:Int×Nat×Int) (w':World),cC s= .error q→q.2.2≠0→Below w.heap.size w w'→mT w s (.tuple #[.pointer none,.int .i64 q.1,.int .i64 q.2.1,.int .i64 q.2.2]) w':=by
  intro q w' hq hne hb;refine⟨hb,?_⟩;rw [hq];exact⟨rfl,hne⟩
 cases hl:kW s with
 |error q=>
  rw [hl]at hload;obtain⟨rfl,hq⟩:=hload;refine⟨_,_,_,rfl,?_⟩;intro w3 hw3;obtain⟨u3,f3⟩:=slot w3 hw3;refine⟨rfl,u3,f3,?_⟩;intro w4 hw4;obtain⟨a4,b4⟩:=store none w3 w4 hw3 hw4;refine ac.yes (by simpa using hq) ?_;exact fail (1,q.1,q.2) w4 (by rw [cC,hl]) hq (ae hb12 b4)
 |ok T=>
  rw [hl]at hload;obtain⟨tp,rfl,hT,hok⟩:=hload;refine⟨_,_,_,rfl,?_⟩;intro w3 hw3;obtain⟨u3,f3⟩:=slot w3 hw3;refine⟨rfl,u3,f3,?_⟩;intro w4 hw4;obtain⟨a4,b4⟩:=store (some ⟨tp,0,none⟩) w3 w4 hw3 hw4;have hb14:=ae hb12 b4;have hz4:=b4.size;have p4:=aj b4 p2;have hT4:=hT.on b4;have h4:=h.on hb14;refine ac.no rfl ⟨_,_,_,by rw [ai _ _ p4];rfl,?_⟩;have hM:=wB w4 x.s3.a x.s3.c s.specials h4.r3 (by have:=hs.2.2.1;omega);rw [←h.n3]at hM;refine hM.mono ?_;rintro e w5 ⟨v,rfl,b5,hmark⟩;have hb15:=ae hb14 b5;have p5:=aj b5 p4;cases hm:bJ [] 0 s.specials with
  |some q=>
   rw [hm]at hmark;subst hmark;have hne:=s_ hm;refine⟨_,_,_,rfl,ac.yes (by simpa using hne) ?_⟩;exact fail (2,q.1,q.2) w5 (by rw [cC,hl];simp only [hm]) hne hb15
  |none=>
   rw [hm]at hmark;obtain⟨mp,hv,hMk⟩:=hmark;subst hv;refine⟨_,_,_,rfl,ac.no rfl ⟨_,_,_,by rw [ai _ _ p5];rfl,?_⟩⟩;have hI:=pM x.s3.a x.s3.c s.specials (.func (.func 133) #[] #[.pointer (some (nb w2))]) (fun y=>decide (y.1< (T.length:Int))) w5 (h.on hb15).r3 (by have:=hs.2.2.1;omega) (by
    intro y hy w6 hb6;refine bZ (by kernel_rfl) ?_;refine(vq w6 w2.heap.size tp T ((hT4.on b5).on hb6) y (by have:=b5.size;have:=hb6.size;have:=(Array.getElem?_eq_some_iff.1 a4).1;omega) ?_);have:=ai _ _ (aj hb6 (aj b5 a4)) 0;rw [au]at this;exact this)
   rw [←h.n3]at hI;refine hI.mono ?_;rintro e w6 ⟨rfl,b6⟩;have hb16:=ae hb15 b6;have p6:=aj b6 p5;refine⟨_,rfl,?_⟩;unfold Av;cases hi:s.specials.findIdx? (fun y=>decide (y.1< (T.length:Int)))with
   |some i=>
    refine ac.yes (by simp) ?_;exact fail (2,i,4) w6 (by rw [cC,hl];simp only [hm,hi]) (show(4:Int)≠0 by decide) hb16
   |none=>
    refine ac.no (by simp) ?_;have h6:=h.on hb16;have hB:=tQ w6 x.s4.a x.s5.a x.s4.c x.s5.c s.classes s.joins h6.r4 h6.r5 hs.2.2.2.1 hs.2.2.2.2 okc okj;rw [←h.n4, ←h.n5]at hB;refine⟨_,_,_,by rw [ai _ _ p6];rfl,_,_,_,by rw [ai _ _ p6];rfl,?_⟩;refine hB.mono ?_;rintro e w7 ⟨bp,rfl,hBd,b7,_⟩;refine⟨_,_,rfl,ac.no rfl ?_⟩;intro w8 hw8;have b8:Below w7.heap.size w7 w8:=by subst hw8;exact aO w7
    have b48:Below w4.heap.size w4 w8:=ae b5 (ae b6 (ae b7 b8));have p8:=aj b48 p4;have a8:=aj b48 a4;have hb18:=ae hb14 b48;have ptr8:∀ {w':World},w'.heap[w2.heap.size]? =some (.cells #[.pointer (some ⟨tp,0,none⟩)] 100 (0,0))→w'.cell? (nb w2)=some (.pointer (some ⟨tp,0,none⟩)):=fun hh=>by
     have:=ai _ _ hh 0;rw [au]at this;exact this
    refine⟨_,_,_,_,_,_,_,_,_,_,_,_,_,_,_,_,dF p8,_,ptr8 a8,?_⟩;refine(wy w8 x s (h.on hb18) hs).mono ?_;rintro e w9 ⟨x',rfl,hx',b9,ho9⟩;refine⟨_,_,_,_,_,_,_,_,_,_,_,_,_,_,_,_,rfl,⟨ptr8 (aj b9 a8),trivial⟩,?_⟩;rintro w10 rfl;have b10:=ah w9 (.cells (ix x' tp bp mp 0 ⟨none,0,0⟩ 0) dH);have b19:=ae hb18 b9;refine⟨ae b19 b10,?_⟩;have hbv:cC s= .ok T:=by rw [cC,hl];simp only [hm,hi]
    rw [hbv];refine⟨w9.heap.size,rfl,w9,x',tp,bp,mp,⟨⟨hx',?_,hok,?_,?_,hright,?_,?_⟩,b10,Nat.le_refl _,ap _ _,.inl ⟨rfl,rfl⟩⟩,b19.size,(ho9.base hb18.size).on b10⟩
    ·exact(hT4.on b48).on b9
    ·exact(hBd.on b8).on b9
    ·exact((((hMk.is).on b6).on b7).on b8).on b9
    ·intro y hy;have:=List.findIdx?_eq_none_iff.1 hi y hy;have:=of_decide_eq_false this;omega
    ·have:=mB (ys:=[]) hm (by simp);simpa using this
def Gx (w:World) (s:ak) (v:Value) (w':World):Prop:=Below w.heap.size w w'∧if s.right=true then(match cC s with
 | .error q=>v= .tuple #[.pointer none,.int .i64 q.2.1,.int .i64 q.2.2]∧q.2.2≠0
 | .ok T=>∃p,v= .tuple #[.pointer (some ⟨p,0,none⟩),.int .i64 0,.int .i64 0]∧aW w' p s T∧w.heap.size≤p)else v= .tuple #[.pointer none,.int .i64 0,.int .i64 1]
def uV (w:World) (s:ak) (v:Value) (w':World):Prop:=Below w.heap.size w w'∧if s.right=true then(match cC s with
 | .error q=>v= .tuple #[.pointer none,.int .i64 q.2.1,.int .i64 q.2.2]∧q.2.2≠0
 | .ok T=>∃p,v= .tuple #[.pointer (some ⟨p,0,none⟩),.int .i64 0,.int .i64 0]∧lw w.heap.size w' p s T)else v= .tuple #[.pointer none,.int .i64 0,.int .i64 1]
theorem rp (w:World) (x:aY) (s:ak) (h:cI w x s):
  CP 37 #[x.v] w fun e w'=>∃v,e= .returned v∧uV w s v w':=by
 refine CT x.ranked x.s1.a x.s1.n x.s1.c x.s2.a x.s2.n x.s2.c x.s3.a x.s3.n x.s3.c x.s4.a x.s4.n x.s4.c x.s5.a x.s5.n x.s5.c w (uV w s) ?_;intro w1 hw1;have hb1:Below w.heap.size w w1:=by subst hw1;exact ah _ _
 have p1:w1.heap[w.heap.size]? =some (.cells x.cells da (0,0)):=by subst hw1;exact ap _ _
 have h1:=h.on hb1;refine⟨_,_,_,_,_,_,_,_,_,_,_,_,_,_,_,_,dF p1,?_⟩;refine(rF x s w1 h1).mono ?_;rintro e w2 ⟨rfl,b2⟩;have hb2:=ae hb1 b2;refine⟨_,rfl,ac.mk (fun h0=>?_) fun h0=>?_⟩
 ·have h0:s.right=false:=by simpa using h0
  refine⟨hb2,?_⟩;rw [if_neg (by rw [h0];simp)]
 ·have h0:s.right=true:=by simpa using h0
  have p2:=aj b2 p1;refine⟨_,_,_,_,_,_,_,_,_,_,_,_,_,_,_,_,dF p2,?_⟩;refine(pQ w2 x s (h.on hb2) h0).mono ?_;rintro e w3 ⟨v,rfl,b3,hp⟩;have hb3:=ae hb2 b3;cases hx:cC s with
  |error q=>
   rw [hx]at hp;obtain⟨rfl,hq⟩:=hp;refine⟨_,_,_,_,rfl,hb3,?_⟩;rw [if_pos h0,hx];exact⟨rfl,hq⟩
  |ok T=>
   rw [hx]at hp;obtain⟨p,rfl,hV⟩:=hp;refine⟨_,_,_,_,rfl,hb3,?_⟩;rw [if_pos h0,hx];exact⟨p,rfl,hV.base hb2.size⟩
theorem tH (w:World) (x:aY) (s:ak) (h:cI w x s):
  CP 37 #[x.v] w fun e w'=>∃v,e= .returned v∧Gx w s v w':=by
 refine(rp w x s h).mono fun e w' ⟨v,he,hb,hp⟩=>⟨v,he,hb,?_⟩;split at hp
 ·rename_i hr;rw [if_pos hr];cases hx:cC s with
  |error q=>rw [hx]at hp;exact hp
  |ok T=>
   rw [hx]at hp;obtain⟨p,hv,hN⟩:=hp;exact⟨p,hv,hN.voc⟩
 ·rename_i hr;rw [if_neg hr];exact hp
structure ja (w:World) (v:Nat) (c:Array Value) (tp bp mp:Nat):Prop where
 blk:w.heap[v]? =some (.cells c dH (0,0))
 size:c.size=14
 c6:c[6]? =some (.pointer (some ⟨tp,0,none⟩))
 c7:c[7]? =some (.pointer (some ⟨bp,0,none⟩))
 c8:c[8]? =some (.pointer (some ⟨mp,0,none⟩))
theorem iu.vblk {w:World} {v:Nat} {s:ak} {T:List aT} {w0:World} {x:aY} {tp bp mp:Nat} {d:Int} {l:Sl} {uses:Int} (h:iu w v s T w0 x tp bp mp d l uses):ja w v (ix x tp bp mp d l uses) tp bp mp:=⟨h.blk,rfl,rfl,rfl,rfl⟩
theorem ja.on {w w':World} {v:Nat} {c:Array Value} {tp bp mp:Nat} (h:ja w v c tp bp mp) (hb:Below w.heap.size w w'):ja w' v c tp bp mp:=⟨aj hb h.blk,h.size,h.c6,h.c7,h.c8⟩
theorem mD (w:World) (v:Nat) {c:Array Value} (h:w.heap[v]? =some (.cells c dH (0,0))) (a b:Nat):w.cell? (((⟨v,0,none⟩:Addr).add a).add b)=c[a+b]? :=by rw [Addr.add_add];exact ai _ _ h _
theorem eT {w:World} {v:Nat} {c:Array Value} {tp bp mp:Nat} (h:ja w v c tp bp mp):CP 54 #[.pointer (some ⟨v,0,none⟩)] w fun e w'=>e= .returned (.pointer (some ⟨tp,0,none⟩))∧w'=w:=by
 refine aN (DB (some ⟨v,0,none⟩) w) ?_;exact ac.no rfl (af.mk _ rfl ⟨_,by rw [mD w v h.blk];exact h.c6,rfl,rfl⟩)
theorem lF {w:World} {v:Nat} {c:Array Value} {tp bp mp:Nat} (h:ja w v c tp bp mp):CP 55 #[.pointer (some ⟨v,0,none⟩)] w fun e w'=>e= .returned (.pointer (some ⟨bp,0,none⟩))∧w'=w:=by
 refine aN (EC (some ⟨v,0,none⟩) w) ?_;exact ac.no rfl (af.mk _ rfl ⟨_,by rw [mD w v h.blk];exact h.c7,rfl,rfl⟩)
theorem eV {w:World} {v:Nat} {c:Array Value} {tp bp mp:Nat} (h:ja w v c tp bp mp):CP 56 #[.pointer (some ⟨v,0,none⟩)] w fun e w'=>e= .returned (.pointer (some ⟨mp,0,none⟩))∧w'=w:=by
 refine aN (Dc (some ⟨v,0,none⟩) w) ?_;exact ac.no rfl (af.mk _ rfl ⟨_,by rw [mD w v h.blk];exact h.c8,rfl,rfl⟩)
theorem ka {w:World} {v:Nat} {c:Array Value} {tp bp mp:Nat} (h:ja w v c tp bp mp) {T:List aT} (hT:dl w tp T):CP 50 #[.pointer (some ⟨v,0,none⟩)] w fun e w'=>e= .returned (.int .i64 T.length)∧w'=w:=by
 refine aN (Er (some ⟨v,0,none⟩) w) ?_;refine(eT h).mono ?_;rintro e w1 ⟨rfl,hw⟩;subst hw;refine⟨_,rfl,(fD w1 tp T hT).mono ?_⟩;rintro e w2 ⟨rfl,hw⟩;subst hw;exact⟨_,rfl,rfl,rfl⟩
theorem bW.few {w:World} {s:ak} {T:List aT} {x:aY} {tp bp mp:Nat} (h:bW w s T x tp bp mp):s.specials.length≤1000000:=(dc h.right).2.2.1
def cY (s:ak) (T:List aT) (id:Int):Bool:=decide (id∈s.specials.map (·.1)∨bu T id)
theorem B3 {w:World} {v:Nat} {c:Array Value} {tp bp mp:Nat} (h:ja w v c tp bp mp) {s:ak} {T:List aT} {x:aY} (hp:bW w s T x tp bp mp) (id:Int):CP 49 #[.pointer (some ⟨v,0,none⟩),.int .i64 id] w fun e w'=>e= .returned (.bool (cY s T id))∧w'=w:=by
 refine aJ (CI (some ⟨v,0,none⟩) id w (fun u w'=>u= .bool (cY s T id)∧w'=w) ?_) (by rintro v w' ⟨rfl,h⟩;exact⟨rfl,h⟩);refine(eV h).mono ?_;rintro e w1 ⟨rfl,hw⟩;subst hw;refine⟨_,rfl,(jm w1 mp s.specials hp.marks hp.few id).mono ?_⟩;rintro e w2 ⟨rfl,hw⟩;subst hw;have hm:(jk s.specials id).isSome=true↔id∈s.specials.map (·.1):=nZ;refine⟨_,_,rfl,ac.mk (fun h0=>?_) fun h0=>ac.mk (fun h1=>?_) fun h1=>?_⟩
 ·refine⟨?_,rfl⟩;rw [cY,decide_eq_true (.inl (hm.1 h0))]
 ·have h1:=of_decide_eq_true h1;refine(ka h hp.tab).mono ?_;rintro e w3 ⟨rfl,hw⟩;subst hw;refine⟨_,rfl,?_,rfl⟩;congr 1;have hn:id∉s.specials.map (·.1):=fun h=>by rw [hm.2 h]at h0;cases h0
  unfold cY;exact decide_eq_decide.2 ⟨fun h=>.inr ⟨h1,h⟩,fun h=>h.elim (fun h=>absurd h hn) fun h=>h.2⟩
 ·have h1:=of_decide_eq_false h1;have hn:id∉s.specials.map (·.1):=fun h=>by rw [hm.2 h]at h0;cases h0
  refine⟨?_,rfl⟩;rw [cY,decide_eq_false (fun h=>h.elim (fun h=>hn h) fun h=>h1 h.1)]
theorem zC:∃i,Tryz.prog.info? b_=some i∧i.zero=some (.bool false)∧i.size=1∧i.bytes=1:=by
 have h:(Tryz.prog.info? b_).map (fun i=>(i.zero,i.size,i.bytes))=some (some (.bool false),1,1):=by kernel_rfl
 obtain⟨i,hi,he⟩:=Option.map_eq_some_iff.1 h;simp only [Prod.mk.injEq]at he;exact⟨i,hi,he.1,he.2.1,he.2.2⟩
theorem mA (w:World) (n:Nat) (hn:n≤1000000):(Instr.makeSlice 117 (.int .i64 n) (.int .i64 n)).run Tryz.prog w= .ok (.slice (some (nb w)) n n) (w.alloc (.cells (Array.replicate n (.bool false)) b_)):=by
 obtain⟨i,hi,hz,hs,hb⟩:=zC;have:=Go.run_make (P:=Tryz.prog) w 117 b_ i (.bool false) (by kernel_rfl) hi hz .i64 .i64 (n:Int) (n:Int) (by omega) (Int.le_refl _) (by rw [hb];omega) (by omega);rw [this];congr 3;rw [hs];apply Array.ext
 ·rw [size_madeCells];simp
 ·intro j h1 h2;simp only [madeCells,Array.getElem_map,Array.getElem_range,Array.getElem_replicate];show(#[Value.bool false]:Array Value)[j%1]! =_;rw [Nat.mod_one];rfl
theorem dy (s:ak) (T:List aT):(fc s T).length=T.length:=by simp [fc]
theorem qZ (s:ak) (T:List aT) {i:Nat} (hi:i<T.length):(fc s T)[i]'(by rw [dy];exact hi)=gQ s T i:=by simp [fc]
def fJ (s:ak) (T:List aT) (i:Nat):List Bool:=(fc s T).take i++List.replicate (T.length-i) false
theorem ui (s:ak) (T:List aT) (i:Nat) (hi:i≤T.length):(fJ s T i).length=T.length:=by
 simp [fJ,dy];omega
theorem Dq (s:ak) (T:List aT) (i:Nat) (hi:i<T.length):(fJ s T i).set i (gQ s T i)=fJ s T (i+1):=by
 have hl:((fc s T).take i).length=i:=by simp [dy];omega
 have ht:(fc s T).take (i+1)=(fc s T).take i++ [gQ s T i]:=by
  rw [List.take_add_one,List.getElem?_eq_getElem (by rw [dy];exact hi),qZ s T hi];rfl
 unfold fJ;rw [List.set_append_right _ _ (by omega),hl,Nat.sub_self,ht,show T.length-i=(T.length- (i+1))+1 by omega,List.replicate_succ,List.set_cons_zero];simp
theorem Fc (w w0:World) (v:Nat) (c:Array Value) (tp bp mp:Nat) (h:ja w v c tp bp mp) (s:ak) (T:List aT) (x:aY) (hp:bW w0 s T x tp bp mp) (h0:Below w0.heap.size w0 w) (hv:w0.heap.size≤v):
  CP 108 #[.pointer (some ⟨v,0,none⟩)] w fun e w'=>e= .returned (.tuple #[])∧∃l:Sl,w'.heap[v]? =some (.cells (c.setIfInBounds 12 l.v) dH (0,0))∧l.n=T.length∧w'.ownsRow w.heap.size b_ 1 l.v l.n ((fc s T).flatMap dS)∧aC v w w':=by
 refine aN (zW (some ⟨v,0,none⟩) w) ?_;have hpn:=hp.on h0;refine(ka h hpn.tab).mono ?_;rintro e w1 ⟨rfl,hw⟩;subst hw;have hmost:=hp.ok.most;have hvl:v<w1.heap.size:=(Array.getElem?_eq_some_iff.1 h.blk).1;refine⟨_,rfl,some (nb w1),T.length,T.length,_,mA w1 T.length (by omega),?_⟩;have hb2:=ah w1 (.cells (Array.replicate T.length (.bool false)) b_);have hblk2:=aj hb2 h.blk;have hz2:(w1.alloc (.cells (Array.replicate T.length (Value.bool false)) b_)).heap.size=w1.heap.size+1:=aA _ _;have hown2:(w1.alloc (.cells (Array.replicate T.length (.bool false)) b_)).ownsRow w1.heap.size b_ 1 (.slice (some (nb w1)) T.length T.length) T.length ((fJ s T 0).flatMap dS):=by
  have hf:(fJ s T 0).flatMap dS=List.replicate T.length (.bool false):=by
   simp [fJ,dS,List.flatMap_replicate]
  rw [hf];refine⟨by simp,.inr ⟨w1.heap.size,T.length,_,rfl,Nat.le_refl _,ap _ _,Nat.le_refl _,by unfold maxLen;omega,by simp,by simp⟩⟩
 refine af.mk _ rfl ⟨rfl,⟨_,by rw [mD _ v hblk2,Array.getElem?_eq_getElem (by rw [h.size];decide)]⟩,by rw [Addr.add_add];exact be hblk2,?_⟩;intro w3 hw3;rw [Addr.add_add]at hw3;have hblk3:w3.heap[v]? =some (.cells (c.setIfInBounds 12 (.slice (some (nb w1)) T.length T.length)) dH (0,0)):=by subst hw3;exact bF hblk2 _
 have ht3:aC v w1 w3:=by
  refine(aC.of_below hb2).trans ?_;subst hw3;exact⟨rfl,rfl,rfl,by rw [ba];exact Nat.le_refl _,fun k _ hk=>aq (by rw [av];exact hk)⟩
 have hown3:w3.ownsRow w1.heap.size b_ 1 (.slice (some (nb w1)) T.length T.length) T.length ((fJ s T 0).flatMap dS):=by
  subst hw3;exact bD hown2 _ (by rw [av];intro e;have:=Option.some.inj e;simp at this;omega)
 have hz3:w3.heap.size=w1.heap.size+1:=by subst hw3;rw [ba];exact hz2
 have g12:∀ {w':World},w'.heap[v]? =some (.cells (c.setIfInBounds 12 (.slice (some (nb w1)) T.length T.length)) dH (0,0))→w'.cell? (((⟨v,0,none⟩:Addr).add 9).add 3)=some (.slice (some (nb w1)) T.length T.length):=fun hh=>by
  rw [mD _ v hh,Array.getElem?_setIfInBounds_self_of_lt (by rw [h.size];decide)]
 have gk:∀ {w':World},w'.heap[v]? =some (.cells (c.setIfInBounds 12 (.slice (some (nb w1)) T.length T.length)) dH (0,0))→ja w' v (c.setIfInBounds 12 (.slice (some (nb w1)) T.length T.length)) tp bp mp:=fun hh=>⟨hh,by simp [h.size],by rw [Array.getElem?_setIfInBounds_ne (by decide)];exact h.c6,by rw [Array.getElem?_setIfInBounds_ne (by decide)];exact h.c7,by rw [Array.getElem?_setIfInBounds_ne (by decide)];exact h.c8⟩;refine af.mk _ rfl ⟨_,_,_,g12 hblk3,?_⟩;intro I hI;have key:=bj (α:=World) T.length (fun i w'=>w'.heap[v]? =some (.cells (c.setIfInBounds 12 (.slice (some (nb w1)) T.length T.length)) dH (0,0))∧w'.ownsRow w1.heap.size b_ 1 (.slice (some (nb w1)) T.length T.length) T.length ((fJ s T i).flatMap dS)∧aC v w1 w') (fun i w'=>I [.int .i64 (i:Int)] w') w3 ⟨hblk3,hown3,ht3⟩ ?_ ?_
 ·exact key
 ·rintro i hi ih w4 ⟨hblk4,hown4,ht4⟩;have hB4:Below w0.heap.size w0 w4:=h0.trans (ht4.below hv h0.size);have hp4:=hp.on hB4;have hin:bu T (i:Int):=⟨by omega,by omega⟩;refine hI _ _ (ac.yes (by simp;omega) (af.mk _ rfl ⟨_,by rw [mD _ v hblk4];exact(gk hblk4).c6,?_⟩));refine(jf w4 tp T hp4.tab (i:Int)).mono ?_;rintro e w5 ⟨rfl,hw⟩;subst hw;rw [if_pos hin];have hshort:(bk T (i:Int)).length≤64:=by
   obtain⟨y,hy,hyb⟩:=e_ hin;rw [hyb];exact hp.ok.short y (List.mem_of_getElem? hy)
  refine⟨_,_,rfl,af.mk _ rfl ⟨_,by rw [mD _ v hblk4];exact(gk hblk4).c6,?_⟩⟩;refine(li w5 tp T hp4.tab hp.ok.sound hp.ok.pos (bk T (i:Int)) (by omega)).mono ?_;rintro e w6 ⟨A,N,C,rfl,hown6,hN,hB6⟩;refine⟨A,N,C,rfl,?_⟩;intro w7 hw7;have hB7:Below w5.heap.size w5 w7:=by subst hw7;exact hB6.drew
  have hblk7:=aj hB7 hblk4;have hown7:=aF hown4 hB7;have henc7:w7.ownsRow w5.heap.size bh 1 (.slice A N C) N ((eO T (bk T (i:Int))).flatMap ay):=by subst hw7;exact im hown6
  have ht7:=ht4.trans (aC.of_below hB7);have fin:∀(b:Bool) (w8:World),b=gQ s T i→Below w7.heap.size w7 w8→
    af (some (nb w1)) (fun pa_20=>
         (0:Int)≤(i:Int)∧(i:Int) < ((T.length:Nat):Int)∧
         (Value.bool b).oneCell'=true∧(∃u,w8.cell? (pa_20.add ((i:Int).toNat*1))=some u)∧w8.frozen? (pa_20.add ((i:Int).toNat*1))=false∧
         ∀w9:World,w9=(w8.setCell (pa_20.add ((i:Int).toNat*1)) (Value.bool b))→
         Ar .i64 ((i:Int)+1) (fun n_21=>I [Value.int .i64 n_21] w9)):=by
   intro b w8 hb hB8;have hblk8:=aj hB8 hblk7;have hown8:=aF hown7 hB8;have hget:(fJ s T i)[i]? =some false:=by
    unfold fJ;have hl:((fc s T).take i).length=i:=by simp [dy];omega
    rw [List.getElem?_append_right (by omega),hl,Nat.sub_self,List.getElem?_replicate,if_pos (by omega)]
   obtain⟨u,f,k⟩:=gc (l:=⟨some (nb w1),T.length,T.length⟩) (enc:=dS) (sz:=1) (fun _=>rfl) (by decide) hown8 (ui s T i (by omega)).symm rfl hget (k:=0) (by decide) b (.bool b) rfl;rw [au]at u f k;refine af.mk _ rfl ⟨by omega,by omega,rfl,u,f,?_⟩;intro w9 hw9;obtain⟨r9,s9,z9,b9⟩:=k w9 hw9;refine Ar.ok64 (by omega) (by omega) (ih w9 ⟨?_,?_,?_⟩)
   ·rw [s9 v (by intro e;have:=Option.some.inj e;simp at this;omega)];exact hblk8
   ·rw [hb,Dq s T i hi]at r9;exact r9
   ·have t8:=ht7.trans (aC.of_below hB8);have hbb:=b9 w1.heap.size w1 (Nat.le_refl _);have ob:(Value.slice (some (nb w1)) T.length T.length).ownBlock=some w1.heap.size:=rfl;refine⟨?_,?_,?_,by rw [z9];exact t8.size,fun j hj hjv=>?_⟩
    ·subst hw9;exact t8.os
    ·subst hw9;exact t8.tape
    ·subst hw9;exact t8.output
    ·rw [s9 j (by rw [show(Sl.v ⟨some (nb w1),T.length,T.length⟩).ownBlock=some w1.heap.size from rfl];intro e;have:=Option.some.inj e;omega),t8.block j hj hjv]
  refine af.mk _ rfl ⟨_,_,_,g12 hblk7,ac.mk (fun h1=>?_) fun h1=>?_⟩
  ·have h1:N=1:=by have:((N:Nat):Int)=1:=by simpa using h1
                   omega
   rw [h1]at hN
   match hx:eO T (bk T (i:Int))with
   | []=>rw [hx]at hN;simp at hN
   |y::z::t=>rw [hx]at hN;simp at hN
   | [y]=>
    rw [hx]at henc7;obtain⟨a,ha,hc⟩:=kN (l:=⟨A,N,C⟩) (enc:=ay) (sz:=1) (fun _=>rfl) (by decide) henc7 (i:=0) (x:=y) rfl;have hc0:=hc 0 _ rfl;rw [au]at hc0;refine af.mk a ha ⟨Int.le_refl _,by omega,y,hc0,ac.mk (fun h2=>?_) fun h2=>?_⟩
    ·have h2:y=(i:Int):=by simpa using h2
     refine af.mk _ rfl ⟨_,by rw [mD _ v hblk7];exact(gk hblk7).c7,?_⟩;refine(Cn w7 bp s.classes s.joins (hp4.on hB7).bound (nt hp.right).1 (bk T (i:Int)) (by omega)).mono ?_;rintro e w8 ⟨rfl,hB8⟩;refine⟨_,rfl,⟨g12 (aj hB8 hblk7),trivial⟩,fin _ w8 ?_ hB8⟩;unfold gQ;rw [hx,h2];simp
    ·have h2:y≠(i:Int):=by simpa using h2
     refine fin false w7 ?_ (Below.refl _ _);unfold gQ;rw [hx];simp [h2]
  ·have h1:N≠1:=by intro e;rw [e]at h1;simp at h1
   refine fin false w7 ?_ (Below.refl _ _);unfold gQ;rw [decide_eq_false (fun e=>by rw [e]at hN;simp at hN;exact h1 hN)];rfl
 ·rintro w4 ⟨hblk4,hown4,ht4⟩;refine hI _ _ (ac.no (by simp) ⟨rfl,⟨some (nb w1),T.length,T.length⟩,hblk4,rfl,?_,ht4⟩);have:fJ s T T.length=fc s T:=by
   unfold fJ;rw [Nat.sub_self,List.replicate_zero,List.append_nil,List.take_of_length_le (by rw [dy];exact Nat.le_refl _)]
  rw [this]at hown4;exact hown4
theorem nK (w:World):(callFunc 271 #[]).run Tryz.prog w= .ok (.value (.tuple #[])) w:=run_call_mark0 Tryz.func271 (by kernel_rfl) (by kernel_rfl) (by kernel_rfl) .disable (by kernel_rfl) w
theorem pU (w:World):(callFunc 273 #[]).run Tryz.prog w= .ok (.value (.tuple #[])) w:=run_call_mark0 Tryz.func273 (by kernel_rfl) (by kernel_rfl) (by kernel_rfl) .enable (by kernel_rfl) w
theorem vy (a:Addr) (w:World):(callFunc 274 #[.pointer (some a)]).run Tryz.prog w= .ok (.value (.tuple #[])) w:=run_call_marked Tryz.func274 (by kernel_rfl) (by kernel_rfl) (by kernel_rfl) .acquire (by kernel_rfl) a w
theorem nC (a:Addr) (w:World):(callFunc 276 #[.pointer (some a)]).run Tryz.prog w= .ok (.value (.tuple #[])) w:=run_call_marked Tryz.func276 (by kernel_rfl) (by kernel_rfl) (by kernel_rfl) .releaseMerge (by kernel_rfl) a w
theorem qq (a:Addr) (n:Int) (w:World) (hc:w.cell? a=some (.int .i64 n)) (hz:w.frozen? a=false):
  CP 105 #[.pointer (some a),.int .i64 1] w fun e w'=>e= .returned (.int .i64 (IntKind.i64.wrap (n+1)))∧w'=w.setCell a (.int .i64 (IntKind.i64.wrap (n+1))):=by
 have hadd:=run_call_add (P:=Tryz.prog) Tryz.func159 (by kernel_rfl) (by kernel_rfl) (by kernel_rfl) .i64 (by kernel_rfl) (y:=1) (s:=IntKind.i64.wrap (n+1)) hc hz (by simp [go_sem])
 go_enter Tryz.func105,Tryz.ntmps105
 go_wp2
 go_ret
 exact⟨congrArg (fun z:Int=>Ending.returned (Value.int .i64 z)) (by unfold wrap64;exact(IntKind.wrap_i64 _).symm),congrArg (fun z:Int=>w.setCell a (Value.int .i64 z)) (by unfold wrap64;exact(IntKind.wrap_i64 _).symm)⟩
theorem tu (a:Addr) (n:Int) (w:World) (hc:w.cell? a=some (.int .i64 n)) (hz:w.frozen? a=false):
  CP 105 #[.pointer (some a),.int .i64 1] w fun e w'=>∃m:Int,e= .returned (.int .i64 m)∧w'=w.setCell a (.int .i64 m):=
 (qq a n w hc hz).mono fun _ _ ⟨h1,h2⟩=>⟨_,h1,h2⟩
theorem sK (a:Addr) (x:Value) (u:FrameMode) (w:World) (hc:w.cell? a=some x) (hz:w.frozen? a=false):
  CallsD Tryz.prog 209 #[.pointer (some a),.bool true] u w fun e u' w'=>u'=u∧(e= .returned (.tuple #[])∧w'=w.drew.setCell a (.int .u32 1)):=by
 have hc':w.drew.cell? a=some x:=by go_simp
 have hz':w.drew.frozen? a=false:=by go_simp
 have hst:=run_call_store (P:=Tryz.prog) Tryz.func249 (by kernel_rfl) (by kernel_rfl) (by kernel_rfl) (by kernel_rfl) (k:=.u32) (y:=1) hc' hz'
 go_enter_d Tryz.func209,Tryz.ntmps209
 go_wp2
 go_region_calls
 all_goals (go_end0;exact⟨rfl,rfl⟩)
theorem pG (a:Addr) (u:FrameMode) (w:World) (hc:w.cell? a=some (.int .i32 1)) (hz:w.frozen? a=false):
  CallsD Tryz.prog 208 #[.pointer (some a)] u w fun e u' w'=>u'=u∧(e= .returned (.tuple #[])∧w'=w.setCell a (.int .i32 0)):=by
 have hd:=nK;have he:=pU;have hr:=nC;have hadd:=run_call_add (P:=Tryz.prog) Tryz.func277 (by kernel_rfl) (by kernel_rfl) (by kernel_rfl) .i32 (by kernel_rfl) (y:= -1) (s:=0) hc hz (by simp [go_sem];rfl);have hcv:=run_convert_to_unsafe (P:=Tryz.prog) (src:=347) (dst:=351) Tryz.underlying347 Tryz.underlying351 (by kernel_rfl) hc
 go_enter_d Tryz.func208,Tryz.ntmps208
 go_wp2
 go_end0
 go_wp2
 go_end0
 exact⟨rfl,rfl⟩
theorem uP (a:Addr) (w:World) (hc:w.cell? a=some (.int .i32 0)) (hz:w.frozen? a=false):
  CP 207 #[.pointer (some a)] w fun e w'=>e= .returned (.tuple #[])∧w'=w.setCell a (.int .i32 1):=by
 have hd:=nK;have he:=pU;have ha:=vy;have hcas:=run_call_cas_hit (P:=Tryz.prog) Tryz.func272 (by kernel_rfl) (by kernel_rfl) (by kernel_rfl) .i32 (by kernel_rfl) (y:=1) hc hz;have hc':(w.setCell a (.int .i32 1)).cell? a=some (.int .i32 1):=World.cell?_setCell_same w a _ hc;have hcv:=run_convert_to_unsafe (P:=Tryz.prog) (src:=347) (dst:=351) Tryz.underlying347 Tryz.underlying351 (by kernel_rfl) hc'
 go_enter Tryz.func207,Tryz.ntmps207
 go_wp2
 first |go_end0 |(simp only [Exit.inBlock,Exit.then];refine bodyPost_ret (results_none rfl _ _ _) rfl ?_) |refine bodyPost_ret (results_none rfl _ _ _) rfl ?_
 go_wp2
 go_end0
 exact⟨rfl,rfl⟩
set_option maxHeartbeats 1600000 in
theorem Gi (v:Nat) (w:World) (K:World→Prop)
  (hfind:CP 108 #[.pointer (some ⟨v,0,none⟩)] (w.setCell ⟨v,10,none⟩ (.int .i32 1)) fun e w'=>e= .returned (.tuple #[])∧K w')
  (hK:∀w',K w'→w'.cell? ⟨v,9,none⟩=some (.int .u32 0)∧w'.frozen? ⟨v,9,none⟩=false∧w'.cell? ⟨v,10,none⟩=some (.int .i32 1)∧w'.frozen? ⟨v,10,none⟩=false)
  (h0:w.cell? ⟨v,9,none⟩=some (.int .u32 0)) (h1:w.cell? ⟨v,10,none⟩=some (.int .i32 0)) (f0:w.frozen? ⟨v,9,none⟩=false) (f1:w.frozen? ⟨v,10,none⟩=false):
  CP 162 #[.pointer (some ⟨v,9,none⟩),.func (.func 108) #[.pointer (some ⟨v,0,none⟩)] #[]] w fun e w'=>e= .returned (.tuple #[])∧∃w2,K w2∧w'=(w2.drew.setCell ⟨v,9,none⟩ (.int .u32 1)).setCell ⟨v,10,none⟩ (.int .i32 0):=by
 have hl:=run_call_load (P:=Tryz.prog) Tryz.func206 (by kernel_rfl) (by kernel_rfl) (by kernel_rfl) .u32 (by kernel_rfl) (w:=w.setCell ⟨v,10,none⟩ (.int .i32 1)) (a:=⟨v,9,none⟩) (x:=0) ((World.cell?_setCell_other _ ⟨v,10,none⟩ ⟨v,9,none⟩ _ (by simp)).trans h0);have hnot:∀(x:Bool) (w:World),(Op.unary .not (.bool x)).run Tryz.prog w= .ok (.bool (!x)) w:=fun _ _=>rfl
 go_enter_defers Tryz.func162,Tryz.ntmps162
 go_wp2_with (go_at_call 207;refine(uP ⟨v,10,none⟩ _ (by go_simp) (by go_simp)).mono ?_;rintro e w' ⟨rfl,rfl⟩)
 go_wp2_with (first |(go_at_call 108;refine hfind.mono ?_;rintro e w' ⟨rfl,hk⟩) |go_in)
 obtain⟨k0,k1,k2,k3⟩:=hK _ hk;refine leaves_cons (f:=209) (args:=#[.pointer (some ⟨v,9,none⟩),.bool true]) (by simp) (by simp [go_sem]) ?_;refine(sK ⟨v,9,none⟩ (.int .u32 0) .returning _ k0 k1).mono ?_;rintro e u' w'' ⟨rfl,rfl,rfl⟩;refine leaves_cons (f:=208) (args:=#[.pointer (some ⟨v,10,none⟩)]) (by simp [settle]) (by simp [go_sem]) ?_;refine(pG ⟨v,10,none⟩ _ _ ?_ ?_).mono ?_
 ·refine(World.cell?_setCell_other _ ⟨v,9,none⟩ ⟨v,10,none⟩ _ (by simp)).trans ?_;rw [World.cell?_drew];exact k2
 ·simp [k3]
 rintro e u' w'' ⟨rfl,rfl,rfl⟩;simp [Leaves,settle,results,Tryz.results162];exact⟨_,hk,rfl⟩
set_option maxHeartbeats 1600000 in
theorem JF (v:Nat) (w:World) (K:World→Prop)
  (hfind:CP 108 #[.pointer (some ⟨v,0,none⟩)] (w.setCell ⟨v,10,none⟩ (.int .i32 1)) fun e w'=>e= .returned (.tuple #[])∧K w')
  (hK:∀w',K w'→w'.cell? ⟨v,9,none⟩=some (.int .u32 0)∧w'.frozen? ⟨v,9,none⟩=false∧w'.cell? ⟨v,10,none⟩=some (.int .i32 1)∧w'.frozen? ⟨v,10,none⟩=false)
  (h0:w.cell? ⟨v,9,none⟩=some (.int .u32 0)) (h1:w.cell? ⟨v,10,none⟩=some (.int .i32 0)) (f0:w.frozen? ⟨v,9,none⟩=false) (f1:w.frozen? ⟨v,10,none⟩=false):
  CP 107 #[.pointer (some ⟨v,9,none⟩),.func (.func 108) #[.pointer (some ⟨v,0,none⟩)] #[]] w fun e w'=>e= .returned (.tuple #[])∧∃w2,K w2∧w'=(w2.drew.setCell ⟨v,9,none⟩ (.int .u32 1)).setCell ⟨v,10,none⟩ (.int .i32 0):=by
 have hl:=run_call_load (P:=Tryz.prog) Tryz.func206 (by kernel_rfl) (by kernel_rfl) (by kernel_rfl) .u32 (by kernel_rfl) h0;have hnot:∀(x:Bool) (w:World),(Op.unary .not (.bool x)).run Tryz.prog w= .ok (.bool (!x)) w:=fun _ _=>rfl
 go_enter Tryz.func107,Tryz.ntmps107
 go_wp2_with (first |(go_at_call 162;refine(Gi v w K hfind hK h0 h1 f0 f1).mono ?_;rintro e w' ⟨rfl,hk⟩) |(go_at_call 161;go_in))
 go_end0
 exact⟨rfl,hk⟩
theorem uI (a:Addr) (d:Int) (hd:¬d=0) (fv:Value) (w:World) (h0:w.cell? a=some (.int .u32 d)):
  CP 107 #[.pointer (some a),fv] w fun e w'=>e= .returned (.tuple #[])∧w'=w:=by
 have hl:=run_call_load (P:=Tryz.prog) Tryz.func206 (by kernel_rfl) (by kernel_rfl) (by kernel_rfl) .u32 (by kernel_rfl) h0;have hnot:∀(x:Bool) (w:World),(Op.unary .not (.bool x)).run Tryz.prog w= .ok (.bool (!x)) w:=fun _ _=>rfl;have hd':(d != 0)=true:=by simp [hd]
 go_enter Tryz.func107,Tryz.ntmps107
 go_wp2
 go_end0
 exact⟨rfl,rfl⟩
def fU (s:ak) (T:List aT) (id:Int):Bool:=decide (id∈s.specials.map (·.1))||(decide (bu T id)&&gQ s T id.toNat)
theorem JI {w w0:World} {v:Nat} {c:Array Value} (h:w.heap[v]? =some (.cells c dH (0,0))) (hb:Below w0.heap.size w0 w) (hv:w0.heap.size≤v) (j:Nat) (u:Value):
  (w.setCell ⟨v,j,none⟩ u).heap[v]? =some (.cells (c.setIfInBounds j u) dH (0,0))∧Below w0.heap.size w0 (w.setCell ⟨v,j,none⟩ u)∧aC v w (w.setCell ⟨v,j,none⟩ u):=
 ⟨bO h u,hb.setCell (p:=⟨v,j,none⟩) hv u,⟨rfl,rfl,rfl,by rw [ba];exact Nat.le_refl _,fun k _ hk=>aq hk⟩⟩
theorem kn (w:World) (v:Nat) (s:ak) (T:List aT) (h:aW w v s T) (id:Int):
  CP 43 #[.pointer (some ⟨v,0,none⟩),.int .i64 id] w fun e w'=>e= .returned (.bool (fU s T id))∧aW w' v s T∧aC v w w':=by
 obtain⟨w0,x,tp,bp,mp,d,l,uses,hV⟩:=h;refine aJ (Dz (some ⟨v,0,none⟩) id w (fun u w'=>u= .bool (fU s T id)∧aW w' v s T∧aC v w w') ?_) (by rintro v w' ⟨rfl,h⟩;exact⟨rfl,h⟩);refine ac.no rfl (af.mk _ rfl ?_);have e13:(⟨v,0,none⟩:Addr).add 13=⟨v,13,none⟩:=by rw [aB,Nat.zero_add]
 have e9:((⟨v,0,none⟩:Addr).add 9).add 0=⟨v,9,none⟩:=by rw [aB,aB]
 have at_:∀ {w':World} {c:Array Value},w'.heap[v]? =some (.cells c dH (0,0))→∀j,w'.cell? ⟨v,j,none⟩=c[j]? :=fun h j=>aZ h;have fz:∀ {w':World} {c:Array Value},w'.heap[v]? =some (.cells c dH (0,0))→∀j,w'.frozen? ⟨v,j,none⟩=false:=fun h j=>bV h;rw [e13];refine(tu ⟨v,13,none⟩ uses w (at_ hV.blk 13) (fz hV.blk 13)).mono ?_;rintro e w1 ⟨m,rfl,hw1⟩;obtain⟨b1,o1,t1⟩:=JI hV.blk hV.below hV.lt 13 (.int .i64 m);rw [←hw1]at b1 o1 t1;have b1:w1.heap[v]? =some (.cells (ix x tp bp mp d l m) dH (0,0)):=b1;have hV1:iu w1 v s T w0 x tp bp mp d l m:=⟨hV.parts,o1,hV.lt,b1,hV.once.imp (fun h=>h) fun⟨p,q,r⟩=>⟨p,q,t1.own r fun e=>by have:=(cB r _ e).1;omega⟩⟩;refine⟨m,rfl,af.mk _ rfl ⟨_,by rw [mD _ v b1];rfl,?_⟩⟩;have hp1:=hV1.now;refine(jm w1 mp s.specials hp1.marks hp1.few id).mono ?_;rintro e w2 ⟨rfl,hw⟩;subst hw;have hm:(jk s.specials id).isSome=true↔id∈s.specials.map (·.1):=nZ;refine⟨_,_,rfl,ac.mk (fun h0=>?_) fun h0=>?_⟩
 ·refine⟨?_,⟨w0,x,tp,bp,mp,d,l,m,hV1⟩,t1⟩;rw [fU,decide_eq_true (hm.1 h0)];rfl
 have hnm:id∉s.specials.map (·.1):=fun h=>by rw [hm.2 h]at h0;cases h0
 refine af.mk _ rfl ?_;rw [e9];have rest:∀(w3:World) (l3:Sl),iu w3 v s T w0 x tp bp mp 1 l3 m→aC v w w3→
   ac (decide ((id:Int)≥0))
     (af (some ⟨v,0,none⟩) (fun pa_3=>
      ∃lA:Option Addr,∃lN:Nat,∃lC:Nat,w3.cell? ((pa_3.add 9).add 3)=some (Value.slice lA lN lC)∧
      ac (decide ((id:Int) < ((lN:Nat):Int)))
       (af (some ⟨v,0,none⟩) (fun pa_4=>
        ∃lA_5:Option Addr,∃lN_6:Nat,∃lC_7:Nat,w3.cell? ((pa_4.add 9).add 3)=some (Value.slice lA_5 lN_6 lC_7)∧
        af lA_5 (fun pa_8=>
        (0:Int)≤id∧id< ((lN_6:Nat):Int)∧
        ∃b:Bool,w3.cell? (pa_8.add ((id:Int).toNat*1))=some (Value.bool b)∧
        (Value.bool b= .bool (fU s T id)∧aW w3 v s T∧aC v w w3))))
       (Value.bool false= .bool (fU s T id)∧aW w3 v s T∧aC v w w3)))
     (Value.bool false= .bool (fU s T id)∧aW w3 v s T∧aC v w w3):=by
  intro w3 l3 hV3 t3;have hVI:aW w3 v s T:=⟨w0,x,tp,bp,mp,1,l3,m,hV3⟩;obtain⟨hln,hown⟩:l3.n=T.length∧w3.ownsRow (v+1) b_ 1 l3.v l3.n ((fc s T).flatMap dS):=by
   rcases hV3.once with⟨h,_⟩ |⟨_,h1,h2⟩
   ·cases h
   ·exact⟨h1,h2⟩
  have off:¬bu T id→(Value.bool false= .bool (fU s T id)∧aW w3 v s T∧aC v w w3):=fun hn=>⟨by rw [fU,decide_eq_false hnm,decide_eq_false hn];rfl,hVI,t3⟩;have c12:w3.cell? (((⟨v,0,none⟩:Addr).add 9).add 3)=some (.slice l3.a l3.n l3.c):=by rw [mD _ v hV3.blk];rfl
  refine ac.mk (fun h1=>?_) fun h1=>off fun h=>?_
  ·have h1:=of_decide_eq_true h1;refine af.mk _ rfl ⟨_,_,_,c12,ac.mk (fun h2=>?_) fun h2=>off fun h=>?_⟩
   ·have h2:=of_decide_eq_true h2;have hin:bu T id:=⟨h1,by omega⟩;have hlt:id.toNat<T.length:=by omega
    obtain⟨a,ha,hc⟩:=kN (enc:=dS) (sz:=1) (fun _=>rfl) (by decide) hown (i:=id.toNat) (x:=gQ s T id.toNat) (by rw [List.getElem?_eq_getElem (by rw [dy];exact hlt),qZ s T hlt]);have hc0:=hc 0 _ rfl;rw [au]at hc0;refine af.mk _ rfl ⟨_,_,_,c12,af.mk a ha ⟨h1,by omega,_,hc0,?_,hVI,t3⟩⟩;rw [fU,decide_eq_false hnm,decide_eq_true hin];simp
   ·have h2:=of_decide_eq_false h2;have:=h.2;omega
  ·have h1:=of_decide_eq_false h1;have:=h.1;omega
 rcases hV1.once with⟨rfl,rfl⟩ |⟨rfl,hln,hown⟩
 ·-- for the first time
  obtain⟨b2,o2,t2⟩:=JI b1 o1 hV.lt 10 (.int .i32 1);have hvb:ja (w2.setCell ⟨v,10,none⟩ (.int .i32 1)) v ((ix x tp bp mp 0 ⟨none,0,0⟩ m).setIfInBounds 10 (.int .i32 1)) tp bp mp:=⟨b2,rfl,rfl,rfl,rfl⟩;have hz2:(w2.setCell ⟨v,10,none⟩ (.int .i32 1)).heap.size=w2.heap.size:=ba _ _ _;have hvl:v<w2.heap.size:=(Array.getElem?_eq_some_iff.1 b1).1;refine(JF v w2 (fun w'=>∃l:Sl,w'.heap[v]? =some (.cells (((ix x tp bp mp 0 ⟨none,0,0⟩ m).setIfInBounds 10 (.int .i32 1)).setIfInBounds 12 l.v) dH (0,0))∧l.n=T.length∧w'.ownsRow (w2.setCell ⟨v,10,none⟩ (.int .i32 1)).heap.size b_ 1 l.v l.n ((fc s T).flatMap dS)∧aC v (w2.setCell ⟨v,10,none⟩ (.int .i32 1)) w') (Fc _ w0 v _ tp bp mp hvb s T x hV.parts o2 hV.lt) ?_ (at_ b1 9) (at_ b1 10) (fz b1 9) (fz b1 10)).mono ?_
  ·rintro w' ⟨l',hb',_⟩;exact⟨at_ hb' 9,fz hb' 9,at_ hb' 10,fz hb' 10⟩
  ·rintro e w3 ⟨rfl,wf,⟨l',hbf,hlf,hof,htf⟩,hw3⟩;refine⟨rfl,?_⟩;have of:Below w0.heap.size w0 wf:=o2.trans (htf.below hV.lt o2.size);have hbd:wf.drew.heap[v]? =some (.cells (((ix x tp bp mp 0 ⟨none,0,0⟩ m).setIfInBounds 10 (.int .i32 1)).setIfInBounds 12 l'.v) dH (0,0)):=hbf;obtain⟨b4,o4,t4⟩:=JI hbd of.drew hV.lt 9 (.int .u32 1);obtain⟨b5,o5,t5⟩:=JI b4 o4 hV.lt 10 (.int .i32 0);rw [←hw3]at b5 o5 t5;have tt:aC v wf w3:=((aC.of_below (aO wf)).trans t4).trans t5;have hne:l'.v.ownBlock≠some v:=fun e=>by have:=(cB hof _ e).1;omega
   refine rest w3 l' ⟨hV.parts,o5,hV.lt,b5,.inr ⟨rfl,hlf,aX (tt.own hof hne) (by omega)⟩⟩ (((t1.trans t2).trans htf).trans tt)
 ·-- it was done
  refine(uI ⟨v,9,none⟩ 1 (by decide) _ w2 (at_ b1 9)).mono ?_;rintro e w3 ⟨rfl,hw⟩;subst hw;exact⟨rfl,rest w3 l hV1 t1⟩
abbrev KE:TypeId:=343
def dK (w:World) (p tp:Nat) (a b limit steps:Int):Prop:=w.heap[p]? =some (.cells #[.int .i64 a,.int .i64 b,.pointer (some ⟨tp,0,none⟩),.int .i64 limit,.int .i64 steps] KE (0,0))
theorem dK.on {w w':World} {p tp:Nat} {a b limit steps:Int} (h:dK w p tp a b limit steps) (hb:Below w.heap.size w w'):dK w' p tp a b limit steps:=aj hb h
def cR (T:List aT) (a:Int):Bool:=decide (bu T a∧bn T a≠(-1, -1))
theorem uU (w:World) (B p tp:Nat) (T:List aT) (a b limit steps:Int) (hT:dl w tp T) (h:dK w p tp a b limit steps) (hB:B≤p) (hs:0≤steps∧steps≤1000000) (hab: -1000000≤b∧b≤1000000):
  CP 286 #[.pointer (some ⟨p,0,none⟩)] w fun e w'=>e= .returned (.bool (cR T a))∧(if cR T a=true then dK w' p tp (bn T a).2 b a (steps+1)else dK w' p tp a b limit steps)∧aC p w w':=by
 refine aJ (BQ (some ⟨p,0,none⟩) w (fun v w'=>v= .bool (cR T a)∧(if cR T a=true then dK w' p tp (bn T a).2 b a (steps+1)else dK w' p tp a b limit steps)∧aC p w w') ?_) (by rintro v w' ⟨rfl,h⟩;exact⟨rfl,h⟩);intro w1 hw1;have hb1:Below w.heap.size w w1:=by subst hw1;exact aO w
 have h1:=h.on hb1;have hpl:p<w.heap.size:=(Array.getElem?_eq_some_iff.1 h).1;have rest:∀(x y:Int) (r1:Bool) (loc:Nat) (wq:World),r1=cR T a→(r1=true→y=(bn T a).2)→loc≠p→dK wq p tp a b limit steps→wq.heap[loc]? =some (.cells #[.int .i64 x,.int .i64 y] mh (0,0))→aC p w wq→
   ∀J:List Value→World→Prop,(∀w5:World,(Value.bool r1= .bool (cR T a)∧(if cR T a=true then dK w5 p tp (bn T a).2 b a (steps+1)else dK w5 p tp a b limit steps)∧aC p w w5)→J [] w5)→
   ac r1
    (∀w6:World,w6=wq.drew→
     af (some ⟨p,0,none⟩) (fun pa_3=>
     ∃n_4:Int,w6.cell? (((pa_3.add 0).add 0).add 0)=some (Value.int .i64 n_4)∧
     ∃n_6:Int,w6.cell? ((⟨loc,0,none⟩:Addr).add 1)=some (Value.int .i64 n_6)∧
     af (some ⟨p,0,none⟩) (fun pa_6=>
     (Value.int .i64 n_4).oneCell'=true∧(∃u,w6.cell? (pa_6.add 3)=some u)∧w6.frozen? (pa_6.add 3)=false∧
     ∀w7:World,w7=(w6.setCell (pa_6.add 3) (Value.int .i64 n_4))→
     (w7.cell? ((⟨loc,0,none⟩:Addr).add 1)=some (Value.int .i64 n_6)∧True)∧
     af (some ⟨p,0,none⟩) (fun pa_7=>
     (Value.int .i64 n_6).oneCell'=true∧(∃u,w7.cell? (((pa_7.add 0).add 0).add 0)=some u)∧w7.frozen? (((pa_7.add 0).add 0).add 0)=false∧
     ∀w8:World,w8=(w7.setCell (((pa_7.add 0).add 0).add 0) (Value.int .i64 n_6))→
     af (some ⟨p,0,none⟩) (fun pa_8=>
     ∃n_9:Int,w8.cell? (pa_8.add 4)=some (Value.int .i64 n_9)∧
     Ar .i64 ((n_9:Int)+1) (fun n_10=>
     af (some ⟨p,0,none⟩) (fun pa_11=>
     (Value.int .i64 n_10).oneCell'=true∧(∃u,w8.cell? (pa_11.add 4)=some u)∧w8.frozen? (pa_11.add 4)=false∧
     ∀w9:World,w9=(w8.setCell (pa_11.add 4) (Value.int .i64 n_10))→
     J [] w9)))))))
    (J [] wq):=by
  intro x y r1 loc wq hr hy hloc hwq hlq htq J hJ;refine ac.mk (fun h0=>?_) fun h0=>?_
  ·intro w6 hw6;have h6:dK w6 p tp a b limit steps:=by subst hw6;exact hwq
   have l6:w6.heap[loc]? =some (.cells #[.int .i64 x,.int .i64 y] mh (0,0)):=by subst hw6;exact hlq
   have t6:aC p w w6:=by subst hw6;exact htq.trans (aC.of_below (aO _))
   have c6:∀j,w6.cell? ⟨p,j,none⟩=_:=fun j=>aZ h6;simp only [aB,Nat.zero_add,Nat.add_zero];refine af.mk _ rfl ⟨a,c6 0,⟨y,aZ l6,af.mk _ rfl ⟨rfl,⟨_,c6 3⟩,bV h6,?_⟩⟩⟩;intro w7 hw7;have h7:dK w7 p tp a b a steps:=by subst hw7;exact bO h6 _
   have s7:∀k,k≠p→w7.heap[k]? =w6.heap[k]? :=fun k hk=>by subst hw7;exact aq hk
   have t7:aC p w w7:=t6.trans (by subst hw7;exact⟨rfl,rfl,rfl,by rw [ba];exact Nat.le_refl _,fun k _ hk=>aq hk⟩);have c7:∀j,w7.cell? ⟨p,j,none⟩=_:=fun j=>aZ h7;refine⟨⟨aZ (by rw [s7 loc hloc];exact l6),trivial⟩,af.mk _ rfl ⟨rfl,⟨_,c7 0⟩,bV h7,?_⟩⟩;intro w8 hw8;have h8:dK w8 p tp y b a steps:=by subst hw8;exact bO h7 _
   have t8:aC p w w8:=t7.trans (by subst hw8;exact⟨rfl,rfl,rfl,by rw [ba];exact Nat.le_refl _,fun k _ hk=>aq hk⟩);have c8:∀j,w8.cell? ⟨p,j,none⟩=_:=fun j=>aZ h8;refine af.mk _ rfl ⟨steps,c8 4,Ar.ok64 (by omega) (by omega) (af.mk _ rfl ⟨rfl,⟨_,c8 4⟩,bV h8,?_⟩)⟩;intro w9 hw9;have h9:dK w9 p tp y b a (steps+1):=by subst hw9;exact bO h8 _
   have t9:aC p w w9:=t8.trans (by subst hw9;exact⟨rfl,rfl,rfl,by rw [ba];exact Nat.le_refl _,fun k _ hk=>aq hk⟩);refine hJ w9 ⟨by rw [hr],?_,t9⟩;rw [if_pos (by rw [←hr];exact h0), ←hy h0];exact h9
  ·refine hJ wq ⟨by rw [hr],?_,htq⟩;rw [if_neg (by rw [←hr,h0];simp)];exact hwq
 have c1:∀j,w1.cell? ⟨p,j,none⟩=_:=fun j=>aZ h1;have hpar:∃(x y:Int),Ad T a= .tuple #[.agg #[.int .i64 x,.int .i64 y],.bool (cR T a)]∧(cR T a=true→y=(bn T a).2):=by
  unfold Ad cR;by_cases hc:bu T a∧bn T a≠(-1, -1)
  ·rw [if_pos hc,decide_eq_true hc];exact⟨_,_,rfl,fun _=>rfl⟩
  ·rw [if_neg hc,decide_eq_false hc];exact⟨0,0,rfl,fun h=>by cases h⟩
 obtain⟨x,y,hxy,hxy2⟩:=hpar;refine af.mk _ rfl ⟨some ⟨tp,0,none⟩,by simp only [aB,Nat.zero_add];exact c1 2,af.mk _ rfl ⟨a,by simp only [aB,Nat.zero_add,Nat.add_zero];exact c1 0,?_,?_⟩⟩
 ·refine(eY w1 tp T (hT.on hb1) a).mono ?_;rintro e w2 ⟨rfl,hb2⟩;rw [hxy];refine⟨x,y,_,rfl,?_⟩;intro w3 hw3;refine aS [.int .i64 0,.int .i64 0] [.int .i64 x,.int .i64 y] rfl (cw _ _) w3 hw3 ?_;intro w4 h4 hz4 hB4;have hb14:=ae hb1 (ae hb2 hB4);have hz2:=(ae hb1 hb2).size;intro J hJ;exact rest x y _ w2.heap.size w4 rfl hxy2 (by omega) (h1.on (ae hb2 hB4)) h4 (aC.of_below hb14) J hJ
 ·intro w10 hw10;have hb10:Below w1.heap.size w1 w10:=by subst hw10;exact ah _ _
  have h10:=h1.on hb10;have l10:w10.heap[w1.heap.size]? =some (.cells #[Value.int .i64 0,Value.int .i64 0] mh (0,0)):=by subst hw10;exact ap _ _
  have c10:∀j,w10.cell? ⟨p,j,none⟩=_:=fun j=>aZ h10;refine⟨⟨by simp only [aB,Nat.zero_add,Nat.add_zero];exact c10 0,trivial⟩,⟨by simp only [aB,Nat.zero_add];exact c10 2,trivial⟩,?_⟩;refine(eY w10 tp T ((hT.on hb1).on hb10) a).mono ?_;rintro e w11 ⟨rfl,hb11⟩;rw [hxy];refine⟨x,y,_,rfl,?_⟩;have hz1:=hb1.size;refine bf (aj hb11 l10) [.int .i64 x,.int .i64 y] rfl (cw _ _) ?_;intro w12 h12 hs12 hz12 hB12;have h12':dK w12 p tp a b limit steps:=by
   unfold dK;rw [hs12 p (by omega)];exact h10.on hb11
  have hb112:Below w1.heap.size w1 w12:=hB12 _ _ (Nat.le_refl _) (ae hb10 hb11);intro J hJ;exact rest x y _ w1.heap.size w12 rfl hxy2 (by omega) h12' h12 (aC.of_below (ae hb1 hb112)) J hJ
theorem ru (w:World) (B p tp:Nat) (T:List aT) (a b limit steps:Int) (hT:dl w tp T) (h:dK w p tp a b limit steps) (hB:B≤p) (hs:0≤steps∧steps≤1000000) (hab: -1000000≤b∧b≤1000000):
  CP 287 #[.pointer (some ⟨p,0,none⟩)] w fun e w'=>e= .returned (.bool (cR T b))∧(if cR T b=true then dK w' p tp a (bn T b).1 (b+1) (steps+1)else dK w' p tp a b limit steps)∧aC p w w':=by
 refine aJ (BY (some ⟨p,0,none⟩) w (fun v w'=>v= .bool (cR T b)∧(if cR T b=true then dK w' p tp a (bn T b).1 (b+1) (steps+1)else dK w' p tp a b limit steps)∧aC p w w') ?_) (by rintro v w' ⟨rfl,h⟩;exact⟨rfl,h⟩);intro w1 hw1;have hb1:Below w.heap.size w w1:=by subst hw1;exact aO w
 have h1:=h.on hb1;have hpl:p<w.heap.size:=(Array.getElem?_eq_some_iff.1 h).1;have rest:∀(x y:Int) (r1:Bool) (loc:Nat) (wq:World),r1=cR T b→(r1=true→x=(bn T b).1)→loc≠p→dK wq p tp a b limit steps→wq.heap[loc]? =some (.cells #[.int .i64 x,.int .i64 y] mh (0,0))→aC p w wq→
   ∀J:List Value→World→Prop,(∀w5:World,(Value.bool r1= .bool (cR T b)∧(if cR T b=true then dK w5 p tp a (bn T b).1 (b+1) (steps+1)else dK w5 p tp a b limit steps)∧aC p w w5)→J [] w5)→
   ac r1
    (∀w6:World,w6=wq.drew→
     af (some ⟨p,0,none⟩) (fun pa_3=>
     ∃n_4:Int,w6.cell? (((pa_3.add 0).add 0).add 1)=some (Value.int .i64 n_4)∧
     Ar .i64 ((n_4:Int)+1) (fun n_5=>
     ∃n_6:Int,w6.cell? ((⟨loc,0,none⟩:Addr).add 0)=some (Value.int .i64 n_6)∧
     af (some ⟨p,0,none⟩) (fun pa_6=>
     (Value.int .i64 n_5).oneCell'=true∧(∃u,w6.cell? (pa_6.add 3)=some u)∧w6.frozen? (pa_6.add 3)=false∧
     ∀w7:World,w7=(w6.setCell (pa_6.add 3) (Value.int .i64 n_5))→
     (w7.cell? ((⟨loc,0,none⟩:Addr).add 0)=some (Value.int .i64 n_6)∧True)∧
     af (some ⟨p,0,none⟩) (fun pa_7=>
     (Value.int .i64 n_6).oneCell'=true∧(∃u,w7.cell? (((pa_7.add 0).add 0).add 1)=some u)∧w7.frozen? (((pa_7.add 0).add 0).add 1)=false∧
     ∀w8:World,w8=(w7.setCell (((pa_7.add 0).add 0).add 1) (Value.int .i64 n_6))→
     af (some ⟨p,0,none⟩) (fun pa_8=>
     ∃n_9:Int,w8.cell? (pa_8.add 4)=some (Value.int .i64 n_9)∧
     Ar .i64 ((n_9:Int)+1) (fun n_10=>
     af (some ⟨p,0,none⟩) (fun pa_11=>
     (Value.int .i64 n_10).oneCell'=true∧(∃u,w8.cell? (pa_11.add 4)=some u)∧w8.frozen? (pa_11.add 4)=false∧
     ∀w9:World,w9=(w8.setCell (pa_11.add 4) (Value.int .i64 n_10))→
     J [] w9))))))))
    (J [] wq):=by
  intro x y r1 loc wq hr hy hloc hwq hlq htq J hJ;refine ac.mk (fun h0=>?_) fun h0=>?_
  ·intro w6 hw6;have h6:dK w6 p tp a b limit steps:=by subst hw6;exact hwq
   have l6:w6.heap[loc]? =some (.cells #[.int .i64 x,.int .i64 y] mh (0,0)):=by subst hw6;exact hlq
   have t6:aC p w w6:=by subst hw6;exact htq.trans (aC.of_below (aO _))
   have c6:∀j,w6.cell? ⟨p,j,none⟩=_:=fun j=>aZ h6;simp only [aB,Nat.zero_add,Nat.add_zero];refine af.mk _ rfl ⟨b,c6 1,Ar.ok64 (by omega) (by omega) ⟨x,aZ l6,af.mk _ rfl ⟨rfl,⟨_,c6 3⟩,bV h6,?_⟩⟩⟩;intro w7 hw7;have h7:dK w7 p tp a b (b+1) steps:=by subst hw7;exact bO h6 _
   have s7:∀k,k≠p→w7.heap[k]? =w6.heap[k]? :=fun k hk=>by subst hw7;exact aq hk
   have t7:aC p w w7:=t6.trans (by subst hw7;exact⟨rfl,rfl,rfl,by rw [ba];exact Nat.le_refl _,fun k _ hk=>aq hk⟩);have c7:∀j,w7.cell? ⟨p,j,none⟩=_:=fun j=>aZ h7;refine⟨⟨aZ (by rw [s7 loc hloc];exact l6),trivial⟩,af.mk _ rfl ⟨rfl,⟨_,c7 1⟩,bV h7,?_⟩⟩;intro w8 hw8;have h8:dK w8 p tp a x (b+1) steps:=by subst hw8;exact bO h7 _
   have t8:aC p w w8:=t7.trans (by subst hw8;exact⟨rfl,rfl,rfl,by rw [ba];exact Nat.le_refl _,fun k _ hk=>aq hk⟩);have c8:∀j,w8.cell? ⟨p,j,none⟩=_:=fun j=>aZ h8;refine af.mk _ rfl ⟨steps,c8 4,Ar.ok64 (by omega) (by omega) (af.mk _ rfl ⟨rfl,⟨_,c8 4⟩,bV h8,?_⟩)⟩;intro w9 hw9;have h9:dK w9 p tp a x (b+1) (steps+1):=by subst hw9;exact bO h8 _
   have t9:aC p w w9:=t8.trans (by subst hw9;exact⟨rfl,rfl,rfl,by rw [ba];exact Nat.le_refl _,fun k _ hk=>aq hk⟩);refine hJ w9 ⟨by rw [hr],?_,t9⟩;rw [if_pos (by rw [←hr];exact h0), ←hy h0];exact h9
  ·refine hJ wq ⟨by rw [hr],?_,htq⟩;rw [if_neg (by rw [←hr,h0];simp)];exact hwq
 have c1:∀j,w1.cell? ⟨p,j,none⟩=_:=fun j=>aZ h1;have hpar:∃(x y:Int),Ad T b= .tuple #[.agg #[.int .i64 x,.int .i64 y],.bool (cR T b)]∧(cR T b=true→x=(bn T b).1):=by
  unfold Ad cR;by_cases hc:bu T b∧bn T b≠(-1, -1)
  ·rw [if_pos hc,decide_eq_true hc];exact⟨_,_,rfl,fun _=>rfl⟩
  ·rw [if_neg hc,decide_eq_false hc];exact⟨0,0,rfl,fun h=>by cases h⟩
 obtain⟨x,y,hxy,hxy2⟩:=hpar;refine af.mk _ rfl ⟨some ⟨tp,0,none⟩,by simp only [aB,Nat.zero_add];exact c1 2,af.mk _ rfl ⟨b,by simp only [aB,Nat.zero_add,Nat.add_zero];exact c1 1,?_,?_⟩⟩
 ·refine(eY w1 tp T (hT.on hb1) b).mono ?_;rintro e w2 ⟨rfl,hb2⟩;rw [hxy];refine⟨x,y,_,rfl,?_⟩;intro w3 hw3;refine aS [.int .i64 0,.int .i64 0] [.int .i64 x,.int .i64 y] rfl (cw _ _) w3 hw3 ?_;intro w4 h4 hz4 hB4;have hb14:=ae hb1 (ae hb2 hB4);have hz2:=(ae hb1 hb2).size;intro J hJ;exact rest x y _ w2.heap.size w4 rfl hxy2 (by omega) (h1.on (ae hb2 hB4)) h4 (aC.of_below hb14) J hJ
 ·intro w10 hw10;have hb10:Below w1.heap.size w1 w10:=by subst hw10;exact ah _ _
  have h10:=h1.on hb10;have l10:w10.heap[w1.heap.size]? =some (.cells #[Value.int .i64 0,Value.int .i64 0] mh (0,0)):=by subst hw10;exact ap _ _
  have c10:∀j,w10.cell? ⟨p,j,none⟩=_:=fun j=>aZ h10;refine⟨⟨by simp only [aB,Nat.zero_add,Nat.add_zero];exact c10 1,trivial⟩,⟨by simp only [aB,Nat.zero_add];exact c10 2,trivial⟩,?_⟩;refine(eY w10 tp T ((hT.on hb1).on hb10) b).mono ?_;rintro e w11 ⟨rfl,hb11⟩;rw [hxy];refine⟨x,y,_,rfl,?_⟩;have hz1:=hb1.size;refine bf (aj hb11 l10) [.int .i64 x,.int .i64 y] rfl (cw _ _) ?_;intro w12 h12 hs12 hz12 hB12;have h12':dK w12 p tp a b limit steps:=by
   unfold dK;rw [hs12 p (by omega)];exact h10.on hb11
  have hb112:Below w1.heap.size w1 w12:=hB12 _ _ (Nat.le_refl _) (ae hb10 hb11);intro J hJ;exact rest x y _ w1.heap.size w12 rfl hxy2 (by omega) h12' h12 (aC.of_below (ae hb1 hb112)) J hJ
def wS (T:List aT) (t:Int):List Int:=dd (bk T t)
theorem cD {T:List aT} (h:iD T):(ao T).length+256=T.length:=by
 have:=h.len;simp [ao];omega
theorem E6 {T:List aT} (h:iD T) {i:Nat} (hi:i<256):T[i]? =some (cA i):=by
 have h1:(T.take 256)[i]? =T[i]? :=List.getElem?_take_of_lt hi;rw [←h1,h.low];simp [bG,hi]
theorem pe {T:List aT} (h:iD T) {i:Nat} (hi:i<256):bk T (i:Int)= [UInt8.ofNat i]:=by
 simp [bk,E6 h hi,cA]
theorem Hp {T:List aT} (h:iD T) {k:Nat} {m:Int×Int} (hm:(ao T)[k]? =some m):∃e,T[256+k]? =some e∧e.2=m:=by
 simp only [ao,List.getElem?_map,List.getElem?_drop]at hm;obtain⟨e,he,rfl⟩:=Option.map_eq_some_iff.1 hm;exact⟨e,he,rfl⟩
theorem Ek {T:List aT} (h:iD T) {k:Nat} {m:Int×Int} (hm:(ao T)[k]? =some m):bk T ((256:Int)+(k:Nat))=bk T m.1++bk T m.2:=by
 obtain⟨e,he,rfl⟩:=Hp h hm;obtain⟨_,_,hs⟩:=h.step (256+k) e he (by omega);rw [←hs];unfold bk;rw [show((256:Int)+(k:Nat)).toNat=256+k by omega,he];rfl
theorem Aa {T:List aT} (h:iD T):∀(n i:Nat),i≤n→i<T.length→bk T (i:Int)≠ []:=by
 intro n;induction n with
 |zero=>
  intro i hi hl;rw [pe h (by omega)];simp
 |succ n ih=>
  intro i hi hl;by_cases h256:i<256
  ·rw [pe h h256];simp
  ·obtain⟨h1,h2,h3⟩:=h.step i _ (List.getElem?_eq_getElem hl) (by omega);have:bk T (i:Int)=T[i].1:=by simp [bk,hl]
   rw [this,h3];have:=ih T[i].2.1.toNat (by omega) (by omega);rw [show((T[i].2.1.toNat:Nat):Int)=T[i].2.1 by omega]at this;simp [this]
theorem yk (a b:Bs):dd (a++b)=dd a++dd b:=by simp [dd]
theorem qK {T:List aT} (h:iD T):iG (ao T) (wS T):=by
 have ml:=cD h;refine⟨⟨fun t h0 h1=>?_,fun k m hm=>?_,h.sound,fun k m hm=>?_⟩,fun i m hm=>⟨(eE h hm).1.1,(eE h hm).2.1⟩⟩
 ·obtain⟨i,rfl⟩:∃i:Nat,t=i:=⟨t.toNat,by omega⟩;have hi:i<256:=by omega
  unfold wS;rw [pe h hi];simp [dd];omega
 ·unfold wS;rw [Ek h hm,yk]
 ·obtain⟨h1,h2⟩:=eE h hm;have hk:=(List.getElem?_eq_some_iff.1 hm).1;have n1:=Aa h m.1.toNat m.1.toNat (Nat.le_refl _) (by omega);have n2:=Aa h m.2.toNat m.2.toNat (Nat.le_refl _) (by omega);rw [show((m.1.toNat:Nat):Int)=m.1 by omega]at n1;rw [show((m.2.toNat:Nat):Int)=m.2 by omega]at n2;exact⟨by simpa [wS,dd]using n1,by simpa [wS,dd]using n2⟩
def aK (s:ak) (T:List aT):Voc:=⟨ao T,wS T,cutB s.classes s.joins,s.specials.map (·.1)⟩
theorem pl {w:World} {s:ak} {T:List aT} {x:aY} {tp bp mp:Nat} (h:bW w s T x tp bp mp):(aK s T).Ok:=by
 have ml:=cD h.ok;refine⟨qK h.ok,h.nodup,fun t ht=>?_⟩;obtain⟨y,hy,rfl⟩:=List.mem_map.1 ht;have:=h.ids y hy;show 256+((ao T).length:Int)≤y.1;omega
theorem kc {T:List aT} (h:iD T) (t:Int):bu T t↔oD (ao T) t:=by
 have ml:=cD h;unfold bu oD;omega
theorem nJ {T:List aT} (h:iD T) (s:Bs):eO T s=after (ao T) (ao T).length (dd s):=by
 have ml:=cD h;unfold eO sR after;rw [show((T.length:Int)-256).toNat=(ao T).length by omega]
theorem md {cut:Int→Int→Bool}:∀l:List Int,dR cut l↔∀(j:Nat) (x y:Int),l[j]? =some x→l[j+1]? =some y→cut x y=false
 | []=>by simp [dR]
 | [x]=>by simp [dR]
 |x::y::r=>by
  simp only [dR,md (y::r)];constructor
  ·rintro⟨h1,h2⟩ j a b ha hb;cases j with
   |zero=>
    simp at ha hb;rw [←ha, ←hb];exact h1
   |succ j=>exact h2 j a b (by simpa using ha) (by simpa using hb)
  ·intro h;exact⟨h 0 x y rfl rfl,fun j a b ha hb=>h (j+1) a b (by simpa using ha) (by simpa using hb)⟩
theorem vE {cut:Int→Int→Bool} {l:List Int} (hl:l≠ []):(chop cut l).length≤1↔dR cut l:=by
 constructor
 ·intro h;obtain⟨h1,h2⟩:=g_ (cut:=cut) l
  match hc:chop cut l with
  | []=>rw [hc]at h2;exact absurd h2.symm hl
  | [p]=>
   rw [hc]at h1 h2;simp at h2;subst h2;exact h1.2
  |p::q::r=>rw [hc]at h;simp at h
 ·intro h;have:=lx (cut:=cut) [l] ⟨hl,h⟩;simp at this;rw [this];simp
theorem Au {c c':Int→Int→Bool} {l:List Int} (h:∀x∈l,∀y∈l,c x y=c' x y):dR c l↔dR c' l:=by
 rw [md,md];constructor
 ·intro k j x y hx hy;rw [←h x (List.mem_of_getElem? hx) y (List.mem_of_getElem? hy)];exact k j x y hx hy
 ·intro k j x y hx hy;rw [h x (List.mem_of_getElem? hx) y (List.mem_of_getElem? hy)];exact k j x y hx hy
theorem zc (cut:Int→Int→Bool) (b:Bs):nc cut b=true↔dR cut (dd b):=by
 unfold nc;rw [decide_eq_true_eq,md];have hget:∀j:Nat,(dd b)[j]? =(b[j]?).map fun z:UInt8=>(z.toNat:Int):=fun j=>by simp [dd]
 constructor
 ·intro h j x y hx hy;rw [hget]at hx hy;obtain⟨u,hu,rfl⟩:=Option.map_eq_some_iff.1 hx;obtain⟨v,hv,rfl⟩:=Option.map_eq_some_iff.1 hy;have hl:=(List.getElem?_eq_some_iff.1 hv).1;have:=h (j+1) hl;unfold fR at this;rw [if_neg (by omega),Nat.add_sub_cancel,hu,hv]at this;simpa using this
 ·intro h j hj;unfold fR;rw [if_neg (by omega)];cases j with
  |zero=>split<;>simp
  |succ j=>
   rw [Nat.add_sub_cancel,List.getElem?_eq_getElem hj,List.getElem?_eq_getElem (show j<b.length by omega)];have:=h j (b[j].toNat) (b[j+1].toNat) (by rw [hget,List.getElem?_eq_getElem (show j<b.length by omega)];rfl) (by rw [hget,List.getElem?_eq_getElem hj];rfl);simp [this]
theorem uu (b:Bs):∀x∈dd b,0≤x∧x<256:=by
 intro x hx;obtain⟨y,_,rfl⟩:=List.mem_map.1 hx;have:=y.toNat_lt;omega
theorem tB (V:Voc) {x y:Int} (hx:0≤x) (hy:0≤y):V.cut x y=V.cutB x y:=by
 unfold Voc.cut;rw [decide_eq_false (by omega),decide_eq_false (by omega)];rfl
theorem DD {w:World} {s:ak} {T:List aT} {x:aY} {tp bp mp:Nat} (h:bW w s T x tp bp mp) {i:Nat} (hi:bu T (i:Int)):gQ s T i=true↔(aK s T).Canon [(i:Int)]:=by
 have hT:=(kc h.ok _).1 hi;have hok:=pl h;rw [Voc.alone_iff hok (V:=aK s T) hT];have hne:wS T (i:Int)≠ []:=(hok.good.bytes hT).2;have hch:(chop (aK s T).cut ((aK s T).ex (i:Int))).length≤1↔nc (cutB s.classes s.joins) (bk T (i:Int))=true:=by
  show(chop (aK s T).cut (wS T (i:Int))).length≤1↔_;rw [vE hne,zc];exact Au fun x hx y hy=>tB _ (uu _ x hx).1 (uu _ y hy).1
 rw [hch];unfold gQ cJ;rw [Bool.and_eq_true,decide_eq_true_eq,nJ h.ok];exact Iff.rfl
theorem EJ {w:World} {s:ak} {T:List aT} {x:aY} {tp bp mp:Nat} (h:bW w s T x tp bp mp) (t:Int):cY s T t=true↔(aK s T).Has t:=by
 unfold cY Voc.Has;rw [decide_eq_true_eq,kc h.ok];exact Or.comm
theorem gh {w:World} {s:ak} {T:List aT} {x:aY} {tp bp mp:Nat} (h:bW w s T x tp bp mp) {t:Int} (ht:(aK s T).Has t):fU s T t=true↔(aK s T).Canon [t]:=by
 have hok:=pl h;unfold fU;rcases ht with ht |ht
 ·have hin:=(kc h.ok t).2 ht;have hn:t∉s.specials.map (·.1):=fun hm=>by
   have h1:256+((ao T).length:Int)≤t:=hok.above t hm;have h2:t<256+(((ao T).length:Nat):Int):=ht.2;omega
  rw [decide_eq_false hn,decide_eq_true hin];have:=DD h (i:=t.toNat) (by rw [show((t.toNat:Nat):Int)=t by have:=hin.1;omega];exact hin);rw [show((t.toNat:Nat):Int)=t by have:=hin.1;omega]at this;simpa using this
 ·have hm:t∈s.specials.map (·.1):=ht;rw [decide_eq_true hm];simp only [Bool.true_or,true_iff];exact Voc.alone_special hok ht
theorem tk {T:List aT} (h:iD T) {a:Int} (ha:bu T a):cR T a=true↔256≤a:=by
 unfold cR;rw [decide_eq_true_eq];have hlt:a.toNat<T.length:=by have:=ha.1;have:=ha.2;omega
 constructor
 ·rintro⟨_,h2⟩;rcases Int.lt_or_le a 256 with h' |h'
  ·exfalso;apply h2;have hl:a.toNat<256:=by have:=ha.1;omega
   simp [bn,E6 h hl,cA]
  ·exact h'
 ·intro h256;refine⟨ha,fun e=>?_⟩;obtain⟨h1,_,_⟩:=h.step a.toNat _ (List.getElem?_eq_getElem hlt) (by omega);simp only [bn,List.getElem?_eq_getElem hlt,Option.map_some,Option.getD_some]at e;rw [e]at h1;simp at h1
theorem mI {T:List aT} (h:iD T) {a:Int} (ha:bu T a) (h256:256≤a):∃j:Nat,a=256+(j:Int)∧(ao T)[j]? =some (bn T a):=by
 have hlt:a.toNat<T.length:=by have:=ha.1;have:=ha.2;omega
 refine⟨a.toNat-256,by omega,?_⟩;simp only [ao,List.getElem?_map,List.getElem?_drop];rw [show 256+(a.toNat-256)=a.toNat by omega,List.getElem?_eq_getElem hlt];simp [bn,hlt]
def jI (T:List aT) (a b limit:Int):Bool:=match(ao T).idxOf? (a,b)with
 |some i=>decide (((256+i:Nat):Int) <limit)
 |none=>false
theorem vH (w:World) (p tp:Nat) (T:List aT) (a b limit steps:Int) (hT:dl w tp T) (h:dK w p tp a b limit steps):
  CP 264 #[.pointer (some ⟨p,0,none⟩)] w fun e w'=>e= .returned (.bool (jI T a b limit))∧Below w.heap.size w w':=by
 refine aN (zI (some ⟨p,0,none⟩) w) ?_;intro w1 hw1;have hb1:Below w.heap.size w w1:=by subst hw1;exact aO w
 have h1:=h.on hb1;have c1:∀j,w1.cell? ⟨p,j,none⟩=_:=fun j=>aZ h1;refine af.mk _ rfl ⟨_,by simp only [aB,Nat.zero_add];exact c1 2,af.mk _ rfl ⟨a,by simp only [aB,Nat.zero_add,Nat.add_zero];exact c1 0,af.mk _ rfl ⟨b,by simp only [aB,Nat.zero_add,Nat.add_zero];exact c1 1,?_⟩⟩⟩;refine(nD w1 tp T (hT.on hb1) a b).mono ?_;rintro e w2 ⟨rfl,hb2⟩;have c2:∀j,w2.cell? ⟨p,j,none⟩=_:=fun j=>aZ (h1.on hb2);have hb:=ae hb1 hb2;unfold jI;cases hx:(ao T).idxOf? (a,b)with
 |none=>exact⟨_,_,rfl,ac.no rfl ⟨rfl,hb⟩⟩
 |some i=>exact⟨_,_,rfl,ac.yes rfl (af.mk _ rfl ⟨limit,by simp only [aB,Nat.zero_add];exact c2 3,rfl,hb⟩)⟩
theorem Ei (w:World) (B p tp:Nat) (T:List aT) (a b limit steps:Int) (hT:dl w tp T) (hok:iD T) (ht:∀w',aC p w w'→dl w' tp T) (h:dK w p tp a b limit steps) (hB:B≤p) (hs:0≤steps∧steps≤1000000) (ha:bu T a) (hb:bu T b):
  CP 265 #[.pointer (some ⟨p,0,none⟩)] w fun e w'=>∃r:Bool,e= .returned (.bool r)∧aC p w w'∧((r=true∧b<a∧256≤a∧dK w' p tp (bn T a).2 b a (steps+1))∨(r=true∧a≤b∧256≤b∧dK w' p tp a (bn T b).1 (b+1) (steps+1))∨(r=false∧a<256∧b<256∧dK w' p tp a b limit steps)):=by
 refine aN (Bp (some ⟨p,0,none⟩) w) ?_;intro w1 hw1;have hb1:Below w.heap.size w w1:=by subst hw1;exact aO w
 have h1:=h.on hb1;have t1:aC p w w1:=aC.of_below hb1;have c1:∀j,w1.cell? ⟨p,j,none⟩=_:=fun j=>aZ h1;have hmost:=hok.most;have a0:=ha.1;have a1:=ha.2;have b0:=hb.1;have b1:=hb.2;have sa:=tk hok ha;have sb:=tk hok hb;refine af.mk _ rfl ⟨a,by simp only [aB,Nat.zero_add,Nat.add_zero];exact c1 0,af.mk _ rfl ⟨b,by simp only [aB,Nat.zero_add,Nat.add_zero];exact c1 1,ac.mk (fun h0=>?_) fun h0=>?_⟩⟩
 ·have h0:=of_decide_eq_true h0;refine(uU w1 B p tp T a b limit steps (ht w1 t1) h1 hB hs (by omega)).mono ?_;rintro e w2 ⟨rfl,hw2,t2⟩;have t12:=t1.trans t2;refine⟨_,rfl,ac.mk (fun h2=>?_) fun h2=>?_⟩
  ·rw [if_pos h2]at hw2;exact⟨true,rfl,t12,.inl ⟨rfl,by omega,sa.1 h2,hw2⟩⟩
  ·rw [if_neg (by rw [h2];simp)]at hw2;have ha256:¬256≤a:=fun hh=>by rw [sa.2 hh]at h2;cases h2
   refine(ru w2 B p tp T a b limit steps (ht w2 t12) hw2 hB hs (by omega)).mono ?_;rintro e w3 ⟨rfl,hw3,t3⟩;have hsb:cR T b=false:=by
    cases hx:cR T b with
    |false=>rfl
    |true=>have:=sb.1 hx;omega
   rw [hsb]at hw3;rw [if_neg (by simp)]at hw3;exact⟨_,rfl,false,by rw [hsb],t12.trans t3,.inr (.inr ⟨rfl,by omega,by omega,hw3⟩)⟩
 ·have h0:=of_decide_eq_false h0;refine(ru w1 B p tp T a b limit steps (ht w1 t1) h1 hB hs (by omega)).mono ?_;rintro e w2 ⟨rfl,hw2,t2⟩;have t12:=t1.trans t2;refine⟨_,rfl,ac.mk (fun h2=>?_) fun h2=>?_⟩
  ·rw [if_pos h2]at hw2;exact⟨true,rfl,t12,.inr (.inl ⟨rfl,by omega,sb.1 h2,hw2⟩)⟩
  ·rw [if_neg (by rw [h2];simp)]at hw2;have hb256:¬256≤b:=fun hh=>by rw [sb.2 hh]at h2;cases h2
   refine(uU w2 B p tp T a b limit steps (ht w2 t12) hw2 hB hs (by omega)).mono ?_;rintro e w3 ⟨rfl,hw3,t3⟩;have hsa:cR T a=false:=by
    cases hx:cR T a with
    |false=>rfl
    |true=>have:=sa.1 hx;omega
   rw [hsa]at hw3;rw [if_neg (by simp)]at hw3;exact⟨_,rfl,false,by rw [hsa],t12.trans t3,.inr (.inr ⟨rfl,by omega,by omega,hw3⟩)⟩
theorem Ft (w:World) (B p tp:Nat) (T:List aT) (a b limit:Int) (hok:iD T) (ht:∀w',aC p w w'→dl w' tp T) (h:dK w p tp a b limit 0) (hB:B≤p) (ha:bu T a) (hb:bu T b) (aa:cJ (ao T) (wS T) a) (ab:cJ (ao T) (wS T) b) (la:a≤limit) (lb:b+1≤limit):
  CP 230 #[.pointer (some ⟨p,0,none⟩)] w fun e w'=>∃r:Bool,e= .returned (.bool r)∧(r=true↔jh (ao T) (wS T) a b limit)∧aC p w w':=by
 refine aN (xR (some ⟨p,0,none⟩) w) ?_;intro I hI;have hG:=qK hok;have hmost:=hok.most;have ml:=cD hok;have key:∀(n:Nat) (a' b' limit' steps:Int) (w1:World),a'.toNat+b'.toNat≤n→dK w1 p tp a' b' limit' steps→aC p w w1→bu T a'→bu T b'→cJ (ao T) (wS T) a'→cJ (ao T) (wS T) b'→a'≤limit'→b'+1≤limit'→0≤steps→steps+a'+b'≤10000→(jh (ao T) (wS T) a' b' limit'↔jh (ao T) (wS T) a b limit)→∀y2:Bool,I [.bool y2] w1:=by
  intro n;induction n using Nat.strongRecOn with
  |ind n ih=>
   intro a' b' limit' steps w1 hn h1 t1 ha' hb' aa' ab' la' lb' hs0 hs1 hF y2;have Ta:=(kc hok a').1 ha';have Tb:=(kc hok b').1 hb';refine hI y2 w1 ?_;refine(vH w1 p tp T a' b' limit' steps (ht w1 t1) h1).mono ?_;rintro e w2 ⟨rfl,hb2⟩;have h2:=h1.on hb2;have t2:=t1.trans (aC.of_below hb2);refine⟨_,rfl,ac.mk (fun h0=>?_) fun h0=>?_⟩
   ·have h0:jI T a' b' limit'=false:=by simpa using h0
    have hno:∀i:Nat,(ao T)[i]? =some (a',b')→limit'≤256+(i:Int):=by
     intro i hi;unfold jI at h0;cases hx:(ao T).idxOf? (a',b')with
     |none=>exact absurd (List.mem_of_getElem? hi) (List.idxOf?_eq_none_iff.1 hx)
     |some j=>
      rw [hx]at h0;have h0:=of_decide_eq_false h0;obtain⟨hj,he,hmin⟩:=List.findIdx?_eq_some_iff_getElem.1 hx;have hij:j≤i:=by
       rcases Nat.lt_or_ge i j with hlt |hge
       ·exfalso;have:=hmin i hlt;have hil:=(List.getElem?_eq_some_iff.1 hi);apply this;rw [hil.2];simp
       ·exact hge
      omega
    refine(Ei w2 B p tp T a' b' limit' steps (ht w2 t2) hok (fun w' tt=>ht w' (t2.trans tt)) h2 hB ⟨hs0,by have:=ha'.1;have:=hb'.1;omega⟩ ha' hb').mono ?_;rintro e w3 ⟨r,rfl,t3,hcase⟩;have t13:=t2.trans t3;refine⟨r,rfl,?_⟩;rcases hcase with⟨rfl,hba,h256,hw3⟩ |⟨rfl,hab,h256,hw3⟩ |⟨rfl,h1a,h1b,hw3⟩
    ·obtain⟨j,rfl,hm⟩:=mI hok ha' h256;have hlt:=eE hok hm;obtain⟨q1,_,_,_⟩:=fC hG hm aa';have hj:=(List.getElem?_eq_some_iff.1 hm).1;have hp:=hb'.1;refine ac.no rfl (ih _ ?_ (bn T (256+(j:Int))).2 b' (256+(j:Int)) (steps+1) w3 (Nat.le_refl _) hw3 t13 ⟨hlt.2.1,by omega⟩ hb' ?_ ab' (by omega) (by omega) (by omega) (by omega) ?_ y2)
     ·omega
     ·exact(fC hG hm aa').2.2.2
     ·rw [←hF];exact(FO hG hm Tb aa' ab' hba la' hno).symm
    ·obtain⟨j,rfl,hm⟩:=mI hok hb' h256;have hlt:=eE hok hm;have hj:=(List.getElem?_eq_some_iff.1 hm).1;have hp:=ha'.1;refine ac.no rfl (ih _ ?_ a' (bn T (256+(j:Int))).1 (256+(j:Int)+1) (steps+1) w3 (Nat.le_refl _) hw3 t13 ha' ⟨hlt.1.1,by omega⟩ aa' ?_ (by omega) (by omega) (by omega) (by omega) ?_ y2)
     ·omega
     ·exact(fC hG hm ab').2.2.1
     ·rw [←hF];exact(Dx hG hm Ta aa' ab' hab (by omega) hno).symm
    ·refine ac.yes rfl ⟨true,rfl,?_,t13⟩;rw [←hF];exact⟨fun _=>DY hG Ta Tb aa' ab' h1a h1b hno,fun _=>rfl⟩
   ·have h0:jI T a' b' limit'=true:=by simpa using h0
    refine⟨false,rfl,?_,t2⟩;rw [←hF];refine⟨(fun h=>by cases h),fun hfree=>?_⟩;unfold jI at h0;cases hx:(ao T).idxOf? (a',b')with
    |none=>rw [hx]at h0;cases h0
    |some j=>
     rw [hx]at h0;have h0:=of_decide_eq_true h0;obtain⟨hj,he,_⟩:=List.findIdx?_eq_some_iff_getElem.1 hx;exact absurd hfree (wv hG Ta Tb aa' ab' (i:=j) (by rw [List.getElem?_eq_getElem hj];congr 1;simpa using he) (by omega))
 exact key _ a b limit 0 w (Nat.le_refl _) h (aC.of_below (Below.refl _ _)) ha hb aa ab la lb (Int.le_refl _) (by have:=ha.2;have:=hb.2;omega) Iff.rfl false
theorem ug (w:World) (tp:Nat) (T:List aT) (hT:dl w tp T) (a b:Int):CP 228 #[.pointer (some ⟨tp,0,none⟩),.int .i64 a,.int .i64 b] w fun e w'=>e= .returned (.bool (decide (bu T a∧bu T b)))∧w'=w:=by
 refine aJ (A9 (some ⟨tp,0,none⟩) a b w (fun v w'=>v= .bool (decide (bu T a∧bu T b))∧w'=w) ?_) (by rintro v w' ⟨rfl,h⟩;exact⟨rfl,h⟩);have off:¬(bu T a∧bu T b)→(Value.bool false= .bool (decide (bu T a∧bu T b))∧w=w):=fun h=>⟨by rw [decide_eq_false h],rfl⟩;refine ac.mk (fun h0=>?_) fun h0=>off fun h=>?_
 ·have h0:=of_decide_eq_true h0;refine(fD w tp T hT).mono ?_;rintro e w1 ⟨rfl,hw⟩;subst hw;refine⟨_,rfl,ac.mk (fun h1=>?_) fun h1=>off fun h=>?_⟩
  ·have h1:=of_decide_eq_true h1;refine ac.mk (fun h2=>?_) fun h2=>off fun h=>?_
   ·have h2:=of_decide_eq_true h2;refine(fD w1 tp T hT).mono ?_;rintro e w2 ⟨rfl,hw⟩;subst hw;refine⟨_,rfl,?_,rfl⟩;congr 1;exact decide_eq_decide.2 ⟨fun h=>⟨⟨h0,h1⟩,h2,h⟩,fun h=>h.2.2⟩
   ·exact of_decide_eq_false h2 h.2.1
  ·exact of_decide_eq_false h1 h.1.2
 ·exact of_decide_eq_false h0 h.1.1
theorem Gb (w:World) (tp:Nat) (T:List aT) (hT:dl w tp T) (hok:iD T) (a b limit:Int) (ha:bu T a) (hb:bu T b) (aa:cJ (ao T) (wS T) a) (ab:cJ (ao T) (wS T) b) (la:a≤limit) (lb:b+1≤limit):
  CP 177 #[.pointer (some ⟨tp,0,none⟩),.int .i64 a,.int .i64 b,.int .i64 limit] w fun e w'=>∃r:Bool,e= .returned (.bool r)∧(r=true↔jh (ao T) (wS T) a b limit)∧Below w.heap.size w w':=by
 refine aN (zZ (some ⟨tp,0,none⟩) a b limit w) ?_;refine(ug w tp T hT a b).mono ?_;rintro e w1 ⟨rfl,hw⟩;subst hw;refine⟨_,rfl,ac.yes (decide_eq_true ⟨ha,hb⟩) ?_⟩;have hbegin:CP 229 #[.pointer (some ⟨tp,0,none⟩),.int .i64 a,.int .i64 b,.int .i64 limit] w1 fun e w'=>e= .returned (.pointer (some (nb w1)))∧w'=w1.alloc (.cells #[Value.int .i64 a,Value.int .i64 b,Value.pointer (some ⟨tp,0,none⟩),Value.int .i64 limit,Value.int .i64 0] KE):=by
  refine aN (xL (some ⟨tp,0,none⟩) a b limit w1) ?_;rintro w2 rfl;exact⟨rfl,rfl⟩
 refine hbegin.mono ?_;rintro e w2 ⟨rfl,hw2⟩;have hb2:Below w1.heap.size w1 w2:=by subst hw2;exact ah _ _
 have h2:dK w2 w1.heap.size tp a b limit 0:=by subst hw2;exact ap _ _
 refine⟨_,rfl,?_⟩;refine(Ft w2 w1.heap.size w1.heap.size tp T a b limit hok (fun w' t=>hT.on (hb2.trans (t.below (Nat.le_refl _) hb2.size))) h2 (Nat.le_refl _) ha hb aa ab la lb).mono ?_;rintro e w3 ⟨r,rfl,hr,t3⟩;exact⟨r,rfl,r,rfl,hr,hb2.trans (t3.below (Nat.le_refl _) hb2.size)⟩
theorem nU {w:World} {v:Nat} {c:Array Value} {tp bp mp:Nat} (h:ja w v c tp bp mp) {s:ak} {T:List aT} {x:aY} (hp:bW w s T x tp bp mp) (id:Int):CP 175 #[.pointer (some ⟨v,0,none⟩),.int .i64 id] w fun e w'=>∃r:Bool,e= .returned (.bool r)∧(r=true↔id∈s.specials.map (·.1))∧w'=w:=by
 refine aN (BV (some ⟨v,0,none⟩) id w) ?_;refine(eV h).mono ?_;rintro e w1 ⟨rfl,hw⟩;subst hw;refine⟨_,rfl,(jm w1 mp s.specials hp.marks hp.few id).mono ?_⟩;rintro e w2 ⟨rfl,hw⟩;subst hw;exact⟨_,_,rfl,_,rfl,nZ,rfl⟩
theorem Fi (b:Bs):(dd b).getLast?=b.getLast?.map fun z:UInt8=>(z.toNat:Int):=by simp [dd]
theorem F9 (b:Bs):(dd b).head?=b.head?.map fun z:UInt8=>(z.toNat:Int):=by simp [dd]
theorem pH {w:World} {v:Nat} {c:Array Value} {tp bp mp:Nat} (h:ja w v c tp bp mp) {s:ak} {T:List aT} {x:aY} (hp:bW w s T x tp bp mp) (a b:Int) (ha:(aK s T).Has a) (hb:(aK s T).Has b) (ca:(aK s T).Canon [a]) (cb:(aK s T).Canon [b]):
  CP 121 #[.pointer (some ⟨v,0,none⟩),.int .i64 a,.int .i64 b] w fun e w'=>∃r:Bool,e= .returned (.bool r)∧(r=true↔(aK s T).Pair a b)∧Below w.heap.size w w':=by
 have hok:=pl hp;refine aN (xM (some ⟨v,0,none⟩) a b w) ?_;have mark_cut:∀t:Int,t∈s.specials.map (·.1)→∃z:Int,(aK s T).items t= [z]∧z<0:=by
  intro t ht;obtain⟨i,hi,_⟩:=Voc.place_some (V:=aK s T) ht;refine⟨-1- (i:Int),?_,by omega⟩;unfold Voc.items;rw [hi]
 refine(nU h hp a).mono ?_;rintro e w1 ⟨r1,rfl,hr1,hw⟩;subst hw;refine⟨_,rfl,ac.mk (fun h0=>?_) fun h0=>?_⟩
 ·refine⟨true,rfl,⟨fun _=>?_,fun _=>rfl⟩,Below.refl _ _⟩;obtain⟨z,hz,hneg⟩:=mark_cut a (hr1.1 h0);obtain⟨y,hy⟩:∃y,((aK s T).items b).head?=some y:=by
   cases hx:(aK s T).items b with
   |nil=>exact absurd hx (Voc.items_ne hok hb)
   |cons y t=>exact⟨y,rfl⟩
  exact .inl ⟨z,y,by rw [hz];rfl,hy,by unfold Voc.cut;rw [decide_eq_true hneg];rfl⟩
 have na:a∉s.specials.map (·.1):=fun hm=>by rw [hr1.2 hm]at h0;cases h0
 refine(nU h hp b).mono ?_;rintro e w2 ⟨r2,rfl,hr2,hw⟩;subst hw;refine⟨_,rfl,ac.mk (fun h1=>?_) fun h1=>?_⟩
 ·refine⟨true,rfl,⟨fun _=>?_,fun _=>rfl⟩,Below.refl _ _⟩;obtain⟨z,hz,hneg⟩:=mark_cut b (hr2.1 h1);obtain⟨y,hy⟩:∃y,((aK s T).items a).getLast?=some y:=by
   cases hx:((aK s T).items a).getLast? with
   |none=>exact absurd (List.getLast?_eq_none_iff.1 hx) (Voc.items_ne hok ha)
   |some y=>exact⟨y,rfl⟩
  exact .inl ⟨y,z,hy,by rw [hz];rfl,by unfold Voc.cut;rw [decide_eq_true hneg];simp⟩
 have nb':b∉s.specials.map (·.1):=fun hm=>by rw [hr2.2 hm]at h1;cases h1
 have Ta:oD (ao T) a:=ha.resolve_right na;have Tb:oD (ao T) b:=hb.resolve_right nb';have ia:=(kc hp.ok a).2 Ta;have ib:=(kc hp.ok b).2 Tb;have short:∀t,bu T t→(bk T t).length≤64:=by
  intro t ht;obtain⟨y,hy,hyb⟩:=e_ ht;rw [hyb];exact hp.ok.short y (List.mem_of_getElem? hy)
 refine(eT h).mono ?_;rintro e w3 ⟨rfl,hw⟩;subst hw;refine⟨_,rfl,(jf w3 tp T hp.tab a).mono ?_⟩;rintro e w4 ⟨rfl,hw⟩;subst hw;rw [if_pos ia];refine⟨_,_,rfl,(eT h).mono ?_⟩;rintro e w5 ⟨rfl,hw⟩;subst hw;refine⟨_,rfl,(jf w5 tp T hp.tab b).mono ?_⟩;rintro e w6 ⟨rfl,hw⟩;subst hw;rw [if_pos ib];refine⟨_,_,rfl,(lF h).mono ?_⟩;rintro e w7 ⟨rfl,hw⟩;subst hw;refine⟨_,rfl,(vU w7 bp s.classes s.joins hp.bound (nt hp.right).1 (bk T a) (bk T b) (by have:=short a ia;omega)).mono ?_⟩;rintro e w8 ⟨rfl,hb8⟩;have hpair:(aK s T).Pair a b↔kX (cutB s.classes s.joins) (bk T a) (bk T b)=true∨(aK s T).Free a b:=by
  unfold Voc.Pair;rw [Voc.items_tok hok (V:=aK s T) Ta,Voc.items_tok hok (V:=aK s T) Tb];show(∃x y,(dd (bk T a)).getLast?=some x∧(dd (bk T b)).head?=some y∧(aK s T).cut x y=true)∨_↔_;rw [Fi,F9];unfold kX;cases h1:(bk T a).getLast? with
  |none=>
   simp only [Option.map_none];constructor
   ·rintro(⟨x,y,hx,_⟩ |h)
    ·cases hx
    ·exact .inr h.2.2
   ·rintro(h |h)
    ·cases h
    ·exact .inr ⟨Ta,Tb,h⟩
  |some z1=>
   cases h2:(bk T b).head? with
   |none=>
    simp only [Option.map_none];constructor
    ·rintro(⟨x,y,_,hy,_⟩ |h)
     ·cases hy
     ·exact .inr h.2.2
    ·rintro(h |h)
     ·cases h
     ·exact .inr ⟨Ta,Tb,h⟩
   |some z2=>
    simp only [Option.map_some];constructor
    ·rintro(⟨x,y,hx,hy,hc⟩ |h)
     ·cases hx;cases hy;rw [tB _ (by omega) (by omega)]at hc;exact .inl hc
     ·exact .inr h.2.2
    ·rintro(h |h)
     ·exact .inl ⟨_,_,rfl,rfl,by rw [tB _ (by omega) (by omega)];exact h⟩
     ·exact .inr ⟨Ta,Tb,h⟩
 refine⟨_,rfl,ac.mk (fun h2=>?_) fun h2=>?_⟩
 ·exact⟨true,rfl,⟨fun _=>hpair.2 (.inl h2),fun _=>rfl⟩,hb8⟩
 ·refine(eT (h.on hb8)).mono ?_;rintro e w9 ⟨rfl,hw⟩;subst hw;have hmost:=hp.ok.most;have ml:=cD hp.ok;have a1:=ia.2;have b1:=ib.2;refine⟨_,rfl,(Gb w9 tp T (hp.tab.on hb8) hp.ok a b 9223372036854775807 ia ib ((Voc.alone_iff hok (V:=aK s T) Ta).1 ca).1 ((Voc.alone_iff hok (V:=aK s T) Tb).1 cb).1 (by omega) (by omega)).mono ?_⟩;rintro e w10 ⟨r,rfl,hr,hb10⟩;refine⟨_,rfl,r,rfl,?_,ae hb8 hb10⟩;rw [hr,hpair,h2];constructor
  ·intro hf;exact .inr fun k hk hc=>hf k hk (by change k< (ao T).length at hk;omega) hc
  ·rintro(h |h)
   ·cases h
   ·exact fun k hk _ hc=>h k hk hc
def nN (V:Voc) (ids:List Int):Option Nat→Prop
 |none=>V.Canon ids
 |some k=>k<ids.length∧V.Canon (ids.take k)∧¬V.Canon (ids.take (k+1))
def HW:Option Nat→Value
 |none=>.tuple #[.int .i64 0,.bool false]
 |some k=>.tuple #[.int .i64 (k:Int),.bool true]
theorem Rw.touch {α:Type} {enc:α→List Value} {sz:Nat} {w w':World} {a:Option Addr} {xs:List α} {v:Nat} (h:Rw enc sz w a xs) (t:aC v w w') (ha:xs≠ []→∀p,a=some p→p.block≠v):Rw enc sz w' a xs:=by
 intro j x hj;obtain⟨p,rfl,hp,hc⟩:=h j x hj;refine⟨p,rfl,Nat.lt_of_lt_of_le hp t.size,fun k u hk=>?_⟩;rw [World.cell?_of_block (w:=w) (by rw [av,av];exact t.block p.block hp (ha (List.ne_nil_of_mem (List.mem_of_getElem? hj)) p rfl))];exact hc k u hk
theorem FV (V:Voc):V.Canon []:=rfl
theorem CA (w:World) (v:Nat) (s:ak) (T:List aT) (hV:aW w v s T) (A:Option Addr) (C:Nat) (ids:List Int) (hr:Rw ay 1 w A ids) (hA:ids≠ []→∀p,A=some p→p.block≠v) (hl:ids.length≤1000000000000) (hh:∀t∈ids,(aK s T).Has t):
  CP 127 #[.pointer (some ⟨v,0,none⟩),.slice A ids.length C] w fun e w'=>∃o,e= .returned (HW o)∧nN (aK s T) ids o∧aW w' v s T∧aC v w w':=by
 refine aN (xG (some ⟨v,0,none⟩) A ids.length C w) ?_;intro I hI;have key:=bj (α:=Bool×Int×World) ids.length (fun i x=>(aK s T).Canon (ids.take i)∧aW x.2.2 v s T∧aC v w x.2.2) (fun i x=>I [.int .i64 (i:Int),.bool x.1,.int .i64 x.2.1] x.2.2) (false,0,w) ⟨FV _,hV,aC.of_below (Below.refl _ _)⟩ ?_ ?_
 ·exact key
 ·rintro i hi ih ⟨y5,y4,w1⟩ ⟨hc,hV1,t1⟩;change aW w1 v s T at hV1;change aC v w w1 at t1;have hr1:=hr.touch t1 hA;obtain⟨q,hq,_,hcx⟩:=hr1 i _ (List.getElem?_eq_getElem hi);have h0:=hcx 0 _ rfl;rw [au]at h0;have hHas:=hh ids[i] (List.getElem_mem hi);have htake:ids.take (i+1)=ids.take i++ [ids[i]]:=by rw [List.take_add_one,List.getElem?_eq_getElem hi];rfl
  obtain⟨w0,x,tp,bp,mp,d,l,uses,hR⟩:=hV1;have hok:=pl hR.now;refine hI _ _ _ _ (ac.yes (by simp;omega) (af.mk q hq ⟨by omega,by omega,ids[i],h0,?_⟩));refine(kn w1 v s T ⟨w0,x,tp,bp,mp,d,l,uses,hR⟩ ids[i]).mono ?_;rintro e w2 ⟨rfl,hV2,t2⟩;have t12:=t1.trans t2;have hal:=gh hR.now hHas;have hall:∀t∈ids.take i++ [ids[i]],(aK s T).Has t:=by
   rw [←htake];intro t ht;exact hh t (List.mem_of_mem_take ht)
  refine⟨_,rfl,ac.mk (fun h1=>?_) fun h1=>?_⟩
  ·have h1:fU s T ids[i]=false:=by simpa using h1
   refine⟨some i,rfl,⟨hi,hc,fun hcc=>?_⟩,hV2,t12⟩;rw [htake]at hcc;have:=(Voc.canon_append hok hall hcc).2;rw [hal.2 this]at h1;cases h1
  ·have h1:fU s T ids[i]=true:=by simpa using h1
   have ct:=hal.1 h1;refine ac.mk (fun h2=>?_) fun h2=>?_
   ·have h2:0<i:=by have:=of_decide_eq_true h2;omega
    have hi1:i-1<ids.length:=by omega
    obtain⟨q2,hq2,_,hcx2⟩:=(hr1.touch t2 hA) (i-1) _ (List.getElem?_eq_getElem hi1);have h02:=hcx2 0 _ rfl;rw [au]at h02;have hprev:ids.take i=ids.take (i-1)++ [ids[i-1]]:=by
     have:=List.take_add_one (l:=ids) (i:=i-1);rw [show i-1+1=i by omega,List.getElem?_eq_getElem hi1]at this;exact this
    have hall2:∀t∈ids.take (i-1)++ [ids[i-1]],(aK s T).Has t:=by
     rw [←hprev];intro t ht;exact hh t (List.mem_of_mem_take ht)
    rw [hprev]at hc;have cl:=(Voc.canon_append hok hall2 hc).2;obtain⟨w0',x',tp',bp',mp',d',l',uses',hR'⟩:=hV2;refine Ar.ok64 (by omega) (by omega) (af.mk q2 hq2 ⟨by omega,by omega,ids[i-1],?_,?_⟩)
    ·rw [show((i:Int)-1).toNat=i-1 by omega];exact h02
    ·refine(pH hR'.vblk hR'.now ids[i-1] ids[i] (hh _ (List.getElem_mem hi1)) hHas cl ct).mono ?_;rintro e w3 ⟨r,rfl,hr3,hb3⟩;have t13:=t12.trans (aC.of_below hb3);have hV3:aW w3 v s T:=⟨w0',x',tp',bp',mp',d',l',uses',hR'.on hb3⟩;have hmore:=Voc.canon_more hok hall2 hc hHas;refine⟨_,rfl,ac.mk (fun h3=>?_) fun h3=>?_⟩
     ·have h3:r=false:=by simpa using h3
      refine⟨some i,rfl,⟨hi,by rw [hprev];exact hc,fun hcc=>?_⟩,hV3,t13⟩;rw [htake,hprev]at hcc;have:=(hmore.1 hcc).2;rw [hr3.2 this]at h3;cases h3
     ·have h3:r=true:=by simpa using h3
      refine Ar.ok64 (by omega) (by omega) (ih (y5,y4,w3) ⟨?_,hV3,t13⟩);rw [htake,hprev];exact hmore.2 ⟨ct,hr3.1 h3⟩
   ·have h2:i=0:=by have:=of_decide_eq_false h2;omega
    refine Ar.ok64 (by omega) (by omega) (ih (y5,y4,w2) ⟨?_,hV2,t12⟩);subst h2;rw [htake,List.take_zero,List.nil_append];exact ct
 ·rintro⟨y5,y4,w1⟩ ⟨hc,hV1,t1⟩;rw [List.take_length]at hc;exact hI _ _ _ _ (ac.no (by simp) ⟨none,rfl,hc,hV1,t1⟩)
theorem BJ (a:Option Addr) (c:Nat) (xs:List Int) (f:Value) (p:Int→Bool) (w:World) (hr:Rw ay 1 w a xs) (hl:xs.length≤1000000000000000)
  (hf:∀x∈xs,∀w1,Below w.heap.size w w1→bE gJ f [.int .i64 x] w1 (fun e w2=>e= .returned (.bool (p x))∧Below w1.heap.size w1 w2)):
  CP 85 #[.slice a xs.length c,f] w fun e w'=>e= .returned (.int .i64 (Av p xs))∧Below w.heap.size w w':=by
 refine aN (Ez a xs.length c f w) ?_;intro I hI;have key:=qd (α:=Int×World) xs.length (fun i x=>(∀j (hj:j<xs.length),j<i→p xs[j]=false)∧Below w.heap.size w x.2) (fun i x=>I [.int .i64 (i:Int),.int .i64 x.1] x.2) ?_ ?_ 0 (Nat.zero_le _) (0,w)
 ·exact key ⟨fun j _ hj=>absurd hj (Nat.not_lt_zero j),Below.refl _ _⟩
 ·rintro⟨y,w1⟩ ⟨hb,hB⟩;exact hI _ _ _ (ac.no (by simp) ⟨by rw [gI fun j hj=>hb j hj hj],hB⟩)
 ·rintro i hi ih ⟨y,w1⟩ ⟨hb,hB⟩;obtain⟨q,hq,_,hcx⟩:=(hr.on hB) i _ (List.getElem?_eq_getElem hi);refine hI _ _ _ (ac.yes (by simp;omega) (af.mk q hq ⟨by omega,by omega,xs[i],by have:=hcx 0 _ rfl;simpa [au]using this,?_⟩));refine(hf xs[i] (List.getElem_mem hi) w1 hB).mono ?_;rintro e w2 ⟨rfl,h2⟩;refine⟨_,rfl,ac.mk ?_ ?_⟩
  ·intro hp;exact⟨by rw [gH hi hp fun j hj=>hb j (by omega) hj],ae hB h2⟩
  ·intro hp;refine Ar.ok64 (by omega) (by omega) (ih (y,w2) ⟨?_,ae hB h2⟩);intro j hj hji;by_cases he:j=i
   ·subst he;exact hp
   ·exact hb j hj (by omega)
theorem aW.has_call {w:World} {v:Nat} {s:ak} {T:List aT} (h:aW w v s T) (id:Int):CP 49 #[.pointer (some ⟨v,0,none⟩),.int .i64 id] w fun e w'=>e= .returned (.bool (cY s T id))∧w'=w:=by
 obtain⟨w0,x,tp,bp,mp,d,l,uses,hR⟩:=h;exact B3 hR.vblk hR.now id
def mH (s:ak) (T:List aT) (ids:List Int):Int:=Av (fun id=> !cY s T id) ids
def dz (s:ak) (T:List aT) (ids:List Int):Int×Int:=if 4000<ids.length then(0,3)else if mH s T ids≥0 then(mH s T ids,4)else(0,0)
theorem Ci (w:World) (v:Nat) (s:ak) (T:List aT) (hV:aW w v s T) (A:Option Addr) (C:Nat) (ids:List Int) (hr:Rw ay 1 w A ids):
  CP 78 #[.pointer (some ⟨v,0,none⟩),.slice A ids.length C] w fun e w'=>e= .returned (.tuple #[.int .i64 (dz s T ids).1,.int .i64 (dz s T ids).2])∧Below w.heap.size w w':=by
 refine aN (CW (some ⟨v,0,none⟩) A ids.length C w) ?_;intro w1 hw1;have hb1:Below w.heap.size w w1:=by subst hw1;exact ah _ _
 have l1:w1.heap[w.heap.size]? =some (.cells #[.pointer (some ⟨v,0,none⟩)] 31 (0,0)):=by subst hw1;exact ap _ _
 have pc:∀ {w':World},w'.heap[w.heap.size]? =some (.cells #[.pointer (some ⟨v,0,none⟩)] 31 (0,0))→w'.cell? (nb w)=some (.pointer (some ⟨v,0,none⟩)):=fun h=>aZ h;refine⟨_,pc l1,ac.no rfl (ac.mk (fun h0=>?_) fun h0=>?_)⟩
 ·have h0:=of_decide_eq_true h0;refine⟨?_,hb1⟩;rw [dz,if_pos (by omega)]
 ·have h0:=of_decide_eq_false h0;have hz1:w.heap.size<w1.heap.size:=(Array.getElem?_eq_some_iff.1 l1).1;refine(BJ A C ids _ (fun id=> !cY s T id) w1 (hr.on hb1) (by omega) ?_).mono ?_
  ·intro id hid w2 hb2;refine bZ (by kernel_rfl) ?_;refine aN (BK id (some (nb w)) w2) ?_;refine af.mk _ rfl ⟨_,pc (aj hb2 l1),?_⟩;refine(((hV.on hb1).on hb2).has_call id).mono ?_;rintro e w3 ⟨rfl,hw⟩;subst hw;exact⟨_,rfl,rfl,Below.refl _ _⟩
  ·rintro e w2 ⟨rfl,hb2⟩;have hb:=ae hb1 hb2;refine⟨_,rfl,ac.mk (fun h1=>?_) fun h1=>?_⟩
   ·have h1:mH s T ids≥0:=of_decide_eq_true h1;refine⟨?_,hb⟩;rw [dz,if_neg (by omega),if_pos h1];rfl
   ·have h1:¬mH s T ids≥0:=of_decide_eq_false h1;refine⟨?_,hb⟩;rw [dz,if_neg (by omega),if_neg h1]
theorem rL (k:Int) (bad:Bool) (w:World):CP 79 #[.int .i64 k,.bool bad] w fun e w'=>e= .returned (.int .i64 (if bad then k else -1))∧w'=w:=by
 refine aN (CK k bad w) ?_;cases bad
 ·exact ac.yes rfl ⟨rfl,rfl⟩
 ·exact ac.no rfl ⟨rfl,rfl⟩
theorem oI (w:World) (v:Nat) (s:ak) (T:List aT) (hV:aW w v s T) (A:Option Addr) (C:Nat) (ids:List Int) (hr:Rw ay 1 w A ids) (hA:ids≠ []→∀p,A=some p→p.block≠v) (hl:ids.length≤1000000000000) (hh:∀t∈ids,(aK s T).Has t):
  CP 372 #[.agg #[.pointer (some ⟨v,0,none⟩)],.slice A ids.length C] w fun e w'=>∃o,e= .returned (HW o)∧nN (aK s T) ids o∧aW w' v s T∧aC v w w':=by
 refine aN (AL (some ⟨v,0,none⟩) A ids.length C w) ?_;intro w1 hw1;have hb1:Below w.heap.size w w1:=by subst hw1;exact ah _ _
 refine⟨_,by subst hw1;rw [aB,aV];rfl,?_⟩;refine(CA w1 v s T (hV.on hb1) A C ids (hr.on hb1) hA hl hh).mono ?_;rintro e w2 ⟨o,rfl,ho,hV2,t2⟩;have t:=(aC.of_below (v:=v) hb1).trans t2;cases o with
 |none=>exact⟨0,false,rfl,none,rfl,ho,hV2,t⟩
 |some k=>exact⟨(k:Int),true,rfl,some k,rfl,ho,hV2,t⟩
abbrev wG (v:Option Addr):Value:=.iface 144 (.agg #[.pointer v])
theorem BI (v:Addr) (A:Option Addr) (N C:Nat) (w:World):(callMethod (wG (some v)) "First" #[.slice A N C]).run Tryz.prog w= .ok (.enter 372 #[.agg #[.pointer (some v)],.slice A N C]) w:=by kernel_rfl
def Dr:Option Nat→Int
 |none=> -1
 |some k=>(k:Int)
theorem mP {s:ak} {T:List aT} {ids:List Int} (h:¬mH s T ids≥0):∀t∈ids,cY s T t=true:=by
 intro t ht;unfold mH Av at h;cases hx:ids.findIdx? (fun id=> !cY s T id)with
 |some i=>rw [hx]at h;exact absurd (show((i:Nat):Int)≥0 by omega) h
 |none=>
  have:=List.findIdx?_eq_none_iff.1 hx t ht;simpa using this
theorem DM (w:World) (v:Nat) (s:ak) (T:List aT) (hV:aW w v s T) (A:Option Addr) (C:Nat) (ids:List Int) (hr:Rw ay 1 w A ids) (hA:ids≠ []→∀p,A=some p→p.block≠v):
  CP 22 #[.pointer (some ⟨v,0,none⟩),.slice A ids.length C] w fun e w'=>aW w' v s T∧aC v w w'∧((dz s T ids).2≠0∧e= .returned (.tuple #[.int .i64 (dz s T ids).1,.int .i64 (dz s T ids).2])∨((dz s T ids).2=0∧(∀t∈ids,cY s T t=true)∧∃o,nN (aK s T) ids o∧e= .returned (.tuple #[.int .i64 (Dr o),.int .i64 0]))):=by
 have hVI:=hV;have hby:CP 24 #[.pointer (some ⟨v,0,none⟩),wG (some ⟨v,0,none⟩),.slice A ids.length C] w fun e w'=>∃(r1 r2:Int),e= .returned (.tuple #[.int .i64 r1,.int .i64 r2])∧aW w' v s T∧aC v w w'∧((dz s T ids).2≠0∧r1=(dz s T ids).1∧r2=(dz s T ids).2∨((dz s T ids).2=0∧(∀t∈ids,cY s T t=true)∧∃o,nN (aK s T) ids o∧r1=Dr o∧r2=0)):=by
  refine aN (Du (some ⟨v,0,none⟩) (wG (some ⟨v,0,none⟩)) A ids.length C w) ?_;refine(Ci w v s T hV A C ids hr).mono ?_;rintro e w1 ⟨rfl,hb1⟩;refine⟨_,_,rfl,ac.mk (fun h0=>?_) fun h0=>?_⟩
  ·have h0:(dz s T ids).2≠0:=by simpa using h0
   exact⟨_,_,rfl,hV.on hb1,aC.of_below hb1,.inl ⟨h0,rfl,rfl⟩⟩
  ·have h0:(dz s T ids).2=0:=by simpa using h0
   have hsplit:ids.length≤4000∧¬mH s T ids≥0:=by
    unfold dz at h0;split at h0
    ·cases h0
    ·split at h0
     ·cases h0
     ·exact⟨by omega,by assumption⟩
   have hall:=mP hsplit.2;refine⟨false,w1,by kernel_rfl,ac.no rfl ⟨_,_,BI ⟨v,0,none⟩ A ids.length C w1,?_⟩⟩;have hhas:∀t∈ids,(aK s T).Has t:=by
    obtain⟨w0,x,tp,bp,mp,d,l,uses,hR⟩:=hVI;intro t ht;exact(EJ hR.now t).1 (hall t ht)
   refine(oI w1 v s T (hV.on hb1) A C ids (hr.on hb1) hA (by omega) hhas).mono ?_;rintro e w2 ⟨o,rfl,ho,hV2,t2⟩;have t:=(aC.of_below (v:=v) hb1).trans t2;cases o with
   |none=>
    refine⟨0,false,rfl,(rL 0 false w2).mono ?_⟩;rintro e w3 ⟨rfl,hw⟩;subst hw;exact⟨_,rfl,_,_,rfl,hV2,t,.inr ⟨h0,hall,none,ho,rfl,rfl⟩⟩
   |some k=>
    refine⟨(k:Int),true,rfl,(rL (k:Int) true w2).mono ?_⟩;rintro e w3 ⟨rfl,hw⟩;subst hw;exact⟨_,rfl,_,_,rfl,hV2,t,.inr ⟨h0,hall,some k,ho,rfl,rfl⟩⟩
 have:=Cm (some ⟨v,0,none⟩) A ids.length C w (fun u w'=>aW w' v s T∧aC v w w'∧((dz s T ids).2≠0∧u= .tuple #[.int .i64 (dz s T ids).1,.int .i64 (dz s T ids).2]∨((dz s T ids).2=0∧(∀t∈ids,cY s T t=true)∧∃o,nN (aK s T) ids o∧u= .tuple #[.int .i64 (Dr o),.int .i64 0]))) (by
  refine hby.mono ?_;rintro e w1 ⟨r1,r2,rfl,h1,h2,h3⟩;refine⟨_,_,rfl,h1,h2,?_⟩;rcases h3 with⟨ha,rfl,rfl⟩ |⟨ha,hb,o,ho,rfl,rfl⟩
  ·exact .inl ⟨ha,rfl⟩
  ·exact .inr ⟨ha,hb,o,ho,rfl⟩)
 refine this.mono ?_;rintro e w' ⟨u,rfl,h1,h2,h3⟩;refine⟨h1,h2,?_⟩;rcases h3 with⟨ha,rfl⟩ |⟨ha,hb,o,ho,rfl⟩
 ·exact .inl ⟨ha,rfl⟩
 ·exact .inr ⟨ha,hb,o,ho,rfl⟩
instance (V:Voc) (ids:List Int):Decidable (V.Canon ids):=inferInstanceAs (Decidable (V.encode (V.itemsAll ids)=ids))
end Go.Proofs.YtijbcdiffjjefaaGreatDoor.Eng
