/- Vocabularies: what they are, and how they are made, walked by the engine. -/
import Derived.Test.YtijbcdiffjjefaaGreatDoorZwHp
import Derived.Laws.MakeOwn
import Derived.Tactics
import Derived.Tactics2
import Derived.Defers
import Derived.Laws.Pointers
import Derived.Laws.LoneSync
import Derived.RegionTactic
import Derived.RegionCalls
import Derived.ChangeAlike
import Derived.Test.YtijbcdiffjjefaaGreatDoorZwMk
set_option linter.unusedVariables false
set_option linter.unusedSimpArgs false
set_option maxRecDepth 100000
namespace Go.Proofs.YtijbcdiffjjefaaGreatDoor.Eng
open Go Go.RowKit
abbrev dJ:TypeId:=186
abbrev bW:TypeId:=4
def gZ (s:am) (T:List aX) (i:Nat):Bool:=decide (fD T (bj T (i:Int))= [(i:Int)])&&nD (cutB s.classes s.joins) (bj T (i:Int))
def fw (s:am) (T:List aX):List Bool:=(List.range T.length).map (gZ s T)
def da (b:Bool):List Value:=[.bool b]
structure bZ (w:World) (s:am) (T:List aX) (x:bk) (tp bp mp:Nat):Prop where
 spec:cY w x s
 tab:dx w tp T
 ok:fo T
 bound:so w bp s.classes s.joins
 marks:ni w mp s.specials
 right:s.right=true
 ids:∀y∈s.specials,(T.length:Int)≤y.1
 nodup:(s.specials.map (·.1)).Nodup
theorem bZ.on {w w':World} {s:am} {T:List aX} {x:bk} {tp bp mp:Nat} (h:bZ w s T x tp bp mp) (hb:ZH w w'):bZ w' s T x tp bp mp:=
 ⟨h.spec.on hb,h.tab.on hb,h.ok,h.bound.on hb,h.marks.on hb,h.right,h.ids,h.nodup⟩
abbrev iL (x:bk) (tp bp mp:Nat) (d:Int) (l:Sl) (uses:Int):Array Value:=#[.bool x.ranked,x.s1.v,x.s2.v,x.s3.v,x.s4.v,x.s5.v,.pointer (some ⟨tp,0,none⟩),.pointer (some ⟨bp,0,none⟩),.pointer (some ⟨mp,0,none⟩),.int .u32 d,.int .i32 0,.int .u32 0,l.v,.int .i64 uses]
structure ff (w:World) (v:Nat) (s:am) (T:List aX) (w0:World) (x:bk) (tp bp mp:Nat) (d:Int) (l:Sl) (uses:Int):Prop where
 parts:bZ w0 s T x tp bp mp
 below:ZH w0 w
 lt:w0.heap.size≤v
 blk:w.heap[v]? =some (.cells (iL x tp bp mp d l uses) dJ (0,0))
 once:(d=0∧l=⟨none,0,0⟩)∨(d=1∧l.n=T.length∧w.ownsRow (v+1) bW 1 l.v l.n ((fw s T).flatMap da))
def aW (w:World) (v:Nat) (s:am) (T:List aX):Prop:=∃w0 x tp bp mp d l uses,ff w v s T w0 x tp bp mp d l uses
theorem ff.on {w w':World} {v:Nat} {s:am} {T:List aX} {w0:World} {x:bk} {tp bp mp:Nat} {d:Int} {l:Sl} {uses:Int} (h:ff w v s T w0 x tp bp mp d l uses) (hb:ZH w w'):ff w' v s T w0 x tp bp mp d l uses:=
 ⟨h.parts,h.below.trans (hb.mono h.below.size),h.lt,aj hb h.blk,h.once.imp id fun⟨a,b,c⟩=>⟨a,b,aE c hb⟩⟩
theorem aW.on {w w':World} {v:Nat} {s:am} {T:List aX} (h:aW w v s T) (hb:ZH w w'):aW w' v s T:=by
 obtain⟨f,x,e,b,c,d,l,a,h⟩:=h;exact⟨f,x,e,b,c,d,l,a,h.on hb⟩
theorem ff.now {w:World} {v:Nat} {s:am} {T:List aX} {w0:World} {x:bk} {tp bp mp:Nat} {d:Int} {l:Sl} {uses:Int} (h:ff w v s T w0 x tp bp mp d l uses):bZ w s T x tp bp mp:=h.parts.on h.below
structure aD (v:Nat) (w w':World):Prop where
 os:w'.os=w.os
 tape:w'.tape=w.tape
 output:w'.output=w.output
 size:w.heap.size≤w'.heap.size
 block:∀k,k<w.heap.size→k≠v→w'.heap[k]? =w.heap[k]?
theorem aD.of_below {v:Nat} {w w':World} (h:ZH w w'):aD v w w':=⟨h.os,h.tape,h.output,h.size,fun k hk _=>h.block k hk⟩
theorem aD.trans {v:Nat} {a b c:World} (h:aD v a b) (k:aD v b c):aD v a c:=
 ⟨k.os.trans h.os,k.tape.trans h.tape,k.output.trans h.output,XW h.size k.size,fun i hi hv=>(k.block i (Nat.lt_of_lt_of_le hi h.size) hv).trans (h.block i hi hv)⟩
theorem aD.below {v B:Nat} {a b:World} (h:aD v a b) (hv:B≤v) (hB:B≤a.heap.size):Below B a b:=⟨h.os,h.tape,h.output,h.size,fun k hk=>h.block k (by omega) (by omega)⟩
theorem aD.held {v:Nat} {a b:World} (h:aD v a b) {k:Nat} (hk:k≠v) {o:Obj} (ho:a.heap[k]? =some o):b.heap[k]? =some o:=by
 rw [h.block k (XY.1 ho).1 hk,ho]
theorem aD.own {v:Nat} {a b:World} (h:aD v a b) {B:Nat} {e:TypeId} {sz n:Nat} {u:Value} {xs:List Value} (ho:a.ownsRow B e sz u n xs) (hne:u.ownBlock≠some v):b.ownsRow B e sz u n xs:=
 aN ho fun k hk=>h.block k (bL ho k hk).2 fun e=>hne (by rw [hk,e])
theorem wR (w:World) (cb:Nat) (tp:Nat) (T:List aX) (hT:dx w tp T) (y:Int×Bs) (hcb:cb<w.heap.size) (hc:w.cell? ⟨cb,0,none⟩=some (.pointer (some ⟨tp,0,none⟩))):
  CP 133 #[.agg #[.int .i64 y.1,.string (str y.2)],.pointer (some ⟨cb,0,none⟩)] w fun e w'=>e= .returned (.bool (decide (y.1< (T.length:Int))))∧ZH w w':=by
 refine aV (AA y.1 (str y.2) (some ⟨cb,0,none⟩) w) ?_;intro h c f d;have a:ZH w f:=by subst d;subst c;exact(ah _ _).drew
 have b:f.heap[w.heap.size]? =some (.cells #[.int .i64 y.1,.string (str y.2)] nH (0,0)):=by subst d;subst c;exact aq _ _
 refine⟨_,ai _ _ b 0,ag.mk _ rfl ⟨_,by rw [a.cell hcb];exact hc,?_⟩⟩;refine(fO f tp T (hT.on a)).mono ?_;rintro e i ⟨rfl,g⟩;subst g;exact⟨_,rfl,⟨ai _ _ b 0,trivial⟩,rfl,a⟩
def dk (s:am):Except (Int×Nat×Int) (List aX):=match qC s with
 | .error q=>.error (1,q.1,q.2)
 | .ok T=>match cr [] 0 s.specials with
  |some q=>.error (2,q.1,q.2)
  |none=>match s.specials.findIdx? (fun y=>decide (y.1< (T.length:Int)))with
   |some i=>.error (2,i,4)
   |none=>.ok T
def Oz (w:World) (s:am) (v:Value) (w':World):Prop:=ZH w w'∧match dk s with
 | .error q=>v= .tuple #[.pointer none,.int .i64 q.1,.int .i64 q.2.1,.int .i64 q.2.2]∧q.2.2≠0
 | .ok T=>∃p,v= .tuple #[.pointer (some ⟨p,0,none⟩),.int .i64 0,.int .i64 0,.int .i64 0]∧aW w' p s T∧w.heap.size≤p
def ka (B:Nat) (w':World) (p:Nat) (s:am) (T:List aX):Prop:=∃w0 x tp bp mp,ff w' p s T w0 x tp bp mp 0 ⟨none,0,0⟩ 0∧B≤p∧gP B w' x s
def nj (w:World) (s:am) (v:Value) (w':World):Prop:=ZH w w'∧match dk s with
 | .error q=>v= .tuple #[.pointer none,.int .i64 q.1,.int .i64 q.2.1,.int .i64 q.2.2]∧q.2.2≠0
 | .ok T=>∃p,v= .tuple #[.pointer (some ⟨p,0,none⟩),.int .i64 0,.int .i64 0,.int .i64 0]∧ka w.heap.size w' p s T
theorem ka.voc {B:Nat} {w':World} {p:Nat} {s:am} {T:List aX} (h:ka B w' p s T):aW w' p s T∧B≤p:=by
 obtain⟨f,x,e,a,d,b,c,_⟩:=h;exact⟨⟨f,x,e,a,d,0,_,0,b⟩,c⟩
theorem ka.base {B B':Nat} {w:World} {p:Nat} {s:am} {T:List aX} (h:ka B w p s T) (hB:B'≤B):ka B' w p s T:=by
 obtain⟨g,x,f,a,e,b,d,c⟩:=h;exact⟨g,x,f,a,e,b,XW hB d,c.base hB⟩
theorem uh {xs:List (Int×Bs)}:∀ {ys:List (Int×Bs)} {i:Nat} {q:Nat×Int},cr ys i xs=some q→q.2≠0:=by
 induction xs with
 |nil=>intro ys i q h;cases h
 |cons x xs ih=>
  intro ys i q h;rw [cr]at h;split at h
  ·exact ih h
  ·rename_i a;cases h;exact a
theorem mH {xs:List (Int×Bs)}:∀ {ys:List (Int×Bs)} {i:Nat},cr ys i xs=none→(ys.map (·.1)).Nodup→((ys++xs).map (·.1)).Nodup:=by
 induction xs with
 |nil=>intro ys i _ h;rw [List.append_nil];exact h
 |cons x xs ih=>
  intro ys i h g;rw [cr]at h;split at h
  ·rename_i c;have:=ih h (by
    rw [List.map_append,List.nodup_append];refine⟨g,by simp,fun a f b d=>?_⟩;simp at d;subst d;rintro rfl;unfold cP at c;split at c
    ·omega
    ·split at c
     ·omega
     ·split at c
      ·omega
      ·rename_i e;exact e (.inl f))
   simpa using this
  ·cases h
theorem nJ {s:am} (h:s.right=true):(∀c∈s.classes,bh c=true)∧(∀j∈s.joins,cO j=true)∧(∀t∈s.tokens,t.length≤100000):=by
 obtain⟨_,_,a,_,b,d⟩:=iU h;simp only [cF,Bool.and_eq_true,List.all_eq_true]at a b d;refine⟨b.2,d.2,fun t e=>?_⟩;have:=XQ (by simpa [gK]using a.2 t e:decide _=true);omega
theorem qu (w:World) (x:bk) (s:am) (h:cY w x s) (hright:s.right=true):
  CP 91 #[x.v] w fun e w'=>∃v,e= .returned v∧nj w s v w':=by
 refine FO x.ranked x.s1.a x.s1.n x.s1.c x.s2.a x.s2.n x.s2.c x.s3.a x.s3.n x.s3.c x.s4.a x.s4.n x.s4.c x.s5.a x.s5.n x.s5.c w (nj w s) ?_;intro V G;have J:=dz hright;obtain⟨aa,ab,ad⟩:=nJ hright;have P:ZH w V:=by subst G;exact ah _ _
 have hz1:V.heap.size=w.heap.size+1:=by subst G;exact aK _ _
 have p1:V.heap[w.heap.size]? =some (.cells x.cells dp (0,0)):=by subst G;exact aq _ _
 have h1:=h.on P;refine⟨_,_,_,_,_,_,_,_,_,_,_,_,_,_,_,_,dX p1,?_⟩;refine(GS V x s h1 J ad).mono ?_;rintro e f ⟨v,rfl,E,b⟩;have z:=ae P E;have p2:=aj E p1;have hz2:=E.size;have o:∀(Q:Option Addr) (d p:World),d=f.alloc (.cells #[Value.pointer none] 100)→p=d.setCell (nb f) (.pointer Q)→p.heap[f.heap.size]? =some (.cells #[.pointer Q] 100 (0,0))∧ZH f p:=by
  intro Q d p a n;have X:d.heap[f.heap.size]? =some (.cells #[Value.pointer none] 100 (0,0)):=by subst a;exact aq _ _
  have b3:ZH f d:=by subst a;exact ah _ _
  have hp:=bu (j:=0) X (.pointer Q);have N:=bv (j:=0) b3 (XV _) (.pointer Q);rw [aC]at hp N;subst n;exact⟨hp,N⟩
 have C:∀(d:World),d=f.alloc (.cells #[Value.pointer none] 100)→(∃u,d.cell? (nb f)=some u)∧d.frozen? (nb f)=false:=by
  intro d a;subst a;have X:=aq f (.cells #[Value.pointer none] 100);refine⟨⟨.pointer none,by rw [bn];rfl⟩,cd X⟩
 have g:∀(q:Int×Nat×Int) (w':World),dk s= .error q→q.2.2≠0→ZH w w'→nj w s (.tuple #[.pointer none,.int .i64 q.1,.int .i64 q.2.1,.int .i64 q.2.2]) w':=by
  intro q w' U t hb;refine⟨hb,?_⟩;rw [U];exact⟨rfl,t⟩
 cases hl:qC s with
 |error q=>
  rw [hl]at b;obtain⟨rfl,U⟩:=b;refine⟨_,_,_,rfl,?_⟩;intro d a;obtain⟨u3,Z⟩:=C d a;refine⟨rfl,u3,Z,?_⟩;intro p n;obtain⟨R,H⟩:=o none d p a n;refine ac.yes (by simpa using U) ?_;exact g (1,q.1,q.2) p (by rw [dk,hl]) U (ae z H)
 |ok T=>
  rw [hl]at b;obtain⟨K,rfl,hT,a6⟩:=b;refine⟨_,_,_,rfl,?_⟩;intro d a;obtain⟨u3,Z⟩:=C d a;refine⟨rfl,u3,Z,?_⟩;intro p n;obtain⟨R,H⟩:=o (some ⟨K,0,none⟩) d p a n;have k:=ae z H;have hz4:=H.size;have p4:=aj H p2;have O:=hT.on H;have h4:=h.on k;refine ac.no rfl ⟨_,_,_,by rw [ai _ _ p4];rfl,?_⟩;have hM:=wg p x.s3.a x.s3.c s.specials h4.r3 (by have:=J.2.2.1;omega);rw [←h.n3]at hM;refine hM.mono ?_;rintro e w5 ⟨v,rfl,I,c⟩;have l:=ae k I;have p5:=aj I p4;cases hm:cr [] 0 s.specials with
  |some q=>
   rw [hm]at c;subst c;have t:=uh hm;refine⟨_,_,_,rfl,ac.yes (by simpa using t) ?_⟩;exact g (2,q.1,q.2) w5 (by rw [dk,hl];simp only [hm]) t l
  |none=>
   rw [hm]at c;obtain⟨mp,hv,a1⟩:=c;subst hv;refine⟨_,_,_,rfl,ac.no rfl ⟨_,_,_,by rw [ai _ _ p5];rfl,?_⟩⟩;have hI:=qF x.s3.a x.s3.c s.specials (.func (.func 133) #[] #[.pointer (some (nb f))]) (fun y=>decide (y.1< (T.length:Int))) w5 (h.on l).r3 (by have:=J.2.2.1;omega) (by
    intro y hy W F;refine b_ (by kernel_rfl) ?_;refine(wR W f.heap.size K T ((O.on I).on F) y (by have:=I.size;have:=F.size;have:=(XY.1 R).1;omega) ?_);have:=ai _ _ (aj F (aj I R)) 0;rw [aC]at this;exact this)
   rw [←h.n3]at hI;refine hI.mono ?_;rintro e W ⟨rfl,S⟩;have A:=ae l S;have p6:=aj S p5;refine⟨_,rfl,?_⟩;unfold vy;cases hi:s.specials.findIdx? (fun y=>decide (y.1< (T.length:Int)))with
   |some i=>
    refine ac.yes (by simp) ?_;exact g (2,i,4) W (by rw [dk,hl];simp only [hm,hi]) (show(4:Int)≠0 by decide) A
   |none=>
    refine ac.no (by simp) ?_;have h6:=h.on A;have hB:=uT W x.s4.a x.s5.a x.s4.c x.s5.c s.classes s.joins h6.r4 h6.r5 J.2.2.2.1 J.2.2.2.2 aa ab;rw [←h.n4, ←h.n5]at hB;refine⟨_,_,_,by rw [ai _ _ p6];rfl,_,_,_,by rw [ai _ _ p6];rfl,?_⟩;refine hB.mono ?_;rintro e w7 ⟨N,rfl,a0,b7,_⟩;refine⟨_,_,rfl,ac.no rfl ?_⟩;intro w8 a7;have Y:ZH w7 w8:=by subst a7;exact aU w7
    have r:ZH p w8:=ae I (ae S (ae b7 Y));have p8:=aj r p4;have a8:=aj r R;have m:=ae k r;have B:∀ {w':World},w'.heap[f.heap.size]? =some (.cells #[.pointer (some ⟨K,0,none⟩)] 100 (0,0))→w'.cell? (nb f)=some (.pointer (some ⟨K,0,none⟩)):=fun hh=>by
     have:=ai _ _ hh 0;rw [aC]at this;exact this
    refine⟨_,_,_,_,_,_,_,_,_,_,_,_,_,_,_,_,dX p8,_,B a8,?_⟩;refine(wz w8 x s (h.on m) J).mono ?_;rintro e w9 ⟨x',rfl,a9,M,a5⟩;refine⟨_,_,_,_,_,_,_,_,_,_,_,_,_,_,_,_,rfl,⟨B (aj M a8),trivial⟩,?_⟩;rintro w10 rfl;have D:=ah w9 (.cells (iL x' K N mp 0 ⟨none,0,0⟩ 0) dJ);have L:=ae m M;refine⟨ae L D,?_⟩;have a2:dk s= .ok T:=by rw [dk,hl];simp only [hm,hi]
    rw [a2];refine⟨w9.heap.size,rfl,w9,x',K,N,mp,⟨⟨a9,?_,a6,?_,?_,hright,?_,?_⟩,D,XV _,aq _ _,.inl ⟨rfl,rfl⟩⟩,L.size,(a5.base m.size).on D⟩
    ·exact(O.on r).on M
    ·exact(a0.on Y).on M
    ·exact((((a1.is).on S).on b7).on Y).on M
    ·intro y hy;have:=List.findIdx?_eq_none_iff.1 hi y hy;have:=XX this;omega
    ·have:=mH (ys:=[]) hm (by simp);simpa using this
def Kl (w:World) (s:am) (v:Value) (w':World):Prop:=ZH w w'∧if s.right=true then(match dk s with
 | .error q=>v= .tuple #[.pointer none,.int .i64 q.2.1,.int .i64 q.2.2]∧q.2.2≠0
 | .ok T=>∃p,v= .tuple #[.pointer (some ⟨p,0,none⟩),.int .i64 0,.int .i64 0]∧aW w' p s T∧w.heap.size≤p)else v= .tuple #[.pointer none,.int .i64 0,.int .i64 1]
def vG (w:World) (s:am) (v:Value) (w':World):Prop:=ZH w w'∧if s.right=true then(match dk s with
 | .error q=>v= .tuple #[.pointer none,.int .i64 q.2.1,.int .i64 q.2.2]∧q.2.2≠0
 | .ok T=>∃p,v= .tuple #[.pointer (some ⟨p,0,none⟩),.int .i64 0,.int .i64 0]∧ka w.heap.size w' p s T)else v= .tuple #[.pointer none,.int .i64 0,.int .i64 1]
theorem tr (w:World) (x:bk) (s:am) (h:cY w x s):
  CP 37 #[x.v] w fun e w'=>∃v,e= .returned v∧vG w s v w':=by
 refine Fz x.ranked x.s1.a x.s1.n x.s1.c x.s2.a x.s2.n x.s2.c x.s3.a x.s3.n x.s3.c x.s4.a x.s4.n x.s4.c x.s5.a x.s5.n x.s5.c w (vG w s) ?_;intro i f;have c:ZH w i:=by subst f;exact ah _ _
 have k:i.heap[w.heap.size]? =some (.cells x.cells dp (0,0)):=by subst f;exact aq _ _
 have m:=h.on c;refine⟨_,_,_,_,_,_,_,_,_,_,_,_,_,_,_,_,dX k,?_⟩;refine(un x s i m).mono ?_;rintro e t ⟨rfl,j⟩;have b:=ae c j;refine⟨_,rfl,ac.mk (fun a=>?_) fun a=>?_⟩
 ·have a:s.right=false:=by simpa using a
  refine⟨b,?_⟩;rw [if_neg (by rw [a];simp)]
 ·have a:s.right=true:=by simpa using a
  have r:=aj j k;refine⟨_,_,_,_,_,_,_,_,_,_,_,_,_,_,_,_,dX r,?_⟩;refine(qu t x s (h.on b) a).mono ?_;rintro e u ⟨v,rfl,l,g⟩;have d:=ae b l;cases hx:dk s with
  |error q=>
   rw [hx]at g;obtain⟨rfl,o⟩:=g;refine⟨_,_,_,_,rfl,d,?_⟩;rw [if_pos a,hx];exact⟨rfl,o⟩
  |ok T=>
   rw [hx]at g;obtain⟨p,rfl,n⟩:=g;refine⟨_,_,_,_,rfl,d,?_⟩;rw [if_pos a,hx];exact⟨p,rfl,n.base b.size⟩
theorem uA (w:World) (x:bk) (s:am) (h:cY w x s):
  CP 37 #[x.v] w fun e w'=>∃v,e= .returned v∧Kl w s v w':=by
 refine(tr w x s h).mono fun e w' ⟨v,f,d,a⟩=>⟨v,f,d,?_⟩;split at a
 ·rename_i b;rw [if_pos b];cases hx:dk s with
  |error q=>rw [hx]at a;exact a
  |ok T=>
   rw [hx]at a;obtain⟨p,g,c⟩:=a;exact⟨p,g,c.voc⟩
 ·rename_i b;rw [if_neg b];exact a
structure iv (w:World) (v:Nat) (c:Array Value) (tp bp mp:Nat):Prop where
 blk:w.heap[v]? =some (.cells c dJ (0,0))
 size:c.size=14
 c6:c[6]? =some (.pointer (some ⟨tp,0,none⟩))
 c7:c[7]? =some (.pointer (some ⟨bp,0,none⟩))
 c8:c[8]? =some (.pointer (some ⟨mp,0,none⟩))
theorem ff.vblk {w:World} {v:Nat} {s:am} {T:List aX} {w0:World} {x:bk} {tp bp mp:Nat} {d:Int} {l:Sl} {uses:Int} (h:ff w v s T w0 x tp bp mp d l uses):iv w v (iL x tp bp mp d l uses) tp bp mp:=⟨h.blk,rfl,rfl,rfl,rfl⟩
theorem iv.on {w w':World} {v:Nat} {c:Array Value} {tp bp mp:Nat} (h:iv w v c tp bp mp) (hb:ZH w w'):iv w' v c tp bp mp:=⟨aj hb h.blk,h.size,h.c6,h.c7,h.c8⟩
theorem kD (w:World) (v:Nat) {c:Array Value} (h:w.heap[v]? =some (.cells c dJ (0,0))) (a b:Nat):w.cell? (((⟨v,0,none⟩:Addr).add a).add b)=c[a+b]? :=by rw [Addr.add_add];exact ai _ _ h _
theorem fh {w:World} {v:Nat} {c:Array Value} {tp bp mp:Nat} (h:iv w v c tp bp mp):CP 54 #[.pointer (some ⟨v,0,none⟩)] w fun e w'=>e= .returned (.pointer (some ⟨tp,0,none⟩))∧w'=w:=by
 refine aV (E_ (some ⟨v,0,none⟩) w) ?_;exact ac.no rfl (ag.mk _ rfl ⟨_,by rw [kD w v h.blk];exact h.c6,rfl,rfl⟩)
theorem lE {w:World} {v:Nat} {c:Array Value} {tp bp mp:Nat} (h:iv w v c tp bp mp):CP 55 #[.pointer (some ⟨v,0,none⟩)] w fun e w'=>e= .returned (.pointer (some ⟨bp,0,none⟩))∧w'=w:=by
 refine aV (DR (some ⟨v,0,none⟩) w) ?_;exact ac.no rfl (ag.mk _ rfl ⟨_,by rw [kD w v h.blk];exact h.c7,rfl,rfl⟩)
theorem eD {w:World} {v:Nat} {c:Array Value} {tp bp mp:Nat} (h:iv w v c tp bp mp):CP 56 #[.pointer (some ⟨v,0,none⟩)] w fun e w'=>e= .returned (.pointer (some ⟨mp,0,none⟩))∧w'=w:=by
 refine aV (D6 (some ⟨v,0,none⟩) w) ?_;exact ac.no rfl (ag.mk _ rfl ⟨_,by rw [kD w v h.blk];exact h.c8,rfl,rfl⟩)
theorem kA {w:World} {v:Nat} {c:Array Value} {tp bp mp:Nat} (h:iv w v c tp bp mp) {T:List aX} (hT:dx w tp T):CP 50 #[.pointer (some ⟨v,0,none⟩)] w fun e w'=>e= .returned (.int .i64 T.length)∧w'=w:=by
 refine aV (DI (some ⟨v,0,none⟩) w) ?_;refine(fh h).mono ?_;rintro e b ⟨rfl,a⟩;subst a;refine⟨_,rfl,(fO b tp T hT).mono ?_⟩;rintro e d ⟨rfl,a⟩;subst a;exact⟨_,rfl,rfl,rfl⟩
theorem bZ.few {w:World} {s:am} {T:List aX} {x:bk} {tp bp mp:Nat} (h:bZ w s T x tp bp mp):s.specials.length≤1000000:=(dz h.right).2.2.1
def bY (s:am) (T:List aX) (id:Int):Bool:=decide (id∈s.specials.map (·.1)∨bH T id)
theorem Bu {w:World} {v:Nat} {c:Array Value} {tp bp mp:Nat} (h:iv w v c tp bp mp) {s:am} {T:List aX} {x:bk} (hp:bZ w s T x tp bp mp) (id:Int):CP 49 #[.pointer (some ⟨v,0,none⟩),.int .i64 id] w fun e w'=>e= .returned (.bool (bY s T id))∧w'=w:=by
 refine aJ (Ey (some ⟨v,0,none⟩) id w (fun u w'=>u= .bool (bY s T id)∧w'=w) ?_) (by rintro v w' ⟨rfl,h⟩;exact⟨rfl,h⟩);refine(eD h).mono ?_;rintro e i ⟨rfl,d⟩;subst d;refine⟨_,rfl,(gM i mp s.specials hp.marks hp.few id).mono ?_⟩;rintro e j ⟨rfl,d⟩;subst d;have f:(fA s.specials id).isSome=true↔id∈s.specials.map (·.1):=kr;refine⟨_,_,rfl,ac.mk (fun b=>?_) fun b=>ac.mk (fun a=>?_) fun a=>?_⟩
 ·refine⟨?_,rfl⟩;rw [bY,XJ (.inl (f.1 b))]
 ·have a:=XQ a;refine(kA h hp.tab).mono ?_;rintro e k ⟨rfl,d⟩;subst d;refine⟨_,rfl,?_,rfl⟩;congr 1;have g:id∉s.specials.map (·.1):=fun h=>by rw [f.2 h]at b;cases b
  unfold bY;exact decide_eq_decide.2 ⟨fun h=>.inr ⟨a,h⟩,fun h=>h.elim (fun h=>absurd h g) fun h=>h.2⟩
 ·have a:=XX a;have g:id∉s.specials.map (·.1):=fun h=>by rw [f.2 h]at b;cases b
  refine⟨?_,rfl⟩;rw [bY,XZ (fun h=>h.elim (fun h=>g h) fun h=>a h.1)]
theorem CY:∃i,Tryz.prog.info? bW=some i∧i.zero=some (.bool false)∧i.size=1∧i.bytes=1:=by
 have h:(Tryz.prog.info? bW).map (fun i=>(i.zero,i.size,i.bytes))=some (some (.bool false),1,1):=by kernel_rfl
 obtain⟨i,b,a⟩:=Option.map_eq_some_iff.1 h;simp only [Prod.mk.injEq]at a;exact⟨i,b,a.1,a.2.1,a.2.2⟩
theorem mD (w:World) (n:Nat) (hn:n≤1000000):(Instr.makeSlice 117 (.int .i64 n) (.int .i64 n)).run Tryz.prog w= .ok (.slice (some (nb w)) n n) (w.alloc (.cells (Array.replicate n (.bool false)) bW)):=by
 obtain⟨i,b,d,c,a⟩:=CY;have:=Go.run_make (P:=Tryz.prog) w 117 bW i (.bool false) (by kernel_rfl) b d .i64 .i64 (n:Int) (n:Int) (by omega) (Int.le_refl _) (by rw [a];omega) (by omega);rw [this];congr 3;rw [c];apply Array.ext
 ·rw [size_madeCells];simp
 ·intro j e f;simp only [madeCells,Array.getElem_map,Array.getElem_range,Array.getElem_replicate];show(#[Value.bool false]:Array Value)[j%1]! =_;rw [Nat.mod_one];rfl
theorem dK (s:am) (T:List aX):(fw s T).length=T.length:=by simp [fw]
theorem sW (s:am) (T:List aX) {i:Nat} (hi:i<T.length):(fw s T)[i]'(by rw [dK];exact hi)=gZ s T i:=by simp [fw]
def fT (s:am) (T:List aX) (i:Nat):List Bool:=(fw s T).take i++List.replicate (T.length-i) false
theorem uB (s:am) (T:List aX) (i:Nat) (hi:i≤T.length):(fT s T i).length=T.length:=by
 simp [fT,dK];omega
theorem Eu (s:am) (T:List aX) (i:Nat) (hi:i<T.length):(fT s T i).set i (gZ s T i)=fT s T (i+1):=by
 have a:((fw s T).take i).length=i:=by simp [dK];omega
 have b:(fw s T).take (i+1)=(fw s T).take i++ [gZ s T i]:=by
  rw [List.take_add_one,XK (by rw [dK];exact hi),sW s T hi];rfl
 unfold fT;rw [List.set_append_right _ _ (by omega),a,Nat.sub_self,b,show T.length-i=(T.length- (i+1))+1 by omega,List.replicate_succ,List.set_cons_zero];simp
theorem Gz (w w0:World) (v:Nat) (c:Array Value) (tp bp mp:Nat) (h:iv w v c tp bp mp) (s:am) (T:List aX) (x:bk) (hp:bZ w0 s T x tp bp mp) (h0:ZH w0 w) (hv:w0.heap.size≤v):
  CP 108 #[.pointer (some ⟨v,0,none⟩)] w fun e w'=>e= .returned (.tuple #[])∧∃l:Sl,w'.heap[v]? =some (.cells (c.setIfInBounds 12 l.v) dJ (0,0))∧l.n=T.length∧w'.ownsRow w.heap.size bW 1 l.v l.n ((fw s T).flatMap da)∧aD v w w':=by
 refine aV (B4 (some ⟨v,0,none⟩) w) ?_;have hpn:=hp.on h0;refine(kA h hpn.tab).mono ?_;rintro e d ⟨rfl,hw⟩;subst hw;have hmost:=hp.ok.most;have hvl:v<d.heap.size:=(XY.1 h.blk).1;refine⟨_,rfl,some (nb d),T.length,T.length,_,mD d T.length (by omega),?_⟩;have Y:=ah d (.cells (Array.replicate T.length (.bool false)) bW);have o:=aj Y h.blk;have hz2:(d.alloc (.cells (Array.replicate T.length (Value.bool false)) bW)).heap.size=d.heap.size+1:=aK _ _;have P:(d.alloc (.cells (Array.replicate T.length (.bool false)) bW)).ownsRow d.heap.size bW 1 (.slice (some (nb d)) T.length T.length) T.length ((fT s T 0).flatMap da):=by
  have hf:(fT s T 0).flatMap da=List.replicate T.length (.bool false):=by
   simp [fT,da,List.flatMap_replicate]
  rw [hf];refine⟨by simp,.inr ⟨d.heap.size,T.length,_,rfl,XV _,aq _ _,XV _,by unfold maxLen;omega,by simp,by simp⟩⟩
 refine ag.mk _ rfl ⟨rfl,⟨_,by rw [kD _ v o,Array.getElem?_eq_getElem (by rw [h.size];decide)]⟩,by rw [Addr.add_add];exact bc o,?_⟩;intro w3 D;rw [Addr.add_add]at D;have r:w3.heap[v]? =some (.cells (c.setIfInBounds 12 (.slice (some (nb d)) T.length T.length)) dJ (0,0)):=by subst D;exact bu o _
 have ht3:aD v d w3:=by
  refine(aD.of_below Y).trans ?_;subst D;exact⟨rfl,rfl,rfl,by rw [ba];exact XV _,fun k _ hk=>ar (by rw [ay];exact hk)⟩
 have Q:w3.ownsRow d.heap.size bW 1 (.slice (some (nb d)) T.length T.length) T.length ((fT s T 0).flatMap da):=by
  subst D;exact bw P _ (by rw [ay];intro e;have:=Option.some.inj e;simp at this;omega)
 have hz3:w3.heap.size=d.heap.size+1:=by subst D;rw [ba];exact hz2
 have L:∀ {w':World},w'.heap[v]? =some (.cells (c.setIfInBounds 12 (.slice (some (nb d)) T.length T.length)) dJ (0,0))→w'.cell? (((⟨v,0,none⟩:Addr).add 9).add 3)=some (.slice (some (nb d)) T.length T.length):=fun hh=>by
  rw [kD _ v hh,Array.getElem?_setIfInBounds_self_of_lt (by rw [h.size];decide)]
 have gk:∀ {w':World},w'.heap[v]? =some (.cells (c.setIfInBounds 12 (.slice (some (nb d)) T.length T.length)) dJ (0,0))→iv w' v (c.setIfInBounds 12 (.slice (some (nb d)) T.length T.length)) tp bp mp:=fun hh=>⟨hh,by simp [h.size],by rw [Array.getElem?_setIfInBounds_ne (by decide)];exact h.c6,by rw [Array.getElem?_setIfInBounds_ne (by decide)];exact h.c7,by rw [Array.getElem?_setIfInBounds_ne (by decide)];exact h.c8⟩;refine ag.mk _ rfl ⟨_,_,_,L r,?_⟩;intro I hI;have key:=aZ (α:=World) T.length (fun i w'=>w'.heap[v]? =some (.cells (c.setIfInBounds 12 (.slice (some (nb d)) T.length T.length)) dJ (0,0))∧w'.ownsRow d.heap.size bW 1 (.slice (some (nb d)) T.length T.length) T.length ((fT s T i).flatMap da)∧aD v d w') (fun i w'=>I [.int .i64 (i:Int)] w') w3 ⟨r,Q,ht3⟩ ?_ ?_
 ·exact key
 ·rintro i hi ih w4 ⟨g,n,F⟩;have hB4:ZH w0 w4:=h0.trans (F.below hv h0.size);have V:=hp.on hB4;have a1:bH T (i:Int):=⟨by omega,by omega⟩;refine hI _ _ (ac.yes (by simp;omega) (ag.mk _ rfl ⟨_,by rw [kD _ v g];exact(gk g).c6,?_⟩));refine(gQ w4 tp T V.tab (i:Int)).mono ?_;rintro e w5 ⟨rfl,hw⟩;subst hw;rw [if_pos a1];have hshort:(bj T (i:Int)).length≤64:=by
   obtain⟨y,hy,hyb⟩:=ee a1;rw [hyb];exact hp.ok.short y (List.mem_of_getElem? hy)
  refine⟨_,_,rfl,ag.mk _ rfl ⟨_,by rw [kD _ v g];exact(gk g).c6,?_⟩⟩;refine(lG w5 tp T V.tab hp.ok.sound hp.ok.pos (bj T (i:Int)) (by omega)).mono ?_;rintro e w6 ⟨A,N,C,rfl,R,J,hB6⟩;refine⟨A,N,C,rfl,?_⟩;intro X a2;have E:ZH w5 X:=by subst a2;exact hB6.drew
  have m:=aj E g;have S:=aE n E;have B:X.ownsRow w5.heap.size aT 1 (.slice A N C) N ((fD T (bj T (i:Int))).flatMap an):=by subst a2;exact eA R
  have ht7:=F.trans (aD.of_below E);have K:∀(b:Bool) (W:World),b=gZ s T i→ZH X W→
    ag (some (nb d)) (fun p=>
         (0:Int)≤(i:Int)∧(i:Int) < ((T.length:Nat):Int)∧
         (Value.bool b).oneCell'=true∧(∃u,W.cell? (p.add ((i:Int).toNat*1))=some u)∧W.frozen? (p.add ((i:Int).toNat*1))=false∧
         ∀w9:World,w9=(W.setCell (p.add ((i:Int).toNat*1)) (Value.bool b))→
         Ar .i64 ((i:Int)+1) (fun a3=>I [Value.int .i64 a3] w9)):=by
   intro b W hb q;have O:=aj q m;have U:=aE S q;have a0:(fT s T i)[i]? =some false:=by
    unfold fT;have hl:((fw s T).take i).length=i:=by simp [dK];omega
    rw [List.getElem?_append_right (by omega),hl,Nat.sub_self,List.getElem?_replicate,if_pos (by omega)]
   obtain⟨u,f,k⟩:=gD (l:=⟨some (nb d),T.length,T.length⟩) (enc:=da) (sz:=1) (fun _=>rfl) (by decide) U (uB s T i (by omega)).symm rfl a0 (k:=0) (by decide) b (.bool b) rfl;rw [aC]at u f k;refine ag.mk _ rfl ⟨by omega,by omega,rfl,u,f,?_⟩;intro w9 G;obtain⟨r9,s9,z9,b9⟩:=k w9 G;refine Ar.ok64 (by omega) (by omega) (ih w9 ⟨?_,?_,?_⟩)
   ·rw [s9 v (by intro e;have:=Option.some.inj e;simp at this;omega)];exact O
   ·rw [hb,Eu s T i hi]at r9;exact r9
   ·have t8:=ht7.trans (aD.of_below q);have hbb:=b9 d.heap.size d (XV _);have ob:(Value.slice (some (nb d)) T.length T.length).ownBlock=some d.heap.size:=rfl;refine⟨?_,?_,?_,by rw [z9];exact t8.size,fun j hj hjv=>?_⟩
    ·subst G;exact t8.os
    ·subst G;exact t8.tape
    ·subst G;exact t8.output
    ·rw [s9 j (by rw [show(Sl.v ⟨some (nb d),T.length,T.length⟩).ownBlock=some d.heap.size from rfl];intro e;have:=Option.some.inj e;omega),t8.block j hj hjv]
  refine ag.mk _ rfl ⟨_,_,_,L m,ac.mk (fun H=>?_) fun H=>?_⟩
  ·have H:N=1:=by have:((N:Nat):Int)=1:=by simpa using H
                  omega
   rw [H]at J
   match hx:fD T (bj T (i:Int))with
   | []=>rw [hx]at J;simp at J
   |y::z::t=>rw [hx]at J;simp at J
   | [y]=>
    rw [hx]at B;obtain⟨a,ha,hc⟩:=lM (l:=⟨A,N,C⟩) (enc:=an) (sz:=1) (fun _=>rfl) (by decide) B (i:=0) (x:=y) rfl;have Z:=hc 0 _ rfl;rw [aC]at Z;refine ag.mk a ha ⟨Int.le_refl _,by omega,y,Z,ac.mk (fun M=>?_) fun M=>?_⟩
    ·have M:y=(i:Int):=by simpa using M
     refine ag.mk _ rfl ⟨_,by rw [kD _ v m];exact(gk m).c7,?_⟩;refine(Dy X bp s.classes s.joins (V.on E).bound (nJ hp.right).1 (bj T (i:Int)) (by omega)).mono ?_;rintro e W ⟨rfl,q⟩;refine⟨_,rfl,⟨L (aj q m),trivial⟩,K _ W ?_ q⟩;unfold gZ;rw [hx,M];simp
    ·have M:y≠(i:Int):=by simpa using M
     refine K false X ?_ (Below.refl _ _);unfold gZ;rw [hx];simp [M]
  ·have H:N≠1:=by intro e;rw [e]at H;simp at H
   refine K false X ?_ (Below.refl _ _);unfold gZ;rw [XZ (fun e=>by rw [e]at J;simp at J;exact H J)];rfl
 ·rintro w4 ⟨g,n,F⟩;refine hI _ _ (ac.no (by simp) ⟨rfl,⟨some (nb d),T.length,T.length⟩,g,rfl,?_,F⟩);have:fT s T T.length=fw s T:=by
   unfold fT;rw [Nat.sub_self,List.replicate_zero,List.append_nil,List.take_of_length_le (by rw [dK];exact XV _)]
  rw [this]at n;exact n
theorem oM (w:World):(callFunc 271 #[]).run Tryz.prog w= .ok (.value (.tuple #[])) w:=run_call_mark0 Tryz.func271 (by kernel_rfl) (by kernel_rfl) (by kernel_rfl) .disable (by kernel_rfl) w
theorem qz (w:World):(callFunc 273 #[]).run Tryz.prog w= .ok (.value (.tuple #[])) w:=run_call_mark0 Tryz.func273 (by kernel_rfl) (by kernel_rfl) (by kernel_rfl) .enable (by kernel_rfl) w
theorem wL (a:Addr) (w:World):(callFunc 274 #[.pointer (some a)]).run Tryz.prog w= .ok (.value (.tuple #[])) w:=run_call_marked Tryz.func274 (by kernel_rfl) (by kernel_rfl) (by kernel_rfl) .acquire (by kernel_rfl) a w
theorem oE (a:Addr) (w:World):(callFunc 276 #[.pointer (some a)]).run Tryz.prog w= .ok (.value (.tuple #[])) w:=run_call_marked Tryz.func276 (by kernel_rfl) (by kernel_rfl) (by kernel_rfl) .releaseMerge (by kernel_rfl) a w
theorem kM (a:Addr) (n:Int) (w:World) (hc:w.cell? a=some (.int .i64 n)) (hz:w.frozen? a=false):
  CP 105 #[.pointer (some a),.int .i64 1] w fun e w'=>e= .returned (.int .i64 (IntKind.i64.wrap (n+1)))∧w'=w.setCell a (.int .i64 (IntKind.i64.wrap (n+1))):=by
 have b:=run_call_add (P:=Tryz.prog) Tryz.func159 (by kernel_rfl) (by kernel_rfl) (by kernel_rfl) .i64 (by kernel_rfl) (y:=1) (s:=IntKind.i64.wrap (n+1)) hc hz (by simp [go_sem])
 go_enter Tryz.func105,Tryz.ntmps105
 go_wp2
 go_ret
 exact⟨congrArg (fun z:Int=>Ending.returned (Value.int .i64 z)) (by unfold wrap64;exact(IntKind.wrap_i64 _).symm),congrArg (fun z:Int=>w.setCell a (Value.int .i64 z)) (by unfold wrap64;exact(IntKind.wrap_i64 _).symm)⟩
theorem tZ (a:Addr) (n:Int) (w:World) (hc:w.cell? a=some (.int .i64 n)) (hz:w.frozen? a=false):
  CP 105 #[.pointer (some a),.int .i64 1] w fun e w'=>∃m:Int,e= .returned (.int .i64 m)∧w'=w.setCell a (.int .i64 m):=
 (kM a n w hc hz).mono fun _ _ ⟨h1,h2⟩=>⟨_,h1,h2⟩
theorem uo (a:Addr) (x:Value) (u:FrameMode) (w:World) (hc:w.cell? a=some x) (hz:w.frozen? a=false):
  CallsD Tryz.prog 209 #[.pointer (some a),.bool true] u w fun e u' w'=>u'=u∧(e= .returned (.tuple #[])∧w'=w.drew.setCell a (.int .u32 1)):=by
 have b:w.drew.cell? a=some x:=by go_simp
 have c:w.drew.frozen? a=false:=by go_simp
 have d:=run_call_store (P:=Tryz.prog) Tryz.func249 (by kernel_rfl) (by kernel_rfl) (by kernel_rfl) (by kernel_rfl) (k:=.u32) (y:=1) b c
 go_enter_d Tryz.func209,Tryz.ntmps209
 go_wp2
 go_region_calls
 all_goals (go_end0;exact⟨rfl,rfl⟩)
theorem qe (a:Addr) (u:FrameMode) (w:World) (hc:w.cell? a=some (.int .i32 1)) (hz:w.frozen? a=false):
  CallsD Tryz.prog 208 #[.pointer (some a)] u w fun e u' w'=>u'=u∧(e= .returned (.tuple #[])∧w'=w.setCell a (.int .i32 0)):=by
 have d:=oM;have f:=qz;have g:=oE;have b:=run_call_add (P:=Tryz.prog) Tryz.func277 (by kernel_rfl) (by kernel_rfl) (by kernel_rfl) .i32 (by kernel_rfl) (y:= -1) (s:=0) hc hz (by simp [go_sem];rfl);have c:=run_convert_to_unsafe (P:=Tryz.prog) (src:=347) (dst:=351) Tryz.underlying347 Tryz.underlying351 (by kernel_rfl) hc
 go_enter_d Tryz.func208,Tryz.ntmps208
 go_wp2
 go_end0
 go_wp2
 go_end0
 exact⟨rfl,rfl⟩
theorem ve (a:Addr) (w:World) (hc:w.cell? a=some (.int .i32 0)) (hz:w.frozen? a=false):
  CP 207 #[.pointer (some a)] w fun e w'=>e= .returned (.tuple #[])∧w'=w.setCell a (.int .i32 1):=by
 have g:=oM;have h:=qz;have f:=wL;have c:=run_call_cas_hit (P:=Tryz.prog) Tryz.func272 (by kernel_rfl) (by kernel_rfl) (by kernel_rfl) .i32 (by kernel_rfl) (y:=1) hc hz;have b:(w.setCell a (.int .i32 1)).cell? a=some (.int .i32 1):=World.cell?_setCell_same w a _ hc;have d:=run_convert_to_unsafe (P:=Tryz.prog) (src:=347) (dst:=351) Tryz.underlying347 Tryz.underlying351 (by kernel_rfl) b
 go_enter Tryz.func207,Tryz.ntmps207
 go_wp2
 first |go_end0 |(simp only [Exit.inBlock,Exit.then];refine bodyPost_ret (results_none rfl _ _ _) rfl ?_) |refine bodyPost_ret (results_none rfl _ _ _) rfl ?_
 go_wp2
 go_end0
 exact⟨rfl,rfl⟩
set_option maxHeartbeats 1600000 in
theorem Hm (v:Nat) (w:World) (K:World→Prop)
  (hfind:CP 108 #[.pointer (some ⟨v,0,none⟩)] (w.setCell ⟨v,10,none⟩ (.int .i32 1)) fun e w'=>e= .returned (.tuple #[])∧K w')
  (hK:∀w',K w'→w'.cell? ⟨v,9,none⟩=some (.int .u32 0)∧w'.frozen? ⟨v,9,none⟩=false∧w'.cell? ⟨v,10,none⟩=some (.int .i32 1)∧w'.frozen? ⟨v,10,none⟩=false)
  (h0:w.cell? ⟨v,9,none⟩=some (.int .u32 0)) (h1:w.cell? ⟨v,10,none⟩=some (.int .i32 0)) (f0:w.frozen? ⟨v,9,none⟩=false) (f1:w.frozen? ⟨v,10,none⟩=false):
  CP 162 #[.pointer (some ⟨v,9,none⟩),.func (.func 108) #[.pointer (some ⟨v,0,none⟩)] #[]] w fun e w'=>e= .returned (.tuple #[])∧∃w2,K w2∧w'=(w2.drew.setCell ⟨v,9,none⟩ (.int .u32 1)).setCell ⟨v,10,none⟩ (.int .i32 0):=by
 have l:=run_call_load (P:=Tryz.prog) Tryz.func206 (by kernel_rfl) (by kernel_rfl) (by kernel_rfl) .u32 (by kernel_rfl) (w:=w.setCell ⟨v,10,none⟩ (.int .i32 1)) (a:=⟨v,9,none⟩) (x:=0) ((World.cell?_setCell_other _ ⟨v,10,none⟩ ⟨v,9,none⟩ _ (by simp)).trans h0);have d:∀(x:Bool) (w:World),(Op.unary .not (.bool x)).run Tryz.prog w= .ok (.bool (!x)) w:=fun _ _=>rfl
 go_enter_defers Tryz.func162,Tryz.ntmps162
 go_wp2_with (go_at_call 207;refine(ve ⟨v,10,none⟩ _ (by go_simp) (by go_simp)).mono ?_;rintro e w' ⟨rfl,rfl⟩)
 go_wp2_with (first |(go_at_call 108;refine hfind.mono ?_;rintro e w' ⟨rfl,c⟩) |go_in)
 obtain⟨g,h,i,j⟩:=hK _ c;refine leaves_cons (f:=209) (args:=#[.pointer (some ⟨v,9,none⟩),.bool true]) (by simp) (by simp [go_sem]) ?_;refine(uo ⟨v,9,none⟩ (.int .u32 0) .returning _ g h).mono ?_;rintro e k b ⟨rfl,rfl,rfl⟩;refine leaves_cons (f:=208) (args:=#[.pointer (some ⟨v,10,none⟩)]) (by simp [settle]) (by simp [go_sem]) ?_;refine(qe ⟨v,10,none⟩ _ _ ?_ ?_).mono ?_
 ·refine(World.cell?_setCell_other _ ⟨v,9,none⟩ ⟨v,10,none⟩ _ (by simp)).trans ?_;rw [World.cell?_drew];exact i
 ·simp [j]
 rintro e k b ⟨rfl,rfl,rfl⟩;simp [Leaves,settle,results,Tryz.results162];exact⟨_,c,rfl⟩
set_option maxHeartbeats 1600000 in
theorem LW (v:Nat) (w:World) (K:World→Prop)
  (hfind:CP 108 #[.pointer (some ⟨v,0,none⟩)] (w.setCell ⟨v,10,none⟩ (.int .i32 1)) fun e w'=>e= .returned (.tuple #[])∧K w')
  (hK:∀w',K w'→w'.cell? ⟨v,9,none⟩=some (.int .u32 0)∧w'.frozen? ⟨v,9,none⟩=false∧w'.cell? ⟨v,10,none⟩=some (.int .i32 1)∧w'.frozen? ⟨v,10,none⟩=false)
  (h0:w.cell? ⟨v,9,none⟩=some (.int .u32 0)) (h1:w.cell? ⟨v,10,none⟩=some (.int .i32 0)) (f0:w.frozen? ⟨v,9,none⟩=false) (f1:w.frozen? ⟨v,10,none⟩=false):
  CP 107 #[.pointer (some ⟨v,9,none⟩),.func (.func 108) #[.pointer (some ⟨v,0,none⟩)] #[]] w fun e w'=>e= .returned (.tuple #[])∧∃w2,K w2∧w'=(w2.drew.setCell ⟨v,9,none⟩ (.int .u32 1)).setCell ⟨v,10,none⟩ (.int .i32 0):=by
 have c:=run_call_load (P:=Tryz.prog) Tryz.func206 (by kernel_rfl) (by kernel_rfl) (by kernel_rfl) .u32 (by kernel_rfl) h0;have a:∀(x:Bool) (w:World),(Op.unary .not (.bool x)).run Tryz.prog w= .ok (.bool (!x)) w:=fun _ _=>rfl
 go_enter Tryz.func107,Tryz.ntmps107
 go_wp2_with (first |(go_at_call 162;refine(Hm v w K hfind hK h0 h1 f0 f1).mono ?_;rintro e w' ⟨rfl,b⟩) |(go_at_call 161;go_in))
 go_end0
 exact⟨rfl,b⟩
theorem vl (a:Addr) (d:Int) (hd:¬d=0) (fv:Value) (w:World) (h0:w.cell? a=some (.int .u32 d)):
  CP 107 #[.pointer (some a),fv] w fun e w'=>e= .returned (.tuple #[])∧w'=w:=by
 have f:=run_call_load (P:=Tryz.prog) Tryz.func206 (by kernel_rfl) (by kernel_rfl) (by kernel_rfl) .u32 (by kernel_rfl) h0;have b:∀(x:Bool) (w:World),(Op.unary .not (.bool x)).run Tryz.prog w= .ok (.bool (!x)) w:=fun _ _=>rfl;have c:(d != 0)=true:=by simp [hd]
 go_enter Tryz.func107,Tryz.ntmps107
 go_wp2
 go_end0
 exact⟨rfl,rfl⟩
def fQ (s:am) (T:List aX) (id:Int):Bool:=decide (id∈s.specials.map (·.1))||(decide (bH T id)&&gZ s T id.toNat)
theorem Jn {w w0:World} {v:Nat} {c:Array Value} (h:w.heap[v]? =some (.cells c dJ (0,0))) (hb:ZH w0 w) (hv:w0.heap.size≤v) (j:Nat) (u:Value):
  (w.setCell ⟨v,j,none⟩ u).heap[v]? =some (.cells (c.setIfInBounds j u) dJ (0,0))∧Below w0.heap.size w0 (w.setCell ⟨v,j,none⟩ u)∧aD v w (w.setCell ⟨v,j,none⟩ u):=
 ⟨cf h u,hb.setCell (p:=⟨v,j,none⟩) hv u,⟨rfl,rfl,rfl,by rw [ba];exact XV _,fun k _ hk=>ar hk⟩⟩
theorem jU (w:World) (v:Nat) (s:am) (T:List aX) (h:aW w v s T) (id:Int):
  CP 43 #[.pointer (some ⟨v,0,none⟩),.int .i64 id] w fun e w'=>e= .returned (.bool (fQ s T id))∧aW w' v s T∧aD v w w':=by
 obtain⟨I,x,y,t,o,d,l,Y,g⟩:=h;refine aJ (EA (some ⟨v,0,none⟩) id w (fun u w'=>u= .bool (fQ s T id)∧aW w' v s T∧aD v w w') ?_) (by rintro v w' ⟨rfl,h⟩;exact⟨rfl,h⟩);refine ac.no rfl (ag.mk _ rfl ?_);have e13:(⟨v,0,none⟩:Addr).add 13=⟨v,13,none⟩:=by rw [aG,Nat.zero_add]
 have e9:((⟨v,0,none⟩:Addr).add 9).add 0=⟨v,9,none⟩:=by rw [aG,aG]
 have k:∀ {w':World} {c:Array Value},w'.heap[v]? =some (.cells c dJ (0,0))→∀j,w'.cell? ⟨v,j,none⟩=c[j]? :=fun h j=>aQ h;have K:∀ {w':World} {c:Array Value},w'.heap[v]? =some (.cells c dJ (0,0))→∀j,w'.frozen? ⟨v,j,none⟩=false:=fun h j=>cd h;rw [e13];refine(tZ ⟨v,13,none⟩ Y w (k g.blk 13) (K g.blk 13)).mono ?_;rintro e w1 ⟨m,rfl,hw1⟩;obtain⟨n,o1,X⟩:=Jn g.blk g.below g.lt 13 (.int .i64 m);rw [←hw1]at n o1 X;have n:w1.heap[v]? =some (.cells (iL x y t o d l m) dJ (0,0)):=n;have A:ff w1 v s T I x y t o d l m:=⟨g.parts,o1,g.lt,n,g.once.imp (fun h=>h) fun⟨p,q,r⟩=>⟨p,q,X.own r fun e=>by have:=(bL r _ e).1;omega⟩⟩;refine⟨m,rfl,ag.mk _ rfl ⟨_,by rw [kD _ v n];rfl,?_⟩⟩;have Q:=A.now;refine(gM w1 o s.specials Q.marks Q.few id).mono ?_;rintro e F ⟨rfl,hw⟩;subst hw;have hm:(fA s.specials id).isSome=true↔id∈s.specials.map (·.1):=kr;refine⟨_,_,rfl,ac.mk (fun Z=>?_) fun Z=>?_⟩
 ·refine⟨?_,⟨I,x,y,t,o,d,l,m,A⟩,X⟩;rw [fQ,XJ (hm.1 Z)];rfl
 have O:id∉s.specials.map (·.1):=fun h=>by rw [hm.2 h]at Z;cases Z
 refine ag.mk _ rfl ?_;rw [e9];have E:∀(f:World) (C:Sl),ff f v s T I x y t o 1 C m→aD v w f→
   ac (decide ((id:Int)≥0))
     (ag (some ⟨v,0,none⟩) (fun U=>
      ∃lA:Option Addr,∃lN:Nat,∃lC:Nat,f.cell? ((U.add 9).add 3)=some (Value.slice lA lN lC)∧
      ac (decide ((id:Int) < ((lN:Nat):Int)))
       (ag (some ⟨v,0,none⟩) (fun V=>
        ∃lA_5:Option Addr,∃lN_6:Nat,∃lC_7:Nat,f.cell? ((V.add 9).add 3)=some (Value.slice lA_5 lN_6 lC_7)∧
        ag lA_5 (fun W=>
        (0:Int)≤id∧id< ((lN_6:Nat):Int)∧
        ∃b:Bool,f.cell? (W.add ((id:Int).toNat*1))=some (Value.bool b)∧
        (Value.bool b= .bool (fQ s T id)∧aW f v s T∧aD v w f))))
       (Value.bool false= .bool (fQ s T id)∧aW f v s T∧aD v w f)))
     (Value.bool false= .bool (fQ s T id)∧aW f v s T∧aD v w f):=by
  intro f C H t3;have L:aW f v s T:=⟨I,x,y,t,o,1,C,m,H⟩;obtain⟨hln,D⟩:C.n=T.length∧f.ownsRow (v+1) bW 1 C.v C.n ((fw s T).flatMap da):=by
   rcases H.once with⟨h,_⟩ |⟨_,z,G⟩
   ·cases h
   ·exact⟨z,G⟩
  have S:¬bH T id→(Value.bool false= .bool (fQ s T id)∧aW f v s T∧aD v w f):=fun hn=>⟨by rw [fQ,XZ O,XZ hn];rfl,L,t3⟩;have J:f.cell? (((⟨v,0,none⟩:Addr).add 9).add 3)=some (.slice C.a C.n C.c):=by rw [kD _ v H.blk];rfl
  refine ac.mk (fun z=>?_) fun z=>S fun h=>?_
  ·have z:=XQ z;refine ag.mk _ rfl ⟨_,_,_,J,ac.mk (fun G=>?_) fun G=>S fun h=>?_⟩
   ·have G:=XQ G;have hin:bH T id:=⟨z,by omega⟩;have N:id.toNat<T.length:=by omega
    obtain⟨a,ha,hc⟩:=lM (enc:=da) (sz:=1) (fun _=>rfl) (by decide) D (i:=id.toNat) (x:=gZ s T id.toNat) (by rw [XK (by rw [dK];exact N),sW s T N]);have M:=hc 0 _ rfl;rw [aC]at M;refine ag.mk _ rfl ⟨_,_,_,J,ag.mk a ha ⟨z,by omega,_,M,?_,L,t3⟩⟩;rw [fQ,XZ O,XJ hin];simp
   ·have G:=XX G;have:=h.2;omega
  ·have z:=XX z;have:=h.1;omega
 rcases A.once with⟨rfl,rfl⟩ |⟨rfl,hln,D⟩
 ·-- for the first time
  obtain⟨b2,o2,t2⟩:=Jn n o1 g.lt 10 (.int .i32 1);have hvb:iv (F.setCell ⟨v,10,none⟩ (.int .i32 1)) v ((iL x y t o 0 ⟨none,0,0⟩ m).setIfInBounds 10 (.int .i32 1)) y t o:=⟨b2,rfl,rfl,rfl,rfl⟩;have hz2:(F.setCell ⟨v,10,none⟩ (.int .i32 1)).heap.size=F.heap.size:=ba _ _ _;have hvl:v<F.heap.size:=(XY.1 n).1;refine(LW v F (fun w'=>∃l:Sl,w'.heap[v]? =some (.cells (((iL x y t o 0 ⟨none,0,0⟩ m).setIfInBounds 10 (.int .i32 1)).setIfInBounds 12 l.v) dJ (0,0))∧l.n=T.length∧w'.ownsRow (F.setCell ⟨v,10,none⟩ (.int .i32 1)).heap.size bW 1 l.v l.n ((fw s T).flatMap da)∧aD v (F.setCell ⟨v,10,none⟩ (.int .i32 1)) w') (Gz _ I v _ y t o hvb s T x g.parts o2 g.lt) ?_ (k n 9) (k n 10) (K n 9) (K n 10)).mono ?_
  ·rintro w' ⟨l',B,_⟩;exact⟨k B 9,K B 9,k B 10,K B 10⟩
  ·rintro e f ⟨rfl,wf,⟨l',hbf,hlf,P,R⟩,hw3⟩;refine⟨rfl,?_⟩;have of:ZH I wf:=o2.trans (R.below g.lt o2.size);have hbd:wf.drew.heap[v]? =some (.cells (((iL x y t o 0 ⟨none,0,0⟩ m).setIfInBounds 10 (.int .i32 1)).setIfInBounds 12 l'.v) dJ (0,0)):=hbf;obtain⟨b4,o4,t4⟩:=Jn hbd of.drew g.lt 9 (.int .u32 1);obtain⟨b5,o5,t5⟩:=Jn b4 o4 g.lt 10 (.int .i32 0);rw [←hw3]at b5 o5 t5;have tt:aD v wf f:=((aD.of_below (aU wf)).trans t4).trans t5;have hne:l'.v.ownBlock≠some v:=fun e=>by have:=(bL P _ e).1;omega
   refine E f l' ⟨g.parts,o5,g.lt,b5,.inr ⟨rfl,hlf,aS (tt.own P hne) (by omega)⟩⟩ (((X.trans t2).trans R).trans tt)
 ·-- it was done
  refine(vl ⟨v,9,none⟩ 1 (by decide) _ F (k n 9)).mono ?_;rintro e f ⟨rfl,hw⟩;subst hw;exact⟨rfl,E f l A X⟩
abbrev L8:TypeId:=343
def ek (w:World) (p tp:Nat) (a b limit steps:Int):Prop:=w.heap[p]? =some (.cells #[.int .i64 a,.int .i64 b,.pointer (some ⟨tp,0,none⟩),.int .i64 limit,.int .i64 steps] L8 (0,0))
theorem ek.on {w w':World} {p tp:Nat} {a b limit steps:Int} (h:ek w p tp a b limit steps) (hb:ZH w w'):ek w' p tp a b limit steps:=aj hb h
def dd (T:List aX) (a:Int):Bool:=decide (bH T a∧bI T a≠(-1, -1))
theorem vK (w:World) (B p tp:Nat) (T:List aX) (a b limit steps:Int) (hT:dx w tp T) (h:ek w p tp a b limit steps) (hB:B≤p) (hs:0≤steps∧steps≤1000000) (hab: -1000000≤b∧b≤1000000):
  CP 286 #[.pointer (some ⟨p,0,none⟩)] w fun e w'=>e= .returned (.bool (dd T a))∧(if dd T a=true then ek w' p tp (bI T a).2 b a (steps+1)else ek w' p tp a b limit steps)∧aD p w w':=by
 refine aJ (Bf (some ⟨p,0,none⟩) w (fun v w'=>v= .bool (dd T a)∧(if dd T a=true then ek w' p tp (bI T a).2 b a (steps+1)else ek w' p tp a b limit steps)∧aD p w w') ?_) (by rintro v w' ⟨rfl,h⟩;exact⟨rfl,h⟩);intro H hw1;have c:ZH w H:=by subst hw1;exact aU w
 have h1:=h.on c;have hpl:p<w.heap.size:=(XY.1 h).1;have A:∀(x y:Int) (r1:Bool) (d:Nat) (K:World),r1=dd T a→(r1=true→y=(bI T a).2)→d≠p→ek K p tp a b limit steps→K.heap[d]? =some (.cells #[.int .i64 x,.int .i64 y] mw (0,0))→aD p w K→
   ∀J:List Value→World→Prop,(∀w5:World,(Value.bool r1= .bool (dd T a)∧(if dd T a=true then ek w5 p tp (bI T a).2 b a (steps+1)else ek w5 p tp a b limit steps)∧aD p w w5)→J [] w5)→
   ac r1
    (∀g:World,g=K.drew→
     ag (some ⟨p,0,none⟩) (fun a2=>
     ∃n_4:Int,g.cell? (((a2.add 0).add 0).add 0)=some (Value.int .i64 n_4)∧
     ∃n_6:Int,g.cell? ((⟨d,0,none⟩:Addr).add 1)=some (Value.int .i64 n_6)∧
     ag (some ⟨p,0,none⟩) (fun m=>
     (Value.int .i64 n_4).oneCell'=true∧(∃u,g.cell? (m.add 3)=some u)∧g.frozen? (m.add 3)=false∧
     ∀o:World,o=(g.setCell (m.add 3) (Value.int .i64 n_4))→
     (o.cell? ((⟨d,0,none⟩:Addr).add 1)=some (Value.int .i64 n_6)∧True)∧
     ag (some ⟨p,0,none⟩) (fun n=>
     (Value.int .i64 n_6).oneCell'=true∧(∃u,o.cell? (((n.add 0).add 0).add 0)=some u)∧o.frozen? (((n.add 0).add 0).add 0)=false∧
     ∀r:World,r=(o.setCell (((n.add 0).add 0).add 0) (Value.int .i64 n_6))→
     ag (some ⟨p,0,none⟩) (fun a3=>
     ∃n_9:Int,r.cell? (a3.add 4)=some (Value.int .i64 n_9)∧
     Ar .i64 ((n_9:Int)+1) (fun z=>
     ag (some ⟨p,0,none⟩) (fun f=>
     (Value.int .i64 z).oneCell'=true∧(∃u,r.cell? (f.add 4)=some u)∧r.frozen? (f.add 4)=false∧
     ∀M:World,M=(r.setCell (f.add 4) (Value.int .i64 z))→
     J [] M)))))))
    (J [] K):=by
  intro x y r1 d K hr hy U a0 hlq X J L;refine ac.mk (fun h0=>?_) fun h0=>?_
  ·intro g F;have h6:ek g p tp a b limit steps:=by subst F;exact a0
   have l6:g.heap[d]? =some (.cells #[.int .i64 x,.int .i64 y] mw (0,0)):=by subst F;exact hlq
   have t6:aD p w g:=by subst F;exact X.trans (aD.of_below (aU _))
   have c6:∀j,g.cell? ⟨p,j,none⟩=_:=fun j=>aQ h6;simp only [aG,Nat.zero_add,Nat.add_zero];refine ag.mk _ rfl ⟨a,c6 0,⟨y,aQ l6,ag.mk _ rfl ⟨rfl,⟨_,c6 3⟩,cd h6,?_⟩⟩⟩;intro o G;have h7:ek o p tp a b a steps:=by subst G;exact cf h6 _
   have s7:∀k,k≠p→o.heap[k]? =g.heap[k]? :=fun k E=>by subst G;exact ar E
   have t7:aD p w o:=t6.trans (by subst G;exact⟨rfl,rfl,rfl,by rw [ba];exact XV _,fun k _ E=>ar E⟩);have c7:∀j,o.cell? ⟨p,j,none⟩=_:=fun j=>aQ h7;refine⟨⟨aQ (by rw [s7 d U];exact l6),trivial⟩,ag.mk _ rfl ⟨rfl,⟨_,c7 0⟩,cd h7,?_⟩⟩;intro r Y;have h8:ek r p tp y b a steps:=by subst Y;exact cf h7 _
   have t8:aD p w r:=t7.trans (by subst Y;exact⟨rfl,rfl,rfl,by rw [ba];exact XV _,fun k _ E=>ar E⟩);have c8:∀j,r.cell? ⟨p,j,none⟩=_:=fun j=>aQ h8;refine ag.mk _ rfl ⟨steps,c8 4,Ar.ok64 (by omega) (by omega) (ag.mk _ rfl ⟨rfl,⟨_,c8 4⟩,cd h8,?_⟩)⟩;intro M Z;have h9:ek M p tp y b a (steps+1):=by subst Z;exact cf h8 _
   have t9:aD p w M:=t8.trans (by subst Z;exact⟨rfl,rfl,rfl,by rw [ba];exact XV _,fun k _ E=>ar E⟩);refine L M ⟨by rw [hr],?_,t9⟩;rw [if_pos (by rw [←hr];exact h0), ←hy h0];exact h9
  ·refine L K ⟨by rw [hr],?_,X⟩;rw [if_neg (by rw [←hr,h0];simp)];exact a0
 have c1:∀j,H.cell? ⟨p,j,none⟩=_:=fun j=>aQ h1;have V:∃(x y:Int),BC T a= .tuple #[.agg #[.int .i64 x,.int .i64 y],.bool (dd T a)]∧(dd T a=true→y=(bI T a).2):=by
  unfold BC dd;by_cases hc:bH T a∧bI T a≠(-1, -1)
  ·rw [if_pos hc,XJ hc];exact⟨_,_,rfl,fun _=>rfl⟩
  ·rw [if_neg hc,XZ hc];exact⟨0,0,rfl,fun h=>by cases h⟩
 obtain⟨x,y,a1,t⟩:=V;refine ag.mk _ rfl ⟨some ⟨tp,0,none⟩,by simp only [aG,Nat.zero_add];exact c1 2,ag.mk _ rfl ⟨a,by simp only [aG,Nat.zero_add,Nat.add_zero];exact c1 0,?_,?_⟩⟩
 ·refine(fj H tp T (hT.on c) a).mono ?_;rintro e w2 ⟨rfl,D⟩;rw [a1];refine⟨x,y,_,rfl,?_⟩;intro w3 hw3;refine bg [.int .i64 0,.int .i64 0] [.int .i64 x,.int .i64 y] rfl (cK _ _) w3 hw3 ?_;intro w4 h4 hz4 R;have S:=ae c (ae D R);have hz2:=(ae c D).size;intro J L;exact A x y _ w2.heap.size w4 rfl t (by omega) (h1.on (ae D R)) h4 (aD.of_below S) J L
 ·intro q s;have i:ZH H q:=by subst s;exact ah _ _
  have O:=h1.on i;have l10:q.heap[H.heap.size]? =some (.cells #[Value.int .i64 0,Value.int .i64 0] mw (0,0)):=by subst s;exact aq _ _
  have N:∀j,q.cell? ⟨p,j,none⟩=_:=fun j=>aQ O;refine⟨⟨by simp only [aG,Nat.zero_add,Nat.add_zero];exact N 0,trivial⟩,⟨by simp only [aG,Nat.zero_add];exact N 2,trivial⟩,?_⟩;refine(fj q tp T ((hT.on c).on i) a).mono ?_;rintro e w11 ⟨rfl,l⟩;rw [a1];refine⟨x,y,_,rfl,?_⟩;have hz1:=c.size;refine bo (aj l l10) [.int .i64 x,.int .i64 y] rfl (cK _ _) ?_;intro I h12 W hz12 Q;have P:ek I p tp a b limit steps:=by
   unfold ek;rw [W p (by omega)];exact O.on l
  have C:ZH H I:=Q _ _ (XV _) (ae i l);intro J L;exact A x y _ H.heap.size I rfl t (by omega) P h12 (aD.of_below (ae c C)) J L
theorem tP (w:World) (B p tp:Nat) (T:List aX) (a b limit steps:Int) (hT:dx w tp T) (h:ek w p tp a b limit steps) (hB:B≤p) (hs:0≤steps∧steps≤1000000) (hab: -1000000≤b∧b≤1000000):
  CP 287 #[.pointer (some ⟨p,0,none⟩)] w fun e w'=>e= .returned (.bool (dd T b))∧(if dd T b=true then ek w' p tp a (bI T b).1 (b+1) (steps+1)else ek w' p tp a b limit steps)∧aD p w w':=by
 refine aJ (CF (some ⟨p,0,none⟩) w (fun v w'=>v= .bool (dd T b)∧(if dd T b=true then ek w' p tp a (bI T b).1 (b+1) (steps+1)else ek w' p tp a b limit steps)∧aD p w w') ?_) (by rintro v w' ⟨rfl,h⟩;exact⟨rfl,h⟩);intro H hw1;have c:ZH w H:=by subst hw1;exact aU w
 have h1:=h.on c;have hpl:p<w.heap.size:=(XY.1 h).1;have A:∀(x y:Int) (r1:Bool) (d:Nat) (K:World),r1=dd T b→(r1=true→x=(bI T b).1)→d≠p→ek K p tp a b limit steps→K.heap[d]? =some (.cells #[.int .i64 x,.int .i64 y] mw (0,0))→aD p w K→
   ∀J:List Value→World→Prop,(∀w5:World,(Value.bool r1= .bool (dd T b)∧(if dd T b=true then ek w5 p tp a (bI T b).1 (b+1) (steps+1)else ek w5 p tp a b limit steps)∧aD p w w5)→J [] w5)→
   ac r1
    (∀g:World,g=K.drew→
     ag (some ⟨p,0,none⟩) (fun a3=>
     ∃n_4:Int,g.cell? (((a3.add 0).add 0).add 1)=some (Value.int .i64 n_4)∧
     Ar .i64 ((n_4:Int)+1) (fun a2=>
     ∃n_6:Int,g.cell? ((⟨d,0,none⟩:Addr).add 0)=some (Value.int .i64 n_6)∧
     ag (some ⟨p,0,none⟩) (fun m=>
     (Value.int .i64 a2).oneCell'=true∧(∃u,g.cell? (m.add 3)=some u)∧g.frozen? (m.add 3)=false∧
     ∀o:World,o=(g.setCell (m.add 3) (Value.int .i64 a2))→
     (o.cell? ((⟨d,0,none⟩:Addr).add 0)=some (Value.int .i64 n_6)∧True)∧
     ag (some ⟨p,0,none⟩) (fun n=>
     (Value.int .i64 n_6).oneCell'=true∧(∃u,o.cell? (((n.add 0).add 0).add 1)=some u)∧o.frozen? (((n.add 0).add 0).add 1)=false∧
     ∀r:World,r=(o.setCell (((n.add 0).add 0).add 1) (Value.int .i64 n_6))→
     ag (some ⟨p,0,none⟩) (fun a4=>
     ∃n_9:Int,r.cell? (a4.add 4)=some (Value.int .i64 n_9)∧
     Ar .i64 ((n_9:Int)+1) (fun z=>
     ag (some ⟨p,0,none⟩) (fun f=>
     (Value.int .i64 z).oneCell'=true∧(∃u,r.cell? (f.add 4)=some u)∧r.frozen? (f.add 4)=false∧
     ∀M:World,M=(r.setCell (f.add 4) (Value.int .i64 z))→
     J [] M))))))))
    (J [] K):=by
  intro x y r1 d K hr hy U a0 hlq X J L;refine ac.mk (fun h0=>?_) fun h0=>?_
  ·intro g F;have h6:ek g p tp a b limit steps:=by subst F;exact a0
   have l6:g.heap[d]? =some (.cells #[.int .i64 x,.int .i64 y] mw (0,0)):=by subst F;exact hlq
   have t6:aD p w g:=by subst F;exact X.trans (aD.of_below (aU _))
   have c6:∀j,g.cell? ⟨p,j,none⟩=_:=fun j=>aQ h6;simp only [aG,Nat.zero_add,Nat.add_zero];refine ag.mk _ rfl ⟨b,c6 1,Ar.ok64 (by omega) (by omega) ⟨x,aQ l6,ag.mk _ rfl ⟨rfl,⟨_,c6 3⟩,cd h6,?_⟩⟩⟩;intro o G;have h7:ek o p tp a b (b+1) steps:=by subst G;exact cf h6 _
   have s7:∀k,k≠p→o.heap[k]? =g.heap[k]? :=fun k E=>by subst G;exact ar E
   have t7:aD p w o:=t6.trans (by subst G;exact⟨rfl,rfl,rfl,by rw [ba];exact XV _,fun k _ E=>ar E⟩);have c7:∀j,o.cell? ⟨p,j,none⟩=_:=fun j=>aQ h7;refine⟨⟨aQ (by rw [s7 d U];exact l6),trivial⟩,ag.mk _ rfl ⟨rfl,⟨_,c7 1⟩,cd h7,?_⟩⟩;intro r Y;have h8:ek r p tp a x (b+1) steps:=by subst Y;exact cf h7 _
   have t8:aD p w r:=t7.trans (by subst Y;exact⟨rfl,rfl,rfl,by rw [ba];exact XV _,fun k _ E=>ar E⟩);have c8:∀j,r.cell? ⟨p,j,none⟩=_:=fun j=>aQ h8;refine ag.mk _ rfl ⟨steps,c8 4,Ar.ok64 (by omega) (by omega) (ag.mk _ rfl ⟨rfl,⟨_,c8 4⟩,cd h8,?_⟩)⟩;intro M Z;have h9:ek M p tp a x (b+1) (steps+1):=by subst Z;exact cf h8 _
   have t9:aD p w M:=t8.trans (by subst Z;exact⟨rfl,rfl,rfl,by rw [ba];exact XV _,fun k _ E=>ar E⟩);refine L M ⟨by rw [hr],?_,t9⟩;rw [if_pos (by rw [←hr];exact h0), ←hy h0];exact h9
  ·refine L K ⟨by rw [hr],?_,X⟩;rw [if_neg (by rw [←hr,h0];simp)];exact a0
 have c1:∀j,H.cell? ⟨p,j,none⟩=_:=fun j=>aQ h1;have V:∃(x y:Int),BC T b= .tuple #[.agg #[.int .i64 x,.int .i64 y],.bool (dd T b)]∧(dd T b=true→x=(bI T b).1):=by
  unfold BC dd;by_cases hc:bH T b∧bI T b≠(-1, -1)
  ·rw [if_pos hc,XJ hc];exact⟨_,_,rfl,fun _=>rfl⟩
  ·rw [if_neg hc,XZ hc];exact⟨0,0,rfl,fun h=>by cases h⟩
 obtain⟨x,y,a1,t⟩:=V;refine ag.mk _ rfl ⟨some ⟨tp,0,none⟩,by simp only [aG,Nat.zero_add];exact c1 2,ag.mk _ rfl ⟨b,by simp only [aG,Nat.zero_add,Nat.add_zero];exact c1 1,?_,?_⟩⟩
 ·refine(fj H tp T (hT.on c) b).mono ?_;rintro e w2 ⟨rfl,D⟩;rw [a1];refine⟨x,y,_,rfl,?_⟩;intro w3 hw3;refine bg [.int .i64 0,.int .i64 0] [.int .i64 x,.int .i64 y] rfl (cK _ _) w3 hw3 ?_;intro w4 h4 hz4 R;have S:=ae c (ae D R);have hz2:=(ae c D).size;intro J L;exact A x y _ w2.heap.size w4 rfl t (by omega) (h1.on (ae D R)) h4 (aD.of_below S) J L
 ·intro q s;have i:ZH H q:=by subst s;exact ah _ _
  have O:=h1.on i;have l10:q.heap[H.heap.size]? =some (.cells #[Value.int .i64 0,Value.int .i64 0] mw (0,0)):=by subst s;exact aq _ _
  have N:∀j,q.cell? ⟨p,j,none⟩=_:=fun j=>aQ O;refine⟨⟨by simp only [aG,Nat.zero_add,Nat.add_zero];exact N 1,trivial⟩,⟨by simp only [aG,Nat.zero_add];exact N 2,trivial⟩,?_⟩;refine(fj q tp T ((hT.on c).on i) b).mono ?_;rintro e w11 ⟨rfl,l⟩;rw [a1];refine⟨x,y,_,rfl,?_⟩;have hz1:=c.size;refine bo (aj l l10) [.int .i64 x,.int .i64 y] rfl (cK _ _) ?_;intro I h12 W hz12 Q;have P:ek I p tp a b limit steps:=by
   unfold ek;rw [W p (by omega)];exact O.on l
  have C:ZH H I:=Q _ _ (XV _) (ae i l);intro J L;exact A x y _ H.heap.size I rfl t (by omega) P h12 (aD.of_below (ae c C)) J L
def xP (T:List aX) (t:Int):List Int:=bf (bj T t)
theorem cE {T:List aX} (h:fo T):(au T).length+256=T.length:=by
 have:=h.len;simp [au];omega
theorem Gp {T:List aX} (h:fo T) {i:Nat} (hi:i<256):T[i]? =some (cM i):=by
 have a:(T.take 256)[i]? =T[i]? :=List.getElem?_take_of_lt hi;rw [←a,h.low];simp [bU,hi]
theorem pD {T:List aX} (h:fo T) {i:Nat} (hi:i<256):bj T (i:Int)= [UInt8.ofNat i]:=by
 simp [bj,Gp h hi,cM]
theorem Jo {T:List aX} (h:fo T) {k:Nat} {m:Int×Int} (hm:(au T)[k]? =some m):∃e,T[256+k]? =some e∧e.2=m:=by
 simp only [au,List.getElem?_map,List.getElem?_drop]at hm;obtain⟨e,a,rfl⟩:=Option.map_eq_some_iff.1 hm;exact⟨e,a,rfl⟩
theorem DB {T:List aX} (h:fo T) {k:Nat} {m:Int×Int} (hm:(au T)[k]? =some m):bj T ((256:Int)+(k:Nat))=bj T m.1++bj T m.2:=by
 obtain⟨e,a,rfl⟩:=Jo h hm;obtain⟨_,_,b⟩:=h.step (256+k) e a (by omega);rw [←b];unfold bj;rw [show((256:Int)+(k:Nat)).toNat=256+k by omega,a];rfl
theorem xW {T:List aX} (h:fo T):∀(n i:Nat),i≤n→i<T.length→bj T (i:Int)≠ []:=by
 intro n;induction n with
 |zero=>
  intro i c a;rw [pD h (by omega)];simp
 |succ n ih=>
  intro i c a;by_cases h256:i<256
  ·rw [pD h h256];simp
  ·obtain⟨d,e,b⟩:=h.step i _ (XK a) (by omega);have:bj T (i:Int)=T[i].1:=by simp [bj,a]
   rw [this,b];have:=ih T[i].2.1.toNat (by omega) (by omega);rw [show((T[i].2.1.toNat:Nat):Int)=T[i].2.1 by omega]at this;simp [this]
theorem lx (a b:Bs):bf (a++b)=bf a++bf b:=by simp [bf]
theorem rA {T:List aX} (h:fo T):jm (au T) (xP T):=by
 have l:=cE h;refine⟨⟨fun t f d=>?_,fun k m a=>?_,h.sound,fun k m a=>?_⟩,fun i m a=>⟨(eZ h a).1.1,(eZ h a).2.1⟩⟩
 ·obtain⟨i,rfl⟩:∃i:Nat,t=i:=⟨t.toNat,by omega⟩;have e:i<256:=by omega
  unfold xP;rw [pD h e];simp [bf];omega
 ·unfold xP;rw [DB h a,lx]
 ·obtain⟨d,g⟩:=eZ h a;have j:=(List.getElem?_eq_some_iff.1 a).1;have b:=xW h m.1.toNat m.1.toNat (XV _) (by omega);have c:=xW h m.2.toNat m.2.toNat (XV _) (by omega);rw [show((m.1.toNat:Nat):Int)=m.1 by omega]at b;rw [show((m.2.toNat:Nat):Int)=m.2 by omega]at c;exact⟨by simpa [xP,bf]using b,by simpa [xP,bf]using c⟩
def ap (s:am) (T:List aX):Voc:=⟨au T,xP T,cutB s.classes s.joins,s.specials.map (·.1)⟩
theorem pP {w:World} {s:am} {T:List aX} {x:bk} {tp bp mp:Nat} (h:bZ w s T x tp bp mp):(ap s T).Ok:=by
 have c:=cE h.ok;refine⟨rA h.ok,h.nodup,fun t a=>?_⟩;obtain⟨y,b,rfl⟩:=List.mem_map.1 a;have:=h.ids y b;show 256+((au T).length:Int)≤y.1;omega
theorem fV {T:List aX} (h:fo T) (t:Int):bH T t↔nU (au T) t:=by
 have a:=cE h;unfold bH nU;omega
theorem oG {T:List aX} (h:fo T) (s:Bs):fD T s=after (au T) (au T).length (bf s):=by
 have a:=cE h;unfold fD sC after;rw [show((T.length:Int)-256).toNat=(au T).length by omega]
theorem l_ {cut:Int→Int→Bool}:∀l:List Int,dW cut l↔∀(j:Nat) (x y:Int),l[j]? =some x→l[j+1]? =some y→cut x y=false
 | []=>by simp [dW]
 | [x]=>by simp [dW]
 |x::y::r=>by
  simp only [dW,l_ (y::r)];constructor
  ·rintro⟨h1,h2⟩ j a b ha hb;cases j with
   |zero=>
    simp at ha hb;rw [←ha, ←hb];exact h1
   |succ j=>exact h2 j a b (by simpa using ha) (by simpa using hb)
  ·intro h;exact⟨h 0 x y rfl rfl,fun j a b ha hb=>h (j+1) a b (by simpa using ha) (by simpa using hb)⟩
theorem xl {cut:Int→Int→Bool} {l:List Int} (hl:l≠ []):(chop cut l).length≤1↔dW cut l:=by
 constructor
 ·intro h;obtain⟨b,a⟩:=dR (cut:=cut) l
  match hc:chop cut l with
  | []=>rw [hc]at a;exact absurd a.symm hl
  | [p]=>
   rw [hc]at b a;simp at a;subst a;exact b.2
  |p::q::r=>rw [hc]at h;simp at h
 ·intro h;have:=fL (cut:=cut) [l] ⟨hl,h⟩;simp at this;rw [this];simp
theorem AF {c c':Int→Int→Bool} {l:List Int} (h:∀x∈l,∀y∈l,c x y=c' x y):dW c l↔dW c' l:=by
 rw [l_,l_];constructor
 ·intro k j x y a b;rw [←h x (List.mem_of_getElem? a) y (List.mem_of_getElem? b)];exact k j x y a b
 ·intro k j x y a b;rw [h x (List.mem_of_getElem? a) y (List.mem_of_getElem? b)];exact k j x y a b
theorem AK (cut:Int→Int→Bool) (b:Bs):nD cut b=true↔dW cut (bf b):=by
 unfold nD;rw [decide_eq_true_eq,l_];have a:∀j:Nat,(bf b)[j]? =(b[j]?).map fun z:UInt8=>(z.toNat:Int):=fun j=>by simp [bf]
 constructor
 ·intro h j x y e f;rw [a]at e f;obtain⟨u,i,rfl⟩:=Option.map_eq_some_iff.1 e;obtain⟨v,d,rfl⟩:=Option.map_eq_some_iff.1 f;have g:=(List.getElem?_eq_some_iff.1 d).1;have:=h (j+1) g;unfold fS at this;rw [if_neg (by omega),Nat.add_sub_cancel,i,d]at this;simpa using this
 ·intro h j c;unfold fS;rw [if_neg (by omega)];cases j with
  |zero=>split<;>simp
  |succ j=>
   rw [Nat.add_sub_cancel,XK c,XK (show j<b.length by omega)];have:=h j (b[j].toNat) (b[j+1].toNat) (by rw [a,XK (show j<b.length by omega)];rfl) (by rw [a,XK c];rfl);simp [this]
theorem jC (b:Bs):∀x∈bf b,0≤x∧x<256:=by
 intro x a;obtain⟨y,_,rfl⟩:=List.mem_map.1 a;have:=y.toNat_lt;omega
theorem pe (V:Voc) {x y:Int} (hx:0≤x) (hy:0≤y):V.cut x y=V.cutB x y:=by
 unfold Voc.cut;rw [XZ (by omega),XZ (by omega)];rfl
theorem FH {w:World} {s:am} {T:List aX} {x:bk} {tp bp mp:Nat} (h:bZ w s T x tp bp mp) {i:Nat} (hi:bH T (i:Int)):gZ s T i=true↔(ap s T).Canon [(i:Int)]:=by
 have d:=(fV h.ok _).1 hi;have a:=pP h;rw [Voc.alone_iff a (V:=ap s T) d];have c:xP T (i:Int)≠ []:=(a.good.bytes d).2;have b:(chop (ap s T).cut ((ap s T).ex (i:Int))).length≤1↔nD (cutB s.classes s.joins) (bj T (i:Int))=true:=by
  show(chop (ap s T).cut (xP T (i:Int))).length≤1↔_;rw [xl c,AK];exact AF fun x e y f=>pe _ (jC _ x e).1 (jC _ y f).1
 rw [b];unfold gZ cT;rw [Bool.and_eq_true,decide_eq_true_eq,oG h.ok];exact Iff.rfl
theorem Gu {w:World} {s:am} {T:List aX} {x:bk} {tp bp mp:Nat} (h:bZ w s T x tp bp mp) (t:Int):bY s T t=true↔(ap s T).Has t:=by
 unfold bY Voc.Has;rw [decide_eq_true_eq,fV h.ok];exact Or.comm
theorem gH {w:World} {s:am} {T:List aX} {x:bk} {tp bp mp:Nat} (h:bZ w s T x tp bp mp) {t:Int} (ht:(ap s T).Has t):fQ s T t=true↔(ap s T).Canon [t]:=by
 have b:=pP h;unfold fQ;rcases ht with ht |ht
 ·have a:=(fV h.ok t).2 ht;have d:t∉s.specials.map (·.1):=fun c=>by
   have e:256+((au T).length:Int)≤t:=b.above t c;have f:t<256+(((au T).length:Nat):Int):=ht.2;omega
  rw [XZ d,XJ a];have:=FH h (i:=t.toNat) (by rw [show((t.toNat:Nat):Int)=t by have:=a.1;omega];exact a);rw [show((t.toNat:Nat):Int)=t by have:=a.1;omega]at this;simpa using this
 ·have c:t∈s.specials.map (·.1):=ht;rw [XJ c];simp only [Bool.true_or,true_iff];exact Voc.alone_special b ht
theorem uk {T:List aX} (h:fo T) {a:Int} (ha:bH T a):dd T a=true↔256≤a:=by
 unfold dd;rw [decide_eq_true_eq];have b:a.toNat<T.length:=by have:=ha.1;have:=ha.2;omega
 constructor
 ·rintro⟨_,g⟩;rcases Int.lt_or_le a 256 with c |c
  ·exfalso;apply g;have i:a.toNat<256:=by have:=ha.1;omega
   simp [bI,Gp h i,cM]
  ·exact c
 ·intro f;refine⟨ha,fun e=>?_⟩;obtain⟨d,_,_⟩:=h.step a.toNat _ (XK b) (by omega);simp only [bI,XK b,Option.map_some,Option.getD_some]at e;rw [e]at d;simp at d
theorem mR {T:List aX} (h:fo T) {a:Int} (ha:bH T a) (h256:256≤a):∃j:Nat,a=256+(j:Int)∧(au T)[j]? =some (bI T a):=by
 have b:a.toNat<T.length:=by have:=ha.1;have:=ha.2;omega
 refine⟨a.toNat-256,by omega,?_⟩;simp only [au,List.getElem?_map,List.getElem?_drop];rw [show 256+(a.toNat-256)=a.toNat by omega,XK b];simp [bI,b]
def jB (T:List aX) (a b limit:Int):Bool:=match(au T).idxOf? (a,b)with
 |some i=>decide (((256+i:Nat):Int) <limit)
 |none=>false
theorem xm (w:World) (p tp:Nat) (T:List aX) (a b limit steps:Int) (hT:dx w tp T) (h:ek w p tp a b limit steps):
  CP 264 #[.pointer (some ⟨p,0,none⟩)] w fun e w'=>e= .returned (.bool (jB T a b limit))∧ZH w w':=by
 refine aV (CN (some ⟨p,0,none⟩) w) ?_;intro k g;have c:ZH w k:=by subst g;exact aU w
 have l:=h.on c;have f:∀j,k.cell? ⟨p,j,none⟩=_:=fun j=>aQ l;refine ag.mk _ rfl ⟨_,by simp only [aG,Nat.zero_add];exact f 2,ag.mk _ rfl ⟨a,by simp only [aG,Nat.zero_add,Nat.add_zero];exact f 0,ag.mk _ rfl ⟨b,by simp only [aG,Nat.zero_add,Nat.add_zero];exact f 1,?_⟩⟩⟩;refine(nW k tp T (hT.on c) a b).mono ?_;rintro e o ⟨rfl,d⟩;have n:∀j,o.cell? ⟨p,j,none⟩=_:=fun j=>aQ (l.on d);have m:=ae c d;unfold jB;cases hx:(au T).idxOf? (a,b)with
 |none=>exact⟨_,_,rfl,ac.no rfl ⟨rfl,m⟩⟩
 |some i=>exact⟨_,_,rfl,ac.yes rfl (ag.mk _ rfl ⟨limit,by simp only [aG,Nat.zero_add];exact n 3,rfl,m⟩)⟩
theorem Ek (w:World) (B p tp:Nat) (T:List aX) (a b limit steps:Int) (hT:dx w tp T) (hok:fo T) (ht:∀w',aD p w w'→dx w' tp T) (h:ek w p tp a b limit steps) (hB:B≤p) (hs:0≤steps∧steps≤1000000) (ha:bH T a) (hb:bH T b):
  CP 265 #[.pointer (some ⟨p,0,none⟩)] w fun e w'=>∃r:Bool,e= .returned (.bool r)∧aD p w w'∧((r=true∧b<a∧256≤a∧ek w' p tp (bI T a).2 b a (steps+1))∨(r=true∧a≤b∧256≤b∧ek w' p tp a (bI T b).1 (b+1) (steps+1))∨(r=false∧a<256∧b<256∧ek w' p tp a b limit steps)):=by
 refine aV (zL (some ⟨p,0,none⟩) w) ?_;intro i y;have l:ZH w i:=by subst y;exact aU w
 have s:=h.on l;have q:aD p w i:=aD.of_below l;have E:∀j,i.cell? ⟨p,j,none⟩=_:=fun j=>aQ s;have x:=hok.most;have G:=ha.1;have H:=ha.2;have I:=hb.1;have J:=hb.2;have z:=uk hok ha;have A:=uk hok hb;refine ag.mk _ rfl ⟨a,by simp only [aG,Nat.zero_add,Nat.add_zero];exact E 0,ag.mk _ rfl ⟨b,by simp only [aG,Nat.zero_add,Nat.add_zero];exact E 1,ac.mk (fun k=>?_) fun k=>?_⟩⟩
 ·have k:=XQ k;refine(vK i B p tp T a b limit steps (ht i q) s hB hs (by omega)).mono ?_;rintro e o ⟨rfl,c,C⟩;have f:=q.trans C;refine⟨_,rfl,ac.mk (fun g=>?_) fun g=>?_⟩
  ·rw [if_pos g]at c;exact⟨true,rfl,f,.inl ⟨rfl,by omega,z.1 g,c⟩⟩
  ·rw [if_neg (by rw [g];simp)]at c;have t:¬256≤a:=fun v=>by rw [z.2 v]at g;cases g
   refine(tP o B p tp T a b limit steps (ht o f) c hB hs (by omega)).mono ?_;rintro e F ⟨rfl,d,D⟩;have n:dd T b=false:=by
    cases hx:dd T b with
    |false=>rfl
    |true=>have:=A.1 hx;omega
   rw [n]at d;rw [if_neg (by simp)]at d;exact⟨_,rfl,false,by rw [n],f.trans D,.inr (.inr ⟨rfl,by omega,by omega,d⟩)⟩
 ·have k:=XX k;refine(tP i B p tp T a b limit steps (ht i q) s hB hs (by omega)).mono ?_;rintro e o ⟨rfl,c,C⟩;have f:=q.trans C;refine⟨_,rfl,ac.mk (fun g=>?_) fun g=>?_⟩
  ·rw [if_pos g]at c;exact⟨true,rfl,f,.inr (.inl ⟨rfl,by omega,A.1 g,c⟩)⟩
  ·rw [if_neg (by rw [g];simp)]at c;have u:¬256≤b:=fun v=>by rw [A.2 v]at g;cases g
   refine(vK o B p tp T a b limit steps (ht o f) c hB hs (by omega)).mono ?_;rintro e F ⟨rfl,d,D⟩;have m:dd T a=false:=by
    cases hx:dd T a with
    |false=>rfl
    |true=>have:=z.1 hx;omega
   rw [m]at d;rw [if_neg (by simp)]at d;exact⟨_,rfl,false,by rw [m],f.trans D,.inr (.inr ⟨rfl,by omega,by omega,d⟩)⟩
theorem HJ (w:World) (B p tp:Nat) (T:List aX) (a b limit:Int) (hok:fo T) (ht:∀w',aD p w w'→dx w' tp T) (h:ek w p tp a b limit 0) (hB:B≤p) (ha:bH T a) (hb:bH T b) (aa:cT (au T) (xP T) a) (ab:cT (au T) (xP T) b) (la:a≤limit) (lb:b+1≤limit):
  CP 230 #[.pointer (some ⟨p,0,none⟩)] w fun e w'=>∃r:Bool,e= .returned (.bool r)∧(r=true↔jr (au T) (xP T) a b limit)∧aD p w w':=by
 refine aV (CJ (some ⟨p,0,none⟩) w) ?_;intro I hI;have x:=rA hok;have S:=hok.most;have ml:=cE hok;have V:∀(n:Nat) (f g c d:Int) (D:World),f.toNat+g.toNat≤n→ek D p tp f g c d→aD p w D→bH T f→bH T g→cT (au T) (xP T) f→cT (au T) (xP T) g→f≤c→g+1≤c→0≤d→d+f+g≤10000→(jr (au T) (xP T) f g c↔jr (au T) (xP T) a b limit)→∀G:Bool,I [.bool G] D:=by
  intro n;induction n using Nat.strongRecOn with
  |ind n ih=>
   intro f g c d D hn X t1 o q k m W lb' U hs1 H G;have L:=(fV hok f).1 o;have M:=(fV hok g).1 q;refine hI G D ?_;refine(xm D p tp T f g c d (ht D t1) X).mono ?_;rintro e w2 ⟨rfl,E⟩;have h2:=X.on E;have K:=t1.trans (aD.of_below E);refine⟨_,rfl,ac.mk (fun l=>?_) fun l=>?_⟩
   ·have l:jB T f g c=false:=by simpa using l
    have A:∀i:Nat,(au T)[i]? =some (f,g)→c≤256+(i:Int):=by
     intro i Z;unfold jB at l;cases hx:(au T).idxOf? (f,g)with
     |none=>exact absurd (List.mem_of_getElem? Z) (List.idxOf?_eq_none_iff.1 hx)
     |some j=>
      rw [hx]at l;have l:=XX l;obtain⟨J,Y,F⟩:=List.findIdx?_eq_some_iff_getElem.1 hx;have hij:j≤i:=by
       rcases Nat.lt_or_ge i j with t |hge
       ·exfalso;have:=F i t;have R:=(List.getElem?_eq_some_iff.1 Z);apply this;rw [R.2];simp
       ·exact hge
      omega
    refine(Ek w2 B p tp T f g c d (ht w2 K) hok (fun w' tt=>ht w' (K.trans tt)) h2 hB ⟨U,by have:=o.1;have:=q.1;omega⟩ o q).mono ?_;rintro e w3 ⟨r,rfl,t3,y⟩;have C:=K.trans t3;refine⟨r,rfl,?_⟩;rcases y with⟨rfl,Q,s,v⟩ |⟨rfl,P,s,v⟩ |⟨rfl,N,O,v⟩
    ·obtain⟨j,rfl,u⟩:=mR hok o s;have t:=eZ hok u;obtain⟨q1,_,_,_⟩:=fM x u k;have J:=(List.getElem?_eq_some_iff.1 u).1;have hp:=q.1;refine ac.no rfl (ih _ ?_ (bI T (256+(j:Int))).2 g (256+(j:Int)) (d+1) w3 (XV _) v C ⟨t.2.1,by omega⟩ q ?_ m (by omega) (by omega) (by omega) (by omega) ?_ G)
     ·omega
     ·exact(fM x u k).2.2.2
     ·rw [←H];exact(G5 x u M k m Q W A).symm
    ·obtain⟨j,rfl,u⟩:=mR hok q s;have t:=eZ hok u;have J:=(List.getElem?_eq_some_iff.1 u).1;have hp:=o.1;refine ac.no rfl (ih _ ?_ f (bI T (256+(j:Int))).1 (256+(j:Int)+1) (d+1) w3 (XV _) v C o ⟨t.1.1,by omega⟩ k ?_ (by omega) (by omega) (by omega) (by omega) ?_ G)
     ·omega
     ·exact(fM x u m).2.2.1
     ·rw [←H];exact(DG x u L k m P (by omega) A).symm
    ·refine ac.yes rfl ⟨true,rfl,?_,C⟩;rw [←H];exact⟨fun _=>ER x L M k m N O A,fun _=>rfl⟩
   ·have l:jB T f g c=true:=by simpa using l
    refine⟨false,rfl,?_,K⟩;rw [←H];refine⟨(fun h=>by cases h),fun z=>?_⟩;unfold jB at l;cases hx:(au T).idxOf? (f,g)with
    |none=>rw [hx]at l;cases l
    |some j=>
     rw [hx]at l;have l:=XQ l;obtain⟨J,Y,_⟩:=List.findIdx?_eq_some_iff_getElem.1 hx;exact absurd z (wN x L M k m (i:=j) (by rw [XK J];congr 1;simpa using Y) (by omega))
 exact V _ a b limit 0 w (XV _) h (aD.of_below (Below.refl _ _)) ha hb aa ab la lb (Int.le_refl _) (by have:=ha.2;have:=hb.2;omega) Iff.rfl false
theorem uU (w:World) (tp:Nat) (T:List aX) (hT:dx w tp T) (a b:Int):CP 228 #[.pointer (some ⟨tp,0,none⟩),.int .i64 a,.int .i64 b] w fun e w'=>e= .returned (.bool (decide (bH T a∧bH T b)))∧w'=w:=by
 refine aJ (CQ (some ⟨tp,0,none⟩) a b w (fun v w'=>v= .bool (decide (bH T a∧bH T b))∧w'=w) ?_) (by rintro v w' ⟨rfl,h⟩;exact⟨rfl,h⟩);have c:¬(bH T a∧bH T b)→(Value.bool false= .bool (decide (bH T a∧bH T b))∧w=w):=fun h=>⟨by rw [XZ h],rfl⟩;refine ac.mk (fun d=>?_) fun d=>c fun h=>?_
 ·have d:=XQ d;refine(fO w tp T hT).mono ?_;rintro e j ⟨rfl,i⟩;subst i;refine⟨_,rfl,ac.mk (fun f=>?_) fun f=>c fun h=>?_⟩
  ·have f:=XQ f;refine ac.mk (fun g=>?_) fun g=>c fun h=>?_
   ·have g:=XQ g;refine(fO j tp T hT).mono ?_;rintro e k ⟨rfl,i⟩;subst i;refine⟨_,rfl,?_,rfl⟩;congr 1;exact decide_eq_decide.2 ⟨fun h=>⟨⟨d,f⟩,g,h⟩,fun h=>h.2.2⟩
   ·exact XX g h.2.1
  ·exact XX f h.1.2
 ·exact XX d h.1.1
theorem GY (w:World) (tp:Nat) (T:List aX) (hT:dx w tp T) (hok:fo T) (a b limit:Int) (ha:bH T a) (hb:bH T b) (aa:cT (au T) (xP T) a) (ab:cT (au T) (xP T) b) (la:a≤limit) (lb:b+1≤limit):
  CP 177 #[.pointer (some ⟨tp,0,none⟩),.int .i64 a,.int .i64 b,.int .i64 limit] w fun e w'=>∃r:Bool,e= .returned (.bool r)∧(r=true↔jr (au T) (xP T) a b limit)∧ZH w w':=by
 refine aV (Ag (some ⟨tp,0,none⟩) a b limit w) ?_;refine(uU w tp T hT a b).mono ?_;rintro e f ⟨rfl,k⟩;subst k;refine⟨_,rfl,ac.yes (XJ ⟨ha,hb⟩) ?_⟩;have d:CP 229 #[.pointer (some ⟨tp,0,none⟩),.int .i64 a,.int .i64 b,.int .i64 limit] f fun e w'=>e= .returned (.pointer (some (nb f)))∧w'=f.alloc (.cells #[Value.int .i64 a,Value.int .i64 b,Value.pointer (some ⟨tp,0,none⟩),Value.int .i64 limit,Value.int .i64 0] L8):=by
  refine aV (zx (some ⟨tp,0,none⟩) a b limit f) ?_;rintro h rfl;exact⟨rfl,rfl⟩
 refine d.mono ?_;rintro e h ⟨rfl,g⟩;have c:ZH f h:=by subst g;exact ah _ _
 have i:ek h f.heap.size tp a b limit 0:=by subst g;exact aq _ _
 refine⟨_,rfl,?_⟩;refine(HJ h f.heap.size f.heap.size tp T a b limit hok (fun w' t=>hT.on (c.trans (t.below (XV _) c.size))) i (XV _) ha hb aa ab la lb).mono ?_;rintro e m ⟨r,rfl,j,l⟩;exact⟨r,rfl,r,rfl,j,c.trans (l.below (XV _) c.size)⟩
theorem oF {w:World} {v:Nat} {c:Array Value} {tp bp mp:Nat} (h:iv w v c tp bp mp) {s:am} {T:List aX} {x:bk} (hp:bZ w s T x tp bp mp) (id:Int):CP 175 #[.pointer (some ⟨v,0,none⟩),.int .i64 id] w fun e w'=>∃r:Bool,e= .returned (.bool r)∧(r=true↔id∈s.specials.map (·.1))∧w'=w:=by
 refine aV (yL (some ⟨v,0,none⟩) id w) ?_;refine(eD h).mono ?_;rintro e b ⟨rfl,a⟩;subst a;refine⟨_,rfl,(gM b mp s.specials hp.marks hp.few id).mono ?_⟩;rintro e d ⟨rfl,a⟩;subst a;exact⟨_,_,rfl,_,rfl,kr,rfl⟩
theorem GP (b:Bs):(bf b).getLast?=b.getLast?.map fun z:UInt8=>(z.toNat:Int):=by simp [bf]
theorem HO (b:Bs):(bf b).head?=b.head?.map fun z:UInt8=>(z.toNat:Int):=by simp [bf]
theorem qw {w:World} {v:Nat} {c:Array Value} {tp bp mp:Nat} (h:iv w v c tp bp mp) {s:am} {T:List aX} {x:bk} (hp:bZ w s T x tp bp mp) (a b:Int) (ha:(ap s T).Has a) (hb:(ap s T).Has b) (ca:(ap s T).Canon [a]) (cb:(ap s T).Canon [b]):
  CP 121 #[.pointer (some ⟨v,0,none⟩),.int .i64 a,.int .i64 b] w fun e w'=>∃r:Bool,e= .returned (.bool r)∧(r=true↔(ap s T).Pair a b)∧ZH w w':=by
 have g:=pP hp;refine aV (Dr (some ⟨v,0,none⟩) a b w) ?_;have d:∀t:Int,t∈s.specials.map (·.1)→∃z:Int,(ap s T).items t= [z]∧z<0:=by
  intro t L;obtain⟨i,R,_⟩:=Voc.place_some (V:=ap s T) L;refine⟨-1- (i:Int),?_,by omega⟩;unfold Voc.items;rw [R]
 refine(oF h hp a).mono ?_;rintro e w1 ⟨r1,rfl,D,f⟩;subst f;refine⟨_,rfl,ac.mk (fun F=>?_) fun F=>?_⟩
 ·refine⟨true,rfl,⟨fun _=>?_,fun _=>rfl⟩,Below.refl _ _⟩;obtain⟨z,N,j⟩:=d a (D.1 F);obtain⟨y,n⟩:∃y,((ap s T).items b).head?=some y:=by
   cases o:(ap s T).items b with
   |nil=>exact absurd o (Voc.items_ne g hb)
   |cons y t=>exact⟨y,rfl⟩
  exact .inl ⟨z,y,by rw [N];rfl,n,by unfold Voc.cut;rw [XJ j];rfl⟩
 have U:a∉s.specials.map (·.1):=fun J=>by rw [D.2 J]at F;cases F
 refine(oF h hp b).mono ?_;rintro e w2 ⟨r2,rfl,E,f⟩;subst f;refine⟨_,rfl,ac.mk (fun B=>?_) fun B=>?_⟩
 ·refine⟨true,rfl,⟨fun _=>?_,fun _=>rfl⟩,Below.refl _ _⟩;obtain⟨z,N,j⟩:=d b (E.1 B);obtain⟨y,n⟩:∃y,((ap s T).items a).getLast?=some y:=by
   cases o:((ap s T).items a).getLast? with
   |none=>exact absurd (List.getLast?_eq_none_iff.1 o) (Voc.items_ne g ha)
   |some y=>exact⟨y,rfl⟩
  exact .inl ⟨y,z,n,by rw [N];rfl,by unfold Voc.cut;rw [XJ j];simp⟩
 have P:b∉s.specials.map (·.1):=fun J=>by rw [E.2 J]at B;cases B
 have q:nU (au T) a:=ha.resolve_right U;have u:nU (au T) b:=hb.resolve_right P;have I:=(fV hp.ok a).2 q;have O:=(fV hp.ok b).2 u;have p:∀t,bH T t→(bj T t).length≤64:=by
  intro t L;obtain⟨y,n,M⟩:=ee L;rw [M];exact hp.ok.short y (List.mem_of_getElem? n)
 refine(fh h).mono ?_;rintro e X ⟨rfl,f⟩;subst f;refine⟨_,rfl,(gQ X tp T hp.tab a).mono ?_⟩;rintro e w4 ⟨rfl,f⟩;subst f;rw [if_pos I];refine⟨_,_,rfl,(fh h).mono ?_⟩;rintro e Y ⟨rfl,f⟩;subst f;refine⟨_,rfl,(gQ Y tp T hp.tab b).mono ?_⟩;rintro e w6 ⟨rfl,f⟩;subst f;rw [if_pos O];refine⟨_,_,rfl,(lE h).mono ?_⟩;rintro e Z ⟨rfl,f⟩;subst f;refine⟨_,rfl,(wt Z bp s.classes s.joins hp.bound (nJ hp.right).1 (bj T a) (bj T b) (by have:=p a I;omega)).mono ?_⟩;rintro e w8 ⟨rfl,m⟩;have l:(ap s T).Pair a b↔lO (cutB s.classes s.joins) (bj T a) (bj T b)=true∨(ap s T).Free a b:=by
  unfold Voc.Pair;rw [Voc.items_tok g (V:=ap s T) q,Voc.items_tok g (V:=ap s T) u];show(∃x y,(bf (bj T a)).getLast?=some x∧(bf (bj T b)).head?=some y∧(ap s T).cut x y=true)∨_↔_;rw [GP,HO];unfold lO;cases B:(bj T a).getLast? with
  |none=>
   simp only [Option.map_none];constructor
   ·rintro(⟨x,y,o,_⟩ |h)
    ·cases o
    ·exact .inr h.2.2
   ·rintro(h |h)
    ·cases h
    ·exact .inr ⟨q,u,h⟩
  |some z1=>
   cases G:(bj T b).head? with
   |none=>
    simp only [Option.map_none];constructor
    ·rintro(⟨x,y,_,n,_⟩ |h)
     ·cases n
     ·exact .inr h.2.2
    ·rintro(h |h)
     ·cases h
     ·exact .inr ⟨q,u,h⟩
   |some z2=>
    simp only [Option.map_some];constructor
    ·rintro(⟨x,y,o,n,A⟩ |h)
     ·cases o;cases n;rw [pe _ (by omega) (by omega)]at A;exact .inl A
     ·exact .inr h.2.2
    ·rintro(h |h)
     ·exact .inl ⟨_,_,rfl,rfl,by rw [pe _ (by omega) (by omega)];exact h⟩
     ·exact .inr ⟨q,u,h⟩
 refine⟨_,rfl,ac.mk (fun G=>?_) fun G=>?_⟩
 ·exact⟨true,rfl,⟨fun _=>l.2 (.inl G),fun _=>rfl⟩,m⟩
 ·refine(fh (h.on m)).mono ?_;rintro e w9 ⟨rfl,f⟩;subst f;have K:=hp.ok.most;have ml:=cE hp.ok;have a1:=I.2;have b1:=O.2;refine⟨_,rfl,(GY w9 tp T (hp.tab.on m) hp.ok a b 9223372036854775807 I O ((Voc.alone_iff g (V:=ap s T) q).1 ca).1 ((Voc.alone_iff g (V:=ap s T) u).1 cb).1 (by omega) (by omega)).mono ?_⟩;rintro e W ⟨r,rfl,S,C⟩;refine⟨_,rfl,r,rfl,?_,ae m C⟩;rw [S,l,G];constructor
  ·intro Q;exact .inr fun k H A=>Q k H (by change k< (au T).length at H;omega) A
  ·rintro(h |h)
   ·cases h
   ·exact fun k H _ A=>h k H A
def cN (V:Voc) (ids:List Int):Option Nat→Prop
 |none=>V.Canon ids
 |some k=>k<ids.length∧V.Canon (ids.take k)∧¬V.Canon (ids.take (k+1))
def wO:Option Nat→Value
 |none=>.tuple #[.int .i64 0,.bool false]
 |some k=>.tuple #[.int .i64 (k:Int),.bool true]
theorem Rw.touch {α:Type} {enc:α→List Value} {sz:Nat} {w w':World} {a:Option Addr} {xs:List α} {v:Nat} (h:Rw enc sz w a xs) (t:aD v w w') (ha:xs≠ []→∀p,a=some p→p.block≠v):Rw enc sz w' a xs:=by
 intro j x b;obtain⟨p,rfl,c,d⟩:=h j x b;refine⟨p,rfl,Nat.lt_of_lt_of_le c t.size,fun k u e=>?_⟩;rw [World.cell?_of_block (w:=w) (by rw [ay,ay];exact t.block p.block c (ha (List.ne_nil_of_mem (List.mem_of_getElem? b)) p rfl))];exact d k u e
theorem vM (V:Voc):V.Canon []:=rfl
theorem sm (w:World) (v:Nat) (s:am) (T:List aX) (hV:aW w v s T) (A:Option Addr) (C:Nat) (ids:List Int) (hr:Rw an 1 w A ids) (hA:ids≠ []→∀p,A=some p→p.block≠v) (hl:ids.length≤1000000000000) (hh:∀t∈ids,(ap s T).Has t):
  CP 127 #[.pointer (some ⟨v,0,none⟩),.slice A ids.length C] w fun e w'=>∃o,e= .returned (wO o)∧cN (ap s T) ids o∧aW w' v s T∧aD v w w':=by
 refine aV (Ck (some ⟨v,0,none⟩) A ids.length C w) ?_;intro I hI;have key:=aZ (α:=Bool×Int×World) ids.length (fun i x=>(ap s T).Canon (ids.take i)∧aW x.2.2 v s T∧aD v w x.2.2) (fun i x=>I [.int .i64 (i:Int),.bool x.1,.int .i64 x.2.1] x.2.2) (false,0,w) ⟨vM _,hV,aD.of_below (Below.refl _ _)⟩ ?_ ?_
 ·exact key
 ·rintro i N ih ⟨y5,y4,U⟩ ⟨n,j,Q⟩;change aW U v s T at j;change aD v w U at Q;have O:=hr.touch Q hA;obtain⟨q,hq,_,Y⟩:=O i _ (XK N);have h0:=Y 0 _ rfl;rw [aC]at h0;have c:=hh ids[i] (List.getElem_mem N);have b:ids.take (i+1)=ids.take i++ [ids[i]]:=by rw [List.take_add_one,XK N];rfl
  obtain⟨w0,x,tp,bp,mp,d,l,S,X⟩:=j;have B:=pP X.now;refine hI _ _ _ _ (ac.yes (by simp;omega) (ag.mk q hq ⟨by omega,by omega,ids[i],h0,?_⟩));refine(jU U v s T ⟨w0,x,tp,bp,mp,d,l,S,X⟩ ids[i]).mono ?_;rintro e w2 ⟨rfl,y,t2⟩;have D:=Q.trans t2;have J:=gH X.now c;have K:∀t∈ids.take i++ [ids[i]],(ap s T).Has t:=by
   rw [←b];intro t ht;exact hh t (List.mem_of_mem_take ht)
  refine⟨_,rfl,ac.mk (fun k=>?_) fun k=>?_⟩
  ·have k:fQ s T ids[i]=false:=by simpa using k
   refine⟨some i,rfl,⟨N,n,fun g=>?_⟩,y,D⟩;rw [b]at g;have:=(Voc.canon_append B K g).2;rw [J.2 this]at k;cases k
  ·have k:fQ s T ids[i]=true:=by simpa using k
   have W:=J.1 k;refine ac.mk (fun F=>?_) fun F=>?_
   ·have F:0<i:=by have:=XQ F;omega
    have z:i-1<ids.length:=by omega
    obtain⟨q2,Z,_,M⟩:=(O.touch t2 hA) (i-1) _ (XK z);have G:=M 0 _ rfl;rw [aC]at G;have a:ids.take i=ids.take (i-1)++ [ids[i-1]]:=by
     have:=List.take_add_one (l:=ids) (i:=i-1);rw [show i-1+1=i by omega,XK z]at this;exact this
    have f:∀t∈ids.take (i-1)++ [ids[i-1]],(ap s T).Has t:=by
     rw [←a];intro t ht;exact hh t (List.mem_of_mem_take ht)
    rw [a]at n;have cl:=(Voc.canon_append B f n).2;obtain⟨w0',x',tp',V,mp',d',l',E,u⟩:=y;refine Ar.ok64 (by omega) (by omega) (ag.mk q2 Z ⟨by omega,by omega,ids[i-1],?_,?_⟩)
    ·rw [show((i:Int)-1).toNat=i-1 by omega];exact G
    ·refine(qw u.vblk u.now ids[i-1] ids[i] (hh _ (List.getElem_mem z)) c cl W).mono ?_;rintro e w3 ⟨r,rfl,P,L⟩;have R:=D.trans (aD.of_below L);have H:aW w3 v s T:=⟨w0',x',tp',V,mp',d',l',E,u.on L⟩;have h:=Voc.canon_more B f n c;refine⟨_,rfl,ac.mk (fun m=>?_) fun m=>?_⟩
     ·have m:r=false:=by simpa using m
      refine⟨some i,rfl,⟨N,by rw [a];exact n,fun g=>?_⟩,H,R⟩;rw [b,a]at g;have:=(h.1 g).2;rw [P.2 this]at m;cases m
     ·have m:r=true:=by simpa using m
      refine Ar.ok64 (by omega) (by omega) (ih (y5,y4,w3) ⟨?_,H,R⟩);rw [b,a];exact h.2 ⟨W,P.1 m⟩
   ·have F:i=0:=by have:=XX F;omega
    refine Ar.ok64 (by omega) (by omega) (ih (y5,y4,w2) ⟨?_,y,D⟩);subst F;rw [b,List.take_zero,List.nil_append];exact W
 ·rintro⟨y5,y4,U⟩ ⟨n,j,Q⟩;rw [List.take_length]at n;exact hI _ _ _ _ (ac.no (by simp) ⟨none,rfl,n,j,Q⟩)
theorem kW (a:Option Addr) (c:Nat) (xs:List Int) (f:Value) (p:Int→Bool) (w:World) (hr:Rw an 1 w a xs) (hl:xs.length≤1000000000000000)
  (hf:∀x∈xs,∀w1,ZH w w1→bM gq f [.int .i64 x] w1 (fun e w2=>e= .returned (.bool (p x))∧ZH w1 w2)):
  CP 85 #[.slice a xs.length c,f] w fun e w'=>e= .returned (.int .i64 (vy p xs))∧ZH w w':=by
 refine aV (FD a xs.length c f w) ?_;intro I o;have m:=qL (α:=Int×World) xs.length (fun i x=>(∀j (b:j<xs.length),j<i→p xs[j]=false)∧ZH w x.2) (fun i x=>I [.int .i64 (i:Int),.int .i64 x.1] x.2) ?_ ?_ 0 (Nat.zero_le _) (0,w)
 ·exact m ⟨fun j _ b=>absurd b (Nat.not_lt_zero j),Below.refl _ _⟩
 ·rintro⟨y,w1⟩ ⟨g,d⟩;exact o _ _ _ (ac.no (by simp) ⟨by rw [dY fun j b=>g j b b],d⟩)
 ·rintro i k t ⟨y,w1⟩ ⟨g,d⟩;obtain⟨q,s,_,h⟩:=(hr.on d) i _ (XK k);refine o _ _ _ (ac.yes (by simp;omega) (ag.mk q s ⟨by omega,by omega,xs[i],by have:=h 0 _ rfl;simpa [aC]using this,?_⟩));refine(hf xs[i] (List.getElem_mem k) w1 d).mono ?_;rintro e w2 ⟨rfl,n⟩;refine⟨_,rfl,ac.mk ?_ ?_⟩
  ·intro l;exact⟨by rw [gn k l fun j b=>g j (by omega) b],ae d n⟩
  ·intro l;refine Ar.ok64 (by omega) (by omega) (t (y,w2) ⟨?_,ae d n⟩);intro j b r;by_cases he:j=i
   ·subst he;exact l
   ·exact g j b (by omega)
theorem aW.has_call {w:World} {v:Nat} {s:am} {T:List aX} (h:aW w v s T) (id:Int):CP 49 #[.pointer (some ⟨v,0,none⟩),.int .i64 id] w fun e w'=>e= .returned (.bool (bY s T id))∧w'=w:=by
 obtain⟨i,x,g,c,f,d,l,b,a⟩:=h;exact Bu a.vblk a.now id
def dP (s:am) (T:List aX) (ids:List Int):Int:=vy (fun id=> !bY s T id) ids
def bP (s:am) (T:List aX) (ids:List Int):Int×Int:=if 4000<ids.length then(0,3)else if dP s T ids≥0 then(dP s T ids,4)else(0,0)
theorem iF (w:World) (v:Nat) (s:am) (T:List aX) (hV:aW w v s T) (A:Option Addr) (C:Nat) (ids:List Int) (hr:Rw an 1 w A ids):
  CP 78 #[.pointer (some ⟨v,0,none⟩),.slice A ids.length C] w fun e w'=>e= .returned (.tuple #[.int .i64 (bP s T ids).1,.int .i64 (bP s T ids).2])∧ZH w w':=by
 refine aV (FK (some ⟨v,0,none⟩) A ids.length C w) ?_;intro i f;have a:ZH w i:=by subst f;exact ah _ _
 have j:i.heap[w.heap.size]? =some (.cells #[.pointer (some ⟨v,0,none⟩)] 31 (0,0)):=by subst f;exact aq _ _
 have l:∀ {w':World},w'.heap[w.heap.size]? =some (.cells #[.pointer (some ⟨v,0,none⟩)] 31 (0,0))→w'.cell? (nb w)=some (.pointer (some ⟨v,0,none⟩)):=fun h=>aQ h;refine⟨_,l j,ac.no rfl (ac.mk (fun d=>?_) fun d=>?_)⟩
 ·have d:=XQ d;refine⟨?_,a⟩;rw [bP,if_pos (by omega)]
 ·have d:=XX d;have p:w.heap.size<i.heap.size:=(XY.1 j).1;refine(kW A C ids _ (fun g=> !bY s T g) i (hr.on a) (by omega) ?_).mono ?_
  ·intro g n m b;refine b_ (by kernel_rfl) ?_;refine aV (Bn g (some (nb w)) m) ?_;refine ag.mk _ rfl ⟨_,l (aj b j),?_⟩;refine(((hV.on a).on b).has_call g).mono ?_;rintro e q ⟨rfl,o⟩;subst o;exact⟨_,rfl,rfl,Below.refl _ _⟩
  ·rintro e m ⟨rfl,b⟩;have k:=ae a b;refine⟨_,rfl,ac.mk (fun c=>?_) fun c=>?_⟩
   ·have c:dP s T ids≥0:=XQ c;refine⟨?_,k⟩;rw [bP,if_neg (by omega),if_pos c];rfl
   ·have c:¬dP s T ids≥0:=XX c;refine⟨?_,k⟩;rw [bP,if_neg (by omega),if_neg c]
theorem kn (k:Int) (bad:Bool) (w:World):CP 79 #[.int .i64 k,.bool bad] w fun e w'=>e= .returned (.int .i64 (if bad then k else -1))∧w'=w:=by
 refine aV (rQ k bad w) ?_;cases bad
 ·exact ac.yes rfl ⟨rfl,rfl⟩
 ·exact ac.no rfl ⟨rfl,rfl⟩
theorem ph (w:World) (v:Nat) (s:am) (T:List aX) (hV:aW w v s T) (A:Option Addr) (C:Nat) (ids:List Int) (hr:Rw an 1 w A ids) (hA:ids≠ []→∀p,A=some p→p.block≠v) (hl:ids.length≤1000000000000) (hh:∀t∈ids,(ap s T).Has t):
  CP 372 #[.agg #[.pointer (some ⟨v,0,none⟩)],.slice A ids.length C] w fun e w'=>∃o,e= .returned (wO o)∧cN (ap s T) ids o∧aW w' v s T∧aD v w w':=by
 refine aV (AU (some ⟨v,0,none⟩) A ids.length C w) ?_;intro f c;have a:ZH w f:=by subst c;exact ah _ _
 refine⟨_,by subst c;rw [aG,bn];rfl,?_⟩;refine(sm f v s T (hV.on a) A C ids (hr.on a) hA hl hh).mono ?_;rintro e h ⟨o,rfl,d,b,g⟩;have t:=(aD.of_below (v:=v) a).trans g;cases o with
 |none=>exact⟨0,false,rfl,none,rfl,d,b,t⟩
 |some k=>exact⟨(k:Int),true,rfl,some k,rfl,d,b,t⟩
abbrev wT (v:Option Addr):Value:=.iface 144 (.agg #[.pointer v])
abbrev ET (v:Option Addr):Value:=.iface 145 (.agg #[.pointer v])
theorem Aj (v:Addr) (A:Option Addr) (N C:Nat) (w:World):(callMethod (wT (some v)) "First" #[.slice A N C]).run Tryz.prog w= .ok (.enter 372 #[.agg #[.pointer (some v)],.slice A N C]) w:=by kernel_rfl
def dv:Option Nat→Int
 |none=> -1
 |some k=>(k:Int)
theorem ft {s:am} {T:List aX} {ids:List Int} (h:¬dP s T ids≥0):∀t∈ids,bY s T t=true:=by
 intro t a;unfold dP vy at h;cases hx:ids.findIdx? (fun b=> !bY s T b)with
 |some i=>rw [hx]at h;exact absurd (show((i:Nat):Int)≥0 by omega) h
 |none=>
  have:=List.findIdx?_eq_none_iff.1 hx t a;simpa using this
theorem sI (w:World) (v:Nat) (s:am) (T:List aX) (hV:aW w v s T) (A:Option Addr) (C:Nat) (ids:List Int) (hr:Rw an 1 w A ids) (hA:ids≠ []→∀p,A=some p→p.block≠v):
  CP 22 #[.pointer (some ⟨v,0,none⟩),.slice A ids.length C] w fun e w'=>aW w' v s T∧aD v w w'∧((bP s T ids).2≠0∧e= .returned (.tuple #[.int .i64 (bP s T ids).1,.int .i64 (bP s T ids).2])∨((bP s T ids).2=0∧(∀t∈ids,bY s T t=true)∧∃o,cN (ap s T) ids o∧e= .returned (.tuple #[.int .i64 (dv o),.int .i64 0]))):=by
 have B:=hV;have E:CP 24 #[.pointer (some ⟨v,0,none⟩),wT (some ⟨v,0,none⟩),.slice A ids.length C] w fun e w'=>∃(m n:Int),e= .returned (.tuple #[.int .i64 m,.int .i64 n])∧aW w' v s T∧aD v w w'∧((bP s T ids).2≠0∧m=(bP s T ids).1∧n=(bP s T ids).2∨((bP s T ids).2=0∧(∀t∈ids,bY s T t=true)∧∃o,cN (ap s T) ids o∧m=dv o∧n=0)):=by
  refine aV (iN (some ⟨v,0,none⟩) (wT (some ⟨v,0,none⟩)) A ids.length C w) ?_;refine(iF w v s T hV A C ids hr).mono ?_;rintro e q ⟨rfl,c⟩;refine⟨_,_,rfl,ac.mk (fun a=>?_) fun a=>?_⟩
  ·have a:(bP s T ids).2≠0:=by simpa using a
   exact⟨_,_,rfl,hV.on c,aD.of_below c,.inl ⟨a,rfl,rfl⟩⟩
  ·have a:(bP s T ids).2=0:=by simpa using a
   have f:ids.length≤4000∧¬dP s T ids≥0:=by
    unfold bP at a;split at a
    ·cases a
    ·split at a
     ·cases a
     ·exact⟨by omega,by assumption⟩
   have b:=ft f.2;refine⟨false,q,by kernel_rfl,ac.no rfl ⟨_,_,Aj ⟨v,0,none⟩ A ids.length C q,?_⟩⟩;have j:∀t∈ids,(ap s T).Has t:=by
    obtain⟨P,x,O,M,N,d,l,G,I⟩:=B;intro t J;exact(Gu I.now t).1 (b t J)
   refine(ph q v s T (hV.on c) A C ids (hr.on c) hA (by omega) j).mono ?_;rintro e H ⟨o,rfl,h,i,K⟩;have t:=(aD.of_below (v:=v) c).trans K;cases o with
   |none=>
    refine⟨0,false,rfl,(kn 0 false H).mono ?_⟩;rintro e L ⟨rfl,F⟩;subst F;exact⟨_,rfl,_,_,rfl,i,t,.inr ⟨a,b,none,h,rfl,rfl⟩⟩
   |some k=>
    refine⟨(k:Int),true,rfl,(kn (k:Int) true H).mono ?_⟩;rintro e L ⟨rfl,F⟩;subst F;exact⟨_,rfl,_,_,rfl,i,t,.inr ⟨a,b,some k,h,rfl,rfl⟩⟩
 have:=FG (some ⟨v,0,none⟩) A ids.length C w (fun u w'=>aW w' v s T∧aD v w w'∧((bP s T ids).2≠0∧u= .tuple #[.int .i64 (bP s T ids).1,.int .i64 (bP s T ids).2]∨((bP s T ids).2=0∧(∀t∈ids,bY s T t=true)∧∃o,cN (ap s T) ids o∧u= .tuple #[.int .i64 (dv o),.int .i64 0]))) (by
  refine E.mono ?_;rintro e q ⟨m,n,rfl,r,y,z⟩;refine⟨_,_,rfl,r,y,?_⟩;rcases z with⟨g,rfl,rfl⟩ |⟨g,D,o,h,rfl,rfl⟩
  ·exact .inl ⟨g,rfl⟩
  ·exact .inr ⟨g,D,o,h,rfl⟩)
 refine this.mono ?_;rintro e w' ⟨u,rfl,r,y,z⟩;refine⟨r,y,?_⟩;rcases z with⟨g,rfl⟩ |⟨g,D,o,h,rfl⟩
 ·exact .inl ⟨g,rfl⟩
 ·exact .inr ⟨g,D,o,h,rfl⟩
instance (V:Voc) (ids:List Int):Decidable (V.Canon ids):=inferInstanceAs (Decidable (V.encode (V.itemsAll ids)=ids))
end Go.Proofs.YtijbcdiffjjefaaGreatDoor.Eng
