/- Vocabularies: what they are, and how they are made, walked by the engine. -/
import Derived.Test.YtijbcdiffjjefaaGreatDoorZtHp
import Derived.Laws.MakeOwn
import Derived.Tactics
import Derived.Tactics2
import Derived.Defers
import Derived.Laws.Pointers
import Derived.Laws.LoneSync
import Derived.RegionTactic
import Derived.RegionCalls
import Derived.ChangeAlike
import Derived.Test.YtijbcdiffjjefaaGreatDoorZtTk
import Derived.Test.YtijbcdiffjjefaaGreatDoorZtTab
set_option linter.unusedVariables false
set_option linter.unusedSimpArgs false
set_option maxRecDepth 100000
namespace Go.Proofs.YtijbcdiffjjefaaGreatDoor.Eng
open Go Go.RowKit
abbrev dC:TypeId:=186
abbrev ik:TypeId:=4
def gM (s:ai) (T:List bl) (i:Nat):Bool:=decide (cW T (aX T (i:Int))= [(i:Int)])&&kc (cutB s.classes s.joins) (aX T (i:Int))
def fA (s:ai) (T:List bl):List Bool:=(List.range T.length).map (gM s T)
def kf (b:Bool):List Value:=[.bool b]
structure dT (w:World) (s:ai) (T:List bl) (x:aG) (tp bp mp:Nat):Prop where
 spec:aM w x s
 tab:eF w tp T
 ok:gW T
 bound:wZ w bp s.classes s.joins
 marks:un w mp s.specials
 right:s.right=true
 ids:∀y∈s.specials,(T.length:Int)≤y.1
 nodup:(s.specials.map (·.1)).Nodup
theorem dT.on {w w':World} {s:ai} {T:List bl} {x:aG} {tp bp mp:Nat} (h:dT w s T x tp bp mp) (hb:Below w.heap.size w w'):dT w' s T x tp bp mp:=
 ⟨h.spec.on hb,h.tab.on hb,h.ok,h.bound.on hb,h.marks.on hb,h.right,h.ids,h.nodup⟩
abbrev dX (x:aG) (tp bp mp:Nat) (d:Int) (l:Sl) (uses:Int):Array Value:=#[.bool x.ranked,x.s1.v,x.s2.v,x.s3.v,x.s4.v,x.s5.v,.pointer (some ⟨tp,0,none⟩),.pointer (some ⟨bp,0,none⟩),.pointer (some ⟨mp,0,none⟩),.int .u32 d,.int .i32 0,.int .u32 0,l.v,.int .i64 uses]
structure eB (w:World) (v:Nat) (s:ai) (T:List bl) (w0:World) (x:aG) (tp bp mp:Nat) (d:Int) (l:Sl) (uses:Int):Prop where
 parts:dT w0 s T x tp bp mp
 below:Below w0.heap.size w0 w
 lt:w0.heap.size≤v
 blk:w.heap[v]? =some (.cells (dX x tp bp mp d l uses) dC (0,0))
 once:(d=0∧l=⟨none,0,0⟩)∨(d=1∧l.n=T.length∧w.ownsRow (v+1) ik 1 l.v l.n ((fA s T).flatMap kf))
def eU (w:World) (v:Nat) (s:ai) (T:List bl):Prop:=∃w0 x tp bp mp d l uses,eB w v s T w0 x tp bp mp d l uses
theorem eB.on {w w':World} {v:Nat} {s:ai} {T:List bl} {w0:World} {x:aG} {tp bp mp:Nat} {d:Int} {l:Sl} {uses:Int} (h:eB w v s T w0 x tp bp mp d l uses) (hb:Below w.heap.size w w'):eB w' v s T w0 x tp bp mp d l uses:=
 ⟨h.parts,h.below.trans (hb.mono h.below.size),h.lt,ah hb h.blk,h.once.imp id fun⟨a,b,c⟩=>⟨a,b,aL c hb⟩⟩
theorem eU.on {w w':World} {v:Nat} {s:ai} {T:List bl} (h:eU w v s T) (hb:Below w.heap.size w w'):eU w' v s T:=by
 obtain⟨w0,x,tp,bp,mp,d,l,uses,h⟩:=h;exact⟨w0,x,tp,bp,mp,d,l,uses,h.on hb⟩
theorem eB.now {w:World} {v:Nat} {s:ai} {T:List bl} {w0:World} {x:aG} {tp bp mp:Nat} {d:Int} {l:Sl} {uses:Int} (h:eB w v s T w0 x tp bp mp d l uses):dT w s T x tp bp mp:=h.parts.on h.below
structure bB (v:Nat) (w w':World):Prop where
 os:w'.os=w.os
 tape:w'.tape=w.tape
 output:w'.output=w.output
 size:w.heap.size≤w'.heap.size
 block:∀k,k<w.heap.size→k≠v→w'.heap[k]? =w.heap[k]?
theorem bB.of_below {v:Nat} {w w':World} (h:Below w.heap.size w w'):bB v w w':=⟨h.os,h.tape,h.output,h.size,fun k hk _=>h.block k hk⟩
theorem bB.trans {v:Nat} {a b c:World} (h:bB v a b) (k:bB v b c):bB v a c:=
 ⟨k.os.trans h.os,k.tape.trans h.tape,k.output.trans h.output,Nat.le_trans h.size k.size,fun i hi hv=>(k.block i (Nat.lt_of_lt_of_le hi h.size) hv).trans (h.block i hi hv)⟩
theorem bB.below {v B:Nat} {a b:World} (h:bB v a b) (hv:B≤v) (hB:B≤a.heap.size):Below B a b:=⟨h.os,h.tape,h.output,h.size,fun k hk=>h.block k (by omega) (by omega)⟩
theorem bB.held {v:Nat} {a b:World} (h:bB v a b) {k:Nat} (hk:k≠v) {o:Obj} (ho:a.heap[k]? =some o):b.heap[k]? =some o:=by
 rw [h.block k (Array.getElem?_eq_some_iff.1 ho).1 hk,ho]
theorem bB.own {v:Nat} {a b:World} (h:bB v a b) {B:Nat} {e:TypeId} {sz n:Nat} {u:Value} {xs:List Value} (ho:a.ownsRow B e sz u n xs) (hne:u.ownBlock≠some v):b.ownsRow B e sz u n xs:=
 bD ho fun k hk=>h.block k (cn ho k hk).2 fun e=>hne (by rw [hk,e])
theorem uG (w:World) (cb:Nat) (tp:Nat) (T:List bl) (hT:eF w tp T) (y:Int×Bs) (hcb:cb<w.heap.size) (hc:w.cell? ⟨cb,0,none⟩=some (.pointer (some ⟨tp,0,none⟩))):
  CP 133 #[.agg #[.int .i64 y.1,.string (str y.2)],.pointer (some ⟨cb,0,none⟩)] w fun e w'=>e= .returned (.bool (decide (y.1< (T.length:Int))))∧Below w.heap.size w w':=by
 refine aU (yQ y.1 (str y.2) (some ⟨cb,0,none⟩) w) ?_;intro w1 hw1 w2 hw2;have hb2:Below w.heap.size w w2:=by subst hw2;subst hw1;exact(ag _ _).drew
 have hl2:w2.heap[w.heap.size]? =some (.cells #[.int .i64 y.1,.string (str y.2)] kU (0,0)):=by subst hw2;subst hw1;exact ao _ _
 refine⟨_,af _ _ hl2 0,ae.mk _ rfl ⟨_,by rw [hb2.cell hcb];exact hc,?_⟩⟩;refine(ii w2 tp T (hT.on hb2)).mono ?_;rintro e w3 ⟨rfl,hw⟩;subst hw;exact⟨_,rfl,⟨af _ _ hl2 0,trivial⟩,rfl,hb2⟩
def bq (s:ai):Except (Int×Nat×Int) (List bl):=match ff s with
 | .error q=>.error (1,q.1,q.2)
 | .ok T=>match bn [] 0 s.specials with
  |some q=>.error (2,q.1,q.2)
  |none=>match s.specials.findIdx? (fun y=>decide (y.1< (T.length:Int)))with
   |some i=>.error (2,i,4)
   |none=>.ok T
def H' (w:World) (s:ai) (v:Value) (w':World):Prop:=Below w.heap.size w w'∧match bq s with
 | .error q=>v= .tuple #[.pointer none,.int .i64 q.1,.int .i64 q.2.1,.int .i64 q.2.2]∧q.2.2≠0
 | .ok T=>∃p,v= .tuple #[.pointer (some ⟨p,0,none⟩),.int .i64 0,.int .i64 0,.int .i64 0]∧eU w' p s T∧w.heap.size≤p
def gK (B:Nat) (w':World) (p:Nat) (s:ai) (T:List bl):Prop:=∃w0 x tp bp mp,eB w' p s T w0 x tp bp mp 0 ⟨none,0,0⟩ 0∧B≤p∧c_ B w' x s
def mc (w:World) (s:ai) (v:Value) (w':World):Prop:=Below w.heap.size w w'∧match bq s with
 | .error q=>v= .tuple #[.pointer none,.int .i64 q.1,.int .i64 q.2.1,.int .i64 q.2.2]∧q.2.2≠0
 | .ok T=>∃p,v= .tuple #[.pointer (some ⟨p,0,none⟩),.int .i64 0,.int .i64 0,.int .i64 0]∧gK w.heap.size w' p s T
theorem gK.voc {B:Nat} {w':World} {p:Nat} {s:ai} {T:List bl} (h:gK B w' p s T):eU w' p s T∧B≤p:=by
 obtain⟨w0,x,tp,bp,mp,hR,hp,_⟩:=h;exact⟨⟨w0,x,tp,bp,mp,0,_,0,hR⟩,hp⟩
theorem gK.on {B:Nat} {w w':World} {p:Nat} {s:ai} {T:List bl} (h:gK B w p s T) (hb:Below w.heap.size w w'):gK B w' p s T:=by
 obtain⟨w0,x,tp,bp,mp,hR,hp,ho⟩:=h;exact⟨w0,x,tp,bp,mp,hR.on hb,hp,ho.on hb⟩
theorem gK.base {B B':Nat} {w:World} {p:Nat} {s:ai} {T:List bl} (h:gK B w p s T) (hB:B'≤B):gK B' w p s T:=by
 obtain⟨w0,x,tp,bp,mp,hR,hp,ho⟩:=h;exact⟨w0,x,tp,bp,mp,hR,Nat.le_trans hB hp,ho.base hB⟩
theorem lH {xs:List (Int×Bs)}:∀ {ys:List (Int×Bs)} {i:Nat} {q:Nat×Int},bn ys i xs=some q→q.2≠0:=by
 induction xs with
 |nil=>intro ys i q h;cases h
 |cons x xs ih=>
  intro ys i q h;rw [bn]at h;split at h
  ·exact ih h
  ·rename_i hne;cases h;exact hne
theorem kX {xs:List (Int×Bs)}:∀ {ys:List (Int×Bs)} {i:Nat},bn ys i xs=none→(ys.map (·.1)).Nodup→((ys++xs).map (·.1)).Nodup:=by
 induction xs with
 |nil=>intro ys i _ h;rw [List.append_nil];exact h
 |cons x xs ih=>
  intro ys i h hn;rw [bn]at h;split at h
  ·rename_i hz;have:=ih h (by
    rw [List.map_append,List.nodup_append];refine⟨hn,by simp,fun a ha b hb=>?_⟩;simp at hb;subst hb;rintro rfl;unfold cf at hz;split at hz
    ·omega
    ·split at hz
     ·omega
     ·split at hz
      ·omega
      ·rename_i h3;exact h3 (.inl ha))
   simpa using this
  ·cases h
theorem qJ {s:ai} (h:s.right=true):(∀c∈s.classes,aR c=true)∧(∀j∈s.joins,bK j=true)∧(∀t∈s.tokens,t.length≤100000):=by
 obtain⟨_,_,h3,_,h5,h6⟩:=aH h;simp only [bk,Bool.and_eq_true,List.all_eq_true]at h3 h5 h6;refine⟨h5.2,h6.2,fun t ht=>?_⟩;have:=of_decide_eq_true (by simpa [ee]using h3.2 t ht:decide _=true);omega
theorem ov (w:World) (x:aG) (s:ai) (h:aM w x s) (hright:s.right=true):
  CP 91 #[x.v] w fun e w'=>∃v,e= .returned v∧mc w s v w':=by
 refine zt x.ranked x.s1.a x.s1.n x.s1.c x.s2.a x.s2.n x.s2.c x.s3.a x.s3.n x.s3.c x.s4.a x.s4.n x.s4.c x.s5.a x.s5.n x.s5.c w (mc w s) ?_;intro w1 hw1;have hs:=bT hright;obtain⟨okc,okj,okt⟩:=qJ hright;have hb1:Below w.heap.size w w1:=by subst hw1;exact ag _ _
 have hz1:w1.heap.size=w.heap.size+1:=by subst hw1;exact ax _ _
 have p1:w1.heap[w.heap.size]? =some (.cells x.cells bd (0,0)):=by subst hw1;exact ao _ _
 have h1:=h.on hb1;refine⟨_,_,_,_,_,_,_,_,_,_,_,_,_,_,_,_,aV p1,?_⟩;refine(BS w1 x s h1 hs okt).mono ?_;rintro e w2 ⟨v,rfl,hb2,hload⟩;have hb12:=ab hb1 hb2;have p2:=ah hb2 p1;have hz2:=hb2.size;have store:∀(r0:Option Addr) (w3 w4:World),w3=w2.alloc (.cells #[Value.pointer none] 100)→w4=w3.setCell (nb w2) (.pointer r0)→w4.heap[w2.heap.size]? =some (.cells #[.pointer r0] 100 (0,0))∧Below w2.heap.size w2 w4:=by
  intro r0 w3 w4 hw3 hw4;have a3:w3.heap[w2.heap.size]? =some (.cells #[Value.pointer none] 100 (0,0)):=by subst hw3;exact ao _ _
  have b3:Below w2.heap.size w2 w3:=by subst hw3;exact ag _ _
  have hp:=bo (j:=0) a3 (.pointer r0);have bp:=bg (j:=0) b3 (Nat.le_refl _) (.pointer r0);rw [an]at hp bp;subst hw4;exact⟨hp,bp⟩
 have slot:∀(w3:World),w3=w2.alloc (.cells #[Value.pointer none] 100)→(∃u,w3.cell? (nb w2)=some u)∧w3.frozen? (nb w2)=false:=by
  intro w3 hw3;subst hw3;have a3:=ao w2 (.cells #[Value.pointer none] 100);refine⟨⟨.pointer none,by rw [aT];rfl⟩,eT a3⟩
 have fail:∀(q:Int×Nat×Int) (w':World),bq s= .error q→q.2.2≠0→Below w.heap.size w w'→mc w s (.tuple #[.pointer none,.int .i64 q.1,.int .i64 q.2.1,.int .i64 q.2.2]) w':=by
  intro q w' hq hne hb;refine⟨hb,?_⟩;rw [hq];exact⟨rfl,hne⟩
 cases hl:ff s with
 |error q=>
  rw [hl]at hload;obtain⟨rfl,hq⟩:=hload;refine⟨_,_,_,rfl,?_⟩;intro w3 hw3;obtain⟨u3,f3⟩:=slot w3 hw3;refine⟨rfl,u3,f3,?_⟩;intro w4 hw4;obtain⟨a4,b4⟩:=store none w3 w4 hw3 hw4;refine aa.yes (by simpa using hq) ?_;exact fail (1,q.1,q.2) w4 (by rw [bq,hl]) hq (ab hb12 b4)
 |ok T=>
  rw [hl]at hload;obtain⟨tp,rfl,hT,hok⟩:=hload;refine⟨_,_,_,rfl,?_⟩;intro w3 hw3;obtain⟨u3,f3⟩:=slot w3 hw3;refine⟨rfl,u3,f3,?_⟩;intro w4 hw4;obtain⟨a4,b4⟩:=store (some ⟨tp,0,none⟩) w3 w4 hw3 hw4;have hb14:=ab hb12 b4;have hz4:=b4.size;have p4:=ah b4 p2;have hT4:=hT.on b4;have h4:=h.on hb14;refine aa.no rfl ⟨_,_,_,by rw [af _ _ p4];rfl,?_⟩;have hM:=ug w4 x.s3.a x.s3.c s.specials h4.r3 (by have:=hs.2.2.1;omega);rw [←h.n3]at hM;refine hM.mono ?_;rintro e w5 ⟨v,rfl,b5,hmark⟩;have hb15:=ab hb14 b5;have p5:=ah b5 p4;cases hm:bn [] 0 s.specials with
  |some q=>
   rw [hm]at hmark;subst hmark;have hne:=lH hm;refine⟨_,_,_,rfl,aa.yes (by simpa using hne) ?_⟩;exact fail (2,q.1,q.2) w5 (by rw [bq,hl];simp only [hm]) hne hb15
  |none=>
   rw [hm]at hmark;obtain⟨mp,hv,hMk⟩:=hmark;subst hv;refine⟨_,_,_,rfl,aa.no rfl ⟨_,_,_,by rw [af _ _ p5];rfl,?_⟩⟩;have hI:=oc x.s3.a x.s3.c s.specials (.func (.func 133) #[] #[.pointer (some (nb w2))]) (fun y=>decide (y.1< (T.length:Int))) w5 (h.on hb15).r3 (by have:=hs.2.2.1;omega) (by
    intro y hy w6 hb6;refine d' (by kernel_rfl) ?_;refine(uG w6 w2.heap.size tp T ((hT4.on b5).on hb6) y (by have:=b5.size;have:=hb6.size;have:=(Array.getElem?_eq_some_iff.1 a4).1;omega) ?_);have:=af _ _ (ah hb6 (ah b5 a4)) 0;rw [an]at this;exact this)
   rw [←h.n3]at hI;refine hI.mono ?_;rintro e w6 ⟨rfl,b6⟩;have hb16:=ab hb15 b6;have p6:=ah b6 p5;refine⟨_,rfl,?_⟩;unfold yT;cases hi:s.specials.findIdx? (fun y=>decide (y.1< (T.length:Int)))with
   |some i=>
    refine aa.yes (by simp) ?_;exact fail (2,i,4) w6 (by rw [bq,hl];simp only [hm,hi]) (show(4:Int)≠0 by decide) hb16
   |none=>
    refine aa.no (by simp) ?_;have h6:=h.on hb16;have hB:=rO w6 x.s4.a x.s5.a x.s4.c x.s5.c s.classes s.joins h6.r4 h6.r5 hs.2.2.2.1 hs.2.2.2.2 okc okj;rw [←h.n4, ←h.n5]at hB;refine⟨_,_,_,by rw [af _ _ p6];rfl,_,_,_,by rw [af _ _ p6];rfl,?_⟩;refine hB.mono ?_;rintro e w7 ⟨bp,rfl,hBd,b7,_⟩;refine⟨_,_,rfl,aa.no rfl ?_⟩;intro w8 hw8;have b8:Below w7.heap.size w7 w8:=by subst hw8;exact ba w7
    have b48:Below w4.heap.size w4 w8:=ab b5 (ab b6 (ab b7 b8));have p8:=ah b48 p4;have a8:=ah b48 a4;have hb18:=ab hb14 b48;have ptr8:∀ {w':World},w'.heap[w2.heap.size]? =some (.cells #[.pointer (some ⟨tp,0,none⟩)] 100 (0,0))→w'.cell? (nb w2)=some (.pointer (some ⟨tp,0,none⟩)):=fun hh=>by
     have:=af _ _ hh 0;rw [an]at this;exact this
    refine⟨_,_,_,_,_,_,_,_,_,_,_,_,_,_,_,_,aV p8,_,ptr8 a8,?_⟩;refine(mV w8 x s (h.on hb18) hs).mono ?_;rintro e w9 ⟨x',rfl,hx',b9,ho9⟩;refine⟨_,_,_,_,_,_,_,_,_,_,_,_,_,_,_,_,rfl,⟨ptr8 (ah b9 a8),trivial⟩,?_⟩;rintro w10 rfl;have b10:=ag w9 (.cells (dX x' tp bp mp 0 ⟨none,0,0⟩ 0) dC);have b19:=ab hb18 b9;refine⟨ab b19 b10,?_⟩;have hbv:bq s= .ok T:=by rw [bq,hl];simp only [hm,hi]
    rw [hbv];refine⟨w9.heap.size,rfl,w9,x',tp,bp,mp,⟨⟨hx',?_,hok,?_,?_,hright,?_,?_⟩,b10,Nat.le_refl _,ao _ _,.inl ⟨rfl,rfl⟩⟩,b19.size,(ho9.base hb18.size).on b10⟩
    ·exact(hT4.on b48).on b9
    ·exact(hBd.on b8).on b9
    ·exact((((hMk.is).on b6).on b7).on b8).on b9
    ·intro y hy;have:=List.findIdx?_eq_none_iff.1 hi y hy;have:=of_decide_eq_false this;omega
    ·have:=kX (ys:=[]) hm (by simp);simpa using this
def sB (w:World) (s:ai) (v:Value) (w':World):Prop:=Below w.heap.size w w'∧if s.right=true then(match bq s with
 | .error q=>v= .tuple #[.pointer none,.int .i64 q.2.1,.int .i64 q.2.2]∧q.2.2≠0
 | .ok T=>∃p,v= .tuple #[.pointer (some ⟨p,0,none⟩),.int .i64 0,.int .i64 0]∧gK w.heap.size w' p s T)else v= .tuple #[.pointer none,.int .i64 0,.int .i64 1]
theorem fa (w:World) (x:aG) (s:ai) (h:aM w x s):
  CP 37 #[x.v] w fun e w'=>∃v,e= .returned v∧sB w s v w':=by
 refine Ap x.ranked x.s1.a x.s1.n x.s1.c x.s2.a x.s2.n x.s2.c x.s3.a x.s3.n x.s3.c x.s4.a x.s4.n x.s4.c x.s5.a x.s5.n x.s5.c w (sB w s) ?_;intro w1 hw1;have hb1:Below w.heap.size w w1:=by subst hw1;exact ag _ _
 have p1:w1.heap[w.heap.size]? =some (.cells x.cells bd (0,0)):=by subst hw1;exact ao _ _
 have h1:=h.on hb1;refine⟨_,_,_,_,_,_,_,_,_,_,_,_,_,_,_,_,aV p1,?_⟩;refine(qL x s w1 h1).mono ?_;rintro e w2 ⟨rfl,b2⟩;have hb2:=ab hb1 b2;refine⟨_,rfl,aa.mk (fun h0=>?_) fun h0=>?_⟩
 ·have h0:s.right=false:=by simpa using h0
  refine⟨hb2,?_⟩;rw [if_neg (by rw [h0];simp)]
 ·have h0:s.right=true:=by simpa using h0
  have p2:=ah b2 p1;refine⟨_,_,_,_,_,_,_,_,_,_,_,_,_,_,_,_,aV p2,?_⟩;refine(ov w2 x s (h.on hb2) h0).mono ?_;rintro e w3 ⟨v,rfl,b3,hp⟩;have hb3:=ab hb2 b3;cases hx:bq s with
  |error q=>
   rw [hx]at hp;obtain⟨rfl,hq⟩:=hp;refine⟨_,_,_,_,rfl,hb3,?_⟩;rw [if_pos h0,hx];exact⟨rfl,hq⟩
  |ok T=>
   rw [hx]at hp;obtain⟨p,rfl,hV⟩:=hp;refine⟨_,_,_,_,rfl,hb3,?_⟩;rw [if_pos h0,hx];exact⟨p,rfl,hV.base hb2.size⟩
structure pn (w:World) (v:Nat) (c:Array Value) (tp bp mp:Nat):Prop where
 blk:w.heap[v]? =some (.cells c dC (0,0))
 size:c.size=14
 c6:c[6]? =some (.pointer (some ⟨tp,0,none⟩))
 c7:c[7]? =some (.pointer (some ⟨bp,0,none⟩))
 c8:c[8]? =some (.pointer (some ⟨mp,0,none⟩))
theorem eB.vblk {w:World} {v:Nat} {s:ai} {T:List bl} {w0:World} {x:aG} {tp bp mp:Nat} {d:Int} {l:Sl} {uses:Int} (h:eB w v s T w0 x tp bp mp d l uses):pn w v (dX x tp bp mp d l uses) tp bp mp:=⟨h.blk,rfl,rfl,rfl,rfl⟩
theorem pn.on {w w':World} {v:Nat} {c:Array Value} {tp bp mp:Nat} (h:pn w v c tp bp mp) (hb:Below w.heap.size w w'):pn w' v c tp bp mp:=⟨ah hb h.blk,h.size,h.c6,h.c7,h.c8⟩
theorem jX (w:World) (v:Nat) {c:Array Value} (h:w.heap[v]? =some (.cells c dC (0,0))) (a b:Nat):w.cell? (((⟨v,0,none⟩:Addr).add a).add b)=c[a+b]? :=by rw [Addr.add_add];exact af _ _ h _
theorem sq {w:World} {v:Nat} {c:Array Value} {tp bp mp:Nat} (h:pn w v c tp bp mp):CP 54 #[.pointer (some ⟨v,0,none⟩)] w fun e w'=>e= .returned (.pointer (some ⟨tp,0,none⟩))∧w'=w:=by
 refine aU (lS (some ⟨v,0,none⟩) w) ?_;exact aa.no rfl (ae.mk _ rfl ⟨_,by rw [jX w v h.blk];exact h.c6,rfl,rfl⟩)
theorem lb {w:World} {v:Nat} {c:Array Value} {tp bp mp:Nat} (h:pn w v c tp bp mp):CP 56 #[.pointer (some ⟨v,0,none⟩)] w fun e w'=>e= .returned (.pointer (some ⟨mp,0,none⟩))∧w'=w:=by
 refine aU (lV (some ⟨v,0,none⟩) w) ?_;exact aa.no rfl (ae.mk _ rfl ⟨_,by rw [jX w v h.blk];exact h.c8,rfl,rfl⟩)
theorem fC {w:World} {v:Nat} {c:Array Value} {tp bp mp:Nat} (h:pn w v c tp bp mp) {T:List bl} (hT:eF w tp T):CP 50 #[.pointer (some ⟨v,0,none⟩)] w fun e w'=>e= .returned (.int .i64 T.length)∧w'=w:=by
 refine aU (lR (some ⟨v,0,none⟩) w) ?_;refine(sq h).mono ?_;rintro e w1 ⟨rfl,hw⟩;subst hw;refine⟨_,rfl,(ii w1 tp T hT).mono ?_⟩;rintro e w2 ⟨rfl,hw⟩;subst hw;exact⟨_,rfl,rfl,rfl⟩
theorem dT.few {w:World} {s:ai} {T:List bl} {x:aG} {tp bp mp:Nat} (h:dT w s T x tp bp mp):s.specials.length≤1000000:=(bT h.right).2.2.1
def cJ (s:ai) (T:List bl) (id:Int):Bool:=decide (id∈s.specials.map (·.1)∨cq T id)
theorem jT {w:World} {v:Nat} {c:Array Value} {tp bp mp:Nat} (h:pn w v c tp bp mp) {s:ai} {T:List bl} {x:aG} (hp:dT w s T x tp bp mp) (id:Int):CP 49 #[.pointer (some ⟨v,0,none⟩),.int .i64 id] w fun e w'=>e= .returned (.bool (cJ s T id))∧w'=w:=by
 refine az (qq (some ⟨v,0,none⟩) id w (fun u w'=>u= .bool (cJ s T id)∧w'=w) ?_) (by rintro v w' ⟨rfl,h⟩;exact⟨rfl,h⟩);refine(lb h).mono ?_;rintro e w1 ⟨rfl,hw⟩;subst hw;refine⟨_,rfl,(iD w1 mp s.specials hp.marks hp.few id).mono ?_⟩;rintro e w2 ⟨rfl,hw⟩;subst hw;have hm:(eN s.specials id).isSome=true↔id∈s.specials.map (·.1):=ko;refine⟨_,_,rfl,aa.mk (fun h0=>?_) fun h0=>aa.mk (fun h1=>?_) fun h1=>?_⟩
 ·refine⟨?_,rfl⟩;rw [cJ,decide_eq_true (.inl (hm.1 h0))]
 ·have h1:=of_decide_eq_true h1;refine(fC h hp.tab).mono ?_;rintro e w3 ⟨rfl,hw⟩;subst hw;refine⟨_,rfl,?_,rfl⟩;congr 1;have hn:id∉s.specials.map (·.1):=fun h=>by rw [hm.2 h]at h0;cases h0
  unfold cJ;exact decide_eq_decide.2 ⟨fun h=>.inr ⟨h1,h⟩,fun h=>h.elim (fun h=>absurd h hn) fun h=>h.2⟩
 ·have h1:=of_decide_eq_false h1;have hn:id∉s.specials.map (·.1):=fun h=>by rw [hm.2 h]at h0;cases h0
  refine⟨?_,rfl⟩;rw [cJ,decide_eq_false (fun h=>h.elim (fun h=>hn h) fun h=>h1 h.1)]
theorem Eo:∃i,Tryz.prog.info? ik=some i∧i.zero=some (.bool false)∧i.size=1∧i.bytes=1:=by
 have h:(Tryz.prog.info? ik).map (fun i=>(i.zero,i.size,i.bytes))=some (some (.bool false),1,1):=by kernel_rfl
 obtain⟨i,hi,he⟩:=Option.map_eq_some_iff.1 h;simp only [Prod.mk.injEq]at he;exact⟨i,hi,he.1,he.2.1,he.2.2⟩
theorem sx (w:World) (n:Nat) (hn:n≤1000000):(Instr.makeSlice 117 (.int .i64 n) (.int .i64 n)).run Tryz.prog w= .ok (.slice (some (nb w)) n n) (w.alloc (.cells (Array.replicate n (.bool false)) ik)):=by
 obtain⟨i,hi,hz,hs,hb⟩:=Eo;have:=Go.run_make (P:=Tryz.prog) w 117 ik i (.bool false) (by kernel_rfl) hi hz .i64 .i64 (n:Int) (n:Int) (by omega) (Int.le_refl _) (by rw [hb];omega) (by omega);rw [this];congr 3;rw [hs];apply Array.ext
 ·rw [size_madeCells];simp
 ·intro j h1 h2;simp only [madeCells,Array.getElem_map,Array.getElem_range,Array.getElem_replicate];show(#[Value.bool false]:Array Value)[j%1]! =_;rw [Nat.mod_one];rfl
theorem df (s:ai) (T:List bl):(fA s T).length=T.length:=by simp [fA]
theorem qz (s:ai) (T:List bl) {i:Nat} (hi:i<T.length):(fA s T)[i]'(by rw [df];exact hi)=gM s T i:=by simp [fA]
def fu (s:ai) (T:List bl) (i:Nat):List Bool:=(fA s T).take i++List.replicate (T.length-i) false
theorem rQ (s:ai) (T:List bl) (i:Nat) (hi:i≤T.length):(fu s T i).length=T.length:=by
 simp [fu,df];omega
theorem zZ (s:ai) (T:List bl) (i:Nat) (hi:i<T.length):(fu s T i).set i (gM s T i)=fu s T (i+1):=by
 have hl:((fA s T).take i).length=i:=by simp [df];omega
 have ht:(fA s T).take (i+1)=(fA s T).take i++ [gM s T i]:=by
  rw [List.take_add_one,List.getElem?_eq_getElem (by rw [df];exact hi),qz s T hi];rfl
 unfold fu;rw [List.set_append_right _ _ (by omega),hl,Nat.sub_self,ht,show T.length-i=(T.length- (i+1))+1 by omega,List.replicate_succ,List.set_cons_zero];simp
theorem B6 (w w0:World) (v:Nat) (c:Array Value) (tp bp mp:Nat) (h:pn w v c tp bp mp) (s:ai) (T:List bl) (x:aG) (hp:dT w0 s T x tp bp mp) (h0:Below w0.heap.size w0 w) (hv:w0.heap.size≤v):
  CP 108 #[.pointer (some ⟨v,0,none⟩)] w fun e w'=>e= .returned (.tuple #[])∧∃l:Sl,w'.heap[v]? =some (.cells (c.setIfInBounds 12 l.v) dC (0,0))∧l.n=T.length∧w'.ownsRow w.heap.size ik 1 l.v l.n ((fA s T).flatMap kf)∧bB v w w':=by
 refine aU (yO (some ⟨v,0,none⟩) w) ?_;have hpn:=hp.on h0;refine(fC h hpn.tab).mono ?_;rintro e w1 ⟨rfl,hw⟩;subst hw;have hmost:=hp.ok.most;have hvl:v<w1.heap.size:=(Array.getElem?_eq_some_iff.1 h.blk).1;refine⟨_,rfl,some (nb w1),T.length,T.length,_,sx w1 T.length (by omega),?_⟩;have hb2:=ag w1 (.cells (Array.replicate T.length (.bool false)) ik);have hblk2:=ah hb2 h.blk;have hz2:(w1.alloc (.cells (Array.replicate T.length (Value.bool false)) ik)).heap.size=w1.heap.size+1:=ax _ _;have hown2:(w1.alloc (.cells (Array.replicate T.length (.bool false)) ik)).ownsRow w1.heap.size ik 1 (.slice (some (nb w1)) T.length T.length) T.length ((fu s T 0).flatMap kf):=by
  have hf:(fu s T 0).flatMap kf=List.replicate T.length (.bool false):=by
   simp [fu,kf,List.flatMap_replicate]
  rw [hf];refine⟨by simp,.inr ⟨w1.heap.size,T.length,_,rfl,Nat.le_refl _,ao _ _,Nat.le_refl _,by unfold maxLen;omega,by simp,by simp⟩⟩
 refine ae.mk _ rfl ⟨rfl,⟨_,by rw [jX _ v hblk2,Array.getElem?_eq_getElem (by rw [h.size];decide)]⟩,by rw [Addr.add_add];exact a_ hblk2,?_⟩;intro w3 hw3;rw [Addr.add_add]at hw3;have hblk3:w3.heap[v]? =some (.cells (c.setIfInBounds 12 (.slice (some (nb w1)) T.length T.length)) dC (0,0)):=by subst hw3;exact bo hblk2 _
 have ht3:bB v w1 w3:=by
  refine(bB.of_below hb2).trans ?_;subst hw3;exact⟨rfl,rfl,rfl,by rw [aO];exact Nat.le_refl _,fun k _ hk=>ay (by rw [aq];exact hk)⟩
 have hown3:w3.ownsRow w1.heap.size ik 1 (.slice (some (nb w1)) T.length T.length) T.length ((fu s T 0).flatMap kf):=by
  subst hw3;exact db hown2 _ (by rw [aq];intro e;have:=Option.some.inj e;simp at this;omega)
 have hz3:w3.heap.size=w1.heap.size+1:=by subst hw3;rw [aO];exact hz2
 have g12:∀ {w':World},w'.heap[v]? =some (.cells (c.setIfInBounds 12 (.slice (some (nb w1)) T.length T.length)) dC (0,0))→w'.cell? (((⟨v,0,none⟩:Addr).add 9).add 3)=some (.slice (some (nb w1)) T.length T.length):=fun hh=>by
  rw [jX _ v hh,Array.getElem?_setIfInBounds_self_of_lt (by rw [h.size];decide)]
 have gk:∀ {w':World},w'.heap[v]? =some (.cells (c.setIfInBounds 12 (.slice (some (nb w1)) T.length T.length)) dC (0,0))→pn w' v (c.setIfInBounds 12 (.slice (some (nb w1)) T.length T.length)) tp bp mp:=fun hh=>⟨hh,by simp [h.size],by rw [Array.getElem?_setIfInBounds_ne (by decide)];exact h.c6,by rw [Array.getElem?_setIfInBounds_ne (by decide)];exact h.c7,by rw [Array.getElem?_setIfInBounds_ne (by decide)];exact h.c8⟩;refine ae.mk _ rfl ⟨_,_,_,g12 hblk3,?_⟩;intro I hI;have key:=aK (α:=World) T.length (fun i w'=>w'.heap[v]? =some (.cells (c.setIfInBounds 12 (.slice (some (nb w1)) T.length T.length)) dC (0,0))∧w'.ownsRow w1.heap.size ik 1 (.slice (some (nb w1)) T.length T.length) T.length ((fu s T i).flatMap kf)∧bB v w1 w') (fun i w'=>I [.int .i64 (i:Int)] w') w3 ⟨hblk3,hown3,ht3⟩ ?_ ?_
 ·exact key
 ·rintro i hi ih w4 ⟨hblk4,hown4,ht4⟩;have hB4:Below w0.heap.size w0 w4:=h0.trans (ht4.below hv h0.size);have hp4:=hp.on hB4;have hin:cq T (i:Int):=⟨by omega,by omega⟩;refine hI _ _ (aa.yes (by simp;omega) (ae.mk _ rfl ⟨_,by rw [jX _ v hblk4];exact(gk hblk4).c6,?_⟩));refine(lg w4 tp T hp4.tab (i:Int)).mono ?_;rintro e w5 ⟨rfl,hw⟩;subst hw;rw [if_pos hin];have hshort:(aX T (i:Int)).length≤64:=by
   obtain⟨y,hy,hyb⟩:=dY hin;rw [hyb];exact hp.ok.short y (List.mem_of_getElem? hy)
  refine⟨_,_,rfl,ae.mk _ rfl ⟨_,by rw [jX _ v hblk4];exact(gk hblk4).c6,?_⟩⟩;refine(nY w5 tp T hp4.tab hp.ok.sound hp.ok.pos (aX T (i:Int)) (by omega)).mono ?_;rintro e w6 ⟨A,N,C,rfl,hown6,hN,hB6⟩;refine⟨A,N,C,rfl,?_⟩;intro w7 hw7;have hB7:Below w5.heap.size w5 w7:=by subst hw7;exact hB6.drew
  have hblk7:=ah hB7 hblk4;have hown7:=aL hown4 hB7;have henc7:w7.ownsRow w5.heap.size cE 1 (.slice A N C) N ((cW T (aX T (i:Int))).flatMap aQ):=by subst hw7;exact du hown6
  have ht7:=ht4.trans (bB.of_below hB7);have fin:∀(b:Bool) (w8:World),b=gM s T i→Below w7.heap.size w7 w8→
    ae (some (nb w1)) (fun pa_20=>
         (0:Int)≤(i:Int)∧(i:Int) < ((T.length:Nat):Int)∧
         (Value.bool b).oneCell'=true∧(∃u,w8.cell? (pa_20.add ((i:Int).toNat*1))=some u)∧w8.frozen? (pa_20.add ((i:Int).toNat*1))=false∧
         ∀w9:World,w9=(w8.setCell (pa_20.add ((i:Int).toNat*1)) (Value.bool b))→
         Ar .i64 ((i:Int)+1) (fun n_21=>I [Value.int .i64 n_21] w9)):=by
   intro b w8 hb hB8;have hblk8:=ah hB8 hblk7;have hown8:=aL hown7 hB8;have hget:(fu s T i)[i]? =some false:=by
    unfold fu;have hl:((fA s T).take i).length=i:=by simp [df];omega
    rw [List.getElem?_append_right (by omega),hl,Nat.sub_self,List.getElem?_replicate,if_pos (by omega)]
   obtain⟨u,f,k⟩:=tk (l:=⟨some (nb w1),T.length,T.length⟩) (enc:=kf) (sz:=1) (fun _=>rfl) (by decide) hown8 (rQ s T i (by omega)).symm rfl hget (k:=0) (by decide) b (.bool b) rfl;rw [an]at u f k;refine ae.mk _ rfl ⟨by omega,by omega,rfl,u,f,?_⟩;intro w9 hw9;obtain⟨r9,s9,z9,b9⟩:=k w9 hw9;refine Ar.ok64 (by omega) (by omega) (ih w9 ⟨?_,?_,?_⟩)
   ·rw [s9 v (by intro e;have:=Option.some.inj e;simp at this;omega)];exact hblk8
   ·rw [hb,zZ s T i hi]at r9;exact r9
   ·have t8:=ht7.trans (bB.of_below hB8);have hbb:=b9 w1.heap.size w1 (Nat.le_refl _);have ob:(Value.slice (some (nb w1)) T.length T.length).ownBlock=some w1.heap.size:=rfl;refine⟨?_,?_,?_,by rw [z9];exact t8.size,fun j hj hjv=>?_⟩
    ·subst hw9;exact t8.os
    ·subst hw9;exact t8.tape
    ·subst hw9;exact t8.output
    ·rw [s9 j (by rw [show(Sl.v ⟨some (nb w1),T.length,T.length⟩).ownBlock=some w1.heap.size from rfl];intro e;have:=Option.some.inj e;omega),t8.block j hj hjv]
  refine ae.mk _ rfl ⟨_,_,_,g12 hblk7,aa.mk (fun h1=>?_) fun h1=>?_⟩
  ·have h1:N=1:=by have:((N:Nat):Int)=1:=by simpa using h1
                   omega
   rw [h1]at hN
   match hx:cW T (aX T (i:Int))with
   | []=>rw [hx]at hN;simp at hN
   |y::z::t=>rw [hx]at hN;simp at hN
   | [y]=>
    rw [hx]at henc7;obtain⟨a,ha,hc⟩:=kb (l:=⟨A,N,C⟩) (enc:=aQ) (sz:=1) (fun _=>rfl) (by decide) henc7 (i:=0) (x:=y) rfl;have hc0:=hc 0 _ rfl;rw [an]at hc0;refine ae.mk a ha ⟨Int.le_refl _,by omega,y,hc0,aa.mk (fun h2=>?_) fun h2=>?_⟩
    ·have h2:y=(i:Int):=by simpa using h2
     refine ae.mk _ rfl ⟨_,by rw [jX _ v hblk7];exact(gk hblk7).c7,?_⟩;refine(zj w7 bp s.classes s.joins (hp4.on hB7).bound (qJ hp.right).1 (aX T (i:Int)) (by omega)).mono ?_;rintro e w8 ⟨rfl,hB8⟩;refine⟨_,rfl,⟨g12 (ah hB8 hblk7),trivial⟩,fin _ w8 ?_ hB8⟩;unfold gM;rw [hx,h2];simp
    ·have h2:y≠(i:Int):=by simpa using h2
     refine fin false w7 ?_ (Below.refl _ _);unfold gM;rw [hx];simp [h2]
  ·have h1:N≠1:=by intro e;rw [e]at h1;simp at h1
   refine fin false w7 ?_ (Below.refl _ _);unfold gM;rw [decide_eq_false (fun e=>by rw [e]at hN;simp at hN;exact h1 hN)];rfl
 ·rintro w4 ⟨hblk4,hown4,ht4⟩;refine hI _ _ (aa.no (by simp) ⟨rfl,⟨some (nb w1),T.length,T.length⟩,hblk4,rfl,?_,ht4⟩);have:fu s T T.length=fA s T:=by
   unfold fu;rw [Nat.sub_self,List.replicate_zero,List.append_nil,List.take_of_length_le (by rw [df];exact Nat.le_refl _)]
  rw [this]at hown4;exact hown4
theorem mG (w:World):(callFunc 271 #[]).run Tryz.prog w= .ok (.value (.tuple #[])) w:=run_call_mark0 Tryz.func271 (by kernel_rfl) (by kernel_rfl) (by kernel_rfl) .disable (by kernel_rfl) w
theorem oW (w:World):(callFunc 273 #[]).run Tryz.prog w= .ok (.value (.tuple #[])) w:=run_call_mark0 Tryz.func273 (by kernel_rfl) (by kernel_rfl) (by kernel_rfl) .enable (by kernel_rfl) w
theorem uF (a:Addr) (w:World):(callFunc 274 #[.pointer (some a)]).run Tryz.prog w= .ok (.value (.tuple #[])) w:=run_call_marked Tryz.func274 (by kernel_rfl) (by kernel_rfl) (by kernel_rfl) .acquire (by kernel_rfl) a w
theorem mD (a:Addr) (w:World):(callFunc 276 #[.pointer (some a)]).run Tryz.prog w= .ok (.value (.tuple #[])) w:=run_call_marked Tryz.func276 (by kernel_rfl) (by kernel_rfl) (by kernel_rfl) .releaseMerge (by kernel_rfl) a w
theorem jt (a:Addr) (n:Int) (w:World) (hc:w.cell? a=some (.int .i64 n)) (hz:w.frozen? a=false):
  CP 105 #[.pointer (some a),.int .i64 1] w fun e w'=>e= .returned (.int .i64 (IntKind.i64.wrap (n+1)))∧w'=w.setCell a (.int .i64 (IntKind.i64.wrap (n+1))):=by
 have hadd:=run_call_add (P:=Tryz.prog) Tryz.func159 (by kernel_rfl) (by kernel_rfl) (by kernel_rfl) .i64 (by kernel_rfl) (y:=1) (s:=IntKind.i64.wrap (n+1)) hc hz (by simp [go_sem])
 go_enter Tryz.func105,Tryz.ntmps105
 go_wp2
 go_ret
 exact⟨congrArg (fun z:Int=>Ending.returned (Value.int .i64 z)) (by unfold wrap64;exact(IntKind.wrap_i64 _).symm),congrArg (fun z:Int=>w.setCell a (Value.int .i64 z)) (by unfold wrap64;exact(IntKind.wrap_i64 _).symm)⟩
theorem pU (a:Addr) (n:Int) (w:World) (hc:w.cell? a=some (.int .i64 n)) (hz:w.frozen? a=false):
  CP 105 #[.pointer (some a),.int .i64 1] w fun e w'=>∃m:Int,e= .returned (.int .i64 m)∧w'=w.setCell a (.int .i64 m):=
 (jt a n w hc hz).mono fun _ _ ⟨h1,h2⟩=>⟨_,h1,h2⟩
theorem zg (a:Addr) (x:Value) (u:FrameMode) (w:World) (hc:w.cell? a=some x) (hz:w.frozen? a=false):
  CallsD Tryz.prog 209 #[.pointer (some a),.bool true] u w fun e u' w'=>u'=u∧(e= .returned (.tuple #[])∧w'=w.drew.setCell a (.int .u32 1)):=by
 have hc':w.drew.cell? a=some x:=by go_simp
 have hz':w.drew.frozen? a=false:=by go_simp
 have hst:=run_call_store (P:=Tryz.prog) Tryz.func249 (by kernel_rfl) (by kernel_rfl) (by kernel_rfl) (by kernel_rfl) (k:=.u32) (y:=1) hc' hz'
 go_enter_d Tryz.func209,Tryz.ntmps209
 go_wp2
 go_region_calls
 all_goals (go_end0;exact⟨rfl,rfl⟩)
theorem vC (a:Addr) (u:FrameMode) (w:World) (hc:w.cell? a=some (.int .i32 1)) (hz:w.frozen? a=false):
  CallsD Tryz.prog 208 #[.pointer (some a)] u w fun e u' w'=>u'=u∧(e= .returned (.tuple #[])∧w'=w.setCell a (.int .i32 0)):=by
 have hd:=mG;have he:=oW;have hr:=mD;have hadd:=run_call_add (P:=Tryz.prog) Tryz.func277 (by kernel_rfl) (by kernel_rfl) (by kernel_rfl) .i32 (by kernel_rfl) (y:= -1) (s:=0) hc hz (by simp [go_sem];rfl);have hcv:=run_convert_to_unsafe (P:=Tryz.prog) (src:=347) (dst:=351) Tryz.underlying347 Tryz.underlying351 (by kernel_rfl) hc
 go_enter_d Tryz.func208,Tryz.ntmps208
 go_wp2
 go_end0
 go_wp2
 go_end0
 exact⟨rfl,rfl⟩
theorem Bq (a:Addr) (w:World) (hc:w.cell? a=some (.int .i32 0)) (hz:w.frozen? a=false):
  CP 207 #[.pointer (some a)] w fun e w'=>e= .returned (.tuple #[])∧w'=w.setCell a (.int .i32 1):=by
 have hd:=mG;have he:=oW;have ha:=uF;have hcas:=run_call_cas_hit (P:=Tryz.prog) Tryz.func272 (by kernel_rfl) (by kernel_rfl) (by kernel_rfl) .i32 (by kernel_rfl) (y:=1) hc hz;have hc':(w.setCell a (.int .i32 1)).cell? a=some (.int .i32 1):=World.cell?_setCell_same w a _ hc;have hcv:=run_convert_to_unsafe (P:=Tryz.prog) (src:=347) (dst:=351) Tryz.underlying347 Tryz.underlying351 (by kernel_rfl) hc'
 go_enter Tryz.func207,Tryz.ntmps207
 go_wp2
 first |go_end0 |(simp only [Exit.inBlock,Exit.then];refine bodyPost_ret (results_none rfl _ _ _) rfl ?_) |refine bodyPost_ret (results_none rfl _ _ _) rfl ?_
 go_wp2
 go_end0
 exact⟨rfl,rfl⟩
set_option maxHeartbeats 1600000 in
theorem Bk (v:Nat) (w:World) (K:World→Prop)
  (hfind:CP 108 #[.pointer (some ⟨v,0,none⟩)] (w.setCell ⟨v,10,none⟩ (.int .i32 1)) fun e w'=>e= .returned (.tuple #[])∧K w')
  (hK:∀w',K w'→w'.cell? ⟨v,9,none⟩=some (.int .u32 0)∧w'.frozen? ⟨v,9,none⟩=false∧w'.cell? ⟨v,10,none⟩=some (.int .i32 1)∧w'.frozen? ⟨v,10,none⟩=false)
  (h0:w.cell? ⟨v,9,none⟩=some (.int .u32 0)) (h1:w.cell? ⟨v,10,none⟩=some (.int .i32 0)) (f0:w.frozen? ⟨v,9,none⟩=false) (f1:w.frozen? ⟨v,10,none⟩=false):
  CP 162 #[.pointer (some ⟨v,9,none⟩),.func (.func 108) #[.pointer (some ⟨v,0,none⟩)] #[]] w fun e w'=>e= .returned (.tuple #[])∧∃w2,K w2∧w'=(w2.drew.setCell ⟨v,9,none⟩ (.int .u32 1)).setCell ⟨v,10,none⟩ (.int .i32 0):=by
 have hl:=run_call_load (P:=Tryz.prog) Tryz.func206 (by kernel_rfl) (by kernel_rfl) (by kernel_rfl) .u32 (by kernel_rfl) (w:=w.setCell ⟨v,10,none⟩ (.int .i32 1)) (a:=⟨v,9,none⟩) (x:=0) ((World.cell?_setCell_other _ ⟨v,10,none⟩ ⟨v,9,none⟩ _ (by simp)).trans h0);have hnot:∀(x:Bool) (w:World),(Op.unary .not (.bool x)).run Tryz.prog w= .ok (.bool (!x)) w:=fun _ _=>rfl
 go_enter_defers Tryz.func162,Tryz.ntmps162
 go_wp2_with (go_at_call 207;refine(Bq ⟨v,10,none⟩ _ (by go_simp) (by go_simp)).mono ?_;rintro e w' ⟨rfl,rfl⟩)
 go_wp2_with (first |(go_at_call 108;refine hfind.mono ?_;rintro e w' ⟨rfl,hk⟩) |go_in)
 obtain⟨k0,k1,k2,k3⟩:=hK _ hk;refine leaves_cons (f:=209) (args:=#[.pointer (some ⟨v,9,none⟩),.bool true]) (by simp) (by simp [go_sem]) ?_;refine(zg ⟨v,9,none⟩ (.int .u32 0) .returning _ k0 k1).mono ?_;rintro e u' w'' ⟨rfl,rfl,rfl⟩;refine leaves_cons (f:=208) (args:=#[.pointer (some ⟨v,10,none⟩)]) (by simp [settle]) (by simp [go_sem]) ?_;refine(vC ⟨v,10,none⟩ _ _ ?_ ?_).mono ?_
 ·refine(World.cell?_setCell_other _ ⟨v,9,none⟩ ⟨v,10,none⟩ _ (by simp)).trans ?_;rw [World.cell?_drew];exact k2
 ·simp [k3]
 rintro e u' w'' ⟨rfl,rfl,rfl⟩;simp [Leaves,settle,results,Tryz.results162];exact⟨_,hk,rfl⟩
set_option maxHeartbeats 1600000 in
theorem FO (v:Nat) (w:World) (K:World→Prop)
  (hfind:CP 108 #[.pointer (some ⟨v,0,none⟩)] (w.setCell ⟨v,10,none⟩ (.int .i32 1)) fun e w'=>e= .returned (.tuple #[])∧K w')
  (hK:∀w',K w'→w'.cell? ⟨v,9,none⟩=some (.int .u32 0)∧w'.frozen? ⟨v,9,none⟩=false∧w'.cell? ⟨v,10,none⟩=some (.int .i32 1)∧w'.frozen? ⟨v,10,none⟩=false)
  (h0:w.cell? ⟨v,9,none⟩=some (.int .u32 0)) (h1:w.cell? ⟨v,10,none⟩=some (.int .i32 0)) (f0:w.frozen? ⟨v,9,none⟩=false) (f1:w.frozen? ⟨v,10,none⟩=false):
  CP 107 #[.pointer (some ⟨v,9,none⟩),.func (.func 108) #[.pointer (some ⟨v,0,none⟩)] #[]] w fun e w'=>e= .returned (.tuple #[])∧∃w2,K w2∧w'=(w2.drew.setCell ⟨v,9,none⟩ (.int .u32 1)).setCell ⟨v,10,none⟩ (.int .i32 0):=by
 have hl:=run_call_load (P:=Tryz.prog) Tryz.func206 (by kernel_rfl) (by kernel_rfl) (by kernel_rfl) .u32 (by kernel_rfl) h0;have hnot:∀(x:Bool) (w:World),(Op.unary .not (.bool x)).run Tryz.prog w= .ok (.bool (!x)) w:=fun _ _=>rfl
 go_enter Tryz.func107,Tryz.ntmps107
 go_wp2_with (first |(go_at_call 162;refine(Bk v w K hfind hK h0 h1 f0 f1).mono ?_;rintro e w' ⟨rfl,hk⟩) |(go_at_call 161;go_in))
 go_end0
 exact⟨rfl,hk⟩
theorem BB (a:Addr) (d:Int) (hd:¬d=0) (fv:Value) (w:World) (h0:w.cell? a=some (.int .u32 d)):
  CP 107 #[.pointer (some a),fv] w fun e w'=>e= .returned (.tuple #[])∧w'=w:=by
 have hl:=run_call_load (P:=Tryz.prog) Tryz.func206 (by kernel_rfl) (by kernel_rfl) (by kernel_rfl) .u32 (by kernel_rfl) h0;have hnot:∀(x:Bool) (w:World),(Op.unary .not (.bool x)).run Tryz.prog w= .ok (.bool (!x)) w:=fun _ _=>rfl;have hd':(d != 0)=true:=by simp [hd]
 go_enter Tryz.func107,Tryz.ntmps107
 go_wp2
 go_end0
 exact⟨rfl,rfl⟩
def fi (s:ai) (T:List bl) (id:Int):Bool:=decide (id∈s.specials.map (·.1))||(decide (cq T id)&&gM s T id.toNat)
theorem Dq {w w0:World} {v:Nat} {c:Array Value} (h:w.heap[v]? =some (.cells c dC (0,0))) (hb:Below w0.heap.size w0 w) (hv:w0.heap.size≤v) (j:Nat) (u:Value):
  (w.setCell ⟨v,j,none⟩ u).heap[v]? =some (.cells (c.setIfInBounds j u) dC (0,0))∧Below w0.heap.size w0 (w.setCell ⟨v,j,none⟩ u)∧bB v w (w.setCell ⟨v,j,none⟩ u):=
 ⟨gl h u,hb.setCell (p:=⟨v,j,none⟩) hv u,⟨rfl,rfl,rfl,by rw [aO];exact Nat.le_refl _,fun k _ hk=>ay hk⟩⟩
theorem lD (w:World) (v:Nat) (s:ai) (T:List bl) (h:eU w v s T) (id:Int):
  CP 43 #[.pointer (some ⟨v,0,none⟩),.int .i64 id] w fun e w'=>e= .returned (.bool (fi s T id))∧eU w' v s T∧bB v w w':=by
 obtain⟨w0,x,tp,bp,mp,d,l,uses,hV⟩:=h;refine az (qG (some ⟨v,0,none⟩) id w (fun u w'=>u= .bool (fi s T id)∧eU w' v s T∧bB v w w') ?_) (by rintro v w' ⟨rfl,h⟩;exact⟨rfl,h⟩);refine aa.no rfl (ae.mk _ rfl ?_);have e13:(⟨v,0,none⟩:Addr).add 13=⟨v,13,none⟩:=by rw [aA,Nat.zero_add]
 have e9:((⟨v,0,none⟩:Addr).add 9).add 0=⟨v,9,none⟩:=by rw [aA,aA]
 have at_:∀ {w':World} {c:Array Value},w'.heap[v]? =some (.cells c dC (0,0))→∀j,w'.cell? ⟨v,j,none⟩=c[j]? :=fun h j=>cY h;have fz:∀ {w':World} {c:Array Value},w'.heap[v]? =some (.cells c dC (0,0))→∀j,w'.frozen? ⟨v,j,none⟩=false:=fun h j=>eT h;rw [e13];refine(pU ⟨v,13,none⟩ uses w (at_ hV.blk 13) (fz hV.blk 13)).mono ?_;rintro e w1 ⟨m,rfl,hw1⟩;obtain⟨b1,o1,t1⟩:=Dq hV.blk hV.below hV.lt 13 (.int .i64 m);rw [←hw1]at b1 o1 t1;have b1:w1.heap[v]? =some (.cells (dX x tp bp mp d l m) dC (0,0)):=b1;have hV1:eB w1 v s T w0 x tp bp mp d l m:=⟨hV.parts,o1,hV.lt,b1,hV.once.imp (fun h=>h) fun⟨p,q,r⟩=>⟨p,q,t1.own r fun e=>by have:=(cn r _ e).1;omega⟩⟩;refine⟨m,rfl,ae.mk _ rfl ⟨_,by rw [jX _ v b1];rfl,?_⟩⟩;have hp1:=hV1.now;refine(iD w1 mp s.specials hp1.marks hp1.few id).mono ?_;rintro e w2 ⟨rfl,hw⟩;subst hw;have hm:(eN s.specials id).isSome=true↔id∈s.specials.map (·.1):=ko;refine⟨_,_,rfl,aa.mk (fun h0=>?_) fun h0=>?_⟩
 ·refine⟨?_,⟨w0,x,tp,bp,mp,d,l,m,hV1⟩,t1⟩;rw [fi,decide_eq_true (hm.1 h0)];rfl
 have hnm:id∉s.specials.map (·.1):=fun h=>by rw [hm.2 h]at h0;cases h0
 refine ae.mk _ rfl ?_;rw [e9];have rest:∀(w3:World) (l3:Sl),eB w3 v s T w0 x tp bp mp 1 l3 m→bB v w w3→
   aa (decide ((id:Int)≥0))
     (ae (some ⟨v,0,none⟩) (fun pa_3=>
      ∃lA:Option Addr,∃lN:Nat,∃lC:Nat,w3.cell? ((pa_3.add 9).add 3)=some (Value.slice lA lN lC)∧
      aa (decide ((id:Int) < ((lN:Nat):Int)))
       (ae (some ⟨v,0,none⟩) (fun pa_4=>
        ∃lA_5:Option Addr,∃lN_6:Nat,∃lC_7:Nat,w3.cell? ((pa_4.add 9).add 3)=some (Value.slice lA_5 lN_6 lC_7)∧
        ae lA_5 (fun pa_8=>
        (0:Int)≤id∧id< ((lN_6:Nat):Int)∧
        ∃b:Bool,w3.cell? (pa_8.add ((id:Int).toNat*1))=some (Value.bool b)∧
        (Value.bool b= .bool (fi s T id)∧eU w3 v s T∧bB v w w3))))
       (Value.bool false= .bool (fi s T id)∧eU w3 v s T∧bB v w w3)))
     (Value.bool false= .bool (fi s T id)∧eU w3 v s T∧bB v w w3):=by
  intro w3 l3 hV3 t3;have hVI:eU w3 v s T:=⟨w0,x,tp,bp,mp,1,l3,m,hV3⟩;obtain⟨hln,hown⟩:l3.n=T.length∧w3.ownsRow (v+1) ik 1 l3.v l3.n ((fA s T).flatMap kf):=by
   rcases hV3.once with⟨h,_⟩ |⟨_,h1,h2⟩
   ·cases h
   ·exact⟨h1,h2⟩
  have off:¬cq T id→(Value.bool false= .bool (fi s T id)∧eU w3 v s T∧bB v w w3):=fun hn=>⟨by rw [fi,decide_eq_false hnm,decide_eq_false hn];rfl,hVI,t3⟩;have c12:w3.cell? (((⟨v,0,none⟩:Addr).add 9).add 3)=some (.slice l3.a l3.n l3.c):=by rw [jX _ v hV3.blk];rfl
  refine aa.mk (fun h1=>?_) fun h1=>off fun h=>?_
  ·have h1:=of_decide_eq_true h1;refine ae.mk _ rfl ⟨_,_,_,c12,aa.mk (fun h2=>?_) fun h2=>off fun h=>?_⟩
   ·have h2:=of_decide_eq_true h2;have hin:cq T id:=⟨h1,by omega⟩;have hlt:id.toNat<T.length:=by omega
    obtain⟨a,ha,hc⟩:=kb (enc:=kf) (sz:=1) (fun _=>rfl) (by decide) hown (i:=id.toNat) (x:=gM s T id.toNat) (by rw [List.getElem?_eq_getElem (by rw [df];exact hlt),qz s T hlt]);have hc0:=hc 0 _ rfl;rw [an]at hc0;refine ae.mk _ rfl ⟨_,_,_,c12,ae.mk a ha ⟨h1,by omega,_,hc0,?_,hVI,t3⟩⟩;rw [fi,decide_eq_false hnm,decide_eq_true hin];simp
   ·have h2:=of_decide_eq_false h2;have:=h.2;omega
  ·have h1:=of_decide_eq_false h1;have:=h.1;omega
 rcases hV1.once with⟨rfl,rfl⟩ |⟨rfl,hln,hown⟩
 ·-- for the first time
  obtain⟨b2,o2,t2⟩:=Dq b1 o1 hV.lt 10 (.int .i32 1);have hvb:pn (w2.setCell ⟨v,10,none⟩ (.int .i32 1)) v ((dX x tp bp mp 0 ⟨none,0,0⟩ m).setIfInBounds 10 (.int .i32 1)) tp bp mp:=⟨b2,rfl,rfl,rfl,rfl⟩;have hz2:(w2.setCell ⟨v,10,none⟩ (.int .i32 1)).heap.size=w2.heap.size:=aO _ _ _;have hvl:v<w2.heap.size:=(Array.getElem?_eq_some_iff.1 b1).1;refine(FO v w2 (fun w'=>∃l:Sl,w'.heap[v]? =some (.cells (((dX x tp bp mp 0 ⟨none,0,0⟩ m).setIfInBounds 10 (.int .i32 1)).setIfInBounds 12 l.v) dC (0,0))∧l.n=T.length∧w'.ownsRow (w2.setCell ⟨v,10,none⟩ (.int .i32 1)).heap.size ik 1 l.v l.n ((fA s T).flatMap kf)∧bB v (w2.setCell ⟨v,10,none⟩ (.int .i32 1)) w') (B6 _ w0 v _ tp bp mp hvb s T x hV.parts o2 hV.lt) ?_ (at_ b1 9) (at_ b1 10) (fz b1 9) (fz b1 10)).mono ?_
  ·rintro w' ⟨l',hb',_⟩;exact⟨at_ hb' 9,fz hb' 9,at_ hb' 10,fz hb' 10⟩
  ·rintro e w3 ⟨rfl,wf,⟨l',hbf,hlf,hof,htf⟩,hw3⟩;refine⟨rfl,?_⟩;have of:Below w0.heap.size w0 wf:=o2.trans (htf.below hV.lt o2.size);have hbd:wf.drew.heap[v]? =some (.cells (((dX x tp bp mp 0 ⟨none,0,0⟩ m).setIfInBounds 10 (.int .i32 1)).setIfInBounds 12 l'.v) dC (0,0)):=hbf;obtain⟨b4,o4,t4⟩:=Dq hbd of.drew hV.lt 9 (.int .u32 1);obtain⟨b5,o5,t5⟩:=Dq b4 o4 hV.lt 10 (.int .i32 0);rw [←hw3]at b5 o5 t5;have tt:bB v wf w3:=((bB.of_below (ba wf)).trans t4).trans t5;have hne:l'.v.ownBlock≠some v:=fun e=>by have:=(cn hof _ e).1;omega
   refine rest w3 l' ⟨hV.parts,o5,hV.lt,b5,.inr ⟨rfl,hlf,cD (tt.own hof hne) (by omega)⟩⟩ (((t1.trans t2).trans htf).trans tt)
 ·-- it was done
  refine(BB ⟨v,9,none⟩ 1 (by decide) _ w2 (at_ b1 9)).mono ?_;rintro e w3 ⟨rfl,hw⟩;subst hw;exact⟨rfl,rest w3 l hV1 t1⟩
theorem BD (w:World) (id:Int):CP 43 #[.pointer none,.int .i64 id] w fun e w'=>e= .returned (.bool false)∧w'=w:=by
 refine aU (qG none id w) ?_;exact aa.yes rfl ⟨rfl,rfl⟩
def LS (T:List bl) (t:Int):List Int:=bh (aX T t)
theorem dK {T:List bl} (h:gW T):(au T).length+256=T.length:=by
 have:=h.len;simp [au];omega
theorem Fi {T:List bl} (h:gW T) {i:Nat} (hi:i<256):T[i]? =some (b_ i):=by
 have h1:(T.take 256)[i]? =T[i]? :=List.getElem?_take_of_lt hi;rw [←h1,h.low];simp [bf,hi]
theorem sM {T:List bl} (h:gW T) {i:Nat} (hi:i<256):aX T (i:Int)= [UInt8.ofNat i]:=by
 simp [aX,Fi h hi,b_]
theorem E7 {T:List bl} (h:gW T):∀(n i:Nat),i≤n→i<T.length→aX T (i:Int)≠ []:=by
 intro n;induction n with
 |zero=>
  intro i hi hl;rw [sM h (by omega)];simp
 |succ n ih=>
  intro i hi hl;by_cases h256:i<256
  ·rw [sM h h256];simp
  ·obtain⟨h1,h2,h3⟩:=h.step i _ (List.getElem?_eq_getElem hl) (by omega);have:aX T (i:Int)=T[i].1:=by simp [aX,hl]
   rw [this,h3];have:=ih T[i].2.1.toNat (by omega) (by omega);rw [show((T[i].2.1.toNat:Nat):Int)=T[i].2.1 by omega]at this;simp [this]
theorem vR (a b:Bs):bh (a++b)=bh a++bh b:=by simp [bh]
def cm (s:ai) (T:List bl):Voc:=⟨au T,LS T,cutB s.classes s.joins,s.specials.map (·.1)⟩
theorem AT {T:List bl} (h:gW T) (t:Int):cq T t↔Lg (au T) t:=by
 have ml:=dK h;unfold cq Lg;omega
theorem mZ {T:List bl} (h:gW T) (s:Bs):cW T s=after (au T) (au T).length (bh s):=by
 have ml:=dK h;unfold cW qb after;rw [show((T.length:Int)-256).toNat=(au T).length by omega]
theorem tn {cut:Int→Int→Bool}:∀l:List Int,eS cut l↔∀(j:Nat) (x y:Int),l[j]? =some x→l[j+1]? =some y→cut x y=false
 | []=>by simp [eS]
 | [x]=>by simp [eS]
 |x::y::r=>by
  simp only [eS,tn (y::r)];constructor
  ·rintro⟨h1,h2⟩ j a b ha hb;cases j with
   |zero=>
    simp at ha hb;rw [←ha, ←hb];exact h1
   |succ j=>exact h2 j a b (by simpa using ha) (by simpa using hb)
  ·intro h;exact⟨h 0 x y rfl rfl,fun j a b ha hb=>h (j+1) a b (by simpa using ha) (by simpa using hb)⟩
theorem uv {cut:Int→Int→Bool} {l:List Int} (hl:l≠ []):(ew cut l).length≤1↔eS cut l:=by
 constructor
 ·intro h;obtain⟨h1,h2⟩:=mH (cut:=cut) l
  match hc:ew cut l with
  | []=>rw [hc]at h2;exact absurd h2.symm hl
  | [p]=>
   rw [hc]at h1 h2;simp at h2;subst h2;exact h1.2
  |p::q::r=>rw [hc]at h;simp at h
 ·intro h;have:=iu (cut:=cut) [l] ⟨hl,h⟩;simp at this;rw [this];simp
theorem yg (cut:Int→Int→Bool) (b:Bs):kc cut b=true↔eS cut (bh b):=by
 unfold kc;rw [decide_eq_true_eq,tn];have hget:∀j:Nat,(bh b)[j]? =(b[j]?).map fun z:UInt8=>(z.toNat:Int):=fun j=>by simp [bh]
 constructor
 ·intro h j x y hx hy;rw [hget]at hx hy;obtain⟨u,hu,rfl⟩:=Option.map_eq_some_iff.1 hx;obtain⟨v,hv,rfl⟩:=Option.map_eq_some_iff.1 hy;have hl:=(List.getElem?_eq_some_iff.1 hv).1;have:=h (j+1) hl;unfold fc at this;rw [if_neg (by omega),Nat.add_sub_cancel,hu,hv]at this;simpa using this
 ·intro h j hj;unfold fc;rw [if_neg (by omega)];cases j with
  |zero=>split<;>simp
  |succ j=>
   rw [Nat.add_sub_cancel,List.getElem?_eq_getElem hj,List.getElem?_eq_getElem (show j<b.length by omega)];have:=h j (b[j].toNat) (b[j+1].toNat) (by rw [hget,List.getElem?_eq_getElem (show j<b.length by omega)];rfl) (by rw [hget,List.getElem?_eq_getElem hj];rfl);simp [this]
theorem Fe {w:World} {s:ai} {T:List bl} {x:aG} {tp bp mp:Nat} (h:dT w s T x tp bp mp) (t:Int):cJ s T t=true↔(cm s T).Has t:=by
 unfold cJ Voc.Has;rw [decide_eq_true_eq,AT h.ok];exact Or.comm
theorem Rw.touch {α:Type} {enc:α→List Value} {sz:Nat} {w w':World} {a:Option Addr} {xs:List α} {v:Nat} (h:Rw enc sz w a xs) (t:bB v w w') (ha:xs≠ []→∀p,a=some p→p.block≠v):Rw enc sz w' a xs:=by
 intro j x hj;obtain⟨p,rfl,hp,hc⟩:=h j x hj;refine⟨p,rfl,Nat.lt_of_lt_of_le hp t.size,fun k u hk=>?_⟩;rw [World.cell?_of_block (w:=w) (by rw [aq,aq];exact t.block p.block hp (ha (List.ne_nil_of_mem (List.mem_of_getElem? hj)) p rfl))];exact hc k u hk
def jQ (s:ai) (T:List bl) (ids:List Int):Int:=yT (fun id=> !cJ s T id) ids
theorem zC {s:ai} {T:List bl} {ids:List Int} (h:¬jQ s T ids≥0):∀t∈ids,cJ s T t=true:=by
 intro t ht;unfold jQ yT at h;cases hx:ids.findIdx? (fun id=> !cJ s T id)with
 |some i=>rw [hx]at h;exact absurd (show((i:Nat):Int)≥0 by omega) h
 |none=>
  have:=List.findIdx?_eq_none_iff.1 hx t ht;simpa using this
instance (V:Voc) (ids:List Int):Decidable (V.Canon ids):=inferInstanceAs (Decidable (V.encode (V.itemsAll ids)=ids))
open Go Go.Value
def K1 (a:OA) (b c:Nat) (d:OA) (f g:Nat) (h:OA) (i j:Nat) (k:OA) (l m:Nat) (n:OA) (o p:Nat) (q:OA) (r s:Nat) (w:World) (R:RW):Prop:=
 ∀t,t=w.alloc (.cells #[slice a b c,slice d f g,slice h i j,slice k l m,slice n o p] 39)→
 ∀u:KW,(∀(x y:Int) (z:World),(aa (decide (x< (r:Int)))
 (∀a1,a1=z.drew→
 ∃b1 c1 d1 e1 f1 g1 h1 i1 j1 k1 l1 m1 n1 o1 p1,(a1.cell? (nb w)=some (slice b1 c1 d1)∧a1.cell? ((nb w).add 1)=some (slice e1 f1 g1)∧a1.cell? ((nb w).add 2)=some (slice h1 i1 j1)∧a1.cell? ((nb w).add 3)=some (slice k1 l1 m1)∧a1.cell? ((nb w).add 4)=some (slice n1 o1 p1)∧True)∧
 ae q (fun q1=>
 (0:Int)≤x∧x< (r:Int)∧
 ∃r1,a1.cell? (q1.add (x.toNat*1))=some (int .i64 r1)∧
 CP 46 #[agg #[slice b1 c1 d1,slice e1 f1 g1,slice h1 i1 j1,slice k1 l1 m1,slice n1 o1 p1],int .i64 r1] a1 (fun s1 t1=>
 ∃u1,s1= .returned (bool u1)∧
 aa (!u1)
 (R (int .i64 x) t1)
 (Ar .i64 (x+1) (fun v1=>
 u [int .i64 v1,int .i64 y] t1)))))
 (R (int .i64 (-1)) z))→u [int .i64 x,int .i64 y] z)→
 u [int .i64 0,int .i64 0] t
theorem zO (a:OA) (b c:Nat) (d:OA) (f g:Nat) (h:OA) (i j:Nat) (k:OA) (l m:Nat) (n:OA) (o p:Nat) (q:OA) (r s:Nat) (w:World) (R:RW) (hh:K1 a b c d f g h i j k l m n o p q r s w R):CR 17 #[agg #[slice a b c,slice d f g,slice h i j,slice k l m,slice n o p],slice q r s] w R:=
 aF (fn:=Tryz.f17) (by kernel_rfl) (by kernel_rfl) (by kernel_rfl) (by kernel_rfl) (by kernel_rfl) hh
def Lp (a:Bool) (b:OA) (c d:Nat) (f:OA) (g h:Nat) (i:OA) (j k:Nat) (l:OA) (m n:Nat) (o:OA) (p q:Nat) (w:World) (R:RW):Prop:=
 ∀r,r=w.alloc (.cells #[bool a,slice b c d,slice f g h,slice i j k,slice l m n,slice o p q] 71)→
 ∀s,s=r.alloc (.cells #[slice none 0 0,slice none 0 0,slice none 0 0,slice none 0 0,slice none 0 0] 39)→
 ∃t u x y z a1 b1 c1 d1 e1 f1 g1 h1 i1 j1 k1,(s.cell? (nb w)=some (bool t)∧s.cell? ((nb w).add 1)=some (slice u x y)∧s.cell? ((nb w).add 2)=some (slice z a1 b1)∧s.cell? ((nb w).add 3)=some (slice c1 d1 e1)∧s.cell? ((nb w).add 4)=some (slice f1 g1 h1)∧s.cell? ((nb w).add 5)=some (slice i1 j1 k1)∧True)∧
 CP 97 #[agg #[bool t,slice u x y,slice z a1 b1,slice c1 d1 e1,slice f1 g1 h1,slice i1 j1 k1]] s (fun l1 m1=>
 ∃n1 o1 p1 q1 r1 s1 t1 u1,l1= .returned (tuple #[agg #[slice n1 o1 p1,slice q1 r1 s1],int .i64 t1,int .i64 u1])∧
 ∀v1,v1=m1.alloc (.cells #[slice none 0 0,slice none 0 0] 35)→
 ar v1 (nb m1) (fun x1=>
 aa (u1 != 0)
 (ar x1 (nb r) (fun y1=>
 ∃z1 a2 b2 c2 d2 e2 f2 g2 h2 i2 j2 k2 l2 m2 n2,(y1.cell? (nb r)=some (slice z1 a2 b2)∧y1.cell? ((nb r).add 1)=some (slice c2 d2 e2)∧y1.cell? ((nb r).add 2)=some (slice f2 g2 h2)∧y1.cell? ((nb r).add 3)=some (slice i2 j2 k2)∧y1.cell? ((nb r).add 4)=some (slice l2 m2 n2)∧True)∧
 R (tuple #[agg #[slice z1 a2 b2,slice c2 d2 e2,slice f2 g2 h2,slice i2 j2 k2,slice l2 m2 n2],int .i64 1,int .i64 t1,int .i64 u1]) y1) [slice none 0 0,slice none 0 0,slice none 0 0,slice none 0 0,slice none 0 0] 0)
 (∃o2 p2 q2,x1.cell? ((nb w).add 3)=some (slice o2 p2 q2)∧
 CP 98 #[slice o2 p2 q2] x1 (fun r2 s2=>
 ∃t2 u2,r2= .returned (tuple #[int .i64 t2,int .i64 u2])∧
 aa (u2 != 0)
 (ar s2 (nb r) (fun v2=>
 ∃x2 y2 z2 a3 b3 c3 d3 e3 f3 g3 h3 i3 j3 k3 l3,(v2.cell? (nb r)=some (slice x2 y2 z2)∧v2.cell? ((nb r).add 1)=some (slice a3 b3 c3)∧v2.cell? ((nb r).add 2)=some (slice d3 e3 f3)∧v2.cell? ((nb r).add 3)=some (slice g3 h3 i3)∧v2.cell? ((nb r).add 4)=some (slice j3 k3 l3)∧True)∧
 R (tuple #[agg #[slice x2 y2 z2,slice a3 b3 c3,slice d3 e3 f3,slice g3 h3 i3,slice j3 k3 l3],int .i64 2,int .i64 t2,int .i64 u2]) v2) [slice none 0 0,slice none 0 0,slice none 0 0,slice none 0 0,slice none 0 0] 0)
 (∀m3:KW,(∀(n3 o3 p3 q3:Int) (r3:World),(∃s3 t3 u3,r3.cell? ((nb w).add 3)=some (slice s3 t3 u3)∧
 aa (decide (n3< (t3:Int)))
 (∀v3,v3=r3.drew→
 ∃x3 y3 z3,v3.cell? ((nb w).add 3)=some (slice x3 y3 z3)∧
 ae x3 (fun a4=>
 (0:Int)≤n3∧n3< (y3:Int)∧
 ∃b4,v3.cell? ((a4.add (n3.toNat*2)).add 0)=some (int .i64 b4)∧
 ∃c4 d4 e4,v3.cell? ((nb m1).add 0)=some (slice c4 d4 e4)∧
 aa (decide (b4< (d4:Int)))
 (ar v3 (nb r) (fun f4=>
 ∃g4 h4 i4 j4 k4 l4 m4 n4 o4 p4 q4 r4 s4 t4 u4,(f4.cell? (nb r)=some (slice g4 h4 i4)∧f4.cell? ((nb r).add 1)=some (slice j4 k4 l4)∧f4.cell? ((nb r).add 2)=some (slice m4 n4 o4)∧f4.cell? ((nb r).add 3)=some (slice p4 q4 r4)∧f4.cell? ((nb r).add 4)=some (slice s4 t4 u4)∧True)∧
 R (tuple #[agg #[slice g4 h4 i4,slice j4 k4 l4,slice m4 n4 o4,slice p4 q4 r4,slice s4 t4 u4],int .i64 2,int .i64 n3,int .i64 4]) f4) [slice none 0 0,slice none 0 0,slice none 0 0,slice none 0 0,slice none 0 0] 0)
 (Ar .i64 (n3+1) (fun v4=>
 m3 [int .i64 v4,int .i64 o3,int .i64 p3,int .i64 q3] v3))))
 (∃x4 y4 z4 a5 b5 c5,(r3.cell? (nb m1)=some (slice x4 y4 z4)∧r3.cell? ((nb m1).add 1)=some (slice a5 b5 c5)∧True)∧
 ∃d5 e5 f5,r3.cell? ((nb w).add 4)=some (slice d5 e5 f5)∧
 ∃g5 h5 i5,r3.cell? ((nb w).add 5)=some (slice g5 h5 i5)∧
 ∃j5 k5 l5,r3.cell? ((nb w).add 3)=some (slice j5 k5 l5)∧
 ar r3 (nb r) (fun m5=>
 ∃n5 o5 p5 q5 r5 s5 t5 u5 v5 x5 y5 z5 a6 b6 c6,(m5.cell? (nb r)=some (slice n5 o5 p5)∧m5.cell? ((nb r).add 1)=some (slice q5 r5 s5)∧m5.cell? ((nb r).add 2)=some (slice t5 u5 v5)∧m5.cell? ((nb r).add 3)=some (slice x5 y5 z5)∧m5.cell? ((nb r).add 4)=some (slice a6 b6 c6)∧True)∧
 R (tuple #[agg #[slice n5 o5 p5,slice q5 r5 s5,slice t5 u5 v5,slice x5 y5 z5,slice a6 b6 c6],int .i64 0,int .i64 0,int .i64 0]) m5) [slice x4 y4 z4,slice a5 b5 c5,slice d5 e5 f5,slice g5 h5 i5,slice j5 k5 l5] 0))→m3 [int .i64 n3,int .i64 o3,int .i64 p3,int .i64 q3] r3)→
 m3 [int .i64 0,int .i64 0,int .i64 0,int .i64 0] s2)))) [slice n1 o1 p1,slice q1 r1 s1] 0)
theorem ru (a:Bool) (b:OA) (c d:Nat) (f:OA) (g h:Nat) (i:OA) (j k:Nat) (l:OA) (m n:Nat) (o:OA) (p q:Nat) (w:World) (R:RW) (hh:Lp a b c d f g h i j k l m n o p q w R):CR 33 #[agg #[bool a,slice b c d,slice f g h,slice i j k,slice l m n,slice o p q]] w R:=
 aF (fn:=Tryz.f33) (by kernel_rfl) (by kernel_rfl) (by kernel_rfl) (by kernel_rfl) (by kernel_rfl) hh
def Lv (a:OA) (b c:Nat) (d:OA) (f g:Nat) (h:OA) (i j:Nat) (k:OA) (l m:Nat) (w:World) (R:RW):Prop:=
 aa (decide ((b:Int)>60))
 (R (bool true) w)
 (aa (decide ((f:Int)>20))
 (R (bool true) w)
 (aa (decide ((i:Int)>20))
 (R (bool true) w)
 (CP 102 #[slice k l m] w (fun n o=>
 ∃p,n= .returned (bool p)∧
 R (bool p) o))))
theorem Aa (a:OA) (b c:Nat) (d:OA) (f g:Nat) (h:OA) (i j:Nat) (k:OA) (l m:Nat) (w:World) (R:RW) (hh:Lv a b c d f g h i j k l m w R):CR 40 #[slice a b c,slice d f g,slice h i j,slice k l m] w R:=
 aF (fn:=Tryz.f40) (by kernel_rfl) (by kernel_rfl) (by kernel_rfl) (by kernel_rfl) (by kernel_rfl) hh
def LB (a:OA) (b c:Nat) (d:OA) (f g:Nat) (h:OA) (i j:Nat) (k:OA) (l m:Nat) (w:World) (R:RW):Prop:=
 ∀n,n=w.alloc (.cells #[bool false,slice none 0 0,slice none 0 0,slice none 0 0,slice none 0 0,slice none 0 0] 71)→
 CP 103 #[slice a b c] n (fun o p=>
 ∃q r s t x y,o= .returned (agg #[slice q r s,slice t x y])∧
 ∀z,z=p.alloc (.cells #[slice none 0 0,slice none 0 0] 35)→
 ar z (nb p) (fun a1=>
 ∃b1 c1 d1,a1.cell? ((nb p).add 1)=some (slice b1 c1 d1)∧
 ∀e1,e1=a1.alloc (.cells #[bool false,slice none 0 0,slice none 0 0,slice none 0 0,slice none 0 0,slice none 0 0] 71)→
 ar e1 (nb a1) (fun f1=>
 ∀g1:KW,(∀(h1:Int) (i1:World),(aa (decide (h1< (f:Int)))
 (aa (decide (h1<8))
 (∀j1:KW,(∀k1:World,(Ar .i64 (h1+1) (fun l1=>
 g1 [int .i64 l1] k1))→j1 [] k1)→
 Ar .i64 (h1+1) (fun m1=>
 (0:Int)≤h1∧h1≤m1∧m1≤(g:Int)∧True∧True∧
 CP 104 #[agg #[slice (cu d h1.toNat (g:Int).toNat 3) (m1.toNat-h1.toNat) ((g:Int).toNat-h1.toNat),slice none 0 0]] i1 (fun n1 o1=>
 ∃p1,n1= .returned (bool p1)∧
 aa p1
 (∀q1,q1=o1.drew→
 ∃r1 s1 t1,q1.cell? ((nb a1).add 4)=some (slice r1 s1 t1)∧
 ae d (fun u1=>
 (0:Int)≤h1∧h1< (f:Int)∧
 ∃v1 x1 y1,(q1.cell? (u1.add (h1.toNat*3))=some (int .i64 v1)∧q1.cell? ((u1.add (h1.toNat*3)).add 1)=some (int .i64 x1)∧q1.cell? ((u1.add (h1.toNat*3)).add 2)=some (int .i64 y1)∧True)∧
 ∀z1,z1=q1.alloc (.cells #[int .i64 v1,int .i64 x1,int .i64 y1] 89)→
 (z1.cell? ((nb a1).add 4)=some (slice r1 s1 t1)∧True)∧
 ∃a2 b2 c2 d2,(Builtin.append_ #[23,23] 23 #[slice r1 s1 t1,slice (some (nb q1)) 1 1]).run Tryz.prog z1= .ok (slice a2 b2 c2) d2∧
 (slice a2 b2 c2).oneCell'=true∧(∃u,d2.cell? ((nb a1).add 4)=some u)∧d2.frozen? ((nb a1).add 4)=false∧
 ∀e2,e2=(d2.setCell ((nb a1).add 4) (slice a2 b2 c2))→
 j1 [] e2))
 (j1 [] o1))))
 (∀f2:KW,(∀(g2:Int) (h2:World),(aa (decide (g2< (i:Int)))
 (aa (decide (g2<8))
 (∀i2:KW,(∀j2:World,(Ar .i64 (g2+1) (fun k2=>
 f2 [int .i64 k2] j2))→i2 [] j2)→
 Ar .i64 (g2+1) (fun l2=>
 (0:Int)≤g2∧g2≤l2∧l2≤(j:Int)∧True∧True∧
 CP 104 #[agg #[slice none 0 0,slice (cu h g2.toNat (j:Int).toNat 2) (l2.toNat-g2.toNat) ((j:Int).toNat-g2.toNat)]] h2 (fun m2 n2=>
 ∃o2,m2= .returned (bool o2)∧
 aa o2
 (∀p2,p2=n2.drew→
 ∃q2 r2 s2,p2.cell? ((nb a1).add 5)=some (slice q2 r2 s2)∧
 ae h (fun t2=>
 (0:Int)≤g2∧g2< (i:Int)∧
 ∃u2 v2,(p2.cell? (t2.add (g2.toNat*2))=some (int .i64 u2)∧p2.cell? ((t2.add (g2.toNat*2)).add 1)=some (int .i64 v2)∧True)∧
 ∀x2,x2=p2.alloc (.cells #[int .i64 u2,int .i64 v2] 170)→
 (x2.cell? ((nb a1).add 5)=some (slice q2 r2 s2)∧True)∧
 ∃y2 z2 a3 b3,(Builtin.append_ #[24,24] 24 #[slice q2 r2 s2,slice (some (nb p2)) 1 1]).run Tryz.prog x2= .ok (slice y2 z2 a3) b3∧
 (slice y2 z2 a3).oneCell'=true∧(∃u,b3.cell? ((nb a1).add 5)=some u)∧b3.frozen? ((nb a1).add 5)=false∧
 ∀c3,c3=(b3.setCell ((nb a1).add 5) (slice y2 z2 a3))→
 i2 [] c3))
 (i2 [] n2))))
 (∀d3:KW,(∀(e3:Int) (f3:World),(aa (decide (e3< (l:Int)))
 (aa (decide (e3<6))
 (∀g3:KW,(∀h3:World,(Ar .i64 (e3+1) (fun i3=>
 d3 [int .i64 i3] h3))→g3 [] h3)→
 ∀j3,j3=f3.drew→
 ∃k3 l3 m3,j3.cell? ((nb a1).add 3)=some (slice k3 l3 m3)∧
 Ar .i64 ((1000:Int)+e3) (fun n3=>
 ae k (fun o3=>
 (0:Int)≤e3∧e3< (l:Int)∧
 ∃p3,j3.cell? ((o3.add (e3.toNat*2)).add 1)=some (string p3)∧
 (∀q3,q3=j3.alloc (.cells #[] 87)→
 (q3.cell? ((o3.add (e3.toNat*2)).add 1)=some (string p3)∧True)∧
 (q3.cell? ((nb a1).add 3)=some (slice k3 l3 m3)∧True)∧
 (∃r3 s3 t3 u3,(Builtin.append_ #[25,25] 25 #[slice (some (nb j3)) 0 0,slice k3 l3 m3]).run Tryz.prog q3= .ok (slice r3 s3 t3) u3∧
 (u3.cell? ((o3.add (e3.toNat*2)).add 1)=some (string p3)∧True)∧
 ∀v3,v3=u3.alloc (.cells #[int .i64 n3,string p3] 87)→
 ∃x3 y3 z3 a4,(Builtin.append_ #[25,25] 25 #[slice r3 s3 t3,slice (some (nb u3)) 1 1]).run Tryz.prog v3= .ok (slice x3 y3 z3) a4∧
 CP 98 #[slice x3 y3 z3] a4 (fun b4 c4=>
 ∃d4 e4,b4= .returned (tuple #[int .i64 d4,int .i64 e4])∧
 aa (e4==0)
 ((slice x3 y3 z3).oneCell'=true∧(∃u,c4.cell? ((nb a1).add 3)=some u)∧c4.frozen? ((nb a1).add 3)=false∧
 ∀f4,f4=(c4.setCell ((nb a1).add 3) (slice x3 y3 z3))→
 g3 [] f4)
 (g3 [] c4)))∧
 (∀g4,g4=q3.alloc (.cells #[int .i64 n3,string p3] 87)→
 (g4.cell? ((nb a1).add 3)=some (slice k3 l3 m3)∧True)∧
 ∃h4 i4 j4 k4,(Builtin.append_ #[25,25] 25 #[slice (some (nb j3)) 0 0,slice k3 l3 m3]).run Tryz.prog g4= .ok (slice h4 i4 j4) k4∧
 ∃l4 m4 n4 o4,(Builtin.append_ #[25,25] 25 #[slice h4 i4 j4,slice (some (nb q3)) 1 1]).run Tryz.prog k4= .ok (slice l4 m4 n4) o4∧
 CP 98 #[slice l4 m4 n4] o4 (fun p4 q4=>
 ∃r4 s4,p4= .returned (tuple #[int .i64 r4,int .i64 s4])∧
 aa (s4==0)
 ((slice l4 m4 n4).oneCell'=true∧(∃u,q4.cell? ((nb a1).add 3)=some u)∧q4.frozen? ((nb a1).add 3)=false∧
 ∀t4,t4=(q4.setCell ((nb a1).add 3) (slice l4 m4 n4))→
 g3 [] t4)
 (g3 [] q4))))∧
 (∀u4,u4=j3.alloc (.cells #[int .i64 n3,string p3] 87)→
 (u4.cell? ((nb a1).add 3)=some (slice k3 l3 m3)∧True)∧
 ∀v4,v4=u4.alloc (.cells #[] 87)→
 (v4.cell? ((nb a1).add 3)=some (slice k3 l3 m3)∧True)∧
 ∃x4 y4 z4 a5,(Builtin.append_ #[25,25] 25 #[slice (some (nb u4)) 0 0,slice k3 l3 m3]).run Tryz.prog v4= .ok (slice x4 y4 z4) a5∧
 ∃b5 c5 d5 e5,(Builtin.append_ #[25,25] 25 #[slice x4 y4 z4,slice (some (nb j3)) 1 1]).run Tryz.prog a5= .ok (slice b5 c5 d5) e5∧
 CP 98 #[slice b5 c5 d5] e5 (fun f5 g5=>
 ∃h5 i5,f5= .returned (tuple #[int .i64 h5,int .i64 i5])∧
 aa (i5==0)
 ((slice b5 c5 d5).oneCell'=true∧(∃u,g5.cell? ((nb a1).add 3)=some u)∧g5.frozen? ((nb a1).add 3)=false∧
 ∀j5,j5=(g5.setCell ((nb a1).add 3) (slice b5 c5 d5))→
 g3 [] j5)
 (g3 [] g5))))))
 (∃k5 l5 m5 n5 o5 p5 q5 r5 s5 t5 u5 v5 x5 y5 z5 a6,(f3.cell? (nb a1)=some (bool k5)∧f3.cell? ((nb a1).add 1)=some (slice l5 m5 n5)∧f3.cell? ((nb a1).add 2)=some (slice o5 p5 q5)∧f3.cell? ((nb a1).add 3)=some (slice r5 s5 t5)∧f3.cell? ((nb a1).add 4)=some (slice u5 v5 x5)∧f3.cell? ((nb a1).add 5)=some (slice y5 z5 a6)∧True)∧
 ar f3 (nb w) (fun b6=>
 ∃c6 d6 e6 f6 g6 h6 i6 j6 k6 l6 m6 n6 o6 p6 q6 r6,(b6.cell? (nb w)=some (bool c6)∧b6.cell? ((nb w).add 1)=some (slice d6 e6 f6)∧b6.cell? ((nb w).add 2)=some (slice g6 h6 i6)∧b6.cell? ((nb w).add 3)=some (slice j6 k6 l6)∧b6.cell? ((nb w).add 4)=some (slice m6 n6 o6)∧b6.cell? ((nb w).add 5)=some (slice p6 q6 r6)∧True)∧
 R (agg #[bool c6,slice d6 e6 f6,slice g6 h6 i6,slice j6 k6 l6,slice m6 n6 o6,slice p6 q6 r6]) b6) [bool k5,slice l5 m5 n5,slice o5 p5 q5,slice r5 s5 t5,slice u5 v5 x5,slice y5 z5 a6] 0))
 (∃s6 t6 u6 v6 x6 y6 z6 a7 b7 c7 d7 e7 f7 g7 h7 i7,(f3.cell? (nb a1)=some (bool s6)∧f3.cell? ((nb a1).add 1)=some (slice t6 u6 v6)∧f3.cell? ((nb a1).add 2)=some (slice x6 y6 z6)∧f3.cell? ((nb a1).add 3)=some (slice a7 b7 c7)∧f3.cell? ((nb a1).add 4)=some (slice d7 e7 f7)∧f3.cell? ((nb a1).add 5)=some (slice g7 h7 i7)∧True)∧
 ar f3 (nb w) (fun j7=>
 ∃k7 l7 m7 n7 o7 p7 q7 r7 s7 t7 u7 v7 x7 y7 z7 a8,(j7.cell? (nb w)=some (bool k7)∧j7.cell? ((nb w).add 1)=some (slice l7 m7 n7)∧j7.cell? ((nb w).add 2)=some (slice o7 p7 q7)∧j7.cell? ((nb w).add 3)=some (slice r7 s7 t7)∧j7.cell? ((nb w).add 4)=some (slice u7 v7 x7)∧j7.cell? ((nb w).add 5)=some (slice y7 z7 a8)∧True)∧
 R (agg #[bool k7,slice l7 m7 n7,slice o7 p7 q7,slice r7 s7 t7,slice u7 v7 x7,slice y7 z7 a8]) j7) [bool s6,slice t6 u6 v6,slice x6 y6 z6,slice a7 b7 c7,slice d7 e7 f7,slice g7 h7 i7] 0))→d3 [int .i64 e3] f3)→
 d3 [int .i64 0] h2))
 (∀b8:KW,(∀(c8:Int) (d8:World),(aa (decide (c8< (l:Int)))
 (aa (decide (c8<6))
 (∀e8:KW,(∀f8:World,(Ar .i64 (c8+1) (fun g8=>
 b8 [int .i64 g8] f8))→e8 [] f8)→
 ∀h8,h8=d8.drew→
 ∃i8 j8 k8,h8.cell? ((nb a1).add 3)=some (slice i8 j8 k8)∧
 Ar .i64 ((1000:Int)+c8) (fun l8=>
 ae k (fun m8=>
 (0:Int)≤c8∧c8< (l:Int)∧
 ∃n8,h8.cell? ((m8.add (c8.toNat*2)).add 1)=some (string n8)∧
 (∀o8,o8=h8.alloc (.cells #[] 87)→
 (o8.cell? ((m8.add (c8.toNat*2)).add 1)=some (string n8)∧True)∧
 (o8.cell? ((nb a1).add 3)=some (slice i8 j8 k8)∧True)∧
 (∃p8 q8 r8 s8,(Builtin.append_ #[25,25] 25 #[slice (some (nb h8)) 0 0,slice i8 j8 k8]).run Tryz.prog o8= .ok (slice p8 q8 r8) s8∧
 (s8.cell? ((m8.add (c8.toNat*2)).add 1)=some (string n8)∧True)∧
 ∀t8,t8=s8.alloc (.cells #[int .i64 l8,string n8] 87)→
 ∃u8 v8 x8 y8,(Builtin.append_ #[25,25] 25 #[slice p8 q8 r8,slice (some (nb s8)) 1 1]).run Tryz.prog t8= .ok (slice u8 v8 x8) y8∧
 CP 98 #[slice u8 v8 x8] y8 (fun z8 a9=>
 ∃b9 c9,z8= .returned (tuple #[int .i64 b9,int .i64 c9])∧
 aa (c9==0)
 ((slice u8 v8 x8).oneCell'=true∧(∃u,a9.cell? ((nb a1).add 3)=some u)∧a9.frozen? ((nb a1).add 3)=false∧
 ∀d9,d9=(a9.setCell ((nb a1).add 3) (slice u8 v8 x8))→
 e8 [] d9)
 (e8 [] a9)))∧
 (∀e9,e9=o8.alloc (.cells #[int .i64 l8,string n8] 87)→
 (e9.cell? ((nb a1).add 3)=some (slice i8 j8 k8)∧True)∧
 ∃f9 g9 h9 i9,(Builtin.append_ #[25,25] 25 #[slice (some (nb h8)) 0 0,slice i8 j8 k8]).run Tryz.prog e9= .ok (slice f9 g9 h9) i9∧
 ∃j9 k9 l9 m9,(Builtin.append_ #[25,25] 25 #[slice f9 g9 h9,slice (some (nb o8)) 1 1]).run Tryz.prog i9= .ok (slice j9 k9 l9) m9∧
 CP 98 #[slice j9 k9 l9] m9 (fun n9 o9=>
 ∃p9 q9,n9= .returned (tuple #[int .i64 p9,int .i64 q9])∧
 aa (q9==0)
 ((slice j9 k9 l9).oneCell'=true∧(∃u,o9.cell? ((nb a1).add 3)=some u)∧o9.frozen? ((nb a1).add 3)=false∧
 ∀r9,r9=(o9.setCell ((nb a1).add 3) (slice j9 k9 l9))→
 e8 [] r9)
 (e8 [] o9))))∧
 (∀s9,s9=h8.alloc (.cells #[int .i64 l8,string n8] 87)→
 (s9.cell? ((nb a1).add 3)=some (slice i8 j8 k8)∧True)∧
 ∀t9,t9=s9.alloc (.cells #[] 87)→
 (t9.cell? ((nb a1).add 3)=some (slice i8 j8 k8)∧True)∧
 ∃u9 v9 x9 y9,(Builtin.append_ #[25,25] 25 #[slice (some (nb s9)) 0 0,slice i8 j8 k8]).run Tryz.prog t9= .ok (slice u9 v9 x9) y9∧
 ∃z9 a10 b10 c10,(Builtin.append_ #[25,25] 25 #[slice u9 v9 x9,slice (some (nb h8)) 1 1]).run Tryz.prog y9= .ok (slice z9 a10 b10) c10∧
 CP 98 #[slice z9 a10 b10] c10 (fun d10 e10=>
 ∃f10 g10,d10= .returned (tuple #[int .i64 f10,int .i64 g10])∧
 aa (g10==0)
 ((slice z9 a10 b10).oneCell'=true∧(∃u,e10.cell? ((nb a1).add 3)=some u)∧e10.frozen? ((nb a1).add 3)=false∧
 ∀h10,h10=(e10.setCell ((nb a1).add 3) (slice z9 a10 b10))→
 e8 [] h10)
 (e8 [] e10))))))
 (∃i10 j10 k10 l10 m10 n10 o10 p10 q10 r10 s10 t10 u10 v10 x10 y10,(d8.cell? (nb a1)=some (bool i10)∧d8.cell? ((nb a1).add 1)=some (slice j10 k10 l10)∧d8.cell? ((nb a1).add 2)=some (slice m10 n10 o10)∧d8.cell? ((nb a1).add 3)=some (slice p10 q10 r10)∧d8.cell? ((nb a1).add 4)=some (slice s10 t10 u10)∧d8.cell? ((nb a1).add 5)=some (slice v10 x10 y10)∧True)∧
 ar d8 (nb w) (fun z10=>
 ∃a11 b11 c11 d11 e11 f11 g11 h11 i11 j11 k11 l11 m11 n11 o11 p11,(z10.cell? (nb w)=some (bool a11)∧z10.cell? ((nb w).add 1)=some (slice b11 c11 d11)∧z10.cell? ((nb w).add 2)=some (slice e11 f11 g11)∧z10.cell? ((nb w).add 3)=some (slice h11 i11 j11)∧z10.cell? ((nb w).add 4)=some (slice k11 l11 m11)∧z10.cell? ((nb w).add 5)=some (slice n11 o11 p11)∧True)∧
 R (agg #[bool a11,slice b11 c11 d11,slice e11 f11 g11,slice h11 i11 j11,slice k11 l11 m11,slice n11 o11 p11]) z10) [bool i10,slice j10 k10 l10,slice m10 n10 o10,slice p10 q10 r10,slice s10 t10 u10,slice v10 x10 y10] 0))
 (∃q11 r11 s11 t11 u11 v11 x11 y11 z11 a12 b12 c12 d12 e12 f12 g12,(d8.cell? (nb a1)=some (bool q11)∧d8.cell? ((nb a1).add 1)=some (slice r11 s11 t11)∧d8.cell? ((nb a1).add 2)=some (slice u11 v11 x11)∧d8.cell? ((nb a1).add 3)=some (slice y11 z11 a12)∧d8.cell? ((nb a1).add 4)=some (slice b12 c12 d12)∧d8.cell? ((nb a1).add 5)=some (slice e12 f12 g12)∧True)∧
 ar d8 (nb w) (fun h12=>
 ∃i12 j12 k12 l12 m12 n12 o12 p12 q12 r12 s12 t12 u12 v12 x12 y12,(h12.cell? (nb w)=some (bool i12)∧h12.cell? ((nb w).add 1)=some (slice j12 k12 l12)∧h12.cell? ((nb w).add 2)=some (slice m12 n12 o12)∧h12.cell? ((nb w).add 3)=some (slice p12 q12 r12)∧h12.cell? ((nb w).add 4)=some (slice s12 t12 u12)∧h12.cell? ((nb w).add 5)=some (slice v12 x12 y12)∧True)∧
 R (agg #[bool i12,slice j12 k12 l12,slice m12 n12 o12,slice p12 q12 r12,slice s12 t12 u12,slice v12 x12 y12]) h12) [bool q11,slice r11 s11 t11,slice u11 v11 x11,slice y11 z11 a12,slice b12 c12 d12,slice e12 f12 g12] 0))→b8 [int .i64 c8] d8)→
 b8 [int .i64 0] h2))→f2 [int .i64 g2] h2)→
 f2 [int .i64 0] i1))
 (∀z12:KW,(∀(a13:Int) (b13:World),(aa (decide (a13< (i:Int)))
 (aa (decide (a13<8))
 (∀c13:KW,(∀d13:World,(Ar .i64 (a13+1) (fun e13=>
 z12 [int .i64 e13] d13))→c13 [] d13)→
 Ar .i64 (a13+1) (fun f13=>
 (0:Int)≤a13∧a13≤f13∧f13≤(j:Int)∧True∧True∧
 CP 104 #[agg #[slice none 0 0,slice (cu h a13.toNat (j:Int).toNat 2) (f13.toNat-a13.toNat) ((j:Int).toNat-a13.toNat)]] b13 (fun g13 h13=>
 ∃i13,g13= .returned (bool i13)∧
 aa i13
 (∀j13,j13=h13.drew→
 ∃k13 l13 m13,j13.cell? ((nb a1).add 5)=some (slice k13 l13 m13)∧
 ae h (fun n13=>
 (0:Int)≤a13∧a13< (i:Int)∧
 ∃o13 p13,(j13.cell? (n13.add (a13.toNat*2))=some (int .i64 o13)∧j13.cell? ((n13.add (a13.toNat*2)).add 1)=some (int .i64 p13)∧True)∧
 ∀q13,q13=j13.alloc (.cells #[int .i64 o13,int .i64 p13] 170)→
 (q13.cell? ((nb a1).add 5)=some (slice k13 l13 m13)∧True)∧
 ∃r13 s13 t13 u13,(Builtin.append_ #[24,24] 24 #[slice k13 l13 m13,slice (some (nb j13)) 1 1]).run Tryz.prog q13= .ok (slice r13 s13 t13) u13∧
 (slice r13 s13 t13).oneCell'=true∧(∃u,u13.cell? ((nb a1).add 5)=some u)∧u13.frozen? ((nb a1).add 5)=false∧
 ∀v13,v13=(u13.setCell ((nb a1).add 5) (slice r13 s13 t13))→
 c13 [] v13))
 (c13 [] h13))))
 (∀x13:KW,(∀(y13:Int) (z13:World),(aa (decide (y13< (l:Int)))
 (aa (decide (y13<6))
 (∀a14:KW,(∀b14:World,(Ar .i64 (y13+1) (fun c14=>
 x13 [int .i64 c14] b14))→a14 [] b14)→
 ∀d14,d14=z13.drew→
 ∃e14 f14 g14,d14.cell? ((nb a1).add 3)=some (slice e14 f14 g14)∧
 Ar .i64 ((1000:Int)+y13) (fun h14=>
 ae k (fun i14=>
 (0:Int)≤y13∧y13< (l:Int)∧
 ∃j14,d14.cell? ((i14.add (y13.toNat*2)).add 1)=some (string j14)∧
 (∀k14,k14=d14.alloc (.cells #[] 87)→
 (k14.cell? ((i14.add (y13.toNat*2)).add 1)=some (string j14)∧True)∧
 (k14.cell? ((nb a1).add 3)=some (slice e14 f14 g14)∧True)∧
 (∃l14 m14 n14 o14,(Builtin.append_ #[25,25] 25 #[slice (some (nb d14)) 0 0,slice e14 f14 g14]).run Tryz.prog k14= .ok (slice l14 m14 n14) o14∧
 (o14.cell? ((i14.add (y13.toNat*2)).add 1)=some (string j14)∧True)∧
 ∀p14,p14=o14.alloc (.cells #[int .i64 h14,string j14] 87)→
 ∃q14 r14 s14 t14,(Builtin.append_ #[25,25] 25 #[slice l14 m14 n14,slice (some (nb o14)) 1 1]).run Tryz.prog p14= .ok (slice q14 r14 s14) t14∧
 CP 98 #[slice q14 r14 s14] t14 (fun u14 v14=>
 ∃x14 y14,u14= .returned (tuple #[int .i64 x14,int .i64 y14])∧
 aa (y14==0)
 ((slice q14 r14 s14).oneCell'=true∧(∃u,v14.cell? ((nb a1).add 3)=some u)∧v14.frozen? ((nb a1).add 3)=false∧
 ∀z14,z14=(v14.setCell ((nb a1).add 3) (slice q14 r14 s14))→
 a14 [] z14)
 (a14 [] v14)))∧
 (∀a15,a15=k14.alloc (.cells #[int .i64 h14,string j14] 87)→
 (a15.cell? ((nb a1).add 3)=some (slice e14 f14 g14)∧True)∧
 ∃b15 c15 d15 e15,(Builtin.append_ #[25,25] 25 #[slice (some (nb d14)) 0 0,slice e14 f14 g14]).run Tryz.prog a15= .ok (slice b15 c15 d15) e15∧
 ∃f15 g15 h15 i15,(Builtin.append_ #[25,25] 25 #[slice b15 c15 d15,slice (some (nb k14)) 1 1]).run Tryz.prog e15= .ok (slice f15 g15 h15) i15∧
 CP 98 #[slice f15 g15 h15] i15 (fun j15 k15=>
 ∃l15 m15,j15= .returned (tuple #[int .i64 l15,int .i64 m15])∧
 aa (m15==0)
 ((slice f15 g15 h15).oneCell'=true∧(∃u,k15.cell? ((nb a1).add 3)=some u)∧k15.frozen? ((nb a1).add 3)=false∧
 ∀n15,n15=(k15.setCell ((nb a1).add 3) (slice f15 g15 h15))→
 a14 [] n15)
 (a14 [] k15))))∧
 (∀o15,o15=d14.alloc (.cells #[int .i64 h14,string j14] 87)→
 (o15.cell? ((nb a1).add 3)=some (slice e14 f14 g14)∧True)∧
 ∀p15,p15=o15.alloc (.cells #[] 87)→
 (p15.cell? ((nb a1).add 3)=some (slice e14 f14 g14)∧True)∧
 ∃q15 r15 s15 t15,(Builtin.append_ #[25,25] 25 #[slice (some (nb o15)) 0 0,slice e14 f14 g14]).run Tryz.prog p15= .ok (slice q15 r15 s15) t15∧
 ∃u15 v15 x15 y15,(Builtin.append_ #[25,25] 25 #[slice q15 r15 s15,slice (some (nb d14)) 1 1]).run Tryz.prog t15= .ok (slice u15 v15 x15) y15∧
 CP 98 #[slice u15 v15 x15] y15 (fun z15 a16=>
 ∃b16 c16,z15= .returned (tuple #[int .i64 b16,int .i64 c16])∧
 aa (c16==0)
 ((slice u15 v15 x15).oneCell'=true∧(∃u,a16.cell? ((nb a1).add 3)=some u)∧a16.frozen? ((nb a1).add 3)=false∧
 ∀d16,d16=(a16.setCell ((nb a1).add 3) (slice u15 v15 x15))→
 a14 [] d16)
 (a14 [] a16))))))
 (∃e16 f16 g16 h16 i16 j16 k16 l16 m16 n16 o16 p16 q16 r16 s16 t16,(z13.cell? (nb a1)=some (bool e16)∧z13.cell? ((nb a1).add 1)=some (slice f16 g16 h16)∧z13.cell? ((nb a1).add 2)=some (slice i16 j16 k16)∧z13.cell? ((nb a1).add 3)=some (slice l16 m16 n16)∧z13.cell? ((nb a1).add 4)=some (slice o16 p16 q16)∧z13.cell? ((nb a1).add 5)=some (slice r16 s16 t16)∧True)∧
 ar z13 (nb w) (fun u16=>
 ∃v16 x16 y16 z16 a17 b17 c17 d17 e17 f17 g17 h17 i17 j17 k17 l17,(u16.cell? (nb w)=some (bool v16)∧u16.cell? ((nb w).add 1)=some (slice x16 y16 z16)∧u16.cell? ((nb w).add 2)=some (slice a17 b17 c17)∧u16.cell? ((nb w).add 3)=some (slice d17 e17 f17)∧u16.cell? ((nb w).add 4)=some (slice g17 h17 i17)∧u16.cell? ((nb w).add 5)=some (slice j17 k17 l17)∧True)∧
 R (agg #[bool v16,slice x16 y16 z16,slice a17 b17 c17,slice d17 e17 f17,slice g17 h17 i17,slice j17 k17 l17]) u16) [bool e16,slice f16 g16 h16,slice i16 j16 k16,slice l16 m16 n16,slice o16 p16 q16,slice r16 s16 t16] 0))
 (∃m17 n17 o17 p17 q17 r17 s17 t17 u17 v17 x17 y17 z17 a18 b18 c18,(z13.cell? (nb a1)=some (bool m17)∧z13.cell? ((nb a1).add 1)=some (slice n17 o17 p17)∧z13.cell? ((nb a1).add 2)=some (slice q17 r17 s17)∧z13.cell? ((nb a1).add 3)=some (slice t17 u17 v17)∧z13.cell? ((nb a1).add 4)=some (slice x17 y17 z17)∧z13.cell? ((nb a1).add 5)=some (slice a18 b18 c18)∧True)∧
 ar z13 (nb w) (fun d18=>
 ∃e18 f18 g18 h18 i18 j18 k18 l18 m18 n18 o18 p18 q18 r18 s18 t18,(d18.cell? (nb w)=some (bool e18)∧d18.cell? ((nb w).add 1)=some (slice f18 g18 h18)∧d18.cell? ((nb w).add 2)=some (slice i18 j18 k18)∧d18.cell? ((nb w).add 3)=some (slice l18 m18 n18)∧d18.cell? ((nb w).add 4)=some (slice o18 p18 q18)∧d18.cell? ((nb w).add 5)=some (slice r18 s18 t18)∧True)∧
 R (agg #[bool e18,slice f18 g18 h18,slice i18 j18 k18,slice l18 m18 n18,slice o18 p18 q18,slice r18 s18 t18]) d18) [bool m17,slice n17 o17 p17,slice q17 r17 s17,slice t17 u17 v17,slice x17 y17 z17,slice a18 b18 c18] 0))→x13 [int .i64 y13] z13)→
 x13 [int .i64 0] b13))
 (∀u18:KW,(∀(v18:Int) (x18:World),(aa (decide (v18< (l:Int)))
 (aa (decide (v18<6))
 (∀y18:KW,(∀z18:World,(Ar .i64 (v18+1) (fun a19=>
 u18 [int .i64 a19] z18))→y18 [] z18)→
 ∀b19,b19=x18.drew→
 ∃c19 d19 e19,b19.cell? ((nb a1).add 3)=some (slice c19 d19 e19)∧
 Ar .i64 ((1000:Int)+v18) (fun f19=>
 ae k (fun g19=>
 (0:Int)≤v18∧v18< (l:Int)∧
 ∃h19,b19.cell? ((g19.add (v18.toNat*2)).add 1)=some (string h19)∧
 (∀i19,i19=b19.alloc (.cells #[] 87)→
 (i19.cell? ((g19.add (v18.toNat*2)).add 1)=some (string h19)∧True)∧
 (i19.cell? ((nb a1).add 3)=some (slice c19 d19 e19)∧True)∧
 (∃j19 k19 l19 m19,(Builtin.append_ #[25,25] 25 #[slice (some (nb b19)) 0 0,slice c19 d19 e19]).run Tryz.prog i19= .ok (slice j19 k19 l19) m19∧
 (m19.cell? ((g19.add (v18.toNat*2)).add 1)=some (string h19)∧True)∧
 ∀n19,n19=m19.alloc (.cells #[int .i64 f19,string h19] 87)→
 ∃o19 p19 q19 r19,(Builtin.append_ #[25,25] 25 #[slice j19 k19 l19,slice (some (nb m19)) 1 1]).run Tryz.prog n19= .ok (slice o19 p19 q19) r19∧
 CP 98 #[slice o19 p19 q19] r19 (fun s19 t19=>
 ∃u19 v19,s19= .returned (tuple #[int .i64 u19,int .i64 v19])∧
 aa (v19==0)
 ((slice o19 p19 q19).oneCell'=true∧(∃u,t19.cell? ((nb a1).add 3)=some u)∧t19.frozen? ((nb a1).add 3)=false∧
 ∀x19,x19=(t19.setCell ((nb a1).add 3) (slice o19 p19 q19))→
 y18 [] x19)
 (y18 [] t19)))∧
 (∀y19,y19=i19.alloc (.cells #[int .i64 f19,string h19] 87)→
 (y19.cell? ((nb a1).add 3)=some (slice c19 d19 e19)∧True)∧
 ∃z19 a20 b20 c20,(Builtin.append_ #[25,25] 25 #[slice (some (nb b19)) 0 0,slice c19 d19 e19]).run Tryz.prog y19= .ok (slice z19 a20 b20) c20∧
 ∃d20 e20 f20 g20,(Builtin.append_ #[25,25] 25 #[slice z19 a20 b20,slice (some (nb i19)) 1 1]).run Tryz.prog c20= .ok (slice d20 e20 f20) g20∧
 CP 98 #[slice d20 e20 f20] g20 (fun h20 i20=>
 ∃j20 k20,h20= .returned (tuple #[int .i64 j20,int .i64 k20])∧
 aa (k20==0)
 ((slice d20 e20 f20).oneCell'=true∧(∃u,i20.cell? ((nb a1).add 3)=some u)∧i20.frozen? ((nb a1).add 3)=false∧
 ∀l20,l20=(i20.setCell ((nb a1).add 3) (slice d20 e20 f20))→
 y18 [] l20)
 (y18 [] i20))))∧
 (∀m20,m20=b19.alloc (.cells #[int .i64 f19,string h19] 87)→
 (m20.cell? ((nb a1).add 3)=some (slice c19 d19 e19)∧True)∧
 ∀n20,n20=m20.alloc (.cells #[] 87)→
 (n20.cell? ((nb a1).add 3)=some (slice c19 d19 e19)∧True)∧
 ∃o20 p20 q20 r20,(Builtin.append_ #[25,25] 25 #[slice (some (nb m20)) 0 0,slice c19 d19 e19]).run Tryz.prog n20= .ok (slice o20 p20 q20) r20∧
 ∃s20 t20 u20 v20,(Builtin.append_ #[25,25] 25 #[slice o20 p20 q20,slice (some (nb b19)) 1 1]).run Tryz.prog r20= .ok (slice s20 t20 u20) v20∧
 CP 98 #[slice s20 t20 u20] v20 (fun x20 y20=>
 ∃z20 a21,x20= .returned (tuple #[int .i64 z20,int .i64 a21])∧
 aa (a21==0)
 ((slice s20 t20 u20).oneCell'=true∧(∃u,y20.cell? ((nb a1).add 3)=some u)∧y20.frozen? ((nb a1).add 3)=false∧
 ∀b21,b21=(y20.setCell ((nb a1).add 3) (slice s20 t20 u20))→
 y18 [] b21)
 (y18 [] y20))))))
 (∃c21 d21 e21 f21 g21 h21 i21 j21 k21 l21 m21 n21 o21 p21 q21 r21,(x18.cell? (nb a1)=some (bool c21)∧x18.cell? ((nb a1).add 1)=some (slice d21 e21 f21)∧x18.cell? ((nb a1).add 2)=some (slice g21 h21 i21)∧x18.cell? ((nb a1).add 3)=some (slice j21 k21 l21)∧x18.cell? ((nb a1).add 4)=some (slice m21 n21 o21)∧x18.cell? ((nb a1).add 5)=some (slice p21 q21 r21)∧True)∧
 ar x18 (nb w) (fun s21=>
 ∃t21 u21 v21 x21 y21 z21 a22 b22 c22 d22 e22 f22 g22 h22 i22 j22,(s21.cell? (nb w)=some (bool t21)∧s21.cell? ((nb w).add 1)=some (slice u21 v21 x21)∧s21.cell? ((nb w).add 2)=some (slice y21 z21 a22)∧s21.cell? ((nb w).add 3)=some (slice b22 c22 d22)∧s21.cell? ((nb w).add 4)=some (slice e22 f22 g22)∧s21.cell? ((nb w).add 5)=some (slice h22 i22 j22)∧True)∧
 R (agg #[bool t21,slice u21 v21 x21,slice y21 z21 a22,slice b22 c22 d22,slice e22 f22 g22,slice h22 i22 j22]) s21) [bool c21,slice d21 e21 f21,slice g21 h21 i21,slice j21 k21 l21,slice m21 n21 o21,slice p21 q21 r21] 0))
 (∃k22 l22 m22 n22 o22 p22 q22 r22 s22 t22 u22 v22 x22 y22 z22 a23,(x18.cell? (nb a1)=some (bool k22)∧x18.cell? ((nb a1).add 1)=some (slice l22 m22 n22)∧x18.cell? ((nb a1).add 2)=some (slice o22 p22 q22)∧x18.cell? ((nb a1).add 3)=some (slice r22 s22 t22)∧x18.cell? ((nb a1).add 4)=some (slice u22 v22 x22)∧x18.cell? ((nb a1).add 5)=some (slice y22 z22 a23)∧True)∧
 ar x18 (nb w) (fun b23=>
 ∃c23 d23 e23 f23 g23 h23 i23 j23 k23 l23 m23 n23 o23 p23 q23 r23,(b23.cell? (nb w)=some (bool c23)∧b23.cell? ((nb w).add 1)=some (slice d23 e23 f23)∧b23.cell? ((nb w).add 2)=some (slice g23 h23 i23)∧b23.cell? ((nb w).add 3)=some (slice j23 k23 l23)∧b23.cell? ((nb w).add 4)=some (slice m23 n23 o23)∧b23.cell? ((nb w).add 5)=some (slice p23 q23 r23)∧True)∧
 R (agg #[bool c23,slice d23 e23 f23,slice g23 h23 i23,slice j23 k23 l23,slice m23 n23 o23,slice p23 q23 r23]) b23) [bool k22,slice l22 m22 n22,slice o22 p22 q22,slice r22 s22 t22,slice u22 v22 x22,slice y22 z22 a23] 0))→u18 [int .i64 v18] x18)→
 u18 [int .i64 0] b13))→z12 [int .i64 a13] b13)→
 z12 [int .i64 0] i1))→g1 [int .i64 h1] i1)→
 g1 [int .i64 0] f1) [bool false,slice b1 c1 d1,slice none 0 0,slice none 0 0,slice none 0 0,slice none 0 0] 0) [slice q r s,slice t x y] 0)
theorem Ae (a:OA) (b c:Nat) (d:OA) (f g:Nat) (h:OA) (i j:Nat) (k:OA) (l m:Nat) (w:World) (R:RW) (hh:LB a b c d f g h i j k l m w R):CR 41 #[slice a b c,slice d f g,slice h i j,slice k l m] w R:=
 aF (fn:=Tryz.f41) (by kernel_rfl) (by kernel_rfl) (by kernel_rfl) (by kernel_rfl) (by kernel_rfl) hh
def Lq (a:Bool) (b:OA) (c d:Nat) (f:OA) (g h:Nat) (i:OA) (j k:Nat) (l:OA) (m n:Nat) (o:OA) (p q:Nat) (w:World) (R:RW):Prop:=
 ∀r,r=w.alloc (.cells #[bool a,slice b c d,slice f g h,slice i j k,slice l m n,slice o p q] 71)→
 ∀s,s=r.alloc (.cells #[slice none 0 0,slice none 0 0,slice none 0 0,slice none 0 0,slice none 0 0] 39)→
 ∃t u x y z a1 b1 c1 d1 e1 f1 g1 h1 i1 j1 k1,(s.cell? (nb w)=some (bool t)∧s.cell? ((nb w).add 1)=some (slice u x y)∧s.cell? ((nb w).add 2)=some (slice z a1 b1)∧s.cell? ((nb w).add 3)=some (slice c1 d1 e1)∧s.cell? ((nb w).add 4)=some (slice f1 g1 h1)∧s.cell? ((nb w).add 5)=some (slice i1 j1 k1)∧True)∧
 CP 33 #[agg #[bool t,slice u x y,slice z a1 b1,slice c1 d1 e1,slice f1 g1 h1,slice i1 j1 k1]] s (fun l1 m1=>
 ∃n1 o1 p1 q1 r1 s1 t1 u1 v1 x1 y1 z1 a2 b2 c2 d2 e2 f2,l1= .returned (tuple #[agg #[slice n1 o1 p1,slice q1 r1 s1,slice t1 u1 v1,slice x1 y1 z1,slice a2 b2 c2],int .i64 d2,int .i64 e2,int .i64 f2])∧
 ∀g2,g2=m1.alloc (.cells #[slice none 0 0,slice none 0 0,slice none 0 0,slice none 0 0,slice none 0 0] 39)→
 ar g2 (nb m1) (fun h2=>
 ∃i2 j2 k2 l2 m2 n2 o2 p2 q2 r2 s2 t2 u2 v2 x2,(h2.cell? (nb m1)=some (slice i2 j2 k2)∧h2.cell? ((nb m1).add 1)=some (slice l2 m2 n2)∧h2.cell? ((nb m1).add 2)=some (slice o2 p2 q2)∧h2.cell? ((nb m1).add 3)=some (slice r2 s2 t2)∧h2.cell? ((nb m1).add 4)=some (slice u2 v2 x2)∧True)∧
 ar h2 (nb r) (fun y2=>
 ∃z2 a3 b3 c3 d3 e3 f3 g3 h3 i3 j3 k3 l3 m3 n3,(y2.cell? (nb r)=some (slice z2 a3 b3)∧y2.cell? ((nb r).add 1)=some (slice c3 d3 e3)∧y2.cell? ((nb r).add 2)=some (slice f3 g3 h3)∧y2.cell? ((nb r).add 3)=some (slice i3 j3 k3)∧y2.cell? ((nb r).add 4)=some (slice l3 m3 n3)∧True)∧
 R (agg #[slice z2 a3 b3,slice c3 d3 e3,slice f3 g3 h3,slice i3 j3 k3,slice l3 m3 n3]) y2) [slice i2 j2 k2,slice l2 m2 n2,slice o2 p2 q2,slice r2 s2 t2,slice u2 v2 x2] 0) [slice n1 o1 p1,slice q1 r1 s1,slice t1 u1 v1,slice x1 y1 z1,slice a2 b2 c2] 0)
theorem Ab (a:Bool) (b:OA) (c d:Nat) (f:OA) (g h:Nat) (i:OA) (j k:Nat) (l:OA) (m n:Nat) (o:OA) (p q:Nat) (w:World) (R:RW) (hh:Lq a b c d f g h i j k l m n o p q w R):CR 42 #[agg #[bool a,slice b c d,slice f g h,slice i j k,slice l m n,slice o p q]] w R:=
 aF (fn:=Tryz.f42) (by kernel_rfl) (by kernel_rfl) (by kernel_rfl) (by kernel_rfl) (by kernel_rfl) hh
def Ll (a:OA) (b c:Nat) (d:OA) (f g:Nat) (h:ByteArray) (w:World) (R:RW):Prop:=
 ∀i,i=w.alloc (.cells #[slice a b c,slice d f g] 37)→
 ∀j:KW,(∀(k:Int) (l:OA) (m n:Nat) (o:World),(aa (decide (k< (h.size:Int)))
 (∀p:KW,(∀(q:OA) (r s:Nat) (t:World),(∀x,x=t.drew→
 Ar .i64 ((r:Int)-1) (fun y=>
 Ar .i64 ((r:Int)-1) (fun z=>
 ae q (fun a1=>
 (0:Int)≤z∧z< (r:Int)∧
 ∃b1,x.cell? (a1.add (z.toNat*1))=some (string b1)∧
 Ar .i64 (k+1) (fun c1=>
 (0:Int)≤k∧k≤c1∧c1≤(h.size:Int)∧
 ((b1.size+(h.extract k.toNat c1.toNat:ByteArray).size:Nat):Int)≤IntKind.i64.max∧
 ae q (fun d1=>
 (0:Int)≤y∧y< (r:Int)∧
 (string (b1++(h.extract k.toNat c1.toNat:ByteArray))).oneCell'=true∧(∃u,x.cell? (d1.add (y.toNat*1))=some u)∧x.frozen? (d1.add (y.toNat*1))=false∧
 ∀e1,e1=(x.setCell (d1.add (y.toNat*1)) (string (b1++(h.extract k.toNat c1.toNat:ByteArray))))→
 Ar .i64 (k+1) (fun f1=>
 j [int .i64 f1,slice q r s] e1)))))))→p [slice q r s] t)→
 ∀g1,g1=o.drew→
 aa (k==0)
 (∀h1,h1=g1.alloc (.cells #[string ⟨#[]⟩] 9)→
 ∃i1 j1 k1 l1,(Builtin.append_ #[32,32] 32 #[slice l m n,slice (some (nb g1)) 1 1]).run Tryz.prog h1= .ok (slice i1 j1 k1) l1∧
 p [slice i1 j1 k1] l1)
 (∃m1 n1 o1 p1 q1 r1,(g1.cell? (nb w)=some (slice m1 n1 o1)∧g1.cell? ((nb w).add 1)=some (slice p1 q1 r1)∧True)∧
 Ar .i64 (k-1) (fun s1=>
 (0:Int)≤s1∧s1< (h.size:Int)∧
 (0:Int)≤k∧k< (h.size:Int)∧
 CP 110 #[agg #[slice m1 n1 o1,slice p1 q1 r1],int .u8 (btAt h s1),int .u8 (btAt h k)] g1 (fun t1 u1=>
 ∃v1,t1= .returned (bool v1)∧
 aa v1
 (∀x1,x1=u1.alloc (.cells #[string ⟨#[]⟩] 9)→
 ∃y1 z1 a2 b2,(Builtin.append_ #[32,32] 32 #[slice l m n,slice (some (nb u1)) 1 1]).run Tryz.prog x1= .ok (slice y1 z1 a2) b2∧
 p [slice y1 z1 a2] b2)
 (p [slice l m n] u1)))))
 (R (slice l m n) o))→j [int .i64 k,slice l m n] o)→
 j [int .i64 0,slice none 0 0] i
theorem zU (a:OA) (b c:Nat) (d:OA) (f g:Nat) (h:ByteArray) (w:World) (R:RW) (hh:Ll a b c d f g h w R):CR 45 #[agg #[slice a b c,slice d f g],string h] w R:=
 aF (fn:=Tryz.f45) (by kernel_rfl) (by kernel_rfl) (by kernel_rfl) (by kernel_rfl) (by kernel_rfl) hh
def Lh (a:OA) (b c:Nat) (d:OA) (f g:Nat) (h:OA) (i j:Nat) (k:OA) (l m:Nat) (n:OA) (o p:Nat) (q:Int) (w:World) (R:RW):Prop:=
 ∀r,r=w.alloc (.cells #[slice a b c,slice d f g,slice h i j,slice k l m,slice n o p] 39)→
 ∃s t u x y z,(r.cell? ((nb w).add 0)=some (slice s t u)∧r.cell? (((nb w).add 0).add 1)=some (slice x y z)∧True)∧
 CP 111 #[agg #[slice s t u,slice x y z],int .i64 q] r (fun a1 b1=>
 ∃c1,a1= .returned (bool c1)∧
 aa c1
 (R (bool true) b1)
 (∃d1 e1 f1 g1 h1 i1 j1 k1 l1 m1 n1 o1 p1 q1 r1,(b1.cell? (nb w)=some (slice d1 e1 f1)∧b1.cell? ((nb w).add 1)=some (slice g1 h1 i1)∧b1.cell? ((nb w).add 2)=some (slice j1 k1 l1)∧b1.cell? ((nb w).add 3)=some (slice m1 n1 o1)∧b1.cell? ((nb w).add 4)=some (slice p1 q1 r1)∧True)∧
 CP 112 #[agg #[slice d1 e1 f1,slice g1 h1 i1,slice j1 k1 l1,slice m1 n1 o1,slice p1 q1 r1],int .i64 q] b1 (fun s1 t1=>
 ∃u1,s1= .returned (int .i64 u1)∧
 R (bool (decide (u1<0))) t1)))
theorem zR (a:OA) (b c:Nat) (d:OA) (f g:Nat) (h:OA) (i j:Nat) (k:OA) (l m:Nat) (n:OA) (o p:Nat) (q:Int) (w:World) (R:RW) (hh:Lh a b c d f g h i j k l m n o p q w R):CR 46 #[agg #[slice a b c,slice d f g,slice h i j,slice k l m,slice n o p],int .i64 q] w R:=
 aF (fn:=Tryz.f46) (by kernel_rfl) (by kernel_rfl) (by kernel_rfl) (by kernel_rfl) (by kernel_rfl) hh
def K_ (a:OA) (b c:Nat) (d:OA) (f g:Nat) (w:World) (R:RW):Prop:=
 aa ((b:Int) != (f:Int))
 (R (bool false) w)
 (∀h:KW,(∀(i:Int) (j:Bool) (k:World),(aa (decide (i< (b:Int)))
 (∀l,l=k.drew→
 ae a (fun m=>
 (0:Int)≤i∧i< (b:Int)∧
 ∃n,l.cell? (m.add (i.toNat*1))=some (int .i64 n)∧
 ae d (fun o=>
 (0:Int)≤i∧i< (f:Int)∧
 ∃p,l.cell? (o.add (i.toNat*1))=some (int .i64 p)∧
 aa (n != p)
 (R (bool false) l)
 (Ar .i64 (i+1) (fun q=>
 h [int .i64 q,bool j] l)))))
 (R (bool true) k))→h [int .i64 i,bool j] k)→
 h [int .i64 0,bool false] w)
theorem yV (a:OA) (b c:Nat) (d:OA) (f g:Nat) (w:World) (R:RW) (hh:K_ a b c d f g w R):CR 52 #[slice a b c,slice d f g] w R:=
 aF (fn:=Tryz.f52) (by kernel_rfl) (by kernel_rfl) (by kernel_rfl) (by kernel_rfl) (by kernel_rfl) hh
def Lu (a:OA) (b c:Nat) (d:OA) (f g:Nat) (h:OA) (i j:Nat) (k:OA) (l m:Nat) (n:OA) (o p:Nat) (q:OA) (r s:Nat) (w:World) (R:RW):Prop:=
 ∀t,t=w.alloc (.cells #[slice a b c,slice d f g,slice h i j,slice k l m,slice n o p] 39)→
 ∀u:KW,(∀(x:Int) (y:OA) (z a1:Nat) (b1:World),(aa (decide (x< (r:Int)))
 (∀c1:KW,(∀(d1:OA) (e1 f1:Nat) (g1:World),(Ar .i64 (x+1) (fun h1=>
 u [int .i64 h1,slice d1 e1 f1] g1))→c1 [slice d1 e1 f1] g1)→
 ∀i1,i1=b1.drew→
 ∃j1 k1 l1 m1 n1 o1 p1 q1 r1 s1 t1 u1 v1 x1 y1,(i1.cell? (nb w)=some (slice j1 k1 l1)∧i1.cell? ((nb w).add 1)=some (slice m1 n1 o1)∧i1.cell? ((nb w).add 2)=some (slice p1 q1 r1)∧i1.cell? ((nb w).add 3)=some (slice s1 t1 u1)∧i1.cell? ((nb w).add 4)=some (slice v1 x1 y1)∧True)∧
 ae q (fun z1=>
 (0:Int)≤x∧x< (r:Int)∧
 ∃a2,i1.cell? (z1.add (x.toNat*1))=some (int .i64 a2)∧
 CP 112 #[agg #[slice j1 k1 l1,slice m1 n1 o1,slice p1 q1 r1,slice s1 t1 u1,slice v1 x1 y1],int .i64 a2] i1 (fun b2 c2=>
 ∃d2,b2= .returned (int .i64 d2)∧
 aa (decide (d2<0))
 (∀e2,e2=c2.alloc (.cells #[int .i64 d2] 3)→
 ∃f2 g2 h2 i2,(Builtin.append_ #[28,28] 28 #[slice y z a1,slice (some (nb c2)) 1 1]).run Tryz.prog e2= .ok (slice f2 g2 h2) i2∧
 c1 [slice f2 g2 h2] i2)
 (∀j2,j2=c2.drew→
 ∃k2 l2 m2,j2.cell? (((nb w).add 0).add 0)=some (slice k2 l2 m2)∧
 ae q (fun n2=>
 (0:Int)≤x∧x< (r:Int)∧
 ∃o2,j2.cell? (n2.add (x.toNat*1))=some (int .i64 o2)∧
 ae k2 (fun p2=>
 (0:Int)≤o2∧o2< (l2:Int)∧
 ∃q2,j2.cell? (p2.add (o2.toNat*1))=some (string q2)∧
 ∀r2:KW,(∀(s2:Int) (t2:OA) (u2 v2:Nat) (x2:World),(aa (decide (s2< (q2.size:Int)))
 ((0:Int)≤s2∧s2< (q2.size:Int)∧
 ∀y2,y2=x2.alloc (.cells #[int .i64 (IntKind.wrap .i64 (btAt q2 s2))] 3)→
 ∃z2 a3 b3 c3,(Builtin.append_ #[28,28] 28 #[slice t2 u2 v2,slice (some (nb x2)) 1 1]).run Tryz.prog y2= .ok (slice z2 a3 b3) c3∧
 Ar .i64 (s2+1) (fun d3=>
 r2 [int .i64 d3,slice z2 a3 b3] c3))
 (c1 [slice t2 u2 v2] x2))→r2 [int .i64 s2,slice t2 u2 v2] x2)→
 r2 [int .i64 0,slice y z a1] j2))))))
 (R (slice y z a1) b1))→u [int .i64 x,slice y z a1] b1)→
 u [int .i64 0,slice none 0 0] t
theorem Ac (a:OA) (b c:Nat) (d:OA) (f g:Nat) (h:OA) (i j:Nat) (k:OA) (l m:Nat) (n:OA) (o p:Nat) (q:OA) (r s:Nat) (w:World) (R:RW) (hh:Lu a b c d f g h i j k l m n o p q r s w R):CR 53 #[agg #[slice a b c,slice d f g,slice h i j,slice k l m,slice n o p],slice q r s] w R:=
 aF (fn:=Tryz.f53) (by kernel_rfl) (by kernel_rfl) (by kernel_rfl) (by kernel_rfl) (by kernel_rfl) hh
def Lo (a:Bool) (b:OA) (c d:Nat) (f:OA) (g h:Nat) (i:OA) (j k:Nat) (l:OA) (m n:Nat) (o:OA) (p q:Nat) (w:World) (R:RW):Prop:=
 ∀r,r=w.alloc (.cells #[bool a,slice b c d,slice f g h,slice i j k,slice l m n,slice o p q] 71)→
 ∀s,s=r.alloc (.cells #[slice none 0 0,slice none 0 0] 35)→
 ∃t,s.cell? ((nb w).add 0)=some (bool t)∧
 aa t
 (∃u x y,s.cell? ((nb w).add 2)=some (slice u x y)∧
 CP 140 #[slice u x y] s (fun z a1=>
 ∃b1 c1 d1 e1 f1 g1 h1 i1,z= .returned (tuple #[agg #[slice b1 c1 d1,slice e1 f1 g1],int .i64 h1,int .i64 i1])∧
 ar a1 (nb r) (fun j1=>
 ∃k1 l1 m1 n1 o1 p1,(j1.cell? (nb r)=some (slice k1 l1 m1)∧j1.cell? ((nb r).add 1)=some (slice n1 o1 p1)∧True)∧
 R (tuple #[agg #[slice k1 l1 m1,slice n1 o1 p1],int .i64 h1,int .i64 i1]) j1) [slice b1 c1 d1,slice e1 f1 g1] 0))
 (∃q1 r1 s1,s.cell? ((nb w).add 1)=some (slice q1 r1 s1)∧
 CP 141 #[slice q1 r1 s1] s (fun t1 u1=>
 ∃v1 x1 y1 z1 a2 b2 c2 d2,t1= .returned (tuple #[agg #[slice v1 x1 y1,slice z1 a2 b2],int .i64 c2,int .i64 d2])∧
 ar u1 (nb r) (fun e2=>
 ∃f2 g2 h2 i2 j2 k2,(e2.cell? (nb r)=some (slice f2 g2 h2)∧e2.cell? ((nb r).add 1)=some (slice i2 j2 k2)∧True)∧
 R (tuple #[agg #[slice f2 g2 h2,slice i2 j2 k2],int .i64 c2,int .i64 d2]) e2) [slice v1 x1 y1,slice z1 a2 b2] 0))
theorem pO (a:Bool) (b:OA) (c d:Nat) (f:OA) (g h:Nat) (i:OA) (j k:Nat) (l:OA) (m n:Nat) (o:OA) (p q:Nat) (w:World) (R:RW) (hh:Lo a b c d f g h i j k l m n o p q w R):CR 97 #[agg #[bool a,slice b c d,slice f g h,slice i j k,slice l m n,slice o p q]] w R:=
 aF (fn:=Tryz.f97) (by kernel_rfl) (by kernel_rfl) (by kernel_rfl) (by kernel_rfl) (by kernel_rfl) hh
def LK (a:OA) (b c:Nat) (w:World) (R:RW):Prop:=
 ∀d:KW,(∀(f g h:Int) (i:World),(aa (decide (f< (b:Int)))
 (ae a (fun j=>
 (0:Int)≤f∧f< (b:Int)∧
 ∃k,i.cell? ((j.add (f.toNat*2)).add 0)=some (int .i64 k)∧
 aa (decide (k<0))
 (R (tuple #[int .i64 f,int .i64 1]) i)
 (ae a (fun l=>
 (0:Int)≤f∧f< (b:Int)∧
 ∃m,i.cell? ((l.add (f.toNat*2)).add 0)=some (int .i64 m)∧
 aa (decide (m>1073741824))
 (R (tuple #[int .i64 f,int .i64 1]) i)
 (ae a (fun n=>
 (0:Int)≤f∧f< (b:Int)∧
 ∃o,i.cell? ((n.add (f.toNat*2)).add 1)=some (string o)∧
 aa (decide (((o.size:Int):Int) <1))
 (R (tuple #[int .i64 f,int .i64 1]) i)
 (ae a (fun p=>
 (0:Int)≤f∧f< (b:Int)∧
 ∃q,i.cell? ((p.add (f.toNat*2)).add 1)=some (string q)∧
 aa (decide (((q.size:Int):Int)>64))
 (R (tuple #[int .i64 f,int .i64 1]) i)
 (aa (decide (f≥32))
 (R (tuple #[int .i64 f,int .i64 3]) i)
 (∀r:KW,(∀(s t u:Int) (x:World),(aa (decide (s<f))
 (∀y,y=x.drew→
 ae a (fun z=>
 (0:Int)≤s∧s< (b:Int)∧
 ∃a1,y.cell? ((z.add (s.toNat*2)).add 0)=some (int .i64 a1)∧
 ae a (fun b1=>
 (0:Int)≤f∧f< (b:Int)∧
 ∃c1,y.cell? ((b1.add (f.toNat*2)).add 0)=some (int .i64 c1)∧
 aa (a1==c1)
 (R (tuple #[int .i64 f,int .i64 10]) y)
 (ae a (fun d1=>
 (0:Int)≤s∧s< (b:Int)∧
 ∃e1,y.cell? ((d1.add (s.toNat*2)).add 1)=some (string e1)∧
 ae a (fun f1=>
 (0:Int)≤f∧f< (b:Int)∧
 ∃g1,y.cell? ((f1.add (f.toNat*2)).add 1)=some (string g1)∧
 aa (e1.toList==g1.toList)
 (R (tuple #[int .i64 f,int .i64 10]) y)
 (Ar .i64 (s+1) (fun h1=>
 r [int .i64 h1,int .i64 t,int .i64 u] y))))))))
 (Ar .i64 (f+1) (fun i1=>
 d [int .i64 i1,int .i64 t,int .i64 u] x)))→r [int .i64 s,int .i64 t,int .i64 u] x)→
 r [int .i64 0,int .i64 g,int .i64 h] i))))))))))
 (R (tuple #[int .i64 (b:Int),int .i64 0]) i))→d [int .i64 f,int .i64 g,int .i64 h] i)→
 d [int .i64 0,int .i64 0,int .i64 0] w
theorem zV (a:OA) (b c:Nat) (w:World) (R:RW) (hh:LK a b c w R):CR 98 #[slice a b c] w R:=
 aF (fn:=Tryz.f98) (by kernel_rfl) (by kernel_rfl) (by kernel_rfl) (by kernel_rfl) (by kernel_rfl) hh
def Ki (a:OA) (b c:Nat) (w:World) (R:RW):Prop:=
 ∀d:KW,(∀(f:Int) (g:Bool) (h:World),(aa (decide (f< (b:Int)))
 (ae a (fun i=>
 (0:Int)≤f∧f< (b:Int)∧
 ∃j,h.cell? ((i.add (f.toNat*2)).add 1)=some (string j)∧
 aa (decide (((j.size:Int):Int)>100))
 (R (bool true) h)
 (Ar .i64 (f+1) (fun k=>
 d [int .i64 k,bool g] h))))
 (R (bool (decide ((b:Int)>40))) h))→d [int .i64 f,bool g] h)→
 d [int .i64 0,bool false] w
theorem wJ (a:OA) (b c:Nat) (w:World) (R:RW) (hh:Ki a b c w R):CR 102 #[slice a b c] w R:=
 aF (fn:=Tryz.f102) (by kernel_rfl) (by kernel_rfl) (by kernel_rfl) (by kernel_rfl) (by kernel_rfl) hh
def JX (a:OA) (b c:Nat) (w:World) (R:RW):Prop:=
 ∀d,d=w.alloc (.cells #[slice none 0 0,slice none 0 0] 35)→
 CP 157 #[] d (fun f g=>
 ∃h i j k l m,f= .returned (agg #[slice h i j,slice k l m])∧
 ∀n,n=g.alloc (.cells #[slice none 0 0,slice none 0 0] 35)→
 ar n (nb g) (fun o=>
 ∀p:KW,(∀(q:Int) (r:World),(Ar .i64 (q+1) (fun s=>
 aa (decide (s< (b:Int)))
 (aa (decide (q<60))
 (∀t:KW,(∀u:World,(Ar .i64 (q+2) (fun x=>
 p [int .i64 x] u))→t [] u)→
 ∀y,y=r.drew→
 ae a (fun z=>
 (0:Int)≤q∧q< (b:Int)∧
 ∃a1,y.cell? (z.add (q.toNat*1))=some (int .u16 a1)∧
 ∃b1 c1 d1,y.cell? ((nb g).add 0)=some (slice b1 c1 d1)∧
 ∃e1 f1 g1,y.cell? ((nb g).add 1)=some (slice e1 f1 g1)∧
 Ar .i64 ((c1:Int)+(f1:Int)) (fun h1=>
 h1≠0∧
 Ar .i64 (q+1) (fun i1=>
 ae a (fun j1=>
 (0:Int)≤i1∧i1< (b:Int)∧
 ∃k1,y.cell? (j1.add (i1.toNat*1))=some (int .u16 k1)∧
 ∃l1 m1 n1,y.cell? ((nb g).add 0)=some (slice l1 m1 n1)∧
 ∃o1 p1 q1,y.cell? ((nb g).add 1)=some (slice o1 p1 q1)∧
 Ar .i64 ((m1:Int)+(p1:Int)) (fun r1=>
 r1≠0∧
 ∀s1:KW,(∀(t1:Int) (u1:World),(∀v1:KW,(∀(x1:Int) (y1:World),(∃z1 a2 b2 c2 d2 e2,(y1.cell? (nb g)=some (slice z1 a2 b2)∧y1.cell? ((nb g).add 1)=some (slice c2 d2 e2)∧True)∧
 CP 158 #[agg #[slice z1 a2 b2,slice c2 d2 e2],agg #[int .i64 t1,int .i64 x1]] y1 (fun f2 g2=>
 ∃h2 i2 j2 k2 l2 m2 n2,f2= .returned (tuple #[agg #[slice h2 i2 j2,slice k2 l2 m2],int .i64 n2])∧
 ∀o2,o2=g2.alloc (.cells #[slice none 0 0,slice none 0 0] 35)→
 ar o2 (nb g2) (fun p2=>
 aa (n2==0)
 (∃q2 r2 s2 t2 u2 v2,(p2.cell? (nb g2)=some (slice q2 r2 s2)∧p2.cell? ((nb g2).add 1)=some (slice t2 u2 v2)∧True)∧
 ar p2 (nb g) (fun x2=>
 t [] x2) [slice q2 r2 s2,slice t2 u2 v2] 0)
 (t [] p2)) [slice h2 i2 j2,slice k2 l2 m2] 0))→v1 [int .i64 x1] y1)→
 ∃y2 z2 a3,u1.cell? ((nb g).add 0)=some (slice y2 z2 a3)∧
 aa (decide ((Int.tmod (IntKind.wrap .i64 k1) r1:Int)≥(z2:Int)))
 (Ar .i64 ((256:Int)+(Int.tmod (IntKind.wrap .i64 k1) r1)) (fun b3=>
 ∃c3 d3 e3,u1.cell? ((nb g).add 0)=some (slice c3 d3 e3)∧
 Ar .i64 (b3- (d3:Int)) (fun f3=>
 v1 [int .i64 f3] u1)))
 (v1 [int .i64 (Int.tmod (IntKind.wrap .i64 k1) r1)] u1))→s1 [int .i64 t1] u1)→
 ∃g3 h3 i3,y.cell? ((nb g).add 0)=some (slice g3 h3 i3)∧
 aa (decide ((Int.tmod (IntKind.wrap .i64 a1) h1:Int)≥(h3:Int)))
 (Ar .i64 ((256:Int)+(Int.tmod (IntKind.wrap .i64 a1) h1)) (fun j3=>
 ∃k3 l3 m3,y.cell? ((nb g).add 0)=some (slice k3 l3 m3)∧
 Ar .i64 (j3- (l3:Int)) (fun n3=>
 s1 [int .i64 n3] y)))
 (s1 [int .i64 (Int.tmod (IntKind.wrap .i64 a1) h1)] y)))))))
 (∃o3 p3 q3 r3 s3 t3,(r.cell? (nb g)=some (slice o3 p3 q3)∧r.cell? ((nb g).add 1)=some (slice r3 s3 t3)∧True)∧
 ar r (nb w) (fun u3=>
 ∃v3 x3 y3 z3 a4 b4,(u3.cell? (nb w)=some (slice v3 x3 y3)∧u3.cell? ((nb w).add 1)=some (slice z3 a4 b4)∧True)∧
 R (agg #[slice v3 x3 y3,slice z3 a4 b4]) u3) [slice o3 p3 q3,slice r3 s3 t3] 0))
 (∃c4 d4 e4 f4 g4 h4,(r.cell? (nb g)=some (slice c4 d4 e4)∧r.cell? ((nb g).add 1)=some (slice f4 g4 h4)∧True)∧
 ar r (nb w) (fun i4=>
 ∃j4 k4 l4 m4 n4 o4,(i4.cell? (nb w)=some (slice j4 k4 l4)∧i4.cell? ((nb w).add 1)=some (slice m4 n4 o4)∧True)∧
 R (agg #[slice j4 k4 l4,slice m4 n4 o4]) i4) [slice c4 d4 e4,slice f4 g4 h4] 0)))→p [int .i64 q] r)→
 p [int .i64 0] o) [slice h i j,slice k l m] 0)
theorem wt (a:OA) (b c:Nat) (w:World) (R:RW) (hh:JX a b c w R):CR 103 #[slice a b c] w R:=
 aF (fn:=Tryz.f103) (by kernel_rfl) (by kernel_rfl) (by kernel_rfl) (by kernel_rfl) (by kernel_rfl) hh
def KI (a:OA) (b c:Nat) (d:OA) (f g:Nat) (w:World) (R:RW):Prop:=
 ∀h,h=w.alloc (.cells #[slice a b c,slice d f g] 37)→
 ∀i:KW,(∀(j:Int) (k:Bool) (l:World),(∃m n o,l.cell? ((nb w).add 0)=some (slice m n o)∧
 aa (decide (j< (n:Int)))
 (∃p q r,l.cell? ((nb w).add 0)=some (slice p q r)∧
 ae p (fun s=>
 (0:Int)≤j∧j< (q:Int)∧
 ∃t u x,(l.cell? (s.add (j.toNat*3))=some (int .i64 t)∧l.cell? ((s.add (j.toNat*3)).add 1)=some (int .i64 u)∧l.cell? ((s.add (j.toNat*3)).add 2)=some (int .i64 x)∧True)∧
 ∀y,y=l.alloc (.cells #[int .i64 0,int .i64 0,int .i64 0] 89)→
 ar y (nb l) (fun z=>
 ∃a1,z.cell? ((nb l).add 0)=some (int .i64 a1)∧
 aa (decide (a1<0))
 (R (bool false) z)
 (∃b1,z.cell? ((nb l).add 1)=some (int .i64 b1)∧
 ∃c1,z.cell? ((nb l).add 0)=some (int .i64 c1)∧
 aa (decide (b1<c1))
 (R (bool false) z)
 (∃d1,z.cell? ((nb l).add 1)=some (int .i64 d1)∧
 aa (decide (d1>255))
 (R (bool false) z)
 (∃e1,z.cell? ((nb l).add 2)=some (int .i64 e1)∧
 aa (decide (e1<0))
 (R (bool false) z)
 (∃f1,z.cell? ((nb l).add 2)=some (int .i64 f1)∧
 aa (decide (f1>15))
 (R (bool false) z)
 (Ar .i64 (j+1) (fun g1=>
 i [int .i64 g1,bool k] z))))))) [int .i64 t,int .i64 u,int .i64 x] 0))
 (∀h1:KW,(∀(i1:Int) (j1:Bool) (k1:World),(∃l1 m1 n1,k1.cell? ((nb w).add 1)=some (slice l1 m1 n1)∧
 aa (decide (i1< (m1:Int)))
 (∃o1 p1 q1,k1.cell? ((nb w).add 1)=some (slice o1 p1 q1)∧
 ae o1 (fun r1=>
 (0:Int)≤i1∧i1< (p1:Int)∧
 ∃s1 t1,(k1.cell? (r1.add (i1.toNat*2))=some (int .i64 s1)∧k1.cell? ((r1.add (i1.toNat*2)).add 1)=some (int .i64 t1)∧True)∧
 ∀u1,u1=k1.alloc (.cells #[int .i64 0,int .i64 0] 170)→
 ar u1 (nb k1) (fun v1=>
 ∃x1,v1.cell? ((nb k1).add 0)=some (int .i64 x1)∧
 aa (decide (x1<0))
 (R (bool false) v1)
 (∃y1,v1.cell? ((nb k1).add 0)=some (int .i64 y1)∧
 aa (decide (y1>15))
 (R (bool false) v1)
 (∃z1,v1.cell? ((nb k1).add 1)=some (int .i64 z1)∧
 aa (decide (z1<0))
 (R (bool false) v1)
 (∃a2,v1.cell? ((nb k1).add 1)=some (int .i64 a2)∧
 aa (decide (a2>15))
 (R (bool false) v1)
 (Ar .i64 (i1+1) (fun b2=>
 h1 [int .i64 b2,bool j1] v1)))))) [int .i64 s1,int .i64 t1] 0))
 (R (bool true) k1))→h1 [int .i64 i1,bool j1] k1)→
 h1 [int .i64 0,bool k] l))→i [int .i64 j,bool k] l)→
 i [int .i64 0,bool false] h
theorem vN (a:OA) (b c:Nat) (d:OA) (f g:Nat) (w:World) (R:RW) (hh:KI a b c d f g w R):CR 104 #[agg #[slice a b c,slice d f g]] w R:=
 aF (fn:=Tryz.f104) (by kernel_rfl) (by kernel_rfl) (by kernel_rfl) (by kernel_rfl) (by kernel_rfl) hh
def KK (a:OA) (b c:Nat) (d:OA) (f g:Nat) (h:ByteArray) (w:World) (R:RW):Prop:=
 ∀i,i=w.alloc (.cells #[slice a b c,slice d f g] 35)→
 ∃j k l m n o,(i.cell? (nb w)=some (slice j k l)∧i.cell? ((nb w).add 1)=some (slice m n o)∧True)∧
 ∃p q r,i.cell? ((nb w).add 0)=some (slice p q r)∧
 CP 166 #[agg #[slice j k l,slice m n o],string h,int .i64 (q:Int)] i (fun s t=>
 ∃u x y,s= .returned (slice u x y)∧
 R (slice u x y) t)
theorem wh (a:OA) (b c:Nat) (d:OA) (f g:Nat) (h:ByteArray) (w:World) (R:RW) (hh:KK a b c d f g h w R):CR 109 #[agg #[slice a b c,slice d f g],string h] w R:=
 aF (fn:=Tryz.f109) (by kernel_rfl) (by kernel_rfl) (by kernel_rfl) (by kernel_rfl) (by kernel_rfl) hh
def IE (a:OA) (b c:Nat) (d:OA) (f g:Nat) (h i:Int) (w:World) (R:RW):Prop:=
 ∀j,j=w.alloc (.cells #[slice a b c,slice d f g] 37)→
 ∀k,k=j.drew→
 ∃l m n o p q,(k.cell? (nb w)=some (slice l m n)∧k.cell? ((nb w).add 1)=some (slice o p q)∧True)∧
 ∃r s t u x y,(k.cell? (nb w)=some (slice r s t)∧k.cell? ((nb w).add 1)=some (slice u x y)∧True)∧
 CP 167 #[agg #[slice l m n,slice o p q],int .u8 h] k (fun z a1=>
 ∃b1,z= .returned (int .i64 b1)∧
 (a1.cell? (nb w)=some (slice r s t)∧a1.cell? ((nb w).add 1)=some (slice u x y)∧True)∧
 CP 167 #[agg #[slice r s t,slice u x y],int .u8 i] a1 (fun c1 d1=>
 ∃e1,c1= .returned (int .i64 e1)∧
 ∀f1:KW,(∀(g1:Int) (h1:Bool) (i1:World),(∃j1 k1 l1,i1.cell? ((nb w).add 1)=some (slice j1 k1 l1)∧
 aa (decide (g1< (k1:Int)))
 (∃m1 n1 o1,i1.cell? ((nb w).add 1)=some (slice m1 n1 o1)∧
 ae m1 (fun p1=>
 (0:Int)≤g1∧g1< (n1:Int)∧
 ∃q1,i1.cell? ((p1.add (g1.toNat*2)).add 0)=some (int .i64 q1)∧
 aa (q1==b1)
 (∃r1 s1 t1,i1.cell? ((nb w).add 1)=some (slice r1 s1 t1)∧
 ae r1 (fun u1=>
 (0:Int)≤g1∧g1< (s1:Int)∧
 ∃v1,i1.cell? ((u1.add (g1.toNat*2)).add 1)=some (int .i64 v1)∧
 aa (v1==e1)
 (R (bool false) i1)
 (Ar .i64 (g1+1) (fun x1=>
 f1 [int .i64 x1,bool h1] i1))))
 (Ar .i64 (g1+1) (fun y1=>
 f1 [int .i64 y1,bool h1] i1))))
 (R (bool (b1 != e1)) i1))→f1 [int .i64 g1,bool h1] i1)→
 f1 [int .i64 0,bool false] d1))
theorem xp (a:OA) (b c:Nat) (d:OA) (f g:Nat) (h i:Int) (w:World) (R:RW) (hh:IE a b c d f g h i w R):CR 110 #[agg #[slice a b c,slice d f g],int .u8 h,int .u8 i] w R:=
 aF (fn:=Tryz.f110) (by kernel_rfl) (by kernel_rfl) (by kernel_rfl) (by kernel_rfl) (by kernel_rfl) hh
def I_ (a:OA) (b c:Nat) (d:OA) (f g:Nat) (h:Int) (w:World) (R:RW):Prop:=
 ∀i,i=w.alloc (.cells #[slice a b c,slice d f g] 35)→
 aa (decide (h≥0))
 (∃j k l,i.cell? ((nb w).add 0)=some (slice j k l)∧
 R (bool (decide (h< (k:Int)))) i)
 (R (bool false) i)
theorem wL (a:OA) (b c:Nat) (d:OA) (f g:Nat) (h:Int) (w:World) (R:RW) (hh:I_ a b c d f g h w R):CR 111 #[agg #[slice a b c,slice d f g],int .i64 h] w R:=
 aF (fn:=Tryz.f111) (by kernel_rfl) (by kernel_rfl) (by kernel_rfl) (by kernel_rfl) (by kernel_rfl) hh
def Ix (a:OA) (b c:Nat) (d:OA) (f g:Nat) (h:OA) (i j:Nat) (k:OA) (l m:Nat) (n:OA) (o p:Nat) (q:Int) (w:World) (R:RW):Prop:=
 ∀r,r=w.alloc (.cells #[slice a b c,slice d f g,slice h i j,slice k l m,slice n o p] 39)→
 ∀s:KW,(∀(t u:Int) (x:World),(∃y z a1,x.cell? ((nb w).add 4)=some (slice y z a1)∧
 aa (decide (t< (z:Int)))
 (∃b1 c1 d1,x.cell? ((nb w).add 4)=some (slice b1 c1 d1)∧
 ae b1 (fun e1=>
 (0:Int)≤t∧t< (c1:Int)∧
 ∃f1,x.cell? ((e1.add (t.toNat*2)).add 0)=some (int .i64 f1)∧
 aa (f1==q)
 (Ar .i64 ((-1:Int)-t) (fun g1=>
 R (int .i64 g1) x))
 (Ar .i64 (t+1) (fun h1=>
 s [int .i64 h1,int .i64 u] x))))
 (R (int .i64 0) x))→s [int .i64 t,int .i64 u] x)→
 s [int .i64 0,int .i64 0] r
theorem wV (a:OA) (b c:Nat) (d:OA) (f g:Nat) (h:OA) (i j:Nat) (k:OA) (l m:Nat) (n:OA) (o p:Nat) (q:Int) (w:World) (R:RW) (hh:Ix a b c d f g h i j k l m n o p q w R):CR 112 #[agg #[slice a b c,slice d f g,slice h i j,slice k l m,slice n o p],int .i64 q] w R:=
 aF (fn:=Tryz.f112) (by kernel_rfl) (by kernel_rfl) (by kernel_rfl) (by kernel_rfl) (by kernel_rfl) hh
def Ii (a:OA) (b c:Nat) (w:World) (R:RW):Prop:=
 ∀d,d=w.alloc (.cells #[slice none 0 0,slice none 0 0] 35)→
 CP 157 #[] d (fun f g=>
 ∃h i j k l m,f= .returned (agg #[slice h i j,slice k l m])∧
 ∀n,n=g.alloc (.cells #[slice none 0 0,slice none 0 0] 35)→
 ar n (nb g) (fun o=>
 ∀p:KW,(∀(q r s:Int) (t:World),(aa (decide (q< (b:Int)))
 (∀u,u=t.drew→
 ∃x y z a1 b1 c1,(u.cell? (nb g)=some (slice x y z)∧u.cell? ((nb g).add 1)=some (slice a1 b1 c1)∧True)∧
 ae a (fun d1=>
 (0:Int)≤q∧q< (b:Int)∧
 ∃e1 f1,(u.cell? (d1.add (q.toNat*2))=some (int .i64 e1)∧u.cell? ((d1.add (q.toNat*2)).add 1)=some (int .i64 f1)∧True)∧
 (CP 158 #[agg #[slice x y z,slice a1 b1 c1],agg #[int .i64 e1,int .i64 f1]] u (fun g1 h1=>
 ∃i1 j1 k1 l1 m1 n1 o1,g1= .returned (tuple #[agg #[slice i1 j1 k1,slice l1 m1 n1],int .i64 o1])∧
 ∀p1,p1=h1.alloc (.cells #[slice none 0 0,slice none 0 0] 35)→
 ar p1 (nb h1) (fun q1=>
 aa (o1 != 0)
 (∃r1 s1 t1 u1 v1 x1,(q1.cell? (nb g)=some (slice r1 s1 t1)∧q1.cell? ((nb g).add 1)=some (slice u1 v1 x1)∧True)∧
 ar q1 (nb w) (fun y1=>
 ∃z1 a2 b2 c2 d2 e2,(y1.cell? (nb w)=some (slice z1 a2 b2)∧y1.cell? ((nb w).add 1)=some (slice c2 d2 e2)∧True)∧
 R (tuple #[agg #[slice z1 a2 b2,slice c2 d2 e2],int .i64 q,int .i64 o1]) y1) [slice r1 s1 t1,slice u1 v1 x1] 0)
 (∃f2 g2 h2 i2 j2 k2,(q1.cell? (nb h1)=some (slice f2 g2 h2)∧q1.cell? ((nb h1).add 1)=some (slice i2 j2 k2)∧True)∧
 ar q1 (nb g) (fun l2=>
 Ar .i64 (q+1) (fun m2=>
 p [int .i64 m2,int .i64 r,int .i64 s] l2)) [slice f2 g2 h2,slice i2 j2 k2] 0)) [slice i1 j1 k1,slice l1 m1 n1] 0))∧
 (∀n2,n2=u.alloc (.cells #[slice none 0 0,slice none 0 0] 35)→
 (n2.cell? (d1.add (q.toNat*2))=some (int .i64 e1)∧n2.cell? ((d1.add (q.toNat*2)).add 1)=some (int .i64 f1)∧True)∧
 (n2.cell? (nb g)=some (slice x y z)∧n2.cell? ((nb g).add 1)=some (slice a1 b1 c1)∧True)∧
 CP 158 #[agg #[slice x y z,slice a1 b1 c1],agg #[int .i64 e1,int .i64 f1]] n2 (fun o2 p2=>
 ∃q2 r2 s2 t2 u2 v2 x2,o2= .returned (tuple #[agg #[slice q2 r2 s2,slice t2 u2 v2],int .i64 x2])∧
 ar p2 (nb u) (fun y2=>
 aa (x2 != 0)
 (∃z2 a3 b3 c3 d3 e3,(y2.cell? (nb g)=some (slice z2 a3 b3)∧y2.cell? ((nb g).add 1)=some (slice c3 d3 e3)∧True)∧
 ar y2 (nb w) (fun f3=>
 ∃g3 h3 i3 j3 k3 l3,(f3.cell? (nb w)=some (slice g3 h3 i3)∧f3.cell? ((nb w).add 1)=some (slice j3 k3 l3)∧True)∧
 R (tuple #[agg #[slice g3 h3 i3,slice j3 k3 l3],int .i64 q,int .i64 x2]) f3) [slice z2 a3 b3,slice c3 d3 e3] 0)
 (∃m3 n3 o3 p3 q3 r3,(y2.cell? (nb u)=some (slice m3 n3 o3)∧y2.cell? ((nb u).add 1)=some (slice p3 q3 r3)∧True)∧
 ar y2 (nb g) (fun s3=>
 Ar .i64 (q+1) (fun t3=>
 p [int .i64 t3,int .i64 r,int .i64 s] s3)) [slice m3 n3 o3,slice p3 q3 r3] 0)) [slice q2 r2 s2,slice t2 u2 v2] 0))))
 (∃u3 v3 x3 y3 z3 a4,(t.cell? (nb g)=some (slice u3 v3 x3)∧t.cell? ((nb g).add 1)=some (slice y3 z3 a4)∧True)∧
 ar t (nb w) (fun b4=>
 ∃c4 d4 e4 f4 g4 h4,(b4.cell? (nb w)=some (slice c4 d4 e4)∧b4.cell? ((nb w).add 1)=some (slice f4 g4 h4)∧True)∧
 R (tuple #[agg #[slice c4 d4 e4,slice f4 g4 h4],int .i64 (b:Int),int .i64 0]) b4) [slice u3 v3 x3,slice y3 z3 a4] 0))→p [int .i64 q,int .i64 r,int .i64 s] t)→
 p [int .i64 0,int .i64 0,int .i64 0] o) [slice h i j,slice k l m] 0)
theorem vb (a:OA) (b c:Nat) (w:World) (R:RW) (hh:Ii a b c w R):CR 141 #[slice a b c] w R:=
 aF (fn:=Tryz.f141) (by kernel_rfl) (by kernel_rfl) (by kernel_rfl) (by kernel_rfl) (by kernel_rfl) hh
def IJ (w:World) (R:RW):Prop:=
 ∀a,a=w.alloc (.cells #[slice none 0 0,slice none 0 0] 35)→
 ∀b,b=a.alloc (.cells #[slice none 0 0,slice none 0 0] 35)→
 ar b (nb a) (fun c=>
 ∀d:KW,(∀(f:Int) (g:World),(aa (decide (f<256))
 (∃h i j,g.cell? ((nb a).add 0)=some (slice h i j)∧
 ∀k,k=g.alloc (.cells #[int .u8 (IntKind.wrap .u8 f)] 5)→
 ∃l m,(convert 57 9 (slice (some (nb g)) 1 1)).run Tryz.prog k= .ok (string l) m∧
 ∀n,n=m.alloc (.cells #[string l] 9)→
 ∃o p q r,(Builtin.append_ #[32,32] 32 #[slice h i j,slice (some (nb m)) 1 1]).run Tryz.prog n= .ok (slice o p q) r∧
 (slice o p q).oneCell'=true∧(∃u,r.cell? ((nb a).add 0)=some u)∧r.frozen? ((nb a).add 0)=false∧
 ∀s,s=(r.setCell ((nb a).add 0) (slice o p q))→
 Ar .i64 (f+1) (fun t=>
 d [int .i64 t] s))
 (∃x y z a1 b1 c1,(g.cell? (nb a)=some (slice x y z)∧g.cell? ((nb a).add 1)=some (slice a1 b1 c1)∧True)∧
 ar g (nb w) (fun d1=>
 ∃e1 f1 g1 h1 i1 j1,(d1.cell? (nb w)=some (slice e1 f1 g1)∧d1.cell? ((nb w).add 1)=some (slice h1 i1 j1)∧True)∧
 R (agg #[slice e1 f1 g1,slice h1 i1 j1]) d1) [slice x y z,slice a1 b1 c1] 0))→d [int .i64 f] g)→
 d [int .i64 0] c) [slice none 0 0,slice none 0 0] 0
theorem vV (w:World) (R:RW) (hh:IJ w R):CR 157 #[] w R:=
 aF (fn:=Tryz.f157) (by kernel_rfl) (by kernel_rfl) (by kernel_rfl) (by kernel_rfl) (by kernel_rfl) hh
def Je (a:OA) (b c:Nat) (d:OA) (f g:Nat) (h i:Int) (w:World) (R:RW):Prop:=
 ∀j,j=w.alloc (.cells #[slice a b c,slice d f g] 35)→
 ∀k,k=j.alloc (.cells #[int .i64 h,int .i64 i] 85)→
 ∀l,l=k.alloc (.cells #[slice none 0 0,slice none 0 0] 35)→
 ∃m n o p q r,(l.cell? (nb w)=some (slice m n o)∧l.cell? ((nb w).add 1)=some (slice p q r)∧True)∧
 ∃s,l.cell? ((nb j).add 0)=some (int .i64 s)∧
 CP 111 #[agg #[slice m n o,slice p q r],int .i64 s] l (fun t u=>
 ∃x,t= .returned (bool x)∧
 aa (!x)
 (∃y z a1 b1 c1 d1,(u.cell? (nb w)=some (slice y z a1)∧u.cell? ((nb w).add 1)=some (slice b1 c1 d1)∧True)∧
 ar u (nb k) (fun e1=>
 ∃f1 g1 h1 i1 j1 k1,(e1.cell? (nb k)=some (slice f1 g1 h1)∧e1.cell? ((nb k).add 1)=some (slice i1 j1 k1)∧True)∧
 R (tuple #[agg #[slice f1 g1 h1,slice i1 j1 k1],int .i64 4]) e1) [slice y z a1,slice b1 c1 d1] 0)
 (∃l1 m1 n1 o1 p1 q1,(u.cell? (nb w)=some (slice l1 m1 n1)∧u.cell? ((nb w).add 1)=some (slice o1 p1 q1)∧True)∧
 ∃r1,u.cell? ((nb j).add 1)=some (int .i64 r1)∧
 CP 111 #[agg #[slice l1 m1 n1,slice o1 p1 q1],int .i64 r1] u (fun s1 t1=>
 ∃u1,s1= .returned (bool u1)∧
 aa (!u1)
 (∃v1 x1 y1 z1 a2 b2,(t1.cell? (nb w)=some (slice v1 x1 y1)∧t1.cell? ((nb w).add 1)=some (slice z1 a2 b2)∧True)∧
 ar t1 (nb k) (fun c2=>
 ∃d2 e2 f2 g2 h2 i2,(c2.cell? (nb k)=some (slice d2 e2 f2)∧c2.cell? ((nb k).add 1)=some (slice g2 h2 i2)∧True)∧
 R (tuple #[agg #[slice d2 e2 f2,slice g2 h2 i2],int .i64 4]) c2) [slice v1 x1 y1,slice z1 a2 b2] 0)
 (∀j2,j2=t1.drew→
 ∃k2 l2 m2,j2.cell? ((nb w).add 0)=some (slice k2 l2 m2)∧
 ∃n2,j2.cell? ((nb j).add 0)=some (int .i64 n2)∧
 ae k2 (fun o2=>
 (0:Int)≤n2∧n2< (l2:Int)∧
 ∃p2,j2.cell? (o2.add (n2.toNat*1))=some (string p2)∧
 ∃q2 r2 s2,j2.cell? ((nb w).add 0)=some (slice q2 r2 s2)∧
 ∃t2,j2.cell? ((nb j).add 1)=some (int .i64 t2)∧
 ae q2 (fun u2=>
 (0:Int)≤t2∧t2< (r2:Int)∧
 ∃v2,j2.cell? (u2.add (t2.toNat*1))=some (string v2)∧
 ((p2.size+v2.size:Nat):Int)≤IntKind.i64.max∧
 aa (decide ((((p2++v2:ByteArray).size:Int):Int)>64))
 (∃x2 y2 z2 a3 b3 c3,(j2.cell? (nb w)=some (slice x2 y2 z2)∧j2.cell? ((nb w).add 1)=some (slice a3 b3 c3)∧True)∧
 ar j2 (nb k) (fun d3=>
 ∃e3 f3 g3 h3 i3 j3,(d3.cell? (nb k)=some (slice e3 f3 g3)∧d3.cell? ((nb k).add 1)=some (slice h3 i3 j3)∧True)∧
 R (tuple #[agg #[slice e3 f3 g3,slice h3 i3 j3],int .i64 3]) d3) [slice x2 y2 z2,slice a3 b3 c3] 0)
 (∃k3 l3 m3,j2.cell? ((nb w).add 0)=some (slice k3 l3 m3)∧
 aa (decide ((l3:Int)≥1000))
 (∃n3 o3 p3 q3 r3 s3,(j2.cell? (nb w)=some (slice n3 o3 p3)∧j2.cell? ((nb w).add 1)=some (slice q3 r3 s3)∧True)∧
 ar j2 (nb k) (fun t3=>
 ∃u3 v3 x3 y3 z3 a4,(t3.cell? (nb k)=some (slice u3 v3 x3)∧t3.cell? ((nb k).add 1)=some (slice y3 z3 a4)∧True)∧
 R (tuple #[agg #[slice u3 v3 x3,slice y3 z3 a4],int .i64 5]) t3) [slice n3 o3 p3,slice q3 r3 s3] 0)
 (∃b4 c4 d4 e4 f4 g4,(j2.cell? (nb w)=some (slice b4 c4 d4)∧j2.cell? ((nb w).add 1)=some (slice e4 f4 g4)∧True)∧
 CP 205 #[agg #[slice b4 c4 d4,slice e4 f4 g4],string (p2++v2)] j2 (fun h4 i4=>
 ∃j4,h4= .returned (int .i64 j4)∧
 aa (decide (j4≥0))
 (∃k4 l4 m4 n4 o4 p4,(i4.cell? (nb w)=some (slice k4 l4 m4)∧i4.cell? ((nb w).add 1)=some (slice n4 o4 p4)∧True)∧
 ar i4 (nb k) (fun q4=>
 ∃r4 s4 t4 u4 v4 x4,(q4.cell? (nb k)=some (slice r4 s4 t4)∧q4.cell? ((nb k).add 1)=some (slice u4 v4 x4)∧True)∧
 R (tuple #[agg #[slice r4 s4 t4,slice u4 v4 x4],int .i64 10]) q4) [slice k4 l4 m4,slice n4 o4 p4] 0)
 (∃y4 z4 a5,i4.cell? ((nb w).add 0)=some (slice y4 z4 a5)∧
 ∃b5 c5 d5 e5,(Builtin.append_ #[32,32] 32 #[slice none 0 0,slice y4 z4 a5]).run Tryz.prog i4= .ok (slice b5 c5 d5) e5∧
 ∃f5 g5 h5,e5.cell? ((nb w).add 1)=some (slice f5 g5 h5)∧
 ∃i5 j5 k5 l5,(Builtin.append_ #[33,33] 33 #[slice none 0 0,slice f5 g5 h5]).run Tryz.prog e5= .ok (slice i5 j5 k5) l5∧
 ∀m5,m5=l5.drew→
 ∃n5 o5,(m5.cell? (nb j)=some (int .i64 n5)∧m5.cell? ((nb j).add 1)=some (int .i64 o5)∧True)∧
 (∀p5,p5=m5.alloc (.cells #[string (p2++v2)] 9)→
 (p5.cell? (nb j)=some (int .i64 n5)∧p5.cell? ((nb j).add 1)=some (int .i64 o5)∧True)∧
 (∃q5 r5 s5 t5,(Builtin.append_ #[32,32] 32 #[slice b5 c5 d5,slice (some (nb m5)) 1 1]).run Tryz.prog p5= .ok (slice q5 r5 s5) t5∧
 (t5.cell? (nb j)=some (int .i64 n5)∧t5.cell? ((nb j).add 1)=some (int .i64 o5)∧True)∧
 ∀u5,u5=t5.alloc (.cells #[int .i64 n5,int .i64 o5] 85)→
 ∃v5 x5 y5 z5,(Builtin.append_ #[33,33] 33 #[slice i5 j5 k5,slice (some (nb t5)) 1 1]).run Tryz.prog u5= .ok (slice v5 x5 y5) z5∧
 ar z5 (nb k) (fun a6=>
 ∃b6 c6 d6 e6 f6 g6,(a6.cell? (nb k)=some (slice b6 c6 d6)∧a6.cell? ((nb k).add 1)=some (slice e6 f6 g6)∧True)∧
 R (tuple #[agg #[slice b6 c6 d6,slice e6 f6 g6],int .i64 0]) a6) [slice q5 r5 s5,slice v5 x5 y5] 0)∧
 (∀h6,h6=p5.alloc (.cells #[int .i64 n5,int .i64 o5] 85)→
 ∃i6 j6 k6 l6,(Builtin.append_ #[32,32] 32 #[slice b5 c5 d5,slice (some (nb m5)) 1 1]).run Tryz.prog h6= .ok (slice i6 j6 k6) l6∧
 ∃m6 n6 o6 p6,(Builtin.append_ #[33,33] 33 #[slice i5 j5 k5,slice (some (nb p5)) 1 1]).run Tryz.prog l6= .ok (slice m6 n6 o6) p6∧
 ar p6 (nb k) (fun q6=>
 ∃r6 s6 t6 u6 v6 x6,(q6.cell? (nb k)=some (slice r6 s6 t6)∧q6.cell? ((nb k).add 1)=some (slice u6 v6 x6)∧True)∧
 R (tuple #[agg #[slice r6 s6 t6,slice u6 v6 x6],int .i64 0]) q6) [slice i6 j6 k6,slice m6 n6 o6] 0))∧
 (∀y6,y6=m5.alloc (.cells #[int .i64 n5,int .i64 o5] 85)→
 ∀z6,z6=y6.alloc (.cells #[string (p2++v2)] 9)→
 ∃a7 b7 c7 d7,(Builtin.append_ #[32,32] 32 #[slice b5 c5 d5,slice (some (nb y6)) 1 1]).run Tryz.prog z6= .ok (slice a7 b7 c7) d7∧
 ∃e7 f7 g7 h7,(Builtin.append_ #[33,33] 33 #[slice i5 j5 k5,slice (some (nb m5)) 1 1]).run Tryz.prog d7= .ok (slice e7 f7 g7) h7∧
 ar h7 (nb k) (fun i7=>
 ∃j7 k7 l7 m7 n7 o7,(i7.cell? (nb k)=some (slice j7 k7 l7)∧i7.cell? ((nb k).add 1)=some (slice m7 n7 o7)∧True)∧
 R (tuple #[agg #[slice j7 k7 l7,slice m7 n7 o7],int .i64 0]) i7) [slice a7 b7 c7,slice e7 f7 g7] 0)))))))))))
theorem vq (a:OA) (b c:Nat) (d:OA) (f g:Nat) (h i:Int) (w:World) (R:RW) (hh:Je a b c d f g h i w R):CR 158 #[agg #[slice a b c,slice d f g],agg #[int .i64 h,int .i64 i]] w R:=
 aF (fn:=Tryz.f158) (by kernel_rfl) (by kernel_rfl) (by kernel_rfl) (by kernel_rfl) (by kernel_rfl) hh
def Jj (a:OA) (b c:Nat) (d:OA) (f g:Nat) (h:ByteArray) (i:Int) (w:World) (R:RW):Prop:=
 ∀j,j=w.alloc (.cells #[slice a b c,slice d f g] 35)→
 ∀k:KW,(∀(l:Int) (m:OA) (n o:Nat) (p:World),(aa (decide (l< (h.size:Int)))
 ((0:Int)≤l∧l< (h.size:Int)∧
 ∀q,q=p.alloc (.cells #[int .i64 (IntKind.wrap .i64 (btAt h l))] 3)→
 ∃r s t u,(Builtin.append_ #[28,28] 28 #[slice m n o,slice (some (nb p)) 1 1]).run Tryz.prog q= .ok (slice r s t) u∧
 Ar .i64 (l+1) (fun x=>
 k [int .i64 x,slice r s t] u))
 (∀y:KW,(∀(z:Int) (a1:OA) (b1 c1:Nat) (d1:World),(∃e1 f1 g1,d1.cell? ((nb w).add 1)=some (slice e1 f1 g1)∧
 aa (decide (z< (f1:Int)))
 (Ar .i64 ((256:Int)+z) (fun h1=>
 aa (decide (h1<i))
 (∀i1:KW,(∀(j1:Int) (k1:OA) (l1 m1:Nat) (n1:World),(aa (decide (j1< (b1:Int)))
 (∀o1:KW,(∀(p1:Int) (q1:OA) (r1 s1:Nat) (t1:World),(Ar .i64 (p1+1) (fun u1=>
 i1 [int .i64 u1,slice q1 r1 s1] t1))→o1 [int .i64 p1,slice q1 r1 s1] t1)→
 ∀v1,v1=n1.drew→
 Ar .i64 (j1+1) (fun x1=>
 aa (decide (x1< (b1:Int)))
 (ae a1 (fun y1=>
 (0:Int)≤j1∧j1< (b1:Int)∧
 ∃z1,v1.cell? (y1.add (j1.toNat*1))=some (int .i64 z1)∧
 ∃a2 b2 c2,v1.cell? ((nb w).add 1)=some (slice a2 b2 c2)∧
 ae a2 (fun d2=>
 (0:Int)≤z∧z< (b2:Int)∧
 ∃e2,v1.cell? ((d2.add (z.toNat*2)).add 0)=some (int .i64 e2)∧
 aa (z1==e2)
 (Ar .i64 (j1+1) (fun f2=>
 ae a1 (fun g2=>
 (0:Int)≤f2∧f2< (b1:Int)∧
 ∃h2,v1.cell? (g2.add (f2.toNat*1))=some (int .i64 h2)∧
 ∃i2 j2 k2,v1.cell? ((nb w).add 1)=some (slice i2 j2 k2)∧
 ae i2 (fun l2=>
 (0:Int)≤z∧z< (j2:Int)∧
 ∃m2,v1.cell? ((l2.add (z.toNat*2)).add 1)=some (int .i64 m2)∧
 aa (h2==m2)
 (Ar .i64 ((256:Int)+z) (fun n2=>
 ∀o2,o2=v1.alloc (.cells #[int .i64 n2] 3)→
 ∃p2 q2 r2 s2,(Builtin.append_ #[28,28] 28 #[slice k1 l1 m1,slice (some (nb v1)) 1 1]).run Tryz.prog o2= .ok (slice p2 q2 r2) s2∧
 Ar .i64 (j1+1) (fun t2=>
 o1 [int .i64 t2,slice p2 q2 r2] s2)))
 (ae a1 (fun u2=>
 (0:Int)≤j1∧j1< (b1:Int)∧
 ∃v2,v1.cell? (u2.add (j1.toNat*1))=some (int .i64 v2)∧
 ∀x2,x2=v1.alloc (.cells #[int .i64 v2] 3)→
 ∃y2 z2 a3 b3,(Builtin.append_ #[28,28] 28 #[slice k1 l1 m1,slice (some (nb v1)) 1 1]).run Tryz.prog x2= .ok (slice y2 z2 a3) b3∧
 o1 [int .i64 j1,slice y2 z2 a3] b3))))))
 (ae a1 (fun c3=>
 (0:Int)≤j1∧j1< (b1:Int)∧
 ∃d3,v1.cell? (c3.add (j1.toNat*1))=some (int .i64 d3)∧
 ∀e3,e3=v1.alloc (.cells #[int .i64 d3] 3)→
 ∃f3 g3 h3 i3,(Builtin.append_ #[28,28] 28 #[slice k1 l1 m1,slice (some (nb v1)) 1 1]).run Tryz.prog e3= .ok (slice f3 g3 h3) i3∧
 o1 [int .i64 j1,slice f3 g3 h3] i3)))))
 (ae a1 (fun j3=>
 (0:Int)≤j1∧j1< (b1:Int)∧
 ∃k3,v1.cell? (j3.add (j1.toNat*1))=some (int .i64 k3)∧
 ∀l3,l3=v1.alloc (.cells #[int .i64 k3] 3)→
 ∃m3 n3 o3 p3,(Builtin.append_ #[28,28] 28 #[slice k1 l1 m1,slice (some (nb v1)) 1 1]).run Tryz.prog l3= .ok (slice m3 n3 o3) p3∧
 o1 [int .i64 j1,slice m3 n3 o3] p3))))
 (Ar .i64 (z+1) (fun q3=>
 y [int .i64 q3,slice k1 l1 m1] n1)))→i1 [int .i64 j1,slice k1 l1 m1] n1)→
 i1 [int .i64 0,slice none 0 0] d1)
 (R (slice a1 b1 c1) d1)))
 (R (slice a1 b1 c1) d1))→y [int .i64 z,slice a1 b1 c1] d1)→
 y [int .i64 0,slice m n o] p))→k [int .i64 l,slice m n o] p)→
 k [int .i64 0,slice none 0 0] j
theorem xf (a:OA) (b c:Nat) (d:OA) (f g:Nat) (h:ByteArray) (i:Int) (w:World) (R:RW) (hh:Jj a b c d f g h i w R):CR 166 #[agg #[slice a b c,slice d f g],string h,int .i64 i] w R:=
 aF (fn:=Tryz.f166) (by kernel_rfl) (by kernel_rfl) (by kernel_rfl) (by kernel_rfl) (by kernel_rfl) hh
def KU (a:OA) (b c:Nat) (d:OA) (f g:Nat) (h:Int) (w:World) (R:RW):Prop:=
 ∀i,i=w.alloc (.cells #[slice a b c,slice d f g] 37)→
 ∃j k l,i.cell? ((nb w).add 0)=some (slice j k l)∧
 Ar .i64 ((k:Int)-1) (fun m=>
 ∀n:KW,(∀(o p:Int) (q:World),(aa (decide (o≥0))
 (∃r s t,q.cell? ((nb w).add 0)=some (slice r s t)∧
 ae r (fun u=>
 (0:Int)≤o∧o< (s:Int)∧
 ∃x,q.cell? ((u.add (o.toNat*3)).add 0)=some (int .i64 x)∧
 aa (decide ((IntKind.wrap .i64 h:Int)≥x))
 (∃y z a1,q.cell? ((nb w).add 0)=some (slice y z a1)∧
 ae y (fun b1=>
 (0:Int)≤o∧o< (z:Int)∧
 ∃c1,q.cell? ((b1.add (o.toNat*3)).add 1)=some (int .i64 c1)∧
 aa (decide ((IntKind.wrap .i64 h:Int)≤c1))
 (∃d1 e1 f1,q.cell? ((nb w).add 0)=some (slice d1 e1 f1)∧
 ae d1 (fun g1=>
 (0:Int)≤o∧o< (e1:Int)∧
 ∃h1,q.cell? ((g1.add (o.toNat*3)).add 2)=some (int .i64 h1)∧
 R (int .i64 h1) q))
 (Ar .i64 (o-1) (fun i1=>
 n [int .i64 i1,int .i64 p] q))))
 (Ar .i64 (o-1) (fun j1=>
 n [int .i64 j1,int .i64 p] q))))
 (R (int .i64 0) q))→n [int .i64 o,int .i64 p] q)→
 n [int .i64 m,int .i64 0] i)
theorem ww (a:OA) (b c:Nat) (d:OA) (f g:Nat) (h:Int) (w:World) (R:RW) (hh:KU a b c d f g h w R):CR 167 #[agg #[slice a b c,slice d f g],int .u8 h] w R:=
 aF (fn:=Tryz.f167) (by kernel_rfl) (by kernel_rfl) (by kernel_rfl) (by kernel_rfl) (by kernel_rfl) hh
def Kk (a:OA) (b c:Nat) (d:OA) (f g:Nat) (h:ByteArray) (w:World) (R:RW):Prop:=
 ∀i,i=w.alloc (.cells #[slice a b c,slice d f g] 35)→
 ∀j:KW,(∀(k l:Int) (m:World),(∃n o p,m.cell? ((nb w).add 0)=some (slice n o p)∧
 aa (decide (k< (o:Int)))
 (∃q r s,m.cell? ((nb w).add 0)=some (slice q r s)∧
 ae q (fun t=>
 (0:Int)≤k∧k< (r:Int)∧
 ∃u,m.cell? (t.add (k.toNat*1))=some (string u)∧
 aa (u.toList==h.toList)
 (R (int .i64 k) m)
 (Ar .i64 (k+1) (fun x=>
 j [int .i64 x,int .i64 l] m))))
 (R (int .i64 (-1)) m))→j [int .i64 k,int .i64 l] m)→
 j [int .i64 0,int .i64 0] i
theorem vJ (a:OA) (b c:Nat) (d:OA) (f g:Nat) (h:ByteArray) (w:World) (R:RW) (hh:Kk a b c d f g h w R):CR 205 #[agg #[slice a b c,slice d f g],string h] w R:=
 aF (fn:=Tryz.f205) (by kernel_rfl) (by kernel_rfl) (by kernel_rfl) (by kernel_rfl) (by kernel_rfl) hh
end Go.Proofs.YtijbcdiffjjefaaGreatDoor.Eng
