/- Classes of bytes: the table, walked by the engine. -/
import Derived.Test.YtdlcfegnaphclaaGreatZrRw
set_option linter.unusedVariables false
set_option linter.unusedSimpArgs false
set_option maxRecDepth 100000
namespace Go.Proofs.YtdlcfegnaphclaaGreat.Eng
open Go Go.RowKit
def dU (cls:List (Int×Int×Int)) (b:Int):Int:=cls.foldl (fun n c=>if c.1≤b∧b≤c.2.1 then c.2.2 else n) 0
theorem Bh (cls:List (Int×Int×Int)) (c:Int×Int×Int) (b:Int):dU (cls++ [c]) b=if c.1≤b∧b≤c.2.1 then c.2.2 else dU cls b:=by simp [dU]
theorem ph {cls:List (Int×Int×Int)} (h:∀c∈cls,aW c=true) (b:Int):0≤dU cls b∧dU cls b<16:=by
 have:∀(l:List (Int×Int×Int)) (n:Int),(∀c∈l,aW c=true)→0≤n∧n<16→0≤l.foldl (fun n c=>if c.1≤b∧b≤c.2.1 then c.2.2 else n) n∧l.foldl (fun n c=>if c.1≤b∧b≤c.2.1 then c.2.2 else n) n<16:=by
  intro l;induction l with
  |nil=>intro n _ h;exact h
  |cons c l ih=>
   intro n hl hn;refine ih _ (fun c hc=>hl c (by simp [hc])) ?_;have hc:=of_decide_eq_true (by simpa [aW]using hl c (by simp):decide _=true);show 0≤(if c.1≤b∧b≤c.2.1 then c.2.2 else n)∧(if c.1≤b∧b≤c.2.1 then c.2.2 else n) <16;split
   ·omega
   ·exact hn
 exact this cls 0 h (by omega)
def cutB (cls:List (Int×Int×Int)) (js:List (Int×Int)) (a b:Int):Bool:=decide (dU cls a≠dU cls b∧(dU cls a,dU cls b)∉js)
abbrev jM:TypeId:=293
structure C_ (c:Array Value) (f:Nat→Int) (g:Nat→Nat→Bool):Prop where
 size:c.size=512
 cls:∀b,b<256→c[b]? =some (.int .i64 (f b))
 join:∀x y,x<16→y<16→c[256+x*16+y]? =some (.bool (g x y))
def qe (js:List (Int×Int)) (x y:Nat):Bool:=decide (((x:Int),(y:Int))∈js)
def uA (w:World) (p:Nat) (cls:List (Int×Int×Int)) (js:List (Int×Int)):Prop:=∃c,w.heap[p]? =some (.cells c jM (0,0))∧C_ c (fun b=>dU cls b) (qe js)
theorem uA.on {w w':World} {p:Nat} {cls:List (Int×Int×Int)} {js:List (Int×Int)} (h:uA w p cls js) (hb:Below w.heap.size w w'):uA w' p cls js:=by
 obtain⟨c,h1,h2⟩:=h;exact⟨c,ah hb h1,h2⟩
theorem gA (n:Int) (w:World):CP 191 #[.int .i64 n] w fun e w'=>e= .returned (.bool (decide (0≤n∧n≤15)))∧w'=w:=by
 refine aR (vW n w (fun v w'=>v= .bool (decide (0≤n∧n≤15))∧w'=w) ?_) (by rintro v w' ⟨rfl,h⟩;exact⟨rfl,h⟩);refine ac.mk (fun h=>?_) fun h=>?_
 ·have h:=of_decide_eq_true h;refine⟨?_,rfl⟩;congr 1;exact decide_eq_decide.2 (by omega)
 ·have h:=of_decide_eq_false h;refine⟨?_,rfl⟩;rw [decide_eq_false (by omega)]
theorem qi (c:Int×Int×Int) (w:World):CP 190 #[.agg #[.int .i64 c.1,.int .i64 c.2.1,.int .i64 c.2.2]] w fun e w'=>e= .returned (.bool (aW c))∧Below w.heap.size w w':=by
 refine aR (vK c.1 c.2.1 c.2.2 w (fun v w'=>v= .bool (aW c)∧Below w.heap.size w w') ?_) (by rintro v w' ⟨rfl,h⟩;exact⟨rfl,h⟩);intro w1 hw1;have hb:Below w.heap.size w w1:=by subst hw1;exact ag _ _
 have hc:∀j,w1.cell? ((nb w).add j)=(#[Value.int .i64 c.1,Value.int .i64 c.2.1,Value.int .i64 c.2.2]:Array Value)[j]? :=by
  intro j;subst hw1;rw [aC,Nat.zero_add,aY]
 have off:aW c=false→(Value.bool false= .bool (aW c)∧Below w.heap.size w w1):=fun h=>⟨by rw [h],hb⟩;refine⟨c.1,hc 0,ac.mk (fun h1=>?_) fun h1=>off ?_⟩
 ·have h1:=of_decide_eq_true h1;refine⟨c.1,hc 0,c.2.1,hc 1,ac.mk (fun h2=>?_) fun h2=>off ?_⟩
  ·have h2:=of_decide_eq_true h2;refine⟨c.2.1,hc 1,ac.mk (fun h3=>?_) fun h3=>off ?_⟩
   ·have h3:=of_decide_eq_true h3;refine⟨c.2.2,hc 2,?_⟩;refine(gA c.2.2 w1).mono ?_;rintro e w2 ⟨rfl,hw⟩;subst hw;refine⟨_,rfl,?_,hb⟩;congr 1;unfold aW;exact decide_eq_decide.2 (by omega)
   ·have h3:=of_decide_eq_false h3;unfold aW;exact decide_eq_false (by omega)
  ·have h2:=of_decide_eq_false h2;unfold aW;exact decide_eq_false (by omega)
 ·have h1:=of_decide_eq_false h1;unfold aW;exact decide_eq_false (by omega)
theorem fS (a b c:Int):∀v∈ [Value.int .i64 a,Value.int .i64 b,Value.int .i64 c],v.oneCell'=true:=by
 intro v hv;simp only [List.mem_cons,List.not_mem_nil,or_false]at hv;rcases hv with rfl |rfl |rfl<;>rfl
theorem C_.setCls {c:Array Value} {f:Nat→Int} {g:Nat→Nat→Bool} (h:C_ c f g) {b:Nat} (hb:b<256) (n:Int):C_ (c.setIfInBounds b (.int .i64 n)) (fun i=>if i=b then n else f i) g:=by
 refine⟨by simp [h.size],fun i hi=>?_,fun x y hx hy=>?_⟩
 ·by_cases he:i=b
  ·subst he;rw [Array.getElem?_setIfInBounds_self_of_lt (by have:=h.size;omega),if_pos rfl]
  ·rw [Array.getElem?_setIfInBounds_ne (fun e=>he e.symm),if_neg he,h.cls i hi]
 ·rw [Array.getElem?_setIfInBounds_ne (by omega)];exact h.join x y hx hy
theorem C_.setJoin {c:Array Value} {f:Nat→Int} {g:Nat→Nat→Bool} (h:C_ c f g) {x y:Nat} (hx:x<16) (hy:y<16):C_ (c.setIfInBounds (256+x*16+y) (.bool true)) f (fun a b=>g a b||decide (a=x∧b=y)):=by
 refine⟨by simp [h.size],fun i hi=>?_,fun a b ha hb=>?_⟩
 ·rw [Array.getElem?_setIfInBounds_ne (by omega)];exact h.cls i hi
 ·by_cases he:a=x∧b=y
  ·obtain⟨rfl,rfl⟩:=he;rw [Array.getElem?_setIfInBounds_self_of_lt (by have:=h.size;omega)];simp
  ·rw [Array.getElem?_setIfInBounds_ne (by omega),h.join a b ha hb,decide_eq_false he,Bool.or_false]
theorem C_.congr {c:Array Value} {f f':Nat→Int} {g g':Nat→Nat→Bool} (h:C_ c f g) (hf:∀b,b<256→f b=f' b) (hg:∀x y,x<16→y<16→g x y=g' x y):C_ c f' g':=
 ⟨h.size,fun b hb=>by rw [h.cls b hb,hf b hb],fun x y hx hy=>by rw [h.join x y hx hy,hg x y hx hy]⟩
theorem sI (w:World) (a1 a2:Option Addr) (c1 c2:Nat) (cls:List (Int×Int×Int)) (js:List (Int×Int)) (hr1:Rw cM 3 w a1 cls) (hr2:Rw bE 2 w a2 js) (hl1:cls.length≤1000000) (hl2:js.length≤1000000)
  (ok1:∀c∈cls,aW c=true) (ok2:∀j∈js,cB j=true):
  CP 144 #[.slice a1 cls.length c1,.slice a2 js.length c2] w fun e w'=>∃p,e= .returned (.tuple #[.pointer (some ⟨p,0,none⟩),.int .i64 0])∧uA w' p cls js∧Below w.heap.size w w'∧w.heap.size≤p:=by
 refine aL (xh a1 cls.length c1 a2 js.length c2 w) ?_;intro w1 hw1;have hb1:Below w.heap.size w w1:=by subst hw1;exact ag _ _
 have h1:∃c,w1.heap[w.heap.size]? =some (.cells c jM (0,0))∧C_ c (fun b=>dU (cls.take 0) b) (fun _ _=>false):=by
  subst hw1;refine⟨_,ak _ _,by simp,fun b hb=>?_,fun x y hx hy=>?_⟩
  ·rw [List.getElem?_toArray,List.getElem?_append_left (by rw [List.length_replicate];exact hb),List.getElem?_replicate,if_pos hb];rfl
  ·rw [List.getElem?_toArray,List.getElem?_append_right (by simp;omega),List.getElem?_replicate,if_pos (by simp;omega)]
 intro I hI;have key:=aX (α:=Int×Option Addr×World) cls.length (fun i x=>(∃c,x.2.2.heap[w.heap.size]? =some (.cells c jM (0,0))∧C_ c (fun b=>dU (cls.take i) b) (fun _ _=>false))∧Below w.heap.size w x.2.2) (fun i x=>I [.int .i64 (i:Int),.int .i64 x.1,.pointer x.2.1] x.2.2) (0,none,w1) ⟨h1,hb1⟩ ?_ ?_
 ·exact key
 ·rintro i hi ih ⟨y5,y4,w2⟩ ⟨⟨c,hblk,hc⟩,hB⟩;change w2.heap[w.heap.size]? =_ at hblk;change Below w.heap.size w w2 at hB;obtain⟨q,hq,_,hcx⟩:=(hr1.on hB) i _ (List.getElem?_eq_getElem hi);have q0:=hcx 0 _ rfl;rw [ay]at q0;refine hI _ _ _ _ (ac.yes (by simp;omega) (af.mk q hq ⟨by omega,by omega,_,_,_,⟨q0,hcx 1 _ rfl,hcx 2 _ rfl,trivial⟩,?_⟩));intro w3 hw3;refine aT [.int .i64 0,.int .i64 0,.int .i64 0] [.int .i64 cls[i].1,.int .i64 cls[i].2.1,.int .i64 cls[i].2.2] rfl (fS _ _ _) w3 hw3 ?_;intro w4 h4 hz4 hB4;refine⟨_,_,_,⟨by have:=aj _ _ h4 0;rw [ay]at this;exact this,aj _ _ h4 1,aj _ _ h4 2,trivial⟩,?_⟩;refine(qi cls[i] w4).mono ?_;rintro e w5 ⟨rfl,hB5⟩;have hok:=ok1 cls[i] (List.getElem_mem hi);have hr:=of_decide_eq_true (by simpa [aW]using hok:decide _=true);have h5:=ah hB5 h4;have hB52:Below w2.heap.size w2 w5:=ae hB4 hB5;have hblk5:=ah hB52 hblk;have hne:w2.heap.size≠w.heap.size:=by have:=(Array.getElem?_eq_some_iff.1 hblk).1;omega
  refine⟨_,rfl,ac.no (by rw [hok];rfl) ⟨_,aj _ _ h5 0,?_⟩⟩;obtain⟨lo,hlo⟩:∃lo:Nat,cls[i].1=(lo:Int):=⟨cls[i].1.toNat,by omega⟩;obtain⟨hi',hhi⟩:∃hi':Nat,cls[i].2.1=(hi':Int):=⟨cls[i].2.1.toNat,by omega⟩;rw [hlo,hhi]at hr;intro I5 hI5;rw [hlo];have key5:=aX (α:=World) (hi'+1-lo) (fun k x=>(∃c,x.heap[w.heap.size]? =some (.cells c jM (0,0))∧C_ c (fun b=>if lo≤b∧b<lo+k then cls[i].2.2 else dU (cls.take i) b) (fun _ _=>false))∧Below w.heap.size w x∧x.heap[w2.heap.size]? =w5.heap[w2.heap.size]?) (fun k x=>I5 [.int .i64 ((lo+k:Nat):Int)] x) w5 ⟨⟨c,hblk5,hc.congr (fun b _=>by rw [if_neg (by omega)]) (fun _ _ _ _=>rfl)⟩,hB.trans (hB52.mono hB.size),rfl⟩ ?_ ?_
  ·exact key5
  ·rintro k hk ih5 w6 ⟨⟨c6,hblk6,hc6⟩,hB6,hs6⟩;have hl6:w6.heap[w2.heap.size]? =some (.cells #[Value.int .i64 cls[i].1,Value.int .i64 cls[i].2.1,Value.int .i64 cls[i].2.2] H_ (0,0)):=by rw [hs6];exact h5
   refine hI5 _ _ ⟨_,aj _ _ hl6 1,ac.yes (by rw [hhi];simp;omega) ?_⟩;intro w7 hw7;have hblk7:w7.heap[w.heap.size]? =some (.cells c6 jM (0,0)):=by subst hw7;exact hblk6
   have hl7:w7.heap[w2.heap.size]? =some (.cells #[Value.int .i64 cls[i].1,Value.int .i64 cls[i].2.1,Value.int .i64 cls[i].2.2] H_ (0,0)):=by subst hw7;exact hl6
   have hB7:Below w.heap.size w w7:=by subst hw7;exact hB6.drew
   have hadr:((nb w).add 0).add (((lo+k:Nat):Int).toNat*1)=(⟨w.heap.size,0,none⟩:Addr).add (lo+k):=by
    rw [aC,aC,aC];simp
   rw [hadr];refine⟨_,aj _ _ hl7 2,by omega,by omega,rfl,⟨_,by rw [aj _ _ hblk7];exact hc6.cls (lo+k) (by omega)⟩,be hblk7,?_⟩;intro w8 hw8;refine Ar.ok64 (by omega) (by omega) ?_;rw [show((lo+k:Nat):Int)+1=((lo+(k+1):Nat):Int) by omega];refine ih5 w8 ⟨⟨_,by subst hw8;exact bL hblk7 _,(hc6.setCls (show lo+k<256 by omega) cls[i].2.2).congr (fun b hb=>?_) (fun _ _ _ _=>rfl)⟩,by subst hw8;exact bJ hB7 (Nat.le_refl _) _,?_⟩
   ·by_cases he:b=lo+k
    ·subst he;rw [if_pos rfl,if_pos (by omega)]
    ·rw [if_neg he];by_cases h2:lo≤b∧b<lo+k
     ·rw [if_pos h2,if_pos (by omega)]
     ·rw [if_neg h2,if_neg (by omega)]
   ·subst hw8;rw [aq (by rw [ax];exact hne),hl7,h5]
  ·rintro w6 ⟨⟨c6,hblk6,hc6⟩,hB6,hs6⟩;have hl6:w6.heap[w2.heap.size]? =some (.cells #[Value.int .i64 cls[i].1,Value.int .i64 cls[i].2.1,Value.int .i64 cls[i].2.2] H_ (0,0)):=by rw [hs6];exact h5
   refine hI5 _ _ ⟨_,aj _ _ hl6 1,ac.no (by rw [hhi];simp;omega) ?_⟩;refine Ar.ok64 (by omega) (by omega) (ih (y5,y4,w6) ⟨⟨c6,hblk6,hc6.congr (fun b hb=>?_) (fun _ _ _ _=>rfl)⟩,hB6⟩);have htake:cls.take (i+1)=cls.take i++ [cls[i]]:=by rw [List.take_add_one,List.getElem?_eq_getElem hi];rfl
   rw [htake,Bh,hlo,hhi];by_cases h2:lo≤b∧b<lo+(hi'+1-lo)
   ·rw [if_pos h2,if_pos (by omega)]
   ·rw [if_neg h2,if_neg (by omega)]
 ·rintro⟨y5,y4,w2⟩ ⟨⟨c,hblk,hc⟩,hB⟩;change w2.heap[w.heap.size]? =_ at hblk;change Below w.heap.size w w2 at hB;rw [List.take_length]at hc;refine hI _ _ _ _ (ac.no (by simp) ?_);intro I11 hI11;have key:=aX (α:=Int×Option Addr×World) js.length (fun i x=>(∃c,x.2.2.heap[w.heap.size]? =some (.cells c jM (0,0))∧C_ c (fun b=>dU cls b) (qe (js.take i)))∧Below w.heap.size w x.2.2) (fun i x=>I11 [.int .i64 (i:Int),.int .i64 x.1,.pointer x.2.1] x.2.2) (y5,y4,w2) ⟨⟨c,hblk,hc.congr (fun _ _=>rfl) (fun x y _ _=>by simp [qe])⟩,hB⟩ ?_ ?_
  ·exact key
  ·rintro i hi ih ⟨y5,y4,w9⟩ ⟨⟨c,hblk,hc⟩,hB⟩;change w9.heap[w.heap.size]? =_ at hblk;change Below w.heap.size w w9 at hB;obtain⟨q,hq,_,hcx⟩:=(hr2.on hB) i _ (List.getElem?_eq_getElem hi);have q0:=hcx 0 _ rfl;rw [ay]at q0;refine hI11 _ _ _ _ (ac.yes (by simp;omega) (af.mk q hq ⟨by omega,by omega,_,_,⟨q0,hcx 1 _ rfl,trivial⟩,?_⟩));intro w10 hw10;refine aT [.int .i64 0,.int .i64 0] [.int .i64 js[i].1,.int .i64 js[i].2] rfl (co _ _) w10 hw10 ?_;intro w11 h11 hz11 hB11;have hok:=ok2 js[i] (List.getElem_mem hi);have hr:=of_decide_eq_true (by simpa [cB]using hok:decide _=true);refine⟨_,aj _ _ h11 0,(gA _ w11).mono ?_⟩;rintro e w12 ⟨rfl,hw⟩;subst hw;refine⟨_,rfl,ac.no (by rw [decide_eq_true (by omega)];rfl) ⟨_,aj _ _ h11 1,(gA _ w12).mono ?_⟩⟩;rintro e w13 ⟨rfl,hw⟩;subst hw;refine⟨_,rfl,ac.no (by rw [decide_eq_true (by omega)];rfl) ?_⟩;intro w14 hw14;have hh14:w14.heap=w13.heap:=by subst hw14;rfl
   have hl14:w14.heap[w9.heap.size]? =some (.cells #[Value.int .i64 js[i].1,Value.int .i64 js[i].2] K4 (0,0)):=by rw [hh14];exact h11
   have hblk14:w14.heap[w.heap.size]? =some (.cells c jM (0,0)):=by rw [hh14];exact ah hB11 hblk
   have hB14:Below w.heap.size w w14:=by subst hw14;exact(hB.trans (hB11.mono hB.size)).drew
   obtain⟨x,hx⟩:∃x:Nat,js[i].1=(x:Int):=⟨js[i].1.toNat,by omega⟩;obtain⟨y,hy⟩:∃y:Nat,js[i].2=(y:Int):=⟨js[i].2.toNat,by omega⟩;have hadr:(((nb w).add 256).add ((js[i].1).toNat*16)).add ((js[i].2).toNat*1)=(⟨w.heap.size,0,none⟩:Addr).add (256+x*16+y):=by
    rw [aC,aC,aC,aC,hx,hy];simp
   refine⟨_,aj _ _ hl14 0,_,aj _ _ hl14 1,by omega,by omega,by omega,by omega,?_⟩;rw [hadr];refine⟨rfl,⟨_,by rw [aj _ _ hblk14];exact hc.join x y (by omega) (by omega)⟩,be hblk14,?_⟩;intro w15 hw15;refine Ar.ok64 (by omega) (by omega) (ih (y5,y4,w15) ⟨⟨_,by subst hw15;exact bL hblk14 _,(hc.setJoin (show x<16 by omega) (show y<16 by omega)).congr (fun _ _=>rfl) (fun a b ha hb=>?_)⟩,by subst hw15;exact bJ hB14 (Nat.le_refl _) _⟩);have htake:js.take (i+1)=js.take i++ [js[i]]:=by rw [List.take_add_one,List.getElem?_eq_getElem hi];rfl
   rw [htake];have:js[i]=((x:Int),(y:Int)):=Prod.ext hx hy;rw [this];unfold qe;rw [Bool.eq_iff_iff];simp only [Bool.or_eq_true,decide_eq_true_eq,List.mem_append,List.mem_singleton,Prod.mk.injEq];have:((a:Int)=x∧(b:Int)=y)↔(a=x∧b=y):=by omega
   rw [this]
  ·rintro⟨y5,y4,w9⟩ ⟨⟨c,hblk,hc⟩,hB⟩;rw [List.take_length]at hc;exact hI11 _ _ _ _ (ac.no (by simp) ⟨w.heap.size,rfl,⟨c,hblk,hc⟩,hB,Nat.le_refl _⟩)
theorem tR (w:World) (p:Nat) (cls:List (Int×Int×Int)) (js:List (Int×Int)) (h:uA w p cls js) (ok1:∀c∈cls,aW c=true) (a b:Int) (ha:0≤a∧a<256) (hb:0≤b∧b<256):
  CP 240 #[.pointer (some ⟨p,0,none⟩),.int .u8 a,.int .u8 b] w fun e w'=>e= .returned (.bool (cutB cls js a b))∧Below w.heap.size w w':=by
 refine aL (vw (some ⟨p,0,none⟩) a b w) ?_;refine ac.no rfl ?_;intro w1 hw1;have hB:Below w.heap.size w w1:=by subst hw1;exact(Below.refl _ _).drew
 obtain⟨c,hblk,hc⟩:=h.on hB;obtain⟨a,rfl⟩:∃n:Nat,a=n:=⟨a.toNat,by omega⟩;obtain⟨b,rfl⟩:∃n:Nat,b=n:=⟨b.toNat,by omega⟩;have adr:∀n:Nat,((⟨p,0,none⟩:Addr).add 0).add ((n:Int).toNat*1)=(⟨p,0,none⟩:Addr).add n:=fun n=>by
  rw [aC,aC,aC];simp
 have ra:=ph ok1 a;have rb:=ph ok1 b;refine af.mk _ rfl ⟨ha.1,ha.2,_,by rw [adr,aj p _ hblk];exact hc.cls a (by omega),af.mk _ rfl ⟨hb.1,hb.2,_,by rw [adr,aj p _ hblk];exact hc.cls b (by omega),ac.mk (fun h0=>?_) fun h0=>?_⟩⟩
 ·have h0:dU cls a≠dU cls b:=by simpa using h0
  obtain⟨x,hx⟩:∃x:Nat,dU cls a=(x:Int):=⟨(dU cls a).toNat,by omega⟩;obtain⟨y,hy⟩:∃y:Nat,dU cls b=(y:Int):=⟨(dU cls b).toNat,by omega⟩;have hadr:(((⟨p,0,none⟩:Addr).add 256).add ((dU cls a).toNat*16)).add ((dU cls b).toNat*1)=(⟨p,0,none⟩:Addr).add (256+x*16+y):=by
   rw [aC,aC,aC,aC,hx,hy];simp
  refine af.mk _ rfl ⟨ra.1,ra.2,rb.1,rb.2,_,by rw [hadr,aj p _ hblk];exact hc.join x y (by omega) (by omega),?_,hB⟩;congr 1;rw [cutB,qe, ←hx, ←hy];simp [h0]
 ·have h0:dU cls a=dU cls b:=by simpa using h0
  refine⟨?_,hB⟩;rw [cutB,decide_eq_false (by simp [h0])]
def gu (f:Nat→Bool):Nat→Nat
 |0=>0
 |i+1=>gu f i+if f i then 1 else 0
theorem oT {f:Nat→Bool}:∀n,gu f n=0↔∀i,i<n→f i=false
 |0=>by simp [gu]
 |n+1=>by
  rw [gu];have:=oT (f:=f) n;constructor
  ·intro h i hi;rcases Nat.lt_succ_iff_lt_or_eq.1 hi with h' |h'
   ·exact this.1 (by omega) i h'
   ·subst h';cases hf:f i with
    |false=>rfl
    |true=>rw [hf]at h;simp at h
  ·intro h;rw [this.2 fun i hi=>h i (by omega),h n (by omega)];rfl
theorem sW (f:Nat→Bool):∀n,gu f n≤n
 |0=>Nat.le_refl _
 |n+1=>by
  have:=sW f n;rw [gu];split<;>omega
def fD (cut:Int→Int→Bool) (s:Bs) (j:Nat):Bool:=if j=s.length then true else match s[j-1]?,s[j]? with
 |some x,some y=>decide (1≤j)&&cut x.toNat y.toNat
 |_,_=>false
theorem wi (w:World) (p:Nat) (cls:List (Int×Int×Int)) (js:List (Int×Int)) (h:uA w p cls js) (ok1:∀c∈cls,aW c=true) (s:Bs) (hs:s.length≤1000000):
  CP 239 #[.pointer (some ⟨p,0,none⟩),.string (str s)] w fun e w'=>∃a n c,e= .returned (.slice a n c)∧(n=if s= []then 0 else gu (fD (cutB cls js) s) (s.length+1))∧Below w.heap.size w w':=by
 refine aL (zF (some ⟨p,0,none⟩) (str s) w) ?_;intro I hI;have hz:(str s).size=s.length:=bO s;by_cases hn:s= []
 ·subst hn;refine hI _ _ _ _ _ _ (ac.no (by rw [hz];simp) ⟨none,0,0,rfl,by simp,Below.refl _ _⟩)
 have hpos:0<s.length:=List.length_pos_iff.2 hn;have c1:fD (cutB cls js) s 0=false:=by
  unfold fD;rw [if_neg (by omega)];split<;>simp
 have key:=aX (α:=Int×Sl×List Value×World) s.length (fun k x=>0≤x.1∧x.1≤k∧x.2.1.n=gu (fD (cutB cls js) s) (k+1)∧x.2.2.2.ownsRow w.heap.size iT 1 x.2.1.v x.2.1.n x.2.2.1∧Below w.heap.size w x.2.2.2) (fun k x=>I [.int .i64 ((k:Int)+1),.int .i64 x.1,x.2.1.v] x.2.2.2) (0,⟨none,0,0⟩,[],w) ⟨by simp,by simp,by simp [gu,c1],cP _ _ _ _,Below.refl _ _⟩ ?_ ?_
 ·exact key
 ·rintro k hk ih ⟨from_,l,xs,w1⟩ ⟨f0,f1,hl,hown,hB⟩;change 0≤from_ at f0;change from_≤(k:Int)at f1;change l.n=_ at hl;change w1.ownsRow w.heap.size iT 1 l.v l.n xs at hown;change Below w.heap.size w w1 at hB;have hcl:=sW (fD (cutB cls js) s) (k+1);refine hI _ _ _ _ _ _ (ac.yes (by rw [hz];simp;omega) ?_);intro J hJ w3 hw3;have hB3:Below w.heap.size w w3:=by subst hw3;exact hB.drew
  have hown3:w3.ownsRow w.heap.size iT 1 l.v l.n xs:=by subst hw3;exact kE hown
  have push:∀(w4:World),Below w.heap.size w w4→w4.ownsRow w.heap.size iT 1 l.v l.n xs→fD (cutB cls js) s (k+1)=true→
    (0:Int)≤from_∧from_≤(k:Int)+1∧(k:Int)+1≤((str s).size:Int)∧
     ∀w5:World,w5=w4.alloc (.cells #[Value.string ((str s).extract from_.toNat ((k:Int)+1).toNat)] iT)→
     ∃lA_8:Option Addr,∃lN_9:Nat,∃lC_10:Nat,∃w6:World,(Builtin.append_ #[nt,nt] nt #[Value.slice l.a l.n l.c,Value.slice (some (nb w4)) 1 1]).run Tryz.prog w5= .ok (Value.slice lA_8 lN_9 lC_10) w6∧
     J [Value.int .i64 ((k:Int)+1),Value.slice lA_8 lN_9 lC_10] w6:=by
   intro w4 hB4 hown4 hcut;refine⟨f0,by omega,by rw [hz];omega,?_⟩;rintro w5 rfl;obtain⟨A,C,w6,hr,hown',hg,_⟩:=qc (P:=Tryz.prog) nt iT nf mI rfl (by decide) hown4 [Value.string ((str s).extract from_.toNat ((k:Int)+1).toNat)] rfl (by simp [Value.oneCell']) (by omega) (by omega) hB4.size;refine⟨A,l.n+1,C,w6,hr,hJ _ _ _ _ _ ?_⟩;refine Ar.ok64 (by omega) (by omega) (ih ((k:Int)+1,⟨A,l.n+1,C⟩,_,w6) ⟨by show(0:Int)≤(k:Int)+1;omega,by show(k:Int)+1≤((k+1:Nat):Int);omega,?_,hown',lW hB4 hown4 hg hB4.size⟩);show l.n+1=_;rw [gu,hcut,hl];rfl
  refine ac.mk (fun h0=>?_) fun h0=>?_
  ·have h0:(k:Int)+1=((str s).size:Int):=by simpa using h0
   exact push w3 hB3 hown3 (by unfold fD;rw [if_pos (by omega)])
  ·have h0:(k:Int)+1≠((str s).size:Int):=by simpa using h0
   have hk1:k+1<s.length:=by omega
   refine Ar.ok64 (by omega) (by omega) ⟨by omega,by rw [hz];omega,by omega,by rw [hz];omega,?_⟩;have e1:fJ (str s) ((k:Int)+1-1)=((s[k]).toNat:Int):=by
    rw [show(k:Int)+1-1=((k:Nat):Int) by omega];exact iY s k hk
   have e2:fJ (str s) ((k:Int)+1)=((s[k+1]).toNat:Int):=by
    rw [show(k:Int)+1=((k+1:Nat):Int) by omega];exact iY s (k+1) hk1
   rw [e1,e2];have b1:=(s[k]).toNat_lt;have b2:=(s[k+1]).toNat_lt;refine(tR w3 p cls js (h.on (hB3.mono (by exact Nat.le_refl _))) ok1 _ _ (by omega) (by omega)).mono ?_;rintro e w6 ⟨rfl,hB6⟩;have hcp:fD (cutB cls js) s (k+1)=cutB cls js (s[k]).toNat (s[k+1]).toNat:=by
    unfold fD;rw [if_neg (by omega),Nat.add_sub_cancel,List.getElem?_eq_getElem hk,List.getElem?_eq_getElem hk1];simp
   have hB36:Below w.heap.size w w6:=hB3.trans (hB6.mono hB3.size);refine⟨_,rfl,ac.mk (fun h1=>?_) fun h1=>?_⟩
   ·exact push w6 hB36 (aE hown3 hB6) (by rw [hcp,h1])
   ·refine hJ _ _ _ _ _ (Ar.ok64 (by omega) (by omega) (ih (from_,l,xs,w6) ⟨f0,by show from_≤((k+1:Nat):Int);omega,?_,aE hown3 hB6,hB36⟩));show l.n=_;rw [gu,hcp,h1,hl];rfl
 ·rintro⟨from_,l,xs,w1⟩ ⟨f0,f1,hl,hown,hB⟩;refine hI _ _ _ _ _ _ (ac.no (by rw [hz];simp;omega) ⟨_,_,_,rfl,?_,hB⟩);rw [if_neg hn];exact hl
def lG (cut:Int→Int→Bool) (s:Bs):Bool:=decide (∀j,j<s.length→fD cut s j=false)
theorem AG (w:World) (p:Nat) (cls:List (Int×Int×Int)) (js:List (Int×Int)) (h:uA w p cls js) (ok1:∀c∈cls,aW c=true) (s:Bs) (hs:s.length≤1000000):
  CP 199 #[.pointer (some ⟨p,0,none⟩),.string (str s)] w fun e w'=>e= .returned (.bool (lG (cutB cls js) s))∧Below w.heap.size w w':=by
 refine aR (wN (some ⟨p,0,none⟩) (str s) w (fun v w'=>v= .bool (lG (cutB cls js) s)∧Below w.heap.size w w') ?_) (by rintro v w' ⟨rfl,h⟩;exact⟨rfl,h⟩);refine(wi w p cls js h ok1 s hs).mono ?_;rintro e w1 ⟨a,n,c,rfl,hn,hB⟩;refine⟨a,n,c,rfl,?_,hB⟩;congr 1;unfold lG;refine decide_eq_decide.2 ?_;by_cases he:s= []
 ·subst he;rw [if_pos rfl]at hn;subst hn;simp
 ·rw [if_neg he,gu]at hn;have:fD (cutB cls js) s s.length=true:=by unfold fD;rw [if_pos rfl]
  rw [this]at hn;rw [←oT];simp only [if_true]at hn;omega
def kF (cut:Int→Int→Bool) (a b:Bs):Bool:=match a.getLast?,b.head? with
 |some x,some y=>cut x.toNat y.toNat
 |_,_=>false
theorem um (w:World) (p:Nat) (cls:List (Int×Int×Int)) (js:List (Int×Int)) (h:uA w p cls js) (ok1:∀c∈cls,aW c=true) (a b:Bs) (ha:a.length≤1000000):
  CP 202 #[.pointer (some ⟨p,0,none⟩),.string (str a),.string (str b)] w fun e w'=>e= .returned (.bool (kF (cutB cls js) a b))∧Below w.heap.size w w':=by
 refine aL (vF (some ⟨p,0,none⟩) (str a) (str b) w) ?_;intro w1 hw1;have hB:Below w.heap.size w w1:=by subst hw1;exact(Below.refl _ _).drew
 cases a with
 |nil=>exact ac.no (by simp) ⟨rfl,hB⟩
 |cons x a=>
  refine ac.yes (by rw [cn];simp) ?_;cases b with
  |nil=>refine ac.no (by simp) ⟨by simp [kF],hB⟩
  |cons y b=>
   refine ac.yes (by rw [cn];simp) ?_;have hlt:(x::a).length-1< (x::a).length:=by simp
   simp only [bO,List.length_cons]at*;refine Ar.ok64 (by omega) (by omega) ⟨by omega,by omega,Int.le_refl _,by omega,?_⟩;have e1:fJ (str (x::a)) (((a.length+1:Nat):Int)-1)=(((x::a)[a.length]).toNat:Int):=by
    rw [show((a.length+1:Nat):Int)-1=((a.length:Nat):Int) by omega];exact iY (x::a) a.length (by simp)
   have e2:fJ (str (y::b)) 0=(y.toNat:Int):=iY (y::b) 0 (by simp);rw [e1,e2];have b1:=((x::a)[a.length]).toNat_lt;have b2:=y.toNat_lt;refine(tR w1 p cls js (h.on hB) ok1 _ _ (by omega) (by omega)).mono ?_;rintro e w2 ⟨rfl,hB2⟩;refine⟨_,rfl,?_,ae hB hB2⟩;congr 1;have:(x::a).getLast?=some ((x::a)[a.length]):=by
    rw [List.getLast?_eq_getElem?];simp
   rw [kF,this];rfl
def cC (a b c:Int):List Int→List Int
 | []=>[]
 | [x]=>[x]
 |x::y::r=>if x=a∧y=b then c::cC a b c r else x::cC a b c (y::r)
theorem bS (a b c:Int) (r:List Int):cC a b c (a::b::r)=c::cC a b c r:=by simp [cC]
theorem bY {a b c x y:Int} (r:List Int) (h:¬(x=a∧y=b)):cC a b c (x::y::r)=x::cC a b c (y::r):=by simp [cC,h]
theorem tQ {a b c x:Int} (l:List Int) (h:x≠a):cC a b c (x::l)=x::cC a b c l:=by
 cases l with
 |nil=>rfl
 |cons y r=>exact bY r fun e=>h e.1
def eU (a b:Int) (l:List Int):Prop:=∃u v,l=u++a::b::v
theorem kg {a b x:Int} {l:List Int} (h:eU a b l):eU a b (x::l):=by
 obtain⟨u,v,rfl⟩:=h;exact⟨x::u,v,rfl⟩
theorem tS {a b c:Int}:∀l:List Int,¬eU a b l→cC a b c l=l
 | [],_=>rfl
 | [x],_=>rfl
 |x::y::r,h=>by
  have h1:¬(x=a∧y=b):=by
   rintro⟨rfl,rfl⟩;exact h ⟨[],r,rfl⟩
  rw [bY r h1,tS (y::r) fun e=>h (kg e)]
theorem qY {a b c:Int}:∀(u v:List Int),¬eU a b (u++ [a])→cC a b c (u++a::b::v)=u++c::cC a b c v
 | [],v,_=>bS a b c v
 | [x],v,h=>by
  have hx:¬(x=a∧a=b):=by
   rintro⟨rfl,rfl⟩;exact h ⟨[],[],rfl⟩
  rw [List.cons_append,List.nil_append,bY (b::v) hx,bS];rfl
 |x::y::u,v,h=>by
  have hx:¬(x=a∧y=b):=by
   rintro⟨rfl,rfl⟩;exact h ⟨[],u++ [x],rfl⟩
  have:=qY (c:=c) (y::u) v fun e=>h (by rw [List.cons_append];exact kg e);rw [List.cons_append,List.cons_append,bY _ hx];rw [List.cons_append]at this;rw [this];rfl
theorem sl {a b c:Int} (hca:c≠a) (hcb:c≠b):∀(u v:List Int),¬eU a b u→cC a b c (u++c::v)=u++c::cC a b c v
 | [],v,_=>tQ v hca
 | [x],v,_=>by
  rw [List.cons_append,List.nil_append,bY v fun e=>hcb e.2,tQ v hca];rfl
 |x::y::u,v,h=>by
  have hx:¬(x=a∧y=b):=by
   rintro⟨rfl,rfl⟩;exact h ⟨[],u,rfl⟩
  have:=sl hca hcb (y::u) v fun e=>h (kg e);rw [List.cons_append,List.cons_append,bY _ hx];rw [List.cons_append]at this;rw [this];rfl
theorem zY {a b:Int} {u v:List Int} (h:eU a b u):eU a b (u++v):=by
 obtain⟨p,q,rfl⟩:=h;exact⟨p,q++v,by simp⟩
def cG (k:Int):List (Int×Int)→List Int→List Int
 | [],l=>l
 |m::ms,l=>cG (k+1) ms (cC m.1 m.2 k l)
def iF (k:Int):List (Int×Int)→Prop
 | []=>True
 |m::ms=>m.1<k∧m.2<k∧iF (k+1) ms
theorem gI:∀(ms:List (Int×Int)) (k:Int) (l:List Int),(∀m∈ms,¬eU m.1 m.2 l)→cG k ms l=l
 | [],k,l,_=>rfl
 |m::ms,k,l,h=>by
  simp only [cG];rw [tS l (h m (by simp))];exact gI ms (k+1) l fun x hx=>h x (by simp [hx])
theorem c_:∀(a b:List (Int×Int)) (k:Int) (l:List Int),cG k (a++b) l=cG (k+a.length) b (cG k a l)
 | [],b,k,l=>by simp [cG]
 |m::a,b,k,l=>by
  simp only [List.cons_append,cG];rw [c_ a b];congr 1;simp;omega
theorem fF:∀ {ms:List (Int×Int)} {k:Int},iF k ms→∀(i:Nat) (m:Int×Int),ms[i]? =some m→m.1<k+i∧m.2<k+i
 | [],k,_,i,m,hi=>by simp at hi
 |x::ms,k,h,0,m,hi=>by
  simp at hi;subst hi;exact⟨by have:=h.1;omega,by have:=h.2.1;omega⟩
 |x::ms,k,h,i+1,m,hi=>by
  have:=fF h.2.2 i m (by simpa using hi);omega
def IR (ms:List (Int×Int)) (l:List Int):Prop:=∀m∈ms,¬eU m.1 m.2 l
theorem BW {a b c x y:Int} {u v:List Int} (h:eU x y (u++c::v)) (hn:¬eU x y (u++a::b::v)):x=c∨y=c:=by
 obtain⟨p,q,he⟩:=h;rcases List.append_eq_append_iff.1 he with⟨t,ht,hc⟩ |⟨t,ht,hc⟩
 ·cases t with
  |nil=>simp at hc;exact .inl hc.1.symm
  |cons t0 t=>
   simp at hc;exfalso;apply hn;rw [hc.2];exact⟨u++a::b::t,q,by simp⟩
 ·match t,ht,hc with
  | [],_,hc=>simp at hc;exact .inl hc.1
  | [x'],_,hc=>simp at hc;exact .inr hc.2.1
  |x'::y'::t,ht,hc=>
   simp at hc;exfalso;apply hn;rw [ht, ←hc.1, ←hc.2.1];exact⟨p,t++a::b::v,by simp⟩
theorem G_ {k:Int} {low high:List (Int×Int)} {m:Int×Int} {u v:List Int} (hs:iF k (low++m::high)) (hq:IR low (u++m.1::m.2::v)) (hf:¬eU m.1 m.2 (u++ [m.1])):
  cG k (low++m::high) (u++m.1::m.2::v)=cG k (low++m::high) (u++(k+low.length)::v):=by
 have hq':IR low (u++(k+low.length)::v):=by
  intro x hx hb;obtain⟨i,hi,hxi⟩:=List.getElem_of_mem hx;have hlt:=fF hs i x (by rw [List.getElem?_append_left hi,List.getElem?_eq_getElem hi,hxi]);rcases BW (a:=m.1) (b:=m.2) hb (hq x hx)with e |e<;>omega
 rw [c_,c_,gI low k _ hq,gI low k _ hq'];have hm:=fF hs low.length m (by rw [List.getElem?_append_right (Nat.le_refl _)];simp);simp only [cG];rw [qY u v hf,sl (by omega) (by omega) u v fun e=>hf (zY e)]
def rX (ms:List (Int×Int)) (below:Int) (l:List Int):List Int:=cG 256 (ms.take (below-256).toNat) l
theorem kX {a b c:Int}:∀(l P' Q':List Int),cC a b c l=P'++Q'→∃P Q,l=P++Q∧cC a b c P=P'∧cC a b c Q=Q'
 | [],P',Q',h=>by
  have h:=List.append_eq_nil_iff.1 h.symm;exact⟨[],[],rfl,h.1.symm,h.2.symm⟩
 | [x],[],Q',h=>⟨[],[x],rfl,rfl,h⟩
 | [x],p::P',Q',h=>by
  simp only [cC,List.cons_append,List.cons.injEq]at h;have h2:=List.append_eq_nil_iff.1 h.2.symm;exact⟨[x],[],by simp,by rw [←h.1,h2.1];rfl,by rw [h2.2];rfl⟩
 |x::y::r,[],Q',h=>⟨[],_,rfl,rfl,h⟩
 |x::y::r,p::P',Q',h=>by
  by_cases hx:x=a∧y=b
  ·obtain⟨rfl,rfl⟩:=hx;rw [bS,List.cons_append,List.cons.injEq]at h;obtain⟨P,Q,h1,h2,h3⟩:=kX r P' Q' h.2;exact⟨x::y::P,Q,by rw [h1];rfl,by rw [bS,h2,h.1],h3⟩
  ·rw [bY r hx,List.cons_append,List.cons.injEq]at h;obtain⟨P,Q,h1,h2,h3⟩:=kX (y::r) P' Q' h.2;refine⟨x::P,Q,by rw [h1];rfl,?_,h3⟩;cases P with
   |nil=>rw [←h2,h.1];rfl
   |cons z P=>
    simp only [List.cons_append,List.cons.injEq]at h1;rw [bY P (by rw [←h1.1];exact hx),h2,h.1]
theorem ou {a b c:Int}:∀(X Y:List Int),cC a b c (X++Y)=cC a b c X++cC a b c Y∨(∃X' Y',X=X'++ [a]∧Y=b::Y'∧cC a b c X=cC a b c X'++ [a])
 | [],Y=>.inl rfl
 | [x],[]=>.inl rfl
 | [x],y::Y=>by
  by_cases hx:x=a∧y=b
  ·obtain⟨rfl,rfl⟩:=hx;exact .inr ⟨[],Y,rfl,rfl,rfl⟩
  ·refine .inl ?_;rw [List.cons_append,List.nil_append,bY Y hx];rfl
 |x::y::r,Y=>by
  by_cases hx:x=a∧y=b
  ·obtain⟨rfl,rfl⟩:=hx;rcases ou (c:=c) r Y with h |⟨X',Y',h1,h2,h3⟩
   ·refine .inl ?_;rw [List.cons_append,List.cons_append,bS,bS,h];rfl
   ·refine .inr ⟨x::y::X',Y',by rw [h1];rfl,h2,?_⟩;rw [bS,bS,h3];rfl
  ·rcases ou (c:=c) (y::r) Y with h |⟨X',Y',h1,h2,h3⟩
   ·refine .inl ?_;rw [List.cons_append,List.cons_append,bY _ hx,bY _ hx];rw [List.cons_append]at h;rw [h];rfl
   ·refine .inr ⟨x::X',Y',by rw [h1];rfl,h2,?_⟩;rw [bY r hx,h3];cases X' with
    |nil=>rfl
    |cons z X'=>
     simp only [List.cons_append,List.cons.injEq]at h1;rw [bY X' (by rw [←h1.1];exact hx)];rfl
theorem lP {a b c:Int}:∀(X Y:List Int),cC a b c (X++ [a])=cC a b c X++ [a]→cC a b c (X++a::b::Y)=cC a b c X++c::cC a b c Y
 | [],Y,_=>bS a b c Y
 | [x],Y,h=>by
  by_cases hx:x=a∧a=b
  ·obtain⟨rfl,rfl⟩:=hx;rw [List.cons_append,List.nil_append,bS]at h;have:=congrArg List.length h;simp [cC]at this
  ·rw [List.cons_append,List.nil_append,bY _ hx,bS];rfl
 |x::y::r,Y,h=>by
  by_cases hx:x=a∧y=b
  ·obtain⟨rfl,rfl⟩:=hx;rw [List.cons_append,List.cons_append,bS,bS,List.cons_append,List.cons.injEq]at h;rw [List.cons_append,List.cons_append,bS,bS,lP r Y h.2];rfl
  ·rw [List.cons_append,List.cons_append,bY _ hx,bY _ hx,List.cons_append,List.cons.injEq]at h;have:=lP (y::r) Y (by rw [List.cons_append];exact h.2);rw [List.cons_append,List.cons_append,bY _ hx,bY _ hx];rw [List.cons_append]at this;rw [this];rfl
theorem oA {a b c:Int} (hca:c≠a):∀(X:List Int),(cC a b c X).getLast?=some a→∃X',X=X'++ [a]∧cC a b c X=cC a b c X'++ [a]
 | [],h=>by simp [cC]at h
 | [x],h=>by
  simp [cC]at h;subst h;exact⟨[],rfl,rfl⟩
 |x::y::r,h=>by
  by_cases hx:x=a∧y=b
  ·obtain⟨rfl,rfl⟩:=hx;rw [bS]at h;cases hr:cC x y c r with
   |nil=>rw [hr]at h;simp at h;exact absurd h hca
   |cons z t=>
    rw [hr,List.getLast?_cons_cons, ←hr]at h;obtain⟨X',h1,h2⟩:=oA hca r h;exact⟨x::y::X',by rw [h1];rfl,by rw [bS,bS,h2];rfl⟩
  ·rw [bY r hx]at h;have hne:cC a b c (y::r)≠ []:=by
    cases r with
    |nil=>simp [cC]
    |cons z r=>simp only [cC];split<;>simp
   cases hr:cC a b c (y::r)with
   |nil=>exact absurd hr hne
   |cons z t=>
    rw [hr,List.getLast?_cons_cons, ←hr]at h;obtain⟨X',h1,h2⟩:=oA hca (y::r) h;refine⟨x::X',by rw [h1];rfl,?_⟩;rw [bY r hx,h2];cases X' with
    |nil=>rfl
    |cons u X'=>
     simp only [List.cons_append,List.cons.injEq]at h1;rw [bY X' (by rw [←h1.1];exact hx)];rfl
theorem pP {a b c:Int} {l:List Int} (h:l≠ []):cC a b c l≠ []:=by
 match l,h with
 | [x],_=>simp [cC]
 |x::y::r,_=>simp only [cC];split<;>simp
section
variable (ms:List (Int×Int))
def after (k:Nat) (s:List Int):List Int:=cG 256 (ms.take k) s
theorem cZ (s:List Int):after ms 0 s=s:=by simp [after,cG]
theorem cm {k:Nat} {m:Int×Int} (h:ms[k]? =some m) (s:List Int):after ms (k+1) s=cC m.1 m.2 (256+k) (after ms k s):=by
 have hk:=(List.getElem?_eq_some_iff.1 h).1;unfold after;rw [List.take_add_one,h,c_,List.length_take,Nat.min_eq_left (by omega)];rfl
theorem ji {s:List Int} (h:s≠ []):∀k,after ms k s≠ []
 |0=>by rw [cZ];exact h
 |k+1=>by
  cases hm:ms[k]? with
  |none=>
   have hk:=List.getElem?_eq_none_iff.1 hm;have:after ms (k+1) s=after ms k s:=by
    unfold after;rw [List.take_of_length_le (by omega),List.take_of_length_le (by omega)]
   rw [this];exact ji h k
  |some m=>rw [cm ms hm];exact pP (ji h k)
theorem after_nil:∀k,after ms k []= []
 |0=>cZ ms []
 |k+1=>by
  cases hm:ms[k]? with
  |none=>
   have hk:=List.getElem?_eq_none_iff.1 hm;have:after ms (k+1) []=after ms k []:=by
    unfold after;rw [List.take_of_length_le (by omega),List.take_of_length_le (by omega)]
   rw [this,after_nil k]
  |some m=>rw [cm ms hm,after_nil k];rfl
theorem jw:∀(k:Nat),k≤ms.length→∀(s P' Q':List Int),after ms k s=P'++Q'→∃P Q,s=P++Q∧after ms k P=P'∧after ms k Q=Q'
 |0,_,s,P',Q',h=>⟨P',Q',by rwa [cZ]at h,cZ ms P',cZ ms Q'⟩
 |k+1,hk,s,P',Q',h=>by
  have hm:ms[k]? =some ms[k]:=List.getElem?_eq_getElem (by omega);rw [cm ms hm]at h;obtain⟨P1,Q1,h1,h2,h3⟩:=kX _ _ _ h;obtain⟨P,Q,e,e1,e2⟩:=jw k (by omega) s P1 Q1 h1;exact⟨P,Q,e,by rw [cm ms hm,e1,h2],by rw [cm ms hm,e2,h3]⟩
variable (ex:Int→List Int)
structure ov:Prop where
 low:∀t,0≤t→t<256→ex t= [t]
 high:∀(k:Nat) (m:Int×Int),ms[k]? =some m→ex ((256:Int)+(k:Nat))=ex m.1++ex m.2
 sound:iF 256 ms
 ne:∀(k:Nat) (m:Int×Int),ms[k]? =some m→ex m.1≠ []∧ex m.2≠ []
def bF (l:List Int):List Int:=l.flatMap ex
variable {ms ex}
theorem dQ (a b:List Int):bF ex (a++b)=bF ex a++bF ex b:=by simp [bF]
theorem fh {a b c:Int} (h:ex c=ex a++ex b):∀l,bF ex (cC a b c l)=bF ex l
 | []=>rfl
 | [x]=>rfl
 |x::y::r=>by
  by_cases hx:x=a∧y=b
  ·obtain⟨rfl,rfl⟩:=hx;rw [bS];have:=fh h r;simp only [bF,List.flatMap_cons]at this⊢;rw [this,h,List.append_assoc]
  ·rw [bY r hx];have:=fh h (y::r);simp only [bF,List.flatMap_cons]at this⊢;rw [this]
theorem cJ (hS:ov ms ex):∀(k:Nat),k≤ms.length→∀s,bF ex (after ms k s)=bF ex s
 |0,_,s=>by rw [cZ]
 |k+1,hk,s=>by
  have hm:ms[k]? =some ms[k]:=List.getElem?_eq_getElem (by omega);rw [cm ms hm,fh (hS.high k _ hm),cJ hS k (by omega)]
def dB (ms:List (Int×Int)) (X Y:List Int) (k:Nat):Prop:=∃m,ms[k]? =some m∧(after ms (k+1) X).getLast?=some m.1∧(after ms k Y).head?=some m.2
theorem gY {X Y:List Int}:∀(k:Nat),k≤ms.length→(∀j,j<k→¬dB ms X Y j)→after ms k (X++Y)=after ms k X++after ms k Y
 |0,_,_=>by rw [cZ,cZ,cZ]
 |k+1,hk,h=>by
  have hm:ms[k]? =some ms[k]:=List.getElem?_eq_getElem (by omega);rw [cm ms hm,cm ms hm,cm ms hm,gY k (by omega) fun j hj=>h j (by omega)];rcases ou (c:=256+(k:Nat)) (a:=ms[k].1) (b:=ms[k].2) (after ms k X) (after ms k Y)with e |⟨X',Y',h1,h2,h3⟩
  ·exact e
  ·exfalso;refine h k (by omega) ⟨ms[k],hm,?_,?_⟩
   ·rw [cm ms hm,h3];simp
   ·rw [h2];rfl
theorem D9 (hS:ov ms ex) {k:Nat} {m:Int×Int} (h:ms[k]? =some m):((256:Int)+(k:Nat))≠m.1:=by
 have:=(fF hS.sound k m h).1;omega
theorem lJ (hS:ov ms ex) (N:Nat) (hN:N≤ms.length) (X Y:List Int):after ms N (X++Y)=after ms N X++after ms N Y↔∀k,k<N→¬dB ms X Y k:=by
 constructor
 ·intro h k;induction k using Nat.strongRecOn with
  |ind k ih=>
   intro hk hc;have hfree:=gY (X:=X) (Y:=Y) k (by omega) fun j hj=>ih j hj (by omega);obtain⟨m,hm,hl,hh⟩:=hc;rw [cm ms hm]at hl;obtain⟨X',h1,h2⟩:=oA (D9 hS hm) _ hl;obtain⟨Y',hY⟩:∃Y',after ms k Y=m.2::Y':=by
    cases hy:after ms k Y with
    |nil=>rw [hy]at hh;cases hh
    |cons z Y'=>rw [hy]at hh;cases hh;exact⟨Y',rfl⟩
   have hnext:after ms (k+1) (X++Y)=cC m.1 m.2 ((256:Int)+(k:Nat)) X'++((256:Int)+(k:Nat))::cC m.1 m.2 ((256:Int)+(k:Nat)) Y':=by
    rw [cm ms hm,hfree,h1,hY,List.append_assoc];exact lP X' Y' (by rw [←h1];exact h2)
   have hrest:∀d s,after ms (k+1+d) s=cG (256+((k+1:Nat):Int)) ((ms.drop (k+1)).take d) (after ms (k+1) s):=by
    intro d s;unfold after;rw [List.take_add,c_,List.length_take,Nat.min_eq_left (by omega)]
   have hback:∀(d:Nat),d≤(ms.drop (k+1)).length→∀(s P' Q':List Int),cG (256+((k+1:Nat):Int)) ((ms.drop (k+1)).take d) s=P'++Q'→∃P Q,s=P++Q∧bF ex P=bF ex P'∧bF ex Q=bF ex Q':=by
    intro d;induction d with
    |zero=>intro _ s P' Q' h;exact⟨P',Q',by simpa [cG]using h,rfl,rfl⟩
    |succ d ihd=>
     intro hd s P' Q' h;have hlt:k+1+d<ms.length:=by rw [List.length_drop]at hd;omega
     have hmd:(ms.drop (k+1))[d]? =some ms[k+1+d]:=by rw [List.getElem?_drop,List.getElem?_eq_getElem hlt]
     rw [List.take_add_one,hmd,c_,List.length_take,Nat.min_eq_left (by omega)]at h;simp only [Option.toList_some,cG]at h;obtain⟨P1,Q1,g1,g2,g3⟩:=kX _ _ _ h;obtain⟨P,Q,e,e1,e2⟩:=ihd (by omega) s P1 Q1 g1;have hex:ex (256+((k+1:Nat):Int)+(d:Nat))=ex ms[k+1+d].1++ex ms[k+1+d].2:=by
      rw [←hS.high (k+1+d) _ (List.getElem?_eq_getElem hlt)];congr 1;omega
     exact⟨P,Q,e,by rw [e1, ←g2,fh hex],by rw [e2, ←g3,fh hex]⟩
   have hall:=hrest (N- (k+1)) (X++Y);rw [show k+1+(N- (k+1))=N by omega,h]at hall;obtain⟨P,Q,e,e1,e2⟩:=hback (N- (k+1)) (by rw [List.length_drop];omega) _ _ _ hall.symm;rw [hnext]at e;rw [cJ hS _ hN]at e1;have hXX:bF ex X=bF ex (cC m.1 m.2 ((256:Int)+(k:Nat)) X')++ex m.1:=by
    rw [←cJ hS k (by omega) X,h1,dQ,fh (hS.high k m hm)];simp [bF]
   have hc:=hS.high k m hm;obtain⟨na,nb⟩:=hS.ne k m hm;rw [hXX]at e1;rcases List.append_eq_append_iff.1 e with⟨t,ht,_⟩ |⟨t,ht,hq⟩
   ·-- P reaches beyond
    cases t with
    |nil=>
     rw [List.append_nil]at ht;rw [ht]at e1;have:=congrArg List.length e1;rw [List.length_append]at this;have:0< (ex m.1).length:=List.length_pos_iff.2 na;omega
    |cons z t=>
     rename_i hcq;simp only [List.cons_append,List.cons.injEq]at hcq;rw [ht,dQ]at e1;have h3:=congrArg List.length e1;rw [List.length_append,List.length_append]at h3;have h4:(ex ((256:Int)+(k:Nat))).length≤(bF ex (z::t)).length:=by
      rw [hcq.1];simp [bF]
     rw [hc,List.length_append]at h4;have:0< (ex m.2).length:=List.length_pos_iff.2 nb;omega
   ·have h3:=congrArg List.length e1;have h4:=congrArg List.length (congrArg (bF ex) ht);rw [dQ]at h4;rw [List.length_append]at h3 h4;have:0< (ex m.1).length:=List.length_pos_iff.2 na;omega
 ·exact gY N hN
end
theorem eY (l:List Int) {r:List Int} (h:r≠ []):(l++r).getLast?=r.getLast?:=by
 rw [List.getLast?_append];cases hr:r.getLast? with
 |none=>exact absurd (List.getLast?_eq_none_iff.1 hr) h
 |some x=>rfl
theorem rV (r:List Int) {l:List Int} (h:l≠ []):(l++r).head?=l.head?:=by
 cases l with
 |nil=>exact absurd rfl h
 |cons x l=>rfl
theorem fG (x:Int):∀(ms:List (Int×Int)) (k:Int),cG k ms [x]= [x]
 | [],k=>rfl
 |m::ms,k=>by simp only [cG,cC];exact fG x ms (k+1)
theorem oS {t:Int}:∀(ms:List (Int×Int)) (k:Int) (l:List Int),t<k→cG k ms l= [t]→l= [t]
 | [],k,l,_,h=>h
 |m::ms,k,l,ht,h=>by
  have h1:=oS ms (k+1) _ (by omega) h
  match l,h1 with
  | [x],h1=>exact h1
  |x::y::r,h1=>
   exfalso;by_cases hx:x=m.1∧y=m.2
   ·obtain⟨rfl,rfl⟩:=hx;rw [bS]at h1;simp at h1;omega
   ·rw [bY r hx]at h1;simp only [List.cons.injEq]at h1;exact pP (by simp) h1.2
section
variable {ms:List (Int×Int)} {ex:Int→List Int}
theorem qq:∀(k:Nat),k≤ms.length→∀s:List Int,(∀x∈s,x<256)→∀x∈after ms k s,x<256+(k:Nat)
 |0,_,s,h,x,hx=>by rw [cZ]at hx;have:=h x hx;omega
 |k+1,hk,s,h,x,hx=>by
  rw [cm ms (List.getElem?_eq_getElem (show k<ms.length by omega))]at hx;have ih:=qq k (by omega) s h;have key:∀l:List Int,(∀y∈l,y<256+(k:Nat))→∀y∈cC ms[k].1 ms[k].2 ((256:Int)+(k:Nat)) l,y<256+((k+1:Nat):Int):=by
   intro l;induction l using cC.induct ms[k].1 ms[k].2 with
   |case1=>intro _ y hy;simp [cC]at hy
   |case2 x=>intro hl y hy;simp [cC]at hy;subst hy;have:=hl y (by simp);omega
   |case3 x y r hx ih=>
    obtain⟨rfl,rfl⟩:=hx;intro hl z hz;rw [bS]at hz;rcases List.mem_cons.1 hz with rfl |hz
    ·omega
    ·exact ih (fun u hu=>hl u (by simp [hu])) z hz
   |case4 x y r hx ih=>
    intro hl z hz;rw [bY r hx]at hz;rcases List.mem_cons.1 hz with rfl |hz
    ·have:=hl z (by simp);omega
    ·exact ih (fun u hu=>hl u (by simp [hu])) z hz
  exact key _ ih x hx
theorem uf (k:Nat) (x:Int):after ms k [x]= [x]:=fG x _ _
theorem md (k d:Nat) (hk:k≤ms.length) (s:List Int):after ms (k+d) s=cG ((256:Int)+(k:Nat)) ((ms.drop k).take d) (after ms k s):=by
 unfold after;rw [List.take_add,c_,List.length_take,Nat.min_eq_left hk]
def nh (ms:List (Int×Int)) (t:Int):Prop:=0≤t∧t<256+(ms.length:Nat)
theorem rN (hS:ov ms ex):∀(n:Nat) (t:Int),t.toNat≤n→0≤t→t<256+(ms.length:Nat)→(∀(i:Nat) (m:Int×Int),ms[i]? =some m→0≤m.1∧0≤m.2)→(∀x∈ex t,0≤x∧x<256)∧ex t≠ []
 |n,t,hn,h0,ht,hp=>by
  by_cases hlow:t<256
  ·rw [hS.low t h0 hlow];exact⟨fun x hx=>by simp at hx;omega,by simp⟩
  ·obtain⟨j,rfl⟩:∃j:Nat,t=256+(j:Nat):=⟨(t-256).toNat,by omega⟩;have hj:j<ms.length:=by omega
   have hm:ms[j]? =some ms[j]:=List.getElem?_eq_getElem hj;have hlt:=fF hS.sound j _ hm;have hnn:=hp j _ hm;obtain⟨n',rfl⟩:∃n',n=n'+1:=⟨n-1,by omega⟩;have h1:=rN hS n' ms[j].1 (by omega) hnn.1 (by omega) hp;have h2:=rN hS n' ms[j].2 (by omega) hnn.2 (by omega) hp;rw [hS.high j _ hm];refine⟨fun x hx=>?_,by simp [h1.2]⟩;rcases List.mem_append.1 hx with hx |hx
   ·exact h1.1 x hx
   ·exact h2.1 x hx
end
structure iE (ms:List (Int×Int)) (ex:Int→List Int):Prop where
 stands:ov ms ex
 pos:∀(i:Nat) (m:Int×Int),ms[i]? =some m→0≤m.1∧0≤m.2
section
variable {ms:List (Int×Int)} {ex:Int→List Int}
theorem iE.bytes (hG:iE ms ex) {t:Int} (ht:nh ms t):(∀x∈ex t,0≤x∧x<256)∧ex t≠ []:=rN hG.stands t.toNat t (Nat.le_refl _) ht.1 ht.2 hG.pos
theorem ee (hS:ov ms ex):∀s:List Int,(∀x∈s,0≤x∧x<256)→bF ex s=s
 | [],_=>rfl
 |x::s,h=>by
  have h1:=h x (by simp);simp only [bF,List.flatMap_cons];rw [hS.low x h1.1 h1.2];have:=ee hS s fun y hy=>h y (by simp [hy]);unfold bF at this;rw [this];rfl
def cF (ms:List (Int×Int)) (ex:Int→List Int) (t:Int):Prop:=after ms ms.length (ex t)= [t]
theorem fi (hG:iE ms ex) {j:Nat} {m:Int×Int} (hm:ms[j]? =some m) (ha:cF ms ex ((256:Int)+(j:Nat))):
  after ms (j+1) (ex ((256:Int)+(j:Nat)))= [(256:Int)+(j:Nat)]∧(∀k,k≤j→after ms k (ex ((256:Int)+(j:Nat)))=after ms k (ex m.1)++after ms k (ex m.2))∧cF ms ex m.1∧cF ms ex m.2:=by
 have hS:=hG.stands;have hj:=(List.getElem?_eq_some_iff.1 hm).1;have h1:after ms (j+1) (ex ((256:Int)+(j:Nat)))= [(256:Int)+(j:Nat)]:=by
  have h2:=md (j+1) (ms.length- (j+1)) (show j+1≤ms.length by omega) (ex ((256:Int)+(j:Nat)));rw [show j+1+(ms.length- (j+1))=ms.length by omega]at h2;unfold cF at ha;rw [ha]at h2;exact oS _ _ _ (by omega) h2.symm
 have hb:=hG.bytes (t:=256+(j:Nat)) ⟨by omega,by omega⟩;have hlt:=qq (ms:=ms) j (by omega) (ex ((256:Int)+(j:Nat))) fun x hx=>(hb.1 x hx).2;have h2:after ms j (ex ((256:Int)+(j:Nat)))= [m.1,m.2]:=by
  rw [cm ms hm]at h1
  match hl:after ms j (ex ((256:Int)+(j:Nat))),h1 with
  | [x],h1=>
   exfalso;simp [cC]at h1;have:=hlt x (by rw [hl];simp);omega
  |x::y::r,h1=>
   by_cases hx:x=m.1∧y=m.2
   ·obtain⟨rfl,rfl⟩:=hx;rw [bS]at h1;simp only [List.cons.injEq]at h1;cases r with
    |nil=>rfl
    |cons z r=>exact absurd h1.2 (pP (by simp))
   ·rw [bY r hx]at h1;simp only [List.cons.injEq]at h1;exact absurd h1.2 (pP (by simp))
 have hex:=hS.high j m hm;have hlt2:=fF hS.sound j m hm;have hnn:=hG.pos j m hm;have b1:=hG.bytes (t:=m.1) ⟨hnn.1,by omega⟩;have b2:=hG.bytes (t:=m.2) ⟨hnn.2,by omega⟩;obtain⟨P,Q,e,e1,e2⟩:=jw ms j (by omega) _ [m.1] [m.2] (by rw [h2];rfl);have hsub:∀x∈P++Q,0≤x∧x<256:=by rw [←e];exact hb.1
 have hP:P=ex m.1:=by
  have h3:=cJ hS j (by omega) P;rw [e1,ee hS P fun x hx=>hsub x (by simp [hx])]at h3;rw [←h3];simp [bF]
 have hQ:Q=ex m.2:=by
  have h3:=cJ hS j (by omega) Q;rw [e2,ee hS Q fun x hx=>hsub x (by simp [hx])]at h3;rw [←h3];simp [bF]
 rw [hP]at e1;rw [hQ]at e2;have hfree:after ms j (ex m.1++ex m.2)=after ms j (ex m.1)++after ms j (ex m.2):=by rw [←hex,h2,e1,e2];rfl
 have hno:=(lJ hS j (by omega) (ex m.1) (ex m.2)).1 hfree;have stay:∀x:Int,after ms j (ex x)= [x]→cF ms ex x:=by
  intro x hx;unfold cF;have h3:=md j (ms.length-j) (show j≤ms.length by omega) (ex x);rw [show j+(ms.length-j)=ms.length by omega,hx]at h3;rw [h3,fG]
 refine⟨h1,fun k hk=>?_,stay _ e1,stay _ e2⟩;rw [hex];exact gY k (by omega) fun i hi=>hno i (by omega)
theorem ju (hG:iE ms ex) {t:Int} (ht:nh ms t) (ha:cF ms ex t) {k:Nat} (hk:k≤ms.length) (h:t<256+(k:Nat)):after ms k (ex t)= [t]:=by
 by_cases hlow:t<256
 ·rw [hG.stands.low t ht.1 hlow];exact uf k t
 ·obtain⟨j,rfl⟩:∃j:Nat,t=256+(j:Nat):=⟨(t-256).toNat,by omega⟩;have hj:j<ms.length:=by have:=ht.2;omega
  obtain⟨h1,_⟩:=fi hG (List.getElem?_eq_getElem hj) ha;have h2:=md (j+1) (k- (j+1)) (show j+1≤ms.length by omega) (ex ((256:Int)+(j:Nat)));rw [show j+1+(k- (j+1))=k by omega,h1]at h2;rw [h2,fG]
def iL (ms:List (Int×Int)) (ex:Int→List Int) (a b limit:Int):Prop:=∀k,k<ms.length→256+(k:Int) <limit→¬dB ms (ex a) (ex b) k
theorem vb (hG:iE ms ex) {a b limit:Int} (ha:nh ms a) (hb:nh ms b) (aa:cF ms ex a) (ab:cF ms ex b) {i:Nat} (hi:ms[i]? =some (a,b)) (hl:256+(i:Int) <limit):¬iL ms ex a b limit:=by
 intro h;have hil:=(List.getElem?_eq_some_iff.1 hi).1;have hlt:=fF hG.stands.sound i _ hi;refine h i hil hl ⟨(a,b),hi,?_,?_⟩
 ·rw [ju hG ha aa (by omega) (by dsimp only at hlt;omega)];rfl
 ·rw [ju hG hb ab (by omega) (by dsimp only at hlt;omega)];rfl
theorem lL (hG:iE ms ex) {a b:Int} (ha:nh ms a) (hb:nh ms b) (aa:cF ms ex a) (ab:cF ms ex b) {k:Nat} (hk:k<ms.length) (h1:a≤256+(k:Int)) (h2:b<256+(k:Int)) (h:dB ms (ex a) (ex b) k):ms[k]? =some (a,b):=by
 obtain⟨m,hm,hl,hh⟩:=h;rw [ju hG ha aa (by omega) (by omega)]at hl;rw [ju hG hb ab (by omega) (by omega)]at hh;simp at hl hh;rw [hm];congr 1;exact Prod.ext hl.symm hh.symm
theorem Em (hG:iE ms ex) {b limit:Int} {j:Nat} {m:Int×Int} (hm:ms[j]? =some m) (hb:nh ms b) (aa:cF ms ex ((256:Int)+(j:Nat))) (ab:cF ms ex b) (hba:b<256+(j:Nat)) (hlim:256+(j:Int)≤limit)
  (hno:∀i:Nat,ms[i]? =some (256+(j:Int),b)→limit≤256+(i:Int)):iL ms ex ((256:Int)+(j:Nat)) b limit↔iL ms ex m.2 b ((256:Int)+(j:Nat)):=by
 have hj:=(List.getElem?_eq_some_iff.1 hm).1;obtain⟨h1,h2,h3,h4⟩:=fi hG hm aa;have hnn:=hG.pos j m hm;have hlt:=fF hG.stands.sound j m hm;have b2:=hG.bytes (t:=m.2) ⟨hnn.2,by omega⟩;have same:∀k,k<j→(dB ms (ex ((256:Int)+(j:Nat))) (ex b) k↔dB ms (ex m.2) (ex b) k):=by
  intro k hk;unfold dB;rw [h2 (k+1) (by omega),eY _ (ji ms b2.2 (k+1))]
 constructor
 ·intro h k hk hkl hc;exact h k hk (by omega) ((same k (by omega)).2 hc)
 ·intro h k hk hkl hc;by_cases hkj:k<j
  ·exact h k hk (by omega) ((same k hkj).1 hc)
  ·have:=lL hG (a:=256+(j:Nat)) ⟨by omega,by omega⟩ hb aa ab hk (by omega) (by omega) hc;have:=hno k this;omega
theorem AC (hG:iE ms ex) {a limit:Int} {j:Nat} {m:Int×Int} (hm:ms[j]? =some m) (ha:nh ms a) (aa:cF ms ex a) (ab:cF ms ex ((256:Int)+(j:Nat))) (hab:a≤256+(j:Nat)) (hlim:256+(j:Int)+1≤limit)
  (hno:∀i:Nat,ms[i]? =some (a,256+(j:Int))→limit≤256+(i:Int)):iL ms ex a ((256:Int)+(j:Nat)) limit↔iL ms ex a m.1 (256+(j:Nat)+1):=by
 have hj:=(List.getElem?_eq_some_iff.1 hm).1;obtain⟨h1,h2,h3,h4⟩:=fi hG hm ab;have hnn:=hG.pos j m hm;have hlt:=fF hG.stands.sound j m hm;have b1:=hG.bytes (t:=m.1) ⟨hnn.1,by omega⟩;have same:∀k,k≤j→(dB ms (ex a) (ex ((256:Int)+(j:Nat))) k↔dB ms (ex a) (ex m.1) k):=by
  intro k hk;unfold dB;rw [h2 k hk,rV _ (ji ms b1.2 k)]
 constructor
 ·intro h k hk hkl hc;exact h k hk (by omega) ((same k (by omega)).2 hc)
 ·intro h k hk hkl hc;by_cases hkj:k≤j
  ·exact h k hk (by omega) ((same k hkj).1 hc)
  ·have:=lL hG (b:=256+(j:Nat)) ha ⟨by omega,by omega⟩ aa ab hk (by omega) (by omega) hc;have:=hno k this;omega
theorem Am (hG:iE ms ex) {a b limit:Int} (ha:nh ms a) (hb:nh ms b) (aa:cF ms ex a) (ab:cF ms ex b) (h1:a<256) (h2:b<256) (hno:∀i:Nat,ms[i]? =some (a,b)→limit≤256+(i:Int)):iL ms ex a b limit:=by
 intro k hk hkl hc;have:=hno k (lL hG ha hb aa ab hk (by omega) (by omega) hc);omega
def iQ (ms:List (Int×Int)) (ex:Int→List Int) (ids:List Int):Prop:=after ms ms.length (bF ex ids)=ids
theorem un (hG:iE ms ex) {ids:List Int} (h:∀t∈ids,nh ms t):∀x∈bF ex ids,0≤x∧x<256:=by
 intro x hx;obtain⟨t,ht,hxt⟩:=List.mem_flatMap.1 hx;exact(hG.bytes (h t ht)).1 x hxt
theorem yM (hG:iE ms ex) {P Q:List Int} (ht:∀t∈P++Q,nh ms t) (h:iQ ms ex (P++Q)):iQ ms ex P∧iQ ms ex Q∧∀k,k<ms.length→¬dB ms (bF ex P) (bF ex Q) k:=by
 have hS:=hG.stands;unfold iQ at h;obtain⟨X,Y,e,e1,e2⟩:=jw ms ms.length (Nat.le_refl _) _ P Q h;have hb:=un hG ht;rw [e]at hb;have hX:X=bF ex P:=by
  have h3:=cJ hS ms.length (Nat.le_refl _) X;rw [e1,ee hS X fun x hx=>hb x (by simp [hx])]at h3;exact h3.symm
 have hY:Y=bF ex Q:=by
  have h3:=cJ hS ms.length (Nat.le_refl _) Y;rw [e2,ee hS Y fun x hx=>hb x (by simp [hx])]at h3;exact h3.symm
 subst hX hY;refine⟨e1,e2,(lJ hS ms.length (Nat.le_refl _) _ _).1 ?_⟩;rw [←e,h,e1,e2]
theorem Aq (hG:iE ms ex) {init:List Int} {l t:Int} (ht:∀x∈init++ [l],nh ms x) (h:iQ ms ex (init++ [l])) (hT:nh ms t) (ha:cF ms ex t):iQ ms ex (init++ [l]++ [t])↔∀k,k<ms.length→¬dB ms (ex l) (ex t) k:=by
 have hS:=hG.stands;obtain⟨_,_,hno⟩:=yM hG ht h;have one:∀x:Int,bF ex [x]=ex x:=fun x=>by simp [bF]
 have bl:=hG.bytes (ht l (by simp));have same:∀k,k<ms.length→(dB ms (bF ex (init++ [l])) (ex t) k↔dB ms (ex l) (ex t) k):=by
  intro k hk;unfold dB;rw [dQ,one,gY (k+1) (by omega) fun j hj=>by have:=hno j (by omega);rwa [one]at this,eY _ (ji ms bl.2 (k+1))]
 unfold iQ;have h':after ms ms.length (bF ex (init++ [l]))=init++ [l]:=h;have ha':after ms ms.length (ex t)= [t]:=ha;rw [dQ (init++ [l]) [t],one];have:=lJ hS ms.length (Nat.le_refl _) (bF ex (init++ [l])) (ex t);rw [h',ha']at this;rw [this];exact⟨fun h k hk hc=>h k hk ((same k hk).2 hc),fun h k hk hc=>h k hk ((same k hk).1 hc)⟩
end
section
variable (cut:Int→Int→Bool)
def chop:List Int→List (List Int)
 | []=>[]
 | [x]=>[[x]]
 |x::y::r=>if cut x y=true then [x]::chop (y::r)else match chop (y::r)with
  | []=>[[x]]
  |p::ps=>(x::p)::ps
def dS:List Int→Prop
 | []=>True
 | [_]=>True
 |x::y::r=>cut x y=false∧dS (y::r)
def CL (p q:List Int):Prop:=∃x y,p.getLast?=some x∧q.head?=some y∧cut x y=true
def bK:List (List Int)→Prop
 | []=>True
 | [p]=>p≠ []∧dS cut p
 |p::q::r=>p≠ []∧dS cut p∧CL cut p q∧bK (q::r)
variable {cut}
theorem bK.head {p:List Int} {r:List (List Int)} (h:bK cut (p::r)):p≠ []∧dS cut p:=by
 cases r with
 |nil=>exact h
 |cons q r=>exact⟨h.1,h.2.1⟩
theorem bK.tail {p:List Int} {r:List (List Int)} (h:bK cut (p::r)):bK cut r:=by
 cases r with
 |nil=>trivial
 |cons q r=>exact h.2.2.2
theorem bK.cons {p:List Int} {r:List (List Int)} (h1:p≠ []) (h2:dS cut p) (h3:∀q r',r=q::r'→CL cut p q) (h4:bK cut r):bK cut (p::r):=by
 cases r with
 |nil=>exact⟨h1,h2⟩
 |cons q r=>exact⟨h1,h2,h3 q r rfl,h4⟩
theorem yH (rest:List (List Int)) (hr:chop cut rest.flatten=rest):∀p:List Int,bK cut (p::rest)→chop cut (p++rest.flatten)=p::rest
 | [],h=>absurd rfl h.head.1
 | [x],h=>by
  cases rest with
  |nil=>rfl
  |cons q r=>
   obtain⟨u,y,hu,hy,hc⟩:=h.2.2.1;simp at hu;subst hu;cases q with
   |nil=>cases hy
   |cons z q=>
    simp at hy;subst hy;rw [List.flatten_cons]at hr⊢;rw [List.cons_append]at hr;simp only [List.cons_append,List.nil_append,chop,hc,if_true,hr]
 |x::y::p,h=>by
  have h2:=h.head.2;have hc:bK cut ((y::p)::rest):=by
   refine bK.cons (by simp) h2.2 (fun q r' hq=>?_) h.tail;subst hq;obtain⟨u,v,hu,hv,hcc⟩:=h.2.2.1;exact⟨u,v,by rw [List.getLast?_cons_cons]at hu;exact hu,hv,hcc⟩
  have ih:=yH rest hr (y::p) hc;rw [List.cons_append]at ih;simp only [List.cons_append,chop];rw [if_neg (by rw [h2.1];simp),ih]
theorem kx:∀ps:List (List Int),bK cut ps→chop cut ps.flatten=ps
 | [],_=>rfl
 |p::rest,h=>by
  rw [List.flatten_cons];exact yH rest (kx rest h.tail) p h
theorem CM {Z:List Int} (h:Z≠ []):∃p ps,chop cut Z=p::ps∧p.head?=Z.head?:=by
 match Z,h with
 | [x],_=>exact⟨[x],[],rfl,rfl⟩
 |x::y::r,_=>
  simp only [chop];split
  ·exact⟨[x],_,rfl,rfl⟩
  ·cases chop cut (y::r)with
   |nil=>exact⟨[x],[],rfl,rfl⟩
   |cons p ps=>exact⟨x::p,ps,rfl,rfl⟩
theorem jx:∀Z:List Int,bK cut (chop cut Z)∧(chop cut Z).flatten=Z
 | []=>⟨trivial,rfl⟩
 | [x]=>⟨⟨by simp,trivial⟩,rfl⟩
 |x::y::r=>by
  obtain⟨h1,h2⟩:=jx (y::r);obtain⟨p,ps,hp,hh⟩:=CM (cut:=cut) (Z:=y::r) (by simp);simp only [chop];split
  ·rename_i hc;refine⟨bK.cons (by simp) trivial (fun q r' hq=>?_) h1,by rw [List.flatten_cons,h2];rfl⟩;rw [hp]at hq;cases hq;exact⟨x,y,rfl,hh,hc⟩
  ·rename_i hc;rw [hp]at h1 h2⊢;dsimp only;have hpp:=h1.head;refine⟨bK.cons (by simp) ?_ (fun q r' hq=>?_) h1.tail,by rw [List.flatten_cons]at h2⊢;rw [List.cons_append,h2]⟩
   ·cases p with
    |nil=>exact absurd rfl hpp.1
    |cons z p=>
     simp at hh;subst hh;exact⟨by simpa using hc,hpp.2⟩
   ·subst hq;obtain⟨u,v,hu,hv,hcc⟩:=h1.2.2.1;cases p with
    |nil=>exact absurd rfl hpp.1
    |cons z p=>exact⟨u,v,by rw [List.getLast?_cons_cons];exact hu,hv,hcc⟩
theorem bK.append {a b:List (List Int)} (h:bK cut (a++b)):bK cut a∧bK cut b:=by
 induction a with
 |nil=>exact⟨trivial,h⟩
 |cons p a ih=>
  rw [List.cons_append]at h;obtain⟨h1,h2⟩:=ih h.tail;refine⟨bK.cons h.head.1 h.head.2 (fun q r' hq=>?_) h1,h2⟩;subst hq;exact h.2.2.1
theorem bK.glue {a:List (List Int)} {p:List Int} {b:List (List Int)} (ha:bK cut (a++ [p])) (hb:bK cut b) (hc:∀q r',b=q::r'→CL cut p q):bK cut (a++p::b):=by
 induction a with
 |nil=>exact bK.cons ha.head.1 ha.head.2 hc hb
 |cons x a ih=>
  rw [List.cons_append]at ha⊢;refine bK.cons ha.head.1 ha.head.2 (fun q r' hq=>?_) (ih ha.tail);cases a with
  |nil=>cases hq;exact ha.2.2.1
  |cons z a=>cases hq;exact ha.2.2.1
theorem jt:∀(p q:List Int),dS cut (p++q)↔dS cut p∧dS cut q∧(∀x y,p.getLast?=some x→q.head?=some y→cut x y=false)
 | [],q=>by simp [dS]
 | [x],[]=>by simp [dS]
 | [x],y::q=>by
  simp only [List.cons_append,List.nil_append,dS];constructor
  ·rintro⟨h1,h2⟩;refine⟨trivial,h2,?_⟩;intro a b ha hb;simp at ha hb;rw [←ha, ←hb];exact h1
  ·rintro⟨_,h2,h3⟩;exact⟨h3 x y rfl rfl,h2⟩
 |x::y::p,q=>by
  have:=jt (y::p) q;simp only [List.cons_append,dS]at this⊢;rw [this];constructor
  ·rintro⟨h1,h2,h3,h4⟩;exact⟨⟨h1,h2⟩,h3,fun a b ha hb=>h4 a b (by rwa [List.getLast?_cons_cons]at ha) hb⟩
  ·rintro⟨⟨h1,h2⟩,h3,h4⟩;exact⟨h1,h2,h3,fun a b ha hb=>h4 a b (by rw [List.getLast?_cons_cons];exact ha) hb⟩
theorem bK.part {a b:List (List Int)} {p q:List Int} (h:bK cut (a++(p++q)::b)) (hp:p≠ []) (hq:q≠ []):bK cut (a++ [p])∧bK cut (q::b):=by
 obtain⟨h1,h2⟩:=h.append;have hu:=(jt p q).1 h2.head.2;constructor
 ·clear h1;induction a with
  |nil=>exact⟨hp,hu.1⟩
  |cons x a ih=>
   rw [List.cons_append]at h⊢;refine bK.cons h.head.1 h.head.2 (fun z r' hz=>?_) (ih h.tail);cases a with
   |nil=>
    cases hz;obtain⟨u,v,hu',hv,hc⟩:=h.2.2.1;exact⟨u,v,hu',by rwa [rV _ hp]at hv,hc⟩
   |cons y a=>cases hz;exact h.2.2.1
 ·refine bK.cons hq hu.2.1 (fun z r' hz=>?_) h2.tail;subst hz;obtain⟨u,v,hu',hv,hc⟩:=h2.2.2.1;exact⟨u,v,by rwa [eY _ hq]at hu',hv,hc⟩
end
theorem ni {f:List Int→List Int}:∀(ps:List (List Int)) (P Q:List Int),ps.flatMap f=P++Q→
  (∃a b,ps=a++b∧P=a.flatMap f∧Q=b.flatMap f)∨(∃a p b u v,ps=a++p::b∧f p=u++v∧u≠ []∧v≠ []∧P=a.flatMap f++u∧Q=v++b.flatMap f)
 | [],P,Q,h=>by
  have h:=List.append_eq_nil_iff.1 h.symm;exact .inl ⟨[],[],rfl,h.1,h.2⟩
 |p::ps,P,Q,h=>by
  rw [List.flatMap_cons]at h;rcases List.append_eq_append_iff.1 h with⟨t,ht,hc⟩ |⟨t,ht,hc⟩
  ·rcases ni ps t Q hc with⟨a,b,h1,h2,h3⟩ |⟨a,x,b,u,v,h1,h2,h3,h4,h5,h6⟩
   ·exact .inl ⟨p::a,b,by rw [h1];rfl,by rw [ht,h2];rfl,h3⟩
   ·exact .inr ⟨p::a,x,b,u,v,by rw [h1];rfl,h2,h3,h4,by rw [ht,h5];simp,h6⟩
  ·by_cases hP:P= []
   ·subst hP;refine .inl ⟨[],p::ps,rfl,rfl,?_⟩;rw [List.nil_append]at ht;rw [hc, ←ht,List.flatMap_cons]
   ·by_cases htn:t= []
    ·subst htn;rw [List.append_nil]at ht;exact .inl ⟨[p],ps,rfl,by simp [ht],by simpa using hc⟩
    ·exact .inr ⟨[],p,ps,P,t,rfl,ht,hP,htn,by simp,hc⟩
structure Voc where
 ms:List (Int×Int)
 ex:Int→List Int
 cutB:Int→Int→Bool
 sp:List Int
namespace Voc
variable (V:Voc)
def cut (x y:Int):Bool:=decide (x<0)||decide (y<0)||V.cutB x y
def place (t:Int):Option Nat:=V.sp.idxOf? t
def items (t:Int):List Int:=match V.place t with
 |some i=>[-1- (i:Int)]
 |none=>V.ex t
def encP:List Int→List Int
 | []=>[]
 |x::r=>if x<0 then [V.sp.getD (-1-x).toNat 0]else after V.ms V.ms.length (x::r)
def encode (Z:List Int):List Int:=(chop V.cut Z).flatMap V.encP
def itemsAll (ids:List Int):List Int:=ids.flatMap V.items
def Canon (ids:List Int):Prop:=V.encode (V.itemsAll ids)=ids
def Has (t:Int):Prop:=nh V.ms t∨t∈V.sp
structure Ok:Prop where
 good:iE V.ms V.ex
 nodup:V.sp.Nodup
 above:∀t∈V.sp,256+(V.ms.length:Int)≤t
variable {V}
theorem place_none (h:V.Ok) {t:Int} (ht:nh V.ms t):V.place t=none:=by
 unfold place;rw [List.idxOf?_eq_none_iff];intro hm;have:=h.above t hm;have:=ht.2;omega
theorem place_some {t:Int} (ht:t∈V.sp):∃i,V.place t=some i∧V.sp[i]? =some t:=by
 unfold place;cases hp:V.sp.idxOf? t with
 |none=>exact absurd ht (List.idxOf?_eq_none_iff.1 hp)
 |some i=>
  refine⟨i,rfl,?_⟩;rw [List.idxOf?,List.findIdx?_eq_some_iff_getElem]at hp;obtain⟨hi,hb,_⟩:=hp;rw [List.getElem?_eq_getElem hi];simpa using hb
theorem items_tok (h:V.Ok) {t:Int} (ht:nh V.ms t):V.items t=V.ex t:=by
 unfold items;rw [place_none h ht]
theorem items_ne (h:V.Ok) {t:Int} (ht:V.Has t):V.items t≠ []:=by
 rcases ht with ht |ht
 ·rw [items_tok h ht];exact(h.good.bytes ht).2
 ·obtain⟨i,hi,_⟩:=place_some ht;unfold items;rw [hi];simp
def Items (V:Voc) (Z:List Int):Prop:=∀x∈Z, -(V.sp.length:Int)≤x∧x<256
theorem items_ok (h:V.Ok) {t:Int} (ht:V.Has t):V.Items (V.items t):=by
 intro x hx;rcases ht with ht |ht
 ·rw [items_tok h ht]at hx;have:=(h.good.bytes ht).1 x hx;omega
 ·obtain⟨i,hi,hs⟩:=place_some ht;have:=(List.getElem?_eq_some_iff.1 hs).1;unfold items at hx;rw [hi]at hx;simp at hx;omega
theorem itemsAll_ok (h:V.Ok) {ids:List Int} (ht:∀t∈ids,V.Has t):V.Items (V.itemsAll ids):=by
 intro x hx;obtain⟨t,hm,hx⟩:=List.mem_flatMap.1 hx;exact items_ok h (ht t hm) x hx
theorem piece_kind {p:List Int} (hp:p≠ []) (hu:dS V.cut p) (hi:V.Items p):(∃i:Nat,i<V.sp.length∧p= [-1- (i:Int)])∨(∀x∈p,0≤x∧x<256):=by
 induction p with
 |nil=>exact absurd rfl hp
 |cons x r ih=>
  by_cases hx:x<0
  ·refine .inl ?_;cases r with
   |nil=>
    have:=hi x (by simp);exact⟨(-1-x).toNat,by omega,by congr 1;omega⟩
   |cons y r=>
    have:=hu.1;unfold cut at this;simp [hx]at this
  ·refine .inr ?_;cases r with
   |nil=>intro y hy;simp at hy;subst hy;have:=hi y (by simp);omega
   |cons y r=>
    rcases ih (by simp) hu.2 (fun z hz=>hi z (by simp [hz]))with⟨i,_,e⟩ |e
    ·exfalso;have:=hu.1;cases e;unfold cut at this;have:(-1- (i:Int)) <0:=by omega
     simp_all
    ·intro z hz;rcases List.mem_cons.1 hz with rfl |hz
     ·have:=hi z (by simp);omega
     ·exact e z hz
theorem encP_mark (h:V.Ok) {i:Nat} (hi:i<V.sp.length):V.encP [-1- (i:Int)]= [V.sp[i]]∧V.items V.sp[i]= [-1- (i:Int)]:=by
 constructor
 ·unfold encP;dsimp only;rw [if_pos (by omega),show(-1- (-1- (i:Int))).toNat=i by omega];simp [List.getD,List.getElem?_eq_getElem hi]
 ·obtain⟨j,hj,hs⟩:=place_some (V:=V) (List.getElem_mem hi);have hjl:=(List.getElem?_eq_some_iff.1 hs).1;rw [List.getElem?_eq_getElem hjl]at hs;have:j=i:=(List.getElem_inj h.nodup).1 (Option.some.inj hs);unfold items;rw [hj,this]
theorem encP_bytes {p:List Int} (hp:p≠ []) (hb:∀x∈p,0≤x∧x<256):V.encP p=after V.ms V.ms.length p:=by
 cases p with
 |nil=>exact absurd rfl hp
 |cons x r=>
  unfold encP;dsimp only;rw [if_neg (by have:=hb x (by simp);omega)]
theorem after_tok (h:V.Ok) {s:List Int} (hs:∀x∈s,0≤x∧x<256):∀t∈after V.ms V.ms.length s,nh V.ms t:=by
 have key:∀k,k≤V.ms.length→∀t∈after V.ms k s,0≤t:=by
  intro k;induction k with
  |zero=>intro _ t ht;rw [cZ]at ht;exact(hs t ht).1
  |succ k ih=>
   intro hk t ht;rw [cm V.ms (List.getElem?_eq_getElem (show k<V.ms.length by omega))]at ht;have ih:=ih (by omega);generalize after V.ms k s=l at ht ih;induction l using cC.induct V.ms[k].1 V.ms[k].2 with
   |case1=>simp [cC]at ht
   |case2 x=>simp [cC]at ht;subst ht;exact ih _ (by simp)
   |case3 x y r hx ih2=>
    obtain⟨rfl,rfl⟩:=hx;rw [bS]at ht;rcases List.mem_cons.1 ht with rfl |ht
    ·omega
    ·exact ih2 ht fun u hu=>ih u (by simp [hu])
   |case4 x y r hx ih2=>
    rw [bY r hx]at ht;rcases List.mem_cons.1 ht with rfl |ht
    ·exact ih _ (by simp)
    ·exact ih2 ht fun u hu=>ih u (by simp [hu])
 intro t ht;exact⟨key _ (Nat.le_refl _) t ht,qq (ms:=V.ms) V.ms.length (Nat.le_refl _) s (fun x hx=>(hs x hx).2) t ht⟩
theorem itemsAll_append (a b:List Int):V.itemsAll (a++b)=V.itemsAll a++V.itemsAll b:=by simp [itemsAll]
theorem itemsAll_toks (h:V.Ok) {l:List Int} (hl:∀t∈l,nh V.ms t):V.itemsAll l=bF V.ex l:=by
 induction l with
 |nil=>rfl
 |cons t l ih=>
  have:=ih fun x hx=>hl x (by simp [hx]);unfold itemsAll bF at this⊢;rw [List.flatMap_cons,List.flatMap_cons,this,items_tok h (hl t (by simp))]
theorem encP_items (h:V.Ok) {p:List Int} (hp:p≠ []) (hu:dS V.cut p) (hi:V.Items p):V.itemsAll (V.encP p)=p∧(∀t∈V.encP p,V.Has t)∧∀u v,V.encP p=u++v→u≠ []→v≠ []→∃p1 p2,p=p1++p2∧p1≠ []∧p2≠ []∧V.encP p1=u∧V.encP p2=v:=by
 rcases piece_kind hp hu hi with⟨i,hil,rfl⟩ |hb
 ·obtain⟨h1,h2⟩:=encP_mark h hil;rw [h1];refine⟨by simp [itemsAll,h2],?_,?_⟩
  ·intro t ht;simp at ht;subst ht;exact .inr (List.getElem_mem hil)
  ·intro u v e hu hv;exfalso;have:=congrArg List.length e;have h3:0<u.length:=List.length_pos_iff.2 hu;have h4:0<v.length:=List.length_pos_iff.2 hv;simp at this;omega
 ·have hS:=h.good.stands;rw [encP_bytes hp hb];have htok:=after_tok h hb;refine⟨?_,fun t ht=>.inl (htok t ht),?_⟩
  ·rw [itemsAll_toks h htok,cJ hS _ (Nat.le_refl _),ee hS p hb]
  ·intro u v e hu' hv';obtain⟨p1,p2,e1,e2,e3⟩:=jw V.ms V.ms.length (Nat.le_refl _) p u v e;have n1:p1≠ []:=by rintro rfl;rw [after_nil]at e2;exact hu' e2.symm
   have n2:p2≠ []:=by rintro rfl;rw [after_nil]at e3;exact hv' e3.symm
   refine⟨p1,p2,e1,n1,n2,?_,?_⟩
   ·rw [encP_bytes n1 fun x hx=>hb x (by rw [e1];simp [hx]),e2]
   ·rw [encP_bytes n2 fun x hx=>hb x (by rw [e1];simp [hx]),e3]
theorem pieces_items {Z:List Int} (hZ:V.Items Z) {ps:List (List Int)} (hf:ps.flatten=Z):∀p∈ps,V.Items p:=by
 intro p hp x hx;exact hZ x (by rw [←hf];exact List.mem_flatten.2 ⟨p,hp,hx⟩)
theorem chop_all {ps:List (List Int)} (h:bK V.cut ps):∀p∈ps,p≠ []∧dS V.cut p:=by
 induction ps with
 |nil=>intro p hp;cases hp
 |cons q ps ih=>
  intro p hp;rcases List.mem_cons.1 hp with rfl |hp
  ·exact h.head
  ·exact ih h.tail p hp
theorem encode_chop {ps:List (List Int)} (h:bK V.cut ps):V.encode ps.flatten=ps.flatMap V.encP:=by
 unfold encode;rw [kx ps h]
theorem encode_items (h:V.Ok) {Z:List Int} (hZ:V.Items Z):V.itemsAll (V.encode Z)=Z∧∀t∈V.encode Z,V.Has t:=by
 obtain⟨h1,h2⟩:=jx (cut:=V.cut) Z;have hi:=pieces_items hZ h2;have hp:=chop_all h1;unfold encode;constructor
 ·conv=>rhs;rw [←h2]
  generalize chop V.cut Z=ps at hi hp;clear h1 h2;induction ps with
  |nil=>rfl
  |cons p ps ih=>
   rw [List.flatMap_cons,List.flatten_cons,itemsAll_append,ih (fun q hq=>hi q (by simp [hq])) (fun q hq=>hp q (by simp [hq])),(encP_items h (hp p (by simp)).1 (hp p (by simp)).2 (hi p (by simp))).1]
 ·intro t ht;obtain⟨p,hpm,htp⟩:=List.mem_flatMap.1 ht;exact(encP_items h (hp p hpm).1 (hp p hpm).2 (hi p hpm)).2.1 t htp
theorem encode_back (h:V.Ok) {Z P Q:List Int} (hZ:V.Items Z) (he:V.encode Z=P++Q):∃X Y,Z=X++Y∧V.encode X=P∧V.encode Y=Q:=by
 obtain⟨h1,h2⟩:=jx (cut:=V.cut) Z;unfold encode at he;rcases ni _ P Q he with⟨a,b,e,rfl,rfl⟩ |⟨a,p,b,u,v,e,e1,hu,hv,rfl,rfl⟩
 ·rw [e]at h1 h2;obtain⟨g1,g2⟩:=h1.append;exact⟨a.flatten,b.flatten,by rw [←h2,List.flatten_append],encode_chop g1,encode_chop g2⟩
 ·have hi:=pieces_items hZ h2;have hp:=chop_all h1;rw [e]at h1 h2 hi hp;have hpm:=hp p (by simp);obtain⟨p1,p2,rfl,n1,n2,q1,q2⟩:=(encP_items h hpm.1 hpm.2 (hi p (by simp))).2.2 u v e1 hu hv;obtain⟨g1,g2⟩:=h1.part n1 n2;refine⟨(a++ [p1]).flatten,(p2::b).flatten,by rw [←h2];simp,?_,?_⟩
  ·rw [encode_chop g1];simp [q1]
  ·rw [encode_chop g2];simp [q2]
theorem canon_append (h:V.Ok) {P Q:List Int} (ht:∀t∈P++Q,V.Has t) (hc:V.Canon (P++Q)):V.Canon P∧V.Canon Q:=by
 obtain⟨X,Y,e,e1,e2⟩:=encode_back h (itemsAll_ok h ht) hc;have hZ:=itemsAll_ok h ht;rw [e]at hZ;have hX:=(encode_items h (Z:=X) fun x hx=>hZ x (by simp [hx])).1;have hY:=(encode_items h (Z:=Y) fun x hx=>hZ x (by simp [hx])).1;rw [e1]at hX;rw [e2]at hY;exact⟨by unfold Canon;rw [hX,e1],by unfold Canon;rw [hY,e2]⟩
def Free (V:Voc) (a b:Int):Prop:=∀k,k<V.ms.length→¬dB V.ms (V.ex a) (V.ex b) k
def Pair (V:Voc) (a b:Int):Prop:=(∃x y,(V.items a).getLast?=some x∧(V.items b).head?=some y∧V.cut x y=true)∨(nh V.ms a∧nh V.ms b∧V.Free a b)
theorem alone_iff (h:V.Ok) {t:Int} (ht:nh V.ms t):V.Canon [t]↔cF V.ms V.ex t∧(chop V.cut (V.ex t)).length≤1:=by
 have hb:=h.good.bytes ht;unfold Canon encode itemsAll cF;simp only [List.flatMap_cons,List.flatMap_nil,List.append_nil];rw [items_tok h ht];obtain⟨h1,h2⟩:=jx (cut:=V.cut) (V.ex t);have hp:=chop_all h1;have hi:V.Items (V.ex t):=fun x hx=>by have:=hb.1 x hx;omega
 have hpi:=pieces_items hi h2
 match hc:chop V.cut (V.ex t)with
 | []=>rw [hc]at h2;exact absurd h2.symm hb.2
 | [p]=>
  rw [hc]at h2;simp at h2;subst h2;simp only [List.flatMap_cons,List.flatMap_nil,List.append_nil,List.length_cons,List.length_nil];rw [encP_bytes hb.2 hb.1];simp
 |p::q::r=>
  constructor
  ·intro e;exfalso;have ne:∀p∈chop V.cut (V.ex t),V.encP p≠ []:=by
    intro p hpm e;have:=(encP_items h (hp p hpm).1 (hp p hpm).2 (hpi p hpm)).1;rw [e]at this;exact(hp p hpm).1 this.symm
   rw [hc]at ne;have n1:=List.length_pos_iff.2 (ne p (by simp));have n2:=List.length_pos_iff.2 (ne q (by simp));have:=congrArg List.length e;simp only [List.flatMap_cons,List.length_append,List.length_cons,List.length_nil]at this;omega
  ·rintro⟨_,e⟩;simp at e
theorem alone_special (h:V.Ok) {t:Int} (ht:t∈V.sp):V.Canon [t]:=by
 obtain⟨i,hi,hs⟩:=place_some ht;have hil:=(List.getElem?_eq_some_iff.1 hs).1;rw [List.getElem?_eq_getElem hil]at hs;obtain⟨h1,h2⟩:=encP_mark h hil;rw [Option.some.inj hs]at h1 h2;unfold Canon encode itemsAll;simp only [List.flatMap_cons,List.flatMap_nil,List.append_nil,h2];show V.encP [-1- (i:Int)]++ []= [t];rw [h1];rfl
theorem canon_more (h:V.Ok) {init:List Int} {l t:Int} (ht:∀x∈init++ [l],V.Has x) (hc:V.Canon (init++ [l])) (hT:V.Has t):V.Canon (init++ [l]++ [t])↔V.Canon [t]∧V.Pair l t:=by
 have hS:=itemsAll_ok h ht;have hTi:=items_ok h hT;have nS:V.itemsAll (init++ [l])≠ []:=by
  rw [itemsAll_append];have:=items_ne h (ht l (by simp));simp [itemsAll,this]
 have nT:=items_ne h hT;obtain⟨s1,s2⟩:=jx (cut:=V.cut) (V.itemsAll (init++ [l]));obtain⟨t1,t2⟩:=jx (cut:=V.cut) (V.items t);obtain⟨q,qs,hq,hqh⟩:=CM (cut:=V.cut) nT;have one:∀x:Int,V.itemsAll [x]=V.items x:=fun x=>by simp [itemsAll]
 obtain⟨ps,p,hps⟩:∃ps p,chop V.cut (V.itemsAll (init++ [l]))=ps++ [p]:=by
  rcases List.eq_nil_or_concat (chop V.cut (V.itemsAll (init++ [l])))with e |⟨a,b,e⟩
  ·rw [e]at s2;exact absurd s2.symm nS
  ·exact⟨a,b,by rw [e];simp⟩
 rw [hps]at s1 s2;rw [hq]at t1 t2;have hpp:=chop_all s1 p (by simp);have hqq:=t1.head;have hlast:p.getLast?=(V.items l).getLast?:=by
  have e1:(V.itemsAll (init++ [l])).getLast?=(V.items l).getLast?:=by
   rw [itemsAll_append,one,eY _ (items_ne h (ht l (by simp)))]
  rw [←s2,List.flatten_append,List.flatten_cons,List.flatten_nil,List.append_nil,eY _ hpp.1]at e1;exact e1
 have hall:V.itemsAll (init++ [l]++ [t])=(ps++ [p]).flatten++(q::qs).flatten:=by
  rw [itemsAll_append,one,s2,t2]
 have hencS:ps.flatMap V.encP++V.encP p=init++ [l]:=by
  have:V.encode (V.itemsAll (init++ [l]))=init++ [l]:=hc;rw [←s2,encode_chop s1]at this;simpa using this
 have hencT:V.Canon [t]↔V.encP q++qs.flatMap V.encP= [t]:=by
  unfold Canon;rw [one, ←t2,encode_chop t1];simp
 by_cases hcut:CL V.cut p q
 ·-- it is cut
  have hglue:bK V.cut (ps++p::(q::qs)):=s1.glue t1 fun z r hz=>by cases hz;exact hcut
  have hpair:V.Pair l t:=by
   obtain⟨x,y,hx,hy,hxy⟩:=hcut;exact .inl ⟨x,y,by rw [←hlast];exact hx,by rw [←hqh];exact hy,hxy⟩
  have:V.encode (V.itemsAll (init++ [l]++ [t]))=init++ [l]++(V.encP q++qs.flatMap V.encP):=by
   rw [hall, ←List.flatten_append,show ps++ [p]++q::qs=ps++p::(q::qs) by simp,encode_chop hglue, ←hencS];simp
  unfold Canon at*;rw [this,List.append_right_inj];exact⟨fun e=>⟨hencT.2 e,hpair⟩,fun e=>hencT.1 e.1⟩
 ·-- it isn't: both are bytes
  obtain⟨x,hx⟩:∃x,p.getLast?=some x:=by
   cases hpl:p.getLast? with
   |none=>exact absurd (List.getLast?_eq_none_iff.1 hpl) hpp.1
   |some x=>exact⟨x,rfl⟩
  obtain⟨y,hy⟩:∃y,q.head?=some y:=by
   cases hql:q.head? with
   |none=>exact absurd (List.head?_eq_none_iff.1 hql) hqq.1
   |some y=>exact⟨y,rfl⟩
  have hnc:V.cut x y=false:=by
   cases hxy:V.cut x y with
   |false=>rfl
   |true=>exact absurd ⟨x,y,hx,hy,hxy⟩ hcut
  have hx0:¬x<0:=by intro e;unfold cut at hnc;simp [e]at hnc
  have hy0:¬y<0:=by intro e;unfold cut at hnc;simp [e]at hnc
  have hip:=pieces_items hS s2 p (by simp);have hiq:=pieces_items hTi t2 q (by simp);have bp:∀z∈p,0≤z∧z<256:=by
   rcases piece_kind hpp.1 hpp.2 hip with⟨i,_,rfl⟩ |e
   ·simp at hx;omega
   ·exact e
  have bq:∀z∈q,0≤z∧z<256:=by
   rcases piece_kind hqq.1 hqq.2 hiq with⟨i,_,rfl⟩ |e
   ·simp at hy;omega
   ·exact e
  have tokOf:∀ {u:Int} (hu:V.Has u),(∀z,(V.items u).getLast?=some z∨(V.items u).head?=some z→¬z<0→nh V.ms u):=by
   intro u hu z hz hz0;rcases hu with hu |hu
   ·exact hu
   ·exfalso;obtain⟨i,hi,_⟩:=place_some hu;unfold items at hz;rw [hi]at hz;simp at hz;omega
  have tl:nh V.ms l:=tokOf (ht l (by simp)) x (.inl (by rw [←hlast];exact hx)) hx0;have tt:nh V.ms t:=tokOf hT y (.inr (by rw [←hqh];exact hy)) hy0;have hchop:bK V.cut (ps++(p++q)::qs):=by
   have hu:dS V.cut (p++q):=(jt p q).2 ⟨hpp.2,hqq.2,fun a b ha hb=>by rw [hx]at ha;rw [hy]at hb;cases ha;cases hb;exact hnc⟩;have npq:p++q≠ []:=by simp [hpp.1]
   have h1:bK V.cut (ps++ [p++q]):=by
    clear hencS hall;have s1':=s1;revert s1';generalize ps=a;intro s1';induction a with
    |nil=>exact⟨npq,hu⟩
    |cons z a ih=>
     rw [List.cons_append]at s1'⊢;refine bK.cons s1'.head.1 s1'.head.2 (fun w r hw=>?_) (ih s1'.tail);cases a with
     |nil=>
      cases hw;obtain⟨u,v,hu',hv,hcc⟩:=s1'.2.2.1;exact⟨u,v,hu',by rw [rV _ hpp.1];exact hv,hcc⟩
     |cons z' a=>cases hw;exact s1'.2.2.1
   refine h1.glue t1.tail fun z r hz=>?_;subst hz;obtain⟨u,v,hu',hv,hcc⟩:=t1.2.2.1;exact⟨u,v,by rw [eY _ hqq.1];exact hu',hv,hcc⟩
  have henc:V.encode (V.itemsAll (init++ [l]++ [t]))=ps.flatMap V.encP++(after V.ms V.ms.length (p++q)++qs.flatMap V.encP):=by
   rw [hall,show(ps++ [p]).flatten++(q::qs).flatten=(ps++(p++q)::qs).flatten by simp,encode_chop hchop];simp only [List.flatMap_append,List.flatMap_cons];rw [encP_bytes (by simp [hpp.1]) fun z hz=>(List.mem_append.1 hz).elim (bp z) (bq z)]
  rw [encP_bytes hpp.1 bp]at hencS;have tokp:=after_tok h bp;obtain⟨i2,hi2⟩:∃i2,after V.ms V.ms.length p=i2++ [l]:=by
   have hne:=ji V.ms hpp.1 V.ms.length;rcases List.eq_nil_or_concat (after V.ms V.ms.length p)with e |⟨a,b,e⟩
   ·exact absurd e hne
   ·rw [e]at hencS;have:=congrArg List.getLast? hencS;simp at this;exact⟨a,by rw [e,this];simp⟩
  rw [hi2]at tokp;have hcp:iQ V.ms V.ex (i2++ [l]):=by
   unfold iQ;rw [←hi2,cJ h.good.stands _ (Nat.le_refl _),ee h.good.stands p bp,hi2]
  have hpe:p=bF V.ex (i2++ [l]):=by
   rw [←hi2,cJ h.good.stands _ (Nat.le_refl _),ee h.good.stands p bp]
  have single:V.Canon [t]→qs= []∧q=V.ex t∧cF V.ms V.ex t:=by
   intro e;obtain⟨ha,hl⟩:=(alone_iff h tt).1 e;rw [items_tok h tt]at hq t2;rw [hq]at hl;simp at hl;subst hl;simp at t2;exact⟨rfl,t2,ha⟩
  have finish:V.Canon [t]→(V.Canon (init++ [l]++ [t])↔V.Free l t):=by
   intro e;obtain⟨e1,e2,e3⟩:=single e;have hsn:=Aq h.good tokp hcp tt e3;unfold Canon;rw [henc,e1,e2];simp only [List.flatMap_nil,List.append_nil];rw [hi2]at hencS;unfold iQ at hsn;rw [dQ, ←hpe,show bF V.ex [t]=V.ex t by simp [bF]]at hsn;rw [←hencS,List.append_assoc,List.append_right_inj];exact hsn
  have pair_iff:V.Pair l t↔V.Free l t:=by
   constructor
   ·rintro(⟨u,v,hu,hv,hcc⟩ |⟨_,_,hf⟩)
    ·exfalso;rw [←hlast,hx]at hu;rw [←hqh,hy]at hv;cases hu;cases hv;rw [hnc]at hcc;cases hcc
    ·exact hf
   ·exact fun hf=>.inr ⟨tl,tt,hf⟩
  constructor
  ·intro e;have hT1:=(canon_append h (P:=init++ [l]) (Q:=[t]) (by
    intro z hz;rcases List.mem_append.1 hz with hz |hz
    ·exact ht z hz
    ·simp at hz;subst hz;exact hT) e).2
   exact⟨hT1,pair_iff.2 ((finish hT1).1 e)⟩
  ·rintro⟨e1,e2⟩;exact(finish e1).2 (pair_iff.1 e2)
end Voc
structure HE where
 r:Int
 p:Int
 t:Int
 f:Int
 a:Int
 b:Int
 deriving DecidableEq,Inhabited
def HE.lt (x y:HE):Prop:=x.r<y.r∨x.r=y.r∧(x.p<y.p∨x.p=y.p∧x.t<y.t)
instance (x y:HE):Decidable (x.lt y):=by unfold HE.lt;infer_instance
theorem HE.asymm {x y:HE} (h:x.lt y):¬y.lt x:=by unfold HE.lt at*;omega
theorem HE.le_trans {x y z:HE} (h1:¬y.lt x) (h2:¬z.lt y):¬z.lt x:=by unfold HE.lt at*;omega
theorem HE.lt_le {x y z:HE} (h1:x.lt y) (h2:¬z.lt y):¬z.lt x:=HE.le_trans (HE.asymm h1) h2
abbrev hat (l:List HE) (j:Nat):HE:=l.getD j default
def pV (l:List HE) (i k:Nat):List HE:=(l.set i (hat l k)).set k (hat l i)
theorem bX (l:List HE) (i k:Nat):(pV l i k).length=l.length:=by simp [pV]
theorem iz {l:List HE} {i k:Nat} (hi:i<l.length) (hk:k<l.length) (j:Nat):hat (pV l i k) j=if j=k then hat l i else if j=i then hat l k else hat l j:=by
 unfold hat pV;simp only [List.getD_eq_getElem?_getD,List.getElem?_set,List.length_set];by_cases h1:j=k
 ·subst h1;simp [hk]
 ·by_cases h2:j=i
  ·subst h2;rw [if_neg (fun e=>h1 e.symm),if_pos rfl,if_pos hi,if_neg h1,if_pos rfl];rfl
  ·rw [if_neg (fun e=>h1 e.symm),if_neg (fun e=>h2 e.symm),if_neg h1,if_neg h2]
theorem mq {l:List HE} {e:HE}:e∈l↔∃j,j<l.length∧hat l j=e:=by
 constructor
 ·intro h;obtain⟨j,hj,rfl⟩:=List.getElem_of_mem h;exact⟨j,hj,by simp [hat,hj]⟩
 ·rintro⟨j,hj,rfl⟩;simp only [hat,List.getD_eq_getElem?_getD,List.getElem?_eq_getElem hj,Option.getD_some];exact List.getElem_mem hj
theorem pT {l:List HE} {i k:Nat} (hi:i<l.length) (hk:k<l.length) (e:HE):e∈pV l i k↔e∈l:=by
 rw [mq,mq,bX];constructor
 ·rintro⟨j,hj,rfl⟩;rw [iz hi hk];split
  ·exact⟨i,hi,rfl⟩
  ·split
   ·exact⟨k,hk,rfl⟩
   ·exact⟨j,hj,rfl⟩
 ·rintro⟨j,hj,rfl⟩;by_cases h1:j=i
  ·subst h1;exact⟨k,hk,by rw [iz hi hk,if_pos rfl]⟩
  ·by_cases h2:j=k
   ·subst h2;exact⟨i,hi,by rw [iz hi hk,if_neg (fun e=>h1 e.symm),if_pos rfl]⟩
   ·exact⟨j,hj,by rw [iz hi hk,if_neg h2,if_neg h1]⟩
def par (j:Nat):Nat:=(j-1)/2
theorem ig {j:Nat} (h:0<j):par j<j:=by unfold par;omega
def eA (l:List HE):Prop:=∀j,0<j→j<l.length→¬(hat l j).lt (hat l (par j))
def Ea (l:List HE) (i:Nat):Prop:=∀j,0<j→j<l.length→(j≠i→¬(hat l j).lt (hat l (par j)))∧(par j=i→0<i→¬(hat l j).lt (hat l (par i)))
theorem uz {l:List HE} {i:Nat} (h:Ea l i) (hi:i=0∨¬(hat l i).lt (hat l (par i))):eA l:=by
 intro j h0 hj;by_cases e:j=i
 ·subst e;rcases hi with hi |hi
  ·omega
  ·exact hi
 ·exact(h j h0 hj).1 e
theorem HC {l:List HE} {i:Nat} (h:Ea l i) (h0:0<i) (hi:i<l.length) (hl:(hat l i).lt (hat l (par i))):Ea (pV l i (par i)) (par i):=by
 have hp:=ig h0;have hpl:par i<l.length:=by omega
 intro j j0 hj;rw [bX]at hj;have hjp:=ig j0;have at_:∀x,hat (pV l i (par i)) x=if x=par i then hat l i else if x=i then hat l (par i)else hat l x:=iz hi hpl
 constructor
 ·intro hne;rw [at_ j,at_ (par j),if_neg hne];by_cases e1:j=i
  ·subst e1;rw [if_pos rfl,if_pos rfl];exact HE.asymm hl
  ·rw [if_neg e1];by_cases e2:par j=par i
   ·rw [if_pos e2];have h1:=(h j j0 hj).1 e1;rw [e2]at h1;exact HE.lt_le hl h1
   ·rw [if_neg e2];by_cases e3:par j=i
    ·rw [if_pos e3];exact(h j j0 hj).2 e3 h0
    ·rw [if_neg e3];exact(h j j0 hj).1 e1
 ·intro e2 hp0;have hpp:=ig hp0;have a1:hat (pV l i (par i)) j=if j=i then hat l (par i)else hat l j:=by rw [at_ j,if_neg (by omega)]
  have a2:hat (pV l i (par i)) (par (par i))=hat l (par (par i)):=by rw [at_ _,if_neg (by omega),if_neg (by omega)]
  rw [a1,a2];have h1:=(h (par i) hp0 hpl).1 (by omega);by_cases e1:j=i
  ·subst e1;rw [if_pos rfl];exact h1
  ·rw [if_neg e1];have h2:=(h j j0 hj).1 e1;rw [e2]at h2;exact HE.le_trans h1 h2
def mo (l:List HE) (i:Nat):Prop:=∀j,0<j→j<l.length→(par j≠i→¬(hat l j).lt (hat l (par j)))∧(par j=i→0<i→¬(hat l j).lt (hat l (par i)))
theorem tr {l:List HE} {i:Nat} (h:mo l i) (hc:∀j,0<j→j<l.length→par j=i→¬(hat l j).lt (hat l i)):eA l:=by
 intro j h0 hj;by_cases e:par j=i
 ·rw [e];exact hc j h0 hj e
 ·exact(h j h0 hj).1 e
theorem DP {l:List HE} {i c:Nat} (h:mo l i) (hc0:0<c) (hc:c<l.length) (hpc:par c=i) (hl:(hat l c).lt (hat l i)) (ho:∀j,0<j→j<l.length→par j=i→¬(hat l j).lt (hat l c)):mo (pV l i c) c:=by
 have hp:=ig hc0;have hil:i<l.length:=by omega
 have at_:∀x,hat (pV l i c) x=if x=c then hat l i else if x=i then hat l c else hat l x:=iz hil hc
 intro j j0 hj;rw [bX]at hj;have hjp:=ig j0;constructor
 ·intro hne;rw [at_ j,at_ (par j),if_neg hne];by_cases e1:j=c
  ·subst e1;rw [if_pos rfl,if_pos hpc];exact HE.asymm hl
  ·rw [if_neg e1];by_cases e2:j=i
   ·subst e2;rw [if_pos rfl,if_neg (by omega)];exact(h c hc0 hc).2 hpc j0
   ·rw [if_neg e2];by_cases e3:par j=i
    ·rw [if_pos e3];exact ho j j0 hj e3
    ·rw [if_neg e3];exact(h j j0 hj).1 e3
 ·intro e1 _;have a1:hat (pV l i c) j=hat l j:=by rw [at_ j,if_neg (by omega),if_neg (by omega)]
  have a2:hat (pV l i c) i=hat l c:=by rw [at_ i,if_neg (by omega),if_pos rfl]
  rw [hpc,a1,a2];have:=(h j j0 hj).1 (by omega);rw [e1]at this;exact this
theorem Hv {l:List HE} (h:eA l) (x:HE):Ea (l++ [x]) l.length:=by
 intro j j0 hj;have hjp:=ig j0;simp at hj;constructor
 ·intro hne;have hlt:j<l.length:=by omega
  have e:∀y,y<l.length→hat (l++ [x]) y=hat l y:=by
   intro y hy;simp only [hat,List.getD_eq_getElem?_getD,List.getElem?_append_left hy]
  rw [e j hlt,e _ (by omega)];exact h j j0 hlt
 ·intro e;omega
theorem EW {l:List HE} (h:eA l) (n:Nat) (hn:l.length=n+1):mo ((pV l 0 n).take n) 0:=by
 intro j j0 hj;rw [List.length_take,bX,hn]at hj;have hjn:j<n:=by omega
 have hjp:=ig j0;have e:∀y,y<n→0<y→hat ((pV l 0 n).take n) y=hat l y:=by
  intro y hy hy0;have:hat ((pV l 0 n).take n) y=hat (pV l 0 n) y:=by simp only [hat,List.getD_eq_getElem?_getD,List.getElem?_take_of_lt hy]
  rw [this,iz (by omega) (by omega),if_neg (by omega),if_neg (by omega)]
 constructor
 ·intro hne;rw [e j hjn j0,e _ (by omega) (by omega)];exact h j j0 (by omega)
 ·intro _ h0;omega
theorem Cp {l:List HE} (h:eA l):∀j,j<l.length→¬(hat l j).lt (hat l 0):=by
 intro j;induction j using Nat.strongRecOn with
 |ind j ih=>
  intro hj;by_cases h0:j=0
  ·subst h0;intro e;exact HE.asymm e e
  ·have hp:=ig (Nat.pos_of_ne_zero h0);exact HE.le_trans (ih (par j) hp (by omega)) (h j (Nat.pos_of_ne_zero h0) hj)
theorem H6 {l:List HE} (n:Nat) (hn:l.length=n+1):(∀e∈l,e=hat l 0∨e∈(pV l 0 n).take n)∧∀e∈(pV l 0 n).take n,e∈l:=by
 constructor
 ·intro e he;rw [←pT (l:=l) (i:=0) (k:=n) (by omega) (by omega)]at he;obtain⟨j,hj,rfl⟩:=mq.1 he;rw [bX]at hj;by_cases hjn:j=n
  ·subst hjn;rw [iz (by omega) (by omega),if_pos rfl];exact .inl rfl
  ·refine .inr (mq.2 ⟨j,by rw [List.length_take,bX];omega,?_⟩);simp only [hat,List.getD_eq_getElem?_getD,List.getElem?_take_of_lt (show j<n by omega)]
 ·intro e he;exact(pT (by omega) (by omega) e).1 (List.mem_of_mem_take he)
theorem qK {α:Type} {enc:α→List Value} {sz:Nat} (hsz:∀x,(enc x).length=sz) (m:α) (rest:List Value):∀(xs:List α) (i:Nat),i<xs.length→ir (xs.flatMap enc++rest) (i*sz) (enc m)=(xs.set i m).flatMap enc++rest
 | [],i,h=>absurd h (Nat.not_lt_zero i)
 |x::t,0,h=>by
  simp only [ir,Nat.zero_mul,List.take_zero,List.nil_append,Nat.zero_add,List.flatMap_cons,List.set_cons_zero,List.append_assoc];rw [hsz, ←hsz x,List.drop_left]
 |x::t,i+1,h=>by
  have ih:=qK hsz m rest t i (by simpa using h);simp only [ir,List.flatMap_cons,List.set_cons_succ,List.append_assoc]at ih⊢;rw [←ih];have e:(i+1)*sz=(enc x).length+i*sz:=by rw [hsz,Nat.add_mul,Nat.one_mul,Nat.add_comm]
  rw [e,List.take_length_add_append,Nat.add_assoc,List.drop_length_add_append,List.append_assoc]
theorem aS {b:Nat} {e:TypeId} {c:Array Value} {w2:World} {k:World→Prop} (h:w2.heap[b]? =some (.cells c e (0,0))) (vs:List Value) (hl:c.size=vs.length) (h1:∀v∈vs,v.oneCell'=true)
  (hk:∀w',w'.heap[b]? =some (.cells vs.toArray e (0,0))→(∀j,j≠b→w'.heap[j]? =w2.heap[j]?)→w'.heap.size=w2.heap.size→(∀B w0,B≤b→Below B w0 w2→Below B w0 w')→k w'):aB w2 ⟨b,0,none⟩ k vs 0:=by
 refine ft vs 0 w2 c 0 h (by omega) h1 fun w' h' hs hz hB=>hk w' ?_ hs hz hB;rw [h'];congr 2;simp [ir, ←hl]
theorem jF {w:World} {B:Nat} {e:TypeId} {sz:Nat} {l:Sl} {α:Type} {enc:α→List Value} {xs:List α} {k:World→Prop} (hsz:∀x,(enc x).length=sz) (h0:0<sz) (h1:∀x,∀u∈enc x,u.oneCell'=true) (h:w.ownsRow B e sz l.v l.n (xs.flatMap enc)) (hn:l.n=xs.length) {a:Addr} (ha:l.a=some a) (i:Nat) (hi:i<xs.length) (m:α)
  (hk:∀w',w'.ownsRow B e sz l.v l.n ((xs.set i m).flatMap enc)→(∀j,l.v.ownBlock≠some j→w'.heap[j]? =w.heap[j]?)→w'.heap.size=w.heap.size→(∀B0 w0,B0≤B→Below B0 w0 w→Below B0 w0 w')→k w'):aB w (a.add (i*sz)) k (enc m) 0:=by
 rcases h.2 with⟨hv,_⟩ |⟨g,cap,cur,hv,hb,hg,hc,hm,hz,ht⟩
 ·obtain⟨la,ln,lc⟩:=l;cases hv;cases ha
 ·obtain⟨la,ln,lc⟩:=l;cases hv;cases ha;simp only at hn;change ln≤lc at hc;change cur.size=lc*sz at hz;change cur.toList.take (ln*sz)=_ at ht;have hflat:(xs.flatMap enc).length=xs.length*sz:=bR hsz xs;have hle:(i+1)*sz≤xs.length*sz:=Nat.mul_le_mul_right sz hi;have hle2:xs.length*sz≤lc*sz:=Nat.mul_le_mul_right sz (by omega);rw [Nat.add_mul,Nat.one_mul]at hle;rw [aC,Nat.zero_add];refine ft (enc m) 0 w cur (i*sz) hg (by rw [hsz];omega) (h1 m) fun w' h' hs hz' hB=>hk w' ⟨?_,.inr ⟨g,lc,_,rfl,hb,h',hc,hm,?_,?_⟩⟩ (fun j hj=>hs j fun e=>hj (by rw [e];rfl)) hz' (fun B0 w0 h0=>hB B0 w0 (by omega))
  ·show((xs.set i m).flatMap enc).length=ln*sz;rw [bR hsz,List.length_set,hn]
  ·have:cur.toList.length=lc*sz:=by rw [Array.length_toList];exact hz
   simp only [ir,List.size_toArray,List.length_append,List.length_take,List.length_drop,hsz];omega
  ·have hsplit:cur.toList=xs.flatMap enc++cur.toList.drop (ln*sz):=by rw [←ht];exact(List.take_append_drop _ _).symm
   rw [Nat.add_zero,hsplit,qK hsz m _ xs i hi];show List.take (ln*sz) _=_;rw [List.take_left' (by rw [bR hsz,List.length_set,hn])]
theorem Er {w:World} {B:Nat} {e:TypeId} {sz:Nat} {l:Sl} {α:Type} {enc:α→List Value} {xs:List α} (hsz:∀x,(enc x).length=sz) (h:w.ownsRow B e sz l.v l.n (xs.flatMap enc)) (hn:l.n=xs.length) (n:Nat) (hle:n≤xs.length):
  w.ownsRow B e sz (Value.slice l.a n l.c) n ((xs.take n).flatMap enc):=by
 rcases h.2 with⟨hv,_⟩ |⟨g,cap,cur,hv,hb,hg,hc,hm,hz,ht⟩
 ·obtain⟨la,ln,lc⟩:=l;cases hv;simp only at hn;have:xs= []:=List.eq_nil_of_length_eq_zero hn.symm;subst this;have:n=0:=by simpa using hle
  subst this;exact cP _ _ _ _
 ·obtain⟨la,ln,lc⟩:=l;cases hv;simp only at hn;change ln≤lc at hc;change cur.size=lc*sz at hz;change cur.toList.take (ln*sz)=_ at ht;refine⟨by rw [bR hsz,List.length_take,Nat.min_eq_left hle],.inr ⟨g,lc,cur,rfl,hb,hg,by omega,hm,hz,?_⟩⟩;have h2:(xs.take n).flatMap enc=(xs.flatMap enc).take (n*sz):=by
   have e:xs.flatMap enc=(xs.take n).flatMap enc++(xs.drop n).flatMap enc:=by rw [←List.flatMap_append,List.take_append_drop]
   rw [e,List.take_left' (by rw [bR hsz,List.length_take,Nat.min_eq_left hle])]
  have hle2:n*sz≤ln*sz:=Nat.mul_le_mul_right sz (by omega);rw [h2, ←ht,List.take_take,Nat.min_eq_left hle2]
structure dG (B:Nat) (w w':World) (p:Nat) (l l':Sl):Prop where
 keep:∀k,k<w.heap.size→k≠p→l.v.ownBlock≠some k→w'.heap[k]? =w.heap[k]?
 new:∀k,l'.v.ownBlock=some k→l.v.ownBlock=some k∨w.heap.size≤k
 size:w.heap.size≤w'.heap.size
 below:Below B w w'
theorem dG.of_below {B:Nat} {w w':World} (p:Nat) (l:Sl) (h:Below w.heap.size w w') (hB:B≤w.heap.size):dG B w w' p l l:=⟨fun k hk _ _=>h.block k hk,fun k hk=>.inl hk,h.size,h.mono hB⟩
theorem dG.trans {B:Nat} {w w' w'':World} {p:Nat} {l l' l'':Sl} (h:dG B w w' p l l') (h':dG B w' w'' p l' l''):dG B w w'' p l l'':=by
 refine⟨fun k hk hp hl=>?_,fun k hk=>?_,Nat.le_trans h.size h'.size,h.below.trans h'.below⟩
 ·rw [h'.keep k (Nat.lt_of_lt_of_le hk h.size) hp fun e=>?_,h.keep k hk hp hl];rcases h.new k e with e |e
  ·exact hl e
  ·omega
 ·rcases h'.new k hk with e |e
  ·exact h.new k e
  ·exact .inr (Nat.le_trans h.size e)
abbrev FZ:TypeId:=393
abbrev nQ:TypeId:=399
abbrev Cz:TypeId:=391
theorem Do:Tryz.prog.underlying Cz=some (.slice nQ):=by kernel_rfl
theorem Et:(Tryz.prog.info? nQ).map (fun i=>(i.zero,i.size,i.bytes))=some (some (.agg #[.int .i64 0,.int .i64 0,.int .i64 0,.int .i64 0,.int .i64 0,.int .i64 0]),6,48):=by kernel_rfl
def jd (x:HE):List Value:=[.int .i64 x.r,.int .i64 x.p,.int .i64 x.t,.int .i64 x.f,.int .i64 x.a,.int .i64 x.b]
theorem kQ (x:HE):(jd x).length=6:=rfl
theorem kR (x:HE):∀u∈jd x,u.oneCell'=true:=by
 intro v hv;simp only [jd,List.mem_cons,List.not_mem_nil,or_false]at hv;rcases hv with rfl |rfl |rfl |rfl |rfl |rfl<;>rfl
structure dl (w:World) (B p:Nat) (l:Sl) (turn:Nat) (es:List HE):Prop where
 blk:w.heap[p]? =some (.cells #[l.v,.int .i64 (turn:Int)] FZ (0,0))
 row:w.ownsRow B nQ 6 l.v l.n (es.flatMap jd)
 len:l.n=es.length
 off:l.v.ownBlock≠some p
 bp:B≤p
theorem dl.on {w w':World} {B p:Nat} {l:Sl} {turn:Nat} {es:List HE} (h:dl w B p l turn es) (hb:Below w.heap.size w w'):dl w' B p l turn es:=⟨ah hb h.blk,aE h.row hb,h.len,h.off,h.bp⟩
theorem dl.lt {w:World} {B p:Nat} {l:Sl} {turn:Nat} {es:List HE} (h:dl w B p l turn es):p<w.heap.size:=(Array.getElem?_eq_some_iff.1 h.blk).1
theorem dl.cells {w:World} {B p:Nat} {l:Sl} {turn:Nat} {es:List HE} (h:dl w B p l turn es) {i:Nat} (hi:i<es.length):∃a,l.a=some a∧∀k v,(jd (hat es i))[k]? =some v→w.cell? ((a.add (i*6)).add k)=some v:=by
 obtain⟨a,ha,_,hc⟩:=(Rw.of_own h.row kQ (by decide)).1 i _ (List.getElem?_eq_getElem hi);refine⟨a,ha,fun k v hk=>hc k v ?_⟩;have:hat es i=es[i]:=by simp [hat,hi]
 rwa [this]at hk
theorem uM (w:World):CP 270 #[] w fun e w'=>e= .returned (.pointer (some ⟨w.heap.size,0,none⟩))∧dl w' w.heap.size w.heap.size ⟨none,0,0⟩ 0 []∧Below w.heap.size w w'∧w'.heap.size=w.heap.size+1:=by
 refine aL (xn w) ?_;rintro w1 rfl;exact⟨rfl,⟨ak _ _,cP _ _ _ _,rfl,by(intro h;cases h),Nat.le_refl _⟩,ag _ _,av _ _⟩
theorem uN (w:World) (B p:Nat) (l:Sl) (turn:Nat) (es:List HE) (h:dl w B p l turn es):CP 291 #[.pointer (some ⟨p,0,none⟩)] w fun e w'=>e= .returned (.int .i64 es.length)∧w'=w:=by
 refine aL (vD (some ⟨p,0,none⟩) w) ?_;exact ac.no rfl (af.mk _ rfl ⟨l.a,l.n,l.c,by rw [aj p w h.blk];rfl,by rw [h.len],rfl⟩)
theorem lB (x y:HE) (w:World):CP 292 #[.agg #[.int .i64 x.r,.int .i64 x.p,.int .i64 x.t],.agg #[.int .i64 y.r,.int .i64 y.p,.int .i64 y.t]] w fun e w'=>e= .returned (.bool (decide (x.lt y)))∧Below w.heap.size w w':=by
 refine aR (xg x.r x.p x.t y.r y.p y.t w (fun v w'=>v= .bool (decide (x.lt y))∧Below w.heap.size w w') ?_) (by rintro v w' ⟨rfl,h⟩;exact⟨rfl,h⟩);intro w1 hw1 w2 hw2;have hb:Below w.heap.size w w2:=by subst hw2;subst hw1;exact ae (ag _ _) (ag _ _)
 have c1:∀j,w2.cell? ((nb w).add j)=(#[Value.int .i64 x.r,Value.int .i64 x.p,Value.int .i64 x.t]:Array Value)[j]? :=by
  intro j;subst hw2;rw [(ag w1 _).cell (by rw [ax];subst hw1;rw [av];exact Nat.lt_succ_self _)];subst hw1;rw [aC,Nat.zero_add,aY]
 have c2:∀j,w2.cell? ((nb w1).add j)=(#[Value.int .i64 y.r,Value.int .i64 y.p,Value.int .i64 y.t]:Array Value)[j]? :=by
  intro j;subst hw2;rw [aC,Nat.zero_add,aY]
 refine⟨_,c1 0,_,c2 0,ac.mk (fun h0=>?_) fun h0=>?_⟩
 ·have h0:x.r≠y.r:=by simpa using h0
  refine⟨_,c1 0,_,c2 0,?_,hb⟩;congr 1;exact decide_eq_decide.2 (by unfold HE.lt;omega)
 ·have h0:x.r=y.r:=by simpa using h0
  refine⟨_,c1 1,_,c2 1,ac.mk (fun h1=>?_) fun h1=>?_⟩
  ·have h1:x.p≠y.p:=by simpa using h1
   refine⟨_,c1 1,_,c2 1,?_,hb⟩;congr 1;exact decide_eq_decide.2 (by unfold HE.lt;omega)
  ·have h1:x.p=y.p:=by simpa using h1
   refine⟨_,c1 2,_,c2 2,?_,hb⟩;congr 1;exact decide_eq_decide.2 (by unfold HE.lt;omega)
theorem iP (w:World) (B p:Nat) (l:Sl) (turn:Nat) (es:List HE) (h:dl w B p l turn es) (hB:B≤w.heap.size) (i k:Nat) (hi:i<es.length) (hk:k<es.length):
  CP 287 #[.pointer (some ⟨p,0,none⟩),.int .i64 (i:Int),.int .i64 (k:Int)] w fun e w'=>e= .returned (.tuple #[])∧dl w' B p l turn (pV es i k)∧dG B w w' p l l:=by
 refine aL (wY (some ⟨p,0,none⟩) i k w) ?_;intro w1 hw1;have hb1:Below w.heap.size w w1:=by subst hw1;exact aO w
 have h1:=h.on hb1;have hc:w1.cell? ((⟨p,0,none⟩:Addr).add 0)=some (.slice l.a l.n l.c):=by rw [aj p _ h1.blk];rfl
 obtain⟨a,ha,ck⟩:=h1.cells hk;obtain⟨a2,ha2,ci⟩:=h1.cells hi;have hea:a2=a:=by rw [ha]at ha2;exact(Option.some.inj ha2).symm
 subst hea;have hlen:=h1.len;have e1:((k:Int)).toNat=k:=by omega
 have e2:((i:Int)).toNat=i:=by omega
 rw [e1,e2];have k0:=ck 0 _ rfl;have i0:=ci 0 _ rfl;rw [ay]at k0 i0;refine af.mk _ rfl ⟨l.a,l.n,l.c,hc,af.mk _ rfl ⟨l.a,l.n,l.c,hc,af.mk _ rfl ⟨l.a,l.n,l.c,hc,af.mk a2 ha ⟨by omega,by omega,_,_,_,_,_,_,⟨k0,ck 1 _ rfl,ck 2 _ rfl,ck 3 _ rfl,ck 4 _ rfl,ck 5 _ rfl,trivial⟩,af.mk _ rfl ⟨l.a,l.n,l.c,hc,af.mk a2 ha ⟨by omega,by omega,_,_,_,_,_,_,⟨i0,ci 1 _ rfl,ci 2 _ rfl,ci 3 _ rfl,ci 4 _ rfl,ci 5 _ rfl,trivial⟩,af.mk a2 ha ⟨by omega,by omega,?_⟩⟩⟩⟩⟩⟩⟩;refine jF kQ (by decide) kR h1.row hlen ha i hi (hat es k) ?_;intro w2 r2 s2 z2 b2;refine af.mk a2 ha ⟨by omega,by omega,?_⟩;refine jF kQ (by decide) kR r2 (by rw [List.length_set];exact hlen) ha k (by rw [List.length_set];exact hk) (hat es i) ?_;intro w3 r3 s3 z3 b3;refine⟨rfl,⟨?_,r3,by rw [bX];exact hlen,h.off,h.bp⟩,⟨fun j hj hp hl=>?_,fun j hj=>.inl hj,?_,b3 _ _ (Nat.le_refl _) (b2 _ _ (Nat.le_refl _) (hb1.mono hB))⟩⟩
 ·rw [s3 p h.off,s2 p h.off];exact h1.blk
 ·rw [s3 j hl,s2 j hl,hb1.block j hj]
 ·rw [z3,z2];exact hb1.size
theorem yu (B p:Nat) (l:Sl) (turn:Nat):∀(n:Nat) (i:Nat) (es:List HE) (w:World),i≤n→dl w B p l turn es→B≤w.heap.size→i<es.length→es.length≤1000000→Ea es i→
  ∀(R:Value→World→Prop) (I:List Value→World→Prop),(∀(i_2:Int) (w1:World),(ac (decide ((i_2:Int)>0))
   (Ar .i64 ((i_2:Int)-1) (fun n=>
    (2:Int)≠0∧
    ∀w2:World,w2=w1.drew→
    af (some ⟨p,0,none⟩) (fun pa=>
    ∃lA:Option Addr,∃lN:Nat,∃lC:Nat,w2.cell? (pa.add 0)=some (Value.slice lA lN lC)∧
    af lA (fun pa_3=>
    (0:Int)≤i_2∧i_2< ((lN:Nat):Int)∧
    ∃g0:Int,∃g1:Int,∃g2:Int,(w2.cell? ((pa_3.add ((i_2:Int).toNat*6)).add 0)=some (Value.int .i64 g0)∧w2.cell? (((pa_3.add ((i_2:Int).toNat*6)).add 0).add 1)=some (Value.int .i64 g1)∧w2.cell? (((pa_3.add ((i_2:Int).toNat*6)).add 0).add 2)=some (Value.int .i64 g2)∧True)∧
    af (some ⟨p,0,none⟩) (fun pa_4=>
    ∃lA_5:Option Addr,∃lN_6:Nat,∃lC_7:Nat,w2.cell? (pa_4.add 0)=some (Value.slice lA_5 lN_6 lC_7)∧
    af lA_5 (fun pa_8=>
    (0:Int)≤(IntKind.wrap .i64 (Int.tdiv n 2))∧(IntKind.wrap .i64 (Int.tdiv n 2)) < ((lN_6:Nat):Int)∧
    ∃g0_9:Int,∃g1_10:Int,∃g2_11:Int,(w2.cell? ((pa_8.add ((IntKind.wrap .i64 (Int.tdiv n 2):Int).toNat*6)).add 0)=some (Value.int .i64 g0_9)∧w2.cell? (((pa_8.add ((IntKind.wrap .i64 (Int.tdiv n 2):Int).toNat*6)).add 0).add 1)=some (Value.int .i64 g1_10)∧w2.cell? (((pa_8.add ((IntKind.wrap .i64 (Int.tdiv n 2):Int).toNat*6)).add 0).add 2)=some (Value.int .i64 g2_11)∧True)∧
    CP 292 #[Value.agg #[Value.int .i64 g0,Value.int .i64 g1,Value.int .i64 g2],Value.agg #[Value.int .i64 g0_9,Value.int .i64 g1_10,Value.int .i64 g2_11]] w2 (fun e3 w3=>
    ∃b:Bool,e3= .returned (Value.bool b)∧
    ac (!b)
     (R (Value.tuple #[]) w3)
     (CP 287 #[Value.pointer (some ⟨p,0,none⟩),Value.int .i64 i_2,Value.int .i64 (IntKind.wrap .i64 (Int.tdiv n 2))] w3 (fun e4 w4=>
      e4= .returned (Value.tuple #[])∧
      I [Value.int .i64 (IntKind.wrap .i64 (Int.tdiv n 2))] w4)))))))))
   (R (Value.tuple #[]) w1))→I [Value.int .i64 i_2] w1)→
  (∀(es':List HE) (w':World),dl w' B p l turn es'→eA es'→es'.length=es.length→(∀e,e∈es'↔e∈es)→dG B w w' p l l→R (.tuple #[]) w')→
  I [Value.int .i64 (i:Int)] w:=by
 intro n;induction n with
 |zero=>
  intro i es w hin h hB hi hl hu R I hI hR;have:i=0:=by omega
  subst this;refine hI _ _ (ac.no (by simp) (hR es w h (uz hu (.inl rfl)) rfl (fun _=>Iff.rfl) (dG.of_below p l (Below.refl _ _) hB)))
 |succ n ih=>
  intro i es w hin h hB hi hl hu R I hI hR;by_cases h0:i=0
  ·subst h0;exact hI _ _ (ac.no (by simp) (hR es w h (uz hu (.inl rfl)) rfl (fun _=>Iff.rfl) (dG.of_below p l (Below.refl _ _) hB)))
  ·have hpos:0<i:=Nat.pos_of_ne_zero h0;have hwr:IntKind.wrap .i64 (Int.tdiv ((i:Int)-1) 2)=((par i:Nat):Int):=by
    have e:Int.tdiv ((i:Int)-1) 2=((par i:Nat):Int):=by
     rw [Int.tdiv_eq_ediv_of_nonneg (by omega)];unfold par;omega
    rw [e];have:=ig hpos;exact dm (by show(-9223372036854775808:Int)≤_;omega) (by show _≤(9223372036854775807:Int);omega)
   have hpi:=ig hpos;refine hI _ _ (ac.yes (by simp;omega) (Ar.ok64 (by omega) (by omega) ⟨by decide,?_⟩));rw [hwr];intro w2 hw2;have hb2:Below w.heap.size w w2:=by subst hw2;exact aO w
   have h2:=h.on hb2;have hc:w2.cell? ((⟨p,0,none⟩:Addr).add 0)=some (.slice l.a l.n l.c):=by rw [aj p _ h2.blk];rfl
   obtain⟨a,ha,ci⟩:=h2.cells hi;obtain⟨a',ha',cp⟩:=h2.cells (show par i<es.length by omega);have hea:a'=a:=by rw [ha]at ha';exact(Option.some.inj ha').symm
   subst hea;have hlen:=h2.len;have e1:((i:Int)).toNat=i:=by omega
   have e2:((par i:Nat):Int).toNat=par i:=by omega
   rw [e1,e2];simp only [ay];have i0:=ci 0 _ rfl;have p0:=cp 0 _ rfl;rw [ay]at i0 p0;refine af.mk _ rfl ⟨l.a,l.n,l.c,by rw [←hc,ay],af.mk a' ha ⟨by omega,by omega,_,_,_,⟨i0,ci 1 _ rfl,ci 2 _ rfl,trivial⟩,af.mk _ rfl ⟨l.a,l.n,l.c,by rw [←hc,ay],af.mk a' ha ⟨by omega,by omega,_,_,_,⟨p0,cp 1 _ rfl,cp 2 _ rfl,trivial⟩,?_⟩⟩⟩⟩;refine(lB (hat es i) (hat es (par i)) w2).mono ?_;rintro e w3 ⟨rfl,hB3⟩;have h3:=h2.on hB3;have hb3:=ae hb2 hB3;refine⟨_,rfl,ac.mk (fun hlt=>?_) fun hlt=>?_⟩
   ·have hlt:¬(hat es i).lt (hat es (par i)):=by simpa using hlt
    exact hR es w3 h3 (uz hu (.inr hlt)) rfl (fun _=>Iff.rfl) (dG.of_below p l hb3 hB)
   ·have hlt:(hat es i).lt (hat es (par i)):=by simpa using hlt
    refine(iP w3 B p l turn es h3 (Nat.le_trans hB hb3.size) i (par i) hi (by omega)).mono ?_;rintro e w4 ⟨rfl,h4,m4⟩;refine⟨rfl,ih (par i) (pV es i (par i)) w4 (by omega) h4 (Nat.le_trans hB (Nat.le_trans hb3.size m4.size)) (by rw [bX];omega) (by rw [bX];exact hl) (HC hu hpos hi hlt) R I hI ?_⟩;intro es' w' h' hh' hl' hm' mv';exact hR es' w' h' hh' (by rw [hl',bX]) (fun e=>(hm' e).trans (pT hi (by omega) e)) (((dG.of_below p l hb3 hB).trans m4).trans mv')
structure jD (w w':World) (B p:Nat) (l l':Sl) (turn:Nat) (es':List HE):Prop where
 raw:dl w' B p l' turn es'
 heap:eA es'
 moves:dG B w w' p l l'
theorem xH (w:World) (B p:Nat) (l:Sl) (turn:Nat) (es:List HE) (h:dl w B p l turn es) (hB:B≤w.heap.size) (i:Nat) (hi:i<es.length) (hl:es.length≤1000000) (hu:Ea es i):
  CP 290 #[.pointer (some ⟨p,0,none⟩),.int .i64 (i:Int)] w fun e w'=>e= .returned (.tuple #[])∧∃es',jD w w' B p l l turn es'∧es'.length=es.length∧∀e,e∈es'↔e∈es:=by
 refine aR (wy (some ⟨p,0,none⟩) i w (fun v w'=>v= .tuple #[]∧∃es',jD w w' B p l l turn es'∧es'.length=es.length∧∀e,e∈es'↔e∈es) ?_) (by rintro v w' ⟨rfl,h⟩;exact⟨rfl,h⟩);intro I hI;exact yu B p l turn i i es w (Nat.le_refl _) h hB hi hl hu (fun v w'=>v= .tuple #[]∧∃es',jD w w' B p l l turn es'∧es'.length=es.length∧∀e,e∈es'↔e∈es) I hI fun es' w' h1 h2 h3 h4 h5=>⟨rfl,es',⟨h1,h2,h5⟩,h3,h4⟩
theorem zg (a b:Int) (w:World):(Instr.index 400 (.agg #[.int .i64 a,.int .i64 b]) (.int .i64 0)).run Tryz.prog w= .ok (.int .i64 a) w:=by kernel_rfl
theorem yF (a b:Int) (w:World):(Instr.index 400 (.agg #[.int .i64 a,.int .i64 b]) (.int .i64 1)).run Tryz.prog w= .ok (.int .i64 b) w:=by kernel_rfl
theorem rD (a b:Int) (y:Nat) (hy:y<2) (w:World):(Instr.index 400 (.agg #[.int .i64 a,.int .i64 b]) (.int .i64 (y:Int))).run Tryz.prog w= .ok (.int .i64 (if y=0 then a else b)) w:=by
 match y,hy with
 |0,_=>exact zg a b w
 |1,_=>exact yF a b w
theorem sD (w:World) (B p:Nat) (l:Sl) (turn:Nat) (es:List HE) (h:dl w B p l turn es) (hB:B≤w.heap.size) (hl:es.length≤1000000) (hd:mo es 0):
  CP 288 #[.pointer (some ⟨p,0,none⟩),.int .i64 0] w fun e w'=>e= .returned (.tuple #[])∧∃es',jD w w' B p l l turn es'∧es'.length=es.length∧∀e,e∈es'↔e∈es:=by
 refine aL (wn (some ⟨p,0,none⟩) 0 w) ?_;intro I hI;have atEnd:∀(i:Nat) (es1:List HE) (w1:World),es.length≤i→i≤es.length→dl w1 B p l turn es1→es1.length=es.length→(∀e,e∈es1↔e∈es)→mo es1 i→dG B w w1 p l l→I [.int .i64 (i:Int)] w1:=by
  intro i es1 w1 hn hi h1 hle hm hd1 mv;refine hI _ _ (Ar.ok64 (by omega) (by omega) (Ar.ok64 (by omega) (by omega) (Ar.ok64 (by omega) (by omega) (Ar.ok64 (by omega) (by omega) ?_))));intro I6 hI6;have hlen:=h1.len;have inner:=aX (α:=World) 2 (fun _ x=>∃_:Unit,dl x B p l turn es1∧dG B w x p l l) (fun y x=>I6 [.int .i64 (y:Int),.int .i64 (i:Int)] x) w1 ⟨(),h1,mv⟩ ?_ ?_
  ·exact inner
  ·rintro y hy ih w2 ⟨_,h2,mv2⟩;refine hI6 _ _ _ (ac.yes (by simp;omega) ?_);intro J hJ;refine⟨_,w2,rD _ _ y hy w2,?_⟩;intro w5 hw5;have hb5:Below w2.heap.size w2 w5:=by subst hw5;exact aO w2
   have h5:=h2.on hb5;refine af.mk _ rfl ⟨l.a,l.n,l.c,by rw [aj p _ h5.blk];rfl,ac.no (by simp only [decide_eq_false_iff_not];split<;>omega) ?_⟩
   exact hJ _ _ (Ar.ok64 (by omega) (by omega) (ih w5 ⟨(),h5,mv2.trans (dG.of_below p l hb5 (Nat.le_trans hB mv2.size))⟩))
  ·rintro w2 ⟨_,h2,mv2⟩;refine hI6 _ _ _ (ac.no (by simp) (ac.yes (by simp) ⟨rfl,es1,⟨h2,tr hd1 fun j j0 hj hp=>?_,mv2⟩,hle,hm⟩));unfold par at hp;omega
 have key:∀(n i:Nat) (es1:List HE) (w1:World),es.length≤i+n→i≤es.length→dl w1 B p l turn es1→es1.length=es.length→(∀e,e∈es1↔e∈es)→mo es1 i→dG B w w1 p l l→I [.int .i64 (i:Int)] w1:=by
  intro n;induction n with
  |zero=>
   intro i es1 w1 hn hi h1 hle hm hd1 mv;exact atEnd i es1 w1 (by omega) hi h1 hle hm hd1 mv
  |succ n ihn=>
   intro i es1 w1 hn hi h1 hle hm hd1 mv;by_cases hil:i<es1.length
   ·refine hI _ _ (Ar.ok64 (by omega) (by omega) (Ar.ok64 (by omega) (by omega) (Ar.ok64 (by omega) (by omega) (Ar.ok64 (by omega) (by omega) ?_))));intro I6 hI6;have inner:=aX (α:=Nat×World) 2 (fun y x=>dl x.2 B p l turn es1∧dG B w x.2 p l l∧x.1<es1.length∧(x.1=i∨(0<x.1∧par x.1=i∧(hat es1 x.1).lt (hat es1 i)))∧∀j,0<j→j<es1.length→par j=i→j<2*i+1+y→¬(hat es1 j).lt (hat es1 x.1)) (fun y x=>I6 [.int .i64 (y:Int),.int .i64 (x.1:Int)] x.2) (i,w1) ⟨h1,mv,hil,.inl rfl,fun j j0 hj hp hlt=>by unfold par at hp;omega⟩ ?_ ?_
    ·exact inner
    ·rintro y hy ih ⟨least,w2⟩ ⟨h2,mv2,hll,hor,hall⟩;change dl w2 B p l turn es1 at h2;change dG B w w2 p l l at mv2;change least<es1.length at hll;refine hI6 _ _ _ (ac.yes (by simp;omega) ?_);intro J hJ;refine⟨_,w2,rD _ _ y hy w2,?_⟩;have hk:(if y=0 then(2*(i:Int)+1)else(2*(i:Int)+2))=((2*i+1+y:Nat):Int):=by split<;>omega
     rw [hk];intro w5 hw5;have hb5:Below w2.heap.size w2 w5:=by subst hw5;exact aO w2
     have h5:=h2.on hb5;have mv5:=mv2.trans (dG.of_below p l hb5 (Nat.le_trans hB mv2.size));have hlen:=h5.len;have hc:w5.cell? ((⟨p,0,none⟩:Addr).add 0)=some (.slice l.a l.n l.c):=by rw [aj p _ h5.blk];rfl
     refine af.mk _ rfl ⟨l.a,l.n,l.c,hc,ac.mk (fun hlt=>?_) fun hlt=>?_⟩
     ·have hlt:2*i+1+y<es1.length:=by have:=of_decide_eq_true hlt;omega
      obtain⟨a,ha,ck⟩:=h5.cells hlt;obtain⟨a2,ha2,cl⟩:=h5.cells hll;have hea:a2=a:=by rw [ha]at ha2;exact(Option.some.inj ha2).symm
      subst hea;have k0:=ck 0 _ rfl;have l0:=cl 0 _ rfl;rw [ay]at k0 l0;have e1:(((2*i+1+y:Nat):Int)).toNat=2*i+1+y:=by omega
      have e2:((least:Int)).toNat=least:=by omega
      rw [e1];dsimp only;rw [e2];simp only [ay];refine af.mk _ rfl ⟨l.a,l.n,l.c,by rw [←hc,ay],af.mk a2 ha ⟨by omega,by omega,_,_,_,⟨k0,ck 1 _ rfl,ck 2 _ rfl,trivial⟩,af.mk _ rfl ⟨l.a,l.n,l.c,by rw [←hc,ay],af.mk a2 ha ⟨by omega,by omega,_,_,_,⟨l0,cl 1 _ rfl,cl 2 _ rfl,trivial⟩,?_⟩⟩⟩⟩;refine(lB (hat es1 (2*i+1+y)) (hat es1 least) w5).mono ?_;rintro e w6 ⟨rfl,hB6⟩;have h6:=h5.on hB6;have mv6:=mv5.trans (dG.of_below p l hB6 (Nat.le_trans hB mv5.size));have hpar:par (2*i+1+y)=i:=by unfold par;omega
      refine⟨_,rfl,ac.mk (fun hls=>?_) fun hls=>?_⟩
      ·have hls:=of_decide_eq_true hls;refine hJ _ _ (Ar.ok64 (by omega) (by omega) (ih (2*i+1+y,w6) ⟨h6,mv6,hlt,.inr ⟨by show 0<2*i+1+y;omega,hpar,?_⟩,?_⟩))
       ·rcases hor with e |⟨_,_,e⟩
        ·change least=i at e;show(hat es1 (2*i+1+y)).lt (hat es1 i);rw [e]at hls;exact hls
        ·show(hat es1 (2*i+1+y)).lt (hat es1 i);change(hat es1 least).lt (hat es1 i)at e;unfold HE.lt at*;omega
       ·intro j j0 hj hp hjl;show ¬(hat es1 j).lt (hat es1 (2*i+1+y));by_cases e:j=2*i+1+y
        ·rw [e];intro h;exact HE.asymm h h
        ·exact HE.lt_le hls (hall j j0 hj hp (by omega))
      ·have hls:=of_decide_eq_false hls;refine hJ _ _ (Ar.ok64 (by omega) (by omega) (ih (least,w6) ⟨h6,mv6,hll,hor,?_⟩));intro j j0 hj hp hjl;by_cases e:j=2*i+1+y
       ·rw [e];exact hls
       ·exact hall j j0 hj hp (by omega)
     ·have hlt:¬2*i+1+y<es1.length:=by have:=of_decide_eq_false hlt;omega
      refine hJ _ _ (Ar.ok64 (by omega) (by omega) (ih (least,w5) ⟨h5,mv5,hll,hor,?_⟩));intro j j0 hj hp hjl;exact hall j j0 hj hp (by omega)
    ·rintro⟨least,w2⟩ ⟨h2,mv2,hll,hor,hall⟩;change dl w2 B p l turn es1 at h2;change dG B w w2 p l l at mv2;change least<es1.length at hll;have hall':∀j,0<j→j<es1.length→par j=i→¬(hat es1 j).lt (hat es1 least):=fun j j0 hj hp=>hall j j0 hj hp (by unfold par at hp;omega);refine hI6 _ _ _ (ac.no (by simp) ?_);rcases hor with e |⟨e0,ep,el⟩
     ·change least=i at e;subst e;exact ac.yes (by simp) ⟨rfl,es1,⟨h2,tr hd1 hall',mv2⟩,hle,hm⟩
     ·change 0<least at e0;change par least=i at ep;have:=ig e0;refine ac.no (by simp;omega) ?_;refine(iP w2 B p l turn es1 h2 (Nat.le_trans hB mv2.size) i least hil hll).mono ?_;rintro e w7 ⟨rfl,h7,mv7⟩;refine⟨rfl,ihn least (pV es1 i least) w7 (by omega) (by omega) h7 (by rw [bX];exact hle) (fun e=>(pT hil hll e).trans (hm e)) (DP hd1 e0 hll ep el hall') (mv2.trans mv7)⟩
   ·exact atEnd i es1 w1 (by omega) hi h1 hle hm hd1 mv
 exact key es.length 0 es w (by omega) (by omega) h rfl (fun _=>Iff.rfl) hd (dG.of_below p l (Below.refl _ _) hB)
theorem fk (a b c:Int):∀v∈ [Value.int .i64 a,Value.int .i64 b,Value.int .i64 c],v.oneCell'=true:=fS a b c
theorem su (w:World) (B p:Nat) (l:Sl) (turn:Nat) (es:List HE) (h:dl w B p l turn es) (hB:B≤w.heap.size) (hh:eA es) (hl:es.length≤900000) (ht:turn≤1000000000) (r q f a b:Int):
  CP 285 #[.pointer (some ⟨p,0,none⟩),.int .i64 r,.int .i64 q,.agg #[.int .i64 f,.int .i64 a,.int .i64 b]] w fun e w'=>e= .returned (.tuple #[])∧∃l' es',jD w w' B p l l' (turn+1) es'∧es'.length=es.length+1∧∀e,e∈es'↔e∈es∨e=⟨r,q,turn,f,a,b⟩:=by
 refine aL (vp (some ⟨p,0,none⟩) r q f a b w) ?_;intro w1 hw1;have hb1:Below w.heap.size w w1:=by subst hw1;exact ag _ _
 refine ac.no rfl ?_;intro w2 hw2;have hb2:Below w.heap.size w w2:=by subst hw2;exact hb1.drew
 have hz2:w2.heap.size=w.heap.size+1:=by subst hw2;subst hw1;exact av _ _
 have h2:=h.on hb2;have hloc:w2.heap[w.heap.size]? =some (.cells #[Value.int .i64 f,Value.int .i64 a,Value.int .i64 b] 378):=by subst hw2;subst hw1;exact ak _ _
 have hlen:=h2.len;have hc:w2.cell? ((⟨p,0,none⟩:Addr).add 0)=some (.slice l.a l.n l.c):=by rw [aj p _ h2.blk];rfl
 obtain⟨a',c',w4,hr4,hu4,hf4,h5⟩:=fe (P:=Tryz.prog) (s:=l) 0 h2.blk (show 0<2 by decide) h2.row h2.off h2.bp Cz Do Et rfl (by decide) (jd ⟨r,q,turn,f,a,b⟩) rfl (kR _) (by omega) (by omega);refine af.mk _ rfl ⟨l.a,l.n,l.c,hc,af.mk _ rfl ⟨(turn:Int),by rw [aj p _ h2.blk];rfl,_,_,_,⟨by have:=aj _ _ hloc 0;rw [ay]at this;exact this,aj _ _ hloc 1,aj _ _ hloc 2,trivial⟩,?_⟩⟩;rintro w3 rfl;refine⟨⟨by rw [(ag w2 _).cell (by rw [ax];exact h2.lt)];exact hc,trivial⟩,a',l.n+1,c',w4,hr4,af.mk _ rfl ⟨rfl,hu4,hf4,?_⟩⟩;intro w5 hw5;obtain⟨hblk5,hrow5,hoff5,hB5,hkeep5,hsz5,hnew5⟩:=h5 w5 hw5;refine af.mk _ rfl ⟨(turn:Int),by rw [aj p _ hblk5];rfl,Ar.ok64 (by omega) (by omega) (af.mk _ rfl ⟨rfl,⟨_,by rw [aj p _ hblk5];rfl⟩,be hblk5,?_⟩)⟩;intro w6 hw6;have hblk6:w6.heap[p]? =some (.cells #[.slice a' (l.n+1) c',.int .i64 ((turn+1:Nat):Int)] FZ (0,0)):=by subst hw6;exact bL hblk5 _
 have hs6:∀k,k≠p→w6.heap[k]? =w5.heap[k]? :=fun k hk=>by subst hw6;exact aq (by rw [ax];exact hk)
 have hz6:w6.heap.size=w5.heap.size:=by subst hw6;exact aU _ _ _
 have hB6:Below B w w6:=by subst hw6;exact bJ (hB5 w (hb2.mono hB)) h2.bp _
 have hflat:(es++ [(⟨r,q,turn,f,a,b⟩:HE)]).flatMap jd=es.flatMap jd++jd ⟨r,q,turn,f,a,b⟩:=by simp
 have hraw:dl w6 B p ⟨a',l.n+1,c'⟩ (turn+1) (es++ [(⟨r,q,turn,f,a,b⟩:HE)]):=⟨hblk6,by rw [hflat];exact aN hrow5 fun k hk=>hs6 k fun e=>hoff5 (by rw [hk,e]),by simp;omega,hoff5,h2.bp⟩;have hnew:∀k,(Value.slice a' (l.n+1) c').ownBlock=some k→l.v.ownBlock=some k∨w.heap.size≤k:=by
  intro k hk;rcases hnew5 k hk with e |e
  ·exact .inl e
  ·exact .inr (by omega)
 have mv6:dG B w w6 p l ⟨a',l.n+1,c'⟩:=⟨fun k hk hp hlb=>by rw [hs6 k hp,hkeep5 k (by omega) hp hlb,hb2.block k hk],hnew,by omega,hB6⟩;refine af.mk _ rfl ⟨a',l.n+1,c',by rw [aj p _ hblk6];rfl,Ar.ok64 (by omega) (by omega) ?_⟩;have hln:(((l.n+1:Nat):Int)-1)=((es.length:Nat):Int):=by omega
 rw [hln];refine(xH w6 B p ⟨a',l.n+1,c'⟩ (turn+1) _ hraw (by omega) es.length (by simp) (by simp;omega) (Hv hh _)).mono ?_;rintro e w7 ⟨rfl,es',⟨h7,hh7,mv7⟩,hl7,hm7⟩;exact⟨rfl,rfl,_,es',⟨h7,hh7,mv6.trans mv7⟩,by rw [hl7];simp,fun e=>by rw [hm7 e];simp⟩
theorem D4 (a:Option Addr) (n c n' c' k:Nat):(Value.slice a n c).ownBlock=some k↔(Value.slice a n' c').ownBlock=some k:=by cases a<;>simp [Value.ownBlock]
def DC (es:List HE):Value:=match es with
 | []=>.tuple #[.agg #[.int .i64 0,.int .i64 0,.int .i64 0],.int .i64 0,.int .i64 0,.bool false]
 |x::_=>.tuple #[.agg #[.int .i64 x.f,.int .i64 x.a,.int .i64 x.b],.int .i64 x.r,.int .i64 x.p,.bool true]
theorem D3 {w:World} {b:Nat} {x y z:Value} {e:TypeId} {fz:Nat×Nat} (h:w.heap[b]? =some (.cells #[x,y,z] e fz)):w.cell? ⟨b,0,none⟩=some x∧w.cell? ((⟨b,0,none⟩:Addr).add 1)=some y∧w.cell? ((⟨b,0,none⟩:Addr).add 2)=some z∧True:=
 ⟨by have:=aj _ _ h 0;rw [ay]at this;exact this,aj _ _ h 1,aj _ _ h 2,trivial⟩
theorem sK (w:World) (B p:Nat) (l:Sl) (turn:Nat) (es:List HE) (h:dl w B p l turn es):
  CP 286 #[.pointer (some ⟨p,0,none⟩)] w fun e w'=>e= .returned (DC es)∧Below w.heap.size w w':=by
 refine aL (wg (some ⟨p,0,none⟩) w) ?_;intro w1 hw1;have hb1:Below w.heap.size w w1:=by subst hw1;exact ag _ _
 have hz1:w1.heap.size=w.heap.size+1:=by subst hw1;exact av _ _
 have hl1:w1.heap[w.heap.size]? =some (.cells #[Value.int .i64 0,Value.int .i64 0,Value.int .i64 0] 378):=by subst hw1;exact ak _ _
 have h1:=h.on hb1;refine(uN w1 B p l turn es h1).mono ?_;rintro e w2 ⟨rfl,hw⟩;subst hw;refine⟨_,rfl,ac.mk (fun h0=>?_) fun h0=>?_⟩
 ·have h0:es= []:=List.eq_nil_of_length_eq_zero (by have:(es.length:Int)=0:=by simpa using h0
                                                    omega)
  subst h0;intro w3 hw3;have hb3:Below w2.heap.size w2 w3:=by subst hw3;exact ag _ _
  have hl3:w3.heap[w2.heap.size]? =some (.cells #[Value.int .i64 0,Value.int .i64 0,Value.int .i64 0] 378):=by subst hw3;exact ak _ _
  refine⟨_,_,_,D3 hl3,?_⟩;refine aS (ah hb3 hl1) [.int .i64 0,.int .i64 0,.int .i64 0] rfl (fk _ _ _) ?_;intro w4 h4 _ _ hB4;exact⟨_,_,_,D3 h4,rfl,hB4 _ _ (Nat.le_refl _) (ae hb1 hb3)⟩
 ·cases es with
  |nil=>simp at h0
  |cons x t=>
   obtain⟨a,ha,hc⟩:=h1.cells (i:=0) (by simp);have hlen:=h1.len;have c0:=hc 0 _ rfl;simp only [Nat.zero_mul,ay]at c0;have hh:hat (x::t) 0=x:=rfl;rw [hh]at hc c0;simp only [Nat.zero_mul,ay]at hc;refine af.mk _ rfl ⟨l.a,l.n,l.c,by rw [aj p _ h1.blk];rfl,af.mk a ha ⟨Int.le_refl _,by rw [hlen];simp,?_⟩⟩;simp only [Int.toNat_zero,Nat.zero_mul,ay];refine⟨_,_,_,_,_,_,⟨c0,hc 1 _ rfl,hc 2 _ rfl,hc 3 _ rfl,hc 4 _ rfl,hc 5 _ rfl,trivial⟩,?_⟩;intro w5 hw5;refine aT [.int .i64 0,.int .i64 0,.int .i64 0,.int .i64 0,.int .i64 0,.int .i64 0] (jd x) rfl (kR x) w5 hw5 ?_;intro w6 h6 hz6 hB6 w7 hw7;have h7:w7.heap[w2.heap.size]? =some (.cells (jd x).toArray nQ (0,0)):=by subst hw7;exact h6
   have hb7:Below w2.heap.size w2 w7:=by subst hw7;exact hB6.drew
   refine⟨_,_,_,⟨aj _ _ h7 3,by rw [Addr.add_add];exact aj _ _ h7 4,by rw [Addr.add_add];exact aj _ _ h7 5,trivial⟩,_,by have:=aj _ _ h7 0;rw [ay]at this;exact this,_,aj _ _ h7 1,?_⟩;refine aS (ah hb7 hl1) [.int .i64 x.f,.int .i64 x.a,.int .i64 x.b] rfl (fk _ _ _) ?_;intro w8 h8 hs8 _ hB8;have h8':w8.heap[w2.heap.size]? =some (.cells (jd x).toArray nQ (0,0)):=by rw [hs8 _ (by omega)];exact h7
   exact⟨⟨aj _ _ h8' 1,trivial⟩,⟨by have:=aj _ _ h8' 0;rw [ay]at this;exact this,trivial⟩,_,_,_,D3 h8,rfl,hB8 _ _ (Nat.le_refl _) (ae hb1 hb7)⟩
theorem ur (w:World) (B p:Nat) (l:Sl) (turn:Nat) (es:List HE) (h:dl w B p l turn es) (hB:B≤w.heap.size) (hh:eA es) (hl:es.length≤900000):
  CP 272 #[.pointer (some ⟨p,0,none⟩)] w fun e w'=>e= .returned (DC es)∧∃l' es',jD w w' B p l l' turn es'∧es'.length=es.length-1∧(∀e∈es,e=hat es 0∨e∈es')∧∀e∈es',e∈es:=by
 refine aR (zJ (some ⟨p,0,none⟩) w (fun v w'=>v=DC es∧∃l' es',jD w w' B p l l' turn es'∧es'.length=es.length-1∧(∀e∈es,e=hat es 0∨e∈es')∧∀e∈es',e∈es) ?_) (by rintro v w' ⟨rfl,h⟩;exact⟨rfl,h⟩);intro w1 hw1;have hb1:Below w.heap.size w w1:=by subst hw1;exact ag _ _
 have hz1:w1.heap.size=w.heap.size+1:=by subst hw1;exact av _ _
 have hl1:w1.heap[w.heap.size]? =some (.cells #[Value.int .i64 0,Value.int .i64 0,Value.int .i64 0] 378):=by subst hw1;exact ak _ _
 have h1:=h.on hb1;refine(sK w1 B p l turn es h1).mono ?_;rintro e w2 ⟨rfl,hb2⟩;have h2:=h1.on hb2;have hl2:=ah hb2 hl1;have hb12:=ae hb1 hb2;have rest:∀(f a b r q:Int) (ok:Bool),DC es= .tuple #[.agg #[.int .i64 f,.int .i64 a,.int .i64 b],.int .i64 r,.int .i64 q,.bool ok]→(ok=true↔es≠ [])→∀w3:World,w3=w2.alloc (.cells #[Value.int .i64 0,Value.int .i64 0,Value.int .i64 0] 378)→
   aB w3 (nb w2) (fun w4=>
   ∀J1:List Value→World→Prop,(∀w5:World,(∃g0:Int,∃g1:Int,∃g2:Int,(w5.cell? (nb w2)=some (Value.int .i64 g0)∧w5.cell? ((nb w2).add 1)=some (Value.int .i64 g1)∧w5.cell? ((nb w2).add 2)=some (Value.int .i64 g2)∧True)∧
    aB w5 (nb w) (fun w6=>
    ∃res0:Int,∃res1:Int,∃res2:Int,(w6.cell? (nb w)=some (Value.int .i64 res0)∧w6.cell? ((nb w).add 1)=some (Value.int .i64 res1)∧w6.cell? ((nb w).add 2)=some (Value.int .i64 res2)∧True)∧
    (Value.tuple #[Value.agg #[Value.int .i64 res0,Value.int .i64 res1,Value.int .i64 res2],Value.int .i64 r,Value.int .i64 q,Value.bool ok]=DC es∧∃l' es',jD w w6 B p l l' turn es'∧es'.length=es.length-1∧(∀e∈es,e=hat es 0∨e∈es')∧∀e∈es',e∈es)) [Value.int .i64 g0,Value.int .i64 g1,Value.int .i64 g2] 0)→J1 [] w5)→
   ac ok
    (af (some ⟨p,0,none⟩) (fun pa=>
     ∃lA:Option Addr,∃lN:Nat,∃lC:Nat,w4.cell? (pa.add 0)=some (Value.slice lA lN lC)∧
     Ar .i64 ((((lN:Nat):Int):Int)-1) (fun n=>
     CP 287 #[Value.pointer (some ⟨p,0,none⟩),Value.int .i64 0,Value.int .i64 n] w4 (fun e7 w7=>
     e7= .returned (Value.tuple #[])∧
     af (some ⟨p,0,none⟩) (fun pa_2=>
     ∃lA_3:Option Addr,∃lN_4:Nat,∃lC_5:Nat,w7.cell? (pa_2.add 0)=some (Value.slice lA_3 lN_4 lC_5)∧
     (0:Int)≤((0:Nat):Int)∧((0:Nat):Int)≤(n:Int)∧(n:Int)≤((lC_5:Nat):Int)∧True∧True∧
     af (some ⟨p,0,none⟩) (fun pa_6=>
     (Value.slice (bh lA_3 ((0:Nat):Int).toNat ((lC_5:Nat):Int).toNat 6) ((n:Int).toNat- ((0:Nat):Int).toNat) (((lC_5:Nat):Int).toNat- ((0:Nat):Int).toNat)).oneCell'=true∧(∃u,w7.cell? (pa_6.add 0)=some u)∧w7.frozen? (pa_6.add 0)=false∧
     ∀w8:World,w8=(w7.setCell (pa_6.add 0) (Value.slice (bh lA_3 ((0:Nat):Int).toNat ((lC_5:Nat):Int).toNat 6) ((n:Int).toNat- ((0:Nat):Int).toNat) (((lC_5:Nat):Int).toNat- ((0:Nat):Int).toNat)))→
     CP 288 #[Value.pointer (some ⟨p,0,none⟩),Value.int .i64 0] w8 (fun e9 w9=>
     e9= .returned (Value.tuple #[])∧
     J1 [] w9)))))))
    (J1 [] w4)) [Value.int .i64 f,Value.int .i64 a,Value.int .i64 b] 0:=by
  intro f a b r q ok htop hok w3 hw3;refine aT [.int .i64 0,.int .i64 0,.int .i64 0] [.int .i64 f,.int .i64 a,.int .i64 b] rfl (fk _ _ _) w3 hw3 ?_;intro w4 hx4 hz4 hB4;have h4:=h2.on hB4;have hl4:=ah hB4 hl2;have hb14:=ae hb12 hB4;have hpw:p<w.heap.size:=h.lt;have hlw:∀k,l.v.ownBlock=some k→k<w.heap.size:=fun k hk=>(b_ h.row k hk).2;intro J hJ;have fin:∀(w5:World) (l':Sl) (es':List HE),dl w5 B p l' turn es'→eA es'→dG B w4 w5 p l l'→(∀k,l'.v.ownBlock=some k→l.v.ownBlock=some k)→es'.length=es.length-1→(∀e∈es,e=hat es 0∨e∈es')→(∀e∈es',e∈es)→J [] w5:=by
   intro w5 l' es' h5 hh5 mv5 hown5 hlen5 hm1 hm2;have hz14:=hb14.size;have hz12:=hb12.size;have hx5:w5.heap[w2.heap.size]? =some (.cells #[Value.int .i64 f,Value.int .i64 a,Value.int .i64 b] 378):=by
    rw [mv5.keep _ (by omega) (by omega) fun e=>by have:=hlw _ e;omega];exact hx4
   have hr5:w5.heap[w.heap.size]? =some (.cells #[Value.int .i64 0,Value.int .i64 0,Value.int .i64 0] 378):=by
    rw [mv5.keep _ (by have:=hb2.size;omega) (by omega) fun e=>by have:=hlw _ e;omega];exact hl4
   refine hJ _ ⟨_,_,_,D3 hx5,?_⟩;refine aS hr5 [.int .i64 f,.int .i64 a,.int .i64 b] rfl (fk _ _ _) ?_;intro w6 hr6 hs6 hz6 hB6;refine⟨_,_,_,D3 hr6,htop.symm,l',es',⟨⟨by rw [hs6 p (by omega)];exact h5.blk,aN h5.row fun k hk=>hs6 k fun e=>by have:=hlw _ (hown5 _ hk);omega,h5.len,h5.off,h5.bp⟩,hh5,⟨fun k hk hp hlb=>?_,fun k hk=>.inl (hown5 k hk),?_,?_⟩⟩,hlen5,hm1,hm2⟩
   ·rw [hs6 k (by omega),mv5.keep k (by omega) hp hlb,hb14.block k hk]
   ·have:=mv5.size;omega
   ·exact hB6 _ _ hB ((hb14.mono hB).trans mv5.below)
  refine ac.mk (fun h0=>?_) fun h0=>?_
  ·have hne:es≠ []:=hok.1 h0;obtain⟨n,hn⟩:∃n,es.length=n+1:=⟨es.length-1,by have:=List.length_pos_iff.2 hne;omega⟩;have hlen:=h4.len;refine af.mk _ rfl ⟨l.a,l.n,l.c,by rw [aj p _ h4.blk];rfl,Ar.ok64 (by omega) (by omega) ?_⟩;have e1:(((l.n:Nat):Int)-1)=((n:Nat):Int):=by omega
   rw [e1];have hz14:=hb14.size;refine(iP w4 B p l turn es h4 (by omega) 0 n (by omega) (by omega)).mono ?_;rintro e w7 ⟨rfl,h7,mv7⟩;obtain⟨a0,c0,hv,hle⟩:=kc h7.row;have hlc:l.n≤l.c:=by
    rcases h7.row.2 with⟨hv,_⟩ |⟨g,cap,cur,hv,_,_,hc,_⟩
    ·obtain⟨la,ln,lc⟩:=l;cases hv;exact Nat.le_refl _
    ·obtain⟨la,ln,lc⟩:=l;cases hv;exact hc
   refine⟨rfl,af.mk _ rfl ⟨l.a,l.n,l.c,by rw [aj p _ h7.blk];rfl,by omega,by omega,by omega,trivial,trivial,af.mk _ rfl ?_⟩⟩;have hsl:bh l.a ((0:Nat):Int).toNat ((l.c:Nat):Int).toNat 6=l.a:=by
    unfold bh;split
    ·rfl
    ·cases l.a with
     |none=>rfl
     |some a=>simp [ay]
   have e3:((n:Nat):Int).toNat- ((0:Nat):Int).toNat=n:=by omega
   have e4:((l.c:Nat):Int).toNat- ((0:Nat):Int).toNat=l.c:=by omega
   rw [hsl,e3,e4];refine⟨rfl,⟨_,by rw [aj p _ h7.blk];rfl⟩,be h7.blk,?_⟩;intro w8 hw8;have hblk8:w8.heap[p]? =some (.cells #[.slice l.a n l.c,.int .i64 (turn:Int)] FZ (0,0)):=by subst hw8;exact bL h7.blk _
   have hown8:∀k,(Value.slice l.a n l.c).ownBlock=some k↔l.v.ownBlock=some k:=by
    intro k;exact D4 _ _ _ _ _ k
   have hrow8:w8.ownsRow B nQ 6 (Value.slice l.a n l.c) n (((pV es 0 n).take n).flatMap jd):=by
    have:=Er kQ h7.row (by rw [bX];exact hlen) n (by rw [bX];omega);subst hw8;exact bB this _ (by rw [ax];exact fun e=>h7.off ((hown8 _).1 e))
   have hraw8:dl w8 B p ⟨l.a,n,l.c⟩ turn ((pV es 0 n).take n):=⟨hblk8,hrow8,by rw [List.length_take,bX];show n=_;omega,fun e=>h7.off ((hown8 _).1 e),h7.bp⟩;have mv8:dG B w4 w8 p l ⟨l.a,n,l.c⟩:=by
    refine⟨fun k hk hp hlb=>?_,fun k hk=>.inl ((hown8 k).1 hk),?_,?_⟩
    ·rw [←mv7.keep k hk hp hlb];subst hw8;exact aq (by rw [ax];exact hp)
    ·subst hw8;rw [aU];exact mv7.size
    ·subst hw8;exact bJ mv7.below h7.bp _
   refine(sD w8 B p ⟨l.a,n,l.c⟩ turn _ hraw8 (by have:=mv8.size;omega) (by rw [List.length_take,bX];omega) (EW hh n hn)).mono ?_;rintro e w9 ⟨rfl,es',⟨h9,hh9,mv9⟩,hl9,hm9⟩;obtain⟨p1,p2⟩:=H6 n hn;exact⟨rfl,fin w9 ⟨l.a,n,l.c⟩ es' h9 hh9 (mv8.trans mv9) (fun k hk=>(hown8 k).1 hk) (by rw [hl9,List.length_take,bX];omega) (fun e he=>(p1 e he).imp id fun h=>(hm9 e).2 h) fun e he=>p2 e ((hm9 e).1 he)⟩
  ·have hnil:es= []:=by
    rcases Classical.em (es= [])with h |h
    ·exact h
    ·rw [hok.2 h]at h0;cases h0
   refine fin w4 l es h4 hh (dG.of_below p l (Below.refl _ _) (Nat.le_trans hB hb14.size)) (fun _ h=>h) (by rw [hnil];rfl) (fun e he=>.inr he) fun e he=>he
 cases hes:es with
 |nil=>
  subst hes;exact⟨_,_,_,_,_,_,rfl,rest 0 0 0 0 0 false rfl (by simp)⟩
 |cons x t=>
  subst hes;exact⟨_,_,_,_,_,_,rfl,rest x.f x.a x.b x.r x.p true rfl (by simp)⟩
end Go.Proofs.YtdlcfegnaphclaaGreat.Eng
