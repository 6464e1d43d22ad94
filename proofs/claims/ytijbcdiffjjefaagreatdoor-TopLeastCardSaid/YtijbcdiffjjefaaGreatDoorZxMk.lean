/- Special tokens: the set, walked by the engine. -/
import Derived.Test.YtijbcdiffjjefaaGreatDoorZxLib
set_option linter.unusedVariables false
set_option linter.unusedSimpArgs false
set_option maxRecDepth 100000
namespace Go.Proofs.YtijbcdiffjjefaaGreatDoor.Eng
open Go Go.RowKit
theorem ie {α κ:Type} [DecidableEq κ] [BEq κ] [LawfulBEq κ] (f:α→κ) (m:κ):∀(l:List α) (k:Nat),fh m ((l.zipIdx k).map fun x=>(f x.1,Value.int .i64 (x.2:Int)))=((l.map f).idxOf? m).map fun i=>Value.int .i64 ((k+i:Nat):Int)
 | [],k=>rfl
 |e::l,k=>by
  simp only [List.zipIdx_cons,List.map_cons,fh,List.idxOf?_cons];by_cases h:m=f e
  ·simp [h]
  ·rw [if_neg h,ie f m l (k+1)];have:(f e==m)=false:=by simp;exact fun e'=>h e'.symm
   rw [this];simp only [Bool.false_eq_true,if_false,Option.map_map];congr 1;funext i;simp;omega
def yE (xs:List (Int×Bs)):List (Int×Value):=xs.zipIdx.map fun x=>(x.1.1,.int .i64 (x.2:Int))
def vZ (xs:List (Int×Bs)):List (Bs×Value):=xs.zipIdx.map fun x=>(x.1.2,.int .i64 (x.2:Int))
theorem FP (xs:List (Int×Bs)) (x:Int×Bs):yE (xs++ [x])=yE xs++ [(x.1,.int .i64 (xs.length:Int))]:=by simp [yE,List.zipIdx_append]
theorem FD (xs:List (Int×Bs)) (x:Int×Bs):vZ (xs++ [x])=vZ xs++ [(x.2,.int .i64 (xs.length:Int))]:=by simp [vZ,List.zipIdx_append]
theorem oV (xs:List (Int×Bs)) (k:Int):fh k (yE xs)=((xs.map (·.1)).idxOf? k).map fun i:Nat=>Value.int .i64 (i:Int):=by
 have:=ie (fun x:Int×Bs=>x.1) k xs 0;simpa [yE]using this
theorem oY (xs:List (Int×Bs)) (k:Bs):fh k (vZ xs)=((xs.map (·.2)).idxOf? k).map fun i:Nat=>Value.int .i64 (i:Int):=by
 have:=ie (fun x:Int×Bs=>x.2) k xs 0;simpa [vZ]using this
theorem nZ {κ:Type} [BEq κ] [LawfulBEq κ] {l:List κ} {k:κ}:(l.idxOf? k).isSome=true↔k∈l:=by
 cases h:l.idxOf? k with
 |none=>
  have:=List.idxOf?_eq_none_iff.1 h;simp [this]
 |some i=>
  have:k∈l:=by
   rcases Classical.em (k∈l)with h' |h'
   ·exact h'
   ·rw [List.idxOf?_eq_none_iff.2 h']at h;cases h
  simp [this]
abbrev so:TypeId:=250
abbrev Io:TypeId:=108
theorem ou:Tryz.prog.underlying Io=some (.map bh bh):=by kernel_rfl
def eQ (xs:List (Int×Bs)):Int:=xs.foldl (fun n x=>if(x.2.length:Int)>n then(x.2.length:Int)else n) 0
def gB (xs:List (Int×Bs)) (i:Nat):Bool:=xs.any fun x=>x.2.head?.map (·.toNat)==some i
structure AH (c:Array Value) (l:Sl) (mi mt:Nat) (xs:List (Int×Bs)):Prop where
 size:c.size=260
 c0:c[0]? =some l.v
 c1:c[1]? =some (.map (some mi))
 c2:c[2]? =some (.map (some mt))
 most:c[259]? =some (.int .i64 (eQ xs))
 first:∀i,i<256→c[3+i]? =some (.bool (gB xs i))
structure sQ (w:World) (B p:Nat) (l:Sl) (mi mt:Nat) (c:Array Value) (xs:List (Int×Bs)):Prop where
 blk:w.heap[p]? =some (.cells c so (0,0))
 cells:AH c l mi mt xs
 row:w.ownsRow B nr 2 l.v l.n (xs.flatMap aD)
 len:l.n=xs.length
 off:l.v.ownBlock≠some p
 ids:br dJ w mi (yE xs)
 texts:br dp w mt (vZ xs)
 bp:B≤p
 bi:B≤mi
 bt:B≤mt
 ne:mi≠mt
theorem sQ.on {w w':World} {B p:Nat} {l:Sl} {mi mt:Nat} {c:Array Value} {xs:List (Int×Bs)} (h:sQ w B p l mi mt c xs) (hb:Below w.heap.size w w'):sQ w' B p l mi mt c xs:=
 ⟨aj hb h.blk,h.cells,aF h.row hb,h.len,h.off,h.ids.on hb,h.texts.on hb,h.bp,h.bi,h.bt,h.ne⟩
theorem aO (w:World):Below w.heap.size w w.drew:=(Below.refl _ _).drew
def qC (w:World) (B p:Nat) (xs:List (Int×Bs)):Prop:=∃l mi mt c,sQ w B p l mi mt c xs
def nw (w:World) (p:Nat) (xs:List (Int×Bs)):Prop:=∃(l:Sl) (mi mt:Nat) (c:Array Value),w.heap[p]? =some (.cells c so (0,0))∧AH c l mi mt xs∧l.n=xs.length∧Rw aD 2 w l.a xs∧br dJ w mi (yE xs)∧br dp w mt (vZ xs)
theorem nw.on {w w':World} {p:Nat} {xs:List (Int×Bs)} (h:nw w p xs) (hb:Below w.heap.size w w'):nw w' p xs:=by
 obtain⟨l,mi,mt,c,h1,h2,h3,h4,h5,h6⟩:=h;exact⟨l,mi,mt,c,aj hb h1,h2,h3,h4.on hb,h5.on hb,h6.on hb⟩
theorem qC.on {w w':World} {B p:Nat} {xs:List (Int×Bs)} (h:qC w B p xs) (hb:Below w.heap.size w w'):qC w' B p xs:=by
 obtain⟨l,mi,mt,c,h⟩:=h;exact⟨l,mi,mt,c,aj hb h.blk,h.cells,aF h.row hb,h.len,h.off,h.ids.on hb,h.texts.on hb,h.bp,h.bi,h.bt,h.ne⟩
theorem rd (x:Int×Bs):(aD x).length=2:=rfl
theorem qC.is {w:World} {B p:Nat} {xs:List (Int×Bs)} (h:qC w B p xs):nw w p xs:=by
 obtain⟨l,mi,mt,c,h⟩:=h;exact⟨l,mi,mt,c,h.blk,h.cells,h.len,(Rw.of_own h.row rd (by decide)).1,h.ids,h.texts⟩
theorem nw.lt {w:World} {p:Nat} {xs:List (Int×Bs)} (h:nw w p xs):p<w.heap.size:=by
 obtain⟨l,mi,mt,c,h1,_⟩:=h;exact(Array.getElem?_eq_some_iff.1 h1).1
theorem mK (i:Nat) (hi:i≤1000000) (w:World):CP 160 #[.int .i64 (i:Int)] w fun e w'=>e= .returned (.int .i64 (-1- (i:Int)))∧w'=w:=by
 refine aN (Ae (i:Int) w) ?_;exact Ar.ok64 (by omega) (by omega) ⟨rfl,rfl⟩
theorem wI (w:World) (p:Nat) (xs:List (Int×Bs)) (h:nw w p xs):CP 226 #[.pointer (some ⟨p,0,none⟩)] w fun e w'=>e= .returned (.int .i64 xs.length)∧w'=w:=by
 obtain⟨l,mi,mt,c,h1,h2,h3,_⟩:=h;refine aN (yD (some ⟨p,0,none⟩) w) ?_;exact ac.no rfl (af.mk _ rfl ⟨l.a,l.n,l.c,by rw [ai p w h1];exact h2.c0,by rw [h3],rfl⟩)
def jk (xs:List (Int×Bs)) (id:Int):Option Nat:=(xs.map (·.1)).idxOf? id
theorem jm (w:World) (p:Nat) (xs:List (Int×Bs)) (h:nw w p xs) (hx:xs.length≤1000000) (id:Int):CP 106 #[.pointer (some ⟨p,0,none⟩),.int .i64 id] w fun e w'=>e= .returned (.tuple #[.int .i64 (((jk xs id).map fun i:Nat=> -1- (i:Int)).getD 0),.bool (jk xs id).isSome])∧w'=w:=by
 obtain⟨l,mi,mt,c,h1,h2,h3,h4,h5,h6⟩:=h;refine aN (zy (some ⟨p,0,none⟩) id w) ?_;refine ac.no rfl (af.mk _ rfl ⟨some mi,by rw [ai p w h1];exact h2.c1,?_⟩);have hl:=eS nI ou en h5 id;rw [oV]at hl;unfold jk;cases hx':(xs.map (·.1)).idxOf? id with
 |none=>
  rw [hx']at hl;exact⟨0,false,w,hl,ac.yes rfl ⟨rfl,rfl⟩⟩
 |some i=>
  rw [hx']at hl;have hi:i<xs.length:=by
   have:=(List.idxOf?_eq_some_iff.1 hx').1;simpa using this
  refine⟨_,true,w,hl,ac.no rfl ?_⟩;refine(mK i (by omega) w).mono ?_;rintro e w2 ⟨rfl,hw⟩;subst hw;exact⟨_,rfl,rfl,rfl⟩
theorem dO (a:Int) (b:ByteArray):∀v∈ [Value.int .i64 a,Value.string b],v.oneCell'=true:=by
 intro v hv;simp only [List.mem_cons,List.not_mem_nil,or_false]at hv;rcases hv with rfl |rfl<;>rfl
theorem mC (w w1:World) (x:Int×Bs) (hw1:w1=w.alloc (.cells #[.int .i64 x.1,.string (str x.2)] nr)) (j:Nat):w1.cell? ((nb w).add j)=(#[Value.int .i64 x.1,Value.string (str x.2)]:Array Value)[j]? :=by
 subst hw1;rw [aB,Nat.zero_add,aV]
theorem sA (x:Int×Bs) (w:World):CP 242 #[.agg #[.int .i64 x.1,.string (str x.2)]] w fun e w'=>e= .returned (.bool (bc x))∧Below w.heap.size w w':=by
 refine aJ (yM x.1 (str x.2) w (fun v w'=>v= .bool (bc x)∧Below w.heap.size w w') ?_) (by rintro v w' ⟨rfl,h⟩;exact⟨rfl,h⟩);intro w1 hw1;have hb:Below w.heap.size w w1:=by subst hw1;exact ah _ _
 have hc:=mC w w1 x hw1;have off:bc x=false→(Value.bool false= .bool (bc x)∧Below w.heap.size w w1):=fun h=>⟨by rw [h],hb⟩;refine⟨x.1,hc 0,ac.mk (fun h1=>?_) fun h1=>off ?_⟩
 ·have h1:=of_decide_eq_true h1;refine⟨x.1,hc 0,ac.mk (fun h2=>?_) fun h2=>off ?_⟩
  ·have h2:=of_decide_eq_true h2;refine⟨_,hc 1,ac.mk (fun h3=>?_) fun h3=>off ?_⟩
   ·refine⟨_,hc 1,?_,hb⟩;congr 1;rw [aR];have:x.2≠ []:=by
     intro e;rw [e]at h3;simp at h3
    have:0<x.2.length:=List.length_pos_iff.2 this;unfold bc;exact decide_eq_decide.2 (by omega)
   ·have:x.2= []:=by
     rw [cu]at h3;simpa using h3
    unfold bc;exact decide_eq_false (by rw [this];simp)
  ·have h2:=of_decide_eq_false h2;unfold bc;exact decide_eq_false (by omega)
 ·have h1:=of_decide_eq_false h1;unfold bc;exact decide_eq_false (by omega)
def cE (xs:List (Int×Bs)) (x:Int×Bs):Int:=if bc x=false then 1 else if 32≤xs.length then 3 else if x.1∈xs.map (·.1)∨x.2∈xs.map (·.2)then 10 else 0
def rV (w:World) (B p:Nat) (xs:List (Int×Bs)) (x:Int×Bs) (v:Value) (w':World):Prop:=Below B w w'∧v= .int .i64 (cE xs x)∧(cE xs x=0→qC w' B p (xs++ [x]))
theorem AG (xs:List (Int×Bs)) (x:Int×Bs):eQ (xs++ [x])=if(x.2.length:Int)>eQ xs then(x.2.length:Int)else eQ xs:=by simp [eQ]
theorem wg (w:World) (B p:Nat) (xs:List (Int×Bs)) (h:qC w B p xs) (hB:B≤w.heap.size) (x:Int×Bs):
  CP 190 #[.pointer (some ⟨p,0,none⟩),.agg #[.int .i64 x.1,.string (str x.2)]] w fun e w'=>∃v,e= .returned v∧rV w B p xs x v w':=by
 refine yu (some ⟨p,0,none⟩) x.1 (str x.2) w (rV w B p xs x) ?_;intro w1 hw1;have hb1:Below w.heap.size w w1:=by subst hw1;exact ah _ _
 intro w2 hw2;have hb2:Below w.heap.size w w2:=by subst hw2;exact hb1.drew
 have hh2:w2.heap=w1.heap:=by subst hw2;rfl
 have hsz2:w2.heap.size=w.heap.size+1:=by rw [hh2];subst hw1;rw [aA]
 have hc2:∀j,w2.cell? ((nb w).add j)=(#[Value.int .i64 x.1,Value.string (str x.2)]:Array Value)[j]? :=by
  intro j;rw [←mC w w1 x hw1 j];subst hw2;rfl
 obtain⟨l,mi,mt,c,hM⟩:=h.on hb2;have hcell:∀j,w2.cell? ((⟨p,0,none⟩:Addr).add j)=c[j]? :=fun j=>ai p _ hM.blk j;have hL:=eS nI ou en hM.ids x.1;rw [oV]at hL;obtain⟨r0,r1,hr1,hL⟩:∃(r0:Int) (r1:Bool),(r1=true↔x.1∈xs.map (·.1))∧(Instr.lookup Io (Value.map (some mi)) (dJ x.1) true).run Tryz.prog w2= .ok (Value.tuple #[Value.int .i64 r0,Value.bool r1]) w2:=by
  have hm:=nZ (l:=xs.map (·.1)) (k:=x.1);cases hx:(xs.map (·.1)).idxOf? x.1 with
  |none=>rw [hx]at hL hm;exact⟨0,false,hm,hL⟩
  |some i=>rw [hx]at hL hm;exact⟨_,true,hm,hL⟩
 refine af.mk _ rfl ⟨some mi,by rw [hcell];exact hM.cells.c1,x.1,hc2 0,r0,r1,w2,hL,?_⟩;intro w4 hw4;have hh4:w4.heap=w2.heap:=by subst hw4;rfl
 have hb4:Below w.heap.size w w4:=by subst hw4;exact hb2.drew
 have hcell4:∀j,w4.cell? ((⟨p,0,none⟩:Addr).add j)=c[j]? :=fun j=>by rw [←hcell j];subst hw4;rfl
 have hc4:∀j,w4.cell? ((nb w).add j)=(#[Value.int .i64 x.1,Value.string (str x.2)]:Array Value)[j]? :=fun j=>by rw [←hc2 j];subst hw4;rfl
 have hM4:sQ w4 B p l mi mt c xs:=by subst hw4;exact hM.on (aO _)
 have hL:=eS pB gw en hM4.texts x.2;rw [oY]at hL;obtain⟨r4,r5,hr5,hL⟩:∃(r4:Int) (r5:Bool),(r5=true↔x.2∈xs.map (·.2))∧(Instr.lookup EK (Value.map (some mt)) (dp x.2) true).run Tryz.prog w4= .ok (Value.tuple #[Value.int .i64 r4,Value.bool r5]) w4:=by
  have hm:=nZ (l:=xs.map (·.2)) (k:=x.2);cases hx:(xs.map (·.2)).idxOf? x.2 with
  |none=>rw [hx]at hL hm;exact⟨0,false,hm,hL⟩
  |some i=>rw [hx]at hL hm;exact⟨_,true,hm,hL⟩
 refine af.mk _ rfl ⟨some mt,by rw [hcell4];exact hM.cells.c2,_,hc4 1,r4,r5,w4,hL,x.1,_,⟨by have:=hc4 0;rwa [au]at this,hc4 1,trivial⟩,?_⟩;refine(sA x w4).mono ?_;rintro e w6 ⟨rfl,hb6'⟩;have hb6:Below w.heap.size w w6:=hb4.trans (hb6'.mono hb4.size);have hM6:sQ w6 B p l mi mt c xs:=⟨aj hb6' hM4.blk,hM4.cells,aF hM4.row hb6',hM4.len,hM4.off,hM4.ids.on hb6',hM4.texts.on hb6',hM4.bp,hM4.bi,hM4.bt,hM4.ne⟩;have hcell6:∀j,w6.cell? ((⟨p,0,none⟩:Addr).add j)=c[j]? :=fun j=>ai p _ hM6.blk j;have fail:∀n:Int,n≠0→cE xs x=n→rV w B p xs x (.int .i64 n) w6:=fun n h0 hn=>⟨hb6.mono hB,by rw [hn],fun h=>absurd (hn▸h) h0⟩;refine⟨_,rfl,ac.mk (fun h0=>fail 1 (by decide) ?_) fun h0=>?_⟩
 ·rw [cE,if_pos (by simpa using h0)]
 have hok:bc x=true:=by simpa using h0
 refine af.mk _ rfl ⟨l.a,l.n,l.c,by rw [hcell6];exact hM.cells.c0,ac.mk (fun h1=>fail 3 (by decide) ?_) fun h1=>?_⟩
 ·have h1:=of_decide_eq_true h1;rw [cE,if_neg (by rw [hok];simp),if_pos (by rw [←hM.len];omega)]
 have h1:=of_decide_eq_false h1;have hlen:=hM.len;have hk:¬32≤xs.length:=by rw [←hlen];omega
 refine ac.mk (fun h2=>fail 10 (by decide) ?_) fun h2=>ac.mk (fun h3=>fail 10 (by decide) ?_) fun h3=>?_
 ·rw [cE,if_neg (by rw [hok];simp),if_neg hk,if_pos (.inl (hr1.1 h2))]
 ·rw [cE,if_neg (by rw [hok];simp),if_neg hk,if_pos (.inr (hr5.1 h3))]
 have n1:x.1∉xs.map (·.1):=fun h=>by rw [hr1.2 h]at h2;cases h2
 have n2:x.2∉xs.map (·.2):=fun h=>by rw [hr5.2 h]at h3;cases h3
 have hadd:cE xs x=0:=by rw [cE,if_neg (by rw [hok];simp),if_neg hk,if_neg (fun h=>h.elim n1 n2)]
 have hkl:1≤x.2.length∧x.2.length≤64:=by
  have:=of_decide_eq_true (by simpa [bc]using hok:decide _=true);omega
 intro w7 hw7;have hh7:w7.heap=w6.heap:=by subst hw7;rfl
 have hb7:Below w.heap.size w w7:=by subst hw7;exact hb6.drew
 have hM7:sQ w7 B p l mi mt c xs:=by subst hw7;exact hM6.on (aO _)
 have hcell7:∀j,w7.cell? ((⟨p,0,none⟩:Addr).add j)=c[j]? :=fun j=>ai p _ hM7.blk j;have hloc4:w4.heap[w.heap.size]? =some (.cells #[Value.int .i64 x.1,Value.string (str x.2)] nr):=by
  rw [hh4,hh2];subst hw1;exact ap _ _
 have hloc7:w7.heap[w.heap.size]? =some (.cells #[Value.int .i64 x.1,Value.string (str x.2)] nr):=by rw [hh7];exact aj hb6' hloc4
 have loc:∀w':World,w'.heap[w.heap.size]? =w7.heap[w.heap.size]? →∀j,w'.cell? ((nb w).add j)=(#[Value.int .i64 x.1,Value.string (str x.2)]:Array Value)[j]? :=fun w' hw' j=>by
  rw [hloc7]at hw';exact ai _ _ hw' j
 have hpw:p<w.heap.size:=h.is.lt;have hmip:mi≠p:=dx hM7.blk hM7.ids;have hmtp:mt≠p:=dx hM7.blk hM7.texts;have hmiw:mi≠w.heap.size:=dx hloc7 hM7.ids;have hmtw:mt≠w.heap.size:=dx hloc7 hM7.texts;refine af.mk _ rfl ⟨some mi,by rw [hcell7];exact hM.cells.c1,x.1,loc w7 rfl 0,af.mk _ rfl ⟨some mt,by rw [hcell7];exact hM.cells.c2,_,loc w7 rfl 1,af.mk _ rfl ⟨l.a,l.n,l.c,by rw [hcell7];exact hM.cells.c0,af.mk _ rfl ⟨l.a,l.n,l.c,by rw [hcell7];exact hM.cells.c0,?_⟩⟩⟩⟩;obtain⟨k1,w8,hr8,hp8,hs8,hz8,hB8⟩:=gC nI ou en hM7.ids x.1 (by rw [oV,List.idxOf?_eq_none_iff.2 n1];rfl);obtain⟨w9,hr9,hm9,hs9,hz9,hB9⟩:=gv Io hp8 (.int .i64 (l.n:Int));have ht9:br dp w9 mt (vZ xs):=hM7.texts.same (by rw [hs9 mt hM.ne.symm,hs8 mt hM.ne.symm]);obtain⟨k2,w10,hr10,hp10,hs10,hz10,hB10⟩:=gC pB gw en ht9 x.2 (by rw [oY,List.idxOf?_eq_none_iff.2 n2];rfl);obtain⟨w11,hr11,hm11,hs11,hz11,hB11⟩:=gv EK hp10 (.int .i64 (l.n:Int));have hblk8:w8.heap[p]? =some (.cells c so (0,0)):=by rw [hs8 p (Ne.symm hmip)];exact hM7.blk
 refine⟨0,k1,w8,hr8,⟨by rw [ai p _ hblk8];exact hM.cells.c0,trivial⟩,⟨loc w8 (hs8 _ (Ne.symm hmiw)) 1,trivial⟩,w9,hr9,⟨loc w9 (by rw [hs9 _ (Ne.symm hmiw),hs8 _ (Ne.symm hmiw)]) 1,trivial⟩,0,k2,w10,hr10,w11,hr11,?_⟩;have h11:∀k,k≠mi→k≠mt→w11.heap[k]? =w7.heap[k]? :=fun k h1 h2=>by rw [hs11 k h2,hs10 k h2,hs9 k h1,hs8 k h1]
 have hsz7:w11.heap.size=w7.heap.size:=by rw [hz11,hz10,hz9,hz8]
 intro w12 hw12;have hh12:w12.heap=w11.heap:=by subst hw12;rfl
 have hblk12:w12.heap[p]? =some (.cells c so (0,0)):=by rw [hh12,h11 p (Ne.symm hmip) (Ne.symm hmtp)];exact hM7.blk
 have hb12:Below B w w12:=by
  have:=hB11 _ _ hM.bt (hB10 _ _ hM.bt (hB9 _ _ hM.bi (hB8 _ _ hM.bi (hb7.mono hB))));subst hw12;exact this.drew
 have hw12':∀w':World,w'.heap[w.heap.size]? =w12.heap[w.heap.size]? →∀j,w'.cell? ((nb w).add j)=(#[Value.int .i64 x.1,Value.string (str x.2)]:Array Value)[j]? :=fun w' hw' j=>loc w' (by rw [hw',hh12,h11 _ (Ne.symm hmiw) (Ne.symm hmtw)]) j;obtain⟨b0,t0,hx0⟩:∃b0 t0,x.2=b0::t0:=by
  cases hx:x.2 with
  |nil=>rw [hx]at hkl;simp at hkl
  |cons a t=>exact⟨a,t,rfl⟩
 have hbt:eu (str x.2) 0=(b0.toNat:Int):=by
  have:=eU x.2 0 (by omega);rw [show((0:Nat):Int)=0 from rfl]at this;rw [this];simp [hx0]
 have hb0:b0.toNat<256:=b0.toNat_lt;have hadr:((⟨p,0,none⟩:Addr).add 3).add ((b0.toNat:Int).toNat*1)=(⟨p,0,none⟩:Addr).add (3+b0.toNat):=by
  rw [aB,aB,aB];simp
 refine⟨_,hw12' w12 rfl 1,Int.le_refl _,by rw [aR];omega,af.mk _ rfl ?_⟩;rw [hbt,hadr];refine⟨by omega,by omega,rfl,⟨_,by rw [ai p _ hblk12];exact hM.cells.first _ hb0⟩,be hblk12,?_⟩;intro w13 hw13;have hblk13:w13.heap[p]? =some (.cells (c.setIfInBounds (3+b0.toNat) (.bool true)) so (0,0)):=by subst hw13;exact bF hblk12 _
 have hb13:Below B w w13:=by subst hw13;exact bv hb12 hM.bp _
 have hs13:∀k,k≠p→w13.heap[k]? =w12.heap[k]? :=fun k hk=>by subst hw13;exact aq (by rw [av];exact hk)
 have hz13:w13.heap.size=w12.heap.size:=by subst hw13;exact ba _ _ _
 intro w14 hw14;have hh14:w14.heap=w13.heap:=by subst hw14;rfl
 have hblk14:w14.heap[p]? =some (.cells (c.setIfInBounds (3+b0.toNat) (.bool true)) so (0,0)):=by rw [hh14];exact hblk13
 have hcs:=hM.cells.size;refine af.mk _ rfl ⟨eQ xs,by rw [ai p _ hblk14,Array.getElem?_setIfInBounds_ne (by omega)];exact hM.cells.most,_,hw12' w14 (by rw [hh14,hs13 _ (by omega)]) 1,_,w14,xf _ _ _ _ _,af.mk _ rfl ⟨rfl,⟨_,by rw [ai p _ hblk14,Array.getElem?_setIfInBounds_ne (by omega)];exact hM.cells.most⟩,be hblk14,?_⟩⟩;rw [aR, ←AG];intro w16 hw16;have hblk16:w16.heap[p]? =some (.cells ((c.setIfInBounds (3+b0.toNat) (.bool true)).setIfInBounds 259 (.int .i64 (eQ (xs++ [x])))) so (0,0)):=by subst hw16;exact bF hblk14 _
 have hb16:Below B w w16:=by
  subst hw16;refine bv ?_ hM.bp _;subst hw14;exact hb13.drew
 have hs16:∀k,k≠p→w16.heap[k]? =w12.heap[k]? :=fun k hk=>by
  rw [←hs13 k hk, ←hh14];subst hw16;exact aq (by rw [av];exact hk)
 have hz16:w16.heap.size=w12.heap.size:=by rw [←hz13, ←hh14];subst hw16;exact ba _ _ _
 intro w17 hw17;have hh17:w17.heap=w16.heap:=by subst hw17;rfl
 have hb17:Below B w w17:=by subst hw17;exact hb16.drew
 have hblk17:w17.heap[p]? =some (.cells ((c.setIfInBounds (3+b0.toNat) (.bool true)).setIfInBounds 259 (.int .i64 (eQ (xs++ [x])))) so (0,0)):=by rw [hh17];exact hblk16
 have hc17:((c.setIfInBounds (3+b0.toNat) (.bool true)).setIfInBounds 259 (.int .i64 (eQ (xs++ [x]))))[0]? =some l.v:=by
  rw [Array.getElem?_setIfInBounds_ne (by omega),Array.getElem?_setIfInBounds_ne (by omega)];exact hM.cells.c0
 have hsame:∀k,k≠p→k≠mi→k≠mt→w17.heap[k]? =w7.heap[k]? :=fun k h1 h2 h3=>by rw [hh17,hs16 k h1,hh12,h11 k h2 h3]
 have hrow17:w17.ownsRow B nr 2 l.v l.n (xs.flatMap aD):=aU hM7.row fun k hk=>hsame k (fun e=>hM.off (e▸hk)) (fun e=>cS hM7.row hM7.ids (e▸hk)) (fun e=>cS hM7.row hM7.texts (e▸hk));have hi17:br dJ w17 mi (yE (xs++ [x])):=by
  rw [FP, ←hlen];exact hm9.same (by rw [hh17,hs16 _ hmip,hh12,hs11 _ hM.ne,hs10 _ hM.ne])
 have ht17:br dp w17 mt (vZ (xs++ [x])):=by
  rw [FD, ←hlen];exact hm11.same (by rw [hh17,hs16 _ hmtp,hh12])
 have hsz17:w7.heap.size=w17.heap.size:=by rw [hh17,hz16,hh12,hsz7]
 have hw17:w.heap.size<w17.heap.size:=by
  have:=(Array.getElem?_eq_some_iff.1 hloc7).1;omega
 have hc17':=hw12' w17 (by rw [hh17,hs16 _ (by omega)]);obtain⟨a',c',w19,hr19,hu19,hf19,h20⟩:=fk (P:=Tryz.prog) (s:=l) 0 hblk17 (by simp;omega) hrow17 hM.off hM.bp 25 qV vW rfl (by decide) (aD x) rfl (dO _ _) (by omega) (by omega);refine af.mk _ rfl ⟨l.a,l.n,l.c,by rw [ai p _ hblk17];exact hc17,x.1,_,⟨by have:=hc17' 0;rwa [au]at this,hc17' 1,trivial⟩,?_⟩;rintro w18 rfl;refine⟨⟨by rw [(ah w17 _).cell (by rw [av];exact(Array.getElem?_eq_some_iff.1 hblk17).1),ai p _ hblk17];exact hc17,trivial⟩,a',l.n+1,c',w19,hr19,af.mk _ rfl ⟨rfl,hu19,hf19,?_⟩⟩;intro w20 hw20;obtain⟨hblk20,hrow20,hoff20,hB20,hkeep20,hsz20⟩:=h20 w20 hw20;refine⟨hB20 w hb17,by rw [hadd],fun _=>⟨⟨a',l.n+1,c'⟩,mi,mt,_,hblk20,⟨by simp [hcs],?_,?_,?_,?_,?_⟩,?_,by simp;omega,hoff20,?_,?_,hM.bp,hM.bi,hM.bt,hM.ne⟩⟩
 ·rw [Array.getElem?_setIfInBounds_self_of_lt (by simp;omega)]
 ·rw [Array.getElem?_setIfInBounds_ne (by omega),Array.getElem?_setIfInBounds_ne (by omega),Array.getElem?_setIfInBounds_ne (by omega)];exact hM.cells.c1
 ·rw [Array.getElem?_setIfInBounds_ne (by omega),Array.getElem?_setIfInBounds_ne (by omega),Array.getElem?_setIfInBounds_ne (by omega)];exact hM.cells.c2
 ·rw [Array.getElem?_setIfInBounds_ne (by omega),Array.getElem?_setIfInBounds_self_of_lt (by simp;omega)]
 ·intro i hi;rw [Array.getElem?_setIfInBounds_ne (by omega),Array.getElem?_setIfInBounds_ne (by omega)];have hf:gB (xs++ [x]) i=(gB xs i||decide (b0.toNat=i)):=by
   simp [gB,hx0,Bool.beq_eq_decide_eq]
  rw [hf];by_cases he:b0.toNat=i
  ·subst he;rw [Array.getElem?_setIfInBounds_self_of_lt (by omega)];simp
  ·rw [Array.getElem?_setIfInBounds_ne (by omega),hM.cells.first i hi,decide_eq_false he,Bool.or_false]
 ·have hflat:(xs++ [x]).flatMap aD=xs.flatMap aD++aD x:=by simp
  rw [hflat];exact hrow20
 ·exact hi17.same (hkeep20 mi hi17.lt hmip (cS hrow17 hi17))
 ·exact ht17.same (hkeep20 mt ht17.lt hmtp (cS hrow17 ht17))
def bJ:List (Int×Bs)→Nat→List (Int×Bs)→Option (Nat×Int)
 |_,_,[]=>none
 |xs,i,x::r=>if cE xs x=0 then bJ (xs++ [x]) (i+1) r else some (i,cE xs x)
def qh (w:World) (xs:List (Int×Bs)) (v:Value) (w':World):Prop:=Below w.heap.size w w'∧match bJ [] 0 xs with
 |some q=>v= .tuple #[.pointer none,.int .i64 q.1,.int .i64 q.2]
 |none=>∃p,v= .tuple #[.pointer (some ⟨p,0,none⟩),.int .i64 xs.length,.int .i64 0]∧qC w' w.heap.size p xs
theorem wB (w:World) (a:Option Addr) (c:Nat) (xs:List (Int×Bs)) (hr:Rw aD 2 w a xs) (hl:xs.length≤1000000000):
  CP 131 #[.slice a xs.length c] w fun e w'=>∃v,e= .returned v∧qh w xs v w':=by
 refine Al a xs.length c w (qh w xs) ?_;refine⟨some w.heap.size,_,gG _,some (w.alloc (.map #[] 0)).heap.size,_,gG _,?_⟩;rintro w3 hw3;have hz1:(w.alloc (.map #[] 0)).heap.size=w.heap.size+1:=aA _ _;have hz2:((w.alloc (.map #[] 0)).alloc (.map #[] 0)).heap.size=w.heap.size+2:=by rw [aA,hz1]
 have hb3:Below w.heap.size w w3:=by
  subst hw3;exact(((Below.refl _ _).alloc (Nat.le_refl _) _).alloc (by omega) _).alloc (by omega) _
 have hT3:qC w3 w.heap.size (w.heap.size+2) (xs.take 0):=by
  subst hw3;refine⟨⟨none,0,0⟩,w.heap.size,w.heap.size+1,List.toArray ([Value.slice none 0 0,Value.map (some w.heap.size),Value.map (some (w.alloc (.map #[] 0)).heap.size)]++List.replicate 256 (Value.bool false)++ [Value.int .i64 0]),?_,⟨?_,rfl,rfl,?_,?_,?_⟩,cO _ _ _ _,rfl,(by intro h;cases h),?_,?_,by omega,by omega,by omega,by omega⟩
  ·have:=ap ((w.alloc (.map #[] 0)).alloc (.map #[] 0)) (.cells (List.toArray ([Value.slice none 0 0,Value.map (some w.heap.size),Value.map (some (w.alloc (.map #[] 0)).heap.size)]++List.replicate 256 (Value.bool false)++ [Value.int .i64 0])) so);rw [hz2]at this;exact this
  ·simp
  ·rw [←hz1];rfl
  ·rfl
  ·intro i hi;simp only [List.getElem?_toArray,List.append_assoc,List.cons_append,List.nil_append];rw [show 3+i=i+1+1+1 by omega];simp only [List.getElem?_cons_succ];rw [List.getElem?_append_left (by simpa using hi),List.getElem?_replicate];simp [hi,gB]
  ·exact(iL (kv:=dJ) w).same (by rw [fB _ _ (by omega),fB _ _ (by omega)])
  ·have h0:=iL (kv:=dp) (w.alloc (.map #[] 0));rw [hz1]at h0;exact h0.same (by rw [fB _ _ (by omega)])
 have hp2:nb ((w.alloc (.map #[] 0)).alloc (.map #[] 0))=⟨w.heap.size+2,0,none⟩:=by rw [nb,hz2]
 rw [hp2];intro I hI;have key:=bj (α:=Int×Int×Option Addr×World) xs.length (fun i x=>qC x.2.2.2 w.heap.size (w.heap.size+2) (xs.take i)∧bJ [] 0 xs=bJ (xs.take i) i (xs.drop i)∧Below w.heap.size w x.2.2.2) (fun i x=>I [.int .i64 (i:Int),.int .i64 x.1,.int .i64 x.2.1,.pointer x.2.2.1] x.2.2.2) (0,0,none,w3) ⟨hT3,by rw [List.drop_zero,List.take_zero],hb3⟩ ?_ ?_
 ·exact key
 ·rintro i hi ih ⟨y4,y3,y2,w4⟩ ⟨hT,heq,hB⟩;change qC w4 _ _ _ at hT;change Below w.heap.size w w4 at hB;obtain⟨q,hq,_,hc⟩:=(hr.on hB) i _ (List.getElem?_eq_getElem hi);have h0:=hc 0 _ rfl;rw [au]at h0;refine hI _ _ _ _ _ (ac.yes (by simp;omega) (af.mk q hq ⟨by omega,by omega,_,_,⟨h0,hc 1 _ rfl,trivial⟩,?_⟩));intro w5 hw5;refine aS [.int .i64 0,.string ⟨#[]⟩] [.int .i64 xs[i].1,.string (str xs[i].2)] rfl (dO _ _) w5 hw5 ?_;intro w6 h6 hz6 hB6;refine⟨_,_,⟨by have:=ai _ _ h6 0;rw [au]at this;exact this,ai _ _ h6 1,trivial⟩,?_⟩;refine(wg w6 w.heap.size (w.heap.size+2) (xs.take i) (hT.on hB6) (by have h1:w.heap.size≤w4.heap.size:=hB.size;have h2:w6.heap.size=w4.heap.size+1:=hz6;omega) xs[i]).mono ?_;rintro e w7 ⟨v,rfl,hB7,rfl,hpost⟩;have hdrop:xs.drop i=xs[i]::xs.drop (i+1):=List.drop_eq_getElem_cons hi;have hB8:Below w.heap.size w w7:=(hB.trans (hB6.mono hB.size)).trans hB7;refine⟨_,rfl,ac.mk (fun h=>?_) fun h=>?_⟩
  ·have h:cE (xs.take i) xs[i]≠0:=by simpa using h
   refine⟨hB8,?_⟩;rw [heq,hdrop,bJ,if_neg h]
  ·have h:cE (xs.take i) xs[i]=0:=by simpa using h
   have htake:xs.take (i+1)=xs.take i++ [xs[i]]:=by rw [List.take_add_one,List.getElem?_eq_getElem hi];rfl
   refine Ar.ok64 (by omega) (by omega) (ih (y4,y3,y2,w7) ⟨?_,?_,hB8⟩)
   ·rw [htake];exact hpost h
   ·rw [heq,hdrop,bJ,if_pos h,htake]
 ·rintro⟨y4,y3,y2,w4⟩ ⟨hT,heq,hB⟩;change qC w4 _ _ _ at hT;refine hI _ _ _ _ _ (ac.no (by simp) ⟨hB,?_⟩);rw [heq,List.drop_length,List.take_length,bJ];rw [List.take_length]at hT;exact⟨_,rfl,hT⟩
def iz (xs:List (Int×Bs)) (mark:Int):Option (Int×Bs):=if mark<0 then xs[(-1-mark).toNat]? else none
def Qe (o:Option (Int×Bs)):Value:=match o with
 |some x=>.tuple #[.agg #[.int .i64 x.1,.string (str x.2)],.bool true]
 |none=>.tuple #[.agg #[.int .i64 0,.string ⟨#[]⟩],.bool false]
theorem oo (w:World) (p:Nat) (xs:List (Int×Bs)) (h:nw w p xs) (hl:xs.length≤1000000) (mark:Int) (hm: -1000000000000≤mark):CP 174 #[.pointer (some ⟨p,0,none⟩),.int .i64 mark] w fun e w'=>e= .returned (Qe (iz xs mark))∧Below w.heap.size w w':=by
 refine aN (zN (some ⟨p,0,none⟩) mark w) ?_;intro w1 hw1;have hb:Below w.heap.size w w1:=by subst hw1;exact ah _ _
 have h':=h.on hb;have store:∀(a:Int) (b:ByteArray) (k:World→Prop),(∀w3,w3.cell? (nb w)=some (Value.int .i64 a)∧w3.cell? ((nb w).add 1)=some (Value.string b)∧True→Below w.heap.size w w3→k w3)→ax w1 (nb w) k [Value.int .i64 a,Value.string b] 0:=by
  intro a b k hk;refine aS [.int .i64 0,.string ⟨#[]⟩] [.int .i64 a,.string b] rfl (dO a b) w1 hw1 ?_;intro w3 h3 _ hB;exact hk w3 ⟨by have:=ai _ _ h3 0;rw [au]at this;exact this,ai _ _ h3 1,trivial⟩ hB
 refine ac.mk (fun h0=>?_) fun h0=>?_
 ·have h0:=of_decide_eq_true h0;refine store 0 _ _ fun w3 h3 hB=>⟨0,_,h3,?_,hB⟩;rw [iz,if_neg (by omega)];rfl
 ·have h0:=of_decide_eq_false h0;refine(wI w1 p xs h').mono ?_;rintro e w2 ⟨rfl,hw⟩;subst hw;refine⟨_,rfl,Ar.ok64 (by omega) (by omega) (ac.mk (fun h1=>?_) fun h1=>?_)⟩
  ·have h1:=of_decide_eq_true h1;refine store 0 _ _ fun w3 h3 hB=>⟨0,_,h3,?_,hB⟩;rw [iz,if_pos (by omega),List.getElem?_eq_none (by omega)];rfl
  ·have h1:=of_decide_eq_false h1;obtain⟨l,mi,mt,c,h1',h2,h3,h4,_⟩:=h';have hlt:(-1-mark).toNat<xs.length:=by omega
   obtain⟨a,ha,_,hc⟩:=h4 _ _ (List.getElem?_eq_getElem hlt);have c0:=hc 0 _ rfl;rw [au]at c0;refine af.mk _ rfl ⟨l.a,l.n,l.c,by rw [ai p _ h1'];exact h2.c0,Ar.ok64 (by omega) (by omega) (af.mk a ha ⟨by omega,by omega,_,_,⟨c0,hc 1 _ rfl,trivial⟩,?_⟩)⟩;refine store _ _ _ fun w3 h3 hB=>⟨_,_,h3,?_,hB⟩;rw [iz,if_pos (by omega),List.getElem?_eq_getElem hlt];rfl
theorem xE (w:World) (p:Nat) (xs:List (Int×Bs)) (h:nw w p xs) (hl:xs.length≤1000000) (mark:Int) (hm: -1000000000000≤mark):CP 262 #[.pointer (some ⟨p,0,none⟩),.int .i64 mark] w fun e w'=>e= .returned (.tuple #[.int .i64 (((iz xs mark).map (·.1)).getD 0),.bool (iz xs mark).isSome])∧Below w.heap.size w w':=by
 refine aN (z_ (some ⟨p,0,none⟩) mark w) ?_;refine(oo w p xs h hl mark hm).mono ?_;rintro e w1 ⟨rfl,hB⟩;have fin:∀(a:Int) (b:ByteArray) (r:Bool),∀w2:World,w2=w1.alloc (.cells #[Value.int .i64 0,Value.string ⟨#[]⟩] nr)→ax w2 (nb w1) (fun w3=>∃n:Int,w3.cell? ((nb w1).add 0)=some (Value.int .i64 n)∧(Ending.returned (Value.tuple #[Value.int .i64 n,Value.bool r])= .returned (Value.tuple #[Value.int .i64 a,Value.bool r])∧Below w.heap.size w w3)) [Value.int .i64 a,Value.string b] 0:=by
  intro a b r w2 hw2;refine aS [.int .i64 0,.string ⟨#[]⟩] [.int .i64 a,.string b] rfl (dO a b) w2 hw2 ?_;intro w3 h3 _ hB3;exact⟨a,ai _ _ h3 0,rfl,ae hB hB3⟩
 cases hx:iz xs mark with
 |none=>exact⟨0,_,false,rfl,fin _ _ _⟩
 |some x=>exact⟨x.1,_,true,rfl,fin _ _ _⟩
def eh (cls:List (Int×Int×Int)) (b:Int):Int:=cls.foldl (fun n c=>if c.1≤b∧b≤c.2.1 then c.2.2 else n) 0
theorem Dg (cls:List (Int×Int×Int)) (c:Int×Int×Int) (b:Int):eh (cls++ [c]) b=if c.1≤b∧b≤c.2.1 then c.2.2 else eh cls b:=by simp [eh]
theorem pY {cls:List (Int×Int×Int)} (h:∀c∈cls,aQ c=true) (b:Int):0≤eh cls b∧eh cls b<16:=by
 have:∀(l:List (Int×Int×Int)) (n:Int),(∀c∈l,aQ c=true)→0≤n∧n<16→0≤l.foldl (fun n c=>if c.1≤b∧b≤c.2.1 then c.2.2 else n) n∧l.foldl (fun n c=>if c.1≤b∧b≤c.2.1 then c.2.2 else n) n<16:=by
  intro l;induction l with
  |nil=>intro n _ h;exact h
  |cons c l ih=>
   intro n hl hn;refine ih _ (fun c hc=>hl c (by simp [hc])) ?_;have hc:=of_decide_eq_true (by simpa [aQ]using hl c (by simp):decide _=true);show 0≤(if c.1≤b∧b≤c.2.1 then c.2.2 else n)∧(if c.1≤b∧b≤c.2.1 then c.2.2 else n) <16;split
   ·omega
   ·exact hn
 exact this cls 0 h (by omega)
def cutB (cls:List (Int×Int×Int)) (js:List (Int×Int)) (a b:Int):Bool:=decide (eh cls a≠eh cls b∧(eh cls a,eh cls b)∉js)
abbrev ko:TypeId:=288
structure Fa (c:Array Value) (f:Nat→Int) (g:Nat→Nat→Bool):Prop where
 size:c.size=512
 cls:∀b,b<256→c[b]? =some (.int .i64 (f b))
 join:∀x y,x<16→y<16→c[256+x*16+y]? =some (.bool (g x y))
def rZ (js:List (Int×Int)) (x y:Nat):Bool:=decide (((x:Int),(y:Int))∈js)
def sJ (w:World) (p:Nat) (cls:List (Int×Int×Int)) (js:List (Int×Int)):Prop:=∃c,w.heap[p]? =some (.cells c ko (0,0))∧Fa c (fun b=>eh cls b) (rZ js)
theorem sJ.on {w w':World} {p:Nat} {cls:List (Int×Int×Int)} {js:List (Int×Int)} (h:sJ w p cls js) (hb:Below w.heap.size w w'):sJ w' p cls js:=by
 obtain⟨c,h1,h2⟩:=h;exact⟨c,aj hb h1,h2⟩
theorem gM (n:Int) (w:World):CP 192 #[.int .i64 n] w fun e w'=>e= .returned (.bool (decide (0≤n∧n≤15)))∧w'=w:=by
 refine aJ (xg n w (fun v w'=>v= .bool (decide (0≤n∧n≤15))∧w'=w) ?_) (by rintro v w' ⟨rfl,h⟩;exact⟨rfl,h⟩);refine ac.mk (fun h=>?_) fun h=>?_
 ·have h:=of_decide_eq_true h;refine⟨?_,rfl⟩;congr 1;exact decide_eq_decide.2 (by omega)
 ·have h:=of_decide_eq_false h;refine⟨?_,rfl⟩;rw [decide_eq_false (by omega)]
theorem th (c:Int×Int×Int) (w:World):CP 191 #[.agg #[.int .i64 c.1,.int .i64 c.2.1,.int .i64 c.2.2]] w fun e w'=>e= .returned (.bool (aQ c))∧Below w.heap.size w w':=by
 refine aJ (xX c.1 c.2.1 c.2.2 w (fun v w'=>v= .bool (aQ c)∧Below w.heap.size w w') ?_) (by rintro v w' ⟨rfl,h⟩;exact⟨rfl,h⟩);intro w1 hw1;have hb:Below w.heap.size w w1:=by subst hw1;exact ah _ _
 have hc:∀j,w1.cell? ((nb w).add j)=(#[Value.int .i64 c.1,Value.int .i64 c.2.1,Value.int .i64 c.2.2]:Array Value)[j]? :=by
  intro j;subst hw1;rw [aB,Nat.zero_add,aV]
 have off:aQ c=false→(Value.bool false= .bool (aQ c)∧Below w.heap.size w w1):=fun h=>⟨by rw [h],hb⟩;refine⟨c.1,hc 0,ac.mk (fun h1=>?_) fun h1=>off ?_⟩
 ·have h1:=of_decide_eq_true h1;refine⟨c.1,hc 0,c.2.1,hc 1,ac.mk (fun h2=>?_) fun h2=>off ?_⟩
  ·have h2:=of_decide_eq_true h2;refine⟨c.2.1,hc 1,ac.mk (fun h3=>?_) fun h3=>off ?_⟩
   ·have h3:=of_decide_eq_true h3;refine⟨c.2.2,hc 2,?_⟩;refine(gM c.2.2 w1).mono ?_;rintro e w2 ⟨rfl,hw⟩;subst hw;refine⟨_,rfl,?_,hb⟩;congr 1;unfold aQ;exact decide_eq_decide.2 (by omega)
   ·have h3:=of_decide_eq_false h3;unfold aQ;exact decide_eq_false (by omega)
  ·have h2:=of_decide_eq_false h2;unfold aQ;exact decide_eq_false (by omega)
 ·have h1:=of_decide_eq_false h1;unfold aQ;exact decide_eq_false (by omega)
theorem f_ (a b c:Int):∀v∈ [Value.int .i64 a,Value.int .i64 b,Value.int .i64 c],v.oneCell'=true:=by
 intro v hv;simp only [List.mem_cons,List.not_mem_nil,or_false]at hv;rcases hv with rfl |rfl |rfl<;>rfl
theorem Fa.setCls {c:Array Value} {f:Nat→Int} {g:Nat→Nat→Bool} (h:Fa c f g) {b:Nat} (hb:b<256) (n:Int):Fa (c.setIfInBounds b (.int .i64 n)) (fun i=>if i=b then n else f i) g:=by
 refine⟨by simp [h.size],fun i hi=>?_,fun x y hx hy=>?_⟩
 ·by_cases he:i=b
  ·subst he;rw [Array.getElem?_setIfInBounds_self_of_lt (by have:=h.size;omega),if_pos rfl]
  ·rw [Array.getElem?_setIfInBounds_ne (fun e=>he e.symm),if_neg he,h.cls i hi]
 ·rw [Array.getElem?_setIfInBounds_ne (by omega)];exact h.join x y hx hy
theorem Fa.setJoin {c:Array Value} {f:Nat→Int} {g:Nat→Nat→Bool} (h:Fa c f g) {x y:Nat} (hx:x<16) (hy:y<16):Fa (c.setIfInBounds (256+x*16+y) (.bool true)) f (fun a b=>g a b||decide (a=x∧b=y)):=by
 refine⟨by simp [h.size],fun i hi=>?_,fun a b ha hb=>?_⟩
 ·rw [Array.getElem?_setIfInBounds_ne (by omega)];exact h.cls i hi
 ·by_cases he:a=x∧b=y
  ·obtain⟨rfl,rfl⟩:=he;rw [Array.getElem?_setIfInBounds_self_of_lt (by have:=h.size;omega)];simp
  ·rw [Array.getElem?_setIfInBounds_ne (by omega),h.join a b ha hb,decide_eq_false he,Bool.or_false]
theorem Fa.congr {c:Array Value} {f f':Nat→Int} {g g':Nat→Nat→Bool} (h:Fa c f g) (hf:∀b,b<256→f b=f' b) (hg:∀x y,x<16→y<16→g x y=g' x y):Fa c f' g':=
 ⟨h.size,fun b hb=>by rw [h.cls b hb,hf b hb],fun x y hx hy=>by rw [h.join x y hx hy,hg x y hx hy]⟩
theorem tQ (w:World) (a1 a2:Option Addr) (c1 c2:Nat) (cls:List (Int×Int×Int)) (js:List (Int×Int)) (hr1:Rw bH 3 w a1 cls) (hr2:Rw aP 2 w a2 js) (hl1:cls.length≤1000000) (hl2:js.length≤1000000)
  (ok1:∀c∈cls,aQ c=true) (ok2:∀j∈js,cr j=true):
  CP 134 #[.slice a1 cls.length c1,.slice a2 js.length c2] w fun e w'=>∃p,e= .returned (.tuple #[.pointer (some ⟨p,0,none⟩),.int .i64 0])∧sJ w' p cls js∧Below w.heap.size w w'∧w.heap.size≤p:=by
 refine aN (AS a1 cls.length c1 a2 js.length c2 w) ?_;intro w1 hw1;have hb1:Below w.heap.size w w1:=by subst hw1;exact ah _ _
 have h1:∃c,w1.heap[w.heap.size]? =some (.cells c ko (0,0))∧Fa c (fun b=>eh (cls.take 0) b) (fun _ _=>false):=by
  subst hw1;refine⟨_,ap _ _,by simp,fun b hb=>?_,fun x y hx hy=>?_⟩
  ·rw [List.getElem?_toArray,List.getElem?_append_left (by rw [List.length_replicate];exact hb),List.getElem?_replicate,if_pos hb];rfl
  ·rw [List.getElem?_toArray,List.getElem?_append_right (by simp;omega),List.getElem?_replicate,if_pos (by simp;omega)]
 intro I hI;have key:=bj (α:=Int×Option Addr×World) cls.length (fun i x=>(∃c,x.2.2.heap[w.heap.size]? =some (.cells c ko (0,0))∧Fa c (fun b=>eh (cls.take i) b) (fun _ _=>false))∧Below w.heap.size w x.2.2) (fun i x=>I [.int .i64 (i:Int),.int .i64 x.1,.pointer x.2.1] x.2.2) (0,none,w1) ⟨h1,hb1⟩ ?_ ?_
 ·exact key
 ·rintro i hi ih ⟨y5,y4,w2⟩ ⟨⟨c,hblk,hc⟩,hB⟩;change w2.heap[w.heap.size]? =_ at hblk;change Below w.heap.size w w2 at hB;obtain⟨q,hq,_,hcx⟩:=(hr1.on hB) i _ (List.getElem?_eq_getElem hi);have q0:=hcx 0 _ rfl;rw [au]at q0;refine hI _ _ _ _ (ac.yes (by simp;omega) (af.mk q hq ⟨by omega,by omega,_,_,_,⟨q0,hcx 1 _ rfl,hcx 2 _ rfl,trivial⟩,?_⟩));intro w3 hw3;refine aS [.int .i64 0,.int .i64 0,.int .i64 0] [.int .i64 cls[i].1,.int .i64 cls[i].2.1,.int .i64 cls[i].2.2] rfl (f_ _ _ _) w3 hw3 ?_;intro w4 h4 hz4 hB4;refine⟨_,_,_,⟨by have:=ai _ _ h4 0;rw [au]at this;exact this,ai _ _ h4 1,ai _ _ h4 2,trivial⟩,?_⟩;refine(th cls[i] w4).mono ?_;rintro e w5 ⟨rfl,hB5⟩;have hok:=ok1 cls[i] (List.getElem_mem hi);have hr:=of_decide_eq_true (by simpa [aQ]using hok:decide _=true);have h5:=aj hB5 h4;have hB52:Below w2.heap.size w2 w5:=ae hB4 hB5;have hblk5:=aj hB52 hblk;have hne:w2.heap.size≠w.heap.size:=by have:=(Array.getElem?_eq_some_iff.1 hblk).1;omega
  refine⟨_,rfl,ac.no (by rw [hok];rfl) ⟨_,ai _ _ h5 0,?_⟩⟩;obtain⟨lo,hlo⟩:∃lo:Nat,cls[i].1=(lo:Int):=⟨cls[i].1.toNat,by omega⟩;obtain⟨hi',hhi⟩:∃hi':Nat,cls[i].2.1=(hi':Int):=⟨cls[i].2.1.toNat,by omega⟩;rw [hlo,hhi]at hr;intro I5 hI5;rw [hlo];have key5:=bj (α:=World) (hi'+1-lo) (fun k x=>(∃c,x.heap[w.heap.size]? =some (.cells c ko (0,0))∧Fa c (fun b=>if lo≤b∧b<lo+k then cls[i].2.2 else eh (cls.take i) b) (fun _ _=>false))∧Below w.heap.size w x∧x.heap[w2.heap.size]? =w5.heap[w2.heap.size]?) (fun k x=>I5 [.int .i64 ((lo+k:Nat):Int)] x) w5 ⟨⟨c,hblk5,hc.congr (fun b _=>by rw [if_neg (by omega)]) (fun _ _ _ _=>rfl)⟩,hB.trans (hB52.mono hB.size),rfl⟩ ?_ ?_
  ·exact key5
  ·rintro k hk ih5 w6 ⟨⟨c6,hblk6,hc6⟩,hB6,hs6⟩;have hl6:w6.heap[w2.heap.size]? =some (.cells #[Value.int .i64 cls[i].1,Value.int .i64 cls[i].2.1,Value.int .i64 cls[i].2.2] FU (0,0)):=by rw [hs6];exact h5
   refine hI5 _ _ ⟨_,ai _ _ hl6 1,ac.yes (by rw [hhi];simp;omega) ?_⟩;intro w7 hw7;have hblk7:w7.heap[w.heap.size]? =some (.cells c6 ko (0,0)):=by subst hw7;exact hblk6
   have hl7:w7.heap[w2.heap.size]? =some (.cells #[Value.int .i64 cls[i].1,Value.int .i64 cls[i].2.1,Value.int .i64 cls[i].2.2] FU (0,0)):=by subst hw7;exact hl6
   have hB7:Below w.heap.size w w7:=by subst hw7;exact hB6.drew
   have hadr:((nb w).add 0).add (((lo+k:Nat):Int).toNat*1)=(⟨w.heap.size,0,none⟩:Addr).add (lo+k):=by
    rw [aB,aB,aB];simp
   rw [hadr];refine⟨_,ai _ _ hl7 2,by omega,by omega,rfl,⟨_,by rw [ai _ _ hblk7];exact hc6.cls (lo+k) (by omega)⟩,be hblk7,?_⟩;intro w8 hw8;refine Ar.ok64 (by omega) (by omega) ?_;rw [show((lo+k:Nat):Int)+1=((lo+(k+1):Nat):Int) by omega];refine ih5 w8 ⟨⟨_,by subst hw8;exact bF hblk7 _,(hc6.setCls (show lo+k<256 by omega) cls[i].2.2).congr (fun b hb=>?_) (fun _ _ _ _=>rfl)⟩,by subst hw8;exact bv hB7 (Nat.le_refl _) _,?_⟩
   ·by_cases he:b=lo+k
    ·subst he;rw [if_pos rfl,if_pos (by omega)]
    ·rw [if_neg he];by_cases h2:lo≤b∧b<lo+k
     ·rw [if_pos h2,if_pos (by omega)]
     ·rw [if_neg h2,if_neg (by omega)]
   ·subst hw8;rw [aq (by rw [av];exact hne),hl7,h5]
  ·rintro w6 ⟨⟨c6,hblk6,hc6⟩,hB6,hs6⟩;have hl6:w6.heap[w2.heap.size]? =some (.cells #[Value.int .i64 cls[i].1,Value.int .i64 cls[i].2.1,Value.int .i64 cls[i].2.2] FU (0,0)):=by rw [hs6];exact h5
   refine hI5 _ _ ⟨_,ai _ _ hl6 1,ac.no (by rw [hhi];simp;omega) ?_⟩;refine Ar.ok64 (by omega) (by omega) (ih (y5,y4,w6) ⟨⟨c6,hblk6,hc6.congr (fun b hb=>?_) (fun _ _ _ _=>rfl)⟩,hB6⟩);have htake:cls.take (i+1)=cls.take i++ [cls[i]]:=by rw [List.take_add_one,List.getElem?_eq_getElem hi];rfl
   rw [htake,Dg,hlo,hhi];by_cases h2:lo≤b∧b<lo+(hi'+1-lo)
   ·rw [if_pos h2,if_pos (by omega)]
   ·rw [if_neg h2,if_neg (by omega)]
 ·rintro⟨y5,y4,w2⟩ ⟨⟨c,hblk,hc⟩,hB⟩;change w2.heap[w.heap.size]? =_ at hblk;change Below w.heap.size w w2 at hB;rw [List.take_length]at hc;refine hI _ _ _ _ (ac.no (by simp) ?_);intro I11 hI11;have key:=bj (α:=Int×Option Addr×World) js.length (fun i x=>(∃c,x.2.2.heap[w.heap.size]? =some (.cells c ko (0,0))∧Fa c (fun b=>eh cls b) (rZ (js.take i)))∧Below w.heap.size w x.2.2) (fun i x=>I11 [.int .i64 (i:Int),.int .i64 x.1,.pointer x.2.1] x.2.2) (y5,y4,w2) ⟨⟨c,hblk,hc.congr (fun _ _=>rfl) (fun x y _ _=>by simp [rZ])⟩,hB⟩ ?_ ?_
  ·exact key
  ·rintro i hi ih ⟨y5,y4,w9⟩ ⟨⟨c,hblk,hc⟩,hB⟩;change w9.heap[w.heap.size]? =_ at hblk;change Below w.heap.size w w9 at hB;obtain⟨q,hq,_,hcx⟩:=(hr2.on hB) i _ (List.getElem?_eq_getElem hi);have q0:=hcx 0 _ rfl;rw [au]at q0;refine hI11 _ _ _ _ (ac.yes (by simp;omega) (af.mk q hq ⟨by omega,by omega,_,_,⟨q0,hcx 1 _ rfl,trivial⟩,?_⟩));intro w10 hw10;refine aS [.int .i64 0,.int .i64 0] [.int .i64 js[i].1,.int .i64 js[i].2] rfl (cw _ _) w10 hw10 ?_;intro w11 h11 hz11 hB11;have hok:=ok2 js[i] (List.getElem_mem hi);have hr:=of_decide_eq_true (by simpa [cr]using hok:decide _=true);refine⟨_,ai _ _ h11 0,(gM _ w11).mono ?_⟩;rintro e w12 ⟨rfl,hw⟩;subst hw;refine⟨_,rfl,ac.no (by rw [decide_eq_true (by omega)];rfl) ⟨_,ai _ _ h11 1,(gM _ w12).mono ?_⟩⟩;rintro e w13 ⟨rfl,hw⟩;subst hw;refine⟨_,rfl,ac.no (by rw [decide_eq_true (by omega)];rfl) ?_⟩;intro w14 hw14;have hh14:w14.heap=w13.heap:=by subst hw14;rfl
   have hl14:w14.heap[w9.heap.size]? =some (.cells #[Value.int .i64 js[i].1,Value.int .i64 js[i].2] Jc (0,0)):=by rw [hh14];exact h11
   have hblk14:w14.heap[w.heap.size]? =some (.cells c ko (0,0)):=by rw [hh14];exact aj hB11 hblk
   have hB14:Below w.heap.size w w14:=by subst hw14;exact(hB.trans (hB11.mono hB.size)).drew
   obtain⟨x,hx⟩:∃x:Nat,js[i].1=(x:Int):=⟨js[i].1.toNat,by omega⟩;obtain⟨y,hy⟩:∃y:Nat,js[i].2=(y:Int):=⟨js[i].2.toNat,by omega⟩;have hadr:(((nb w).add 256).add ((js[i].1).toNat*16)).add ((js[i].2).toNat*1)=(⟨w.heap.size,0,none⟩:Addr).add (256+x*16+y):=by
    rw [aB,aB,aB,aB,hx,hy];simp
   refine⟨_,ai _ _ hl14 0,_,ai _ _ hl14 1,by omega,by omega,by omega,by omega,?_⟩;rw [hadr];refine⟨rfl,⟨_,by rw [ai _ _ hblk14];exact hc.join x y (by omega) (by omega)⟩,be hblk14,?_⟩;intro w15 hw15;refine Ar.ok64 (by omega) (by omega) (ih (y5,y4,w15) ⟨⟨_,by subst hw15;exact bF hblk14 _,(hc.setJoin (show x<16 by omega) (show y<16 by omega)).congr (fun _ _=>rfl) (fun a b ha hb=>?_)⟩,by subst hw15;exact bv hB14 (Nat.le_refl _) _⟩);have htake:js.take (i+1)=js.take i++ [js[i]]:=by rw [List.take_add_one,List.getElem?_eq_getElem hi];rfl
   rw [htake];have:js[i]=((x:Int),(y:Int)):=Prod.ext hx hy;rw [this];unfold rZ;rw [Bool.eq_iff_iff];simp only [Bool.or_eq_true,decide_eq_true_eq,List.mem_append,List.mem_singleton,Prod.mk.injEq];have:((a:Int)=x∧(b:Int)=y)↔(a=x∧b=y):=by omega
   rw [this]
  ·rintro⟨y5,y4,w9⟩ ⟨⟨c,hblk,hc⟩,hB⟩;rw [List.take_length]at hc;exact hI11 _ _ _ _ (ac.no (by simp) ⟨w.heap.size,rfl,⟨c,hblk,hc⟩,hB,Nat.le_refl _⟩)
theorem o_ (w:World) (p:Nat) (cls:List (Int×Int×Int)) (js:List (Int×Int)) (h:sJ w p cls js) (ok1:∀c∈cls,aQ c=true) (a b:Int) (ha:0≤a∧a<256) (hb:0≤b∧b<256):
  CP 227 #[.pointer (some ⟨p,0,none⟩),.int .u8 a,.int .u8 b] w fun e w'=>e= .returned (.bool (cutB cls js a b))∧Below w.heap.size w w':=by
 refine aN (x_ (some ⟨p,0,none⟩) a b w) ?_;refine ac.no rfl ?_;intro w1 hw1;have hB:Below w.heap.size w w1:=by subst hw1;exact(Below.refl _ _).drew
 obtain⟨c,hblk,hc⟩:=h.on hB;obtain⟨a,rfl⟩:∃n:Nat,a=n:=⟨a.toNat,by omega⟩;obtain⟨b,rfl⟩:∃n:Nat,b=n:=⟨b.toNat,by omega⟩;have adr:∀n:Nat,((⟨p,0,none⟩:Addr).add 0).add ((n:Int).toNat*1)=(⟨p,0,none⟩:Addr).add n:=fun n=>by
  rw [aB,aB,aB];simp
 have ra:=pY ok1 a;have rb:=pY ok1 b;refine af.mk _ rfl ⟨ha.1,ha.2,_,by rw [adr,ai p _ hblk];exact hc.cls a (by omega),af.mk _ rfl ⟨hb.1,hb.2,_,by rw [adr,ai p _ hblk];exact hc.cls b (by omega),ac.mk (fun h0=>?_) fun h0=>?_⟩⟩
 ·have h0:eh cls a≠eh cls b:=by simpa using h0
  obtain⟨x,hx⟩:∃x:Nat,eh cls a=(x:Int):=⟨(eh cls a).toNat,by omega⟩;obtain⟨y,hy⟩:∃y:Nat,eh cls b=(y:Int):=⟨(eh cls b).toNat,by omega⟩;have hadr:(((⟨p,0,none⟩:Addr).add 256).add ((eh cls a).toNat*16)).add ((eh cls b).toNat*1)=(⟨p,0,none⟩:Addr).add (256+x*16+y):=by
   rw [aB,aB,aB,aB,hx,hy];simp
  refine af.mk _ rfl ⟨ra.1,ra.2,rb.1,rb.2,_,by rw [hadr,ai p _ hblk];exact hc.join x y (by omega) (by omega),?_,hB⟩;congr 1;rw [cutB,rZ, ←hx, ←hy];simp [h0]
 ·have h0:eh cls a=eh cls b:=by simpa using h0
  refine⟨?_,hB⟩;rw [cutB,decide_eq_false (by simp [h0])]
def gL (f:Nat→Bool):Nat→Nat
 |0=>0
 |i+1=>gL f i+if f i then 1 else 0
theorem pR {f:Nat→Bool}:∀n,gL f n=0↔∀i,i<n→f i=false
 |0=>by simp [gL]
 |n+1=>by
  rw [gL];have:=pR (f:=f) n;constructor
  ·intro h i hi;rcases Nat.lt_succ_iff_lt_or_eq.1 hi with h' |h'
   ·exact this.1 (by omega) i h'
   ·subst h';cases hf:f i with
    |false=>rfl
    |true=>rw [hf]at h;simp at h
  ·intro h;rw [this.2 fun i hi=>h i (by omega),h n (by omega)];rfl
theorem un (f:Nat→Bool):∀n,gL f n≤n
 |0=>Nat.le_refl _
 |n+1=>by
  have:=un f n;rw [gL];split<;>omega
def fR (cut:Int→Int→Bool) (s:Bs) (j:Nat):Bool:=if j=s.length then true else match s[j-1]?,s[j]? with
 |some x,some y=>decide (1≤j)&&cut x.toNat y.toNat
 |_,_=>false
theorem AP (w:World) (p:Nat) (cls:List (Int×Int×Int)) (js:List (Int×Int)) (h:sJ w p cls js) (ok1:∀c∈cls,aQ c=true) (s:Bs) (hs:s.length≤1000000):
  CP 212 #[.pointer (some ⟨p,0,none⟩),.string (str s)] w fun e w'=>∃a n c,e= .returned (.slice a n c)∧(n=if s= []then 0 else gL (fR (cutB cls js) s) (s.length+1))∧Below w.heap.size w w':=by
 refine aN (zk (some ⟨p,0,none⟩) (str s) w) ?_;intro I hI;have hz:(str s).size=s.length:=aR s;by_cases hn:s= []
 ·subst hn;refine hI _ _ _ _ _ _ (ac.no (by rw [hz];simp) ⟨none,0,0,rfl,by simp,Below.refl _ _⟩)
 have hpos:0<s.length:=List.length_pos_iff.2 hn;have c1:fR (cutB cls js) s 0=false:=by
  unfold fR;rw [if_neg (by omega)];split<;>simp
 have key:=bj (α:=Int×Sl×List Value×World) s.length (fun k x=>0≤x.1∧x.1≤k∧x.2.1.n=gL (fR (cutB cls js) s) (k+1)∧x.2.2.2.ownsRow w.heap.size fE 1 x.2.1.v x.2.1.n x.2.2.1∧Below w.heap.size w x.2.2.2) (fun k x=>I [.int .i64 ((k:Int)+1),.int .i64 x.1,x.2.1.v] x.2.2.2) (0,⟨none,0,0⟩,[],w) ⟨by simp,by simp,by simp [gL,c1],cO _ _ _ _,Below.refl _ _⟩ ?_ ?_
 ·exact key
 ·rintro k hk ih ⟨from_,l,xs,w1⟩ ⟨f0,f1,hl,hown,hB⟩;change 0≤from_ at f0;change from_≤(k:Int)at f1;change l.n=_ at hl;change w1.ownsRow w.heap.size fE 1 l.v l.n xs at hown;change Below w.heap.size w w1 at hB;have hcl:=un (fR (cutB cls js) s) (k+1);refine hI _ _ _ _ _ _ (ac.yes (by rw [hz];simp;omega) ?_);intro J hJ w3 hw3;have hB3:Below w.heap.size w w3:=by subst hw3;exact hB.drew
  have hown3:w3.ownsRow w.heap.size fE 1 l.v l.n xs:=by subst hw3;exact im hown
  have push:∀(w4:World),Below w.heap.size w w4→w4.ownsRow w.heap.size fE 1 l.v l.n xs→fR (cutB cls js) s (k+1)=true→
    (0:Int)≤from_∧from_≤(k:Int)+1∧(k:Int)+1≤((str s).size:Int)∧
     ∀w5:World,w5=w4.alloc (.cells #[Value.string ((str s).extract from_.toNat ((k:Int)+1).toNat)] fE)→
     ∃lA_8:Option Addr,∃lN_9:Nat,∃lC_10:Nat,∃w6:World,(Builtin.append_ #[ft,ft] ft #[Value.slice l.a l.n l.c,Value.slice (some (nb w4)) 1 1]).run Tryz.prog w5= .ok (Value.slice lA_8 lN_9 lC_10) w6∧
     J [Value.int .i64 ((k:Int)+1),Value.slice lA_8 lN_9 lC_10] w6:=by
   intro w4 hB4 hown4 hcut;refine⟨f0,by omega,by rw [hz];omega,?_⟩;rintro w5 rfl;obtain⟨A,C,w6,hr,hown',hg,_⟩:=iw (P:=Tryz.prog) ft fE jW kd rfl (by decide) hown4 [Value.string ((str s).extract from_.toNat ((k:Int)+1).toNat)] rfl (by simp [Value.oneCell']) (by omega) (by omega) hB4.size;refine⟨A,l.n+1,C,w6,hr,hJ _ _ _ _ _ ?_⟩;refine Ar.ok64 (by omega) (by omega) (ih ((k:Int)+1,⟨A,l.n+1,C⟩,_,w6) ⟨by show(0:Int)≤(k:Int)+1;omega,by show(k:Int)+1≤((k+1:Nat):Int);omega,?_,hown',fi hB4 hown4 hg hB4.size⟩);show l.n+1=_;rw [gL,hcut,hl];rfl
  refine ac.mk (fun h0=>?_) fun h0=>?_
  ·have h0:(k:Int)+1=((str s).size:Int):=by simpa using h0
   exact push w3 hB3 hown3 (by unfold fR;rw [if_pos (by omega)])
  ·have h0:(k:Int)+1≠((str s).size:Int):=by simpa using h0
   have hk1:k+1<s.length:=by omega
   refine Ar.ok64 (by omega) (by omega) ⟨by omega,by rw [hz];omega,by omega,by rw [hz];omega,?_⟩;have e1:eu (str s) ((k:Int)+1-1)=((s[k]).toNat:Int):=by
    rw [show(k:Int)+1-1=((k:Nat):Int) by omega];exact eU s k hk
   have e2:eu (str s) ((k:Int)+1)=((s[k+1]).toNat:Int):=by
    rw [show(k:Int)+1=((k+1:Nat):Int) by omega];exact eU s (k+1) hk1
   rw [e1,e2];have b1:=(s[k]).toNat_lt;have b2:=(s[k+1]).toNat_lt;refine(o_ w3 p cls js (h.on (hB3.mono (by exact Nat.le_refl _))) ok1 _ _ (by omega) (by omega)).mono ?_;rintro e w6 ⟨rfl,hB6⟩;have hcp:fR (cutB cls js) s (k+1)=cutB cls js (s[k]).toNat (s[k+1]).toNat:=by
    unfold fR;rw [if_neg (by omega),Nat.add_sub_cancel,List.getElem?_eq_getElem hk,List.getElem?_eq_getElem hk1];simp
   have hB36:Below w.heap.size w w6:=hB3.trans (hB6.mono hB3.size);refine⟨_,rfl,ac.mk (fun h1=>?_) fun h1=>?_⟩
   ·exact push w6 hB36 (aF hown3 hB6) (by rw [hcp,h1])
   ·refine hJ _ _ _ _ _ (Ar.ok64 (by omega) (by omega) (ih (from_,l,xs,w6) ⟨f0,by show from_≤((k+1:Nat):Int);omega,?_,aF hown3 hB6,hB36⟩));show l.n=_;rw [gL,hcp,h1,hl];rfl
 ·rintro⟨from_,l,xs,w1⟩ ⟨f0,f1,hl,hown,hB⟩;refine hI _ _ _ _ _ _ (ac.no (by rw [hz];simp;omega) ⟨_,_,_,rfl,?_,hB⟩);rw [if_neg hn];exact hl
def nc (cut:Int→Int→Bool) (s:Bs):Bool:=decide (∀j,j<s.length→fR cut s j=false)
theorem Cn (w:World) (p:Nat) (cls:List (Int×Int×Int)) (js:List (Int×Int)) (h:sJ w p cls js) (ok1:∀c∈cls,aQ c=true) (s:Bs) (hs:s.length≤1000000):
  CP 165 #[.pointer (some ⟨p,0,none⟩),.string (str s)] w fun e w'=>e= .returned (.bool (nc (cutB cls js) s))∧Below w.heap.size w w':=by
 refine aJ (yZ (some ⟨p,0,none⟩) (str s) w (fun v w'=>v= .bool (nc (cutB cls js) s)∧Below w.heap.size w w') ?_) (by rintro v w' ⟨rfl,h⟩;exact⟨rfl,h⟩);refine(AP w p cls js h ok1 s hs).mono ?_;rintro e w1 ⟨a,n,c,rfl,hn,hB⟩;refine⟨a,n,c,rfl,?_,hB⟩;congr 1;unfold nc;refine decide_eq_decide.2 ?_;by_cases he:s= []
 ·subst he;rw [if_pos rfl]at hn;subst hn;simp
 ·rw [if_neg he,gL]at hn;have:fR (cutB cls js) s s.length=true:=by unfold fR;rw [if_pos rfl]
  rw [this]at hn;rw [←pR];simp only [if_true]at hn;omega
def kX (cut:Int→Int→Bool) (a b:Bs):Bool:=match a.getLast?,b.head? with
 |some x,some y=>cut x.toNat y.toNat
 |_,_=>false
theorem vU (w:World) (p:Nat) (cls:List (Int×Int×Int)) (js:List (Int×Int)) (h:sJ w p cls js) (ok1:∀c∈cls,aQ c=true) (a b:Bs) (ha:a.length≤1000000):
  CP 176 #[.pointer (some ⟨p,0,none⟩),.string (str a),.string (str b)] w fun e w'=>e= .returned (.bool (kX (cutB cls js) a b))∧Below w.heap.size w w':=by
 refine aN (B_ (some ⟨p,0,none⟩) (str a) (str b) w) ?_;intro w1 hw1;have hB:Below w.heap.size w w1:=by subst hw1;exact(Below.refl _ _).drew
 cases a with
 |nil=>exact ac.no (by simp) ⟨rfl,hB⟩
 |cons x a=>
  refine ac.yes (by rw [cu];simp) ?_;cases b with
  |nil=>refine ac.no (by simp) ⟨by simp [kX],hB⟩
  |cons y b=>
   refine ac.yes (by rw [cu];simp) ?_;have hlt:(x::a).length-1< (x::a).length:=by simp
   simp only [aR,List.length_cons]at*;refine Ar.ok64 (by omega) (by omega) ⟨by omega,by omega,Int.le_refl _,by omega,?_⟩;have e1:eu (str (x::a)) (((a.length+1:Nat):Int)-1)=(((x::a)[a.length]).toNat:Int):=by
    rw [show((a.length+1:Nat):Int)-1=((a.length:Nat):Int) by omega];exact eU (x::a) a.length (by simp)
   have e2:eu (str (y::b)) 0=(y.toNat:Int):=eU (y::b) 0 (by simp);rw [e1,e2];have b1:=((x::a)[a.length]).toNat_lt;have b2:=y.toNat_lt;refine(o_ w1 p cls js (h.on hB) ok1 _ _ (by omega) (by omega)).mono ?_;rintro e w2 ⟨rfl,hB2⟩;refine⟨_,rfl,?_,ae hB hB2⟩;congr 1;have:(x::a).getLast?=some ((x::a)[a.length]):=by
    rw [List.getLast?_eq_getElem?];simp
   rw [kX,this];rfl
def cz (a b c:Int):List Int→List Int
 | []=>[]
 | [x]=>[x]
 |x::y::r=>if x=a∧y=b then c::cz a b c r else x::cz a b c (y::r)
theorem bX (a b c:Int) (r:List Int):cz a b c (a::b::r)=c::cz a b c r:=by simp [cz]
theorem ce {a b c x y:Int} (r:List Int) (h:¬(x=a∧y=b)):cz a b c (x::y::r)=x::cz a b c (y::r):=by simp [cz,h]
theorem um {a b c x:Int} (l:List Int) (h:x≠a):cz a b c (x::l)=x::cz a b c l:=by
 cases l with
 |nil=>rfl
 |cons y r=>exact ce r fun e=>h e.1
def fg (a b:Int) (l:List Int):Prop:=∃u v,l=u++a::b::v
theorem kM {a b x:Int} {l:List Int} (h:fg a b l):fg a b (x::l):=by
 obtain⟨u,v,rfl⟩:=h;exact⟨x::u,v,rfl⟩
theorem uB {a b c:Int}:∀l:List Int,¬fg a b l→cz a b c l=l
 | [],_=>rfl
 | [x],_=>rfl
 |x::y::r,h=>by
  have h1:¬(x=a∧y=b):=by
   rintro⟨rfl,rfl⟩;exact h ⟨[],r,rfl⟩
  rw [ce r h1,uB (y::r) fun e=>h (kM e)]
theorem sN {a b c:Int}:∀(u v:List Int),¬fg a b (u++ [a])→cz a b c (u++a::b::v)=u++c::cz a b c v
 | [],v,_=>bX a b c v
 | [x],v,h=>by
  have hx:¬(x=a∧a=b):=by
   rintro⟨rfl,rfl⟩;exact h ⟨[],[],rfl⟩
  rw [List.cons_append,List.nil_append,ce (b::v) hx,bX];rfl
 |x::y::u,v,h=>by
  have hx:¬(x=a∧y=b):=by
   rintro⟨rfl,rfl⟩;exact h ⟨[],u++ [x],rfl⟩
  have:=sN (c:=c) (y::u) v fun e=>h (by rw [List.cons_append];exact kM e);rw [List.cons_append,List.cons_append,ce _ hx];rw [List.cons_append]at this;rw [this];rfl
theorem rQ {a b c:Int} (hca:c≠a) (hcb:c≠b):∀(u v:List Int),¬fg a b u→cz a b c (u++c::v)=u++c::cz a b c v
 | [],v,_=>um v hca
 | [x],v,_=>by
  rw [List.cons_append,List.nil_append,ce v fun e=>hcb e.2,um v hca];rfl
 |x::y::u,v,h=>by
  have hx:¬(x=a∧y=b):=by
   rintro⟨rfl,rfl⟩;exact h ⟨[],u,rfl⟩
  have:=rQ hca hcb (y::u) v fun e=>h (kM e);rw [List.cons_append,List.cons_append,ce _ hx];rw [List.cons_append]at this;rw [this];rfl
theorem Ab {a b:Int} {u v:List Int} (h:fg a b u):fg a b (u++v):=by
 obtain⟨p,q,rfl⟩:=h;exact⟨p,q++v,by simp⟩
def cK (k:Int):List (Int×Int)→List Int→List Int
 | [],l=>l
 |m::ms,l=>cK (k+1) ms (cz m.1 m.2 k l)
def iT (k:Int):List (Int×Int)→Prop
 | []=>True
 |m::ms=>m.1<k∧m.2<k∧iT (k+1) ms
theorem ic:∀(ms:List (Int×Int)) (k:Int) (l:List Int),(∀m∈ms,¬fg m.1 m.2 l)→cK k ms l=l
 | [],k,l,_=>rfl
 |m::ms,k,l,h=>by
  simp only [cK];rw [uB l (h m (by simp))];exact ic ms (k+1) l fun x hx=>h x (by simp [hx])
theorem dg:∀(a b:List (Int×Int)) (k:Int) (l:List Int),cK k (a++b) l=cK (k+a.length) b (cK k a l)
 | [],b,k,l=>by simp [cK]
 |m::a,b,k,l=>by
  simp only [List.cons_append,cK];rw [dg a b];congr 1;simp;omega
theorem fO:∀ {ms:List (Int×Int)} {k:Int},iT k ms→∀(i:Nat) (m:Int×Int),ms[i]? =some m→m.1<k+i∧m.2<k+i
 | [],k,_,i,m,hi=>by simp at hi
 |x::ms,k,h,0,m,hi=>by
  simp at hi;subst hi;exact⟨by have:=h.1;omega,by have:=h.2.1;omega⟩
 |x::ms,k,h,i+1,m,hi=>by
  have:=fO h.2.2 i m (by simpa using hi);omega
def L8 (ms:List (Int×Int)) (l:List Int):Prop:=∀m∈ms,¬fg m.1 m.2 l
theorem C9 {a b c x y:Int} {u v:List Int} (h:fg x y (u++c::v)) (hn:¬fg x y (u++a::b::v)):x=c∨y=c:=by
 obtain⟨p,q,he⟩:=h;rcases List.append_eq_append_iff.1 he with⟨t,ht,hc⟩ |⟨t,ht,hc⟩
 ·cases t with
  |nil=>simp at hc;exact .inl hc.1.symm
  |cons t0 t=>
   simp at hc;exfalso;apply hn;rw [hc.2];exact⟨u++a::b::t,q,by simp⟩
 ·match t,ht,hc with
  | [],_,hc=>simp at hc;exact .inl hc.1
  | [x'],_,hc=>simp at hc;exact .inr hc.2.1
  |x'::y'::t,ht,hc=>
   simp at hc;exfalso;apply hn;rw [ht, ←hc.1, ←hc.2.1];exact⟨p,t++a::b::v,by simp⟩
theorem IX {k:Int} {low high:List (Int×Int)} {m:Int×Int} {u v:List Int} (hs:iT k (low++m::high)) (hq:L8 low (u++m.1::m.2::v)) (hf:¬fg m.1 m.2 (u++ [m.1])):
  cK k (low++m::high) (u++m.1::m.2::v)=cK k (low++m::high) (u++(k+low.length)::v):=by
 have hq':L8 low (u++(k+low.length)::v):=by
  intro x hx hb;obtain⟨i,hi,hxi⟩:=List.getElem_of_mem hx;have hlt:=fO hs i x (by rw [List.getElem?_append_left hi,List.getElem?_eq_getElem hi,hxi]);rcases C9 (a:=m.1) (b:=m.2) hb (hq x hx)with e |e<;>omega
 rw [dg,dg,ic low k _ hq,ic low k _ hq'];have hm:=fO hs low.length m (by rw [List.getElem?_append_right (Nat.le_refl _)];simp);simp only [cK];rw [sN u v hf,rQ (by omega) (by omega) u v fun e=>hf (Ab e)]
def sR (ms:List (Int×Int)) (below:Int) (l:List Int):List Int:=cK 256 (ms.take (below-256).toNat) l
theorem lP {a b c:Int}:∀(l P' Q':List Int),cz a b c l=P'++Q'→∃P Q,l=P++Q∧cz a b c P=P'∧cz a b c Q=Q'
 | [],P',Q',h=>by
  have h:=List.append_eq_nil_iff.1 h.symm;exact⟨[],[],rfl,h.1.symm,h.2.symm⟩
 | [x],[],Q',h=>⟨[],[x],rfl,rfl,h⟩
 | [x],p::P',Q',h=>by
  simp only [cz,List.cons_append,List.cons.injEq]at h;have h2:=List.append_eq_nil_iff.1 h.2.symm;exact⟨[x],[],by simp,by rw [←h.1,h2.1];rfl,by rw [h2.2];rfl⟩
 |x::y::r,[],Q',h=>⟨[],_,rfl,rfl,h⟩
 |x::y::r,p::P',Q',h=>by
  by_cases hx:x=a∧y=b
  ·obtain⟨rfl,rfl⟩:=hx;rw [bX,List.cons_append,List.cons.injEq]at h;obtain⟨P,Q,h1,h2,h3⟩:=lP r P' Q' h.2;exact⟨x::y::P,Q,by rw [h1];rfl,by rw [bX,h2,h.1],h3⟩
  ·rw [ce r hx,List.cons_append,List.cons.injEq]at h;obtain⟨P,Q,h1,h2,h3⟩:=lP (y::r) P' Q' h.2;refine⟨x::P,Q,by rw [h1];rfl,?_,h3⟩;cases P with
   |nil=>rw [←h2,h.1];rfl
   |cons z P=>
    simp only [List.cons_append,List.cons.injEq]at h1;rw [ce P (by rw [←h1.1];exact hx),h2,h.1]
theorem pp {a b c:Int}:∀(X Y:List Int),cz a b c (X++Y)=cz a b c X++cz a b c Y∨(∃X' Y',X=X'++ [a]∧Y=b::Y'∧cz a b c X=cz a b c X'++ [a])
 | [],Y=>.inl rfl
 | [x],[]=>.inl rfl
 | [x],y::Y=>by
  by_cases hx:x=a∧y=b
  ·obtain⟨rfl,rfl⟩:=hx;exact .inr ⟨[],Y,rfl,rfl,rfl⟩
  ·refine .inl ?_;rw [List.cons_append,List.nil_append,ce Y hx];rfl
 |x::y::r,Y=>by
  by_cases hx:x=a∧y=b
  ·obtain⟨rfl,rfl⟩:=hx;rcases pp (c:=c) r Y with h |⟨X',Y',h1,h2,h3⟩
   ·refine .inl ?_;rw [List.cons_append,List.cons_append,bX,bX,h];rfl
   ·refine .inr ⟨x::y::X',Y',by rw [h1];rfl,h2,?_⟩;rw [bX,bX,h3];rfl
  ·rcases pp (c:=c) (y::r) Y with h |⟨X',Y',h1,h2,h3⟩
   ·refine .inl ?_;rw [List.cons_append,List.cons_append,ce _ hx,ce _ hx];rw [List.cons_append]at h;rw [h];rfl
   ·refine .inr ⟨x::X',Y',by rw [h1];rfl,h2,?_⟩;rw [ce r hx,h3];cases X' with
    |nil=>rfl
    |cons z X'=>
     simp only [List.cons_append,List.cons.injEq]at h1;rw [ce X' (by rw [←h1.1];exact hx)];rfl
theorem m_ {a b c:Int}:∀(X Y:List Int),cz a b c (X++ [a])=cz a b c X++ [a]→cz a b c (X++a::b::Y)=cz a b c X++c::cz a b c Y
 | [],Y,_=>bX a b c Y
 | [x],Y,h=>by
  by_cases hx:x=a∧a=b
  ·obtain⟨rfl,rfl⟩:=hx;rw [List.cons_append,List.nil_append,bX]at h;have:=congrArg List.length h;simp [cz]at this
  ·rw [List.cons_append,List.nil_append,ce _ hx,bX];rfl
 |x::y::r,Y,h=>by
  by_cases hx:x=a∧y=b
  ·obtain⟨rfl,rfl⟩:=hx;rw [List.cons_append,List.cons_append,bX,bX,List.cons_append,List.cons.injEq]at h;rw [List.cons_append,List.cons_append,bX,bX,m_ r Y h.2];rfl
  ·rw [List.cons_append,List.cons_append,ce _ hx,ce _ hx,List.cons_append,List.cons.injEq]at h;have:=m_ (y::r) Y (by rw [List.cons_append];exact h.2);rw [List.cons_append,List.cons_append,ce _ hx,ce _ hx];rw [List.cons_append]at this;rw [this];rfl
theorem oX {a b c:Int} (hca:c≠a):∀(X:List Int),(cz a b c X).getLast?=some a→∃X',X=X'++ [a]∧cz a b c X=cz a b c X'++ [a]
 | [],h=>by simp [cz]at h
 | [x],h=>by
  simp [cz]at h;subst h;exact⟨[],rfl,rfl⟩
 |x::y::r,h=>by
  by_cases hx:x=a∧y=b
  ·obtain⟨rfl,rfl⟩:=hx;rw [bX]at h;cases hr:cz x y c r with
   |nil=>rw [hr]at h;simp at h;exact absurd h hca
   |cons z t=>
    rw [hr,List.getLast?_cons_cons, ←hr]at h;obtain⟨X',h1,h2⟩:=oX hca r h;exact⟨x::y::X',by rw [h1];rfl,by rw [bX,bX,h2];rfl⟩
  ·rw [ce r hx]at h;have hne:cz a b c (y::r)≠ []:=by
    cases r with
    |nil=>simp [cz]
    |cons z r=>simp only [cz];split<;>simp
   cases hr:cz a b c (y::r)with
   |nil=>exact absurd hr hne
   |cons z t=>
    rw [hr,List.getLast?_cons_cons, ←hr]at h;obtain⟨X',h1,h2⟩:=oX hca (y::r) h;refine⟨x::X',by rw [h1];rfl,?_⟩;rw [ce r hx,h2];cases X' with
    |nil=>rfl
    |cons u X'=>
     simp only [List.cons_append,List.cons.injEq]at h1;rw [ce X' (by rw [←h1.1];exact hx)];rfl
theorem qH {a b c:Int} {l:List Int} (h:l≠ []):cz a b c l≠ []:=by
 match l,h with
 | [x],_=>simp [cz]
 |x::y::r,_=>simp only [cz];split<;>simp
section
variable (ms:List (Int×Int))
def after (k:Nat) (s:List Int):List Int:=cK 256 (ms.take k) s
theorem cV (s:List Int):after ms 0 s=s:=by simp [after,cK]
theorem cj {k:Nat} {m:Int×Int} (h:ms[k]? =some m) (s:List Int):after ms (k+1) s=cz m.1 m.2 (256+k) (after ms k s):=by
 have hk:=(List.getElem?_eq_some_iff.1 h).1;unfold after;rw [List.take_add_one,h,dg,List.length_take,Nat.min_eq_left (by omega)];rfl
theorem jH {s:List Int} (h:s≠ []):∀k,after ms k s≠ []
 |0=>by rw [cV];exact h
 |k+1=>by
  cases hm:ms[k]? with
  |none=>
   have hk:=List.getElem?_eq_none_iff.1 hm;have:after ms (k+1) s=after ms k s:=by
    unfold after;rw [List.take_of_length_le (by omega),List.take_of_length_le (by omega)]
   rw [this];exact jH h k
  |some m=>rw [cj ms hm];exact qH (jH h k)
theorem after_nil:∀k,after ms k []= []
 |0=>cV ms []
 |k+1=>by
  cases hm:ms[k]? with
  |none=>
   have hk:=List.getElem?_eq_none_iff.1 hm;have:after ms (k+1) []=after ms k []:=by
    unfold after;rw [List.take_of_length_le (by omega),List.take_of_length_le (by omega)]
   rw [this,after_nil k]
  |some m=>rw [cj ms hm,after_nil k];rfl
theorem kx:∀(k:Nat),k≤ms.length→∀(s P' Q':List Int),after ms k s=P'++Q'→∃P Q,s=P++Q∧after ms k P=P'∧after ms k Q=Q'
 |0,_,s,P',Q',h=>⟨P',Q',by rwa [cV]at h,cV ms P',cV ms Q'⟩
 |k+1,hk,s,P',Q',h=>by
  have hm:ms[k]? =some ms[k]:=List.getElem?_eq_getElem (by omega);rw [cj ms hm]at h;obtain⟨P1,Q1,h1,h2,h3⟩:=lP _ _ _ h;obtain⟨P,Q,e,e1,e2⟩:=kx k (by omega) s P1 Q1 h1;exact⟨P,Q,e,by rw [cj ms hm,e1,h2],by rw [cj ms hm,e2,h3]⟩
variable (ex:Int→List Int)
structure oP:Prop where
 low:∀t,0≤t→t<256→ex t= [t]
 high:∀(k:Nat) (m:Int×Int),ms[k]? =some m→ex ((256:Int)+(k:Nat))=ex m.1++ex m.2
 sound:iT 256 ms
 ne:∀(k:Nat) (m:Int×Int),ms[k]? =some m→ex m.1≠ []∧ex m.2≠ []
def bI (l:List Int):List Int:=l.flatMap ex
variable {ms ex}
theorem dT (a b:List Int):bI ex (a++b)=bI ex a++bI ex b:=by simp [bI]
theorem fp {a b c:Int} (h:ex c=ex a++ex b):∀l,bI ex (cz a b c l)=bI ex l
 | []=>rfl
 | [x]=>rfl
 |x::y::r=>by
  by_cases hx:x=a∧y=b
  ·obtain⟨rfl,rfl⟩:=hx;rw [bX];have:=fp h r;simp only [bI,List.flatMap_cons]at this⊢;rw [this,h,List.append_assoc]
  ·rw [ce r hx];have:=fp h (y::r);simp only [bI,List.flatMap_cons]at this⊢;rw [this]
theorem cN (hS:oP ms ex):∀(k:Nat),k≤ms.length→∀s,bI ex (after ms k s)=bI ex s
 |0,_,s=>by rw [cV]
 |k+1,hk,s=>by
  have hm:ms[k]? =some ms[k]:=List.getElem?_eq_getElem (by omega);rw [cj ms hm,fp (hS.high k _ hm),cN hS k (by omega)]
def dC (ms:List (Int×Int)) (X Y:List Int) (k:Nat):Prop:=∃m,ms[k]? =some m∧(after ms (k+1) X).getLast?=some m.1∧(after ms k Y).head?=some m.2
theorem il {X Y:List Int}:∀(k:Nat),k≤ms.length→(∀j,j<k→¬dC ms X Y j)→after ms k (X++Y)=after ms k X++after ms k Y
 |0,_,_=>by rw [cV,cV,cV]
 |k+1,hk,h=>by
  have hm:ms[k]? =some ms[k]:=List.getElem?_eq_getElem (by omega);rw [cj ms hm,cj ms hm,cj ms hm,il k (by omega) fun j hj=>h j (by omega)];rcases pp (c:=256+(k:Nat)) (a:=ms[k].1) (b:=ms[k].2) (after ms k X) (after ms k Y)with e |⟨X',Y',h1,h2,h3⟩
  ·exact e
  ·exfalso;refine h k (by omega) ⟨ms[k],hm,?_,?_⟩
   ·rw [cj ms hm,h3];simp
   ·rw [h2];rfl
theorem Fo (hS:oP ms ex) {k:Nat} {m:Int×Int} (h:ms[k]? =some m):((256:Int)+(k:Nat))≠m.1:=by
 have:=(fO hS.sound k m h).1;omega
theorem mM (hS:oP ms ex) (N:Nat) (hN:N≤ms.length) (X Y:List Int):after ms N (X++Y)=after ms N X++after ms N Y↔∀k,k<N→¬dC ms X Y k:=by
 constructor
 ·intro h k;induction k using Nat.strongRecOn with
  |ind k ih=>
   intro hk hc;have hfree:=il (X:=X) (Y:=Y) k (by omega) fun j hj=>ih j hj (by omega);obtain⟨m,hm,hl,hh⟩:=hc;rw [cj ms hm]at hl;obtain⟨X',h1,h2⟩:=oX (Fo hS hm) _ hl;obtain⟨Y',hY⟩:∃Y',after ms k Y=m.2::Y':=by
    cases hy:after ms k Y with
    |nil=>rw [hy]at hh;cases hh
    |cons z Y'=>rw [hy]at hh;cases hh;exact⟨Y',rfl⟩
   have hnext:after ms (k+1) (X++Y)=cz m.1 m.2 ((256:Int)+(k:Nat)) X'++((256:Int)+(k:Nat))::cz m.1 m.2 ((256:Int)+(k:Nat)) Y':=by
    rw [cj ms hm,hfree,h1,hY,List.append_assoc];exact m_ X' Y' (by rw [←h1];exact h2)
   have hrest:∀d s,after ms (k+1+d) s=cK (256+((k+1:Nat):Int)) ((ms.drop (k+1)).take d) (after ms (k+1) s):=by
    intro d s;unfold after;rw [List.take_add,dg,List.length_take,Nat.min_eq_left (by omega)]
   have hback:∀(d:Nat),d≤(ms.drop (k+1)).length→∀(s P' Q':List Int),cK (256+((k+1:Nat):Int)) ((ms.drop (k+1)).take d) s=P'++Q'→∃P Q,s=P++Q∧bI ex P=bI ex P'∧bI ex Q=bI ex Q':=by
    intro d;induction d with
    |zero=>intro _ s P' Q' h;exact⟨P',Q',by simpa [cK]using h,rfl,rfl⟩
    |succ d ihd=>
     intro hd s P' Q' h;have hlt:k+1+d<ms.length:=by rw [List.length_drop]at hd;omega
     have hmd:(ms.drop (k+1))[d]? =some ms[k+1+d]:=by rw [List.getElem?_drop,List.getElem?_eq_getElem hlt]
     rw [List.take_add_one,hmd,dg,List.length_take,Nat.min_eq_left (by omega)]at h;simp only [Option.toList_some,cK]at h;obtain⟨P1,Q1,g1,g2,g3⟩:=lP _ _ _ h;obtain⟨P,Q,e,e1,e2⟩:=ihd (by omega) s P1 Q1 g1;have hex:ex (256+((k+1:Nat):Int)+(d:Nat))=ex ms[k+1+d].1++ex ms[k+1+d].2:=by
      rw [←hS.high (k+1+d) _ (List.getElem?_eq_getElem hlt)];congr 1;omega
     exact⟨P,Q,e,by rw [e1, ←g2,fp hex],by rw [e2, ←g3,fp hex]⟩
   have hall:=hrest (N- (k+1)) (X++Y);rw [show k+1+(N- (k+1))=N by omega,h]at hall;obtain⟨P,Q,e,e1,e2⟩:=hback (N- (k+1)) (by rw [List.length_drop];omega) _ _ _ hall.symm;rw [hnext]at e;rw [cN hS _ hN]at e1;have hXX:bI ex X=bI ex (cz m.1 m.2 ((256:Int)+(k:Nat)) X')++ex m.1:=by
    rw [←cN hS k (by omega) X,h1,dT,fp (hS.high k m hm)];simp [bI]
   have hc:=hS.high k m hm;obtain⟨na,nb⟩:=hS.ne k m hm;rw [hXX]at e1;rcases List.append_eq_append_iff.1 e with⟨t,ht,_⟩ |⟨t,ht,hq⟩
   ·-- P reaches beyond
    cases t with
    |nil=>
     rw [List.append_nil]at ht;rw [ht]at e1;have:=congrArg List.length e1;rw [List.length_append]at this;have:0< (ex m.1).length:=List.length_pos_iff.2 na;omega
    |cons z t=>
     rename_i hcq;simp only [List.cons_append,List.cons.injEq]at hcq;rw [ht,dT]at e1;have h3:=congrArg List.length e1;rw [List.length_append,List.length_append]at h3;have h4:(ex ((256:Int)+(k:Nat))).length≤(bI ex (z::t)).length:=by
      rw [hcq.1];simp [bI]
     rw [hc,List.length_append]at h4;have:0< (ex m.2).length:=List.length_pos_iff.2 nb;omega
   ·have h3:=congrArg List.length e1;have h4:=congrArg List.length (congrArg (bI ex) ht);rw [dT]at h4;rw [List.length_append]at h3 h4;have:0< (ex m.1).length:=List.length_pos_iff.2 na;omega
 ·exact il N hN
end
theorem fr (l:List Int) {r:List Int} (h:r≠ []):(l++r).getLast?=r.getLast?:=by
 rw [List.getLast?_append];cases hr:r.getLast? with
 |none=>exact absurd (List.getLast?_eq_none_iff.1 hr) h
 |some x=>rfl
theorem rR (r:List Int) {l:List Int} (h:l≠ []):(l++r).head?=l.head?:=by
 cases l with
 |nil=>exact absurd rfl h
 |cons x l=>rfl
theorem fQ (x:Int):∀(ms:List (Int×Int)) (k:Int),cK k ms [x]= [x]
 | [],k=>rfl
 |m::ms,k=>by simp only [cK,cz];exact fQ x ms (k+1)
theorem pS {t:Int}:∀(ms:List (Int×Int)) (k:Int) (l:List Int),t<k→cK k ms l= [t]→l= [t]
 | [],k,l,_,h=>h
 |m::ms,k,l,ht,h=>by
  have h1:=pS ms (k+1) _ (by omega) h
  match l,h1 with
  | [x],h1=>exact h1
  |x::y::r,h1=>
   exfalso;by_cases hx:x=m.1∧y=m.2
   ·obtain⟨rfl,rfl⟩:=hx;rw [bX]at h1;simp at h1;omega
   ·rw [ce r hx]at h1;simp only [List.cons.injEq]at h1;exact qH (by simp) h1.2
section
variable {ms:List (Int×Int)} {ex:Int→List Int}
theorem sZ:∀(k:Nat),k≤ms.length→∀s:List Int,(∀x∈s,x<256)→∀x∈after ms k s,x<256+(k:Nat)
 |0,_,s,h,x,hx=>by rw [cV]at hx;have:=h x hx;omega
 |k+1,hk,s,h,x,hx=>by
  rw [cj ms (List.getElem?_eq_getElem (show k<ms.length by omega))]at hx;have ih:=sZ k (by omega) s h;have key:∀l:List Int,(∀y∈l,y<256+(k:Nat))→∀y∈cz ms[k].1 ms[k].2 ((256:Int)+(k:Nat)) l,y<256+((k+1:Nat):Int):=by
   intro l;induction l using cz.induct ms[k].1 ms[k].2 with
   |case1=>intro _ y hy;simp [cz]at hy
   |case2 x=>intro hl y hy;simp [cz]at hy;subst hy;have:=hl y (by simp);omega
   |case3 x y r hx ih=>
    obtain⟨rfl,rfl⟩:=hx;intro hl z hz;rw [bX]at hz;rcases List.mem_cons.1 hz with rfl |hz
    ·omega
    ·exact ih (fun u hu=>hl u (by simp [hu])) z hz
   |case4 x y r hx ih=>
    intro hl z hz;rw [ce r hx]at hz;rcases List.mem_cons.1 hz with rfl |hz
    ·have:=hl z (by simp);omega
    ·exact ih (fun u hu=>hl u (by simp [hu])) z hz
  exact key _ ih x hx
theorem vu (k:Nat) (x:Int):after ms k [x]= [x]:=fQ x _ _
theorem mV (k d:Nat) (hk:k≤ms.length) (s:List Int):after ms (k+d) s=cK ((256:Int)+(k:Nat)) ((ms.drop k).take d) (after ms k s):=by
 unfold after;rw [List.take_add,dg,List.length_take,Nat.min_eq_left hk]
def oD (ms:List (Int×Int)) (t:Int):Prop:=0≤t∧t<256+(ms.length:Nat)
theorem tG (hS:oP ms ex):∀(n:Nat) (t:Int),t.toNat≤n→0≤t→t<256+(ms.length:Nat)→(∀(i:Nat) (m:Int×Int),ms[i]? =some m→0≤m.1∧0≤m.2)→(∀x∈ex t,0≤x∧x<256)∧ex t≠ []
 |n,t,hn,h0,ht,hp=>by
  by_cases hlow:t<256
  ·rw [hS.low t h0 hlow];exact⟨fun x hx=>by simp at hx;omega,by simp⟩
  ·obtain⟨j,rfl⟩:∃j:Nat,t=256+(j:Nat):=⟨(t-256).toNat,by omega⟩;have hj:j<ms.length:=by omega
   have hm:ms[j]? =some ms[j]:=List.getElem?_eq_getElem hj;have hlt:=fO hS.sound j _ hm;have hnn:=hp j _ hm;obtain⟨n',rfl⟩:∃n',n=n'+1:=⟨n-1,by omega⟩;have h1:=tG hS n' ms[j].1 (by omega) hnn.1 (by omega) hp;have h2:=tG hS n' ms[j].2 (by omega) hnn.2 (by omega) hp;rw [hS.high j _ hm];refine⟨fun x hx=>?_,by simp [h1.2]⟩;rcases List.mem_append.1 hx with hx |hx
   ·exact h1.1 x hx
   ·exact h2.1 x hx
end
structure iG (ms:List (Int×Int)) (ex:Int→List Int):Prop where
 stands:oP ms ex
 pos:∀(i:Nat) (m:Int×Int),ms[i]? =some m→0≤m.1∧0≤m.2
section
variable {ms:List (Int×Int)} {ex:Int→List Int}
theorem iG.bytes (hG:iG ms ex) {t:Int} (ht:oD ms t):(∀x∈ex t,0≤x∧x<256)∧ex t≠ []:=tG hG.stands t.toNat t (Nat.le_refl _) ht.1 ht.2 hG.pos
theorem eB (hS:oP ms ex):∀s:List Int,(∀x∈s,0≤x∧x<256)→bI ex s=s
 | [],_=>rfl
 |x::s,h=>by
  have h1:=h x (by simp);simp only [bI,List.flatMap_cons];rw [hS.low x h1.1 h1.2];have:=eB hS s fun y hy=>h y (by simp [hy]);unfold bI at this;rw [this];rfl
def cJ (ms:List (Int×Int)) (ex:Int→List Int) (t:Int):Prop:=after ms ms.length (ex t)= [t]
theorem fC (hG:iG ms ex) {j:Nat} {m:Int×Int} (hm:ms[j]? =some m) (ha:cJ ms ex ((256:Int)+(j:Nat))):
  after ms (j+1) (ex ((256:Int)+(j:Nat)))= [(256:Int)+(j:Nat)]∧(∀k,k≤j→after ms k (ex ((256:Int)+(j:Nat)))=after ms k (ex m.1)++after ms k (ex m.2))∧cJ ms ex m.1∧cJ ms ex m.2:=by
 have hS:=hG.stands;have hj:=(List.getElem?_eq_some_iff.1 hm).1;have h1:after ms (j+1) (ex ((256:Int)+(j:Nat)))= [(256:Int)+(j:Nat)]:=by
  have h2:=mV (j+1) (ms.length- (j+1)) (show j+1≤ms.length by omega) (ex ((256:Int)+(j:Nat)));rw [show j+1+(ms.length- (j+1))=ms.length by omega]at h2;unfold cJ at ha;rw [ha]at h2;exact pS _ _ _ (by omega) h2.symm
 have hb:=hG.bytes (t:=256+(j:Nat)) ⟨by omega,by omega⟩;have hlt:=sZ (ms:=ms) j (by omega) (ex ((256:Int)+(j:Nat))) fun x hx=>(hb.1 x hx).2;have h2:after ms j (ex ((256:Int)+(j:Nat)))= [m.1,m.2]:=by
  rw [cj ms hm]at h1
  match hl:after ms j (ex ((256:Int)+(j:Nat))),h1 with
  | [x],h1=>
   exfalso;simp [cz]at h1;have:=hlt x (by rw [hl];simp);omega
  |x::y::r,h1=>
   by_cases hx:x=m.1∧y=m.2
   ·obtain⟨rfl,rfl⟩:=hx;rw [bX]at h1;simp only [List.cons.injEq]at h1;cases r with
    |nil=>rfl
    |cons z r=>exact absurd h1.2 (qH (by simp))
   ·rw [ce r hx]at h1;simp only [List.cons.injEq]at h1;exact absurd h1.2 (qH (by simp))
 have hex:=hS.high j m hm;have hlt2:=fO hS.sound j m hm;have hnn:=hG.pos j m hm;have b1:=hG.bytes (t:=m.1) ⟨hnn.1,by omega⟩;have b2:=hG.bytes (t:=m.2) ⟨hnn.2,by omega⟩;obtain⟨P,Q,e,e1,e2⟩:=kx ms j (by omega) _ [m.1] [m.2] (by rw [h2];rfl);have hsub:∀x∈P++Q,0≤x∧x<256:=by rw [←e];exact hb.1
 have hP:P=ex m.1:=by
  have h3:=cN hS j (by omega) P;rw [e1,eB hS P fun x hx=>hsub x (by simp [hx])]at h3;rw [←h3];simp [bI]
 have hQ:Q=ex m.2:=by
  have h3:=cN hS j (by omega) Q;rw [e2,eB hS Q fun x hx=>hsub x (by simp [hx])]at h3;rw [←h3];simp [bI]
 rw [hP]at e1;rw [hQ]at e2;have hfree:after ms j (ex m.1++ex m.2)=after ms j (ex m.1)++after ms j (ex m.2):=by rw [←hex,h2,e1,e2];rfl
 have hno:=(mM hS j (by omega) (ex m.1) (ex m.2)).1 hfree;have stay:∀x:Int,after ms j (ex x)= [x]→cJ ms ex x:=by
  intro x hx;unfold cJ;have h3:=mV j (ms.length-j) (show j≤ms.length by omega) (ex x);rw [show j+(ms.length-j)=ms.length by omega,hx]at h3;rw [h3,fQ]
 refine⟨h1,fun k hk=>?_,stay _ e1,stay _ e2⟩;rw [hex];exact il k (by omega) fun i hi=>hno i (by omega)
theorem jS (hG:iG ms ex) {t:Int} (ht:oD ms t) (ha:cJ ms ex t) {k:Nat} (hk:k≤ms.length) (h:t<256+(k:Nat)):after ms k (ex t)= [t]:=by
 by_cases hlow:t<256
 ·rw [hG.stands.low t ht.1 hlow];exact vu k t
 ·obtain⟨j,rfl⟩:∃j:Nat,t=256+(j:Nat):=⟨(t-256).toNat,by omega⟩;have hj:j<ms.length:=by have:=ht.2;omega
  obtain⟨h1,_⟩:=fC hG (List.getElem?_eq_getElem hj) ha;have h2:=mV (j+1) (k- (j+1)) (show j+1≤ms.length by omega) (ex ((256:Int)+(j:Nat)));rw [show j+1+(k- (j+1))=k by omega,h1]at h2;rw [h2,fQ]
def jh (ms:List (Int×Int)) (ex:Int→List Int) (a b limit:Int):Prop:=∀k,k<ms.length→256+(k:Int) <limit→¬dC ms (ex a) (ex b) k
theorem wv (hG:iG ms ex) {a b limit:Int} (ha:oD ms a) (hb:oD ms b) (aa:cJ ms ex a) (ab:cJ ms ex b) {i:Nat} (hi:ms[i]? =some (a,b)) (hl:256+(i:Int) <limit):¬jh ms ex a b limit:=by
 intro h;have hil:=(List.getElem?_eq_some_iff.1 hi).1;have hlt:=fO hG.stands.sound i _ hi;refine h i hil hl ⟨(a,b),hi,?_,?_⟩
 ·rw [jS hG ha aa (by omega) (by dsimp only at hlt;omega)];rfl
 ·rw [jS hG hb ab (by omega) (by dsimp only at hlt;omega)];rfl
theorem m0 (hG:iG ms ex) {a b:Int} (ha:oD ms a) (hb:oD ms b) (aa:cJ ms ex a) (ab:cJ ms ex b) {k:Nat} (hk:k<ms.length) (h1:a≤256+(k:Int)) (h2:b<256+(k:Int)) (h:dC ms (ex a) (ex b) k):ms[k]? =some (a,b):=by
 obtain⟨m,hm,hl,hh⟩:=h;rw [jS hG ha aa (by omega) (by omega)]at hl;rw [jS hG hb ab (by omega) (by omega)]at hh;simp at hl hh;rw [hm];congr 1;exact Prod.ext hl.symm hh.symm
theorem FO (hG:iG ms ex) {b limit:Int} {j:Nat} {m:Int×Int} (hm:ms[j]? =some m) (hb:oD ms b) (aa:cJ ms ex ((256:Int)+(j:Nat))) (ab:cJ ms ex b) (hba:b<256+(j:Nat)) (hlim:256+(j:Int)≤limit)
  (hno:∀i:Nat,ms[i]? =some (256+(j:Int),b)→limit≤256+(i:Int)):jh ms ex ((256:Int)+(j:Nat)) b limit↔jh ms ex m.2 b ((256:Int)+(j:Nat)):=by
 have hj:=(List.getElem?_eq_some_iff.1 hm).1;obtain⟨h1,h2,h3,h4⟩:=fC hG hm aa;have hnn:=hG.pos j m hm;have hlt:=fO hG.stands.sound j m hm;have b2:=hG.bytes (t:=m.2) ⟨hnn.2,by omega⟩;have same:∀k,k<j→(dC ms (ex ((256:Int)+(j:Nat))) (ex b) k↔dC ms (ex m.2) (ex b) k):=by
  intro k hk;unfold dC;rw [h2 (k+1) (by omega),fr _ (jH ms b2.2 (k+1))]
 constructor
 ·intro h k hk hkl hc;exact h k hk (by omega) ((same k (by omega)).2 hc)
 ·intro h k hk hkl hc;by_cases hkj:k<j
  ·exact h k hk (by omega) ((same k hkj).1 hc)
  ·have:=m0 hG (a:=256+(j:Nat)) ⟨by omega,by omega⟩ hb aa ab hk (by omega) (by omega) hc;have:=hno k this;omega
theorem Dx (hG:iG ms ex) {a limit:Int} {j:Nat} {m:Int×Int} (hm:ms[j]? =some m) (ha:oD ms a) (aa:cJ ms ex a) (ab:cJ ms ex ((256:Int)+(j:Nat))) (hab:a≤256+(j:Nat)) (hlim:256+(j:Int)+1≤limit)
  (hno:∀i:Nat,ms[i]? =some (a,256+(j:Int))→limit≤256+(i:Int)):jh ms ex a ((256:Int)+(j:Nat)) limit↔jh ms ex a m.1 (256+(j:Nat)+1):=by
 have hj:=(List.getElem?_eq_some_iff.1 hm).1;obtain⟨h1,h2,h3,h4⟩:=fC hG hm ab;have hnn:=hG.pos j m hm;have hlt:=fO hG.stands.sound j m hm;have b1:=hG.bytes (t:=m.1) ⟨hnn.1,by omega⟩;have same:∀k,k≤j→(dC ms (ex a) (ex ((256:Int)+(j:Nat))) k↔dC ms (ex a) (ex m.1) k):=by
  intro k hk;unfold dC;rw [h2 k hk,rR _ (jH ms b1.2 k)]
 constructor
 ·intro h k hk hkl hc;exact h k hk (by omega) ((same k (by omega)).2 hc)
 ·intro h k hk hkl hc;by_cases hkj:k≤j
  ·exact h k hk (by omega) ((same k hkj).1 hc)
  ·have:=m0 hG (b:=256+(j:Nat)) ha ⟨by omega,by omega⟩ aa ab hk (by omega) (by omega) hc;have:=hno k this;omega
theorem DY (hG:iG ms ex) {a b limit:Int} (ha:oD ms a) (hb:oD ms b) (aa:cJ ms ex a) (ab:cJ ms ex b) (h1:a<256) (h2:b<256) (hno:∀i:Nat,ms[i]? =some (a,b)→limit≤256+(i:Int)):jh ms ex a b limit:=by
 intro k hk hkl hc;have:=hno k (m0 hG ha hb aa ab hk (by omega) (by omega) hc);omega
def jb (ms:List (Int×Int)) (ex:Int→List Int) (ids:List Int):Prop:=after ms ms.length (bI ex ids)=ids
theorem wx (hG:iG ms ex) {ids:List Int} (h:∀t∈ids,oD ms t):∀x∈bI ex ids,0≤x∧x<256:=by
 intro x hx;obtain⟨t,ht,hxt⟩:=List.mem_flatMap.1 hx;exact(hG.bytes (h t ht)).1 x hxt
theorem yL (hG:iG ms ex) {P Q:List Int} (ht:∀t∈P++Q,oD ms t) (h:jb ms ex (P++Q)):jb ms ex P∧jb ms ex Q∧∀k,k<ms.length→¬dC ms (bI ex P) (bI ex Q) k:=by
 have hS:=hG.stands;unfold jb at h;obtain⟨X,Y,e,e1,e2⟩:=kx ms ms.length (Nat.le_refl _) _ P Q h;have hb:=wx hG ht;rw [e]at hb;have hX:X=bI ex P:=by
  have h3:=cN hS ms.length (Nat.le_refl _) X;rw [e1,eB hS X fun x hx=>hb x (by simp [hx])]at h3;exact h3.symm
 have hY:Y=bI ex Q:=by
  have h3:=cN hS ms.length (Nat.le_refl _) Y;rw [e2,eB hS Y fun x hx=>hb x (by simp [hx])]at h3;exact h3.symm
 subst hX hY;refine⟨e1,e2,(mM hS ms.length (Nat.le_refl _) _ _).1 ?_⟩;rw [←e,h,e1,e2]
theorem CD (hG:iG ms ex) {init:List Int} {l t:Int} (ht:∀x∈init++ [l],oD ms x) (h:jb ms ex (init++ [l])) (hT:oD ms t) (ha:cJ ms ex t):jb ms ex (init++ [l]++ [t])↔∀k,k<ms.length→¬dC ms (ex l) (ex t) k:=by
 have hS:=hG.stands;obtain⟨_,_,hno⟩:=yL hG ht h;have one:∀x:Int,bI ex [x]=ex x:=fun x=>by simp [bI]
 have bl:=hG.bytes (ht l (by simp));have same:∀k,k<ms.length→(dC ms (bI ex (init++ [l])) (ex t) k↔dC ms (ex l) (ex t) k):=by
  intro k hk;unfold dC;rw [dT,one,il (k+1) (by omega) fun j hj=>by have:=hno j (by omega);rwa [one]at this,fr _ (jH ms bl.2 (k+1))]
 unfold jb;have h':after ms ms.length (bI ex (init++ [l]))=init++ [l]:=h;have ha':after ms ms.length (ex t)= [t]:=ha;rw [dT (init++ [l]) [t],one];have:=mM hS ms.length (Nat.le_refl _) (bI ex (init++ [l])) (ex t);rw [h',ha']at this;rw [this];exact⟨fun h k hk hc=>h k hk ((same k hk).2 hc),fun h k hk hc=>h k hk ((same k hk).1 hc)⟩
end
section
variable (cut:Int→Int→Bool)
def chop:List Int→List (List Int)
 | []=>[]
 | [x]=>[[x]]
 |x::y::r=>if cut x y=true then [x]::chop (y::r)else match chop (y::r)with
  | []=>[[x]]
  |p::ps=>(x::p)::ps
def dR:List Int→Prop
 | []=>True
 | [_]=>True
 |x::y::r=>cut x y=false∧dR (y::r)
def EY (p q:List Int):Prop:=∃x y,p.getLast?=some x∧q.head?=some y∧cut x y=true
def bM:List (List Int)→Prop
 | []=>True
 | [p]=>p≠ []∧dR cut p
 |p::q::r=>p≠ []∧dR cut p∧EY cut p q∧bM (q::r)
variable {cut}
theorem bM.head {p:List Int} {r:List (List Int)} (h:bM cut (p::r)):p≠ []∧dR cut p:=by
 cases r with
 |nil=>exact h
 |cons q r=>exact⟨h.1,h.2.1⟩
theorem bM.tail {p:List Int} {r:List (List Int)} (h:bM cut (p::r)):bM cut r:=by
 cases r with
 |nil=>trivial
 |cons q r=>exact h.2.2.2
theorem bM.cons {p:List Int} {r:List (List Int)} (h1:p≠ []) (h2:dR cut p) (h3:∀q r',r=q::r'→EY cut p q) (h4:bM cut r):bM cut (p::r):=by
 cases r with
 |nil=>exact⟨h1,h2⟩
 |cons q r=>exact⟨h1,h2,h3 q r rfl,h4⟩
theorem Bw (rest:List (List Int)) (hr:chop cut rest.flatten=rest):∀p:List Int,bM cut (p::rest)→chop cut (p++rest.flatten)=p::rest
 | [],h=>absurd rfl h.head.1
 | [x],h=>by
  cases rest with
  |nil=>rfl
  |cons q r=>
   obtain⟨u,y,hu,hy,hc⟩:=h.2.2.1;simp at hu;subst hu;cases q with
   |nil=>cases hy
   |cons z q=>
    simp at hy;subst hy;rw [List.flatten_cons]at hr⊢;rw [List.cons_append]at hr;simp only [List.cons_append,List.nil_append,chop,hc,if_true,hr]
 |x::y::p,h=>by
  have h2:=h.head.2;have hc:bM cut ((y::p)::rest):=by
   refine bM.cons (by simp) h2.2 (fun q r' hq=>?_) h.tail;subst hq;obtain⟨u,v,hu,hv,hcc⟩:=h.2.2.1;exact⟨u,v,by rw [List.getLast?_cons_cons]at hu;exact hu,hv,hcc⟩
  have ih:=Bw rest hr (y::p) hc;rw [List.cons_append]at ih;simp only [List.cons_append,chop];rw [if_neg (by rw [h2.1];simp),ih]
theorem lx:∀ps:List (List Int),bM cut ps→chop cut ps.flatten=ps
 | [],_=>rfl
 |p::rest,h=>by
  rw [List.flatten_cons];exact Bw rest (lx rest h.tail) p h
theorem EH {Z:List Int} (h:Z≠ []):∃p ps,chop cut Z=p::ps∧p.head?=Z.head?:=by
 match Z,h with
 | [x],_=>exact⟨[x],[],rfl,rfl⟩
 |x::y::r,_=>
  simp only [chop];split
  ·exact⟨[x],_,rfl,rfl⟩
  ·cases chop cut (y::r)with
   |nil=>exact⟨[x],[],rfl,rfl⟩
   |cons p ps=>exact⟨x::p,ps,rfl,rfl⟩
theorem g_:∀Z:List Int,bM cut (chop cut Z)∧(chop cut Z).flatten=Z
 | []=>⟨trivial,rfl⟩
 | [x]=>⟨⟨by simp,trivial⟩,rfl⟩
 |x::y::r=>by
  obtain⟨h1,h2⟩:=g_ (y::r);obtain⟨p,ps,hp,hh⟩:=EH (cut:=cut) (Z:=y::r) (by simp);simp only [chop];split
  ·rename_i hc;refine⟨bM.cons (by simp) trivial (fun q r' hq=>?_) h1,by rw [List.flatten_cons,h2];rfl⟩;rw [hp]at hq;cases hq;exact⟨x,y,rfl,hh,hc⟩
  ·rename_i hc;rw [hp]at h1 h2⊢;dsimp only;have hpp:=h1.head;refine⟨bM.cons (by simp) ?_ (fun q r' hq=>?_) h1.tail,by rw [List.flatten_cons]at h2⊢;rw [List.cons_append,h2]⟩
   ·cases p with
    |nil=>exact absurd rfl hpp.1
    |cons z p=>
     simp at hh;subst hh;exact⟨by simpa using hc,hpp.2⟩
   ·subst hq;obtain⟨u,v,hu,hv,hcc⟩:=h1.2.2.1;cases p with
    |nil=>exact absurd rfl hpp.1
    |cons z p=>exact⟨u,v,by rw [List.getLast?_cons_cons];exact hu,hv,hcc⟩
theorem bM.append {a b:List (List Int)} (h:bM cut (a++b)):bM cut a∧bM cut b:=by
 induction a with
 |nil=>exact⟨trivial,h⟩
 |cons p a ih=>
  rw [List.cons_append]at h;obtain⟨h1,h2⟩:=ih h.tail;refine⟨bM.cons h.head.1 h.head.2 (fun q r' hq=>?_) h1,h2⟩;subst hq;exact h.2.2.1
theorem bM.glue {a:List (List Int)} {p:List Int} {b:List (List Int)} (ha:bM cut (a++ [p])) (hb:bM cut b) (hc:∀q r',b=q::r'→EY cut p q):bM cut (a++p::b):=by
 induction a with
 |nil=>exact bM.cons ha.head.1 ha.head.2 hc hb
 |cons x a ih=>
  rw [List.cons_append]at ha⊢;refine bM.cons ha.head.1 ha.head.2 (fun q r' hq=>?_) (ih ha.tail);cases a with
  |nil=>cases hq;exact ha.2.2.1
  |cons z a=>cases hq;exact ha.2.2.1
theorem jX:∀(p q:List Int),dR cut (p++q)↔dR cut p∧dR cut q∧(∀x y,p.getLast?=some x→q.head?=some y→cut x y=false)
 | [],q=>by simp [dR]
 | [x],[]=>by simp [dR]
 | [x],y::q=>by
  simp only [List.cons_append,List.nil_append,dR];constructor
  ·rintro⟨h1,h2⟩;refine⟨trivial,h2,?_⟩;intro a b ha hb;simp at ha hb;rw [←ha, ←hb];exact h1
  ·rintro⟨_,h2,h3⟩;exact⟨h3 x y rfl rfl,h2⟩
 |x::y::p,q=>by
  have:=jX (y::p) q;simp only [List.cons_append,dR]at this⊢;rw [this];constructor
  ·rintro⟨h1,h2,h3,h4⟩;exact⟨⟨h1,h2⟩,h3,fun a b ha hb=>h4 a b (by rwa [List.getLast?_cons_cons]at ha) hb⟩
  ·rintro⟨⟨h1,h2⟩,h3,h4⟩;exact⟨h1,h2,h3,fun a b ha hb=>h4 a b (by rw [List.getLast?_cons_cons];exact ha) hb⟩
theorem bM.part {a b:List (List Int)} {p q:List Int} (h:bM cut (a++(p++q)::b)) (hp:p≠ []) (hq:q≠ []):bM cut (a++ [p])∧bM cut (q::b):=by
 obtain⟨h1,h2⟩:=h.append;have hu:=(jX p q).1 h2.head.2;constructor
 ·clear h1;induction a with
  |nil=>exact⟨hp,hu.1⟩
  |cons x a ih=>
   rw [List.cons_append]at h⊢;refine bM.cons h.head.1 h.head.2 (fun z r' hz=>?_) (ih h.tail);cases a with
   |nil=>
    cases hz;obtain⟨u,v,hu',hv,hc⟩:=h.2.2.1;exact⟨u,v,hu',by rwa [rR _ hp]at hv,hc⟩
   |cons y a=>cases hz;exact h.2.2.1
 ·refine bM.cons hq hu.2.1 (fun z r' hz=>?_) h2.tail;subst hz;obtain⟨u,v,hu',hv,hc⟩:=h2.2.2.1;exact⟨u,v,by rwa [fr _ hq]at hu',hv,hc⟩
end
theorem ow {f:List Int→List Int}:∀(ps:List (List Int)) (P Q:List Int),ps.flatMap f=P++Q→
  (∃a b,ps=a++b∧P=a.flatMap f∧Q=b.flatMap f)∨(∃a p b u v,ps=a++p::b∧f p=u++v∧u≠ []∧v≠ []∧P=a.flatMap f++u∧Q=v++b.flatMap f)
 | [],P,Q,h=>by
  have h:=List.append_eq_nil_iff.1 h.symm;exact .inl ⟨[],[],rfl,h.1,h.2⟩
 |p::ps,P,Q,h=>by
  rw [List.flatMap_cons]at h;rcases List.append_eq_append_iff.1 h with⟨t,ht,hc⟩ |⟨t,ht,hc⟩
  ·rcases ow ps t Q hc with⟨a,b,h1,h2,h3⟩ |⟨a,x,b,u,v,h1,h2,h3,h4,h5,h6⟩
   ·exact .inl ⟨p::a,b,by rw [h1];rfl,by rw [ht,h2];rfl,h3⟩
   ·exact .inr ⟨p::a,x,b,u,v,by rw [h1];rfl,h2,h3,h4,by rw [ht,h5];simp,h6⟩
  ·by_cases hP:P= []
   ·subst hP;refine .inl ⟨[],p::ps,rfl,rfl,?_⟩;rw [List.nil_append]at ht;rw [hc, ←ht,List.flatMap_cons]
   ·by_cases htn:t= []
    ·subst htn;rw [List.append_nil]at ht;exact .inl ⟨[p],ps,rfl,by simp [ht],by simpa using hc⟩
    ·exact .inr ⟨[],p,ps,P,t,rfl,ht,hP,htn,by simp,hc⟩
structure Voc where
 ms:List (Int×Int)
 ex:Int→List Int
 cutB:Int→Int→Bool
 sp:List Int
namespace Voc
variable (V:Voc)
def cut (x y:Int):Bool:=decide (x<0)||decide (y<0)||V.cutB x y
def place (t:Int):Option Nat:=V.sp.idxOf? t
def items (t:Int):List Int:=match V.place t with
 |some i=>[-1- (i:Int)]
 |none=>V.ex t
def encP:List Int→List Int
 | []=>[]
 |x::r=>if x<0 then [V.sp.getD (-1-x).toNat 0]else after V.ms V.ms.length (x::r)
def encode (Z:List Int):List Int:=(chop V.cut Z).flatMap V.encP
def itemsAll (ids:List Int):List Int:=ids.flatMap V.items
def Canon (ids:List Int):Prop:=V.encode (V.itemsAll ids)=ids
def Has (t:Int):Prop:=oD V.ms t∨t∈V.sp
structure Ok:Prop where
 good:iG V.ms V.ex
 nodup:V.sp.Nodup
 above:∀t∈V.sp,256+(V.ms.length:Int)≤t
variable {V}
theorem place_none (h:V.Ok) {t:Int} (ht:oD V.ms t):V.place t=none:=by
 unfold place;rw [List.idxOf?_eq_none_iff];intro hm;have:=h.above t hm;have:=ht.2;omega
theorem place_some {t:Int} (ht:t∈V.sp):∃i,V.place t=some i∧V.sp[i]? =some t:=by
 unfold place;cases hp:V.sp.idxOf? t with
 |none=>exact absurd ht (List.idxOf?_eq_none_iff.1 hp)
 |some i=>
  refine⟨i,rfl,?_⟩;rw [List.idxOf?,List.findIdx?_eq_some_iff_getElem]at hp;obtain⟨hi,hb,_⟩:=hp;rw [List.getElem?_eq_getElem hi];simpa using hb
theorem items_tok (h:V.Ok) {t:Int} (ht:oD V.ms t):V.items t=V.ex t:=by
 unfold items;rw [place_none h ht]
theorem items_ne (h:V.Ok) {t:Int} (ht:V.Has t):V.items t≠ []:=by
 rcases ht with ht |ht
 ·rw [items_tok h ht];exact(h.good.bytes ht).2
 ·obtain⟨i,hi,_⟩:=place_some ht;unfold items;rw [hi];simp
def Items (V:Voc) (Z:List Int):Prop:=∀x∈Z, -(V.sp.length:Int)≤x∧x<256
theorem items_ok (h:V.Ok) {t:Int} (ht:V.Has t):V.Items (V.items t):=by
 intro x hx;rcases ht with ht |ht
 ·rw [items_tok h ht]at hx;have:=(h.good.bytes ht).1 x hx;omega
 ·obtain⟨i,hi,hs⟩:=place_some ht;have:=(List.getElem?_eq_some_iff.1 hs).1;unfold items at hx;rw [hi]at hx;simp at hx;omega
theorem itemsAll_ok (h:V.Ok) {ids:List Int} (ht:∀t∈ids,V.Has t):V.Items (V.itemsAll ids):=by
 intro x hx;obtain⟨t,hm,hx⟩:=List.mem_flatMap.1 hx;exact items_ok h (ht t hm) x hx
theorem piece_kind {p:List Int} (hp:p≠ []) (hu:dR V.cut p) (hi:V.Items p):(∃i:Nat,i<V.sp.length∧p= [-1- (i:Int)])∨(∀x∈p,0≤x∧x<256):=by
 induction p with
 |nil=>exact absurd rfl hp
 |cons x r ih=>
  by_cases hx:x<0
  ·refine .inl ?_;cases r with
   |nil=>
    have:=hi x (by simp);exact⟨(-1-x).toNat,by omega,by congr 1;omega⟩
   |cons y r=>
    have:=hu.1;unfold cut at this;simp [hx]at this
  ·refine .inr ?_;cases r with
   |nil=>intro y hy;simp at hy;subst hy;have:=hi y (by simp);omega
   |cons y r=>
    rcases ih (by simp) hu.2 (fun z hz=>hi z (by simp [hz]))with⟨i,_,e⟩ |e
    ·exfalso;have:=hu.1;cases e;unfold cut at this;have:(-1- (i:Int)) <0:=by omega
     simp_all
    ·intro z hz;rcases List.mem_cons.1 hz with rfl |hz
     ·have:=hi z (by simp);omega
     ·exact e z hz
theorem encP_mark (h:V.Ok) {i:Nat} (hi:i<V.sp.length):V.encP [-1- (i:Int)]= [V.sp[i]]∧V.items V.sp[i]= [-1- (i:Int)]:=by
 constructor
 ·unfold encP;dsimp only;rw [if_pos (by omega),show(-1- (-1- (i:Int))).toNat=i by omega];simp [List.getD,List.getElem?_eq_getElem hi]
 ·obtain⟨j,hj,hs⟩:=place_some (V:=V) (List.getElem_mem hi);have hjl:=(List.getElem?_eq_some_iff.1 hs).1;rw [List.getElem?_eq_getElem hjl]at hs;have:j=i:=(List.getElem_inj h.nodup).1 (Option.some.inj hs);unfold items;rw [hj,this]
theorem encP_bytes {p:List Int} (hp:p≠ []) (hb:∀x∈p,0≤x∧x<256):V.encP p=after V.ms V.ms.length p:=by
 cases p with
 |nil=>exact absurd rfl hp
 |cons x r=>
  unfold encP;dsimp only;rw [if_neg (by have:=hb x (by simp);omega)]
theorem after_tok (h:V.Ok) {s:List Int} (hs:∀x∈s,0≤x∧x<256):∀t∈after V.ms V.ms.length s,oD V.ms t:=by
 have key:∀k,k≤V.ms.length→∀t∈after V.ms k s,0≤t:=by
  intro k;induction k with
  |zero=>intro _ t ht;rw [cV]at ht;exact(hs t ht).1
  |succ k ih=>
   intro hk t ht;rw [cj V.ms (List.getElem?_eq_getElem (show k<V.ms.length by omega))]at ht;have ih:=ih (by omega);generalize after V.ms k s=l at ht ih;induction l using cz.induct V.ms[k].1 V.ms[k].2 with
   |case1=>simp [cz]at ht
   |case2 x=>simp [cz]at ht;subst ht;exact ih _ (by simp)
   |case3 x y r hx ih2=>
    obtain⟨rfl,rfl⟩:=hx;rw [bX]at ht;rcases List.mem_cons.1 ht with rfl |ht
    ·omega
    ·exact ih2 ht fun u hu=>ih u (by simp [hu])
   |case4 x y r hx ih2=>
    rw [ce r hx]at ht;rcases List.mem_cons.1 ht with rfl |ht
    ·exact ih _ (by simp)
    ·exact ih2 ht fun u hu=>ih u (by simp [hu])
 intro t ht;exact⟨key _ (Nat.le_refl _) t ht,sZ (ms:=V.ms) V.ms.length (Nat.le_refl _) s (fun x hx=>(hs x hx).2) t ht⟩
theorem itemsAll_append (a b:List Int):V.itemsAll (a++b)=V.itemsAll a++V.itemsAll b:=by simp [itemsAll]
theorem itemsAll_toks (h:V.Ok) {l:List Int} (hl:∀t∈l,oD V.ms t):V.itemsAll l=bI V.ex l:=by
 induction l with
 |nil=>rfl
 |cons t l ih=>
  have:=ih fun x hx=>hl x (by simp [hx]);unfold itemsAll bI at this⊢;rw [List.flatMap_cons,List.flatMap_cons,this,items_tok h (hl t (by simp))]
theorem encP_items (h:V.Ok) {p:List Int} (hp:p≠ []) (hu:dR V.cut p) (hi:V.Items p):V.itemsAll (V.encP p)=p∧(∀t∈V.encP p,V.Has t)∧∀u v,V.encP p=u++v→u≠ []→v≠ []→∃p1 p2,p=p1++p2∧p1≠ []∧p2≠ []∧V.encP p1=u∧V.encP p2=v:=by
 rcases piece_kind hp hu hi with⟨i,hil,rfl⟩ |hb
 ·obtain⟨h1,h2⟩:=encP_mark h hil;rw [h1];refine⟨by simp [itemsAll,h2],?_,?_⟩
  ·intro t ht;simp at ht;subst ht;exact .inr (List.getElem_mem hil)
  ·intro u v e hu hv;exfalso;have:=congrArg List.length e;have h3:0<u.length:=List.length_pos_iff.2 hu;have h4:0<v.length:=List.length_pos_iff.2 hv;simp at this;omega
 ·have hS:=h.good.stands;rw [encP_bytes hp hb];have htok:=after_tok h hb;refine⟨?_,fun t ht=>.inl (htok t ht),?_⟩
  ·rw [itemsAll_toks h htok,cN hS _ (Nat.le_refl _),eB hS p hb]
  ·intro u v e hu' hv';obtain⟨p1,p2,e1,e2,e3⟩:=kx V.ms V.ms.length (Nat.le_refl _) p u v e;have n1:p1≠ []:=by rintro rfl;rw [after_nil]at e2;exact hu' e2.symm
   have n2:p2≠ []:=by rintro rfl;rw [after_nil]at e3;exact hv' e3.symm
   refine⟨p1,p2,e1,n1,n2,?_,?_⟩
   ·rw [encP_bytes n1 fun x hx=>hb x (by rw [e1];simp [hx]),e2]
   ·rw [encP_bytes n2 fun x hx=>hb x (by rw [e1];simp [hx]),e3]
theorem pieces_items {Z:List Int} (hZ:V.Items Z) {ps:List (List Int)} (hf:ps.flatten=Z):∀p∈ps,V.Items p:=by
 intro p hp x hx;exact hZ x (by rw [←hf];exact List.mem_flatten.2 ⟨p,hp,hx⟩)
theorem chop_all {ps:List (List Int)} (h:bM V.cut ps):∀p∈ps,p≠ []∧dR V.cut p:=by
 induction ps with
 |nil=>intro p hp;cases hp
 |cons q ps ih=>
  intro p hp;rcases List.mem_cons.1 hp with rfl |hp
  ·exact h.head
  ·exact ih h.tail p hp
theorem encode_chop {ps:List (List Int)} (h:bM V.cut ps):V.encode ps.flatten=ps.flatMap V.encP:=by
 unfold encode;rw [lx ps h]
theorem encode_items (h:V.Ok) {Z:List Int} (hZ:V.Items Z):V.itemsAll (V.encode Z)=Z∧∀t∈V.encode Z,V.Has t:=by
 obtain⟨h1,h2⟩:=g_ (cut:=V.cut) Z;have hi:=pieces_items hZ h2;have hp:=chop_all h1;unfold encode;constructor
 ·conv=>rhs;rw [←h2]
  generalize chop V.cut Z=ps at hi hp;clear h1 h2;induction ps with
  |nil=>rfl
  |cons p ps ih=>
   rw [List.flatMap_cons,List.flatten_cons,itemsAll_append,ih (fun q hq=>hi q (by simp [hq])) (fun q hq=>hp q (by simp [hq])),(encP_items h (hp p (by simp)).1 (hp p (by simp)).2 (hi p (by simp))).1]
 ·intro t ht;obtain⟨p,hpm,htp⟩:=List.mem_flatMap.1 ht;exact(encP_items h (hp p hpm).1 (hp p hpm).2 (hi p hpm)).2.1 t htp
theorem encode_back (h:V.Ok) {Z P Q:List Int} (hZ:V.Items Z) (he:V.encode Z=P++Q):∃X Y,Z=X++Y∧V.encode X=P∧V.encode Y=Q:=by
 obtain⟨h1,h2⟩:=g_ (cut:=V.cut) Z;unfold encode at he;rcases ow _ P Q he with⟨a,b,e,rfl,rfl⟩ |⟨a,p,b,u,v,e,e1,hu,hv,rfl,rfl⟩
 ·rw [e]at h1 h2;obtain⟨g1,g2⟩:=h1.append;exact⟨a.flatten,b.flatten,by rw [←h2,List.flatten_append],encode_chop g1,encode_chop g2⟩
 ·have hi:=pieces_items hZ h2;have hp:=chop_all h1;rw [e]at h1 h2 hi hp;have hpm:=hp p (by simp);obtain⟨p1,p2,rfl,n1,n2,q1,q2⟩:=(encP_items h hpm.1 hpm.2 (hi p (by simp))).2.2 u v e1 hu hv;obtain⟨g1,g2⟩:=h1.part n1 n2;refine⟨(a++ [p1]).flatten,(p2::b).flatten,by rw [←h2];simp,?_,?_⟩
  ·rw [encode_chop g1];simp [q1]
  ·rw [encode_chop g2];simp [q2]
theorem canon_append (h:V.Ok) {P Q:List Int} (ht:∀t∈P++Q,V.Has t) (hc:V.Canon (P++Q)):V.Canon P∧V.Canon Q:=by
 obtain⟨X,Y,e,e1,e2⟩:=encode_back h (itemsAll_ok h ht) hc;have hZ:=itemsAll_ok h ht;rw [e]at hZ;have hX:=(encode_items h (Z:=X) fun x hx=>hZ x (by simp [hx])).1;have hY:=(encode_items h (Z:=Y) fun x hx=>hZ x (by simp [hx])).1;rw [e1]at hX;rw [e2]at hY;exact⟨by unfold Canon;rw [hX,e1],by unfold Canon;rw [hY,e2]⟩
def Free (V:Voc) (a b:Int):Prop:=∀k,k<V.ms.length→¬dC V.ms (V.ex a) (V.ex b) k
def Pair (V:Voc) (a b:Int):Prop:=(∃x y,(V.items a).getLast?=some x∧(V.items b).head?=some y∧V.cut x y=true)∨(oD V.ms a∧oD V.ms b∧V.Free a b)
theorem alone_iff (h:V.Ok) {t:Int} (ht:oD V.ms t):V.Canon [t]↔cJ V.ms V.ex t∧(chop V.cut (V.ex t)).length≤1:=by
 have hb:=h.good.bytes ht;unfold Canon encode itemsAll cJ;simp only [List.flatMap_cons,List.flatMap_nil,List.append_nil];rw [items_tok h ht];obtain⟨h1,h2⟩:=g_ (cut:=V.cut) (V.ex t);have hp:=chop_all h1;have hi:V.Items (V.ex t):=fun x hx=>by have:=hb.1 x hx;omega
 have hpi:=pieces_items hi h2
 match hc:chop V.cut (V.ex t)with
 | []=>rw [hc]at h2;exact absurd h2.symm hb.2
 | [p]=>
  rw [hc]at h2;simp at h2;subst h2;simp only [List.flatMap_cons,List.flatMap_nil,List.append_nil,List.length_cons,List.length_nil];rw [encP_bytes hb.2 hb.1];simp
 |p::q::r=>
  constructor
  ·intro e;exfalso;have ne:∀p∈chop V.cut (V.ex t),V.encP p≠ []:=by
    intro p hpm e;have:=(encP_items h (hp p hpm).1 (hp p hpm).2 (hpi p hpm)).1;rw [e]at this;exact(hp p hpm).1 this.symm
   rw [hc]at ne;have n1:=List.length_pos_iff.2 (ne p (by simp));have n2:=List.length_pos_iff.2 (ne q (by simp));have:=congrArg List.length e;simp only [List.flatMap_cons,List.length_append,List.length_cons,List.length_nil]at this;omega
  ·rintro⟨_,e⟩;simp at e
theorem alone_special (h:V.Ok) {t:Int} (ht:t∈V.sp):V.Canon [t]:=by
 obtain⟨i,hi,hs⟩:=place_some ht;have hil:=(List.getElem?_eq_some_iff.1 hs).1;rw [List.getElem?_eq_getElem hil]at hs;obtain⟨h1,h2⟩:=encP_mark h hil;rw [Option.some.inj hs]at h1 h2;unfold Canon encode itemsAll;simp only [List.flatMap_cons,List.flatMap_nil,List.append_nil,h2];show V.encP [-1- (i:Int)]++ []= [t];rw [h1];rfl
theorem canon_more (h:V.Ok) {init:List Int} {l t:Int} (ht:∀x∈init++ [l],V.Has x) (hc:V.Canon (init++ [l])) (hT:V.Has t):V.Canon (init++ [l]++ [t])↔V.Canon [t]∧V.Pair l t:=by
 have hS:=itemsAll_ok h ht;have hTi:=items_ok h hT;have nS:V.itemsAll (init++ [l])≠ []:=by
  rw [itemsAll_append];have:=items_ne h (ht l (by simp));simp [itemsAll,this]
 have nT:=items_ne h hT;obtain⟨s1,s2⟩:=g_ (cut:=V.cut) (V.itemsAll (init++ [l]));obtain⟨t1,t2⟩:=g_ (cut:=V.cut) (V.items t);obtain⟨q,qs,hq,hqh⟩:=EH (cut:=V.cut) nT;have one:∀x:Int,V.itemsAll [x]=V.items x:=fun x=>by simp [itemsAll]
 obtain⟨ps,p,hps⟩:∃ps p,chop V.cut (V.itemsAll (init++ [l]))=ps++ [p]:=by
  rcases List.eq_nil_or_concat (chop V.cut (V.itemsAll (init++ [l])))with e |⟨a,b,e⟩
  ·rw [e]at s2;exact absurd s2.symm nS
  ·exact⟨a,b,by rw [e];simp⟩
 rw [hps]at s1 s2;rw [hq]at t1 t2;have hpp:=chop_all s1 p (by simp);have hqq:=t1.head;have hlast:p.getLast?=(V.items l).getLast?:=by
  have e1:(V.itemsAll (init++ [l])).getLast?=(V.items l).getLast?:=by
   rw [itemsAll_append,one,fr _ (items_ne h (ht l (by simp)))]
  rw [←s2,List.flatten_append,List.flatten_cons,List.flatten_nil,List.append_nil,fr _ hpp.1]at e1;exact e1
 have hall:V.itemsAll (init++ [l]++ [t])=(ps++ [p]).flatten++(q::qs).flatten:=by
  rw [itemsAll_append,one,s2,t2]
 have hencS:ps.flatMap V.encP++V.encP p=init++ [l]:=by
  have:V.encode (V.itemsAll (init++ [l]))=init++ [l]:=hc;rw [←s2,encode_chop s1]at this;simpa using this
 have hencT:V.Canon [t]↔V.encP q++qs.flatMap V.encP= [t]:=by
  unfold Canon;rw [one, ←t2,encode_chop t1];simp
 by_cases hcut:EY V.cut p q
 ·-- it is cut
  have hglue:bM V.cut (ps++p::(q::qs)):=s1.glue t1 fun z r hz=>by cases hz;exact hcut
  have hpair:V.Pair l t:=by
   obtain⟨x,y,hx,hy,hxy⟩:=hcut;exact .inl ⟨x,y,by rw [←hlast];exact hx,by rw [←hqh];exact hy,hxy⟩
  have:V.encode (V.itemsAll (init++ [l]++ [t]))=init++ [l]++(V.encP q++qs.flatMap V.encP):=by
   rw [hall, ←List.flatten_append,show ps++ [p]++q::qs=ps++p::(q::qs) by simp,encode_chop hglue, ←hencS];simp
  unfold Canon at*;rw [this,List.append_right_inj];exact⟨fun e=>⟨hencT.2 e,hpair⟩,fun e=>hencT.1 e.1⟩
 ·-- it isn't: both are bytes
  obtain⟨x,hx⟩:∃x,p.getLast?=some x:=by
   cases hpl:p.getLast? with
   |none=>exact absurd (List.getLast?_eq_none_iff.1 hpl) hpp.1
   |some x=>exact⟨x,rfl⟩
  obtain⟨y,hy⟩:∃y,q.head?=some y:=by
   cases hql:q.head? with
   |none=>exact absurd (List.head?_eq_none_iff.1 hql) hqq.1
   |some y=>exact⟨y,rfl⟩
  have hnc:V.cut x y=false:=by
   cases hxy:V.cut x y with
   |false=>rfl
   |true=>exact absurd ⟨x,y,hx,hy,hxy⟩ hcut
  have hx0:¬x<0:=by intro e;unfold cut at hnc;simp [e]at hnc
  have hy0:¬y<0:=by intro e;unfold cut at hnc;simp [e]at hnc
  have hip:=pieces_items hS s2 p (by simp);have hiq:=pieces_items hTi t2 q (by simp);have bp:∀z∈p,0≤z∧z<256:=by
   rcases piece_kind hpp.1 hpp.2 hip with⟨i,_,rfl⟩ |e
   ·simp at hx;omega
   ·exact e
  have bq:∀z∈q,0≤z∧z<256:=by
   rcases piece_kind hqq.1 hqq.2 hiq with⟨i,_,rfl⟩ |e
   ·simp at hy;omega
   ·exact e
  have tokOf:∀ {u:Int} (hu:V.Has u),(∀z,(V.items u).getLast?=some z∨(V.items u).head?=some z→¬z<0→oD V.ms u):=by
   intro u hu z hz hz0;rcases hu with hu |hu
   ·exact hu
   ·exfalso;obtain⟨i,hi,_⟩:=place_some hu;unfold items at hz;rw [hi]at hz;simp at hz;omega
  have tl:oD V.ms l:=tokOf (ht l (by simp)) x (.inl (by rw [←hlast];exact hx)) hx0;have tt:oD V.ms t:=tokOf hT y (.inr (by rw [←hqh];exact hy)) hy0;have hchop:bM V.cut (ps++(p++q)::qs):=by
   have hu:dR V.cut (p++q):=(jX p q).2 ⟨hpp.2,hqq.2,fun a b ha hb=>by rw [hx]at ha;rw [hy]at hb;cases ha;cases hb;exact hnc⟩;have npq:p++q≠ []:=by simp [hpp.1]
   have h1:bM V.cut (ps++ [p++q]):=by
    clear hencS hall;have s1':=s1;revert s1';generalize ps=a;intro s1';induction a with
    |nil=>exact⟨npq,hu⟩
    |cons z a ih=>
     rw [List.cons_append]at s1'⊢;refine bM.cons s1'.head.1 s1'.head.2 (fun w r hw=>?_) (ih s1'.tail);cases a with
     |nil=>
      cases hw;obtain⟨u,v,hu',hv,hcc⟩:=s1'.2.2.1;exact⟨u,v,hu',by rw [rR _ hpp.1];exact hv,hcc⟩
     |cons z' a=>cases hw;exact s1'.2.2.1
   refine h1.glue t1.tail fun z r hz=>?_;subst hz;obtain⟨u,v,hu',hv,hcc⟩:=t1.2.2.1;exact⟨u,v,by rw [fr _ hqq.1];exact hu',hv,hcc⟩
  have henc:V.encode (V.itemsAll (init++ [l]++ [t]))=ps.flatMap V.encP++(after V.ms V.ms.length (p++q)++qs.flatMap V.encP):=by
   rw [hall,show(ps++ [p]).flatten++(q::qs).flatten=(ps++(p++q)::qs).flatten by simp,encode_chop hchop];simp only [List.flatMap_append,List.flatMap_cons];rw [encP_bytes (by simp [hpp.1]) fun z hz=>(List.mem_append.1 hz).elim (bp z) (bq z)]
  rw [encP_bytes hpp.1 bp]at hencS;have tokp:=after_tok h bp;obtain⟨i2,hi2⟩:∃i2,after V.ms V.ms.length p=i2++ [l]:=by
   have hne:=jH V.ms hpp.1 V.ms.length;rcases List.eq_nil_or_concat (after V.ms V.ms.length p)with e |⟨a,b,e⟩
   ·exact absurd e hne
   ·rw [e]at hencS;have:=congrArg List.getLast? hencS;simp at this;exact⟨a,by rw [e,this];simp⟩
  rw [hi2]at tokp;have hcp:jb V.ms V.ex (i2++ [l]):=by
   unfold jb;rw [←hi2,cN h.good.stands _ (Nat.le_refl _),eB h.good.stands p bp,hi2]
  have hpe:p=bI V.ex (i2++ [l]):=by
   rw [←hi2,cN h.good.stands _ (Nat.le_refl _),eB h.good.stands p bp]
  have single:V.Canon [t]→qs= []∧q=V.ex t∧cJ V.ms V.ex t:=by
   intro e;obtain⟨ha,hl⟩:=(alone_iff h tt).1 e;rw [items_tok h tt]at hq t2;rw [hq]at hl;simp at hl;subst hl;simp at t2;exact⟨rfl,t2,ha⟩
  have finish:V.Canon [t]→(V.Canon (init++ [l]++ [t])↔V.Free l t):=by
   intro e;obtain⟨e1,e2,e3⟩:=single e;have hsn:=CD h.good tokp hcp tt e3;unfold Canon;rw [henc,e1,e2];simp only [List.flatMap_nil,List.append_nil];rw [hi2]at hencS;unfold jb at hsn;rw [dT, ←hpe,show bI V.ex [t]=V.ex t by simp [bI]]at hsn;rw [←hencS,List.append_assoc,List.append_right_inj];exact hsn
  have pair_iff:V.Pair l t↔V.Free l t:=by
   constructor
   ·rintro(⟨u,v,hu,hv,hcc⟩ |⟨_,_,hf⟩)
    ·exfalso;rw [←hlast,hx]at hu;rw [←hqh,hy]at hv;cases hu;cases hv;rw [hnc]at hcc;cases hcc
    ·exact hf
   ·exact fun hf=>.inr ⟨tl,tt,hf⟩
  constructor
  ·intro e;have hT1:=(canon_append h (P:=init++ [l]) (Q:=[t]) (by
    intro z hz;rcases List.mem_append.1 hz with hz |hz
    ·exact ht z hz
    ·simp at hz;subst hz;exact hT) e).2
   exact⟨hT1,pair_iff.2 ((finish hT1).1 e)⟩
  ·rintro⟨e1,e2⟩;exact(finish e1).2 (pair_iff.1 e2)
end Voc
structure HE where
 r:Int
 p:Int
 t:Int
 f:Int
 a:Int
 b:Int
 deriving DecidableEq,Inhabited
def HE.lt (x y:HE):Prop:=x.r<y.r∨x.r=y.r∧(x.p<y.p∨x.p=y.p∧x.t<y.t)
instance (x y:HE):Decidable (x.lt y):=by unfold HE.lt;infer_instance
theorem HE.asymm {x y:HE} (h:x.lt y):¬y.lt x:=by unfold HE.lt at*;omega
theorem HE.le_trans {x y z:HE} (h1:¬y.lt x) (h2:¬z.lt y):¬z.lt x:=by unfold HE.lt at*;omega
theorem HE.lt_le {x y z:HE} (h1:x.lt y) (h2:¬z.lt y):¬z.lt x:=HE.le_trans (HE.asymm h1) h2
abbrev hat (l:List HE) (j:Nat):HE:=l.getD j default
def qO (l:List HE) (i k:Nat):List HE:=(l.set i (hat l k)).set k (hat l i)
theorem cf (l:List HE) (i k:Nat):(qO l i k).length=l.length:=by simp [qO]
theorem i_ {l:List HE} {i k:Nat} (hi:i<l.length) (hk:k<l.length) (j:Nat):hat (qO l i k) j=if j=k then hat l i else if j=i then hat l k else hat l j:=by
 unfold hat qO;simp only [List.getD_eq_getElem?_getD,List.getElem?_set,List.length_set];by_cases h1:j=k
 ·subst h1;simp [hk]
 ·by_cases h2:j=i
  ·subst h2;rw [if_neg (fun e=>h1 e.symm),if_pos rfl,if_pos hi,if_neg h1,if_pos rfl];rfl
  ·rw [if_neg (fun e=>h1 e.symm),if_neg (fun e=>h2 e.symm),if_neg h1,if_neg h2]
theorem ox {l:List HE} {e:HE}:e∈l↔∃j,j<l.length∧hat l j=e:=by
 constructor
 ·intro h;obtain⟨j,hj,rfl⟩:=List.getElem_of_mem h;exact⟨j,hj,by simp [hat,hj]⟩
 ·rintro⟨j,hj,rfl⟩;simp only [hat,List.getD_eq_getElem?_getD,List.getElem?_eq_getElem hj,Option.getD_some];exact List.getElem_mem hj
theorem qI {l:List HE} {i k:Nat} (hi:i<l.length) (hk:k<l.length) (e:HE):e∈qO l i k↔e∈l:=by
 rw [ox,ox,cf];constructor
 ·rintro⟨j,hj,rfl⟩;rw [i_ hi hk];split
  ·exact⟨i,hi,rfl⟩
  ·split
   ·exact⟨k,hk,rfl⟩
   ·exact⟨j,hj,rfl⟩
 ·rintro⟨j,hj,rfl⟩;by_cases h1:j=i
  ·subst h1;exact⟨k,hk,by rw [i_ hi hk,if_pos rfl]⟩
  ·by_cases h2:j=k
   ·subst h2;exact⟨i,hi,by rw [i_ hi hk,if_neg (fun e=>h1 e.symm),if_pos rfl]⟩
   ·exact⟨j,hj,by rw [i_ hi hk,if_neg h2,if_neg h1]⟩
def par (j:Nat):Nat:=(j-1)/2
theorem iv {j:Nat} (h:0<j):par j<j:=by unfold par;omega
def eA (l:List HE):Prop:=∀j,0<j→j<l.length→¬(hat l j).lt (hat l (par j))
def Fq (l:List HE) (i:Nat):Prop:=∀j,0<j→j<l.length→(j≠i→¬(hat l j).lt (hat l (par j)))∧(par j=i→0<i→¬(hat l j).lt (hat l (par i)))
theorem vv {l:List HE} {i:Nat} (h:Fq l i) (hi:i=0∨¬(hat l i).lt (hat l (par i))):eA l:=by
 intro j h0 hj;by_cases e:j=i
 ·subst e;rcases hi with hi |hi
  ·omega
  ·exact hi
 ·exact(h j h0 hj).1 e
theorem KA {l:List HE} {i:Nat} (h:Fq l i) (h0:0<i) (hi:i<l.length) (hl:(hat l i).lt (hat l (par i))):Fq (qO l i (par i)) (par i):=by
 have hp:=iv h0;have hpl:par i<l.length:=by omega
 intro j j0 hj;rw [cf]at hj;have hjp:=iv j0;have at_:∀x,hat (qO l i (par i)) x=if x=par i then hat l i else if x=i then hat l (par i)else hat l x:=i_ hi hpl
 constructor
 ·intro hne;rw [at_ j,at_ (par j),if_neg hne];by_cases e1:j=i
  ·subst e1;rw [if_pos rfl,if_pos rfl];exact HE.asymm hl
  ·rw [if_neg e1];by_cases e2:par j=par i
   ·rw [if_pos e2];have h1:=(h j j0 hj).1 e1;rw [e2]at h1;exact HE.lt_le hl h1
   ·rw [if_neg e2];by_cases e3:par j=i
    ·rw [if_pos e3];exact(h j j0 hj).2 e3 h0
    ·rw [if_neg e3];exact(h j j0 hj).1 e1
 ·intro e2 hp0;have hpp:=iv hp0;have a1:hat (qO l i (par i)) j=if j=i then hat l (par i)else hat l j:=by rw [at_ j,if_neg (by omega)]
  have a2:hat (qO l i (par i)) (par (par i))=hat l (par (par i)):=by rw [at_ _,if_neg (by omega),if_neg (by omega)]
  rw [a1,a2];have h1:=(h (par i) hp0 hpl).1 (by omega);by_cases e1:j=i
  ·subst e1;rw [if_pos rfl];exact h1
  ·rw [if_neg e1];have h2:=(h j j0 hj).1 e1;rw [e2]at h2;exact HE.le_trans h1 h2
def nd (l:List HE) (i:Nat):Prop:=∀j,0<j→j<l.length→(par j≠i→¬(hat l j).lt (hat l (par j)))∧(par j=i→0<i→¬(hat l j).lt (hat l (par i)))
theorem uT {l:List HE} {i:Nat} (h:nd l i) (hc:∀j,0<j→j<l.length→par j=i→¬(hat l j).lt (hat l i)):eA l:=by
 intro j h0 hj;by_cases e:par j=i
 ·rw [e];exact hc j h0 hj e
 ·exact(h j h0 hj).1 e
theorem Fu {l:List HE} {i c:Nat} (h:nd l i) (hc0:0<c) (hc:c<l.length) (hpc:par c=i) (hl:(hat l c).lt (hat l i)) (ho:∀j,0<j→j<l.length→par j=i→¬(hat l j).lt (hat l c)):nd (qO l i c) c:=by
 have hp:=iv hc0;have hil:i<l.length:=by omega
 have at_:∀x,hat (qO l i c) x=if x=c then hat l i else if x=i then hat l c else hat l x:=i_ hil hc
 intro j j0 hj;rw [cf]at hj;have hjp:=iv j0;constructor
 ·intro hne;rw [at_ j,at_ (par j),if_neg hne];by_cases e1:j=c
  ·subst e1;rw [if_pos rfl,if_pos hpc];exact HE.asymm hl
  ·rw [if_neg e1];by_cases e2:j=i
   ·subst e2;rw [if_pos rfl,if_neg (by omega)];exact(h c hc0 hc).2 hpc j0
   ·rw [if_neg e2];by_cases e3:par j=i
    ·rw [if_pos e3];exact ho j j0 hj e3
    ·rw [if_neg e3];exact(h j j0 hj).1 e3
 ·intro e1 _;have a1:hat (qO l i c) j=hat l j:=by rw [at_ j,if_neg (by omega),if_neg (by omega)]
  have a2:hat (qO l i c) i=hat l c:=by rw [at_ i,if_neg (by omega),if_pos rfl]
  rw [hpc,a1,a2];have:=(h j j0 hj).1 (by omega);rw [e1]at this;exact this
theorem JA {l:List HE} (h:eA l) (x:HE):Fq (l++ [x]) l.length:=by
 intro j j0 hj;have hjp:=iv j0;simp at hj;constructor
 ·intro hne;have hlt:j<l.length:=by omega
  have e:∀y,y<l.length→hat (l++ [x]) y=hat l y:=by
   intro y hy;simp only [hat,List.getD_eq_getElem?_getD,List.getElem?_append_left hy]
  rw [e j hlt,e _ (by omega)];exact h j j0 hlt
 ·intro e;omega
theorem H4 {l:List HE} (h:eA l) (n:Nat) (hn:l.length=n+1):nd ((qO l 0 n).take n) 0:=by
 intro j j0 hj;rw [List.length_take,cf,hn]at hj;have hjn:j<n:=by omega
 have hjp:=iv j0;have e:∀y,y<n→0<y→hat ((qO l 0 n).take n) y=hat l y:=by
  intro y hy hy0;have:hat ((qO l 0 n).take n) y=hat (qO l 0 n) y:=by simp only [hat,List.getD_eq_getElem?_getD,List.getElem?_take_of_lt hy]
  rw [this,i_ (by omega) (by omega),if_neg (by omega),if_neg (by omega)]
 constructor
 ·intro hne;rw [e j hjn j0,e _ (by omega) (by omega)];exact h j j0 (by omega)
 ·intro _ h0;omega
theorem El {l:List HE} (h:eA l):∀j,j<l.length→¬(hat l j).lt (hat l 0):=by
 intro j;induction j using Nat.strongRecOn with
 |ind j ih=>
  intro hj;by_cases h0:j=0
  ·subst h0;intro e;exact HE.asymm e e
  ·have hp:=iv (Nat.pos_of_ne_zero h0);exact HE.le_trans (ih (par j) hp (by omega)) (h j (Nat.pos_of_ne_zero h0) hj)
theorem Kq {l:List HE} (n:Nat) (hn:l.length=n+1):(∀e∈l,e=hat l 0∨e∈(qO l 0 n).take n)∧∀e∈(qO l 0 n).take n,e∈l:=by
 constructor
 ·intro e he;rw [←qI (l:=l) (i:=0) (k:=n) (by omega) (by omega)]at he;obtain⟨j,hj,rfl⟩:=ox.1 he;rw [cf]at hj;by_cases hjn:j=n
  ·subst hjn;rw [i_ (by omega) (by omega),if_pos rfl];exact .inl rfl
  ·refine .inr (ox.2 ⟨j,by rw [List.length_take,cf];omega,?_⟩);simp only [hat,List.getD_eq_getElem?_getD,List.getElem?_take_of_lt (show j<n by omega)]
 ·intro e he;exact(qI (by omega) (by omega) e).1 (List.mem_of_mem_take he)
end Go.Proofs.YtijbcdiffjjefaaGreatDoor.Eng
