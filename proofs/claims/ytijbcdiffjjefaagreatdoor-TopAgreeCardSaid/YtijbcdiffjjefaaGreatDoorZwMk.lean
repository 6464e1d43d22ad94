/- Special tokens: the set, walked by the engine. -/
import Derived.Test.YtijbcdiffjjefaaGreatDoorZwLib
set_option linter.unusedVariables false
set_option linter.unusedSimpArgs false
set_option maxRecDepth 100000
namespace Go.Proofs.YtijbcdiffjjefaaGreatDoor.Eng
open Go Go.RowKit
theorem gC {α κ:Type} [DecidableEq κ] [BEq κ] [LawfulBEq κ] (f:α→κ) (m:κ):∀(l:List α) (k:Nat),e_ m ((l.zipIdx k).map fun x=>(f x.1,Value.int .i64 (x.2:Int)))=((l.map f).idxOf? m).map fun i=>Value.int .i64 ((k+i:Nat):Int)
 | [],k=>rfl
 |e::l,k=>by
  simp only [List.zipIdx_cons,List.map_cons,e_,List.idxOf?_cons];by_cases h:m=f e
  ·simp [h]
  ·rw [if_neg h,gC f m l (k+1)];have:(f e==m)=false:=by simp;exact fun a=>h a.symm
   rw [this];simp only [Bool.false_eq_true,if_false,Option.map_map];congr 1;funext i;simp;omega
def zy (xs:List (Int×Bs)):List (Int×Value):=xs.zipIdx.map fun x=>(x.1.1,.int .i64 (x.2:Int))
def xv (xs:List (Int×Bs)):List (Bs×Value):=xs.zipIdx.map fun x=>(x.1.2,.int .i64 (x.2:Int))
theorem GE (xs:List (Int×Bs)) (x:Int×Bs):zy (xs++ [x])=zy xs++ [(x.1,.int .i64 (xs.length:Int))]:=by simp [zy,List.zipIdx_append]
theorem Hg (xs:List (Int×Bs)) (x:Int×Bs):xv (xs++ [x])=xv xs++ [(x.2,.int .i64 (xs.length:Int))]:=by simp [xv,List.zipIdx_append]
theorem px (xs:List (Int×Bs)) (k:Int):e_ k (zy xs)=((xs.map (·.1)).idxOf? k).map fun i:Nat=>Value.int .i64 (i:Int):=by
 have:=gC (fun x:Int×Bs=>x.1) k xs 0;simpa [zy]using this
theorem pl (xs:List (Int×Bs)) (k:Bs):e_ k (xv xs)=((xs.map (·.2)).idxOf? k).map fun i:Nat=>Value.int .i64 (i:Int):=by
 have:=gC (fun x:Int×Bs=>x.2) k xs 0;simpa [xv]using this
theorem kr {κ:Type} [BEq κ] [LawfulBEq κ] {l:List κ} {k:κ}:(l.idxOf? k).isSome=true↔k∈l:=by
 cases h:l.idxOf? k with
 |none=>
  have:=List.idxOf?_eq_none_iff.1 h;simp [this]
 |some i=>
  have:k∈l:=by
   rcases Classical.em (k∈l)with a |a
   ·exact a
   ·rw [List.idxOf?_eq_none_iff.2 a]at h;cases h
  simp [this]
abbrev sw:TypeId:=250
abbrev ID:TypeId:=108
theorem ou:Tryz.prog.underlying ID=some (.map aT aT):=by kernel_rfl
def fa (xs:List (Int×Bs)):Int:=xs.foldl (fun n x=>if(x.2.length:Int)>n then(x.2.length:Int)else n) 0
def gO (xs:List (Int×Bs)) (i:Nat):Bool:=xs.any fun x=>x.2.head?.map (·.toNat)==some i
structure Cz (c:Array Value) (l:Sl) (mi mt:Nat) (xs:List (Int×Bs)):Prop where
 size:c.size=260
 c0:c[0]? =some l.v
 c1:c[1]? =some (.map (some mi))
 c2:c[2]? =some (.map (some mt))
 most:c[259]? =some (.int .i64 (fa xs))
 first:∀i,i<256→c[3+i]? =some (.bool (gO xs i))
structure sX (w:World) (B p:Nat) (l:Sl) (mi mt:Nat) (c:Array Value) (xs:List (Int×Bs)):Prop where
 blk:w.heap[p]? =some (.cells c sw (0,0))
 cells:Cz c l mi mt xs
 row:w.ownsRow B nH 2 l.v l.n (xs.flatMap aM)
 len:l.n=xs.length
 off:l.v.ownBlock≠some p
 ids:bJ eu w mi (zy xs)
 texts:bJ di w mt (xv xs)
 bp:B≤p
 bi:B≤mi
 bt:B≤mt
 ne:mi≠mt
theorem sX.on {w w':World} {B p:Nat} {l:Sl} {mi mt:Nat} {c:Array Value} {xs:List (Int×Bs)} (h:sX w B p l mi mt c xs) (hb:ZH w w'):sX w' B p l mi mt c xs:=
 ⟨aj hb h.blk,h.cells,aE h.row hb,h.len,h.off,h.ids.on hb,h.texts.on hb,h.bp,h.bi,h.bt,h.ne⟩
theorem aU (w:World):ZH w w.drew:=(Below.refl _ _).drew
def qX (w:World) (B p:Nat) (xs:List (Int×Bs)):Prop:=∃l mi mt c,sX w B p l mi mt c xs
def ni (w:World) (p:Nat) (xs:List (Int×Bs)):Prop:=∃(l:Sl) (mi mt:Nat) (c:Array Value),w.heap[p]? =some (.cells c sw (0,0))∧Cz c l mi mt xs∧l.n=xs.length∧Rw aM 2 w l.a xs∧bJ eu w mi (zy xs)∧bJ di w mt (xv xs)
theorem ni.on {w w':World} {p:Nat} {xs:List (Int×Bs)} (h:ni w p xs) (hb:ZH w w'):ni w' p xs:=by
 obtain⟨l,i,j,c,a,b,d,e,f,g⟩:=h;exact⟨l,i,j,c,aj hb a,b,d,e.on hb,f.on hb,g.on hb⟩
theorem qX.on {w w':World} {B p:Nat} {xs:List (Int×Bs)} (h:qX w B p xs) (hb:ZH w w'):qX w' B p xs:=by
 obtain⟨l,a,b,c,h⟩:=h;exact⟨l,a,b,c,aj hb h.blk,h.cells,aE h.row hb,h.len,h.off,h.ids.on hb,h.texts.on hb,h.bp,h.bi,h.bt,h.ne⟩
theorem sf (x:Int×Bs):(aM x).length=2:=rfl
theorem qX.is {w:World} {B p:Nat} {xs:List (Int×Bs)} (h:qX w B p xs):ni w p xs:=by
 obtain⟨l,a,b,c,h⟩:=h;exact⟨l,a,b,c,h.blk,h.cells,h.len,(Rw.of_own h.row sf (by decide)).1,h.ids,h.texts⟩
theorem ni.lt {w:World} {p:Nat} {xs:List (Int×Bs)} (h:ni w p xs):p<w.heap.size:=by
 obtain⟨l,b,d,c,a,_⟩:=h;exact(XY.1 a).1
theorem mG (i:Nat) (hi:i≤1000000) (w:World):CP 160 #[.int .i64 (i:Int)] w fun e w'=>e= .returned (.int .i64 (-1- (i:Int)))∧w'=w:=by
 refine aV (C9 (i:Int) w) ?_;exact Ar.ok64 (by omega) (by omega) ⟨rfl,rfl⟩
theorem nQ (w:World) (p:Nat) (xs:List (Int×Bs)) (h:ni w p xs):CP 226 #[.pointer (some ⟨p,0,none⟩)] w fun e w'=>e= .returned (.int .i64 xs.length)∧w'=w:=by
 obtain⟨l,f,g,c,a,b,d,_⟩:=h;refine aV (CK (some ⟨p,0,none⟩) w) ?_;exact ac.no rfl (ag.mk _ rfl ⟨l.a,l.n,l.c,by rw [ai p w a];exact b.c0,by rw [d],rfl⟩)
def fA (xs:List (Int×Bs)) (id:Int):Option Nat:=(xs.map (·.1)).idxOf? id
theorem gM (w:World) (p:Nat) (xs:List (Int×Bs)) (h:ni w p xs) (hx:xs.length≤1000000) (id:Int):CP 106 #[.pointer (some ⟨p,0,none⟩),.int .i64 id] w fun e w'=>e= .returned (.tuple #[.int .i64 (((fA xs id).map fun i:Nat=> -1- (i:Int)).getD 0),.bool (fA xs id).isSome])∧w'=w:=by
 obtain⟨l,j,q,c,b,d,k,m,f,n⟩:=h;refine aV (Bt (some ⟨p,0,none⟩) id w) ?_;refine ac.no rfl (ag.mk _ rfl ⟨some j,by rw [ai p w b];exact d.c1,?_⟩);have a:=eL oD ou en f id;rw [px]at a;unfold fA;cases hx':(xs.map (·.1)).idxOf? id with
 |none=>
  rw [hx']at a;exact⟨0,false,w,a,ac.yes rfl ⟨rfl,rfl⟩⟩
 |some i=>
  rw [hx']at a;have o:i<xs.length:=by
   have:=(List.idxOf?_eq_some_iff.1 hx').1;simpa using this
  refine⟨_,true,w,a,ac.no rfl ?_⟩;refine(mG i (by omega) w).mono ?_;rintro e r ⟨rfl,g⟩;subst g;exact⟨_,rfl,rfl,rfl⟩
theorem eh (a:Int) (b:ByteArray):∀v∈ [Value.int .i64 a,Value.string b],v.oneCell'=true:=by
 intro v c;simp only [List.mem_cons,List.not_mem_nil,or_false]at c;rcases c with rfl |rfl<;>rfl
theorem mO (w w1:World) (x:Int×Bs) (hw1:w1=w.alloc (.cells #[.int .i64 x.1,.string (str x.2)] nH)) (j:Nat):w1.cell? ((nb w).add j)=(#[Value.int .i64 x.1,Value.string (str x.2)]:Array Value)[j]? :=by
 subst hw1;rw [aG,Nat.zero_add,bn]
theorem ub (x:Int×Bs) (w:World):CP 242 #[.agg #[.int .i64 x.1,.string (str x.2)]] w fun e w'=>e= .returned (.bool (bF x))∧ZH w w':=by
 refine aJ (yq x.1 (str x.2) w (fun v w'=>v= .bool (bF x)∧ZH w w') ?_) (by rintro v w' ⟨rfl,h⟩;exact⟨rfl,h⟩);intro i f;have j:ZH w i:=by subst f;exact ah _ _
 have g:=mO w i x f;have a:bF x=false→(Value.bool false= .bool (bF x)∧ZH w i):=fun h=>⟨by rw [h],j⟩;refine⟨x.1,g 0,ac.mk (fun b=>?_) fun b=>a ?_⟩
 ·have b:=XQ b;refine⟨x.1,g 0,ac.mk (fun c=>?_) fun c=>a ?_⟩
  ·have c:=XQ c;refine⟨_,g 1,ac.mk (fun d=>?_) fun d=>a ?_⟩
   ·refine⟨_,g 1,?_,j⟩;congr 1;rw [aP];have:x.2≠ []:=by
     intro e;rw [e]at d;simp at d
    have:0<x.2.length:=List.length_pos_iff.2 this;unfold bF;exact decide_eq_decide.2 (by omega)
   ·have:x.2= []:=by
     rw [cG]at d;simpa using d
    unfold bF;exact XZ (by rw [this];simp)
  ·have c:=XX c;unfold bF;exact XZ (by omega)
 ·have b:=XX b;unfold bF;exact XZ (by omega)
def cP (xs:List (Int×Bs)) (x:Int×Bs):Int:=if bF x=false then 1 else if 32≤xs.length then 3 else if x.1∈xs.map (·.1)∨x.2∈xs.map (·.2)then 10 else 0
def sS (w:World) (B p:Nat) (xs:List (Int×Bs)) (x:Int×Bs) (v:Value) (w':World):Prop:=Below B w w'∧v= .int .i64 (cP xs x)∧(cP xs x=0→qX w' B p (xs++ [x]))
theorem Ba (xs:List (Int×Bs)) (x:Int×Bs):fa (xs++ [x])=if(x.2.length:Int)>fa xs then(x.2.length:Int)else fa xs:=by simp [fa]
theorem xx (w:World) (B p:Nat) (xs:List (Int×Bs)) (h:qX w B p xs) (hB:B≤w.heap.size) (x:Int×Bs):
  CP 190 #[.pointer (some ⟨p,0,none⟩),.agg #[.int .i64 x.1,.string (str x.2)]] w fun e w'=>∃v,e= .returned v∧sS w B p xs x v w':=by
 refine Dt (some ⟨p,0,none⟩) x.1 (str x.2) w (sS w B p xs x) ?_;intro w1 hw1;have hb1:ZH w w1:=by subst hw1;exact ah _ _
 intro w2 hw2;have hb2:ZH w w2:=by subst hw2;exact hb1.drew
 have hh2:w2.heap=w1.heap:=by subst hw2;rfl
 have hsz2:w2.heap.size=w.heap.size+1:=by rw [hh2];subst hw1;rw [aK]
 have hc2:∀j,w2.cell? ((nb w).add j)=(#[Value.int .i64 x.1,Value.string (str x.2)]:Array Value)[j]? :=by
  intro j;rw [←mO w w1 x hw1 j];subst hw2;rfl
 obtain⟨l,R,F,c,b⟩:=h.on hb2;have V:∀j,w2.cell? ((⟨p,0,none⟩:Addr).add j)=c[j]? :=fun j=>ai p _ b.blk j;have G:=eL oD ou en b.ids x.1;rw [px]at G;obtain⟨r0,r1,hr1,G⟩:∃(r0:Int) (r1:Bool),(r1=true↔x.1∈xs.map (·.1))∧(Instr.lookup ID (Value.map (some R)) (eu x.1) true).run Tryz.prog w2= .ok (Value.tuple #[Value.int .i64 r0,Value.bool r1]) w2:=by
  have hm:=kr (l:=xs.map (·.1)) (k:=x.1);cases hx:(xs.map (·.1)).idxOf? x.1 with
  |none=>rw [hx]at G hm;exact⟨0,false,hm,G⟩
  |some i=>rw [hx]at G hm;exact⟨_,true,hm,G⟩
 refine ag.mk _ rfl ⟨some R,by rw [V];exact b.cells.c1,x.1,hc2 0,r0,r1,w2,G,?_⟩;intro w4 a3;have hh4:w4.heap=w2.heap:=by subst a3;rfl
 have hb4:ZH w w4:=by subst a3;exact hb2.drew
 have hcell4:∀j,w4.cell? ((⟨p,0,none⟩:Addr).add j)=c[j]? :=fun j=>by rw [←V j];subst a3;rfl
 have hc4:∀j,w4.cell? ((nb w).add j)=(#[Value.int .i64 x.1,Value.string (str x.2)]:Array Value)[j]? :=fun j=>by rw [←hc2 j];subst a3;rfl
 have f:sX w4 B p l R F c xs:=by subst a3;exact b.on (aU _)
 have G:=eL mP fk en f.texts x.2;rw [pl]at G;obtain⟨r4,r5,hr5,G⟩:∃(r4:Int) (r5:Bool),(r5=true↔x.2∈xs.map (·.2))∧(Instr.lookup Gg (Value.map (some F)) (di x.2) true).run Tryz.prog w4= .ok (Value.tuple #[Value.int .i64 r4,Value.bool r5]) w4:=by
  have hm:=kr (l:=xs.map (·.2)) (k:=x.2);cases hx:(xs.map (·.2)).idxOf? x.2 with
  |none=>rw [hx]at G hm;exact⟨0,false,hm,G⟩
  |some i=>rw [hx]at G hm;exact⟨_,true,hm,G⟩
 refine ag.mk _ rfl ⟨some F,by rw [hcell4];exact b.cells.c2,_,hc4 1,r4,r5,w4,G,x.1,_,⟨by have:=hc4 0;rwa [aC]at this,hc4 1,trivial⟩,?_⟩;refine(ub x w4).mono ?_;rintro e w6 ⟨rfl,r⟩;have hb6:ZH w w6:=hb4.trans (r.mono hb4.size);have hM6:sX w6 B p l R F c xs:=⟨aj r f.blk,f.cells,aE f.row r,f.len,f.off,f.ids.on r,f.texts.on r,f.bp,f.bi,f.bt,f.ne⟩;have hcell6:∀j,w6.cell? ((⟨p,0,none⟩:Addr).add j)=c[j]? :=fun j=>ai p _ hM6.blk j;have J:∀n:Int,n≠0→cP xs x=n→sS w B p xs x (.int .i64 n) w6:=fun n h0 hn=>⟨hb6.mono hB,by rw [hn],fun h=>absurd (hn▸h) h0⟩;refine⟨_,rfl,ac.mk (fun h0=>J 1 (by decide) ?_) fun h0=>?_⟩
 ·rw [cP,if_pos (by simpa using h0)]
 have Z:bF x=true:=by simpa using h0
 refine ag.mk _ rfl ⟨l.a,l.n,l.c,by rw [hcell6];exact b.cells.c0,ac.mk (fun h1=>J 3 (by decide) ?_) fun h1=>?_⟩
 ·have h1:=XQ h1;rw [cP,if_neg (by rw [Z];simp),if_pos (by rw [←b.len];omega)]
 have h1:=XX h1;have X:=b.len;have S:¬32≤xs.length:=by rw [←X];omega
 refine ac.mk (fun h2=>J 10 (by decide) ?_) fun h2=>ac.mk (fun h3=>J 10 (by decide) ?_) fun h3=>?_
 ·rw [cP,if_neg (by rw [Z];simp),if_neg S,if_pos (.inl (hr1.1 h2))]
 ·rw [cP,if_neg (by rw [Z];simp),if_neg S,if_pos (.inr (hr5.1 h3))]
 have n1:x.1∉xs.map (·.1):=fun h=>by rw [hr1.2 h]at h2;cases h2
 have n2:x.2∉xs.map (·.2):=fun h=>by rw [hr5.2 h]at h3;cases h3
 have hadd:cP xs x=0:=by rw [cP,if_neg (by rw [Z];simp),if_neg S,if_neg (fun h=>h.elim n1 n2)]
 have hkl:1≤x.2.length∧x.2.length≤64:=by
  have:=XQ (by simpa [bF]using Z:decide _=true);omega
 intro T hw7;have hh7:T.heap=w6.heap:=by subst hw7;rfl
 have hb7:ZH w T:=by subst hw7;exact hb6.drew
 have d:sX T B p l R F c xs:=by subst hw7;exact hM6.on (aU _)
 have o:∀j,T.cell? ((⟨p,0,none⟩:Addr).add j)=c[j]? :=fun j=>ai p _ d.blk j;have hloc4:w4.heap[w.heap.size]? =some (.cells #[Value.int .i64 x.1,Value.string (str x.2)] nH):=by
  rw [hh4,hh2];subst hw1;exact aq _ _
 have A:T.heap[w.heap.size]? =some (.cells #[Value.int .i64 x.1,Value.string (str x.2)] nH):=by rw [hh7];exact aj r hloc4
 have a4:∀w':World,w'.heap[w.heap.size]? =T.heap[w.heap.size]? →∀j,w'.cell? ((nb w).add j)=(#[Value.int .i64 x.1,Value.string (str x.2)]:Array Value)[j]? :=fun w' hw' j=>by
  rw [A]at hw';exact ai _ _ hw' j
 have hpw:p<w.heap.size:=h.is.lt;have L:R≠p:=dI d.blk d.ids;have Y:F≠p:=dI d.blk d.texts;have M:R≠w.heap.size:=dI A d.ids;have hmtw:F≠w.heap.size:=dI A d.texts;refine ag.mk _ rfl ⟨some R,by rw [o];exact b.cells.c1,x.1,a4 T rfl 0,ag.mk _ rfl ⟨some F,by rw [o];exact b.cells.c2,_,a4 T rfl 1,ag.mk _ rfl ⟨l.a,l.n,l.c,by rw [o];exact b.cells.c0,ag.mk _ rfl ⟨l.a,l.n,l.c,by rw [o];exact b.cells.c0,?_⟩⟩⟩⟩;obtain⟨k1,w8,hr8,hp8,a0,hz8,hB8⟩:=gJ oD ou en d.ids x.1 (by rw [px,List.idxOf?_eq_none_iff.2 n1];rfl);obtain⟨w9,hr9,hm9,hs9,hz9,hB9⟩:=gR ID hp8 (.int .i64 (l.n:Int));have ht9:bJ di w9 F (xv xs):=d.texts.same (by rw [hs9 F b.ne.symm,a0 F b.ne.symm]);obtain⟨k2,w10,hr10,hp10,hs10,hz10,hB10⟩:=gJ mP fk en ht9 x.2 (by rw [pl,List.idxOf?_eq_none_iff.2 n2];rfl);obtain⟨w11,hr11,hm11,hs11,hz11,hB11⟩:=gR Gg hp10 (.int .i64 (l.n:Int));have hblk8:w8.heap[p]? =some (.cells c sw (0,0)):=by rw [a0 p (Ne.symm L)];exact d.blk
 refine⟨0,k1,w8,hr8,⟨by rw [ai p _ hblk8];exact b.cells.c0,trivial⟩,⟨a4 w8 (a0 _ (Ne.symm M)) 1,trivial⟩,w9,hr9,⟨a4 w9 (by rw [hs9 _ (Ne.symm M),a0 _ (Ne.symm M)]) 1,trivial⟩,0,k2,w10,hr10,w11,hr11,?_⟩;have h11:∀k,k≠R→k≠F→w11.heap[k]? =T.heap[k]? :=fun k h1 h2=>by rw [hs11 k h2,hs10 k h2,hs9 k h1,a0 k h1]
 have hsz7:w11.heap.size=T.heap.size:=by rw [hz11,hz10,hz9,hz8]
 intro D hw12;have u:D.heap=w11.heap:=by subst hw12;rfl
 have z:D.heap[p]? =some (.cells c sw (0,0)):=by rw [u,h11 p (Ne.symm L) (Ne.symm Y)];exact d.blk
 have hb12:Below B w D:=by
  have:=hB11 _ _ b.bt (hB10 _ _ b.bt (hB9 _ _ b.bi (hB8 _ _ b.bi (hb7.mono hB))));subst hw12;exact this.drew
 have H:∀w':World,w'.heap[w.heap.size]? =D.heap[w.heap.size]? →∀j,w'.cell? ((nb w).add j)=(#[Value.int .i64 x.1,Value.string (str x.2)]:Array Value)[j]? :=fun w' hw' j=>a4 w' (by rw [hw',u,h11 _ (Ne.symm M) (Ne.symm hmtw)]) j;obtain⟨I,t0,hx0⟩:∃I t0,x.2=I::t0:=by
  cases hx:x.2 with
  |nil=>rw [hx]at hkl;simp at hkl
  |cons a t=>exact⟨a,t,rfl⟩
 have hbt:dM (str x.2) 0=(I.toNat:Int):=by
  have:=dB x.2 0 (by omega);rw [show((0:Nat):Int)=0 from rfl]at this;rw [this];simp [hx0]
 have hb0:I.toNat<256:=I.toNat_lt;have hadr:((⟨p,0,none⟩:Addr).add 3).add ((I.toNat:Int).toNat*1)=(⟨p,0,none⟩:Addr).add (3+I.toNat):=by
  rw [aG,aG,aG];simp
 refine⟨_,H D rfl 1,Int.le_refl _,by rw [aP];omega,ag.mk _ rfl ?_⟩;rw [hbt,hadr];refine⟨by omega,by omega,rfl,⟨_,by rw [ai p _ z];exact b.cells.first _ hb0⟩,bc z,?_⟩;intro a5 O;have hblk13:a5.heap[p]? =some (.cells (c.setIfInBounds (3+I.toNat) (.bool true)) sw (0,0)):=by subst O;exact bu z _
 have hb13:Below B w a5:=by subst O;exact bv hb12 b.bp _
 have hs13:∀k,k≠p→a5.heap[k]? =D.heap[k]? :=fun k S=>by subst O;exact ar (by rw [ay];exact S)
 have hz13:a5.heap.size=D.heap.size:=by subst O;exact ba _ _ _
 intro w14 hw14;have K:w14.heap=a5.heap:=by subst hw14;rfl
 have g:w14.heap[p]? =some (.cells (c.setIfInBounds (3+I.toNat) (.bool true)) sw (0,0)):=by rw [K];exact hblk13
 have hcs:=b.cells.size;refine ag.mk _ rfl ⟨fa xs,by rw [ai p _ g,Array.getElem?_setIfInBounds_ne (by omega)];exact b.cells.most,_,H w14 (by rw [K,hs13 _ (by omega)]) 1,_,w14,Bp _ _ _ _ _,ag.mk _ rfl ⟨rfl,⟨_,by rw [ai p _ g,Array.getElem?_setIfInBounds_ne (by omega)];exact b.cells.most⟩,bc g,?_⟩⟩;rw [aP, ←Ba];intro a6 Q;have hblk16:a6.heap[p]? =some (.cells ((c.setIfInBounds (3+I.toNat) (.bool true)).setIfInBounds 259 (.int .i64 (fa (xs++ [x])))) sw (0,0)):=by subst Q;exact bu g _
 have hb16:Below B w a6:=by
  subst Q;refine bv ?_ b.bp _;subst hw14;exact hb13.drew
 have N:∀k,k≠p→a6.heap[k]? =D.heap[k]? :=fun k S=>by
  rw [←hs13 k S, ←K];subst Q;exact ar (by rw [ay];exact S)
 have hz16:a6.heap.size=D.heap.size:=by rw [←hz13, ←K];subst Q;exact ba _ _ _
 intro q a2;have y:q.heap=a6.heap:=by subst a2;rfl
 have hb17:Below B w q:=by subst a2;exact hb16.drew
 have m:q.heap[p]? =some (.cells ((c.setIfInBounds (3+I.toNat) (.bool true)).setIfInBounds 259 (.int .i64 (fa (xs++ [x])))) sw (0,0)):=by rw [y];exact hblk16
 have hc17:((c.setIfInBounds (3+I.toNat) (.bool true)).setIfInBounds 259 (.int .i64 (fa (xs++ [x]))))[0]? =some l.v:=by
  rw [Array.getElem?_setIfInBounds_ne (by omega),Array.getElem?_setIfInBounds_ne (by omega)];exact b.cells.c0
 have hsame:∀k,k≠p→k≠R→k≠F→q.heap[k]? =T.heap[k]? :=fun k h1 h2 h3=>by rw [y,N k h1,u,h11 k h2 h3]
 have C:q.ownsRow B nH 2 l.v l.n (xs.flatMap aM):=aN d.row fun k S=>hsame k (fun e=>b.off (e▸S)) (fun e=>dc d.row d.ids (e▸S)) (fun e=>dc d.row d.texts (e▸S));have W:bJ eu q R (zy (xs++ [x])):=by
  rw [GE, ←X];exact hm9.same (by rw [y,N _ L,u,hs11 _ b.ne,hs10 _ b.ne])
 have a1:bJ di q F (xv (xs++ [x])):=by
  rw [Hg, ←X];exact hm11.same (by rw [y,N _ Y,u])
 have hsz17:T.heap.size=q.heap.size:=by rw [y,hz16,u,hsz7]
 have a2:w.heap.size<q.heap.size:=by
  have:=(XY.1 A).1;omega
 have U:=H q (by rw [y,N _ (by omega)]);obtain⟨a',c',w19,hr19,hu19,hf19,h20⟩:=fG (P:=Tryz.prog) (s:=l) 0 m (by simp;omega) C b.off b.bp 25 tw xb rfl (by decide) (aM x) rfl (eh _ _) (by omega) (by omega);refine ag.mk _ rfl ⟨l.a,l.n,l.c,by rw [ai p _ m];exact hc17,x.1,_,⟨by have:=U 0;rwa [aC]at this,U 1,trivial⟩,?_⟩;rintro w18 rfl;refine⟨⟨by rw [(ah q _).cell (by rw [ay];exact(XY.1 m).1),ai p _ m];exact hc17,trivial⟩,a',l.n+1,c',w19,hr19,ag.mk _ rfl ⟨rfl,hu19,hf19,?_⟩⟩;intro w20 hw20;obtain⟨hblk20,hrow20,hoff20,hB20,E,hsz20⟩:=h20 w20 hw20;refine⟨hB20 w hb17,by rw [hadd],fun _=>⟨⟨a',l.n+1,c'⟩,R,F,_,hblk20,⟨by simp [hcs],?_,?_,?_,?_,?_⟩,?_,by simp;omega,hoff20,?_,?_,b.bp,b.bi,b.bt,b.ne⟩⟩
 ·rw [Array.getElem?_setIfInBounds_self_of_lt (by simp;omega)]
 ·rw [Array.getElem?_setIfInBounds_ne (by omega),Array.getElem?_setIfInBounds_ne (by omega),Array.getElem?_setIfInBounds_ne (by omega)];exact b.cells.c1
 ·rw [Array.getElem?_setIfInBounds_ne (by omega),Array.getElem?_setIfInBounds_ne (by omega),Array.getElem?_setIfInBounds_ne (by omega)];exact b.cells.c2
 ·rw [Array.getElem?_setIfInBounds_ne (by omega),Array.getElem?_setIfInBounds_self_of_lt (by simp;omega)]
 ·intro i hi;rw [Array.getElem?_setIfInBounds_ne (by omega),Array.getElem?_setIfInBounds_ne (by omega)];have hf:gO (xs++ [x]) i=(gO xs i||decide (I.toNat=i)):=by
   simp [gO,hx0,Bool.beq_eq_decide_eq]
  rw [hf];by_cases he:I.toNat=i
  ·subst he;rw [Array.getElem?_setIfInBounds_self_of_lt (by omega)];simp
  ·rw [Array.getElem?_setIfInBounds_ne (by omega),b.cells.first i hi,XZ he,Bool.or_false]
 ·have hflat:(xs++ [x]).flatMap aM=xs.flatMap aM++aM x:=by simp
  rw [hflat];exact hrow20
 ·exact W.same (E R W.lt L (dc C W))
 ·exact a1.same (E F a1.lt Y (dc C a1))
def cr:List (Int×Bs)→Nat→List (Int×Bs)→Option (Nat×Int)
 |_,_,[]=>none
 |xs,i,x::r=>if cP xs x=0 then cr (xs++ [x]) (i+1) r else some (i,cP xs x)
def qN (w:World) (xs:List (Int×Bs)) (v:Value) (w':World):Prop:=ZH w w'∧match cr [] 0 xs with
 |some q=>v= .tuple #[.pointer none,.int .i64 q.1,.int .i64 q.2]
 |none=>∃p,v= .tuple #[.pointer (some ⟨p,0,none⟩),.int .i64 xs.length,.int .i64 0]∧qX w' w.heap.size p xs
theorem wg (w:World) (a:Option Addr) (c:Nat) (xs:List (Int×Bs)) (hr:Rw aM 2 w a xs) (hl:xs.length≤1000000000):
  CP 131 #[.slice a xs.length c] w fun e w'=>∃v,e= .returned v∧qN w xs v w':=by
 refine Bc a xs.length c w (qN w xs) ?_;refine⟨some w.heap.size,_,fR _,some (w.alloc (.map #[] 0)).heap.size,_,fR _,?_⟩;rintro E s;have k:(w.alloc (.map #[] 0)).heap.size=w.heap.size+1:=aK _ _;have t:((w.alloc (.map #[] 0)).alloc (.map #[] 0)).heap.size=w.heap.size+2:=by rw [aK,k]
 have z:ZH w E:=by
  subst s;exact(((Below.refl _ _).alloc (XV _) _).alloc (by omega) _).alloc (by omega) _
 have y:qX E w.heap.size (w.heap.size+2) (xs.take 0):=by
  subst s;refine⟨⟨none,0,0⟩,w.heap.size,w.heap.size+1,List.toArray ([Value.slice none 0 0,Value.map (some w.heap.size),Value.map (some (w.alloc (.map #[] 0)).heap.size)]++List.replicate 256 (Value.bool false)++ [Value.int .i64 0]),?_,⟨?_,rfl,rfl,?_,?_,?_⟩,cU _ _ _ _,rfl,(by intro h;cases h),?_,?_,by omega,by omega,by omega,by omega⟩
  ·have:=aq ((w.alloc (.map #[] 0)).alloc (.map #[] 0)) (.cells (List.toArray ([Value.slice none 0 0,Value.map (some w.heap.size),Value.map (some (w.alloc (.map #[] 0)).heap.size)]++List.replicate 256 (Value.bool false)++ [Value.int .i64 0])) sw);rw [t]at this;exact this
  ·simp
  ·rw [←k];rfl
  ·rfl
  ·intro i m;simp only [List.getElem?_toArray,List.append_assoc,List.cons_append,List.nil_append];rw [show 3+i=i+1+1+1 by omega];simp only [List.getElem?_cons_succ];rw [List.getElem?_append_left (by simpa using m),List.getElem?_replicate];simp [m,gO]
  ·exact(ip (kv:=eu) w).same (by rw [fE _ _ (by omega),fE _ _ (by omega)])
  ·have o:=ip (kv:=di) (w.alloc (.map #[] 0));rw [k]at o;exact o.same (by rw [fE _ _ (by omega)])
 have A:nb ((w.alloc (.map #[] 0)).alloc (.map #[] 0))=⟨w.heap.size+2,0,none⟩:=by rw [nb,t]
 rw [A];intro I G;have D:=aZ (α:=Int×Int×Option Addr×World) xs.length (fun i x=>qX x.2.2.2 w.heap.size (w.heap.size+2) (xs.take i)∧cr [] 0 xs=cr (xs.take i) i (xs.drop i)∧ZH w x.2.2.2) (fun i x=>I [.int .i64 (i:Int),.int .i64 x.1,.int .i64 x.2.1,.pointer x.2.2.1] x.2.2.2) (0,0,none,E) ⟨y,by rw [List.drop_zero,List.take_zero],z⟩ ?_ ?_
 ·exact D
 ·rintro i m P ⟨N,M,L,n⟩ ⟨l,f,g⟩;change qX n _ _ _ at l;change ZH w n at g;obtain⟨q,O,_,H⟩:=(hr.on g) i _ (XK m);have o:=H 0 _ rfl;rw [aC]at o;refine G _ _ _ _ _ (ac.yes (by simp;omega) (ag.mk q O ⟨by omega,by omega,_,_,⟨o,H 1 _ rfl,trivial⟩,?_⟩));intro Q B;refine bg [.int .i64 0,.string ⟨#[]⟩] [.int .i64 xs[i].1,.string (str xs[i].2)] rfl (eh _ _) Q B ?_;intro J F C p;refine⟨_,_,⟨by have:=ai _ _ F 0;rw [aC]at this;exact this,ai _ _ F 1,trivial⟩,?_⟩;refine(xx J w.heap.size (w.heap.size+2) (xs.take i) (l.on p) (by have R:w.heap.size≤n.heap.size:=g.size;have S:J.heap.size=n.heap.size+1:=C;omega) xs[i]).mono ?_;rintro e K ⟨v,rfl,u,rfl,j⟩;have b:xs.drop i=xs[i]::xs.drop (i+1):=List.drop_eq_getElem_cons m;have r:ZH w K:=(g.trans (p.mono g.size)).trans u;refine⟨_,rfl,ac.mk (fun h=>?_) fun h=>?_⟩
  ·have h:cP (xs.take i) xs[i]≠0:=by simpa using h
   refine⟨r,?_⟩;rw [f,b,cr,if_neg h]
  ·have h:cP (xs.take i) xs[i]=0:=by simpa using h
   have d:xs.take (i+1)=xs.take i++ [xs[i]]:=by rw [List.take_add_one,XK m];rfl
   refine Ar.ok64 (by omega) (by omega) (P (N,M,L,K) ⟨?_,?_,r⟩)
   ·rw [d];exact j h
   ·rw [f,b,cr,if_pos h,d]
 ·rintro⟨N,M,L,n⟩ ⟨l,f,g⟩;change qX n _ _ _ at l;refine G _ _ _ _ _ (ac.no (by simp) ⟨g,?_⟩);rw [f,List.drop_length,List.take_length,cr];rw [List.take_length]at l;exact⟨_,rfl,l⟩
def iK (xs:List (Int×Bs)) (mark:Int):Option (Int×Bs):=if mark<0 then xs[(-1-mark).toNat]? else none
def S9 (o:Option (Int×Bs)):Value:=match o with
 |some x=>.tuple #[.agg #[.int .i64 x.1,.string (str x.2)],.bool true]
 |none=>.tuple #[.agg #[.int .i64 0,.string ⟨#[]⟩],.bool false]
theorem oY (w:World) (p:Nat) (xs:List (Int×Bs)) (h:ni w p xs) (hl:xs.length≤1000000) (mark:Int) (hm: -1000000000000≤mark):CP 174 #[.pointer (some ⟨p,0,none⟩),.int .i64 mark] w fun e w'=>e= .returned (S9 (iK xs mark))∧ZH w w':=by
 refine aV (BR (some ⟨p,0,none⟩) mark w) ?_;intro q o;have z:ZH w q:=by subst o;exact ah _ _
 have t:=h.on z;have d:∀(a:Int) (b:ByteArray) (k:World→Prop),(∀g,g.cell? (nb w)=some (Value.int .i64 a)∧g.cell? ((nb w).add 1)=some (Value.string b)∧True→ZH w g→k g)→aI q (nb w) k [Value.int .i64 a,Value.string b] 0:=by
  intro a b k A;refine bg [.int .i64 0,.string ⟨#[]⟩] [.int .i64 a,.string b] rfl (eh a b) q o ?_;intro g f _ i;exact A g ⟨by have:=ai _ _ f 0;rw [aC]at this;exact this,ai _ _ f 1,trivial⟩ i
 refine ac.mk (fun j=>?_) fun j=>?_
 ·have j:=XQ j;refine d 0 _ _ fun g f i=>⟨0,_,f,?_,i⟩;rw [iK,if_neg (by omega)];rfl
 ·have j:=XX j;refine(nQ q p xs t).mono ?_;rintro e E ⟨rfl,B⟩;subst B;refine⟨_,rfl,Ar.ok64 (by omega) (by omega) (ac.mk (fun m=>?_) fun m=>?_)⟩
  ·have m:=XQ m;refine d 0 _ _ fun g f i=>⟨0,_,f,?_,i⟩;rw [iK,if_pos (by omega),List.getElem?_eq_none (by omega)];rfl
  ·have m:=XX m;obtain⟨l,C,D,c,r,v,f,x,_⟩:=t;have n:(-1-mark).toNat<xs.length:=by omega
   obtain⟨a,y,_,u⟩:=x _ _ (XK n);have s:=u 0 _ rfl;rw [aC]at s;refine ag.mk _ rfl ⟨l.a,l.n,l.c,by rw [ai p _ r];exact v.c0,Ar.ok64 (by omega) (by omega) (ag.mk a y ⟨by omega,by omega,_,_,⟨s,u 1 _ rfl,trivial⟩,?_⟩)⟩;refine d _ _ _ fun g f i=>⟨_,_,f,?_,i⟩;rw [iK,if_pos (by omega),XK n];rfl
theorem BH (w:World) (p:Nat) (xs:List (Int×Bs)) (h:ni w p xs) (hl:xs.length≤1000000) (mark:Int) (hm: -1000000000000≤mark):CP 262 #[.pointer (some ⟨p,0,none⟩),.int .i64 mark] w fun e w'=>e= .returned (.tuple #[.int .i64 (((iK xs mark).map (·.1)).getD 0),.bool (iK xs mark).isSome])∧ZH w w':=by
 refine aV (Al (some ⟨p,0,none⟩) mark w) ?_;refine(oY w p xs h hl mark hm).mono ?_;rintro e i ⟨rfl,l⟩;have c:∀(a:Int) (b:ByteArray) (r:Bool),∀d:World,d=i.alloc (.cells #[Value.int .i64 0,Value.string ⟨#[]⟩] nH)→aI d (nb i) (fun j=>∃n:Int,j.cell? ((nb i).add 0)=some (Value.int .i64 n)∧(Ending.returned (Value.tuple #[Value.int .i64 n,Value.bool r])= .returned (Value.tuple #[Value.int .i64 a,Value.bool r])∧ZH w j)) [Value.int .i64 a,Value.string b] 0:=by
  intro a b r d g;refine bg [.int .i64 0,.string ⟨#[]⟩] [.int .i64 a,.string b] rfl (eh a b) d g ?_;intro j k _ f;exact⟨a,ai _ _ k 0,rfl,ae l f⟩
 cases hx:iK xs mark with
 |none=>exact⟨0,_,false,rfl,c _ _ _⟩
 |some x=>exact⟨x.1,_,true,rfl,c _ _ _⟩
def cJ (cls:List (Int×Int×Int)) (b:Int):Int:=cls.foldl (fun n c=>if c.1≤b∧b≤c.2.1 then c.2.2 else n) 0
theorem sV (cls:List (Int×Int×Int)) (c:Int×Int×Int) (b:Int):cJ (cls++ [c]) b=if c.1≤b∧b≤c.2.1 then c.2.2 else cJ cls b:=by simp [cJ]
theorem qS {cls:List (Int×Int×Int)} (h:∀c∈cls,bh c=true) (b:Int):0≤cJ cls b∧cJ cls b<16:=by
 have:∀(l:List (Int×Int×Int)) (n:Int),(∀c∈l,bh c=true)→0≤n∧n<16→0≤l.foldl (fun n c=>if c.1≤b∧b≤c.2.1 then c.2.2 else n) n∧l.foldl (fun n c=>if c.1≤b∧b≤c.2.1 then c.2.2 else n) n<16:=by
  intro l;induction l with
  |nil=>intro n _ h;exact h
  |cons c l ih=>
   intro n d e;refine ih _ (fun c a=>d c (by simp [a])) ?_;have a:=XQ (by simpa [bh]using d c (by simp):decide _=true);show 0≤(if c.1≤b∧b≤c.2.1 then c.2.2 else n)∧(if c.1≤b∧b≤c.2.1 then c.2.2 else n) <16;split
   ·omega
   ·exact e
 exact this cls 0 h (by omega)
def cutB (cls:List (Int×Int×Int)) (js:List (Int×Int)) (a b:Int):Bool:=decide (cJ cls a≠cJ cls b∧(cJ cls a,cJ cls b)∉js)
abbrev kf:TypeId:=288
structure F6 (c:Array Value) (f:Nat→Int) (g:Nat→Nat→Bool):Prop where
 size:c.size=512
 cls:∀b,b<256→c[b]? =some (.int .i64 (f b))
 join:∀x y,x<16→y<16→c[256+x*16+y]? =some (.bool (g x y))
def tu (js:List (Int×Int)) (x y:Nat):Bool:=decide (((x:Int),(y:Int))∈js)
def so (w:World) (p:Nat) (cls:List (Int×Int×Int)) (js:List (Int×Int)):Prop:=∃c,w.heap[p]? =some (.cells c kf (0,0))∧F6 c (fun b=>cJ cls b) (tu js)
theorem so.on {w w':World} {p:Nat} {cls:List (Int×Int×Int)} {js:List (Int×Int)} (h:so w p cls js) (hb:ZH w w'):so w' p cls js:=by
 obtain⟨c,a,b⟩:=h;exact⟨c,aj hb a,b⟩
theorem h_ (n:Int) (w:World):CP 192 #[.int .i64 n] w fun e w'=>e= .returned (.bool (decide (0≤n∧n≤15)))∧w'=w:=by
 refine aJ (Dp n w (fun v w'=>v= .bool (decide (0≤n∧n≤15))∧w'=w) ?_) (by rintro v w' ⟨rfl,h⟩;exact⟨rfl,h⟩);refine ac.mk (fun h=>?_) fun h=>?_
 ·have h:=XQ h;refine⟨?_,rfl⟩;congr 1;exact decide_eq_decide.2 (by omega)
 ·have h:=XX h;refine⟨?_,rfl⟩;rw [XZ (by omega)]
theorem sG (c:Int×Int×Int) (w:World):CP 191 #[.agg #[.int .i64 c.1,.int .i64 c.2.1,.int .i64 c.2.2]] w fun e w'=>e= .returned (.bool (bh c))∧ZH w w':=by
 refine aJ (AJ c.1 c.2.1 c.2.2 w (fun v w'=>v= .bool (bh c)∧ZH w w') ?_) (by rintro v w' ⟨rfl,h⟩;exact⟨rfl,h⟩);intro k i;have l:ZH w k:=by subst i;exact ah _ _
 have g:∀j,k.cell? ((nb w).add j)=(#[Value.int .i64 c.1,Value.int .i64 c.2.1,Value.int .i64 c.2.2]:Array Value)[j]? :=by
  intro j;subst i;rw [aG,Nat.zero_add,bn]
 have a:bh c=false→(Value.bool false= .bool (bh c)∧ZH w k):=fun h=>⟨by rw [h],l⟩;refine⟨c.1,g 0,ac.mk (fun b=>?_) fun b=>a ?_⟩
 ·have b:=XQ b;refine⟨c.1,g 0,c.2.1,g 1,ac.mk (fun d=>?_) fun d=>a ?_⟩
  ·have d:=XQ d;refine⟨c.2.1,g 1,ac.mk (fun f=>?_) fun f=>a ?_⟩
   ·have f:=XQ f;refine⟨c.2.2,g 2,?_⟩;refine(h_ c.2.2 k).mono ?_;rintro e n ⟨rfl,m⟩;subst m;refine⟨_,rfl,?_,l⟩;congr 1;unfold bh;exact decide_eq_decide.2 (by omega)
   ·have f:=XX f;unfold bh;exact XZ (by omega)
  ·have d:=XX d;unfold bh;exact XZ (by omega)
 ·have b:=XX b;unfold bh;exact XZ (by omega)
theorem gE (a b c:Int):∀v∈ [Value.int .i64 a,Value.int .i64 b,Value.int .i64 c],v.oneCell'=true:=by
 intro v d;simp only [List.mem_cons,List.not_mem_nil,or_false]at d;rcases d with rfl |rfl |rfl<;>rfl
theorem F6.setCls {c:Array Value} {f:Nat→Int} {g:Nat→Nat→Bool} (h:F6 c f g) {b:Nat} (hb:b<256) (n:Int):F6 (c.setIfInBounds b (.int .i64 n)) (fun i=>if i=b then n else f i) g:=by
 refine⟨by simp [h.size],fun i a=>?_,fun x y d j=>?_⟩
 ·by_cases he:i=b
  ·subst he;rw [Array.getElem?_setIfInBounds_self_of_lt (by have:=h.size;omega),if_pos rfl]
  ·rw [Array.getElem?_setIfInBounds_ne (fun e=>he e.symm),if_neg he,h.cls i a]
 ·rw [Array.getElem?_setIfInBounds_ne (by omega)];exact h.join x y d j
theorem F6.setJoin {c:Array Value} {f:Nat→Int} {g:Nat→Nat→Bool} (h:F6 c f g) {x y:Nat} (hx:x<16) (hy:y<16):F6 (c.setIfInBounds (256+x*16+y) (.bool true)) f (fun a b=>g a b||decide (a=x∧b=y)):=by
 refine⟨by simp [h.size],fun i j=>?_,fun a b d e=>?_⟩
 ·rw [Array.getElem?_setIfInBounds_ne (by omega)];exact h.cls i j
 ·by_cases he:a=x∧b=y
  ·obtain⟨rfl,rfl⟩:=he;rw [Array.getElem?_setIfInBounds_self_of_lt (by have:=h.size;omega)];simp
  ·rw [Array.getElem?_setIfInBounds_ne (by omega),h.join a b d e,XZ he,Bool.or_false]
theorem F6.congr {c:Array Value} {f f':Nat→Int} {g g':Nat→Nat→Bool} (h:F6 c f g) (hf:∀b,b<256→f b=f' b) (hg:∀x y,x<16→y<16→g x y=g' x y):F6 c f' g':=
 ⟨h.size,fun b hb=>by rw [h.cls b hb,hf b hb],fun x y hx hy=>by rw [h.join x y hx hy,hg x y hx hy]⟩
theorem uT (w:World) (a1 a2:Option Addr) (c1 c2:Nat) (cls:List (Int×Int×Int)) (js:List (Int×Int)) (hr1:Rw bS 3 w a1 cls) (hr2:Rw be 2 w a2 js) (hl1:cls.length≤1000000) (hl2:js.length≤1000000)
  (ok1:∀c∈cls,bh c=true) (ok2:∀j∈js,cO j=true):
  CP 134 #[.slice a1 cls.length c1,.slice a2 js.length c2] w fun e w'=>∃p,e= .returned (.tuple #[.pointer (some ⟨p,0,none⟩),.int .i64 0])∧so w' p cls js∧ZH w w'∧w.heap.size≤p:=by
 refine aV (AL a1 cls.length c1 a2 js.length c2 w) ?_;intro w1 a3;have hb1:ZH w w1:=by subst a3;exact ah _ _
 have h1:∃c,w1.heap[w.heap.size]? =some (.cells c kf (0,0))∧F6 c (fun b=>cJ (cls.take 0) b) (fun _ _=>false):=by
  subst a3;refine⟨_,aq _ _,by simp,fun b Z=>?_,fun x y hx hy=>?_⟩
  ·rw [List.getElem?_toArray,List.getElem?_append_left (by rw [List.length_replicate];exact Z),List.getElem?_replicate,if_pos Z];rfl
  ·rw [List.getElem?_toArray,List.getElem?_append_right (by simp;omega),List.getElem?_replicate,if_pos (by simp;omega)]
 intro I hI;have T:=aZ (α:=Int×Option Addr×World) cls.length (fun i x=>(∃c,x.2.2.heap[w.heap.size]? =some (.cells c kf (0,0))∧F6 c (fun b=>cJ (cls.take i) b) (fun _ _=>false))∧ZH w x.2.2) (fun i x=>I [.int .i64 (i:Int),.int .i64 x.1,.pointer x.2.1] x.2.2) (0,none,w1) ⟨h1,hb1⟩ ?_ ?_
 ·exact T
 ·rintro i O ih ⟨V,U,r⟩ ⟨⟨c,d,t⟩,n⟩;change r.heap[w.heap.size]? =_ at d;change ZH w r at n;obtain⟨q,hq,_,o⟩:=(hr1.on n) i _ (XK O);have q0:=o 0 _ rfl;rw [aC]at q0;refine hI _ _ _ _ (ac.yes (by simp;omega) (ag.mk q hq ⟨by omega,by omega,_,_,_,⟨q0,o 1 _ rfl,o 2 _ rfl,trivial⟩,?_⟩));intro w3 hw3;refine bg [.int .i64 0,.int .i64 0,.int .i64 0] [.int .i64 cls[i].1,.int .i64 cls[i].2.1,.int .i64 cls[i].2.2] rfl (gE _ _ _) w3 hw3 ?_;intro w4 h4 hz4 hB4;refine⟨_,_,_,⟨by have:=ai _ _ h4 0;rw [aC]at this;exact this,ai _ _ h4 1,ai _ _ h4 2,trivial⟩,?_⟩;refine(sG cls[i] w4).mono ?_;rintro e w5 ⟨rfl,X⟩;have B:=ok1 cls[i] (List.getElem_mem O);have hr:=XQ (by simpa [bh]using B:decide _=true);have h5:=aj X h4;have E:ZH r w5:=ae hB4 X;have N:=aj E d;have hne:r.heap.size≠w.heap.size:=by have:=(XY.1 d).1;omega
  refine⟨_,rfl,ac.no (by rw [B];rfl) ⟨_,ai _ _ h5 0,?_⟩⟩;obtain⟨g,P⟩:∃g:Nat,cls[i].1=(g:Int):=⟨cls[i].1.toNat,by omega⟩;obtain⟨z,v⟩:∃z:Nat,cls[i].2.1=(z:Int):=⟨cls[i].2.1.toNat,by omega⟩;rw [P,v]at hr;intro I5 Y;rw [P];have a5:=aZ (α:=World) (z+1-g) (fun k x=>(∃c,x.heap[w.heap.size]? =some (.cells c kf (0,0))∧F6 c (fun b=>if g≤b∧b<g+k then cls[i].2.2 else cJ (cls.take i) b) (fun _ _=>false))∧ZH w x∧x.heap[r.heap.size]? =w5.heap[r.heap.size]?) (fun k x=>I5 [.int .i64 ((g+k:Nat):Int)] x) w5 ⟨⟨c,N,t.congr (fun b _=>by rw [if_neg (by omega)]) (fun _ _ _ _=>rfl)⟩,n.trans (E.mono n.size),rfl⟩ ?_ ?_
  ·exact a5
  ·rintro k hk ih5 w6 ⟨⟨c6,h,u⟩,M,Q⟩;have A:w6.heap[r.heap.size]? =some (.cells #[Value.int .i64 cls[i].1,Value.int .i64 cls[i].2.1,Value.int .i64 cls[i].2.2] Hu (0,0)):=by rw [Q];exact h5
   refine Y _ _ ⟨_,ai _ _ A 1,ac.yes (by rw [v];simp;omega) ?_⟩;intro w7 R;have l:w7.heap[w.heap.size]? =some (.cells c6 kf (0,0)):=by subst R;exact h
   have a0:w7.heap[r.heap.size]? =some (.cells #[Value.int .i64 cls[i].1,Value.int .i64 cls[i].2.1,Value.int .i64 cls[i].2.2] Hu (0,0)):=by subst R;exact A
   have hB7:ZH w w7:=by subst R;exact M.drew
   have s:((nb w).add 0).add (((g+k:Nat):Int).toNat*1)=(⟨w.heap.size,0,none⟩:Addr).add (g+k):=by
    rw [aG,aG,aG];simp
   rw [s];refine⟨_,ai _ _ a0 2,by omega,by omega,rfl,⟨_,by rw [ai _ _ l];exact u.cls (g+k) (by omega)⟩,bc l,?_⟩;intro w8 S;refine Ar.ok64 (by omega) (by omega) ?_;rw [show((g+k:Nat):Int)+1=((g+(k+1):Nat):Int) by omega];refine ih5 w8 ⟨⟨_,by subst S;exact bu l _,(u.setCls (show g+k<256 by omega) cls[i].2.2).congr (fun b Z=>?_) (fun _ _ _ _=>rfl)⟩,by subst S;exact bv hB7 (XV _) _,?_⟩
   ·by_cases he:b=g+k
    ·subst he;rw [if_pos rfl,if_pos (by omega)]
    ·rw [if_neg he];by_cases h2:g≤b∧b<g+k
     ·rw [if_pos h2,if_pos (by omega)]
     ·rw [if_neg h2,if_neg (by omega)]
   ·subst S;rw [ar (by rw [ay];exact hne),a0,h5]
  ·rintro w6 ⟨⟨c6,h,u⟩,M,Q⟩;have A:w6.heap[r.heap.size]? =some (.cells #[Value.int .i64 cls[i].1,Value.int .i64 cls[i].2.1,Value.int .i64 cls[i].2.2] Hu (0,0)):=by rw [Q];exact h5
   refine Y _ _ ⟨_,ai _ _ A 1,ac.no (by rw [v];simp;omega) ?_⟩;refine Ar.ok64 (by omega) (by omega) (ih (V,U,w6) ⟨⟨c6,h,u.congr (fun b Z=>?_) (fun _ _ _ _=>rfl)⟩,M⟩);have m:cls.take (i+1)=cls.take i++ [cls[i]]:=by rw [List.take_add_one,XK O];rfl
   rw [m,sV,P,v];by_cases h2:g≤b∧b<g+(z+1-g)
   ·rw [if_pos h2,if_pos (by omega)]
   ·rw [if_neg h2,if_neg (by omega)]
 ·rintro⟨V,U,r⟩ ⟨⟨c,d,t⟩,n⟩;change r.heap[w.heap.size]? =_ at d;change ZH w r at n;rw [List.take_length]at t;refine hI _ _ _ _ (ac.no (by simp) ?_);intro I11 F;have T:=aZ (α:=Int×Option Addr×World) js.length (fun i x=>(∃c,x.2.2.heap[w.heap.size]? =some (.cells c kf (0,0))∧F6 c (fun b=>cJ cls b) (tu (js.take i)))∧ZH w x.2.2) (fun i x=>I11 [.int .i64 (i:Int),.int .i64 x.1,.pointer x.2.1] x.2.2) (V,U,r) ⟨⟨c,d,t.congr (fun _ _=>rfl) (fun x y _ _=>by simp [tu])⟩,n⟩ ?_ ?_
  ·exact T
  ·rintro i O ih ⟨V,U,w9⟩ ⟨⟨c,d,t⟩,n⟩;change w9.heap[w.heap.size]? =_ at d;change ZH w w9 at n;obtain⟨q,hq,_,o⟩:=(hr2.on n) i _ (XK O);have q0:=o 0 _ rfl;rw [aC]at q0;refine F _ _ _ _ (ac.yes (by simp;omega) (ag.mk q hq ⟨by omega,by omega,_,_,⟨q0,o 1 _ rfl,trivial⟩,?_⟩));intro w10 a4;refine bg [.int .i64 0,.int .i64 0] [.int .i64 js[i].1,.int .i64 js[i].2] rfl (cK _ _) w10 a4 ?_;intro w11 L hz11 D;have B:=ok2 js[i] (List.getElem_mem O);have hr:=XQ (by simpa [cO]using B:decide _=true);refine⟨_,ai _ _ L 0,(h_ _ w11).mono ?_⟩;rintro e w12 ⟨rfl,hw⟩;subst hw;refine⟨_,rfl,ac.no (by rw [XJ (by omega)];rfl) ⟨_,ai _ _ L 1,(h_ _ w12).mono ?_⟩⟩;rintro e w13 ⟨rfl,hw⟩;subst hw;refine⟨_,rfl,ac.no (by rw [XJ (by omega)];rfl) ?_⟩;intro C J;have G:C.heap=w13.heap:=by subst J;rfl
   have H:C.heap[w9.heap.size]? =some (.cells #[Value.int .i64 js[i].1,Value.int .i64 js[i].2] KI (0,0)):=by rw [G];exact L
   have f:C.heap[w.heap.size]? =some (.cells c kf (0,0)):=by rw [G];exact aj D d
   have W:ZH w C:=by subst J;exact(n.trans (D.mono n.size)).drew
   obtain⟨x,hx⟩:∃x:Nat,js[i].1=(x:Int):=⟨js[i].1.toNat,by omega⟩;obtain⟨y,hy⟩:∃y:Nat,js[i].2=(y:Int):=⟨js[i].2.toNat,by omega⟩;have s:(((nb w).add 256).add ((js[i].1).toNat*16)).add ((js[i].2).toNat*1)=(⟨w.heap.size,0,none⟩:Addr).add (256+x*16+y):=by
    rw [aG,aG,aG,aG,hx,hy];simp
   refine⟨_,ai _ _ H 0,_,ai _ _ H 1,by omega,by omega,by omega,by omega,?_⟩;rw [s];refine⟨rfl,⟨_,by rw [ai _ _ f];exact t.join x y (by omega) (by omega)⟩,bc f,?_⟩;intro w15 K;refine Ar.ok64 (by omega) (by omega) (ih (V,U,w15) ⟨⟨_,by subst K;exact bu f _,(t.setJoin (show x<16 by omega) (show y<16 by omega)).congr (fun _ _=>rfl) (fun a b ha Z=>?_)⟩,by subst K;exact bv W (XV _) _⟩);have m:js.take (i+1)=js.take i++ [js[i]]:=by rw [List.take_add_one,XK O];rfl
   rw [m];have:js[i]=((x:Int),(y:Int)):=Prod.ext hx hy;rw [this];unfold tu;rw [Bool.eq_iff_iff];simp only [Bool.or_eq_true,decide_eq_true_eq,List.mem_append,List.mem_singleton,Prod.mk.injEq];have:((a:Int)=x∧(b:Int)=y)↔(a=x∧b=y):=by omega
   rw [this]
  ·rintro⟨V,U,w9⟩ ⟨⟨c,d,t⟩,n⟩;rw [List.take_length]at t;exact F _ _ _ _ (ac.no (by simp) ⟨w.heap.size,rfl,⟨c,d,t⟩,n,XV _⟩)
theorem pJ (w:World) (p:Nat) (cls:List (Int×Int×Int)) (js:List (Int×Int)) (h:so w p cls js) (ok1:∀c∈cls,bh c=true) (a b:Int) (ha:0≤a∧a<256) (hb:0≤b∧b<256):
  CP 227 #[.pointer (some ⟨p,0,none⟩),.int .u8 a,.int .u8 b] w fun e w'=>e= .returned (.bool (cutB cls js a b))∧ZH w w':=by
 refine aV (Ak (some ⟨p,0,none⟩) a b w) ?_;refine ac.no rfl ?_;intro s l;have j:ZH w s:=by subst l;exact(Below.refl _ _).drew
 obtain⟨c,d,k⟩:=h.on j;obtain⟨a,rfl⟩:∃n:Nat,a=n:=⟨a.toNat,by omega⟩;obtain⟨b,rfl⟩:∃n:Nat,b=n:=⟨b.toNat,by omega⟩;have g:∀n:Nat,((⟨p,0,none⟩:Addr).add 0).add ((n:Int).toNat*1)=(⟨p,0,none⟩:Addr).add n:=fun n=>by
  rw [aG,aG,aG];simp
 have q:=qS ok1 a;have r:=qS ok1 b;refine ag.mk _ rfl ⟨ha.1,ha.2,_,by rw [g,ai p _ d];exact k.cls a (by omega),ag.mk _ rfl ⟨hb.1,hb.2,_,by rw [g,ai p _ d];exact k.cls b (by omega),ac.mk (fun f=>?_) fun f=>?_⟩⟩
 ·have f:cJ cls a≠cJ cls b:=by simpa using f
  obtain⟨x,m⟩:∃x:Nat,cJ cls a=(x:Int):=⟨(cJ cls a).toNat,by omega⟩;obtain⟨y,o⟩:∃y:Nat,cJ cls b=(y:Int):=⟨(cJ cls b).toNat,by omega⟩;have i:(((⟨p,0,none⟩:Addr).add 256).add ((cJ cls a).toNat*16)).add ((cJ cls b).toNat*1)=(⟨p,0,none⟩:Addr).add (256+x*16+y):=by
   rw [aG,aG,aG,aG,m,o];simp
  refine ag.mk _ rfl ⟨q.1,q.2,r.1,r.2,_,by rw [i,ai p _ d];exact k.join x y (by omega) (by omega),?_,j⟩;congr 1;rw [cutB,tu, ←m, ←o];simp [f]
 ·have f:cJ cls a=cJ cls b:=by simpa using f
  refine⟨?_,j⟩;rw [cutB,XZ (by simp [f])]
def hO (f:Nat→Bool):Nat→Nat
 |0=>0
 |i+1=>hO f i+if f i then 1 else 0
theorem qh {f:Nat→Bool}:∀n,hO f n=0↔∀i,i<n→f i=false
 |0=>by simp [hO]
 |n+1=>by
  rw [hO];have:=qh (f:=f) n;constructor
  ·intro h i hi;rcases Nat.lt_succ_iff_lt_or_eq.1 hi with h' |h'
   ·exact this.1 (by omega) i h'
   ·subst h';cases hf:f i with
    |false=>rfl
    |true=>rw [hf]at h;simp at h
  ·intro h;rw [this.2 fun i hi=>h i (by omega),h n (by omega)];rfl
theorem uZ (f:Nat→Bool):∀n,hO f n≤n
 |0=>XV _
 |n+1=>by
  have:=uZ f n;rw [hO];split<;>omega
def fS (cut:Int→Int→Bool) (s:Bs) (j:Nat):Bool:=if j=s.length then true else match s[j-1]?,s[j]? with
 |some x,some y=>decide (1≤j)&&cut x.toNat y.toNat
 |_,_=>false
theorem zi (w:World) (p:Nat) (cls:List (Int×Int×Int)) (js:List (Int×Int)) (h:so w p cls js) (ok1:∀c∈cls,bh c=true) (s:Bs) (hs:s.length≤1000000):
  CP 212 #[.pointer (some ⟨p,0,none⟩),.string (str s)] w fun e w'=>∃a n c,e= .returned (.slice a n c)∧(n=if s= []then 0 else hO (fS (cutB cls js) s) (s.length+1))∧ZH w w':=by
 refine aV (BV (some ⟨p,0,none⟩) (str s) w) ?_;intro I N;have u:(str s).size=s.length:=aP s;by_cases hn:s= []
 ·subst hn;refine N _ _ _ _ _ _ (ac.no (by rw [u];simp) ⟨none,0,0,rfl,by simp,Below.refl _ _⟩)
 have V:0<s.length:=List.length_pos_iff.2 hn;have X:fS (cutB cls js) s 0=false:=by
  unfold fS;rw [if_neg (by omega)];split<;>simp
 have O:=aZ (α:=Int×Sl×List Value×World) s.length (fun k x=>0≤x.1∧x.1≤k∧x.2.1.n=hO (fS (cutB cls js) s) (k+1)∧x.2.2.2.ownsRow w.heap.size dN 1 x.2.1.v x.2.1.n x.2.2.1∧ZH w x.2.2.2) (fun k x=>I [.int .i64 ((k:Int)+1),.int .i64 x.1,x.2.1.v] x.2.2.2) (0,⟨none,0,0⟩,[],w) ⟨by simp,by simp,by simp [hO,X],cU _ _ _ _,Below.refl _ _⟩ ?_ ?_
 ·exact O
 ·rintro k U W ⟨b,l,G,Q⟩ ⟨H,S,D,f,K⟩;change 0≤b at H;change b≤(k:Int)at S;change l.n=_ at D;change Q.ownsRow w.heap.size dN 1 l.v l.n G at f;change ZH w Q at K;have a0:=uZ (fS (cutB cls js) s) (k+1);refine N _ _ _ _ _ _ (ac.yes (by rw [u];simp;omega) ?_);intro J T L E;have i:ZH w L:=by subst E;exact K.drew
  have d:L.ownsRow w.heap.size dN 1 l.v l.n G:=by subst E;exact eA f
  have o:∀(F:World),ZH w F→F.ownsRow w.heap.size dN 1 l.v l.n G→fS (cutB cls js) s (k+1)=true→
    (0:Int)≤b∧b≤(k:Int)+1∧(k:Int)+1≤((str s).size:Int)∧
     ∀R:World,R=F.alloc (.cells #[Value.string ((str s).extract b.toNat ((k:Int)+1).toNat)] dN)→
     ∃lA_8:Option Addr,∃lN_9:Nat,∃lC_10:Nat,∃j:World,(Builtin.append_ #[eH,eH] eH #[Value.slice l.a l.n l.c,Value.slice (some (nb F)) 1 1]).run Tryz.prog R= .ok (Value.slice lA_8 lN_9 lC_10) j∧
     J [Value.int .i64 ((k:Int)+1),Value.slice lA_8 lN_9 lC_10] j:=by
   intro F q g z;refine⟨H,by omega,by rw [u];omega,?_⟩;rintro R rfl;obtain⟨A,C,j,hr,t,hg,_⟩:=iD (P:=Tryz.prog) eH dN jc jk rfl (by decide) g [Value.string ((str s).extract b.toNat ((k:Int)+1).toNat)] rfl (by simp [Value.oneCell']) (by omega) (by omega) q.size;refine⟨A,l.n+1,C,j,hr,T _ _ _ _ _ ?_⟩;refine Ar.ok64 (by omega) (by omega) (W ((k:Int)+1,⟨A,l.n+1,C⟩,_,j) ⟨by show(0:Int)≤(k:Int)+1;omega,by show(k:Int)+1≤((k+1:Nat):Int);omega,?_,t,fB q g hg q.size⟩);show l.n+1=_;rw [hO,z,D];rfl
  refine ac.mk (fun v=>?_) fun v=>?_
  ·have v:(k:Int)+1=((str s).size:Int):=by simpa using v
   exact o L i d (by unfold fS;rw [if_pos (by omega)])
  ·have v:(k:Int)+1≠((str s).size:Int):=by simpa using v
   have B:k+1<s.length:=by omega
   refine Ar.ok64 (by omega) (by omega) ⟨by omega,by rw [u];omega,by omega,by rw [u];omega,?_⟩;have Y:dM (str s) ((k:Int)+1-1)=((s[k]).toNat:Int):=by
    rw [show(k:Int)+1-1=((k:Nat):Int) by omega];exact dB s k U
   have Z:dM (str s) ((k:Int)+1)=((s[k+1]).toNat:Int):=by
    rw [show(k:Int)+1=((k+1:Nat):Int) by omega];exact dB s (k+1) B
   rw [Y,Z];have b1:=(s[k]).toNat_lt;have b2:=(s[k+1]).toNat_lt;refine(pJ L p cls js (h.on (i.mono (by exact XV _))) ok1 _ _ (by omega) (by omega)).mono ?_;rintro e j ⟨rfl,r⟩;have y:fS (cutB cls js) s (k+1)=cutB cls js (s[k]).toNat (s[k+1]).toNat:=by
    unfold fS;rw [if_neg (by omega),Nat.add_sub_cancel,XK U,XK B];simp
   have m:ZH w j:=i.trans (r.mono i.size);refine⟨_,rfl,ac.mk (fun M=>?_) fun M=>?_⟩
   ·exact o j m (aE d r) (by rw [y,M])
   ·refine T _ _ _ _ _ (Ar.ok64 (by omega) (by omega) (W (b,l,G,j) ⟨H,by show b≤((k+1:Nat):Int);omega,?_,aE d r,m⟩));show l.n=_;rw [hO,y,M,D];rfl
 ·rintro⟨b,l,G,Q⟩ ⟨H,S,D,f,K⟩;refine N _ _ _ _ _ _ (ac.no (by rw [u];simp;omega) ⟨_,_,_,rfl,?_,K⟩);rw [if_neg hn];exact D
def nD (cut:Int→Int→Bool) (s:Bs):Bool:=decide (∀j,j<s.length→fS cut s j=false)
theorem Dy (w:World) (p:Nat) (cls:List (Int×Int×Int)) (js:List (Int×Int)) (h:so w p cls js) (ok1:∀c∈cls,bh c=true) (s:Bs) (hs:s.length≤1000000):
  CP 165 #[.pointer (some ⟨p,0,none⟩),.string (str s)] w fun e w'=>e= .returned (.bool (nD (cutB cls js) s))∧ZH w w':=by
 refine aJ (ye (some ⟨p,0,none⟩) (str s) w (fun v w'=>v= .bool (nD (cutB cls js) s)∧ZH w w') ?_) (by rintro v w' ⟨rfl,h⟩;exact⟨rfl,h⟩);refine(zi w p cls js h ok1 s hs).mono ?_;rintro e f ⟨a,n,c,rfl,b,d⟩;refine⟨a,n,c,rfl,?_,d⟩;congr 1;unfold nD;refine decide_eq_decide.2 ?_;by_cases he:s= []
 ·subst he;rw [if_pos rfl]at b;subst b;simp
 ·rw [if_neg he,hO]at b;have:fS (cutB cls js) s s.length=true:=by unfold fS;rw [if_pos rfl]
  rw [this]at b;rw [←qh];simp only [if_true]at b;omega
def lO (cut:Int→Int→Bool) (a b:Bs):Bool:=match a.getLast?,b.head? with
 |some x,some y=>cut x.toNat y.toNat
 |_,_=>false
theorem wt (w:World) (p:Nat) (cls:List (Int×Int×Int)) (js:List (Int×Int)) (h:so w p cls js) (ok1:∀c∈cls,bh c=true) (a b:Bs) (ha:a.length≤1000000):
  CP 176 #[.pointer (some ⟨p,0,none⟩),.string (str a),.string (str b)] w fun e w'=>e= .returned (.bool (lO (cutB cls js) a b))∧ZH w w':=by
 refine aV (CT (some ⟨p,0,none⟩) (str a) (str b) w) ?_;intro i g;have d:ZH w i:=by subst g;exact(Below.refl _ _).drew
 cases a with
 |nil=>exact ac.no (by simp) ⟨rfl,d⟩
 |cons x a=>
  refine ac.yes (by rw [cG];simp) ?_;cases b with
  |nil=>refine ac.no (by simp) ⟨by simp [lO],d⟩
  |cons y b=>
   refine ac.yes (by rw [cG];simp) ?_;have l:(x::a).length-1< (x::a).length:=by simp
   simp only [aP,List.length_cons]at*;refine Ar.ok64 (by omega) (by omega) ⟨by omega,by omega,Int.le_refl _,by omega,?_⟩;have j:dM (str (x::a)) (((a.length+1:Nat):Int)-1)=(((x::a)[a.length]).toNat:Int):=by
    rw [show((a.length+1:Nat):Int)-1=((a.length:Nat):Int) by omega];exact dB (x::a) a.length (by simp)
   have k:dM (str (y::b)) 0=(y.toNat:Int):=dB (y::b) 0 (by simp);rw [j,k];have m:=((x::a)[a.length]).toNat_lt;have n:=y.toNat_lt;refine(pJ i p cls js (h.on d) ok1 _ _ (by omega) (by omega)).mono ?_;rintro e o ⟨rfl,f⟩;refine⟨_,rfl,?_,ae d f⟩;congr 1;have:(x::a).getLast?=some ((x::a)[a.length]):=by
    rw [List.getLast?_eq_getElem?];simp
   rw [lO,this];rfl
def cB (a b c:Int):List Int→List Int
 | []=>[]
 | [x]=>[x]
 |x::y::r=>if x=a∧y=b then c::cB a b c r else x::cB a b c (y::r)
theorem cm (a b c:Int) (r:List Int):cB a b c (a::b::r)=c::cB a b c r:=by simp [cB]
theorem cu {a b c x y:Int} (r:List Int) (h:¬(x=a∧y=b)):cB a b c (x::y::r)=x::cB a b c (y::r):=by simp [cB,h]
theorem uW {a b c x:Int} (l:List Int) (h:x≠a):cB a b c (x::l)=x::cB a b c l:=by
 cases l with
 |nil=>rfl
 |cons y r=>exact cu r fun e=>h e.1
def fC (a b:Int) (l:List Int):Prop:=∃u v,l=u++a::b::v
theorem k_ {a b x:Int} {l:List Int} (h:fC a b l):fC a b (x::l):=by
 obtain⟨u,v,rfl⟩:=h;exact⟨x::u,v,rfl⟩
theorem vO {a b c:Int}:∀l:List Int,¬fC a b l→cB a b c l=l
 | [],_=>rfl
 | [x],_=>rfl
 |x::y::r,h=>by
  have h1:¬(x=a∧y=b):=by
   rintro⟨rfl,rfl⟩;exact h ⟨[],r,rfl⟩
  rw [cu r h1,vO (y::r) fun e=>h (k_ e)]
theorem sZ {a b c:Int}:∀(u v:List Int),¬fC a b (u++ [a])→cB a b c (u++a::b::v)=u++c::cB a b c v
 | [],v,_=>cm a b c v
 | [x],v,h=>by
  have hx:¬(x=a∧a=b):=by
   rintro⟨rfl,rfl⟩;exact h ⟨[],[],rfl⟩
  rw [List.cons_append,List.nil_append,cu (b::v) hx,cm];rfl
 |x::y::u,v,h=>by
  have hx:¬(x=a∧y=b):=by
   rintro⟨rfl,rfl⟩;exact h ⟨[],u++ [x],rfl⟩
  have:=sZ (c:=c) (y::u) v fun e=>h (by rw [List.cons_append];exact k_ e);rw [List.cons_append,List.cons_append,cu _ hx];rw [List.cons_append]at this;rw [this];rfl
theorem ug {a b c:Int} (hca:c≠a) (hcb:c≠b):∀(u v:List Int),¬fC a b u→cB a b c (u++c::v)=u++c::cB a b c v
 | [],v,_=>uW v hca
 | [x],v,_=>by
  rw [List.cons_append,List.nil_append,cu v fun e=>hcb e.2,uW v hca];rfl
 |x::y::u,v,h=>by
  have hx:¬(x=a∧y=b):=by
   rintro⟨rfl,rfl⟩;exact h ⟨[],u,rfl⟩
  have:=ug hca hcb (y::u) v fun e=>h (k_ e);rw [List.cons_append,List.cons_append,cu _ hx];rw [List.cons_append]at this;rw [this];rfl
theorem Da {a b:Int} {u v:List Int} (h:fC a b u):fC a b (u++v):=by
 obtain⟨p,q,rfl⟩:=h;exact⟨p,q++v,by simp⟩
def cV (k:Int):List (Int×Int)→List Int→List Int
 | [],l=>l
 |m::ms,l=>cV (k+1) ms (cB m.1 m.2 k l)
def ja (k:Int):List (Int×Int)→Prop
 | []=>True
 |m::ms=>m.1<k∧m.2<k∧ja (k+1) ms
theorem im:∀(ms:List (Int×Int)) (k:Int) (l:List Int),(∀m∈ms,¬fC m.1 m.2 l)→cV k ms l=l
 | [],k,l,_=>rfl
 |m::ms,k,l,h=>by
  simp only [cV];rw [vO l (h m (by simp))];exact im ms (k+1) l fun x hx=>h x (by simp [hx])
theorem dw:∀(a b:List (Int×Int)) (k:Int) (l:List Int),cV k (a++b) l=cV (k+a.length) b (cV k a l)
 | [],b,k,l=>by simp [cV]
 |m::a,b,k,l=>by
  simp only [List.cons_append,cV];rw [dw a b];congr 1;simp;omega
theorem fZ:∀ {ms:List (Int×Int)} {k:Int},ja k ms→∀(i:Nat) (m:Int×Int),ms[i]? =some m→m.1<k+i∧m.2<k+i
 | [],k,_,i,m,hi=>by simp at hi
 |x::ms,k,h,0,m,hi=>by
  simp at hi;subst hi;exact⟨by have:=h.1;omega,by have:=h.2.1;omega⟩
 |x::ms,k,h,i+1,m,hi=>by
  have:=fZ h.2.2 i m (by simpa using hi);omega
def MR (ms:List (Int×Int)) (l:List Int):Prop:=∀m∈ms,¬fC m.1 m.2 l
theorem ED {a b c x y:Int} {u v:List Int} (h:fC x y (u++c::v)) (hn:¬fC x y (u++a::b::v)):x=c∨y=c:=by
 obtain⟨p,q,f⟩:=h;rcases List.append_eq_append_iff.1 f with⟨t,e,d⟩ |⟨t,e,d⟩
 ·cases t with
  |nil=>simp at d;exact .inl d.1.symm
  |cons t0 t=>
   simp at d;exfalso;apply hn;rw [d.2];exact⟨u++a::b::t,q,by simp⟩
 ·match t,e,d with
  | [],_,d=>simp at d;exact .inl d.1
  | [x'],_,d=>simp at d;exact .inr d.2.1
  |x'::y'::t,e,d=>
   simp at d;exfalso;apply hn;rw [e, ←d.1, ←d.2.1];exact⟨p,t++a::b::v,by simp⟩
theorem HV {k:Int} {low high:List (Int×Int)} {m:Int×Int} {u v:List Int} (hs:ja k (low++m::high)) (hq:MR low (u++m.1::m.2::v)) (hf:¬fC m.1 m.2 (u++ [m.1])):
  cV k (low++m::high) (u++m.1::m.2::v)=cV k (low++m::high) (u++(k+low.length)::v):=by
 have c:MR low (u++(k+low.length)::v):=by
  intro x g h;obtain⟨i,f,d⟩:=List.getElem_of_mem g;have j:=fZ hs i x (by rw [List.getElem?_append_left f,XK f,d]);rcases ED (a:=m.1) (b:=m.2) h (hq x g)with e |e<;>omega
 rw [dw,dw,im low k _ hq,im low k _ c];have l:=fZ hs low.length m (by rw [List.getElem?_append_right (XV _)];simp);simp only [cV];rw [sZ u v hf,ug (by omega) (by omega) u v fun e=>hf (Da e)]
def sC (ms:List (Int×Int)) (below:Int) (l:List Int):List Int:=cV 256 (ms.take (below-256).toNat) l
theorem mr {a b c:Int}:∀(l P' Q':List Int),cB a b c l=P'++Q'→∃P Q,l=P++Q∧cB a b c P=P'∧cB a b c Q=Q'
 | [],P',Q',h=>by
  have h:=List.append_eq_nil_iff.1 h.symm;exact⟨[],[],rfl,h.1.symm,h.2.symm⟩
 | [x],[],Q',h=>⟨[],[x],rfl,rfl,h⟩
 | [x],p::P',Q',h=>by
  simp only [cB,List.cons_append,List.cons.injEq]at h;have h2:=List.append_eq_nil_iff.1 h.2.symm;exact⟨[x],[],by simp,by rw [←h.1,h2.1];rfl,by rw [h2.2];rfl⟩
 |x::y::r,[],Q',h=>⟨[],_,rfl,rfl,h⟩
 |x::y::r,p::P',Q',h=>by
  by_cases hx:x=a∧y=b
  ·obtain⟨rfl,rfl⟩:=hx;rw [cm,List.cons_append,List.cons.injEq]at h;obtain⟨P,Q,h1,h2,h3⟩:=mr r P' Q' h.2;exact⟨x::y::P,Q,by rw [h1];rfl,by rw [cm,h2,h.1],h3⟩
  ·rw [cu r hx,List.cons_append,List.cons.injEq]at h;obtain⟨P,Q,h1,h2,h3⟩:=mr (y::r) P' Q' h.2;refine⟨x::P,Q,by rw [h1];rfl,?_,h3⟩;cases P with
   |nil=>rw [←h2,h.1];rfl
   |cons z P=>
    simp only [List.cons_append,List.cons.injEq]at h1;rw [cu P (by rw [←h1.1];exact hx),h2,h.1]
theorem pi {a b c:Int}:∀(X Y:List Int),cB a b c (X++Y)=cB a b c X++cB a b c Y∨(∃X' Y',X=X'++ [a]∧Y=b::Y'∧cB a b c X=cB a b c X'++ [a])
 | [],Y=>.inl rfl
 | [x],[]=>.inl rfl
 | [x],y::Y=>by
  by_cases hx:x=a∧y=b
  ·obtain⟨rfl,rfl⟩:=hx;exact .inr ⟨[],Y,rfl,rfl,rfl⟩
  ·refine .inl ?_;rw [List.cons_append,List.nil_append,cu Y hx];rfl
 |x::y::r,Y=>by
  by_cases hx:x=a∧y=b
  ·obtain⟨rfl,rfl⟩:=hx;rcases pi (c:=c) r Y with h |⟨X',Y',h1,h2,h3⟩
   ·refine .inl ?_;rw [List.cons_append,List.cons_append,cm,cm,h];rfl
   ·refine .inr ⟨x::y::X',Y',by rw [h1];rfl,h2,?_⟩;rw [cm,cm,h3];rfl
  ·rcases pi (c:=c) (y::r) Y with h |⟨X',Y',h1,h2,h3⟩
   ·refine .inl ?_;rw [List.cons_append,List.cons_append,cu _ hx,cu _ hx];rw [List.cons_append]at h;rw [h];rfl
   ·refine .inr ⟨x::X',Y',by rw [h1];rfl,h2,?_⟩;rw [cu r hx,h3];cases X' with
    |nil=>rfl
    |cons z X'=>
     simp only [List.cons_append,List.cons.injEq]at h1;rw [cu X' (by rw [←h1.1];exact hx)];rfl
theorem nt {a b c:Int}:∀(X Y:List Int),cB a b c (X++ [a])=cB a b c X++ [a]→cB a b c (X++a::b::Y)=cB a b c X++c::cB a b c Y
 | [],Y,_=>cm a b c Y
 | [x],Y,h=>by
  by_cases hx:x=a∧a=b
  ·obtain⟨rfl,rfl⟩:=hx;rw [List.cons_append,List.nil_append,cm]at h;have:=congrArg List.length h;simp [cB]at this
  ·rw [List.cons_append,List.nil_append,cu _ hx,cm];rfl
 |x::y::r,Y,h=>by
  by_cases hx:x=a∧y=b
  ·obtain⟨rfl,rfl⟩:=hx;rw [List.cons_append,List.cons_append,cm,cm,List.cons_append,List.cons.injEq]at h;rw [List.cons_append,List.cons_append,cm,cm,nt r Y h.2];rfl
  ·rw [List.cons_append,List.cons_append,cu _ hx,cu _ hx,List.cons_append,List.cons.injEq]at h;have:=nt (y::r) Y (by rw [List.cons_append];exact h.2);rw [List.cons_append,List.cons_append,cu _ hx,cu _ hx];rw [List.cons_append]at this;rw [this];rfl
theorem pR {a b c:Int} (hca:c≠a):∀(X:List Int),(cB a b c X).getLast?=some a→∃X',X=X'++ [a]∧cB a b c X=cB a b c X'++ [a]
 | [],h=>by simp [cB]at h
 | [x],h=>by
  simp [cB]at h;subst h;exact⟨[],rfl,rfl⟩
 |x::y::r,h=>by
  by_cases hx:x=a∧y=b
  ·obtain⟨rfl,rfl⟩:=hx;rw [cm]at h;cases hr:cB x y c r with
   |nil=>rw [hr]at h;simp at h;exact absurd h hca
   |cons z t=>
    rw [hr,List.getLast?_cons_cons, ←hr]at h;obtain⟨X',h1,h2⟩:=pR hca r h;exact⟨x::y::X',by rw [h1];rfl,by rw [cm,cm,h2];rfl⟩
  ·rw [cu r hx]at h;have hne:cB a b c (y::r)≠ []:=by
    cases r with
    |nil=>simp [cB]
    |cons z r=>simp only [cB];split<;>simp
   cases hr:cB a b c (y::r)with
   |nil=>exact absurd hr hne
   |cons z t=>
    rw [hr,List.getLast?_cons_cons, ←hr]at h;obtain⟨X',h1,h2⟩:=pR hca (y::r) h;refine⟨x::X',by rw [h1];rfl,?_⟩;rw [cu r hx,h2];cases X' with
    |nil=>rfl
    |cons u X'=>
     simp only [List.cons_append,List.cons.injEq]at h1;rw [cu X' (by rw [←h1.1];exact hx)];rfl
theorem rx {a b c:Int} {l:List Int} (h:l≠ []):cB a b c l≠ []:=by
 match l,h with
 | [x],_=>simp [cB]
 |x::y::r,_=>simp only [cB];split<;>simp
section
variable (ms:List (Int×Int))
def after (k:Nat) (s:List Int):List Int:=cV 256 (ms.take k) s
theorem cZ (s:List Int):after ms 0 s=s:=by simp [after,cV]
theorem cw {k:Nat} {m:Int×Int} (h:ms[k]? =some m) (s:List Int):after ms (k+1) s=cB m.1 m.2 (256+k) (after ms k s):=by
 have a:=(List.getElem?_eq_some_iff.1 h).1;unfold after;rw [List.take_add_one,h,dw,List.length_take,Nat.min_eq_left (by omega)];rfl
theorem jJ {s:List Int} (h:s≠ []):∀k,after ms k s≠ []
 |0=>by rw [cZ];exact h
 |k+1=>by
  cases hm:ms[k]? with
  |none=>
   have hk:=List.getElem?_eq_none_iff.1 hm;have:after ms (k+1) s=after ms k s:=by
    unfold after;rw [List.take_of_length_le (by omega),List.take_of_length_le (by omega)]
   rw [this];exact jJ h k
  |some m=>rw [cw ms hm];exact rx (jJ h k)
theorem after_nil:∀k,after ms k []= []
 |0=>cZ ms []
 |k+1=>by
  cases hm:ms[k]? with
  |none=>
   have hk:=List.getElem?_eq_none_iff.1 hm;have:after ms (k+1) []=after ms k []:=by
    unfold after;rw [List.take_of_length_le (by omega),List.take_of_length_le (by omega)]
   rw [this,after_nil k]
  |some m=>rw [cw ms hm,after_nil k];rfl
theorem kg:∀(k:Nat),k≤ms.length→∀(s P' Q':List Int),after ms k s=P'++Q'→∃P Q,s=P++Q∧after ms k P=P'∧after ms k Q=Q'
 |0,_,s,P',Q',h=>⟨P',Q',by rwa [cZ]at h,cZ ms P',cZ ms Q'⟩
 |k+1,hk,s,P',Q',h=>by
  have hm:ms[k]? =some ms[k]:=XK (by omega);rw [cw ms hm]at h;obtain⟨P1,Q1,h1,h2,h3⟩:=mr _ _ _ h;obtain⟨P,Q,e,e1,e2⟩:=kg k (by omega) s P1 Q1 h1;exact⟨P,Q,e,by rw [cw ms hm,e1,h2],by rw [cw ms hm,e2,h3]⟩
variable (ex:Int→List Int)
structure pO:Prop where
 low:∀t,0≤t→t<256→ex t= [t]
 high:∀(k:Nat) (m:Int×Int),ms[k]? =some m→ex ((256:Int)+(k:Nat))=ex m.1++ex m.2
 sound:ja 256 ms
 ne:∀(k:Nat) (m:Int×Int),ms[k]? =some m→ex m.1≠ []∧ex m.2≠ []
def bR (l:List Int):List Int:=l.flatMap ex
variable {ms ex}
theorem eC (a b:List Int):bR ex (a++b)=bR ex a++bR ex b:=by simp [bR]
theorem fH {a b c:Int} (h:ex c=ex a++ex b):∀l,bR ex (cB a b c l)=bR ex l
 | []=>rfl
 | [x]=>rfl
 |x::y::r=>by
  by_cases hx:x=a∧y=b
  ·obtain⟨rfl,rfl⟩:=hx;rw [cm];have:=fH h r;simp only [bR,List.flatMap_cons]at this⊢;rw [this,h,List.append_assoc]
  ·rw [cu r hx];have:=fH h (y::r);simp only [bR,List.flatMap_cons]at this⊢;rw [this]
theorem db (hS:pO ms ex):∀(k:Nat),k≤ms.length→∀s,bR ex (after ms k s)=bR ex s
 |0,_,s=>by rw [cZ]
 |k+1,hk,s=>by
  have hm:ms[k]? =some ms[k]:=XK (by omega);rw [cw ms hm,fH (hS.high k _ hm),db hS k (by omega)]
def dU (ms:List (Int×Int)) (X Y:List Int) (k:Nat):Prop:=∃m,ms[k]? =some m∧(after ms (k+1) X).getLast?=some m.1∧(after ms k Y).head?=some m.2
theorem iH {X Y:List Int}:∀(k:Nat),k≤ms.length→(∀j,j<k→¬dU ms X Y j)→after ms k (X++Y)=after ms k X++after ms k Y
 |0,_,_=>by rw [cZ,cZ,cZ]
 |k+1,hk,h=>by
  have hm:ms[k]? =some ms[k]:=XK (by omega);rw [cw ms hm,cw ms hm,cw ms hm,iH k (by omega) fun j hj=>h j (by omega)];rcases pi (c:=256+(k:Nat)) (a:=ms[k].1) (b:=ms[k].2) (after ms k X) (after ms k Y)with e |⟨X',Y',h1,h2,h3⟩
  ·exact e
  ·exfalso;refine h k (by omega) ⟨ms[k],hm,?_,?_⟩
   ·rw [cw ms hm,h3];simp
   ·rw [h2];rfl
theorem G3 (hS:pO ms ex) {k:Nat} {m:Int×Int} (h:ms[k]? =some m):((256:Int)+(k:Nat))≠m.1:=by
 have:=(fZ hS.sound k m h).1;omega
theorem nd (hS:pO ms ex) (N:Nat) (hN:N≤ms.length) (X Y:List Int):after ms N (X++Y)=after ms N X++after ms N Y↔∀k,k<N→¬dU ms X Y k:=by
 constructor
 ·intro h k;induction k using Nat.strongRecOn with
  |ind k ih=>
   intro V D;have f:=iH (X:=X) (Y:=Y) k (by omega) fun j T=>ih j T (by omega);obtain⟨m,n,G,x⟩:=D;rw [cw ms n]at G;obtain⟨y,A,O⟩:=pR (G3 hS n) _ G;obtain⟨l,R⟩:∃l,after ms k Y=m.2::l:=by
    cases hy:after ms k Y with
    |nil=>rw [hy]at x;cases x
    |cons z l=>rw [hy]at x;cases x;exact⟨l,rfl⟩
   have g:after ms (k+1) (X++Y)=cB m.1 m.2 ((256:Int)+(k:Nat)) y++((256:Int)+(k:Nat))::cB m.1 m.2 ((256:Int)+(k:Nat)) l:=by
    rw [cw ms n,f,A,R,List.append_assoc];exact nt y l (by rw [←A];exact O)
   have i:∀d s,after ms (k+1+d) s=cV (256+((k+1:Nat):Int)) ((ms.drop (k+1)).take d) (after ms (k+1) s):=by
    intro d s;unfold after;rw [List.take_add,dw,List.length_take,Nat.min_eq_left (by omega)]
   have c:∀(d:Nat),d≤(ms.drop (k+1)).length→∀(s o p:List Int),cV (256+((k+1:Nat):Int)) ((ms.drop (k+1)).take d) s=o++p→∃P Q,s=P++Q∧bR ex P=bR ex o∧bR ex Q=bR ex p:=by
    intro d;induction d with
    |zero=>intro _ s o p h;exact⟨o,p,by simpa [cV]using h,rfl,rfl⟩
    |succ d ihd=>
     intro S s o p h;have u:k+1+d<ms.length:=by rw [List.length_drop]at S;omega
     have E:(ms.drop (k+1))[d]? =some ms[k+1+d]:=by rw [List.getElem?_drop,XK u]
     rw [List.take_add_one,E,dw,List.length_take,Nat.min_eq_left (by omega)]at h;simp only [Option.toList_some,cV]at h;obtain⟨I,J,K,L,M⟩:=mr _ _ _ h;obtain⟨P,Q,e,a,F⟩:=ihd (by omega) s I J K;have r:ex (256+((k+1:Nat):Int)+(d:Nat))=ex ms[k+1+d].1++ex ms[k+1+d].2:=by
      rw [←hS.high (k+1+d) _ (XK u)];congr 1;omega
     exact⟨P,Q,e,by rw [a, ←L,fH r],by rw [F, ←M,fH r]⟩
   have b:=i (N- (k+1)) (X++Y);rw [show k+1+(N- (k+1))=N by omega,h]at b;obtain⟨P,Q,e,a,F⟩:=c (N- (k+1)) (by rw [List.length_drop];omega) _ _ _ b.symm;rw [g]at e;rw [db hS _ hN]at a;have C:bR ex X=bR ex (cB m.1 m.2 ((256:Int)+(k:Nat)) y)++ex m.1:=by
    rw [←db hS k (by omega) X,A,eC,fH (hS.high k m n)];simp [bR]
   have D:=hS.high k m n;obtain⟨H,U⟩:=hS.ne k m n;rw [C]at a;rcases List.append_eq_append_iff.1 e with⟨t,v,_⟩ |⟨t,v,W⟩
   ·-- P reaches beyond
    cases t with
    |nil=>
     rw [List.append_nil]at v;rw [v]at a;have:=congrArg List.length a;rw [List.length_append]at this;have:0< (ex m.1).length:=List.length_pos_iff.2 H;omega
    |cons z t=>
     rename_i q;simp only [List.cons_append,List.cons.injEq]at q;rw [v,eC]at a;have B:=congrArg List.length a;rw [List.length_append,List.length_append]at B;have w:(ex ((256:Int)+(k:Nat))).length≤(bR ex (z::t)).length:=by
      rw [q.1];simp [bR]
     rw [D,List.length_append]at w;have:0< (ex m.2).length:=List.length_pos_iff.2 U;omega
   ·have B:=congrArg List.length a;have w:=congrArg List.length (congrArg (bR ex) v);rw [eC]at w;rw [List.length_append]at B w;have:0< (ex m.1).length:=List.length_pos_iff.2 H;omega
 ·exact iH N hN
end
theorem dH (l:List Int) {r:List Int} (h:r≠ []):(l++r).getLast?=r.getLast?:=by
 rw [List.getLast?_append];cases hr:r.getLast? with
 |none=>exact absurd (List.getLast?_eq_none_iff.1 hr) h
 |some x=>rfl
theorem li (r:List Int) {l:List Int} (h:l≠ []):(l++r).head?=l.head?:=by
 cases l with
 |nil=>exact absurd rfl h
 |cons x l=>rfl
theorem gm (x:Int):∀(ms:List (Int×Int)) (k:Int),cV k ms [x]= [x]
 | [],k=>rfl
 |m::ms,k=>by simp only [cV,cB];exact gm x ms (k+1)
theorem qx {t:Int}:∀(ms:List (Int×Int)) (k:Int) (l:List Int),t<k→cV k ms l= [t]→l= [t]
 | [],k,l,_,h=>h
 |m::ms,k,l,ht,h=>by
  have h1:=qx ms (k+1) _ (by omega) h
  match l,h1 with
  | [x],h1=>exact h1
  |x::y::r,h1=>
   exfalso;by_cases hx:x=m.1∧y=m.2
   ·obtain⟨rfl,rfl⟩:=hx;rw [cm]at h1;simp at h1;omega
   ·rw [cu r hx]at h1;simp only [List.cons.injEq]at h1;exact rx (by simp) h1.2
section
variable {ms:List (Int×Int)} {ex:Int→List Int}
theorem uj:∀(k:Nat),k≤ms.length→∀s:List Int,(∀x∈s,x<256)→∀x∈after ms k s,x<256+(k:Nat)
 |0,_,s,h,x,hx=>by rw [cZ]at hx;have:=h x hx;omega
 |k+1,hk,s,h,x,hx=>by
  rw [cw ms (XK (show k<ms.length by omega))]at hx;have ih:=uj k (by omega) s h;have key:∀l:List Int,(∀y∈l,y<256+(k:Nat))→∀y∈cB ms[k].1 ms[k].2 ((256:Int)+(k:Nat)) l,y<256+((k+1:Nat):Int):=by
   intro l;induction l using cB.induct ms[k].1 ms[k].2 with
   |case1=>intro _ y hy;simp [cB]at hy
   |case2 x=>intro hl y hy;simp [cB]at hy;subst hy;have:=hl y (by simp);omega
   |case3 x y r hx ih=>
    obtain⟨rfl,rfl⟩:=hx;intro hl z hz;rw [cm]at hz;rcases List.mem_cons.1 hz with rfl |hz
    ·omega
    ·exact ih (fun u hu=>hl u (by simp [hu])) z hz
   |case4 x y r hx ih=>
    intro hl z hz;rw [cu r hx]at hz;rcases List.mem_cons.1 hz with rfl |hz
    ·have:=hl z (by simp);omega
    ·exact ih (fun u hu=>hl u (by simp [hu])) z hz
  exact key _ ih x hx
theorem xu (k:Nat) (x:Int):after ms k [x]= [x]:=gm x _ _
theorem nw (k d:Nat) (hk:k≤ms.length) (s:List Int):after ms (k+d) s=cV ((256:Int)+(k:Nat)) ((ms.drop k).take d) (after ms k s):=by
 unfold after;rw [List.take_add,dw,List.length_take,Nat.min_eq_left hk]
def nU (ms:List (Int×Int)) (t:Int):Prop:=0≤t∧t<256+(ms.length:Nat)
theorem tQ (hS:pO ms ex):∀(n:Nat) (t:Int),t.toNat≤n→0≤t→t<256+(ms.length:Nat)→(∀(i:Nat) (m:Int×Int),ms[i]? =some m→0≤m.1∧0≤m.2)→(∀x∈ex t,0≤x∧x<256)∧ex t≠ []
 |n,t,hn,h0,ht,hp=>by
  by_cases hlow:t<256
  ·rw [hS.low t h0 hlow];exact⟨fun x hx=>by simp at hx;omega,by simp⟩
  ·obtain⟨j,rfl⟩:∃j:Nat,t=256+(j:Nat):=⟨(t-256).toNat,by omega⟩;have hj:j<ms.length:=by omega
   have hm:ms[j]? =some ms[j]:=XK hj;have hlt:=fZ hS.sound j _ hm;have hnn:=hp j _ hm;obtain⟨n',rfl⟩:∃n',n=n'+1:=⟨n-1,by omega⟩;have h1:=tQ hS n' ms[j].1 (by omega) hnn.1 (by omega) hp;have h2:=tQ hS n' ms[j].2 (by omega) hnn.2 (by omega) hp;rw [hS.high j _ hm];refine⟨fun x hx=>?_,by simp [h1.2]⟩;rcases List.mem_append.1 hx with hx |hx
   ·exact h1.1 x hx
   ·exact h2.1 x hx
end
structure jm (ms:List (Int×Int)) (ex:Int→List Int):Prop where
 stands:pO ms ex
 pos:∀(i:Nat) (m:Int×Int),ms[i]? =some m→0≤m.1∧0≤m.2
section
variable {ms:List (Int×Int)} {ex:Int→List Int}
theorem jm.bytes (hG:jm ms ex) {t:Int} (ht:nU ms t):(∀x∈ex t,0≤x∧x<256)∧ex t≠ []:=tQ hG.stands t.toNat t (XV _) ht.1 ht.2 hG.pos
theorem eK (hS:pO ms ex):∀s:List Int,(∀x∈s,0≤x∧x<256)→bR ex s=s
 | [],_=>rfl
 |x::s,h=>by
  have h1:=h x (by simp);simp only [bR,List.flatMap_cons];rw [hS.low x h1.1 h1.2];have:=eK hS s fun y hy=>h y (by simp [hy]);unfold bR at this;rw [this];rfl
def cT (ms:List (Int×Int)) (ex:Int→List Int) (t:Int):Prop:=after ms ms.length (ex t)= [t]
theorem fM (hG:jm ms ex) {j:Nat} {m:Int×Int} (hm:ms[j]? =some m) (ha:cT ms ex ((256:Int)+(j:Nat))):
  after ms (j+1) (ex ((256:Int)+(j:Nat)))= [(256:Int)+(j:Nat)]∧(∀k,k≤j→after ms k (ex ((256:Int)+(j:Nat)))=after ms k (ex m.1)++after ms k (ex m.2))∧cT ms ex m.1∧cT ms ex m.2:=by
 have g:=hG.stands;have F:=(List.getElem?_eq_some_iff.1 hm).1;have a:after ms (j+1) (ex ((256:Int)+(j:Nat)))= [(256:Int)+(j:Nat)]:=by
  have l:=nw (j+1) (ms.length- (j+1)) (show j+1≤ms.length by omega) (ex ((256:Int)+(j:Nat)));rw [show j+1+(ms.length- (j+1))=ms.length by omega]at l;unfold cT at ha;rw [ha]at l;exact qx _ _ _ (by omega) l.symm
 have v:=hG.bytes (t:=256+(j:Nat)) ⟨by omega,by omega⟩;have s:=uj (ms:=ms) j (by omega) (ex ((256:Int)+(j:Nat))) fun x b=>(v.1 x b).2;have l:after ms j (ex ((256:Int)+(j:Nat)))= [m.1,m.2]:=by
  rw [cw ms hm]at a
  match hl:after ms j (ex ((256:Int)+(j:Nat))),a with
  | [x],a=>
   exfalso;simp [cB]at a;have:=s x (by rw [hl];simp);omega
  |x::y::r,a=>
   by_cases b:x=m.1∧y=m.2
   ·obtain⟨rfl,rfl⟩:=b;rw [cm]at a;simp only [List.cons.injEq]at a;cases r with
    |nil=>rfl
    |cons z r=>exact absurd a.2 (rx (by simp))
   ·rw [cu r b]at a;simp only [List.cons.injEq]at a;exact absurd a.2 (rx (by simp))
 have n:=g.high j m hm;have w:=fZ g.sound j m hm;have o:=hG.pos j m hm;have C:=hG.bytes (t:=m.1) ⟨o.1,by omega⟩;have D:=hG.bytes (t:=m.2) ⟨o.2,by omega⟩;obtain⟨P,Q,e,p,q⟩:=kg ms j (by omega) _ [m.1] [m.2] (by rw [l];rfl);have d:∀x∈P++Q,0≤x∧x<256:=by rw [←e];exact v.1
 have A:P=ex m.1:=by
  have c:=db g j (by omega) P;rw [p,eK g P fun x b=>d x (by simp [b])]at c;rw [←c];simp [bR]
 have B:Q=ex m.2:=by
  have c:=db g j (by omega) Q;rw [q,eK g Q fun x b=>d x (by simp [b])]at c;rw [←c];simp [bR]
 rw [A]at p;rw [B]at q;have h:after ms j (ex m.1++ex m.2)=after ms j (ex m.1)++after ms j (ex m.2):=by rw [←n,l,p,q];rfl
 have u:=(nd g j (by omega) (ex m.1) (ex m.2)).1 h;have f:∀x:Int,after ms j (ex x)= [x]→cT ms ex x:=by
  intro x b;unfold cT;have c:=nw j (ms.length-j) (show j≤ms.length by omega) (ex x);rw [show j+(ms.length-j)=ms.length by omega,b]at c;rw [c,gm]
 refine⟨a,fun k G=>?_,f _ p,f _ q⟩;rw [n];exact iH k (by omega) fun i E=>u i (by omega)
theorem ky (hG:jm ms ex) {t:Int} (ht:nU ms t) (ha:cT ms ex t) {k:Nat} (hk:k≤ms.length) (h:t<256+(k:Nat)):after ms k (ex t)= [t]:=by
 by_cases hlow:t<256
 ·rw [hG.stands.low t ht.1 hlow];exact xu k t
 ·obtain⟨j,rfl⟩:∃j:Nat,t=256+(j:Nat):=⟨(t-256).toNat,by omega⟩;have c:j<ms.length:=by have:=ht.2;omega
  obtain⟨b,_⟩:=fM hG (XK c) ha;have a:=nw (j+1) (k- (j+1)) (show j+1≤ms.length by omega) (ex ((256:Int)+(j:Nat)));rw [show j+1+(k- (j+1))=k by omega,b]at a;rw [a,gm]
def jr (ms:List (Int×Int)) (ex:Int→List Int) (a b limit:Int):Prop:=∀k,k<ms.length→256+(k:Int) <limit→¬dU ms (ex a) (ex b) k
theorem wN (hG:jm ms ex) {a b limit:Int} (ha:nU ms a) (hb:nU ms b) (aa:cT ms ex a) (ab:cT ms ex b) {i:Nat} (hi:ms[i]? =some (a,b)) (hl:256+(i:Int) <limit):¬jr ms ex a b limit:=by
 intro h;have d:=(List.getElem?_eq_some_iff.1 hi).1;have c:=fZ hG.stands.sound i _ hi;refine h i d hl ⟨(a,b),hi,?_,?_⟩
 ·rw [ky hG ha aa (by omega) (by dsimp only at c;omega)];rfl
 ·rw [ky hG hb ab (by omega) (by dsimp only at c;omega)];rfl
theorem np (hG:jm ms ex) {a b:Int} (ha:nU ms a) (hb:nU ms b) (aa:cT ms ex a) (ab:cT ms ex b) {k:Nat} (hk:k<ms.length) (h1:a≤256+(k:Int)) (h2:b<256+(k:Int)) (h:dU ms (ex a) (ex b) k):ms[k]? =some (a,b):=by
 obtain⟨m,e,d,c⟩:=h;rw [ky hG ha aa (by omega) (by omega)]at d;rw [ky hG hb ab (by omega) (by omega)]at c;simp at d c;rw [e];congr 1;exact Prod.ext d.symm c.symm
theorem G5 (hG:jm ms ex) {b limit:Int} {j:Nat} {m:Int×Int} (hm:ms[j]? =some m) (hb:nU ms b) (aa:cT ms ex ((256:Int)+(j:Nat))) (ab:cT ms ex b) (hba:b<256+(j:Nat)) (hlim:256+(j:Int)≤limit)
  (hno:∀i:Nat,ms[i]? =some (256+(j:Int),b)→limit≤256+(i:Int)):jr ms ex ((256:Int)+(j:Nat)) b limit↔jr ms ex m.2 b ((256:Int)+(j:Nat)):=by
 have s:=(List.getElem?_eq_some_iff.1 hm).1;obtain⟨p,n,q,r⟩:=fM hG hm aa;have g:=hG.pos j m hm;have o:=fZ hG.stands.sound j m hm;have l:=hG.bytes (t:=m.2) ⟨g.2,by omega⟩;have c:∀k,k<j→(dU ms (ex ((256:Int)+(j:Nat))) (ex b) k↔dU ms (ex m.2) (ex b) k):=by
  intro k d;unfold dU;rw [n (k+1) (by omega),dH _ (jJ ms l.2 (k+1))]
 constructor
 ·intro h k d f e;exact h k d (by omega) ((c k (by omega)).2 e)
 ·intro h k d f e;by_cases hkj:k<j
  ·exact h k d (by omega) ((c k hkj).1 e)
  ·have:=np hG (a:=256+(j:Nat)) ⟨by omega,by omega⟩ hb aa ab d (by omega) (by omega) e;have:=hno k this;omega
theorem DG (hG:jm ms ex) {a limit:Int} {j:Nat} {m:Int×Int} (hm:ms[j]? =some m) (ha:nU ms a) (aa:cT ms ex a) (ab:cT ms ex ((256:Int)+(j:Nat))) (hab:a≤256+(j:Nat)) (hlim:256+(j:Int)+1≤limit)
  (hno:∀i:Nat,ms[i]? =some (a,256+(j:Int))→limit≤256+(i:Int)):jr ms ex a ((256:Int)+(j:Nat)) limit↔jr ms ex a m.1 (256+(j:Nat)+1):=by
 have s:=(List.getElem?_eq_some_iff.1 hm).1;obtain⟨p,n,q,r⟩:=fM hG hm ab;have g:=hG.pos j m hm;have o:=fZ hG.stands.sound j m hm;have l:=hG.bytes (t:=m.1) ⟨g.1,by omega⟩;have c:∀k,k≤j→(dU ms (ex a) (ex ((256:Int)+(j:Nat))) k↔dU ms (ex a) (ex m.1) k):=by
  intro k d;unfold dU;rw [n k d,li _ (jJ ms l.2 k)]
 constructor
 ·intro h k d f e;exact h k d (by omega) ((c k (by omega)).2 e)
 ·intro h k d f e;by_cases hkj:k≤j
  ·exact h k d (by omega) ((c k hkj).1 e)
  ·have:=np hG (b:=256+(j:Nat)) ha ⟨by omega,by omega⟩ aa ab d (by omega) (by omega) e;have:=hno k this;omega
theorem ER (hG:jm ms ex) {a b limit:Int} (ha:nU ms a) (hb:nU ms b) (aa:cT ms ex a) (ab:cT ms ex b) (h1:a<256) (h2:b<256) (hno:∀i:Nat,ms[i]? =some (a,b)→limit≤256+(i:Int)):jr ms ex a b limit:=by
 intro k d e c;have:=hno k (np hG ha hb aa ab d (by omega) (by omega) c);omega
def ju (ms:List (Int×Int)) (ex:Int→List Int) (ids:List Int):Prop:=after ms ms.length (bR ex ids)=ids
theorem wK (hG:jm ms ex) {ids:List Int} (h:∀t∈ids,nU ms t):∀x∈bR ex ids,0≤x∧x<256:=by
 intro x c;obtain⟨t,b,a⟩:=List.mem_flatMap.1 c;exact(hG.bytes (h t b)).1 x a
theorem zU (hG:jm ms ex) {P Q:List Int} (ht:∀t∈P++Q,nU ms t) (h:ju ms ex (P++Q)):ju ms ex P∧ju ms ex Q∧∀k,k<ms.length→¬dU ms (bR ex P) (bR ex Q) k:=by
 have b:=hG.stands;unfold ju at h;obtain⟨X,Y,e,c,d⟩:=kg ms ms.length (XV _) _ P Q h;have f:=wK hG ht;rw [e]at f;have i:X=bR ex P:=by
  have a:=db b ms.length (XV _) X;rw [c,eK b X fun x g=>f x (by simp [g])]at a;exact a.symm
 have j:Y=bR ex Q:=by
  have a:=db b ms.length (XV _) Y;rw [d,eK b Y fun x g=>f x (by simp [g])]at a;exact a.symm
 subst i j;refine⟨c,d,(nd b ms.length (XV _) _ _).1 ?_⟩;rw [←e,h,c,d]
theorem FL (hG:jm ms ex) {init:List Int} {l t:Int} (ht:∀x∈init++ [l],nU ms x) (h:ju ms ex (init++ [l])) (hT:nU ms t) (ha:cT ms ex t):ju ms ex (init++ [l]++ [t])↔∀k,k<ms.length→¬dU ms (ex l) (ex t) k:=by
 have m:=hG.stands;obtain⟨_,_,f⟩:=zU hG ht h;have b:∀x:Int,bR ex [x]=ex x:=fun x=>by simp [bR]
 have g:=hG.bytes (ht l (by simp));have a:∀k,k<ms.length→(dU ms (bR ex (init++ [l])) (ex t) k↔dU ms (ex l) (ex t) k):=by
  intro k c;unfold dU;rw [eC,b,iH (k+1) (by omega) fun j n=>by have:=f j (by omega);rwa [b]at this,dH _ (jJ ms g.2 (k+1))]
 unfold ju;have i:after ms ms.length (bR ex (init++ [l]))=init++ [l]:=h;have d:after ms ms.length (ex t)= [t]:=ha;rw [eC (init++ [l]) [t],b];have:=nd m ms.length (XV _) (bR ex (init++ [l])) (ex t);rw [i,d]at this;rw [this];exact⟨fun h k c e=>h k c ((a k c).2 e),fun h k c e=>h k c ((a k c).1 e)⟩
end
section
variable (cut:Int→Int→Bool)
def chop:List Int→List (List Int)
 | []=>[]
 | [x]=>[[x]]
 |x::y::r=>if cut x y=true then [x]::chop (y::r)else match chop (y::r)with
  | []=>[[x]]
  |p::ps=>(x::p)::ps
def dW:List Int→Prop
 | []=>True
 | [_]=>True
 |x::y::r=>cut x y=false∧dW (y::r)
def F_ (p q:List Int):Prop:=∃x y,p.getLast?=some x∧q.head?=some y∧cut x y=true
def bK:List (List Int)→Prop
 | []=>True
 | [p]=>p≠ []∧dW cut p
 |p::q::r=>p≠ []∧dW cut p∧F_ cut p q∧bK (q::r)
variable {cut}
theorem bK.head {p:List Int} {r:List (List Int)} (h:bK cut (p::r)):p≠ []∧dW cut p:=by
 cases r with
 |nil=>exact h
 |cons q r=>exact⟨h.1,h.2.1⟩
theorem bK.tail {p:List Int} {r:List (List Int)} (h:bK cut (p::r)):bK cut r:=by
 cases r with
 |nil=>trivial
 |cons q r=>exact h.2.2.2
theorem bK.cons {p:List Int} {r:List (List Int)} (h1:p≠ []) (h2:dW cut p) (h3:∀q r',r=q::r'→F_ cut p q) (h4:bK cut r):bK cut (p::r):=by
 cases r with
 |nil=>exact⟨h1,h2⟩
 |cons q r=>exact⟨h1,h2,h3 q r rfl,h4⟩
theorem Ax (rest:List (List Int)) (hr:chop cut rest.flatten=rest):∀p:List Int,bK cut (p::rest)→chop cut (p++rest.flatten)=p::rest
 | [],h=>absurd rfl h.head.1
 | [x],h=>by
  cases rest with
  |nil=>rfl
  |cons q r=>
   obtain⟨u,y,hu,hy,hc⟩:=h.2.2.1;simp at hu;subst hu;cases q with
   |nil=>cases hy
   |cons z q=>
    simp at hy;subst hy;rw [List.flatten_cons]at hr⊢;rw [List.cons_append]at hr;simp only [List.cons_append,List.nil_append,chop,hc,if_true,hr]
 |x::y::p,h=>by
  have h2:=h.head.2;have hc:bK cut ((y::p)::rest):=by
   refine bK.cons (by simp) h2.2 (fun q r' hq=>?_) h.tail;subst hq;obtain⟨u,v,hu,hv,hcc⟩:=h.2.2.1;exact⟨u,v,by rw [List.getLast?_cons_cons]at hu;exact hu,hv,hcc⟩
  have ih:=Ax rest hr (y::p) hc;rw [List.cons_append]at ih;simp only [List.cons_append,chop];rw [if_neg (by rw [h2.1];simp),ih]
theorem fL:∀ps:List (List Int),bK cut ps→chop cut ps.flatten=ps
 | [],_=>rfl
 |p::rest,h=>by
  rw [List.flatten_cons];exact Ax rest (fL rest h.tail) p h
theorem F9 {Z:List Int} (h:Z≠ []):∃p ps,chop cut Z=p::ps∧p.head?=Z.head?:=by
 match Z,h with
 | [x],_=>exact⟨[x],[],rfl,rfl⟩
 |x::y::r,_=>
  simp only [chop];split
  ·exact⟨[x],_,rfl,rfl⟩
  ·cases chop cut (y::r)with
   |nil=>exact⟨[x],[],rfl,rfl⟩
   |cons p ps=>exact⟨x::p,ps,rfl,rfl⟩
theorem dR:∀Z:List Int,bK cut (chop cut Z)∧(chop cut Z).flatten=Z
 | []=>⟨trivial,rfl⟩
 | [x]=>⟨⟨by simp,trivial⟩,rfl⟩
 |x::y::r=>by
  obtain⟨h1,h2⟩:=dR (y::r);obtain⟨p,ps,hp,hh⟩:=F9 (cut:=cut) (Z:=y::r) (by simp);simp only [chop];split
  ·rename_i hc;refine⟨bK.cons (by simp) trivial (fun q r' hq=>?_) h1,by rw [List.flatten_cons,h2];rfl⟩;rw [hp]at hq;cases hq;exact⟨x,y,rfl,hh,hc⟩
  ·rename_i hc;rw [hp]at h1 h2⊢;dsimp only;have hpp:=h1.head;refine⟨bK.cons (by simp) ?_ (fun q r' hq=>?_) h1.tail,by rw [List.flatten_cons]at h2⊢;rw [List.cons_append,h2]⟩
   ·cases p with
    |nil=>exact absurd rfl hpp.1
    |cons z p=>
     simp at hh;subst hh;exact⟨by simpa using hc,hpp.2⟩
   ·subst hq;obtain⟨u,v,hu,hv,hcc⟩:=h1.2.2.1;cases p with
    |nil=>exact absurd rfl hpp.1
    |cons z p=>exact⟨u,v,by rw [List.getLast?_cons_cons];exact hu,hv,hcc⟩
theorem bK.append {a b:List (List Int)} (h:bK cut (a++b)):bK cut a∧bK cut b:=by
 induction a with
 |nil=>exact⟨trivial,h⟩
 |cons p a ih=>
  rw [List.cons_append]at h;obtain⟨c,d⟩:=ih h.tail;refine⟨bK.cons h.head.1 h.head.2 (fun q f e=>?_) c,d⟩;subst e;exact h.2.2.1
theorem bK.glue {a:List (List Int)} {p:List Int} {b:List (List Int)} (ha:bK cut (a++ [p])) (hb:bK cut b) (hc:∀q r',b=q::r'→F_ cut p q):bK cut (a++p::b):=by
 induction a with
 |nil=>exact bK.cons ha.head.1 ha.head.2 hc hb
 |cons x a ih=>
  rw [List.cons_append]at ha⊢;refine bK.cons ha.head.1 ha.head.2 (fun q r' c=>?_) (ih ha.tail);cases a with
  |nil=>cases c;exact ha.2.2.1
  |cons z a=>cases c;exact ha.2.2.1
theorem iu:∀(p q:List Int),dW cut (p++q)↔dW cut p∧dW cut q∧(∀x y,p.getLast?=some x→q.head?=some y→cut x y=false)
 | [],q=>by simp [dW]
 | [x],[]=>by simp [dW]
 | [x],y::q=>by
  simp only [List.cons_append,List.nil_append,dW];constructor
  ·rintro⟨h1,h2⟩;refine⟨trivial,h2,?_⟩;intro a b ha hb;simp at ha hb;rw [←ha, ←hb];exact h1
  ·rintro⟨_,h2,h3⟩;exact⟨h3 x y rfl rfl,h2⟩
 |x::y::p,q=>by
  have:=iu (y::p) q;simp only [List.cons_append,dW]at this⊢;rw [this];constructor
  ·rintro⟨h1,h2,h3,h4⟩;exact⟨⟨h1,h2⟩,h3,fun a b ha hb=>h4 a b (by rwa [List.getLast?_cons_cons]at ha) hb⟩
  ·rintro⟨⟨h1,h2⟩,h3,h4⟩;exact⟨h1,h2,h3,fun a b ha hb=>h4 a b (by rw [List.getLast?_cons_cons];exact ha) hb⟩
theorem bK.part {a b:List (List Int)} {p q:List Int} (h:bK cut (a++(p++q)::b)) (hp:p≠ []) (hq:q≠ []):bK cut (a++ [p])∧bK cut (q::b):=by
 obtain⟨j,e⟩:=h.append;have i:=(iu p q).1 e.head.2;constructor
 ·clear j;induction a with
  |nil=>exact⟨hp,i.1⟩
  |cons x a ih=>
   rw [List.cons_append]at h⊢;refine bK.cons h.head.1 h.head.2 (fun z k d=>?_) (ih h.tail);cases a with
   |nil=>
    cases d;obtain⟨u,v,c,g,f⟩:=h.2.2.1;exact⟨u,v,c,by rwa [li _ hp]at g,f⟩
   |cons y a=>cases d;exact h.2.2.1
 ·refine bK.cons hq i.2.1 (fun z k d=>?_) e.tail;subst d;obtain⟨u,v,c,g,f⟩:=e.2.2.1;exact⟨u,v,by rwa [dH _ hq]at c,g,f⟩
end
theorem oQ {f:List Int→List Int}:∀(ps:List (List Int)) (P Q:List Int),ps.flatMap f=P++Q→
  (∃a b,ps=a++b∧P=a.flatMap f∧Q=b.flatMap f)∨(∃a p b u v,ps=a++p::b∧f p=u++v∧u≠ []∧v≠ []∧P=a.flatMap f++u∧Q=v++b.flatMap f)
 | [],P,Q,h=>by
  have h:=List.append_eq_nil_iff.1 h.symm;exact .inl ⟨[],[],rfl,h.1,h.2⟩
 |p::ps,P,Q,h=>by
  rw [List.flatMap_cons]at h;rcases List.append_eq_append_iff.1 h with⟨t,ht,hc⟩ |⟨t,ht,hc⟩
  ·rcases oQ ps t Q hc with⟨a,b,h1,h2,h3⟩ |⟨a,x,b,u,v,h1,h2,h3,h4,h5,h6⟩
   ·exact .inl ⟨p::a,b,by rw [h1];rfl,by rw [ht,h2];rfl,h3⟩
   ·exact .inr ⟨p::a,x,b,u,v,by rw [h1];rfl,h2,h3,h4,by rw [ht,h5];simp,h6⟩
  ·by_cases hP:P= []
   ·subst hP;refine .inl ⟨[],p::ps,rfl,rfl,?_⟩;rw [List.nil_append]at ht;rw [hc, ←ht,List.flatMap_cons]
   ·by_cases htn:t= []
    ·subst htn;rw [List.append_nil]at ht;exact .inl ⟨[p],ps,rfl,by simp [ht],by simpa using hc⟩
    ·exact .inr ⟨[],p,ps,P,t,rfl,ht,hP,htn,by simp,hc⟩
structure Voc where
 ms:List (Int×Int)
 ex:Int→List Int
 cutB:Int→Int→Bool
 sp:List Int
namespace Voc
variable (V:Voc)
def cut (x y:Int):Bool:=decide (x<0)||decide (y<0)||V.cutB x y
def place (t:Int):Option Nat:=V.sp.idxOf? t
def items (t:Int):List Int:=match V.place t with
 |some i=>[-1- (i:Int)]
 |none=>V.ex t
def encP:List Int→List Int
 | []=>[]
 |x::r=>if x<0 then [V.sp.getD (-1-x).toNat 0]else after V.ms V.ms.length (x::r)
def encode (Z:List Int):List Int:=(chop V.cut Z).flatMap V.encP
def itemsAll (ids:List Int):List Int:=ids.flatMap V.items
def Canon (ids:List Int):Prop:=V.encode (V.itemsAll ids)=ids
def Has (t:Int):Prop:=nU V.ms t∨t∈V.sp
structure Ok:Prop where
 good:jm V.ms V.ex
 nodup:V.sp.Nodup
 above:∀t∈V.sp,256+(V.ms.length:Int)≤t
variable {V}
theorem place_none (h:V.Ok) {t:Int} (ht:nU V.ms t):V.place t=none:=by
 unfold place;rw [List.idxOf?_eq_none_iff];intro a;have:=h.above t a;have:=ht.2;omega
theorem place_some {t:Int} (ht:t∈V.sp):∃i,V.place t=some i∧V.sp[i]? =some t:=by
 unfold place;cases hp:V.sp.idxOf? t with
 |none=>exact absurd ht (List.idxOf?_eq_none_iff.1 hp)
 |some i=>
  refine⟨i,rfl,?_⟩;rw [List.idxOf?,List.findIdx?_eq_some_iff_getElem]at hp;obtain⟨b,a,_⟩:=hp;rw [XK b];simpa using a
theorem items_tok (h:V.Ok) {t:Int} (ht:nU V.ms t):V.items t=V.ex t:=by
 unfold items;rw [place_none h ht]
theorem items_ne (h:V.Ok) {t:Int} (ht:V.Has t):V.items t≠ []:=by
 rcases ht with ht |ht
 ·rw [items_tok h ht];exact(h.good.bytes ht).2
 ·obtain⟨i,a,_⟩:=place_some ht;unfold items;rw [a];simp
def Items (V:Voc) (Z:List Int):Prop:=∀x∈Z, -(V.sp.length:Int)≤x∧x<256
theorem items_ok (h:V.Ok) {t:Int} (ht:V.Has t):V.Items (V.items t):=by
 intro x a;rcases ht with ht |ht
 ·rw [items_tok h ht]at a;have:=(h.good.bytes ht).1 x a;omega
 ·obtain⟨i,b,c⟩:=place_some ht;have:=(List.getElem?_eq_some_iff.1 c).1;unfold items at a;rw [b]at a;simp at a;omega
theorem itemsAll_ok (h:V.Ok) {ids:List Int} (ht:∀t∈ids,V.Has t):V.Items (V.itemsAll ids):=by
 intro x a;obtain⟨t,b,a⟩:=List.mem_flatMap.1 a;exact items_ok h (ht t b) x a
theorem piece_kind {p:List Int} (hp:p≠ []) (hu:dW V.cut p) (hi:V.Items p):(∃i:Nat,i<V.sp.length∧p= [-1- (i:Int)])∨(∀x∈p,0≤x∧x<256):=by
 induction p with
 |nil=>exact absurd rfl hp
 |cons x r ih=>
  by_cases hx:x<0
  ·refine .inl ?_;cases r with
   |nil=>
    have:=hi x (by simp);exact⟨(-1-x).toNat,by omega,by congr 1;omega⟩
   |cons y r=>
    have:=hu.1;unfold cut at this;simp [hx]at this
  ·refine .inr ?_;cases r with
   |nil=>intro y b;simp at b;subst b;have:=hi y (by simp);omega
   |cons y r=>
    rcases ih (by simp) hu.2 (fun z a=>hi z (by simp [a]))with⟨i,_,e⟩ |e
    ·exfalso;have:=hu.1;cases e;unfold cut at this;have:(-1- (i:Int)) <0:=by omega
     simp_all
    ·intro z a;rcases List.mem_cons.1 a with rfl |a
     ·have:=hi z (by simp);omega
     ·exact e z a
theorem encP_mark (h:V.Ok) {i:Nat} (hi:i<V.sp.length):V.encP [-1- (i:Int)]= [V.sp[i]]∧V.items V.sp[i]= [-1- (i:Int)]:=by
 constructor
 ·unfold encP;dsimp only;rw [if_pos (by omega),show(-1- (-1- (i:Int))).toNat=i by omega];simp [List.getD,XK hi]
 ·obtain⟨j,c,b⟩:=place_some (V:=V) (List.getElem_mem hi);have a:=(List.getElem?_eq_some_iff.1 b).1;rw [XK a]at b;have:j=i:=(List.getElem_inj h.nodup).1 (Option.some.inj b);unfold items;rw [c,this]
theorem encP_bytes {p:List Int} (hp:p≠ []) (hb:∀x∈p,0≤x∧x<256):V.encP p=after V.ms V.ms.length p:=by
 cases p with
 |nil=>exact absurd rfl hp
 |cons x r=>
  unfold encP;dsimp only;rw [if_neg (by have:=hb x (by simp);omega)]
theorem after_tok (h:V.Ok) {s:List Int} (hs:∀x∈s,0≤x∧x<256):∀t∈after V.ms V.ms.length s,nU V.ms t:=by
 have e:∀k,k≤V.ms.length→∀t∈after V.ms k s,0≤t:=by
  intro k;induction k with
  |zero=>intro _ t a;rw [cZ]at a;exact(hs t a).1
  |succ k b=>
   intro f t a;rw [cw V.ms (XK (show k<V.ms.length by omega))]at a;have b:=b (by omega);generalize after V.ms k s=l at a b;induction l using cB.induct V.ms[k].1 V.ms[k].2 with
   |case1=>simp [cB]at a
   |case2 x=>simp [cB]at a;subst a;exact b _ (by simp)
   |case3 x y r c ih2=>
    obtain⟨rfl,rfl⟩:=c;rw [cm]at a;rcases List.mem_cons.1 a with rfl |a
    ·omega
    ·exact ih2 a fun u d=>b u (by simp [d])
   |case4 x y r c ih2=>
    rw [cu r c]at a;rcases List.mem_cons.1 a with rfl |a
    ·exact b _ (by simp)
    ·exact ih2 a fun u d=>b u (by simp [d])
 intro t a;exact⟨e _ (XV _) t a,uj (ms:=V.ms) V.ms.length (XV _) s (fun x c=>(hs x c).2) t a⟩
theorem itemsAll_append (a b:List Int):V.itemsAll (a++b)=V.itemsAll a++V.itemsAll b:=by simp [itemsAll]
theorem itemsAll_toks (h:V.Ok) {l:List Int} (hl:∀t∈l,nU V.ms t):V.itemsAll l=bR V.ex l:=by
 induction l with
 |nil=>rfl
 |cons t l ih=>
  have:=ih fun x a=>hl x (by simp [a]);unfold itemsAll bR at this⊢;rw [List.flatMap_cons,List.flatMap_cons,this,items_tok h (hl t (by simp))]
theorem encP_items (h:V.Ok) {p:List Int} (hp:p≠ []) (hu:dW V.cut p) (hi:V.Items p):V.itemsAll (V.encP p)=p∧(∀t∈V.encP p,V.Has t)∧∀u v,V.encP p=u++v→u≠ []→v≠ []→∃p1 p2,p=p1++p2∧p1≠ []∧p2≠ []∧V.encP p1=u∧V.encP p2=v:=by
 rcases piece_kind hp hu hi with⟨i,b,rfl⟩ |hb
 ·obtain⟨q,r⟩:=encP_mark h b;rw [q];refine⟨by simp [itemsAll,r],?_,?_⟩
  ·intro t c;simp at c;subst c;exact .inr (List.getElem_mem b)
  ·intro u v e hu s;exfalso;have:=congrArg List.length e;have w:0<u.length:=List.length_pos_iff.2 hu;have y:0<v.length:=List.length_pos_iff.2 s;simp at this;omega
 ·have m:=h.good.stands;rw [encP_bytes hp hb];have a:=after_tok h hb;refine⟨?_,fun t c=>.inl (a t c),?_⟩
  ·rw [itemsAll_toks h a,db m _ (XV _),eK m p hb]
  ·intro u v e j k;obtain⟨p1,p2,d,f,g⟩:=kg V.ms V.ms.length (XV _) p u v e;have n:p1≠ []:=by rintro rfl;rw [after_nil]at f;exact j f.symm
   have o:p2≠ []:=by rintro rfl;rw [after_nil]at g;exact k g.symm
   refine⟨p1,p2,d,n,o,?_,?_⟩
   ·rw [encP_bytes n fun x l=>hb x (by rw [d];simp [l]),f]
   ·rw [encP_bytes o fun x l=>hb x (by rw [d];simp [l]),g]
theorem pieces_items {Z:List Int} (hZ:V.Items Z) {ps:List (List Int)} (hf:ps.flatten=Z):∀p∈ps,V.Items p:=by
 intro p a x b;exact hZ x (by rw [←hf];exact List.mem_flatten.2 ⟨p,a,b⟩)
theorem chop_all {ps:List (List Int)} (h:bK V.cut ps):∀p∈ps,p≠ []∧dW V.cut p:=by
 induction ps with
 |nil=>intro p a;cases a
 |cons q ps ih=>
  intro p a;rcases List.mem_cons.1 a with rfl |a
  ·exact h.head
  ·exact ih h.tail p a
theorem encode_chop {ps:List (List Int)} (h:bK V.cut ps):V.encode ps.flatten=ps.flatMap V.encP:=by
 unfold encode;rw [fL ps h]
theorem encode_items (h:V.Ok) {Z:List Int} (hZ:V.Items Z):V.itemsAll (V.encode Z)=Z∧∀t∈V.encode Z,V.Has t:=by
 obtain⟨g,d⟩:=dR (cut:=V.cut) Z;have c:=pieces_items hZ d;have b:=chop_all g;unfold encode;constructor
 ·conv=>rhs;rw [←d]
  generalize chop V.cut Z=ps at c b;clear g d;induction ps with
  |nil=>rfl
  |cons p ps ih=>
   rw [List.flatMap_cons,List.flatten_cons,itemsAll_append,ih (fun q e=>c q (by simp [e])) (fun q e=>b q (by simp [e])),(encP_items h (b p (by simp)).1 (b p (by simp)).2 (c p (by simp))).1]
 ·intro t i;obtain⟨p,a,f⟩:=List.mem_flatMap.1 i;exact(encP_items h (b p a).1 (b p a).2 (c p a)).2.1 t f
theorem encode_back (h:V.Ok) {Z P Q:List Int} (hZ:V.Items Z) (he:V.encode Z=P++Q):∃X Y,Z=X++Y∧V.encode X=P∧V.encode Y=Q:=by
 obtain⟨c,d⟩:=dR (cut:=V.cut) Z;unfold encode at he;rcases oQ _ P Q he with⟨a,b,e,rfl,rfl⟩ |⟨a,p,b,u,v,e,l,m,n,rfl,rfl⟩
 ·rw [e]at c d;obtain⟨g,i⟩:=c.append;exact⟨a.flatten,b.flatten,by rw [←d,List.flatten_append],encode_chop g,encode_chop i⟩
 ·have j:=pieces_items hZ d;have k:=chop_all c;rw [e]at c d j k;have f:=k p (by simp);obtain⟨r,s,rfl,o,q,t,w⟩:=(encP_items h f.1 f.2 (j p (by simp))).2.2 u v l m n;obtain⟨g,i⟩:=c.part o q;refine⟨(a++ [r]).flatten,(s::b).flatten,by rw [←d];simp,?_,?_⟩
  ·rw [encode_chop g];simp [t]
  ·rw [encode_chop i];simp [w]
theorem canon_append (h:V.Ok) {P Q:List Int} (ht:∀t∈P++Q,V.Has t) (hc:V.Canon (P++Q)):V.Canon P∧V.Canon Q:=by
 obtain⟨X,Y,e,c,d⟩:=encode_back h (itemsAll_ok h ht) hc;have a:=itemsAll_ok h ht;rw [e]at a;have f:=(encode_items h (Z:=X) fun x b=>a x (by simp [b])).1;have g:=(encode_items h (Z:=Y) fun x b=>a x (by simp [b])).1;rw [c]at f;rw [d]at g;exact⟨by unfold Canon;rw [f,c],by unfold Canon;rw [g,d]⟩
def Free (V:Voc) (a b:Int):Prop:=∀k,k<V.ms.length→¬dU V.ms (V.ex a) (V.ex b) k
def Pair (V:Voc) (a b:Int):Prop:=(∃x y,(V.items a).getLast?=some x∧(V.items b).head?=some y∧V.cut x y=true)∨(nU V.ms a∧nU V.ms b∧V.Free a b)
theorem alone_iff (h:V.Ok) {t:Int} (ht:nU V.ms t):V.Canon [t]↔cT V.ms V.ex t∧(chop V.cut (V.ex t)).length≤1:=by
 have c:=h.good.bytes ht;unfold Canon encode itemsAll cT;simp only [List.flatMap_cons,List.flatMap_nil,List.append_nil];rw [items_tok h ht];obtain⟨i,b⟩:=dR (cut:=V.cut) (V.ex t);have d:=chop_all i;have j:V.Items (V.ex t):=fun x k=>by have:=c.1 x k;omega
 have f:=pieces_items j b
 match hc:chop V.cut (V.ex t)with
 | []=>rw [hc]at b;exact absurd b.symm c.2
 | [p]=>
  rw [hc]at b;simp at b;subst b;simp only [List.flatMap_cons,List.flatMap_nil,List.append_nil,List.length_cons,List.length_nil];rw [encP_bytes c.2 c.1];simp
 |p::q::r=>
  constructor
  ·intro e;exfalso;have g:∀p∈chop V.cut (V.ex t),V.encP p≠ []:=by
    intro p a e;have:=(encP_items h (d p a).1 (d p a).2 (f p a)).1;rw [e]at this;exact(d p a).1 this.symm
   rw [hc]at g;have l:=List.length_pos_iff.2 (g p (by simp));have m:=List.length_pos_iff.2 (g q (by simp));have:=congrArg List.length e;simp only [List.flatMap_cons,List.length_append,List.length_cons,List.length_nil]at this;omega
  ·rintro⟨_,e⟩;simp at e
theorem alone_special (h:V.Ok) {t:Int} (ht:t∈V.sp):V.Canon [t]:=by
 obtain⟨i,e,b⟩:=place_some ht;have a:=(List.getElem?_eq_some_iff.1 b).1;rw [XK a]at b;obtain⟨c,d⟩:=encP_mark h a;rw [Option.some.inj b]at c d;unfold Canon encode itemsAll;simp only [List.flatMap_cons,List.flatMap_nil,List.append_nil,d];show V.encP [-1- (i:Int)]++ []= [t];rw [c];rfl
theorem canon_more (h:V.Ok) {init:List Int} {l t:Int} (ht:∀x∈init++ [l],V.Has x) (hc:V.Canon (init++ [l])) (hT:V.Has t):V.Canon (init++ [l]++ [t])↔V.Canon [t]∧V.Pair l t:=by
 have hS:=itemsAll_ok h ht;have hTi:=items_ok h hT;have nS:V.itemsAll (init++ [l])≠ []:=by
  rw [itemsAll_append];have:=items_ne h (ht l (by simp));simp [itemsAll,this]
 have nT:=items_ne h hT;obtain⟨s1,W⟩:=dR (cut:=V.cut) (V.itemsAll (init++ [l]));obtain⟨t1,X⟩:=dR (cut:=V.cut) (V.items t);obtain⟨q,F,hq,M⟩:=F9 (cut:=V.cut) nT;have U:∀x:Int,V.itemsAll [x]=V.items x:=fun x=>by simp [itemsAll]
 obtain⟨s,p,hps⟩:∃s p,chop V.cut (V.itemsAll (init++ [l]))=s++ [p]:=by
  rcases List.eq_nil_or_concat (chop V.cut (V.itemsAll (init++ [l])))with e |⟨a,b,e⟩
  ·rw [e]at W;exact absurd W.symm nS
  ·exact⟨a,b,by rw [e];simp⟩
 rw [hps]at s1 W;rw [hq]at t1 X;have d:=chop_all s1 p (by simp);have D:=t1.head;have k:p.getLast?=(V.items l).getLast?:=by
  have Y:(V.itemsAll (init++ [l])).getLast?=(V.items l).getLast?:=by
   rw [itemsAll_append,U,dH _ (items_ne h (ht l (by simp)))]
  rw [←W,List.flatten_append,List.flatten_cons,List.flatten_nil,List.append_nil,dH _ d.1]at Y;exact Y
 have A:V.itemsAll (init++ [l]++ [t])=(s++ [p]).flatten++(q::F).flatten:=by
  rw [itemsAll_append,U,W,X]
 have c:s.flatMap V.encP++V.encP p=init++ [l]:=by
  have:V.encode (V.itemsAll (init++ [l]))=init++ [l]:=hc;rw [←W,encode_chop s1]at this;simpa using this
 have B:V.Canon [t]↔V.encP q++F.flatMap V.encP= [t]:=by
  unfold Canon;rw [U, ←X,encode_chop t1];simp
 by_cases hcut:F_ V.cut p q
 ·-- it is cut
  have K:bK V.cut (s++p::(q::F)):=s1.glue t1 fun z r j=>by cases j;exact hcut
  have L:V.Pair l t:=by
   obtain⟨x,y,R,T,S⟩:=hcut;exact .inl ⟨x,y,by rw [←k];exact R,by rw [←M];exact T,S⟩
  have:V.encode (V.itemsAll (init++ [l]++ [t]))=init++ [l]++(V.encP q++F.flatMap V.encP):=by
   rw [A, ←List.flatten_append,show s++ [p]++q::F=s++p::(q::F) by simp,encode_chop K, ←c];simp
  unfold Canon at*;rw [this,List.append_right_inj];exact⟨fun e=>⟨B.2 e,L⟩,fun e=>B.1 e.1⟩
 ·-- it isn't: both are bytes
  obtain⟨x,R⟩:∃x,p.getLast?=some x:=by
   cases hpl:p.getLast? with
   |none=>exact absurd (List.getLast?_eq_none_iff.1 hpl) d.1
   |some x=>exact⟨x,rfl⟩
  obtain⟨y,T⟩:∃y,q.head?=some y:=by
   cases hql:q.head? with
   |none=>exact absurd (List.head?_eq_none_iff.1 hql) D.1
   |some y=>exact⟨y,rfl⟩
  have o:V.cut x y=false:=by
   cases S:V.cut x y with
   |false=>rfl
   |true=>exact absurd ⟨x,y,R,T,S⟩ hcut
  have hx0:¬x<0:=by intro e;unfold cut at o;simp [e]at o
  have hy0:¬y<0:=by intro e;unfold cut at o;simp [e]at o
  have hip:=pieces_items hS W p (by simp);have hiq:=pieces_items hTi X q (by simp);have bp:∀z∈p,0≤z∧z<256:=by
   rcases piece_kind d.1 d.2 hip with⟨i,_,rfl⟩ |e
   ·simp at R;omega
   ·exact e
  have bq:∀z∈q,0≤z∧z<256:=by
   rcases piece_kind D.1 D.2 hiq with⟨i,_,rfl⟩ |e
   ·simp at T;omega
   ·exact e
  have G:∀ {u:Int} (E:V.Has u),(∀z,(V.items u).getLast?=some z∨(V.items u).head?=some z→¬z<0→nU V.ms u):=by
   intro u E z j hz0;rcases E with E |E
   ·exact E
   ·exfalso;obtain⟨i,hi,_⟩:=place_some E;unfold items at j;rw [hi]at j;simp at j;omega
  have tl:nU V.ms l:=G (ht l (by simp)) x (.inl (by rw [←k];exact R)) hx0;have tt:nU V.ms t:=G hT y (.inr (by rw [←M];exact T)) hy0;have J:bK V.cut (s++(p++q)::F):=by
   have E:dW V.cut (p++q):=(iu p q).2 ⟨d.2,D.2,fun a b ha hb=>by rw [R]at ha;rw [T]at hb;cases ha;cases hb;exact o⟩;have npq:p++q≠ []:=by simp [d.1]
   have h1:bK V.cut (s++ [p++q]):=by
    clear c A;have g:=s1;revert g;generalize s=a;intro g;induction a with
    |nil=>exact⟨npq,E⟩
    |cons z a ih=>
     rw [List.cons_append]at g⊢;refine bK.cons g.head.1 g.head.2 (fun w r hw=>?_) (ih g.tail);cases a with
     |nil=>
      cases hw;obtain⟨u,v,O,Z,n⟩:=g.2.2.1;exact⟨u,v,O,by rw [li _ d.1];exact Z,n⟩
     |cons z' a=>cases hw;exact g.2.2.1
   refine h1.glue t1.tail fun z r j=>?_;subst j;obtain⟨u,v,O,Z,n⟩:=t1.2.2.1;exact⟨u,v,by rw [dH _ D.1];exact O,Z,n⟩
  have henc:V.encode (V.itemsAll (init++ [l]++ [t]))=s.flatMap V.encP++(after V.ms V.ms.length (p++q)++F.flatMap V.encP):=by
   rw [A,show(s++ [p]).flatten++(q::F).flatten=(s++(p++q)::F).flatten by simp,encode_chop J];simp only [List.flatMap_append,List.flatMap_cons];rw [encP_bytes (by simp [d.1]) fun z j=>(List.mem_append.1 j).elim (bp z) (bq z)]
  rw [encP_bytes d.1 bp]at c;have I:=after_tok h bp;obtain⟨i2,C⟩:∃i2,after V.ms V.ms.length p=i2++ [l]:=by
   have hne:=jJ V.ms d.1 V.ms.length;rcases List.eq_nil_or_concat (after V.ms V.ms.length p)with e |⟨a,b,e⟩
   ·exact absurd e hne
   ·rw [e]at c;have:=congrArg List.getLast? c;simp at this;exact⟨a,by rw [e,this];simp⟩
  rw [C]at I;have hcp:ju V.ms V.ex (i2++ [l]):=by
   unfold ju;rw [←C,db h.good.stands _ (XV _),eK h.good.stands p bp,C]
  have hpe:p=bR V.ex (i2++ [l]):=by
   rw [←C,db h.good.stands _ (XV _),eK h.good.stands p bp]
  have H:V.Canon [t]→F= []∧q=V.ex t∧cT V.ms V.ex t:=by
   intro e;obtain⟨ha,hl⟩:=(alone_iff h tt).1 e;rw [items_tok h tt]at hq X;rw [hq]at hl;simp at hl;subst hl;simp at X;exact⟨rfl,X,ha⟩
  have m:V.Canon [t]→(V.Canon (init++ [l]++ [t])↔V.Free l t):=by
   intro e;obtain⟨Y,e2,e3⟩:=H e;have N:=FL h.good I hcp tt e3;unfold Canon;rw [henc,Y,e2];simp only [List.flatMap_nil,List.append_nil];rw [C]at c;unfold ju at N;rw [eC, ←hpe,show bR V.ex [t]=V.ex t by simp [bR]]at N;rw [←c,List.append_assoc,List.append_right_inj];exact N
  have f:V.Pair l t↔V.Free l t:=by
   constructor
   ·rintro(⟨u,v,E,Z,n⟩ |⟨_,_,hf⟩)
    ·exfalso;rw [←k,R]at E;rw [←M,T]at Z;cases E;cases Z;rw [o]at n;cases n
    ·exact hf
   ·exact fun hf=>.inr ⟨tl,tt,hf⟩
  constructor
  ·intro e;have hT1:=(canon_append h (P:=init++ [l]) (Q:=[t]) (by
    intro z j;rcases List.mem_append.1 j with j |j
    ·exact ht z j
    ·simp at j;subst j;exact hT) e).2
   exact⟨hT1,f.2 ((m hT1).1 e)⟩
  ·rintro⟨Y,e2⟩;exact(m Y).2 (f.1 e2)
end Voc
structure HE where
 r:Int
 p:Int
 t:Int
 f:Int
 a:Int
 b:Int
 deriving DecidableEq,Inhabited
def HE.lt (x y:HE):Prop:=x.r<y.r∨x.r=y.r∧(x.p<y.p∨x.p=y.p∧x.t<y.t)
instance (x y:HE):Decidable (x.lt y):=by unfold HE.lt;infer_instance
theorem HE.asymm {x y:HE} (h:x.lt y):¬y.lt x:=by unfold HE.lt at*;omega
theorem HE.le_trans {x y z:HE} (h1:¬y.lt x) (h2:¬z.lt y):¬z.lt x:=by unfold HE.lt at*;omega
theorem HE.lt_le {x y z:HE} (h1:x.lt y) (h2:¬z.lt y):¬z.lt x:=HE.le_trans (HE.asymm h1) h2
abbrev hat (l:List HE) (j:Nat):HE:=l.getD j default
def rB (l:List HE) (i k:Nat):List HE:=(l.set i (hat l k)).set k (hat l i)
theorem cC (l:List HE) (i k:Nat):(rB l i k).length=l.length:=by simp [rB]
theorem jh {l:List HE} {i k:Nat} (hi:i<l.length) (hk:k<l.length) (j:Nat):hat (rB l i k) j=if j=k then hat l i else if j=i then hat l k else hat l j:=by
 unfold hat rB;simp only [List.getD_eq_getElem?_getD,List.getElem?_set,List.length_set];by_cases h1:j=k
 ·subst h1;simp [hk]
 ·by_cases h2:j=i
  ·subst h2;rw [if_neg (fun e=>h1 e.symm),if_pos rfl,if_pos hi,if_neg h1,if_pos rfl];rfl
  ·rw [if_neg (fun e=>h1 e.symm),if_neg (fun e=>h2 e.symm),if_neg h1,if_neg h2]
theorem oV {l:List HE} {e:HE}:e∈l↔∃j,j<l.length∧hat l j=e:=by
 constructor
 ·intro h;obtain⟨j,a,rfl⟩:=List.getElem_of_mem h;exact⟨j,a,by simp [hat,a]⟩
 ·rintro⟨j,a,rfl⟩;simp only [hat,List.getD_eq_getElem?_getD,XK a,Option.getD_some];exact List.getElem_mem a
theorem ru {l:List HE} {i k:Nat} (hi:i<l.length) (hk:k<l.length) (e:HE):e∈rB l i k↔e∈l:=by
 rw [oV,oV,cC];constructor
 ·rintro⟨j,a,rfl⟩;rw [jh hi hk];split
  ·exact⟨i,hi,rfl⟩
  ·split
   ·exact⟨k,hk,rfl⟩
   ·exact⟨j,a,rfl⟩
 ·rintro⟨j,a,rfl⟩;by_cases h1:j=i
  ·subst h1;exact⟨k,hk,by rw [jh hi hk,if_pos rfl]⟩
  ·by_cases h2:j=k
   ·subst h2;exact⟨i,hi,by rw [jh hi hk,if_neg (fun e=>h1 e.symm),if_pos rfl]⟩
   ·exact⟨j,a,by rw [jh hi hk,if_neg h2,if_neg h1]⟩
def par (j:Nat):Nat:=(j-1)/2
theorem iO {j:Nat} (h:0<j):par j<j:=by unfold par;omega
def eN (l:List HE):Prop:=∀j,0<j→j<l.length→¬(hat l j).lt (hat l (par j))
def G8 (l:List HE) (i:Nat):Prop:=∀j,0<j→j<l.length→(j≠i→¬(hat l j).lt (hat l (par j)))∧(par j=i→0<i→¬(hat l j).lt (hat l (par i)))
theorem wQ {l:List HE} {i:Nat} (h:G8 l i) (hi:i=0∨¬(hat l i).lt (hat l (par i))):eN l:=by
 intro j a b;by_cases e:j=i
 ·subst e;rcases hi with hi |hi
  ·omega
  ·exact hi
 ·exact(h j a b).1 e
theorem KZ {l:List HE} {i:Nat} (h:G8 l i) (h0:0<i) (hi:i<l.length) (hl:(hat l i).lt (hat l (par i))):G8 (rB l i (par i)) (par i):=by
 have r:=iO h0;have f:par i<l.length:=by omega
 intro j g d;rw [cC]at d;have p:=iO g;have a:∀x,hat (rB l i (par i)) x=if x=par i then hat l i else if x=i then hat l (par i)else hat l x:=jh hi f
 constructor
 ·intro k;rw [a j,a (par j),if_neg k];by_cases e1:j=i
  ·subst e1;rw [if_pos rfl,if_pos rfl];exact HE.asymm hl
  ·rw [if_neg e1];by_cases b:par j=par i
   ·rw [if_pos b];have c:=(h j g d).1 e1;rw [b]at c;exact HE.lt_le hl c
   ·rw [if_neg b];by_cases e3:par j=i
    ·rw [if_pos e3];exact(h j g d).2 e3 h0
    ·rw [if_neg e3];exact(h j g d).1 e1
 ·intro b e;have q:=iO e;have n:hat (rB l i (par i)) j=if j=i then hat l (par i)else hat l j:=by rw [a j,if_neg (by omega)]
  have o:hat (rB l i (par i)) (par (par i))=hat l (par (par i)):=by rw [a _,if_neg (by omega),if_neg (by omega)]
  rw [n,o];have c:=(h (par i) e f).1 (by omega);by_cases e1:j=i
  ·subst e1;rw [if_pos rfl];exact c
  ·rw [if_neg e1];have m:=(h j g d).1 e1;rw [b]at m;exact HE.le_trans c m
def nr (l:List HE) (i:Nat):Prop:=∀j,0<j→j<l.length→(par j≠i→¬(hat l j).lt (hat l (par j)))∧(par j=i→0<i→¬(hat l j).lt (hat l (par i)))
theorem vc {l:List HE} {i:Nat} (h:nr l i) (hc:∀j,0<j→j<l.length→par j=i→¬(hat l j).lt (hat l i)):eN l:=by
 intro j a b;by_cases e:par j=i
 ·rw [e];exact hc j a b e
 ·exact(h j a b).1 e
theorem Gy {l:List HE} {i c:Nat} (h:nr l i) (hc0:0<c) (hc:c<l.length) (hpc:par c=i) (hl:(hat l c).lt (hat l i)) (ho:∀j,0<j→j<l.length→par j=i→¬(hat l j).lt (hat l c)):nr (rB l i c) c:=by
 have o:=iO hc0;have f:i<l.length:=by omega
 have a:∀x,hat (rB l i c) x=if x=c then hat l i else if x=i then hat l c else hat l x:=jh f hc
 intro j b e;rw [cC]at e;have n:=iO b;constructor
 ·intro g;rw [a j,a (par j),if_neg g];by_cases d:j=c
  ·subst d;rw [if_pos rfl,if_pos hpc];exact HE.asymm hl
  ·rw [if_neg d];by_cases e2:j=i
   ·subst e2;rw [if_pos rfl,if_neg (by omega)];exact(h c hc0 hc).2 hpc b
   ·rw [if_neg e2];by_cases e3:par j=i
    ·rw [if_pos e3];exact ho j b e e3
    ·rw [if_neg e3];exact(h j b e).1 e3
 ·intro d _;have k:hat (rB l i c) j=hat l j:=by rw [a j,if_neg (by omega),if_neg (by omega)]
  have m:hat (rB l i c) i=hat l c:=by rw [a i,if_neg (by omega),if_pos rfl]
  rw [hpc,k,m];have:=(h j b e).1 (by omega);rw [d]at this;exact this
theorem Le {l:List HE} (h:eN l) (x:HE):G8 (l++ [x]) l.length:=by
 intro j b c;have d:=iO b;simp at c;constructor
 ·intro f;have a:j<l.length:=by omega
  have e:∀y,y<l.length→hat (l++ [x]) y=hat l y:=by
   intro y g;simp only [hat,List.getD_eq_getElem?_getD,List.getElem?_append_left g]
  rw [e j a,e _ (by omega)];exact h j b a
 ·intro e;omega
theorem H1 {l:List HE} (h:eN l) (n:Nat) (hn:l.length=n+1):nr ((rB l 0 n).take n) 0:=by
 intro j b c;rw [List.length_take,cC,hn]at c;have a:j<n:=by omega
 have d:=iO b;have e:∀y,y<n→0<y→hat ((rB l 0 n).take n) y=hat l y:=by
  intro y g i;have:hat ((rB l 0 n).take n) y=hat (rB l 0 n) y:=by simp only [hat,List.getD_eq_getElem?_getD,List.getElem?_take_of_lt g]
  rw [this,jh (by omega) (by omega),if_neg (by omega),if_neg (by omega)]
 constructor
 ·intro f;rw [e j a b,e _ (by omega) (by omega)];exact h j b (by omega)
 ·intro _ k;omega
theorem EK {l:List HE} (h:eN l):∀j,j<l.length→¬(hat l j).lt (hat l 0):=by
 intro j;induction j using Nat.strongRecOn with
 |ind j ih=>
  intro a;by_cases h0:j=0
  ·subst h0;intro e;exact HE.asymm e e
  ·have b:=iO (Nat.pos_of_ne_zero h0);exact HE.le_trans (ih (par j) b (by omega)) (h j (Nat.pos_of_ne_zero h0) a)
theorem LC {l:List HE} (n:Nat) (hn:l.length=n+1):(∀e∈l,e=hat l 0∨e∈(rB l 0 n).take n)∧∀e∈(rB l 0 n).take n,e∈l:=by
 constructor
 ·intro e a;rw [←ru (l:=l) (i:=0) (k:=n) (by omega) (by omega)]at a;obtain⟨j,b,rfl⟩:=oV.1 a;rw [cC]at b;by_cases hjn:j=n
  ·subst hjn;rw [jh (by omega) (by omega),if_pos rfl];exact .inl rfl
  ·refine .inr (oV.2 ⟨j,by rw [List.length_take,cC];omega,?_⟩);simp only [hat,List.getD_eq_getElem?_getD,List.getElem?_take_of_lt (show j<n by omega)]
 ·intro e a;exact(ru (by omega) (by omega) e).1 (List.mem_of_mem_take a)
end Go.Proofs.YtijbcdiffjjefaaGreatDoor.Eng
