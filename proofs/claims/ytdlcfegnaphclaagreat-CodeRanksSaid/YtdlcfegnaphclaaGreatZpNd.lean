/- Great numbers: added, multiplied, compared, taken off; walked by the engine. -/
import Derived.Test.YtdlcfegnaphclaaGreatZpGg
import Derived.Test.YtdlcfegnaphclaaGreatZpTab
import Derived.Test.YtdlcfegnaphclaaGreatZpSp
import Derived.Test.YtdlcfegnaphclaaGreatZpRj
import Derived.RangeFuncFrom
import Derived.RangeFuncCalls
import Derived.RangeFuncLeaves
import Derived.RangeFuncBox
import Derived.Shelf.Abstract
import Derived.Shelf.RegionOpen
import Derived.OwnWalkIn
import Derived.TacticsInMore
import Derived.LoopNIn
import Derived.LoopIn
import Derived.Maps.RangeRun
import Derived.Lib.SliceRun
set_option linter.unusedVariables false
set_option linter.unusedSimpArgs false
set_option maxRecDepth 100000
namespace Go.Proofs.YtdlcfegnaphclaaGreat.Eng
open Go Go.RowKit
theorem gA (w:World) (la lb:Sl) (a b:Nat) (ha:aZ w la a) (hb:aZ w lb b) (h1:(dY 4294967296 a).length≤100000) (h2:(dY 4294967296 b).length≤100000) (p:Addr) (C:Nat) (hp:w.cell? p=some lb.v) (hlt:p.block<w.heap.size):
  CP 40 #[.agg #[la.v],.slice (some p) 1 C] w fun e w'=>∃r:Sl,e= .returned (.agg #[r.v])∧aZ w' r (a+b)∧Below w.heap.size w w':=by
 refine aO (Bj la.a la.n la.c (some p) 1 C w) ?_;intro w1 hw1 w2 hw2;have b1:Below w.heap.size w w1:=by subst hw1;exact af _ _
 have b2:Below w1.heap.size w1 w2:=by subst hw2;exact af _ _
 have z1:w1.heap.size=w.heap.size+1:=by subst hw1;exact av _ _
 have z2:w2.heap.size=w1.heap.size+1:=by subst hw2;exact av _ _
 have b02:=ae b1 b2;have x1:w2.heap[w.heap.size]? =some (.cells #[la.v] bU (0,0)):=ag b2 (by subst hw1;exact ak _ _);have x2:w2.heap[w1.heap.size]? =some (.cells #[bO.v] bU (0,0)):=by subst hw2;exact ak _ _
 have hcell:∀q,Below w.heap.size w q→q.cell? (p.add ((0:Int).toNat*1))=some lb.v:=by
  intro q hq;show q.cell? (p.add 0)=_;rw [ax, ←hp];unfold World.cell?;rw [hq.block _ hlt]
 intro I hI;refine hI 0 w2 (ac.yes rfl (ah.mk p rfl ⟨by omega,by omega,_,_,_,⟨hcell w2 b02,trivial⟩,?_⟩));intro w4 hw4;have b4:Below w2.heap.size w2 w4:=by subst hw4;exact af _ _
 have x4:w4.heap[w2.heap.size]? =some (.cells #[bO.v] bU (0,0)):=by subst hw4;exact ak _ _
 refine cq (s:=lb) x4 fun w5 hx5 hN5 hB5 hs5 hz5=>?_;have b5:Below w2.heap.size w2 w5:=hB5 _ _ (Q0 _) b4;have hb5:=ae b02 b5;have y1:=ag b5 x1;refine⟨_,_,_,aH y1,_,_,_,aH hx5,(u_ w5 la lb a b (ha.on hb5) (hb.on hb5) h1 h2).mono ?_⟩;rintro e w6 ⟨r,rfl,hR,b6⟩;have b26:=ae b5 b6;refine⟨r.a,r.n,r.c,rfl,cq (s:=r) (ag b26 x1) fun w7 hx7 hN7 hB7 hs7 hz7=>Ar.nat 1 rfl (by decide) ?_⟩;have b7:Below w.heap.size w w7:=hB7 _ _ (Q0 _) (ae b02 b26);have y2:w7.heap[w1.heap.size]? =some (.cells #[bO.v] bU (0,0)):=(hs7 _ (by omega)).trans (ag b26 x2);refine hI 1 w7 (ac.no rfl ⟨_,_,_,aH hx7,cq (s:=r) y2 fun w8 hx8 hN8 hB8 hs8 hz8=>⟨_,_,_,aH hx8,r,rfl,hN8 _ _ (hN7 _ _ hR),hB8 _ _ (by omega) b7⟩⟩)
set_option maxHeartbeats 1000000 in
theorem tv (w:World) (la:Sl) (a m:Nat) (ha:aZ w la a) (hm:m<4294967296) (h1:(dY 4294967296 a).length≤100000):
  CP 157 #[.agg #[la.v],.int .u32 (m:Int)] w fun e w'=>∃r:Sl,e= .returned (.agg #[r.v])∧aZ w' r (a*m)∧Below w.heap.size w w':=by
 refine aO (zu la.a la.n la.c (m:Int) w) ?_;intro w1 hw1 w2 hw2;have b1:Below w.heap.size w w1:=by subst hw1;exact af _ _
 have b2:Below w1.heap.size w1 w2:=by subst hw2;exact af _ _
 have z1:w1.heap.size=w.heap.size+1:=by subst hw1;exact av _ _
 have b02:=ae b1 b2;have x1:w2.heap[w.heap.size]? =some (.cells #[la.v] bU (0,0)):=ag b2 (by subst hw1;exact ak _ _);have x2:w2.heap[w1.heap.size]? =some (.cells #[bO.v] bU (0,0)):=by subst hw2;exact ak _ _
 have hna:=ha.n;obtain⟨N,hN⟩:∃N,N=(dY 4294967296 a).length:=⟨_,rfl⟩;rw [←hN]at hna h1;obtain⟨w3,e3,o3,b3⟩:=mP w2 (N+1) (by omega);refine⟨_,_,_,ce x1,Ar.nat (N+1) (by rw [hna];rfl) (by omega) ⟨_,_,_,w3,e3,_,_,_,ce (ag b3 x1),?_⟩⟩;rw [hna];intro I hI;have key:=aU (α:=Nat×List Int×Sl×World) N (fun i y=>y.2.1.length=i∧yD 4294967296 y.2.1∧cN 4294967296 y.2.1+y.1*4294967296^i=a%4294967296^i*m∧y.1<4294967296∧y.2.2.2.ownsRow w2.heap.size dB 1 y.2.2.1.v y.2.2.1.n (y.2.1.flatMap dW)∧Below w2.heap.size w2 y.2.2.2) (fun i y=>I [.int .i64 (i:Int),.int .u64 (y.1:Int),y.2.2.1.v] y.2.2.2) (0,[],⟨some (nb w2),0,N+1⟩,w3) ⟨rfl,fun x hx=>(by cases hx),by simp [cN,Nat.mod_one],(by show 0<4294967296;decide),o3,b3⟩ ?_ ?_
 ·exact key
 ·rintro i hi ih ⟨c,L,f,q⟩ ⟨hL,hin,hv,hc,ho,hq⟩;change L.length=i at hL;change yD 4294967296 L at hin;change cN 4294967296 L+c*4294967296^i=a%4294967296^i*m at hv;change c<4294967296 at hc;change q.ownsRow w2.heap.size dB 1 f.v f.n (L.flatMap dW)at ho;change Below w2.heap.size w2 q at hq;have hfn:f.n=L.length:=(Rw.of_own ho (fun _=>rfl) (by decide)).2;have hlt:i< (dY 4294967296 a).length:=by omega
  obtain⟨p,hp,c0⟩:=aS (aZ.on ha (ae b02 hq)).r hlt rfl;rw [jW dJ hlt]at c0;obtain⟨x,hx⟩:∃x,x=a/4294967296^i%4294967296:=⟨_,rfl⟩;rw [←hx]at c0;have m1:x<4294967296:=by rw [hx];exact Nat.mod_lt _ (by decide)
  obtain⟨s,hs⟩:∃s,s=x*m+c:=⟨_,rfl⟩;have hxm:x*m≤4294967295*4294967295:=Nat.mul_le_mul (by omega) (by omega);refine hI _ _ f.a f.n f.c q (ac.yes (QY (by omega)) (ah.mk p hp ⟨by omega,by omega,_,c0,Ar.u64 (x*m) (by rw [de (by omega),de (by omega),Int.natCast_mul]) (by omega) (Ar.u64 s (by omega) (by omega) ?_)⟩));intro w5 hw5;rw [dF]at hw5;obtain⟨f',w6,e1,e2,e3,e4,_⟩:=oe.push ho ((s%4294967296:Nat):Int) hw5 rfl hq.size (by omega) (by decide);refine⟨f'.a,f'.n,f'.c,w6,e2,by decide,Ar.nat (i+1) rfl (by omega) ?_⟩;rw [GA];exact ih (s/4294967296,L++ [((s%4294967296:Nat):Int)],f',w6) ⟨by rw [List.length_append];show _+1=_;omega,kB hin (Nat.mod_lt _ (by decide)),C_ hL hv (by rw [hs,hx]),by show s/4294967296<_;omega,e3,e4 _ hq⟩
 ·rintro⟨c,L,f,q⟩ ⟨hL,hin,hv,hc,ho,hq⟩;change L.length=N at hL;change yD 4294967296 L at hin;change cN 4294967296 L+c*4294967296^N=a%4294967296^N*m at hv;change c<4294967296 at hc;change q.ownsRow w2.heap.size dB 1 f.v f.n (L.flatMap dW)at ho;change Below w2.heap.size w2 q at hq;have hfn:f.n=L.length:=(Rw.of_own ho (fun _=>rfl) (by decide)).2;refine hI _ _ f.a f.n f.c q (ac.no (QZ (by omega)) ?_);intro w7 hw7;rw [dF,Nat.mod_eq_of_lt hc]at hw7;obtain⟨f',w8,e1,e2,e3,e4,_⟩:=oe.push ho (c:Int) hw7 rfl hq.size (by omega) (by decide);have hv2:cN 4294967296 (L++ [(c:Int)])=a*m:=by
   rw [fh,kA,hL,Nat.mul_comm (4294967296^N),hv,(iI dJ (n:=a) (i:=N) (by omega)).2]
  have hB8:=e4 _ hq;refine⟨f'.a,f'.n,f'.c,w8,e2,(fy w8 f' _ (LsAt.of_own oe e3) (jd e3) (qI e3) (kB hin hc) (by rw [List.length_append];show _+1≤_;omega)).mono ?_⟩;rintro e w9 ⟨r,rfl,hR,b9⟩;rw [hv2]at hR;have hB9:=ae hB8 b9;exact⟨r.a,r.n,r.c,rfl,cq (s:=r) (ag hB9 x2) fun q' hx hN' hB _ _=>⟨_,_,_,aH hx,r,rfl,hN' _ _ hR,hB _ _ (by omega) (ae b02 hB9)⟩⟩
def ku (x y:Int):Int:=if x<y then -1 else if y<x then 1 else 0
theorem Bm (x y:Int) (w:World):CP 85 #[.int .i64 x,.int .i64 y] w fun e w'=>e= .returned (.int .i64 (ku x y))∧w'=w:=by
 have nan:∀x:Int,CP 158 #[.int .i64 x] w fun e w'=>e= .returned (.bool false)∧w'=w:=fun x=>by
  refine aO (pS x w) ?_;exact⟨by simp,rfl⟩
 refine aO (Ce x y w) ?_;refine(nan x).mono ?_;rintro e w1 ⟨rfl,rfl⟩;refine⟨_,rfl,(nan y).mono ?_⟩;rintro e w1 ⟨rfl,rfl⟩;unfold ku;refine⟨_,rfl,ac.no rfl (ac.no rfl (ac.mk (fun h=>?_) fun h=>ac.mk (fun h2=>?_) fun h2=>?_))⟩
 ·rw [if_pos (QQ h)];exact⟨rfl,rfl⟩
 ·rw [if_neg (QX h),if_pos (QQ h2)];exact⟨rfl,rfl⟩
 ·rw [if_neg (QX h),if_neg (QX h2)];exact⟨rfl,rfl⟩
theorem Bp (x y:Int) (w:World):CP 86 #[.int .u32 x,.int .u32 y] w fun e w'=>e= .returned (.int .i64 (ku x y))∧w'=w:=by
 have nan:∀x:Int,CP 159 #[.int .u32 x] w fun e w'=>e= .returned (.bool false)∧w'=w:=fun x=>by
  refine aO (zI x w) ?_;exact⟨by simp,rfl⟩
 refine aO (BA x y w) ?_;refine(nan x).mono ?_;rintro e w1 ⟨rfl,rfl⟩;refine⟨_,rfl,(nan y).mono ?_⟩;rintro e w1 ⟨rfl,rfl⟩;unfold ku;refine⟨_,rfl,ac.no rfl (ac.no rfl (ac.mk (fun h=>?_) fun h=>ac.mk (fun h2=>?_) fun h2=>?_))⟩
 ·rw [if_pos (QQ h)];exact⟨rfl,rfl⟩
 ·rw [if_neg (QX h),if_pos (QQ h2)];exact⟨rfl,rfl⟩
 ·rw [if_neg (QX h),if_neg (QX h2)];exact⟨rfl,rfl⟩
theorem nl {a b:Nat} (h:a<b):ku a b= -1:=by unfold ku;rw [if_pos (by omega)]
theorem oI {a b:Nat} (h:b<a):ku a b=1:=by unfold ku;rw [if_neg (by omega),if_pos (by omega)]
theorem qN {a b:Nat} (h:a=b):ku a b=0:=by unfold ku;rw [if_neg (by omega),if_neg (by omega)]
theorem dR (w:World) (la lb:Sl) (a b:Nat) (ha:aZ w la a) (hb:aZ w lb b) (h1:(dY 4294967296 a).length≤100000) (h2:(dY 4294967296 b).length≤100000):
  CP 42 #[.agg #[la.v],.agg #[lb.v]] w fun e w'=>e= .returned (.int .i64 (ku a b))∧Below w.heap.size w w':=by
 refine aO (Di la.a la.n la.c lb.a lb.n lb.c w) ?_;intro w1 hw1 w2 hw2;have b1:Below w.heap.size w w1:=by subst hw1;exact af _ _
 have b2:Below w1.heap.size w1 w2:=by subst hw2;exact af _ _
 have b02:=ae b1 b2;have x1:w2.heap[w.heap.size]? =some (.cells #[la.v] bU (0,0)):=ag b2 (by subst hw1;exact ak _ _);have x2:w2.heap[w1.heap.size]? =some (.cells #[lb.v] bU (0,0)):=by subst hw2;exact ak _ _
 have hna:=ha.n;have hnb:=hb.n;refine⟨_,_,_,ce x1,_,_,_,ce x2,(Bm _ _ w2).mono ?_⟩;rintro e w3 ⟨rfl,hw3⟩;subst w3;refine⟨_,rfl,?_⟩;rw [hna,hnb];rcases Nat.lt_trichotomy (dY 4294967296 a).length (dY 4294967296 b).length with hl |hl |hl
 ·rw [nl hl,nl (DG dJ hl)];exact ac.yes rfl ⟨rfl,b02⟩
 ·rw [qN hl];refine ac.no rfl ⟨_,_,_,ce x1,?_⟩;rw [hna];refine Ar.ok64 (by omega) (by omega) ?_;intro I hI;have key:∀n,n≤(dY 4294967296 a).length→a/4294967296^n=b/4294967296^n→∀(y:Int) (q:World),Below w2.heap.size w2 q→I [.int .i64 ((n:Int)-1),.int .i64 y] q:=by
   intro n;induction n with
   |zero=>
    intro _ he y q hq;refine hI _ y q (ac.no rfl ?_);simp only [Nat.pow_zero,Nat.div_one]at he;rw [qN he];exact⟨rfl,ae b02 hq⟩
   |succ n ih=>
    intro hn he y q hq;rw [show((n+1:Nat):Int)-1=(n:Int) by omega];refine hI _ y q (ac.yes (QY (by omega)) ?_);intro w5 hw5;have b5:Below q.heap.size q w5:=by subst hw5;exact aI q
    have hq5:=ae hq b5;have hi1:n< (dY 4294967296 a).length:=by omega
    have hi2:n< (dY 4294967296 b).length:=by omega
    obtain⟨p,hp,c1⟩:=aS (aZ.on ha (ae b02 hq5)).r hi1 rfl;obtain⟨p2,hp2,c2⟩:=aS (aZ.on hb (ae b02 hq5)).r hi2 rfl;rw [jW dJ hi1]at c1;rw [jW dJ hi2]at c2;obtain⟨hlt,heq⟩:=wu (b:=4294967296) he;obtain⟨hgt,_⟩:=wu (b:=4294967296) he.symm;refine⟨_,_,_,ce (ag hq5 x1),ah.mk p hp ⟨by omega,by omega,_,c1,_,_,_,ce (ag hq5 x2),ah.mk p2 hp2 ⟨by omega,by omega,_,c2,(Bp _ _ w5).mono ?_⟩⟩⟩;rintro e w6 ⟨rfl,hw6⟩;subst w6;refine⟨_,rfl,?_⟩;rcases Nat.lt_trichotomy (a/4294967296^n%4294967296) (b/4294967296^n%4294967296)with h |h |h
    ·rw [nl h,nl (hlt h)];exact ac.yes rfl ⟨rfl,ae b02 hq5⟩
    ·rw [qN h];exact ac.no rfl (Ar.ok64 (by omega) (by omega) (ih (by omega) (heq h) y w5 hq5))
    ·rw [oI h,oI (hgt h)];exact ac.yes rfl ⟨rfl,ae b02 hq5⟩
  refine key _ (Q0 _) ?_ 0 w2 (Below.refl _ _);rw [(iI dJ (n:=a) (Q0 _)).1,hl,(iI dJ (n:=b) (Q0 _)).1]
 ·rw [oI hl,oI (DG dJ hl)];exact ac.yes rfl ⟨rfl,b02⟩
theorem mS (z:Int) (h1: -18446744073709551616≤z) (h2:z<18446744073709551616):IntKind.wrap .u64 z=if z<0 then z+18446744073709551616 else z:=by
 simp only [IntKind.wrap,IntKind.bits,IntKind.signed,Bool.false_and,Bool.false_eq_true,if_false];rw [show(2:Int)^64=18446744073709551616 by decide];split<;>omega
theorem Ef {x y o:Nat} (hx:x<4294967296) (hy:y<4294967296) (ho:o≤1):
  ∃d o':Nat,d<4294967296∧o'≤1∧d+(y+o)=x+o'*4294967296∧IntKind.wrap .u32 (IntKind.wrap .u64 (IntKind.wrap .u64 ((x:Int)- (y:Int))- (o:Int)))=(d:Int)∧
   IntKind.wrap .u64 ((BitVec.ofInt (IntKind.bits .u64) (Int.fdiv (IntKind.wrap .u64 (IntKind.wrap .u64 ((x:Int)- (y:Int))- (o:Int))) (2^(min (32:Int).toNat (IntKind.bits .u64))))&&&BitVec.ofInt (IntKind.bits .u64) 1).toNat:Int)=(o':Int):=by
 have hw:IntKind.wrap .u64 (IntKind.wrap .u64 ((x:Int)- (y:Int))- (o:Int))=(((if y+o≤x then x- (y+o)else x+18446744073709551616- (y+o)):Nat):Int):=by
  rw [mS ((x:Int)- (y:Int)) (by omega) (by omega)];by_cases h:(x:Int)- (y:Int) <0
  ·rw [if_pos h,mS _ (by omega) (by omega),if_neg (by omega),if_neg (by omega)];omega
  ·rw [if_neg h,mS _ (by omega) (by omega)];by_cases h2:y+o≤x
   ·rw [if_neg (by omega),if_pos h2];omega
   ·rw [if_pos (by omega),if_neg h2];omega
 rw [hw];have band:∀z:Nat,z<18446744073709551616→IntKind.wrap .u64 ((BitVec.ofInt (IntKind.bits .u64) (z:Int)&&&BitVec.ofInt (IntKind.bits .u64) 1).toNat:Int)=((z%2:Nat):Int):=by
  intro z hz;show IntKind.wrap .u64 ((BitVec.ofInt 64 (z:Int)&&&BitVec.ofInt 64 1).toNat:Int)=_;rw [BitVec.toNat_and,fp _ hz,show(BitVec.ofInt 64 1).toNat=1 by decide,Nat.and_one_is_mod,de (by omega)]
 by_cases h2:y+o≤x
 ·rw [if_pos h2,dF,GA,band _ (by omega)];exact⟨x- (y+o),0,by omega,by omega,by omega,by omega,by omega⟩
 ·rw [if_neg h2,dF,GA,band _ (by omega)];exact⟨x+4294967296- (y+o),1,by omega,by omega,by omega,by omega,by omega⟩
set_option maxHeartbeats 1000000 in
theorem As (w:World) (la lb:Sl) (a b:Nat) (ha:aZ w la a) (hb:aZ w lb b) (h1:(dY 4294967296 a).length≤100000) (h2:(dY 4294967296 b).length≤100000):
  CP 97 #[.agg #[la.v],.agg #[lb.v]] w fun e w'=>∃r:Sl,e= .returned (.tuple #[.agg #[r.v],.bool (decide (b≤a))])∧aZ w' r (a-b)∧Below w.heap.size w w':=by
 refine aO (Dl la.a la.n la.c lb.a lb.n lb.c w) ?_;intro w1 hw1 w2 hw2 w3 hw3;have b1:Below w.heap.size w w1:=by subst hw1;exact af _ _
 have b2:Below w1.heap.size w1 w2:=by subst hw2;exact af _ _
 have b3:Below w2.heap.size w2 w3:=by subst hw3;exact af _ _
 have z1:w1.heap.size=w.heap.size+1:=by subst hw1;exact av _ _
 have z2:w2.heap.size=w1.heap.size+1:=by subst hw2;exact av _ _
 have b13:=ae b2 b3;have b03:=ae b1 b13;have x1:w3.heap[w.heap.size]? =some (.cells #[la.v] bU (0,0)):=ag b13 (by subst hw1;exact ak _ _);have x2:w3.heap[w1.heap.size]? =some (.cells #[lb.v] bU (0,0)):=ag b3 (by subst hw2;exact ak _ _);have x3:w3.heap[w2.heap.size]? =some (.cells #[bO.v] bU (0,0)):=by subst hw3;exact ak _ _
 have hna:=ha.n;refine⟨_,_,_,aH x1,_,_,_,aH x2,(dR w3 la lb a b (ha.on b03) (hb.on b03) h1 h2).mono ?_⟩;rintro e w4 ⟨rfl,b4⟩;have b34:=b4;have b04:=ae b03 b4;refine⟨_,rfl,?_⟩;by_cases hab:a<b
 ·rw [nl hab];refine ac.yes rfl (cq (s:=bO) (ag b4 x3) fun q' hx hN' hB _ _=>⟨_,_,_,aH hx,bO,?_,?_,hB _ _ (by omega) b04⟩)
  ·rw [QZ (by omega)]
  ·rw [Nat.sub_eq_zero_of_le (by omega)];refine⟨?_,fun p hp=>by cases hp⟩;rw [ez];exact⟨rfl,fun j x hj=>(by simp at hj),.inl rfl⟩
 have hcm:¬(ku a b<0):=by
  rcases Nat.lt_or_eq_of_le (Nat.le_of_not_lt hab)with h |h
  ·rw [oI h];decide
  ·rw [qN h.symm];decide
 obtain⟨N,hN⟩:∃N,N=(dY 4294967296 a).length:=⟨_,rfl⟩;rw [←hN]at hna h1;obtain⟨w6,e6,o6,b6⟩:=mP w4 N (by omega);have b36:=ae b4 b6;refine ac.no (QZ hcm) ⟨_,_,_,ce (ag b4 x1),_,_,_,w6,by rw [hna];exact e6,_,_,_,ce (ag b36 x1),?_⟩;rw [hna];intro I hI;have key:=aU (α:=Nat×List Int×Sl×World) N (fun i y=>y.2.1.length=i∧yD 4294967296 y.2.1∧cN 4294967296 y.2.1+b%4294967296^i=a%4294967296^i+y.1*4294967296^i∧y.1≤1∧y.2.2.2.ownsRow w4.heap.size dB 1 y.2.2.1.v y.2.2.1.n (y.2.1.flatMap dW)∧Below w4.heap.size w4 y.2.2.2) (fun i y=>I [.int .i64 (i:Int),.int .u64 (y.1:Int),y.2.2.1.v] y.2.2.2) (0,[],⟨some (nb w4),0,N⟩,w6) ⟨rfl,fun x hx=>(by cases hx),by simp [cN,Nat.mod_one],Nat.zero_le _,o6,b6⟩ ?_ ?_
 ·exact key
 ·rintro i hi ih ⟨o,L,f,q⟩ ⟨hL,hin,hv,hc,ho,hq⟩;change L.length=i at hL;change yD 4294967296 L at hin;change cN 4294967296 L+b%4294967296^i=a%4294967296^i+o*4294967296^i at hv;change o≤1 at hc;change q.ownsRow w4.heap.size dB 1 f.v f.n (L.flatMap dW)at ho;change Below w4.heap.size w4 q at hq;have hfn:f.n=L.length:=(Rw.of_own ho (fun _=>rfl) (by decide)).2;have hlt:i< (dY 4294967296 a).length:=by omega
  refine hI _ _ f.a f.n f.c q (ac.yes (QY (by omega)) ?_);intro w8 hw8;have b8:Below q.heap.size q w8:=by subst hw8;exact aI q
  have hq8:=ae hq b8;have h38:=ae b34 hq8;obtain⟨p,hp,c0⟩:=aS (aZ.on ha (ae b03 h38)).r hlt rfl;rw [jW dJ hlt]at c0;refine⟨_,_,_,ce (ag h38 x1),ah.mk p hp ⟨by omega,by omega,_,c0,_,_,_,aH (ag h38 x2),(mw w8 lb b (hb.on (ae b03 h38)) i).mono ?_⟩⟩;rintro e w9 ⟨rfl,b9⟩;have hq9:=ae hq8 b9;have h39:=ae b34 hq9;obtain⟨p',hp',c0'⟩:=aS (aZ.on ha (ae b03 h39)).r hlt rfl;rw [jW dJ hlt]at c0';obtain rfl:p'=p:=by rw [hp]at hp';cases hp';rfl
  have m1:=Nat.mod_lt (a/4294967296^i) (show 0<4294967296 by decide);have m2:=Nat.mod_lt (b/4294967296^i) (show 0<4294967296 by decide);obtain⟨d,o',hd,ho',heq,ed,eo⟩:=Ef m1 m2 hc;refine⟨_,rfl,⟨c0',trivial⟩,⟨ce (ag h39 x1),trivial⟩,?_⟩;rw [de (by omega),de (by omega)];unfold Ar;dsimp only;intro w10 hw10;rw [ed]at hw10;obtain⟨f',w11,e1,e2,e3,e4,_⟩:=oe.push (aB (aB ho b8) b9) (d:Int) hw10 rfl hq9.size (by omega) (by decide);refine⟨f'.a,f'.n,f'.c,w11,e2,by decide,?_⟩;rw [eo,cZ (k:=.i64) (z:=(i:Int)+1) (by show(-9223372036854775808:Int)≤_;omega) (by show _≤(9223372036854775807:Int);omega)];exact ih (o',L++ [(d:Int)],f',w11) ⟨by rw [List.length_append];show _+1=_;omega,kB hin hd,GH hL hv heq,ho',e3,e4 _ hq9⟩
 ·rintro⟨o,L,f,q⟩ ⟨hL,hin,hv,hc,ho,hq⟩;change L.length=N at hL;change yD 4294967296 L at hin;change cN 4294967296 L+b%4294967296^N=a%4294967296^N+o*4294967296^N at hv;change q.ownsRow w4.heap.size dB 1 f.v f.n (L.flatMap dW)at ho;change Below w4.heap.size w4 q at hq;have hfn:f.n=L.length:=(Rw.of_own ho (fun _=>rfl) (by decide)).2;have hav:=(iI dJ (n:=a) (i:=N) (by omega)).2;have hbv:b%4294967296^N=b:=Nat.mod_eq_of_lt (by
   have:a<4294967296^N:=by
    rw [←hav];exact Nat.mod_lt _ (Nat.pow_pos (by decide))
   omega)
  have hd:cN 4294967296 L=a-b:=by
   have hlt:cN 4294967296 L<4294967296^N:=by
    rw [←hL];exact Jg hin
   rw [hav,hbv]at hv;have:o=0∨1≤o:=by omega
   rcases this with rfl |h
   ·omega
   ·have:4294967296^N≤o*4294967296^N:=Nat.le_mul_of_pos_left _ h;omega
  refine hI _ _ f.a f.n f.c q (ac.no (QZ (by omega)) ((fy q f _ (LsAt.of_own oe ho) (jd ho) (qI ho) hin (by omega)).mono ?_));rintro e w12 ⟨r,rfl,hR,b12⟩;rw [hd]at hR;have hB12:=ae b34 (ae hq b12);refine⟨r.a,r.n,r.c,rfl,cq (s:=r) (ag hB12 x3) fun q' hx hN' hB _ _=>⟨_,_,_,aH hx,r,?_,hN' _ _ hR,hB _ _ (by omega) (ae b03 hB12)⟩⟩;rw [QY (by omega)]
section
variable {κ:Type} [DecidableEq κ] (k:Nat→κ)
def aQ:Nat→List Nat
 |0=>[]
 |i+1=>match(aQ i).findIdx? (fun a=>decide (k a=k i))with
  |some _=>aQ i
  |none=>aQ i++ [i]
def clsOf (i:Nat):Nat:=((aQ k i).findIdx? (fun a=>decide (k a=k i))).getD (aQ k i).length
variable {k}
theorem wV (i:Nat):aQ k (i+1)=match(aQ k i).findIdx? (fun a=>decide (k a=k i))with
  |some _=>aQ k i
  |none=>aQ k i++ [i]:=rfl
theorem jf:∀ {n:Nat} {a:Nat},a∈aQ k n→a<n
 |0,a,h=>by cases h
 |n+1,a,h=>by
  unfold aQ at h;split at h
  ·have:=jf h;omega
  ·rcases List.mem_append.1 h with h |h
   ·have:=jf h;omega
   ·rw [List.mem_singleton.1 h];omega
theorem sd:∀ {n:Nat} (d:Nat),∃t,aQ k (n+d)=aQ k n++t
 |n,0=>⟨[],by simp⟩
 |n,d+1=>by
  obtain⟨t,h⟩:=sd (n:=n) d;rw [←Nat.add_assoc,aQ];split
  ·exact⟨t,h⟩
  ·exact⟨t++ [n+d],by rw [h,List.append_assoc]⟩
theorem jU:∀ {n:Nat} (c c':Nat) (h:c< (aQ k n).length) (h':c'< (aQ k n).length),k (aQ k n)[c]=k (aQ k n)[c']→c=c'
 |0,c,c',h,_,_=>absurd h (Nat.not_lt_zero c)
 |n+1,c,c',h,h',e=>by
  have key:(aQ k (n+1)=aQ k n)∨(aQ k (n+1)=aQ k n++ [n]∧∀a∈aQ k n,k a≠k n):=by
   rw [wV];split
   ·exact .inl rfl
   ·next hh=>
    refine .inr ⟨rfl,fun a ha=>?_⟩;have:=List.findIdx?_eq_none_iff.1 hh a ha;simpa using this
  rcases key with hk |⟨hk,hn⟩
  ·simp only [hk]at h h' e;exact jU c c' h h' e
  ·simp only [hk]at h h' e;rw [List.length_append,List.length_singleton]at h h';by_cases h1:c< (aQ k n).length
   ·by_cases h2:c'< (aQ k n).length
    ·rw [List.getElem_append_left h1,List.getElem_append_left h2]at e;exact jU c c' h1 h2 e
    ·have:c'=(aQ k n).length:=by omega
     subst this;rw [List.getElem_append_left h1,List.getElem_append_right (Q0 _)]at e;simp only [Nat.sub_self,List.getElem_singleton]at e;exact absurd e (hn _ (List.getElem_mem h1))
   ·have:c=(aQ k n).length:=by omega
    subst this;by_cases h2:c'< (aQ k n).length
    ·rw [List.getElem_append_left h2,List.getElem_append_right (Q0 _)]at e;simp only [Nat.sub_self,List.getElem_singleton]at e;exact absurd e.symm (hn _ (List.getElem_mem h2))
    ·omega
theorem eu (i:Nat):(∃c,(aQ k i).findIdx? (fun a=>decide (k a=k i))=some c∧aQ k (i+1)=aQ k i∧clsOf k i=c∧∃h:c< (aQ k i).length,k (aQ k i)[c]=k i)∨((aQ k i).findIdx? (fun a=>decide (k a=k i))=none∧aQ k (i+1)=aQ k i++ [i]∧clsOf k i=(aQ k i).length∧∀a∈aQ k i,k a≠k i):=by
 cases h:(aQ k i).findIdx? (fun a=>decide (k a=k i))with
 |none=>
  refine .inr ⟨rfl,by rw [aQ,h],by rw [clsOf,h];rfl,fun a ha=>?_⟩;have:=List.findIdx?_eq_none_iff.1 h a ha;simpa using this
 |some c=>
  obtain⟨h1,h2,_⟩:=List.findIdx?_eq_some_iff_getElem.1 h;exact .inl ⟨c,rfl,by rw [aQ,h],by rw [clsOf,h];rfl,h1,by simpa using h2⟩
theorem AX (i:Nat):clsOf k i≤(aQ k i).length∧(aQ k (i+1)).length=max (aQ k i).length (clsOf k i+1):=by
 rcases eu (k:=k) i with⟨c,_,h2,h3,h4,_⟩ |⟨_,h2,h3,_⟩
 ·rw [h2,h3];omega
 ·rw [h2,h3,List.length_append,List.length_singleton];omega
theorem qZ {n i:Nat} (hi:i<n):∃h:clsOf k i< (aQ k n).length,k (aQ k n)[clsOf k i]=k i:=by
 obtain⟨t,ht⟩:=sd (k:=k) (n:=i+1) (n- (i+1));rw [show i+1+(n- (i+1))=n by omega]at ht;have key:∃h:clsOf k i< (aQ k (i+1)).length,k (aQ k (i+1))[clsOf k i]=k i:=by
  rcases eu (k:=k) i with⟨c,_,h2,h3,h4,h5⟩ |⟨_,h2,h3,_⟩
  ·simp only [h2,h3];exact⟨h4,h5⟩
  ·simp only [h2,h3];exact⟨by simp,by simp⟩
 obtain⟨h1,h2⟩:=key;simp only [ht];exact⟨by rw [List.length_append];omega,by rw [List.getElem_append_left h1];exact h2⟩
theorem qJ {n i j:Nat} (hi:i<n) (hj:j<n):clsOf k i=clsOf k j↔k i=k j:=by
 obtain⟨h1,h2⟩:=qZ (k:=k) hi;obtain⟨h3,h4⟩:=qZ (k:=k) hj;constructor
 ·intro e;rw [←h2, ←h4];simp only [e]
 ·intro e;exact jU _ _ h1 h3 (by rw [h2,h4,e])
end
open Go Go.Value
theorem uK (z:Nat):IntKind.wrap .u8 (z:Int)=(((UInt8.ofNat z).toNat:Nat):Int):=by
 rw [UInt8.toNat_ofNat'];unfold IntKind.wrap;rw [if_neg (by rw [show IntKind.u8.signed=false from rfl,Bool.false_and];exact Bool.false_ne_true)];rfl
theorem yJ (w:World) (n:Nat) (hn:n≤1000000):(Instr.makeSlice ue (.int .i64 n) (.int .i64 n)).run Tryz.prog w= .ok (.slice (some (nb w)) n n) (w.alloc (.cells (Array.replicate n (.int .u32 0)) dB)):=by
 obtain⟨i,hi,hz,hs,hb⟩:=info_parts vz;have:=Go.run_make (P:=Tryz.prog) w ue dB i (.int .u32 0) vS hi hz .i64 .i64 (n:Int) (n:Int) (by omega) (Int.le_refl _) (by rw [hb];omega) (by omega);rw [this];congr 3;rw [hs];apply Array.ext
 ·rw [size_madeCells];simp
 ·intro j h1 h2;simp only [madeCells,Array.getElem_map,Array.getElem_range,Array.getElem_replicate];show(#[Value.int .u32 0]:Array Value)[j%1]! =_;rw [Nat.mod_one];rfl
theorem LZ {x y:Nat} (hx:x<4294967296) (hy:y<4294967296):IntKind.wrap .u64 ((BitVec.ofInt (IntKind.bits .u64) (IntKind.wrap .u64 ((x:Int)*2^(min (32:Int).toNat (IntKind.bits .u64))))|||BitVec.ofInt (IntKind.bits .u64) (IntKind.wrap .u64 (y:Int))).toNat:Int)=((x*4294967296+y:Nat):Int):=by
 have h1:(x:Int)*2^(min (32:Int).toNat (IntKind.bits .u64))=((x*4294967296:Nat):Int):=by
  rw [show(2:Int)^(min (32:Int).toNat (IntKind.bits .u64))=4294967296 by decide];omega
 have hxb:x*4294967296<18446744073709551616:=by omega
 have hz:x*4294967296+y<18446744073709551616:=by
  have h1:=Nat.add_lt_add_left hy (x*4294967296);rw [←Nat.succ_mul]at h1;exact Nat.lt_of_lt_of_le h1 (Nat.mul_le_mul_right 4294967296 hx)
 rw [h1,de hxb,de (x:=y) (by omega)];show IntKind.wrap .u64 ((BitVec.ofInt 64 ((x*4294967296:Nat):Int)|||BitVec.ofInt 64 (y:Int)).toNat:Int)=_;rw [BitVec.toNat_or,fp _ hxb,fp _ (by omega)];have gen:∀B:Nat,B=2^32→∀x y:Nat,y<B→x*B|||y=x*B+y:=by
  intro B hB x y hy;subst hB;rw [Nat.mul_comm x];exact(Nat.two_pow_add_eq_or_of_lt hy x).symm
 have h2:x*4294967296|||y=x*4294967296+y:=gen _ (by decide) x y hy;rw [h2];exact de hz
set_option maxHeartbeats 1000000 in
theorem tc (w:World) (la:Sl) (a m:Nat) (ha:aZ w la a) (hm:m<4294967296) (h0:0<m) (h1:(dY 4294967296 a).length≤100000):
  CP 87 #[.agg #[la.v],.int .u32 (m:Int)] w fun e w'=>∃r:Sl,e= .returned (.tuple #[.agg #[r.v],.int .u32 ((a%m:Nat):Int)])∧aZ w' r (a/m)∧Below w.heap.size w w':=by
 refine aO (BJ la.a la.n la.c (m:Int) w) ?_;intro w1 hw1 w2 hw2;have b1:Below w.heap.size w w1:=by subst hw1;exact af _ _
 have b2:Below w1.heap.size w1 w2:=by subst hw2;exact af _ _
 have z1:w1.heap.size=w.heap.size+1:=by subst hw1;exact av _ _
 have b02:=ae b1 b2;have x1:w2.heap[w.heap.size]? =some (.cells #[la.v] bU (0,0)):=ag b2 (by subst hw1;exact ak _ _);have x2:w2.heap[w1.heap.size]? =some (.cells #[bO.v] bU (0,0)):=by subst hw2;exact ak _ _
 have hna:=ha.n;obtain⟨N,hN⟩:∃N,N=(dY 4294967296 a).length:=⟨_,rfl⟩;rw [←hN]at hna h1;have b4:=af w2 (.cells (Array.replicate N (.int .u32 0)) dB);have o4:(w2.alloc (.cells (Array.replicate N (.int .u32 0)) dB)).ownsRow w2.heap.size dB 1 (.slice (some (nb w2)) N N) N ((List.replicate N (0:Int)).flatMap dW):=by
  have:=gC (w:=w2) (e:=dB) (n:=N) (List.replicate N (Value.int .u32 0)) (by simp) (by omega) (Q0 w2.heap.size);have e:(List.replicate N (0:Int)).flatMap dW=List.replicate N (Value.int .u32 0):=by
   clear this hN hna h1 b4;induction N with
   |zero=>rfl
   |succ M ih=>rw [List.replicate_succ,List.flatMap_cons,ih,List.replicate_succ];rfl
  rw [e];simpa using this
 obtain⟨w4,hw4⟩:∃w4,w4=w2.alloc (.cells (Array.replicate N (.int .u32 0)) dB):=⟨_,rfl⟩;rw [←hw4]at b4 o4;refine ac.no (by simp;omega) ⟨_,_,_,ce x1,_,_,_,w4,by rw [hna,hw4];exact yJ w2 N (by omega),_,_,_,ce (ag b4 x1),?_⟩;rw [hna];refine Ar.ok64 (by omega) (by omega) ?_;intro I hI;have key:∀i,i≤N→∀(rest:Nat) (L:List Int) (q:World),L.length=N→yD 4294967296 L→(∀(j:Nat) (hj:j<L.length),j<i→L[j]=0)→cN 4294967296 (L.drop i)*m+rest=a/4294967296^i→rest<m→q.ownsRow w2.heap.size dB 1 (.slice (some (nb w2)) N N) N (L.flatMap dW)→Below w2.heap.size w2 q→I [.int .i64 ((i:Int)-1),.int .u64 (rest:Int)] q:=by
  intro i;induction i with
  |zero=>
   intro _ rest L q hL hin hz hv hr ho hq;rw [List.drop_zero,Nat.pow_zero,Nat.div_one]at hv;refine hI _ _ q (ac.no rfl ((fy q ⟨some (nb w2),N,N⟩ L (LsAt.of_own oe ho) (jd (l:=⟨some (nb w2),N,N⟩) ho) (Q0 _) hin (by omega)).mono ?_));rintro e w7 ⟨r,rfl,hR,b7⟩;have hB7:=ae hq b7;refine⟨r.a,r.n,r.c,rfl,cq (s:=r) (ag hB7 x2) fun q' hx hN' hB _ _=>⟨_,_,_,aH hx,r,?_,hN' _ _ ?_,hB _ _ (by omega) (ae b02 hB7)⟩⟩
   ·have e1:a%m=rest:=by rw [←hv,Nat.mul_comm,Nat.mul_add_mod,Nat.mod_eq_of_lt hr]
    rw [e1,dF,Nat.mod_eq_of_lt (by omega)]
   ·have e2:a/m=cN 4294967296 L:=by rw [←hv,Nat.mul_comm,Nat.mul_add_div h0,Nat.div_eq_of_lt hr,Nat.add_zero]
    rw [e2];exact hR
  |succ i ih=>
   intro hle rest L q hL hin hz hv hr ho hq;rw [show((i+1:Nat):Int)-1=(i:Int) by omega];have hlt:i< (dY 4294967296 a).length:=by omega
   obtain⟨p,hp,c0⟩:=aS (aZ.on ha (ae b02 hq)).r hlt rfl;rw [jW dJ hlt]at c0;have m1:=Nat.mod_lt (a/4294967296^i) (show 0<4294967296 by decide);obtain⟨s,hs⟩:∃s,s=rest*4294967296+a/4294967296^i%4294967296:=⟨_,rfl⟩;obtain⟨q1,q2,q3⟩:=ER (b:=4294967296) dJ h0 hv hr hs;have hsb:s<18446744073709551616:=by omega
   refine hI _ _ q (ac.yes (QY (by omega)) ⟨by decide,_,_,_,ce (ag hq x1),ah.mk p hp ⟨by omega,by omega,_,c0,by rw [de (by omega)];omega,ah.mk _ rfl ⟨by omega,by omega,?_⟩⟩⟩);rw [LZ (by omega) m1, ←hs,de (show m<18446744073709551616 by omega)];have ed:Int.tdiv (s:Int) (m:Int)=((s/m:Nat):Int):=rfl;have em:Int.tmod (s:Int) (m:Int)=((s%m:Nat):Int):=rfl;rw [ed,em,de (Nat.lt_trans q3 (by decide)),dF,Nat.mod_eq_of_lt q3];have hst:=iR (enc:=dW) (fun _=>rfl) (by decide) (fun y u hu=>by rw [List.mem_singleton.1 hu];rfl) (l:=⟨some (nb w2),N,N⟩) ho hL.symm rfl i (by omega) ((s/m:Nat):Int) (k:=fun w6=>((m:Nat):Int)≠0∧Ar .i64 ((i:Int)-1) fun n_14=>I [Value.int .i64 n_14,Value.int .u64 ((s%m:Nat):Int)] w6) (fun w6 h6 hs6 hz6 hB6=>⟨by omega,Ar.ok64 (by omega) (by omega) (ih (by omega) (s%m) (L.set i ((s/m:Nat):Int)) w6 (by rw [List.length_set];exact hL) ?_ ?_ ?_ q2 h6 (hB6 _ _ (Q0 _) hq))⟩)
   ·exact dS hst
   ·intro x hx;rcases List.mem_or_eq_of_mem_set hx with hx |rfl
    ·exact hin x hx
    ·exact⟨Int.natCast_nonneg _,Int.ofNat_lt.2 q3⟩
   ·intro j hj hji;rw [List.length_set]at hj;rw [List.getElem_set_ne (by omega)];exact hz j hj (by omega)
   ·rw [←q1];congr 2;have e:(L.set i ((s/m:Nat):Int)).drop i=((s/m:Nat):Int)::L.drop (i+1):=by
     rw [List.drop_set,if_neg (by omega),Nat.sub_self,List.drop_eq_getElem_cons (show i<L.length by omega),List.set_cons_zero]
    rw [e];show(((s/m:Nat):Int)).toNat+_=_;rw [Int.toNat_natCast,Nat.add_comm]
 have hz:=iI dJ (n:=a) (i:=N) (by omega);refine key N (Q0 _) 0 (List.replicate N 0) w4 (by simp) ?_ ?_ ?_ h0 o4 b4
 ·intro x hx;rw [List.eq_of_mem_replicate hx];decide
 ·intro j hj _;simp
 ·rw [List.drop_of_length_le (by simp),hz.1];simp [cN]
def oS (xs:List UInt8) (i:Nat):List UInt8:=(List.range xs.length).map fun k=>if k<i∨xs.length-i≤k then xs.getD (xs.length-1-k) 0 else xs.getD k 0
theorem cA (xs:List UInt8) (i:Nat):(oS xs i).length=xs.length:=by simp [oS]
theorem je (xs:List UInt8) (i:Nat) {k:Nat} (hk:k< (oS xs i).length):(oS xs i)[k]=if k<i∨xs.length-i≤k then xs.getD (xs.length-1-k) 0 else xs.getD k 0:=by simp [oS]
theorem EB (xs:List UInt8):oS xs 0=xs:=by
 apply List.ext_getElem
 ·exact cA xs 0
 ·intro k h1 h2;rw [je,if_neg (by omega)];simp [List.getD,h2]
theorem uI {xs:List UInt8} {i:Nat} (h:xs.length≤2*i+1) (hi:i≤xs.length):oS xs i=xs.reverse:=by
 apply List.ext_getElem
 ·rw [cA,List.length_reverse]
 ·intro k h1 h2;rw [List.length_reverse]at h2;rw [je,List.getElem_reverse];by_cases hk:k<i∨xs.length-i≤k
  ·rw [if_pos hk];simp [List.getD,show xs.length-1-k<xs.length by omega]
  ·rw [if_neg hk];have:xs.length-1-k=k:=by omega
   simp [List.getD,h2,this]
theorem ET {xs:List UInt8} {i:Nat} (h:2*i+1<xs.length):((oS xs i).set i (xs.getD (xs.length-1-i) 0)).set (xs.length-1-i) (xs.getD i 0)=oS xs (i+1):=by
 apply List.ext_getElem
 ·rw [List.length_set,List.length_set,cA,cA]
 ·intro k h1 h2;rw [cA]at h2;rw [List.getElem_set,List.getElem_set,je,je];by_cases e1:xs.length-1-i=k
  ·rw [if_pos e1,if_pos (by omega)];congr 1;omega
  ·rw [if_neg e1];by_cases e2:i=k
   ·rw [if_pos e2,if_pos (by omega)];congr 1;omega
   ·rw [if_neg e2];by_cases hk:k<i∨xs.length-i≤k
    ·rw [if_pos hk,if_pos (by omega)]
    ·rw [if_neg hk,if_neg (by omega)]
theorem tC (w0 w:World) (B:Nat) (hB0:Below B w0 w) (l:Sl) (xs:List UInt8) (ho:w.ownsRow B qF 1 l.v l.n (xs.flatMap fU)) (hl:xs.length≤1000000):
  CP 88 #[l.v] w fun e w'=>e= .returned (.tuple #[])∧w'.ownsRow B qF 1 l.v l.n (xs.reverse.flatMap fU)∧Below B w0 w':=by
 refine aO (CO l.a l.n l.c w) ?_;have hn:l.n=xs.length:=(Rw.of_own ho (fun _=>rfl) (by decide)).2;rw [hn]at ho⊢;refine Ar.ok64 (by omega) (by omega) ?_;intro I hI;have key:∀(d i:Nat) (q:World),xs.length-2*i≤d→i≤xs.length→q.ownsRow B qF 1 l.v xs.length ((oS xs i).flatMap fU)→Below B w0 q→I [.int .i64 ((xs.length:Int)-1- (i:Int)),.int .i64 (i:Int)] q:=by
  intro d;induction d with
  |zero=>
   intro i q hd hi ho hq;refine hI _ _ q (ac.no (QZ (by omega)) ⟨rfl,?_,hq⟩);rw [uI (by omega) hi]at ho;exact ho
  |succ d ih=>
   intro i q hd hi ho hq;by_cases hlt:(i:Int) < (xs.length:Int)-1- (i:Int)
   ·have hj:xs.length-1-i<xs.length:=by omega
    refine hI _ _ q (ac.yes (QY hlt) ?_);intro w2 hw2;have b2:Below q.heap.size q w2:=by subst hw2;exact aI q
    have hq2:Below B w0 w2:=by subst hw2;exact hq.drew
    have ho2:=aB ho b2;have ho2':w2.ownsRow B qF 1 (Sl.v ⟨l.a,xs.length,l.c⟩) (Sl.n ⟨l.a,xs.length,l.c⟩) ((oS xs i).flatMap fU):=by
     have:Sl.v ⟨l.a,xs.length,l.c⟩=l.v:=by rw [←hn]
     rw [this];exact ho2
    have hr:=(Rw.of_own ho2' (fun _=>rfl) (by decide)).1;have gi:(oS xs i)[i]'(by rw [cA];omega)=xs.getD i 0:=by rw [je,if_neg (by omega)]
    have gj:(oS xs i)[xs.length-1-i]'(by rw [cA];omega)=xs.getD (xs.length-1-i) 0:=by rw [je,if_neg (by omega)]
    obtain⟨p,hp,ci⟩:=aS hr (i:=i) (by rw [cA];omega) rfl;obtain⟨p2,hp2,cj⟩:=aS hr (i:=xs.length-1-i) (by rw [cA];omega) rfl;rw [gi]at ci;rw [gj]at cj;have hp:l.a=some p:=hp;obtain rfl:p2=p:=by rw [show l.a=some p2 from hp2]at hp;cases hp;rfl
    have ej:(xs.length:Int)-1- (i:Int)=((xs.length-1-i:Nat):Int):=by omega
    rw [ej];refine ah.mk p2 hp ⟨by omega,by omega,_,cj,ah.mk p2 hp ⟨by omega,by omega,_,ci,ah.mk p2 hp ⟨by omega,by omega,?_⟩⟩⟩;have hst:=iR (enc:=fU) (fun _=>rfl) (by decide) (fun y u hu=>by rw [List.mem_singleton.1 hu];rfl) (l:=⟨l.a,xs.length,l.c⟩) ho2' (cA xs i).symm (a:=p2) hp i (by rw [cA];omega) (xs.getD (xs.length-1-i) 0) (k:=fun w3=>ah l.a fun pa_6=>(0:Int)≤((xs.length-1-i:Nat):Int)∧((xs.length-1-i:Nat):Int) < (xs.length:Int)∧(Value.int .u8 (((xs.getD i 0).toNat:Nat):Int)).oneCell'=true∧(∃u,w3.cell? (pa_6.add ((((xs.length-1-i:Nat):Int)).toNat*1))=some u)∧w3.frozen? (pa_6.add ((((xs.length-1-i:Nat):Int)).toNat*1))=false∧∀w4:World,w4=w3.setCell (pa_6.add ((((xs.length-1-i:Nat):Int)).toNat*1)) (Value.int .u8 (((xs.getD i 0).toNat:Nat):Int))→Ar .i64 ((i:Int)+1) fun n_7=>Ar .i64 (((xs.length-1-i:Nat):Int)-1) fun n_8=>I [Value.int .i64 n_8,Value.int .i64 n_7] w4) (fun w3 h3 hs3 hz3 hB3=>?_)
    ·exact dS hst
    ·refine ah.mk p2 hp ⟨by omega,by omega,?_⟩;have hst2:=iR (enc:=fU) (fun _=>rfl) (by decide) (fun y u hu=>by rw [List.mem_singleton.1 hu];rfl) (l:=⟨l.a,xs.length,l.c⟩) h3 (by rw [List.length_set,cA]) (a:=p2) hp (xs.length-1-i) (by rw [List.length_set,cA];omega) (xs.getD i 0) (k:=fun w4=>Ar .i64 ((i:Int)+1) fun n_7=>Ar .i64 (((xs.length-1-i:Nat):Int)-1) fun n_8=>I [Value.int .i64 n_8,Value.int .i64 n_7] w4) (fun w4 h4 hs4 hz4 hB4=>?_)
     ·exact dS hst2
     ·rw [ET (by omega)]at h4;have:Sl.v ⟨l.a,xs.length,l.c⟩=l.v:=by rw [←hn]
      rw [this]at h4;refine Ar.nat (i+1) rfl (by omega) (Ar.ok64 (by omega) (by omega) ?_);rw [show((xs.length-1-i:Nat):Int)-1=(xs.length:Int)-1- ((i+1:Nat):Int) by omega];exact ih (i+1) w4 (by omega) (by omega) h4 (hB4 _ _ (Q0 _) (hB3 _ _ (Q0 _) hq2))
   ·refine hI _ _ q (ac.no (QZ hlt) ⟨rfl,?_,hq⟩);rw [uI (by omega) hi]at ho;exact ho
 have:=key xs.length 0 w (by omega) (Nat.zero_le _) (by rw [EB];exact ho) hB0;rw [show(xs.length:Int)-1- ((0:Nat):Int)=(xs.length:Int)-1 by omega]at this;exact this
open Go Go.RowKit Go.Shelf
attribute [local go_sem] Oper.semAt_some
attribute [local go_sem] Oper.semAt_some
def Py (a:OA) (b c:Nat) (d:OA) (f g:Nat) (w:World) (R:RW):Prop:=
 ac ((b:Int) != (f:Int))
 (R (bool false) w)
 (∀h:KW,(∀(i:Int) (j:Bool) (k:World),(ac (decide (i< (b:Int)))
 (∀l,l=k.drew→
 ah a (fun m=>
 (0:Int)≤i∧i< (b:Int)∧
 ∃n,l.cell? (m.add (i.toNat*1))=some (int .i64 n)∧
 ah d (fun o=>
 (0:Int)≤i∧i< (f:Int)∧
 ∃p,l.cell? (o.add (i.toNat*1))=some (int .i64 p)∧
 ac (n != p)
 (R (bool false) l)
 (Ar .i64 (i+1) (fun q=>
 h [int .i64 q,bool j] l)))))
 (R (bool true) k))→h [int .i64 i,bool j] k)→
 h [int .i64 0,bool false] w)
theorem A_ (a:OA) (b c:Nat) (d:OA) (f g:Nat) (w:World) (R:RW) (hh:Py a b c d f g w R):CR 28 #[slice a b c,slice d f g] w R:=
 aF (fn:=Tryz.f28) (by kernel_rfl) (by kernel_rfl) (by kernel_rfl) (by kernel_rfl) (by kernel_rfl) hh
set_option linter.unusedSectionVars false
def eK {κ:Type} (kv:κ→Value) (w:World) (r:Nat) (m:List (κ×Value)):Prop:=∃es clock,w.heap[r]? =some (.map es clock)∧es.toList.map (fun x=>(x.key,x.val))=m.map (fun p=>(kv p.1,p.2))∧(∀x∈es.toList,x.born<clock)∧(es.toList.map (·.born)).Nodup
section
variable {P:Program} {kt et t:TypeId} {κ:Type} [DecidableEq κ] {kv:κ→Value}
theorem eK.is {w:World} {r:Nat} {m:List (κ×Value)} (h:eK kv w r m):bB kv w r m:=by
 obtain⟨es,c,h1,h2,h3,_⟩:=h;exact⟨es,c,h1,h2,h3⟩
theorem eK.same {w w':World} {r:Nat} {m:List (κ×Value)} (h:eK kv w r m) (hs:w'.heap[r]? =w.heap[r]?):eK kv w' r m:=by
 obtain⟨es,c,h1,h2⟩:=h;exact⟨es,c,by rw [hs];exact h1,h2⟩
theorem eK.lt {w:World} {r:Nat} {m:List (κ×Value)} (h:eK kv w r m):r<w.heap.size:=h.is.lt
theorem E6 (w:World):eK kv (w.alloc (.map #[] 0)) w.heap.size []:=⟨#[],0,ak w _,rfl,by simp,by simp⟩
theorem Eb (K:im P kt κ kv) (ht:P.underlying t=some (.map kt et)) {w:World} {r:Nat} {m:List (κ×Value)} (h:eK kv w r m) (k:κ) (v:Value) (hk:eD k m=none):
  ∃w',(Instr.mapUpdate t (.map (some r)) (kv k) v).run P w= .ok () w'∧eK kv w' r (m++ [(k,v)])∧(∀j,j≠r→w'.heap[j]? =w.heap[j]?)∧w'.heap.size=w.heap.size∧(∀B w0,B≤r→Below B w0 w→Below B w0 w'):=by
 obtain⟨es,clock,hb,hm,hst,hnd⟩:=h;have hlt:=(QV.1 hb).1;have hl:=fu k m 0;rw [hk]at hl;have hx:dH k m 0=none:=by
  cases hx:dH k m 0 with
  |none=>rfl
  |some q=>rw [hx]at hl;cases hl
 refine⟨{w with heap:=w.heap.setIfInBounds r (.map (es.push {key:=kv k,val:=v,born:=clock}) (clock+1))},?_,?_,?_,by simp,?_⟩
 ·unfold Instr.mapUpdate;simp only [Sem.run_bind,run_underlying ht,Result.andThen,ft hb,K.check,K.find k es.toList m w hm,hx];exact jv _ hb
 ·refine⟨es.push {key:=kv k,val:=v,born:=clock},clock+1,by simp [hlt],by simp [hm],fun x hx=>?_,?_⟩
  ·rw [Array.toList_push,List.mem_append,List.mem_singleton]at hx;rcases hx with hx |rfl
   ·have:=hst x hx;omega
   ·exact Nat.lt_succ_self _
  ·rw [Array.toList_push,List.map_append,List.nodup_append];refine⟨hnd,by simp,fun a ha b hb' e=>?_⟩;obtain⟨x,hx,rfl⟩:=List.mem_map.1 ha;have:=hst x hx;simp at hb';omega
 ·intro j hj;simp [Array.getElem?_setIfInBounds_ne (fun e=>hj e.symm)]
 ·intro B w0 hB h0;exact h0.trans ⟨rfl,rfl,rfl,by simp,fun j hj=>by simp [Array.getElem?_setIfInBounds_ne (show r≠j by omega)]⟩
end
section
variable (w0:World) (S:List Bs) (nd:Bs→Nat) (idf:Bs→Int) (N:Nat)
end
end Go.Proofs.YtdlcfegnaphclaaGreat.Eng
