/- Great numbers: added, multiplied, compared, taken off; walked by the engine. -/
import Derived.Test.YtdlcfegnaphclaaGreatZqGg
import Derived.Test.YtdlcfegnaphclaaGreatZqTab
import Derived.Test.YtdlcfegnaphclaaGreatZqSp
import Derived.Test.YtdlcfegnaphclaaGreatZqRj
import Derived.RangeFuncFrom
import Derived.RangeFuncCalls
import Derived.RangeFuncLeaves
import Derived.RangeFuncBox
import Derived.Shelf.Abstract
import Derived.Shelf.RegionOpen
import Derived.OwnWalkIn
import Derived.TacticsInMore
import Derived.LoopNIn
import Derived.LoopIn
import Derived.Maps.RangeRun
import Derived.Lib.SliceRun
set_option linter.unusedVariables false
set_option linter.unusedSimpArgs false
set_option maxRecDepth 100000
namespace Go.Proofs.YtdlcfegnaphclaaGreat.Eng
open Go Go.RowKit
theorem pY (w:World) (la lb:Sl) (a b:Nat) (ha:ba w la a) (hb:ba w lb b) (h1:(d' 4294967296 a).length≤100000) (h2:(d' 4294967296 b).length≤100000) (p:Addr) (C:Nat) (hp:w.cell? p=some lb.v) (hlt:p.block<w.heap.size):
  CP 40 #[.agg #[la.v],.slice (some p) 1 C] w fun e w'=>∃r:Sl,e= .returned (.agg #[r.v])∧ba w' r (a+b)∧Below w.heap.size w w':=by
 refine aO (Ce la.a la.n la.c (some p) 1 C w) ?_;intro w1 hw1 w2 hw2;have b1:Below w.heap.size w w1:=by subst hw1;exact af _ _
 have b2:Below w1.heap.size w1 w2:=by subst hw2;exact af _ _
 have z1:w1.heap.size=w.heap.size+1:=by subst hw1;exact av _ _
 have z2:w2.heap.size=w1.heap.size+1:=by subst hw2;exact av _ _
 have b02:=ae b1 b2;have x1:w2.heap[w.heap.size]? =some (.cells #[la.v] bZ (0,0)):=ag b2 (by subst hw1;exact ak _ _);have x2:w2.heap[w1.heap.size]? =some (.cells #[bS.v] bZ (0,0)):=by subst hw2;exact ak _ _
 have hcell:∀q,Below w.heap.size w q→q.cell? (p.add ((0:Int).toNat*1))=some lb.v:=by
  intro q hq;show q.cell? (p.add 0)=_;rw [ax, ←hp];unfold World.cell?;rw [hq.block _ hlt]
 intro I hI;refine hI 0 w2 (ac.yes rfl (ah.mk p rfl ⟨by omega,by omega,_,_,_,⟨hcell w2 b02,trivial⟩,?_⟩));intro w4 hw4;have b4:Below w2.heap.size w2 w4:=by subst hw4;exact af _ _
 have x4:w4.heap[w2.heap.size]? =some (.cells #[bS.v] bZ (0,0)):=by subst hw4;exact ak _ _
 refine ce (s:=lb) x4 fun w5 hx5 hN5 hB5 hs5 hz5=>?_;have b5:Below w2.heap.size w2 w5:=hB5 _ _ (Nat.le_refl _) b4;have hb5:=ae b02 b5;have y1:=ag b5 x1;refine⟨_,_,_,aJ y1,_,_,_,aJ hx5,(vI w5 la lb a b (ha.on hb5) (hb.on hb5) h1 h2).mono ?_⟩;rintro e w6 ⟨r,rfl,hR,b6⟩;have b26:=ae b5 b6;refine⟨r.a,r.n,r.c,rfl,ce (s:=r) (ag b26 x1) fun w7 hx7 hN7 hB7 hs7 hz7=>Ar.nat 1 rfl (by decide) ?_⟩;have b7:Below w.heap.size w w7:=hB7 _ _ (Nat.le_refl _) (ae b02 b26);have y2:w7.heap[w1.heap.size]? =some (.cells #[bS.v] bZ (0,0)):=(hs7 _ (by omega)).trans (ag b26 x2);refine hI 1 w7 (ac.no rfl ⟨_,_,_,aJ hx7,ce (s:=r) y2 fun w8 hx8 hN8 hB8 hs8 hz8=>⟨_,_,_,aJ hx8,r,rfl,hN8 _ _ (hN7 _ _ hR),hB8 _ _ (by omega) b7⟩⟩)
set_option maxHeartbeats 1000000 in
theorem tC (w:World) (la:Sl) (a m:Nat) (ha:ba w la a) (hm:m<4294967296) (h1:(d' 4294967296 a).length≤100000):
  CP 157 #[.agg #[la.v],.int .u32 (m:Int)] w fun e w'=>∃r:Sl,e= .returned (.agg #[r.v])∧ba w' r (a*m)∧Below w.heap.size w w':=by
 refine aO (yC la.a la.n la.c (m:Int) w) ?_;intro w1 hw1 w2 hw2;have b1:Below w.heap.size w w1:=by subst hw1;exact af _ _
 have b2:Below w1.heap.size w1 w2:=by subst hw2;exact af _ _
 have z1:w1.heap.size=w.heap.size+1:=by subst hw1;exact av _ _
 have b02:=ae b1 b2;have x1:w2.heap[w.heap.size]? =some (.cells #[la.v] bZ (0,0)):=ag b2 (by subst hw1;exact ak _ _);have x2:w2.heap[w1.heap.size]? =some (.cells #[bS.v] bZ (0,0)):=by subst hw2;exact ak _ _
 have hna:=ha.n;obtain⟨N,hN⟩:∃N,N=(d' 4294967296 a).length:=⟨_,rfl⟩;rw [←hN]at hna h1;obtain⟨w3,e3,o3,b3⟩:=mq w2 (N+1) (by omega);refine⟨_,_,_,cn x1,Ar.nat (N+1) (by rw [hna];rfl) (by omega) ⟨_,_,_,w3,e3,_,_,_,cn (ag b3 x1),?_⟩⟩;rw [hna];intro I hI;have key:=aV (α:=Nat×List Int×Sl×World) N (fun i y=>y.2.1.length=i∧th 4294967296 y.2.1∧cG 4294967296 y.2.1+y.1*4294967296^i=a%4294967296^i*m∧y.1<4294967296∧y.2.2.2.ownsRow w2.heap.size dw 1 y.2.2.1.v y.2.2.1.n (y.2.1.flatMap cR)∧Below w2.heap.size w2 y.2.2.2) (fun i y=>I [.int .i64 (i:Int),.int .u64 (y.1:Int),y.2.2.1.v] y.2.2.2) (0,[],⟨some (nb w2),0,N+1⟩,w3) ⟨rfl,fun x hx=>(by cases hx),by simp [cG,Nat.mod_one],(by show 0<4294967296;decide),o3,b3⟩ ?_ ?_
 ·exact key
 ·rintro i hi ih ⟨c,L,f,q⟩ ⟨hL,hin,hv,hc,ho,hq⟩;change L.length=i at hL;change th 4294967296 L at hin;change cG 4294967296 L+c*4294967296^i=a%4294967296^i*m at hv;change c<4294967296 at hc;change q.ownsRow w2.heap.size dw 1 f.v f.n (L.flatMap cR)at ho;change Below w2.heap.size w2 q at hq;have hfn:f.n=L.length:=(Rw.of_own ho (fun _=>rfl) (by decide)).2;have hlt:i< (d' 4294967296 a).length:=by omega
  obtain⟨p,hp,c0⟩:=aS (ba.on ha (ae b02 hq)).r hlt rfl;rw [jN dN hlt]at c0;obtain⟨x,hx⟩:∃x,x=a/4294967296^i%4294967296:=⟨_,rfl⟩;rw [←hx]at c0;have m1:x<4294967296:=by rw [hx];exact Nat.mod_lt _ (by decide)
  obtain⟨s,hs⟩:∃s,s=x*m+c:=⟨_,rfl⟩;have hxm:x*m≤4294967295*4294967295:=Nat.mul_le_mul (by omega) (by omega);refine hI _ _ f.a f.n f.c q (ac.yes (decide_eq_true (by omega)) (ah.mk p hp ⟨by omega,by omega,_,c0,Ar.u64 (x*m) (by rw [dg (by omega),dg (by omega),Int.natCast_mul]) (by omega) (Ar.u64 s (by omega) (by omega) ?_)⟩));intro w5 hw5;rw [dH]at hw5;obtain⟨f',w6,e1,e2,e3,e4,_⟩:=lB.push ho ((s%4294967296:Nat):Int) hw5 rfl hq.size (by omega) (by decide);refine⟨f'.a,f'.n,f'.c,w6,e2,by decide,Ar.nat (i+1) rfl (by omega) ?_⟩;rw [F5];exact ih (s/4294967296,L++ [((s%4294967296:Nat):Int)],f',w6) ⟨by rw [List.length_append];show _+1=_;omega,kG hin (Nat.mod_lt _ (by decide)),BZ hL hv (by rw [hs,hx]),by show s/4294967296<_;omega,e3,e4 _ hq⟩
 ·rintro⟨c,L,f,q⟩ ⟨hL,hin,hv,hc,ho,hq⟩;change L.length=N at hL;change th 4294967296 L at hin;change cG 4294967296 L+c*4294967296^N=a%4294967296^N*m at hv;change c<4294967296 at hc;change q.ownsRow w2.heap.size dw 1 f.v f.n (L.flatMap cR)at ho;change Below w2.heap.size w2 q at hq;have hfn:f.n=L.length:=(Rw.of_own ho (fun _=>rfl) (by decide)).2;refine hI _ _ f.a f.n f.c q (ac.no (decide_eq_false (by omega)) ?_);intro w7 hw7;rw [dH,Nat.mod_eq_of_lt hc]at hw7;obtain⟨f',w8,e1,e2,e3,e4,_⟩:=lB.push ho (c:Int) hw7 rfl hq.size (by omega) (by decide);have hv2:cG 4294967296 (L++ [(c:Int)])=a*m:=by
   rw [fr,kM,hL,Nat.mul_comm (4294967296^N),hv,(iw dN (n:=a) (i:=N) (by omega)).2]
  have hB8:=e4 _ hq;refine⟨f'.a,f'.n,f'.c,w8,e2,(eJ w8 f' _ (LsAt.of_own lB e3) (g_ e3) (oe e3) (kG hin hc) (by rw [List.length_append];show _+1≤_;omega)).mono ?_⟩;rintro e w9 ⟨r,rfl,hR,b9⟩;rw [hv2]at hR;have hB9:=ae hB8 b9;exact⟨r.a,r.n,r.c,rfl,ce (s:=r) (ag hB9 x2) fun q' hx hN' hB _ _=>⟨_,_,_,aJ hx,r,rfl,hN' _ _ hR,hB _ _ (by omega) (ae b02 hB9)⟩⟩
def j_ (x y:Int):Int:=if x<y then -1 else if y<x then 1 else 0
theorem Ca (x y:Int) (w:World):CP 85 #[.int .i64 x,.int .i64 y] w fun e w'=>e= .returned (.int .i64 (j_ x y))∧w'=w:=by
 have nan:∀x:Int,CP 158 #[.int .i64 x] w fun e w'=>e= .returned (.bool false)∧w'=w:=fun x=>by
  refine aO (pT x w) ?_;exact⟨by simp,rfl⟩
 refine aO (B_ x y w) ?_;refine(nan x).mono ?_;rintro e w1 ⟨rfl,rfl⟩;refine⟨_,rfl,(nan y).mono ?_⟩;rintro e w1 ⟨rfl,rfl⟩;unfold j_;refine⟨_,rfl,ac.no rfl (ac.no rfl (ac.mk (fun h=>?_) fun h=>ac.mk (fun h2=>?_) fun h2=>?_))⟩
 ·rw [if_pos (of_decide_eq_true h)];exact⟨rfl,rfl⟩
 ·rw [if_neg (of_decide_eq_false h),if_pos (of_decide_eq_true h2)];exact⟨rfl,rfl⟩
 ·rw [if_neg (of_decide_eq_false h),if_neg (of_decide_eq_false h2)];exact⟨rfl,rfl⟩
theorem CF (x y:Int) (w:World):CP 86 #[.int .u32 x,.int .u32 y] w fun e w'=>e= .returned (.int .i64 (j_ x y))∧w'=w:=by
 have nan:∀x:Int,CP 159 #[.int .u32 x] w fun e w'=>e= .returned (.bool false)∧w'=w:=fun x=>by
  refine aO (Az x w) ?_;exact⟨by simp,rfl⟩
 refine aO (Cz x y w) ?_;refine(nan x).mono ?_;rintro e w1 ⟨rfl,rfl⟩;refine⟨_,rfl,(nan y).mono ?_⟩;rintro e w1 ⟨rfl,rfl⟩;unfold j_;refine⟨_,rfl,ac.no rfl (ac.no rfl (ac.mk (fun h=>?_) fun h=>ac.mk (fun h2=>?_) fun h2=>?_))⟩
 ·rw [if_pos (of_decide_eq_true h)];exact⟨rfl,rfl⟩
 ·rw [if_neg (of_decide_eq_false h),if_pos (of_decide_eq_true h2)];exact⟨rfl,rfl⟩
 ·rw [if_neg (of_decide_eq_false h),if_neg (of_decide_eq_false h2)];exact⟨rfl,rfl⟩
theorem nU {a b:Nat} (h:a<b):j_ a b= -1:=by unfold j_;rw [if_pos (by omega)]
theorem nL {a b:Nat} (h:b<a):j_ a b=1:=by unfold j_;rw [if_neg (by omega),if_pos (by omega)]
theorem qC {a b:Nat} (h:a=b):j_ a b=0:=by unfold j_;rw [if_neg (by omega),if_neg (by omega)]
theorem da (w:World) (la lb:Sl) (a b:Nat) (ha:ba w la a) (hb:ba w lb b) (h1:(d' 4294967296 a).length≤100000) (h2:(d' 4294967296 b).length≤100000):
  CP 42 #[.agg #[la.v],.agg #[lb.v]] w fun e w'=>e= .returned (.int .i64 (j_ a b))∧Below w.heap.size w w':=by
 refine aO (BV la.a la.n la.c lb.a lb.n lb.c w) ?_;intro w1 hw1 w2 hw2;have b1:Below w.heap.size w w1:=by subst hw1;exact af _ _
 have b2:Below w1.heap.size w1 w2:=by subst hw2;exact af _ _
 have b02:=ae b1 b2;have x1:w2.heap[w.heap.size]? =some (.cells #[la.v] bZ (0,0)):=ag b2 (by subst hw1;exact ak _ _);have x2:w2.heap[w1.heap.size]? =some (.cells #[lb.v] bZ (0,0)):=by subst hw2;exact ak _ _
 have hna:=ha.n;have hnb:=hb.n;refine⟨_,_,_,cn x1,_,_,_,cn x2,(Ca _ _ w2).mono ?_⟩;rintro e w3 ⟨rfl,hw3⟩;subst w3;refine⟨_,rfl,?_⟩;rw [hna,hnb];rcases Nat.lt_trichotomy (d' 4294967296 a).length (d' 4294967296 b).length with hl |hl |hl
 ·rw [nU hl,nU (D0 dN hl)];exact ac.yes rfl ⟨rfl,b02⟩
 ·rw [qC hl];refine ac.no rfl ⟨_,_,_,cn x1,?_⟩;rw [hna];refine Ar.ok64 (by omega) (by omega) ?_;intro I hI;have key:∀n,n≤(d' 4294967296 a).length→a/4294967296^n=b/4294967296^n→∀(y:Int) (q:World),Below w2.heap.size w2 q→I [.int .i64 ((n:Int)-1),.int .i64 y] q:=by
   intro n;induction n with
   |zero=>
    intro _ he y q hq;refine hI _ y q (ac.no rfl ?_);simp only [Nat.pow_zero,Nat.div_one]at he;rw [qC he];exact⟨rfl,ae b02 hq⟩
   |succ n ih=>
    intro hn he y q hq;rw [show((n+1:Nat):Int)-1=(n:Int) by omega];refine hI _ y q (ac.yes (decide_eq_true (by omega)) ?_);intro w5 hw5;have b5:Below q.heap.size q w5:=by subst hw5;exact aK q
    have hq5:=ae hq b5;have hi1:n< (d' 4294967296 a).length:=by omega
    have hi2:n< (d' 4294967296 b).length:=by omega
    obtain⟨p,hp,c1⟩:=aS (ba.on ha (ae b02 hq5)).r hi1 rfl;obtain⟨p2,hp2,c2⟩:=aS (ba.on hb (ae b02 hq5)).r hi2 rfl;rw [jN dN hi1]at c1;rw [jN dN hi2]at c2;obtain⟨hlt,heq⟩:=AA (b:=4294967296) he;obtain⟨hgt,_⟩:=AA (b:=4294967296) he.symm;refine⟨_,_,_,cn (ag hq5 x1),ah.mk p hp ⟨by omega,by omega,_,c1,_,_,_,cn (ag hq5 x2),ah.mk p2 hp2 ⟨by omega,by omega,_,c2,(CF _ _ w5).mono ?_⟩⟩⟩;rintro e w6 ⟨rfl,hw6⟩;subst w6;refine⟨_,rfl,?_⟩;rcases Nat.lt_trichotomy (a/4294967296^n%4294967296) (b/4294967296^n%4294967296)with h |h |h
    ·rw [nU h,nU (hlt h)];exact ac.yes rfl ⟨rfl,ae b02 hq5⟩
    ·rw [qC h];exact ac.no rfl (Ar.ok64 (by omega) (by omega) (ih (by omega) (heq h) y w5 hq5))
    ·rw [nL h,nL (hgt h)];exact ac.yes rfl ⟨rfl,ae b02 hq5⟩
  refine key _ (Nat.le_refl _) ?_ 0 w2 (Below.refl _ _);rw [(iw dN (n:=a) (Nat.le_refl _)).1,hl,(iw dN (n:=b) (Nat.le_refl _)).1]
 ·rw [nL hl,nL (D0 dN hl)];exact ac.yes rfl ⟨rfl,b02⟩
theorem md (z:Int) (h1: -18446744073709551616≤z) (h2:z<18446744073709551616):IntKind.wrap .u64 z=if z<0 then z+18446744073709551616 else z:=by
 simp only [IntKind.wrap,IntKind.bits,IntKind.signed,Bool.false_and,Bool.false_eq_true,if_false];rw [show(2:Int)^64=18446744073709551616 by decide];split<;>omega
theorem En {x y o:Nat} (hx:x<4294967296) (hy:y<4294967296) (ho:o≤1):
  ∃d o':Nat,d<4294967296∧o'≤1∧d+(y+o)=x+o'*4294967296∧IntKind.wrap .u32 (IntKind.wrap .u64 (IntKind.wrap .u64 ((x:Int)- (y:Int))- (o:Int)))=(d:Int)∧
   IntKind.wrap .u64 ((BitVec.ofInt (IntKind.bits .u64) (Int.fdiv (IntKind.wrap .u64 (IntKind.wrap .u64 ((x:Int)- (y:Int))- (o:Int))) (2^(min (32:Int).toNat (IntKind.bits .u64))))&&&BitVec.ofInt (IntKind.bits .u64) 1).toNat:Int)=(o':Int):=by
 have hw:IntKind.wrap .u64 (IntKind.wrap .u64 ((x:Int)- (y:Int))- (o:Int))=(((if y+o≤x then x- (y+o)else x+18446744073709551616- (y+o)):Nat):Int):=by
  rw [md ((x:Int)- (y:Int)) (by omega) (by omega)];by_cases h:(x:Int)- (y:Int) <0
  ·rw [if_pos h,md _ (by omega) (by omega),if_neg (by omega),if_neg (by omega)];omega
  ·rw [if_neg h,md _ (by omega) (by omega)];by_cases h2:y+o≤x
   ·rw [if_neg (by omega),if_pos h2];omega
   ·rw [if_pos (by omega),if_neg h2];omega
 rw [hw];have band:∀z:Nat,z<18446744073709551616→IntKind.wrap .u64 ((BitVec.ofInt (IntKind.bits .u64) (z:Int)&&&BitVec.ofInt (IntKind.bits .u64) 1).toNat:Int)=((z%2:Nat):Int):=by
  intro z hz;show IntKind.wrap .u64 ((BitVec.ofInt 64 (z:Int)&&&BitVec.ofInt 64 1).toNat:Int)=_;rw [BitVec.toNat_and,fg _ hz,show(BitVec.ofInt 64 1).toNat=1 by decide,Nat.and_one_is_mod,dg (by omega)]
 by_cases h2:y+o≤x
 ·rw [if_pos h2,dH,F5,band _ (by omega)];exact⟨x- (y+o),0,by omega,by omega,by omega,by omega,by omega⟩
 ·rw [if_neg h2,dH,F5,band _ (by omega)];exact⟨x+4294967296- (y+o),1,by omega,by omega,by omega,by omega,by omega⟩
set_option maxHeartbeats 1000000 in
theorem AD (w:World) (la lb:Sl) (a b:Nat) (ha:ba w la a) (hb:ba w lb b) (h1:(d' 4294967296 a).length≤100000) (h2:(d' 4294967296 b).length≤100000):
  CP 97 #[.agg #[la.v],.agg #[lb.v]] w fun e w'=>∃r:Sl,e= .returned (.tuple #[.agg #[r.v],.bool (decide (b≤a))])∧ba w' r (a-b)∧Below w.heap.size w w':=by
 refine aO (B3 la.a la.n la.c lb.a lb.n lb.c w) ?_;intro w1 hw1 w2 hw2 w3 hw3;have b1:Below w.heap.size w w1:=by subst hw1;exact af _ _
 have b2:Below w1.heap.size w1 w2:=by subst hw2;exact af _ _
 have b3:Below w2.heap.size w2 w3:=by subst hw3;exact af _ _
 have z1:w1.heap.size=w.heap.size+1:=by subst hw1;exact av _ _
 have z2:w2.heap.size=w1.heap.size+1:=by subst hw2;exact av _ _
 have b13:=ae b2 b3;have b03:=ae b1 b13;have x1:w3.heap[w.heap.size]? =some (.cells #[la.v] bZ (0,0)):=ag b13 (by subst hw1;exact ak _ _);have x2:w3.heap[w1.heap.size]? =some (.cells #[lb.v] bZ (0,0)):=ag b3 (by subst hw2;exact ak _ _);have x3:w3.heap[w2.heap.size]? =some (.cells #[bS.v] bZ (0,0)):=by subst hw3;exact ak _ _
 have hna:=ha.n;refine⟨_,_,_,aJ x1,_,_,_,aJ x2,(da w3 la lb a b (ha.on b03) (hb.on b03) h1 h2).mono ?_⟩;rintro e w4 ⟨rfl,b4⟩;have b34:=b4;have b04:=ae b03 b4;refine⟨_,rfl,?_⟩;by_cases hab:a<b
 ·rw [nU hab];refine ac.yes rfl (ce (s:=bS) (ag b4 x3) fun q' hx hN' hB _ _=>⟨_,_,_,aJ hx,bS,?_,?_,hB _ _ (by omega) b04⟩)
  ·rw [decide_eq_false (by omega)]
  ·rw [Nat.sub_eq_zero_of_le (by omega)];refine⟨?_,fun p hp=>by cases hp⟩;rw [eC];exact⟨rfl,fun j x hj=>(by simp at hj),.inl rfl⟩
 have hcm:¬(j_ a b<0):=by
  rcases Nat.lt_or_eq_of_le (Nat.le_of_not_lt hab)with h |h
  ·rw [nL h];decide
  ·rw [qC h.symm];decide
 obtain⟨N,hN⟩:∃N,N=(d' 4294967296 a).length:=⟨_,rfl⟩;rw [←hN]at hna h1;obtain⟨w6,e6,o6,b6⟩:=mq w4 N (by omega);have b36:=ae b4 b6;refine ac.no (decide_eq_false hcm) ⟨_,_,_,cn (ag b4 x1),_,_,_,w6,by rw [hna];exact e6,_,_,_,cn (ag b36 x1),?_⟩;rw [hna];intro I hI;have key:=aV (α:=Nat×List Int×Sl×World) N (fun i y=>y.2.1.length=i∧th 4294967296 y.2.1∧cG 4294967296 y.2.1+b%4294967296^i=a%4294967296^i+y.1*4294967296^i∧y.1≤1∧y.2.2.2.ownsRow w4.heap.size dw 1 y.2.2.1.v y.2.2.1.n (y.2.1.flatMap cR)∧Below w4.heap.size w4 y.2.2.2) (fun i y=>I [.int .i64 (i:Int),.int .u64 (y.1:Int),y.2.2.1.v] y.2.2.2) (0,[],⟨some (nb w4),0,N⟩,w6) ⟨rfl,fun x hx=>(by cases hx),by simp [cG,Nat.mod_one],Nat.zero_le _,o6,b6⟩ ?_ ?_
 ·exact key
 ·rintro i hi ih ⟨o,L,f,q⟩ ⟨hL,hin,hv,hc,ho,hq⟩;change L.length=i at hL;change th 4294967296 L at hin;change cG 4294967296 L+b%4294967296^i=a%4294967296^i+o*4294967296^i at hv;change o≤1 at hc;change q.ownsRow w4.heap.size dw 1 f.v f.n (L.flatMap cR)at ho;change Below w4.heap.size w4 q at hq;have hfn:f.n=L.length:=(Rw.of_own ho (fun _=>rfl) (by decide)).2;have hlt:i< (d' 4294967296 a).length:=by omega
  refine hI _ _ f.a f.n f.c q (ac.yes (decide_eq_true (by omega)) ?_);intro w8 hw8;have b8:Below q.heap.size q w8:=by subst hw8;exact aK q
  have hq8:=ae hq b8;have h38:=ae b34 hq8;obtain⟨p,hp,c0⟩:=aS (ba.on ha (ae b03 h38)).r hlt rfl;rw [jN dN hlt]at c0;refine⟨_,_,_,cn (ag h38 x1),ah.mk p hp ⟨by omega,by omega,_,c0,_,_,_,aJ (ag h38 x2),(mf w8 lb b (hb.on (ae b03 h38)) i).mono ?_⟩⟩;rintro e w9 ⟨rfl,b9⟩;have hq9:=ae hq8 b9;have h39:=ae b34 hq9;obtain⟨p',hp',c0'⟩:=aS (ba.on ha (ae b03 h39)).r hlt rfl;rw [jN dN hlt]at c0';obtain rfl:p'=p:=by rw [hp]at hp';cases hp';rfl
  have m1:=Nat.mod_lt (a/4294967296^i) (show 0<4294967296 by decide);have m2:=Nat.mod_lt (b/4294967296^i) (show 0<4294967296 by decide);obtain⟨d,o',hd,ho',heq,ed,eo⟩:=En m1 m2 hc;refine⟨_,rfl,⟨c0',trivial⟩,⟨cn (ag h39 x1),trivial⟩,?_⟩;rw [dg (by omega),dg (by omega)];unfold Ar;dsimp only;intro w10 hw10;rw [ed]at hw10;obtain⟨f',w11,e1,e2,e3,e4,_⟩:=lB.push (aA (aA ho b8) b9) (d:Int) hw10 rfl hq9.size (by omega) (by decide);refine⟨f'.a,f'.n,f'.c,w11,e2,by decide,?_⟩;rw [eo,dc (k:=.i64) (z:=(i:Int)+1) (by show(-9223372036854775808:Int)≤_;omega) (by show _≤(9223372036854775807:Int);omega)];exact ih (o',L++ [(d:Int)],f',w11) ⟨by rw [List.length_append];show _+1=_;omega,kG hin hd,Gi hL hv heq,ho',e3,e4 _ hq9⟩
 ·rintro⟨o,L,f,q⟩ ⟨hL,hin,hv,hc,ho,hq⟩;change L.length=N at hL;change th 4294967296 L at hin;change cG 4294967296 L+b%4294967296^N=a%4294967296^N+o*4294967296^N at hv;change q.ownsRow w4.heap.size dw 1 f.v f.n (L.flatMap cR)at ho;change Below w4.heap.size w4 q at hq;have hfn:f.n=L.length:=(Rw.of_own ho (fun _=>rfl) (by decide)).2;have hav:=(iw dN (n:=a) (i:=N) (by omega)).2;have hbv:b%4294967296^N=b:=Nat.mod_eq_of_lt (by
   have:a<4294967296^N:=by
    rw [←hav];exact Nat.mod_lt _ (Nat.pow_pos (by decide))
   omega)
  have hd:cG 4294967296 L=a-b:=by
   have hlt:cG 4294967296 L<4294967296^N:=by
    rw [←hL];exact DG hin
   rw [hav,hbv]at hv;have:o=0∨1≤o:=by omega
   rcases this with rfl |h
   ·omega
   ·have:4294967296^N≤o*4294967296^N:=Nat.le_mul_of_pos_left _ h;omega
  refine hI _ _ f.a f.n f.c q (ac.no (decide_eq_false (by omega)) ((eJ q f _ (LsAt.of_own lB ho) (g_ ho) (oe ho) hin (by omega)).mono ?_));rintro e w12 ⟨r,rfl,hR,b12⟩;rw [hd]at hR;have hB12:=ae b34 (ae hq b12);refine⟨r.a,r.n,r.c,rfl,ce (s:=r) (ag hB12 x3) fun q' hx hN' hB _ _=>⟨_,_,_,aJ hx,r,?_,hN' _ _ hR,hB _ _ (by omega) (ae b03 hB12)⟩⟩;rw [decide_eq_true (by omega)]
section
variable {κ:Type} [DecidableEq κ] (k:Nat→κ)
def aP:Nat→List Nat
 |0=>[]
 |i+1=>match(aP i).findIdx? (fun a=>decide (k a=k i))with
  |some _=>aP i
  |none=>aP i++ [i]
def clsOf (i:Nat):Nat:=((aP k i).findIdx? (fun a=>decide (k a=k i))).getD (aP k i).length
variable {k}
theorem yH (i:Nat):aP k (i+1)=match(aP k i).findIdx? (fun a=>decide (k a=k i))with
  |some _=>aP k i
  |none=>aP k i++ [i]:=rfl
theorem jd:∀ {n:Nat} {a:Nat},a∈aP k n→a<n
 |0,a,h=>by cases h
 |n+1,a,h=>by
  unfold aP at h;split at h
  ·have:=jd h;omega
  ·rcases List.mem_append.1 h with h |h
   ·have:=jd h;omega
   ·rw [List.mem_singleton.1 h];omega
theorem rt:∀ {n:Nat} (d:Nat),∃t,aP k (n+d)=aP k n++t
 |n,0=>⟨[],by simp⟩
 |n,d+1=>by
  obtain⟨t,h⟩:=rt (n:=n) d;rw [←Nat.add_assoc,aP];split
  ·exact⟨t,h⟩
  ·exact⟨t++ [n+d],by rw [h,List.append_assoc]⟩
theorem jD:∀ {n:Nat} (c c':Nat) (h:c< (aP k n).length) (h':c'< (aP k n).length),k (aP k n)[c]=k (aP k n)[c']→c=c'
 |0,c,c',h,_,_=>absurd h (Nat.not_lt_zero c)
 |n+1,c,c',h,h',e=>by
  have key:(aP k (n+1)=aP k n)∨(aP k (n+1)=aP k n++ [n]∧∀a∈aP k n,k a≠k n):=by
   rw [yH];split
   ·exact .inl rfl
   ·next hh=>
    refine .inr ⟨rfl,fun a ha=>?_⟩;have:=List.findIdx?_eq_none_iff.1 hh a ha;simpa using this
  rcases key with hk |⟨hk,hn⟩
  ·simp only [hk]at h h' e;exact jD c c' h h' e
  ·simp only [hk]at h h' e;rw [List.length_append,List.length_singleton]at h h';by_cases h1:c< (aP k n).length
   ·by_cases h2:c'< (aP k n).length
    ·rw [List.getElem_append_left h1,List.getElem_append_left h2]at e;exact jD c c' h1 h2 e
    ·have:c'=(aP k n).length:=by omega
     subst this;rw [List.getElem_append_left h1,List.getElem_append_right (Nat.le_refl _)]at e;simp only [Nat.sub_self,List.getElem_singleton]at e;exact absurd e (hn _ (List.getElem_mem h1))
   ·have:c=(aP k n).length:=by omega
    subst this;by_cases h2:c'< (aP k n).length
    ·rw [List.getElem_append_left h2,List.getElem_append_right (Nat.le_refl _)]at e;simp only [Nat.sub_self,List.getElem_singleton]at e;exact absurd e.symm (hn _ (List.getElem_mem h2))
    ·omega
theorem eA (i:Nat):(∃c,(aP k i).findIdx? (fun a=>decide (k a=k i))=some c∧aP k (i+1)=aP k i∧clsOf k i=c∧∃h:c< (aP k i).length,k (aP k i)[c]=k i)∨((aP k i).findIdx? (fun a=>decide (k a=k i))=none∧aP k (i+1)=aP k i++ [i]∧clsOf k i=(aP k i).length∧∀a∈aP k i,k a≠k i):=by
 cases h:(aP k i).findIdx? (fun a=>decide (k a=k i))with
 |none=>
  refine .inr ⟨rfl,by rw [aP,h],by rw [clsOf,h];rfl,fun a ha=>?_⟩;have:=List.findIdx?_eq_none_iff.1 h a ha;simpa using this
 |some c=>
  obtain⟨h1,h2,_⟩:=List.findIdx?_eq_some_iff_getElem.1 h;exact .inl ⟨c,rfl,by rw [aP,h],by rw [clsOf,h];rfl,h1,by simpa using h2⟩
theorem zX (i:Nat):clsOf k i≤(aP k i).length∧(aP k (i+1)).length=max (aP k i).length (clsOf k i+1):=by
 rcases eA (k:=k) i with⟨c,_,h2,h3,h4,_⟩ |⟨_,h2,h3,_⟩
 ·rw [h2,h3];omega
 ·rw [h2,h3,List.length_append,List.length_singleton];omega
theorem rJ {n i:Nat} (hi:i<n):∃h:clsOf k i< (aP k n).length,k (aP k n)[clsOf k i]=k i:=by
 obtain⟨t,ht⟩:=rt (k:=k) (n:=i+1) (n- (i+1));rw [show i+1+(n- (i+1))=n by omega]at ht;have key:∃h:clsOf k i< (aP k (i+1)).length,k (aP k (i+1))[clsOf k i]=k i:=by
  rcases eA (k:=k) i with⟨c,_,h2,h3,h4,h5⟩ |⟨_,h2,h3,_⟩
  ·simp only [h2,h3];exact⟨h4,h5⟩
  ·simp only [h2,h3];exact⟨by simp,by simp⟩
 obtain⟨h1,h2⟩:=key;simp only [ht];exact⟨by rw [List.length_append];omega,by rw [List.getElem_append_left h1];exact h2⟩
theorem qR {n i j:Nat} (hi:i<n) (hj:j<n):clsOf k i=clsOf k j↔k i=k j:=by
 obtain⟨h1,h2⟩:=rJ (k:=k) hi;obtain⟨h3,h4⟩:=rJ (k:=k) hj;constructor
 ·intro e;rw [←h2, ←h4];simp only [e]
 ·intro e;exact jD _ _ h1 h3 (by rw [h2,h4,e])
end
open Go Go.Value
theorem vh (z:Nat):IntKind.wrap .u8 (z:Int)=(((UInt8.ofNat z).toNat:Nat):Int):=by
 rw [UInt8.toNat_ofNat'];unfold IntKind.wrap;rw [if_neg (by rw [show IntKind.u8.signed=false from rfl,Bool.false_and];exact Bool.false_ne_true)];rfl
theorem wn (w:World) (n:Nat) (hn:n≤1000000):(Instr.makeSlice pS (.int .i64 n) (.int .i64 n)).run Tryz.prog w= .ok (.slice (some (nb w)) n n) (w.alloc (.cells (Array.replicate n (.int .u32 0)) dw)):=by
 obtain⟨i,hi,hz,hs,hb⟩:=info_parts qS;have:=Go.run_make (P:=Tryz.prog) w pS dw i (.int .u32 0) ox hi hz .i64 .i64 (n:Int) (n:Int) (by omega) (Int.le_refl _) (by rw [hb];omega) (by omega);rw [this];congr 3;rw [hs];apply Array.ext
 ·rw [size_madeCells];simp
 ·intro j h1 h2;simp only [madeCells,Array.getElem_map,Array.getElem_range,Array.getElem_replicate];show(#[Value.int .u32 0]:Array Value)[j%1]! =_;rw [Nat.mod_one];rfl
theorem Ls {x y:Nat} (hx:x<4294967296) (hy:y<4294967296):IntKind.wrap .u64 ((BitVec.ofInt (IntKind.bits .u64) (IntKind.wrap .u64 ((x:Int)*2^(min (32:Int).toNat (IntKind.bits .u64))))|||BitVec.ofInt (IntKind.bits .u64) (IntKind.wrap .u64 (y:Int))).toNat:Int)=((x*4294967296+y:Nat):Int):=by
 have h1:(x:Int)*2^(min (32:Int).toNat (IntKind.bits .u64))=((x*4294967296:Nat):Int):=by
  rw [show(2:Int)^(min (32:Int).toNat (IntKind.bits .u64))=4294967296 by decide];omega
 have hxb:x*4294967296<18446744073709551616:=by omega
 have hz:x*4294967296+y<18446744073709551616:=by
  have h1:=Nat.add_lt_add_left hy (x*4294967296);rw [←Nat.succ_mul]at h1;exact Nat.lt_of_lt_of_le h1 (Nat.mul_le_mul_right 4294967296 hx)
 rw [h1,dg hxb,dg (x:=y) (by omega)];show IntKind.wrap .u64 ((BitVec.ofInt 64 ((x*4294967296:Nat):Int)|||BitVec.ofInt 64 (y:Int)).toNat:Int)=_;rw [BitVec.toNat_or,fg _ hxb,fg _ (by omega)];have gen:∀B:Nat,B=2^32→∀x y:Nat,y<B→x*B|||y=x*B+y:=by
  intro B hB x y hy;subst hB;rw [Nat.mul_comm x];exact(Nat.two_pow_add_eq_or_of_lt hy x).symm
 have h2:x*4294967296|||y=x*4294967296+y:=gen _ (by decide) x y hy;rw [h2];exact dg hz
set_option maxHeartbeats 1000000 in
theorem sX (w:World) (la:Sl) (a m:Nat) (ha:ba w la a) (hm:m<4294967296) (h0:0<m) (h1:(d' 4294967296 a).length≤100000):
  CP 87 #[.agg #[la.v],.int .u32 (m:Int)] w fun e w'=>∃r:Sl,e= .returned (.tuple #[.agg #[r.v],.int .u32 ((a%m:Nat):Int)])∧ba w' r (a/m)∧Below w.heap.size w w':=by
 refine aO (CD la.a la.n la.c (m:Int) w) ?_;intro w1 hw1 w2 hw2;have b1:Below w.heap.size w w1:=by subst hw1;exact af _ _
 have b2:Below w1.heap.size w1 w2:=by subst hw2;exact af _ _
 have z1:w1.heap.size=w.heap.size+1:=by subst hw1;exact av _ _
 have b02:=ae b1 b2;have x1:w2.heap[w.heap.size]? =some (.cells #[la.v] bZ (0,0)):=ag b2 (by subst hw1;exact ak _ _);have x2:w2.heap[w1.heap.size]? =some (.cells #[bS.v] bZ (0,0)):=by subst hw2;exact ak _ _
 have hna:=ha.n;obtain⟨N,hN⟩:∃N,N=(d' 4294967296 a).length:=⟨_,rfl⟩;rw [←hN]at hna h1;have b4:=af w2 (.cells (Array.replicate N (.int .u32 0)) dw);have o4:(w2.alloc (.cells (Array.replicate N (.int .u32 0)) dw)).ownsRow w2.heap.size dw 1 (.slice (some (nb w2)) N N) N ((List.replicate N (0:Int)).flatMap cR):=by
  have:=gz (w:=w2) (e:=dw) (n:=N) (List.replicate N (Value.int .u32 0)) (by simp) (by omega) (Nat.le_refl w2.heap.size);have e:(List.replicate N (0:Int)).flatMap cR=List.replicate N (Value.int .u32 0):=by
   clear this hN hna h1 b4;induction N with
   |zero=>rfl
   |succ M ih=>rw [List.replicate_succ,List.flatMap_cons,ih,List.replicate_succ];rfl
  rw [e];simpa using this
 obtain⟨w4,hw4⟩:∃w4,w4=w2.alloc (.cells (Array.replicate N (.int .u32 0)) dw):=⟨_,rfl⟩;rw [←hw4]at b4 o4;refine ac.no (by simp;omega) ⟨_,_,_,cn x1,_,_,_,w4,by rw [hna,hw4];exact wn w2 N (by omega),_,_,_,cn (ag b4 x1),?_⟩;rw [hna];refine Ar.ok64 (by omega) (by omega) ?_;intro I hI;have key:∀i,i≤N→∀(rest:Nat) (L:List Int) (q:World),L.length=N→th 4294967296 L→(∀(j:Nat) (hj:j<L.length),j<i→L[j]=0)→cG 4294967296 (L.drop i)*m+rest=a/4294967296^i→rest<m→q.ownsRow w2.heap.size dw 1 (.slice (some (nb w2)) N N) N (L.flatMap cR)→Below w2.heap.size w2 q→I [.int .i64 ((i:Int)-1),.int .u64 (rest:Int)] q:=by
  intro i;induction i with
  |zero=>
   intro _ rest L q hL hin hz hv hr ho hq;rw [List.drop_zero,Nat.pow_zero,Nat.div_one]at hv;refine hI _ _ q (ac.no rfl ((eJ q ⟨some (nb w2),N,N⟩ L (LsAt.of_own lB ho) (g_ (l:=⟨some (nb w2),N,N⟩) ho) (Nat.le_refl _) hin (by omega)).mono ?_));rintro e w7 ⟨r,rfl,hR,b7⟩;have hB7:=ae hq b7;refine⟨r.a,r.n,r.c,rfl,ce (s:=r) (ag hB7 x2) fun q' hx hN' hB _ _=>⟨_,_,_,aJ hx,r,?_,hN' _ _ ?_,hB _ _ (by omega) (ae b02 hB7)⟩⟩
   ·have e1:a%m=rest:=by rw [←hv,Nat.mul_comm,Nat.mul_add_mod,Nat.mod_eq_of_lt hr]
    rw [e1,dH,Nat.mod_eq_of_lt (by omega)]
   ·have e2:a/m=cG 4294967296 L:=by rw [←hv,Nat.mul_comm,Nat.mul_add_div h0,Nat.div_eq_of_lt hr,Nat.add_zero]
    rw [e2];exact hR
  |succ i ih=>
   intro hle rest L q hL hin hz hv hr ho hq;rw [show((i+1:Nat):Int)-1=(i:Int) by omega];have hlt:i< (d' 4294967296 a).length:=by omega
   obtain⟨p,hp,c0⟩:=aS (ba.on ha (ae b02 hq)).r hlt rfl;rw [jN dN hlt]at c0;have m1:=Nat.mod_lt (a/4294967296^i) (show 0<4294967296 by decide);obtain⟨s,hs⟩:∃s,s=rest*4294967296+a/4294967296^i%4294967296:=⟨_,rfl⟩;obtain⟨q1,q2,q3⟩:=Ek (b:=4294967296) dN h0 hv hr hs;have hsb:s<18446744073709551616:=by omega
   refine hI _ _ q (ac.yes (decide_eq_true (by omega)) ⟨by decide,_,_,_,cn (ag hq x1),ah.mk p hp ⟨by omega,by omega,_,c0,by rw [dg (by omega)];omega,ah.mk _ rfl ⟨by omega,by omega,?_⟩⟩⟩);rw [Ls (by omega) m1, ←hs,dg (show m<18446744073709551616 by omega)];have ed:Int.tdiv (s:Int) (m:Int)=((s/m:Nat):Int):=rfl;have em:Int.tmod (s:Int) (m:Int)=((s%m:Nat):Int):=rfl;rw [ed,em,dg (Nat.lt_trans q3 (by decide)),dH,Nat.mod_eq_of_lt q3];have hst:=iv (enc:=cR) (fun _=>rfl) (by decide) (fun y u hu=>by rw [List.mem_singleton.1 hu];rfl) (l:=⟨some (nb w2),N,N⟩) ho hL.symm rfl i (by omega) ((s/m:Nat):Int) (k:=fun w6=>((m:Nat):Int)≠0∧Ar .i64 ((i:Int)-1) fun n_14=>I [Value.int .i64 n_14,Value.int .u64 ((s%m:Nat):Int)] w6) (fun w6 h6 hs6 hz6 hB6=>⟨by omega,Ar.ok64 (by omega) (by omega) (ih (by omega) (s%m) (L.set i ((s/m:Nat):Int)) w6 (by rw [List.length_set];exact hL) ?_ ?_ ?_ q2 h6 (hB6 _ _ (Nat.le_refl _) hq))⟩)
   ·exact dU hst
   ·intro x hx;rcases List.mem_or_eq_of_mem_set hx with hx |rfl
    ·exact hin x hx
    ·exact⟨Int.natCast_nonneg _,Int.ofNat_lt.2 q3⟩
   ·intro j hj hji;rw [List.length_set]at hj;rw [List.getElem_set_ne (by omega)];exact hz j hj (by omega)
   ·rw [←q1];congr 2;have e:(L.set i ((s/m:Nat):Int)).drop i=((s/m:Nat):Int)::L.drop (i+1):=by
     rw [List.drop_set,if_neg (by omega),Nat.sub_self,List.drop_eq_getElem_cons (show i<L.length by omega),List.set_cons_zero]
    rw [e];show(((s/m:Nat):Int)).toNat+_=_;rw [Int.toNat_natCast,Nat.add_comm]
 have hz:=iw dN (n:=a) (i:=N) (by omega);refine key N (Nat.le_refl _) 0 (List.replicate N 0) w4 (by simp) ?_ ?_ ?_ h0 o4 b4
 ·intro x hx;rw [List.eq_of_mem_replicate hx];decide
 ·intro j hj _;simp
 ·rw [List.drop_of_length_le (by simp),hz.1];simp [cG]
def oW (xs:List UInt8) (i:Nat):List UInt8:=(List.range xs.length).map fun k=>if k<i∨xs.length-i≤k then xs.getD (xs.length-1-k) 0 else xs.getD k 0
theorem cC (xs:List UInt8) (i:Nat):(oW xs i).length=xs.length:=by simp [oW]
theorem i_ (xs:List UInt8) (i:Nat) {k:Nat} (hk:k< (oW xs i).length):(oW xs i)[k]=if k<i∨xs.length-i≤k then xs.getD (xs.length-1-k) 0 else xs.getD k 0:=by simp [oW]
theorem EG (xs:List UInt8):oW xs 0=xs:=by
 apply List.ext_getElem
 ·exact cC xs 0
 ·intro k h1 h2;rw [i_,if_neg (by omega)];simp [List.getD,h2]
theorem ub {xs:List UInt8} {i:Nat} (h:xs.length≤2*i+1) (hi:i≤xs.length):oW xs i=xs.reverse:=by
 apply List.ext_getElem
 ·rw [cC,List.length_reverse]
 ·intro k h1 h2;rw [List.length_reverse]at h2;rw [i_,List.getElem_reverse];by_cases hk:k<i∨xs.length-i≤k
  ·rw [if_pos hk];simp [List.getD,show xs.length-1-k<xs.length by omega]
  ·rw [if_neg hk];have:xs.length-1-k=k:=by omega
   simp [List.getD,h2,this]
theorem ED {xs:List UInt8} {i:Nat} (h:2*i+1<xs.length):((oW xs i).set i (xs.getD (xs.length-1-i) 0)).set (xs.length-1-i) (xs.getD i 0)=oW xs (i+1):=by
 apply List.ext_getElem
 ·rw [List.length_set,List.length_set,cC,cC]
 ·intro k h1 h2;rw [cC]at h2;rw [List.getElem_set,List.getElem_set,i_,i_];by_cases e1:xs.length-1-i=k
  ·rw [if_pos e1,if_pos (by omega)];congr 1;omega
  ·rw [if_neg e1];by_cases e2:i=k
   ·rw [if_pos e2,if_pos (by omega)];congr 1;omega
   ·rw [if_neg e2];by_cases hk:k<i∨xs.length-i≤k
    ·rw [if_pos hk,if_pos (by omega)]
    ·rw [if_neg hk,if_neg (by omega)]
theorem tI (w0 w:World) (B:Nat) (hB0:Below B w0 w) (l:Sl) (xs:List UInt8) (ho:w.ownsRow B qG 1 l.v l.n (xs.flatMap fU)) (hl:xs.length≤1000000):
  CP 88 #[l.v] w fun e w'=>e= .returned (.tuple #[])∧w'.ownsRow B qG 1 l.v l.n (xs.reverse.flatMap fU)∧Below B w0 w':=by
 refine aO (A0 l.a l.n l.c w) ?_;have hn:l.n=xs.length:=(Rw.of_own ho (fun _=>rfl) (by decide)).2;rw [hn]at ho⊢;refine Ar.ok64 (by omega) (by omega) ?_;intro I hI;have key:∀(d i:Nat) (q:World),xs.length-2*i≤d→i≤xs.length→q.ownsRow B qG 1 l.v xs.length ((oW xs i).flatMap fU)→Below B w0 q→I [.int .i64 ((xs.length:Int)-1- (i:Int)),.int .i64 (i:Int)] q:=by
  intro d;induction d with
  |zero=>
   intro i q hd hi ho hq;refine hI _ _ q (ac.no (decide_eq_false (by omega)) ⟨rfl,?_,hq⟩);rw [ub (by omega) hi]at ho;exact ho
  |succ d ih=>
   intro i q hd hi ho hq;by_cases hlt:(i:Int) < (xs.length:Int)-1- (i:Int)
   ·have hj:xs.length-1-i<xs.length:=by omega
    refine hI _ _ q (ac.yes (decide_eq_true hlt) ?_);intro w2 hw2;have b2:Below q.heap.size q w2:=by subst hw2;exact aK q
    have hq2:Below B w0 w2:=by subst hw2;exact hq.drew
    have ho2:=aA ho b2;have ho2':w2.ownsRow B qG 1 (Sl.v ⟨l.a,xs.length,l.c⟩) (Sl.n ⟨l.a,xs.length,l.c⟩) ((oW xs i).flatMap fU):=by
     have:Sl.v ⟨l.a,xs.length,l.c⟩=l.v:=by rw [←hn]
     rw [this];exact ho2
    have hr:=(Rw.of_own ho2' (fun _=>rfl) (by decide)).1;have gi:(oW xs i)[i]'(by rw [cC];omega)=xs.getD i 0:=by rw [i_,if_neg (by omega)]
    have gj:(oW xs i)[xs.length-1-i]'(by rw [cC];omega)=xs.getD (xs.length-1-i) 0:=by rw [i_,if_neg (by omega)]
    obtain⟨p,hp,ci⟩:=aS hr (i:=i) (by rw [cC];omega) rfl;obtain⟨p2,hp2,cj⟩:=aS hr (i:=xs.length-1-i) (by rw [cC];omega) rfl;rw [gi]at ci;rw [gj]at cj;have hp:l.a=some p:=hp;obtain rfl:p2=p:=by rw [show l.a=some p2 from hp2]at hp;cases hp;rfl
    have ej:(xs.length:Int)-1- (i:Int)=((xs.length-1-i:Nat):Int):=by omega
    rw [ej];refine ah.mk p2 hp ⟨by omega,by omega,_,cj,ah.mk p2 hp ⟨by omega,by omega,_,ci,ah.mk p2 hp ⟨by omega,by omega,?_⟩⟩⟩;have hst:=iv (enc:=fU) (fun _=>rfl) (by decide) (fun y u hu=>by rw [List.mem_singleton.1 hu];rfl) (l:=⟨l.a,xs.length,l.c⟩) ho2' (cC xs i).symm (a:=p2) hp i (by rw [cC];omega) (xs.getD (xs.length-1-i) 0) (k:=fun w3=>ah l.a fun pa_6=>(0:Int)≤((xs.length-1-i:Nat):Int)∧((xs.length-1-i:Nat):Int) < (xs.length:Int)∧(Value.int .u8 (((xs.getD i 0).toNat:Nat):Int)).oneCell'=true∧(∃u,w3.cell? (pa_6.add ((((xs.length-1-i:Nat):Int)).toNat*1))=some u)∧w3.frozen? (pa_6.add ((((xs.length-1-i:Nat):Int)).toNat*1))=false∧∀w4:World,w4=w3.setCell (pa_6.add ((((xs.length-1-i:Nat):Int)).toNat*1)) (Value.int .u8 (((xs.getD i 0).toNat:Nat):Int))→Ar .i64 ((i:Int)+1) fun n_7=>Ar .i64 (((xs.length-1-i:Nat):Int)-1) fun n_8=>I [Value.int .i64 n_8,Value.int .i64 n_7] w4) (fun w3 h3 hs3 hz3 hB3=>?_)
    ·exact dU hst
    ·refine ah.mk p2 hp ⟨by omega,by omega,?_⟩;have hst2:=iv (enc:=fU) (fun _=>rfl) (by decide) (fun y u hu=>by rw [List.mem_singleton.1 hu];rfl) (l:=⟨l.a,xs.length,l.c⟩) h3 (by rw [List.length_set,cC]) (a:=p2) hp (xs.length-1-i) (by rw [List.length_set,cC];omega) (xs.getD i 0) (k:=fun w4=>Ar .i64 ((i:Int)+1) fun n_7=>Ar .i64 (((xs.length-1-i:Nat):Int)-1) fun n_8=>I [Value.int .i64 n_8,Value.int .i64 n_7] w4) (fun w4 h4 hs4 hz4 hB4=>?_)
     ·exact dU hst2
     ·rw [ED (by omega)]at h4;have:Sl.v ⟨l.a,xs.length,l.c⟩=l.v:=by rw [←hn]
      rw [this]at h4;refine Ar.nat (i+1) rfl (by omega) (Ar.ok64 (by omega) (by omega) ?_);rw [show((xs.length-1-i:Nat):Int)-1=(xs.length:Int)-1- ((i+1:Nat):Int) by omega];exact ih (i+1) w4 (by omega) (by omega) h4 (hB4 _ _ (Nat.le_refl _) (hB3 _ _ (Nat.le_refl _) hq2))
   ·refine hI _ _ q (ac.no (decide_eq_false hlt) ⟨rfl,?_,hq⟩);rw [ub (by omega) hi]at ho;exact ho
 have:=key xs.length 0 w (by omega) (Nat.zero_le _) (by rw [EG];exact ho) hB0;rw [show(xs.length:Int)-1- ((0:Nat):Int)=(xs.length:Int)-1 by omega]at this;exact this
open Go Go.RowKit Go.Shelf
attribute [local go_sem] Oper.semAt_some
attribute [local go_sem] Oper.semAt_some
set_option linter.unusedSectionVars false
def eM {κ:Type} (kv:κ→Value) (w:World) (r:Nat) (m:List (κ×Value)):Prop:=∃es clock,w.heap[r]? =some (.map es clock)∧es.toList.map (fun x=>(x.key,x.val))=m.map (fun p=>(kv p.1,p.2))∧(∀x∈es.toList,x.born<clock)∧(es.toList.map (·.born)).Nodup
section
variable {P:Program} {kt et t:TypeId} {κ:Type} [DecidableEq κ] {kv:κ→Value}
theorem eM.is {w:World} {r:Nat} {m:List (κ×Value)} (h:eM kv w r m):bC kv w r m:=by
 obtain⟨es,c,h1,h2,h3,_⟩:=h;exact⟨es,c,h1,h2,h3⟩
theorem eM.same {w w':World} {r:Nat} {m:List (κ×Value)} (h:eM kv w r m) (hs:w'.heap[r]? =w.heap[r]?):eM kv w' r m:=by
 obtain⟨es,c,h1,h2⟩:=h;exact⟨es,c,by rw [hs];exact h1,h2⟩
theorem eM.lt {w:World} {r:Nat} {m:List (κ×Value)} (h:eM kv w r m):r<w.heap.size:=h.is.lt
theorem Ej (w:World):eM kv (w.alloc (.map #[] 0)) w.heap.size []:=⟨#[],0,ak w _,rfl,by simp,by simp⟩
theorem EZ (K:h_ P kt κ kv) (ht:P.underlying t=some (.map kt et)) {w:World} {r:Nat} {m:List (κ×Value)} (h:eM kv w r m) (k:κ) (v:Value) (hk:ez k m=none):
  ∃w',(Instr.mapUpdate t (.map (some r)) (kv k) v).run P w= .ok () w'∧eM kv w' r (m++ [(k,v)])∧(∀j,j≠r→w'.heap[j]? =w.heap[j]?)∧w'.heap.size=w.heap.size∧(∀B w0,B≤r→Below B w0 w→Below B w0 w'):=by
 obtain⟨es,clock,hb,hm,hst,hnd⟩:=h;have hlt:=(Array.getElem?_eq_some_iff.1 hb).1;have hl:=fy k m 0;rw [hk]at hl;have hx:dL k m 0=none:=by
  cases hx:dL k m 0 with
  |none=>rfl
  |some q=>rw [hx]at hl;cases hl
 refine⟨{w with heap:=w.heap.setIfInBounds r (.map (es.push {key:=kv k,val:=v,born:=clock}) (clock+1))},?_,?_,?_,by simp,?_⟩
 ·unfold Instr.mapUpdate;simp only [Sem.run_bind,run_underlying ht,Result.andThen,fw hb,K.check,K.find k es.toList m w hm,hx];exact jk _ hb
 ·refine⟨es.push {key:=kv k,val:=v,born:=clock},clock+1,by simp [hlt],by simp [hm],fun x hx=>?_,?_⟩
  ·rw [Array.toList_push,List.mem_append,List.mem_singleton]at hx;rcases hx with hx |rfl
   ·have:=hst x hx;omega
   ·exact Nat.lt_succ_self _
  ·rw [Array.toList_push,List.map_append,List.nodup_append];refine⟨hnd,by simp,fun a ha b hb' e=>?_⟩;obtain⟨x,hx,rfl⟩:=List.mem_map.1 ha;have:=hst x hx;simp at hb';omega
 ·intro j hj;simp [Array.getElem?_setIfInBounds_ne (fun e=>hj e.symm)]
 ·intro B w0 hB h0;exact h0.trans ⟨rfl,rfl,rfl,by simp,fun j hj=>by simp [Array.getElem?_setIfInBounds_ne (show r≠j by omega)]⟩
end
section
variable (w0:World) (S:List Bs) (nd:Bs→Nat) (idf:Bs→Int) (N:Nat)
end
end Go.Proofs.YtdlcfegnaphclaaGreat.Eng
