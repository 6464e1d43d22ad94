/- What these functions owe, printed by a program of this repo out of the translation. -/
import Derived.Test.YtijbcdiffjjefaaGreatDoorZxTab
import Derived.Test.YtijbcdiffjjefaaGreatDoorZxVo
set_option linter.unusedVariables false
set_option maxRecDepth 100000
namespace Go.Proofs.YtijbcdiffjjefaaGreatDoor.Eng
open Go Go.Value
def Qw (a:OA) (b c:Nat) (d:OA) (f g:Nat) (h:OA) (i j:Nat) (k:OA) (l m:Nat) (w:World) (R:RW):Prop:=
 ∀n,n=w.alloc (.cells #[slice a b c,slice d f g,slice h i j,slice k l m] 27)→
 ∃o p q,n.cell? ((nb w).add 0)=some (slice o p q)∧
 ∃r s t,n.cell? ((nb w).add 1)=some (slice r s t)∧
 ∃u x y,n.cell? ((nb w).add 2)=some (slice u x y)∧
 ∃z a1 b1,n.cell? ((nb w).add 3)=some (slice z a1 b1)∧
 CP 40 #[slice o p q,slice r s t,slice u x y,slice z a1 b1] n (fun c1 d1=>
 ∃e1,c1= .returned (bool e1)∧
 ac e1
 (R (int .i64 1) d1)
 (R (int .i64 0) d1))
theorem Co (a:OA) (b c:Nat) (d:OA) (f g:Nat) (h:OA) (i j:Nat) (k:OA) (l m:Nat) (w:World) (R:RW) (hh:Qw a b c d f g h i j k l m w R):CR 11 #[agg #[slice a b c,slice d f g,slice h i j,slice k l m]] w R:=
 az (fn:=Tryz.f11) (by kernel_rfl) (by kernel_rfl) (by kernel_rfl) (by kernel_rfl) (by kernel_rfl) hh
def Qj (a:OA) (b c:Nat) (d:OA) (f g:Nat) (h:OA) (i j:Nat) (k:OA) (l m:Nat) (w:World) (R:RW):Prop:=
 ∀n,n=w.alloc (.cells #[slice a b c,slice d f g,slice h i j,slice k l m] 27)→
 ∀o,o=n.alloc (.cells #[slice none 0 0,slice none 0 0,slice none 0 0,slice none 0 0,slice none 0 0] 39)→
 ∃p q r,o.cell? ((nb w).add 0)=some (slice p q r)∧
 ∃s t u,o.cell? ((nb w).add 1)=some (slice s t u)∧
 ∃x y z,o.cell? ((nb w).add 2)=some (slice x y z)∧
 ∃a1 b1 c1,o.cell? ((nb w).add 3)=some (slice a1 b1 c1)∧
 CP 41 #[slice p q r,slice s t u,slice x y z,slice a1 b1 c1] o (fun d1 e1=>
 ∃f1 g1 h1 i1 j1 k1 l1 m1 n1 o1 p1 q1 r1 s1 t1 u1,d1= .returned (agg #[bool f1,slice g1 h1 i1,slice j1 k1 l1,slice m1 n1 o1,slice p1 q1 r1,slice s1 t1 u1])∧
 ∀v1,v1=e1.alloc (.cells #[bool false,slice none 0 0,slice none 0 0,slice none 0 0,slice none 0 0,slice none 0 0] 71)→
 ax v1 (nb e1) (fun x1=>
 ∃y1 z1 a2 b2 c2 d2 e2 f2 g2 h2 i2 j2 k2 l2 m2 n2,(x1.cell? (nb e1)=some (bool y1)∧x1.cell? ((nb e1).add 1)=some (slice z1 a2 b2)∧x1.cell? ((nb e1).add 2)=some (slice c2 d2 e2)∧x1.cell? ((nb e1).add 3)=some (slice f2 g2 h2)∧x1.cell? ((nb e1).add 4)=some (slice i2 j2 k2)∧x1.cell? ((nb e1).add 5)=some (slice l2 m2 n2)∧True)∧
 CP 37 #[agg #[bool y1,slice z1 a2 b2,slice c2 d2 e2,slice f2 g2 h2,slice i2 j2 k2,slice l2 m2 n2]] x1 (fun o2 p2=>
 ∃q2 r2 s2,o2= .returned (tuple #[pointer q2,int .i64 r2,int .i64 s2])∧
 ac (s2 != 0)
 (ax p2 (nb n) (fun t2=>
 ∃u2 v2 x2 y2 z2 a3 b3 c3 d3 e3 f3 g3 h3 i3 j3,(t2.cell? (nb n)=some (slice u2 v2 x2)∧t2.cell? ((nb n).add 1)=some (slice y2 z2 a3)∧t2.cell? ((nb n).add 2)=some (slice b3 c3 d3)∧t2.cell? ((nb n).add 3)=some (slice e3 f3 g3)∧t2.cell? ((nb n).add 4)=some (slice h3 i3 j3)∧True)∧
 R (tuple #[pointer none,agg #[slice u2 v2 x2,slice y2 z2 a3,slice b3 c3 d3,slice e3 f3 g3,slice h3 i3 j3]]) t2) [slice none 0 0,slice none 0 0,slice none 0 0,slice none 0 0,slice none 0 0] 0)
 (∃k3 l3 m3 n3 o3 p3 q3 r3 s3 t3 u3 v3 x3 y3 z3 a4,(p2.cell? (nb e1)=some (bool k3)∧p2.cell? ((nb e1).add 1)=some (slice l3 m3 n3)∧p2.cell? ((nb e1).add 2)=some (slice o3 p3 q3)∧p2.cell? ((nb e1).add 3)=some (slice r3 s3 t3)∧p2.cell? ((nb e1).add 4)=some (slice u3 v3 x3)∧p2.cell? ((nb e1).add 5)=some (slice y3 z3 a4)∧True)∧
 CP 42 #[agg #[bool k3,slice l3 m3 n3,slice o3 p3 q3,slice r3 s3 t3,slice u3 v3 x3,slice y3 z3 a4]] p2 (fun b4 c4=>
 ∃d4 e4 f4 g4 h4 i4 j4 k4 l4 m4 n4 o4 p4 q4 r4,b4= .returned (agg #[slice d4 e4 f4,slice g4 h4 i4,slice j4 k4 l4,slice m4 n4 o4,slice p4 q4 r4])∧
 ax c4 (nb n) (fun s4=>
 ∃t4 u4 v4 x4 y4 z4 a5 b5 c5 d5 e5 f5 g5 h5 i5,(s4.cell? (nb n)=some (slice t4 u4 v4)∧s4.cell? ((nb n).add 1)=some (slice x4 y4 z4)∧s4.cell? ((nb n).add 2)=some (slice a5 b5 c5)∧s4.cell? ((nb n).add 3)=some (slice d5 e5 f5)∧s4.cell? ((nb n).add 4)=some (slice g5 h5 i5)∧True)∧
 R (tuple #[pointer q2,agg #[slice t4 u4 v4,slice x4 y4 z4,slice a5 b5 c5,slice d5 e5 f5,slice g5 h5 i5]]) s4) [slice d4 e4 f4,slice g4 h4 i4,slice j4 k4 l4,slice m4 n4 o4,slice p4 q4 r4] 0)))) [bool f1,slice g1 h1 i1,slice j1 k1 l1,slice m1 n1 o1,slice p1 q1 r1,slice s1 t1 u1] 0)
theorem CG (a:OA) (b c:Nat) (d:OA) (f g:Nat) (h:OA) (i j:Nat) (k:OA) (l m:Nat) (w:World) (R:RW) (hh:Qj a b c d f g h i j k l m w R):CR 13 #[agg #[slice a b c,slice d f g,slice h i j,slice k l m]] w R:=
 az (fn:=Tryz.f13) (by kernel_rfl) (by kernel_rfl) (by kernel_rfl) (by kernel_rfl) (by kernel_rfl) hh
def Qk (a:OA) (b c:Nat) (d:OA) (f g:Nat) (h:OA) (i j:Nat) (k:OA) (l m:Nat) (n:OA) (o p:Nat) (q:OA) (r s:Nat) (w:World) (R:RW):Prop:=
 ∀t,t=w.alloc (.cells #[slice a b c,slice d f g,slice h i j,slice k l m,slice n o p] 39)→
 ∀u:KW,(∀(x y:Int) (z:World),(ac (decide (x< (r:Int)))
 (∀a1,a1=z.drew→
 ∃b1 c1 d1 e1 f1 g1 h1 i1 j1 k1 l1 m1 n1 o1 p1,(a1.cell? (nb w)=some (slice b1 c1 d1)∧a1.cell? ((nb w).add 1)=some (slice e1 f1 g1)∧a1.cell? ((nb w).add 2)=some (slice h1 i1 j1)∧a1.cell? ((nb w).add 3)=some (slice k1 l1 m1)∧a1.cell? ((nb w).add 4)=some (slice n1 o1 p1)∧True)∧
 af q (fun q1=>
 (0:Int)≤x∧x< (r:Int)∧
 ∃r1,a1.cell? (q1.add (x.toNat*1))=some (int .i64 r1)∧
 CP 46 #[agg #[slice b1 c1 d1,slice e1 f1 g1,slice h1 i1 j1,slice k1 l1 m1,slice n1 o1 p1],int .i64 r1] a1 (fun s1 t1=>
 ∃u1,s1= .returned (bool u1)∧
 ac (!u1)
 (R (int .i64 x) t1)
 (Ar .i64 (x+1) (fun v1=>
 u [int .i64 v1,int .i64 y] t1)))))
 (R (int .i64 (-1)) z))→u [int .i64 x,int .i64 y] z)→
 u [int .i64 0,int .i64 0] t
theorem Dt (a:OA) (b c:Nat) (d:OA) (f g:Nat) (h:OA) (i j:Nat) (k:OA) (l m:Nat) (n:OA) (o p:Nat) (q:OA) (r s:Nat) (w:World) (R:RW) (hh:Qk a b c d f g h i j k l m n o p q r s w R):CR 17 #[agg #[slice a b c,slice d f g,slice h i j,slice k l m,slice n o p],slice q r s] w R:=
 az (fn:=Tryz.f17) (by kernel_rfl) (by kernel_rfl) (by kernel_rfl) (by kernel_rfl) (by kernel_rfl) hh
def QL (a:Bool) (b:OA) (c d:Nat) (f:OA) (g h:Nat) (i:OA) (j k:Nat) (l:OA) (m n:Nat) (o:OA) (p q:Nat) (w:World) (R:RW):Prop:=
 ∀r,r=w.alloc (.cells #[bool a,slice b c d,slice f g h,slice i j k,slice l m n,slice o p q] 71)→
 ∀s,s=r.alloc (.cells #[slice none 0 0,slice none 0 0,slice none 0 0,slice none 0 0,slice none 0 0] 39)→
 ∃t u x y z a1 b1 c1 d1 e1 f1 g1 h1 i1 j1 k1,(s.cell? (nb w)=some (bool t)∧s.cell? ((nb w).add 1)=some (slice u x y)∧s.cell? ((nb w).add 2)=some (slice z a1 b1)∧s.cell? ((nb w).add 3)=some (slice c1 d1 e1)∧s.cell? ((nb w).add 4)=some (slice f1 g1 h1)∧s.cell? ((nb w).add 5)=some (slice i1 j1 k1)∧True)∧
 CP 97 #[agg #[bool t,slice u x y,slice z a1 b1,slice c1 d1 e1,slice f1 g1 h1,slice i1 j1 k1]] s (fun l1 m1=>
 ∃n1 o1 p1 q1 r1 s1 t1 u1,l1= .returned (tuple #[agg #[slice n1 o1 p1,slice q1 r1 s1],int .i64 t1,int .i64 u1])∧
 ∀v1,v1=m1.alloc (.cells #[slice none 0 0,slice none 0 0] 35)→
 ax v1 (nb m1) (fun x1=>
 ac (u1 != 0)
 (ax x1 (nb r) (fun y1=>
 ∃z1 a2 b2 c2 d2 e2 f2 g2 h2 i2 j2 k2 l2 m2 n2,(y1.cell? (nb r)=some (slice z1 a2 b2)∧y1.cell? ((nb r).add 1)=some (slice c2 d2 e2)∧y1.cell? ((nb r).add 2)=some (slice f2 g2 h2)∧y1.cell? ((nb r).add 3)=some (slice i2 j2 k2)∧y1.cell? ((nb r).add 4)=some (slice l2 m2 n2)∧True)∧
 R (tuple #[agg #[slice z1 a2 b2,slice c2 d2 e2,slice f2 g2 h2,slice i2 j2 k2,slice l2 m2 n2],int .i64 1,int .i64 t1,int .i64 u1]) y1) [slice none 0 0,slice none 0 0,slice none 0 0,slice none 0 0,slice none 0 0] 0)
 (∃o2 p2 q2,x1.cell? ((nb w).add 3)=some (slice o2 p2 q2)∧
 CP 98 #[slice o2 p2 q2] x1 (fun r2 s2=>
 ∃t2 u2,r2= .returned (tuple #[int .i64 t2,int .i64 u2])∧
 ac (u2 != 0)
 (ax s2 (nb r) (fun v2=>
 ∃x2 y2 z2 a3 b3 c3 d3 e3 f3 g3 h3 i3 j3 k3 l3,(v2.cell? (nb r)=some (slice x2 y2 z2)∧v2.cell? ((nb r).add 1)=some (slice a3 b3 c3)∧v2.cell? ((nb r).add 2)=some (slice d3 e3 f3)∧v2.cell? ((nb r).add 3)=some (slice g3 h3 i3)∧v2.cell? ((nb r).add 4)=some (slice j3 k3 l3)∧True)∧
 R (tuple #[agg #[slice x2 y2 z2,slice a3 b3 c3,slice d3 e3 f3,slice g3 h3 i3,slice j3 k3 l3],int .i64 2,int .i64 t2,int .i64 u2]) v2) [slice none 0 0,slice none 0 0,slice none 0 0,slice none 0 0,slice none 0 0] 0)
 (∀m3:KW,(∀(n3 o3 p3 q3:Int) (r3:World),(∃s3 t3 u3,r3.cell? ((nb w).add 3)=some (slice s3 t3 u3)∧
 ac (decide (n3< (t3:Int)))
 (∀v3,v3=r3.drew→
 ∃x3 y3 z3,v3.cell? ((nb w).add 3)=some (slice x3 y3 z3)∧
 af x3 (fun a4=>
 (0:Int)≤n3∧n3< (y3:Int)∧
 ∃b4,v3.cell? ((a4.add (n3.toNat*2)).add 0)=some (int .i64 b4)∧
 ∃c4 d4 e4,v3.cell? ((nb m1).add 0)=some (slice c4 d4 e4)∧
 ac (decide (b4< (d4:Int)))
 (ax v3 (nb r) (fun f4=>
 ∃g4 h4 i4 j4 k4 l4 m4 n4 o4 p4 q4 r4 s4 t4 u4,(f4.cell? (nb r)=some (slice g4 h4 i4)∧f4.cell? ((nb r).add 1)=some (slice j4 k4 l4)∧f4.cell? ((nb r).add 2)=some (slice m4 n4 o4)∧f4.cell? ((nb r).add 3)=some (slice p4 q4 r4)∧f4.cell? ((nb r).add 4)=some (slice s4 t4 u4)∧True)∧
 R (tuple #[agg #[slice g4 h4 i4,slice j4 k4 l4,slice m4 n4 o4,slice p4 q4 r4,slice s4 t4 u4],int .i64 2,int .i64 n3,int .i64 4]) f4) [slice none 0 0,slice none 0 0,slice none 0 0,slice none 0 0,slice none 0 0] 0)
 (Ar .i64 (n3+1) (fun v4=>
 m3 [int .i64 v4,int .i64 o3,int .i64 p3,int .i64 q3] v3))))
 (∃x4 y4 z4 a5 b5 c5,(r3.cell? (nb m1)=some (slice x4 y4 z4)∧r3.cell? ((nb m1).add 1)=some (slice a5 b5 c5)∧True)∧
 ∃d5 e5 f5,r3.cell? ((nb w).add 4)=some (slice d5 e5 f5)∧
 ∃g5 h5 i5,r3.cell? ((nb w).add 5)=some (slice g5 h5 i5)∧
 ∃j5 k5 l5,r3.cell? ((nb w).add 3)=some (slice j5 k5 l5)∧
 ax r3 (nb r) (fun m5=>
 ∃n5 o5 p5 q5 r5 s5 t5 u5 v5 x5 y5 z5 a6 b6 c6,(m5.cell? (nb r)=some (slice n5 o5 p5)∧m5.cell? ((nb r).add 1)=some (slice q5 r5 s5)∧m5.cell? ((nb r).add 2)=some (slice t5 u5 v5)∧m5.cell? ((nb r).add 3)=some (slice x5 y5 z5)∧m5.cell? ((nb r).add 4)=some (slice a6 b6 c6)∧True)∧
 R (tuple #[agg #[slice n5 o5 p5,slice q5 r5 s5,slice t5 u5 v5,slice x5 y5 z5,slice a6 b6 c6],int .i64 0,int .i64 0,int .i64 0]) m5) [slice x4 y4 z4,slice a5 b5 c5,slice d5 e5 f5,slice g5 h5 i5,slice j5 k5 l5] 0))→m3 [int .i64 n3,int .i64 o3,int .i64 p3,int .i64 q3] r3)→
 m3 [int .i64 0,int .i64 0,int .i64 0,int .i64 0] s2)))) [slice n1 o1 p1,slice q1 r1 s1] 0)
theorem Et (a:Bool) (b:OA) (c d:Nat) (f:OA) (g h:Nat) (i:OA) (j k:Nat) (l:OA) (m n:Nat) (o:OA) (p q:Nat) (w:World) (R:RW) (hh:QL a b c d f g h i j k l m n o p q w R):CR 33 #[agg #[bool a,slice b c d,slice f g h,slice i j k,slice l m n,slice o p q]] w R:=
 az (fn:=Tryz.f33) (by kernel_rfl) (by kernel_rfl) (by kernel_rfl) (by kernel_rfl) (by kernel_rfl) hh
def QF (a:OA) (b c:Nat) (d:OA) (f g:Nat) (h:OA) (i j:Nat) (k:OA) (l m:Nat) (w:World) (R:RW):Prop:=
 ac (decide ((b:Int)>60))
 (R (bool true) w)
 (ac (decide ((f:Int)>20))
 (R (bool true) w)
 (ac (decide ((i:Int)>20))
 (R (bool true) w)
 (CP 102 #[slice k l m] w (fun n o=>
 ∃p,n= .returned (bool p)∧
 R (bool p) o))))
theorem DG (a:OA) (b c:Nat) (d:OA) (f g:Nat) (h:OA) (i j:Nat) (k:OA) (l m:Nat) (w:World) (R:RW) (hh:QF a b c d f g h i j k l m w R):CR 40 #[slice a b c,slice d f g,slice h i j,slice k l m] w R:=
 az (fn:=Tryz.f40) (by kernel_rfl) (by kernel_rfl) (by kernel_rfl) (by kernel_rfl) (by kernel_rfl) hh
def Q3 (a:OA) (b c:Nat) (d:OA) (f g:Nat) (h:OA) (i j:Nat) (k:OA) (l m:Nat) (w:World) (R:RW):Prop:=
 ∀n,n=w.alloc (.cells #[bool false,slice none 0 0,slice none 0 0,slice none 0 0,slice none 0 0,slice none 0 0] 71)→
 CP 103 #[slice a b c] n (fun o p=>
 ∃q r s t x y,o= .returned (agg #[slice q r s,slice t x y])∧
 ∀z,z=p.alloc (.cells #[slice none 0 0,slice none 0 0] 35)→
 ax z (nb p) (fun a1=>
 ∃b1 c1 d1,a1.cell? ((nb p).add 1)=some (slice b1 c1 d1)∧
 ∀e1,e1=a1.alloc (.cells #[bool false,slice none 0 0,slice none 0 0,slice none 0 0,slice none 0 0,slice none 0 0] 71)→
 ax e1 (nb a1) (fun f1=>
 ∀g1:KW,(∀(h1:Int) (i1:World),(ac (decide (h1< (f:Int)))
 (ac (decide (h1<8))
 (∀j1:KW,(∀k1:World,(Ar .i64 (h1+1) (fun l1=>
 g1 [int .i64 l1] k1))→j1 [] k1)→
 Ar .i64 (h1+1) (fun m1=>
 (0:Int)≤h1∧h1≤m1∧m1≤(g:Int)∧True∧True∧
 CP 104 #[agg #[slice (cd d h1.toNat (g:Int).toNat 3) (m1.toNat-h1.toNat) ((g:Int).toNat-h1.toNat),slice none 0 0]] i1 (fun n1 o1=>
 ∃p1,n1= .returned (bool p1)∧
 ac p1
 (∀q1,q1=o1.drew→
 ∃r1 s1 t1,q1.cell? ((nb a1).add 4)=some (slice r1 s1 t1)∧
 af d (fun u1=>
 (0:Int)≤h1∧h1< (f:Int)∧
 ∃v1 x1 y1,(q1.cell? (u1.add (h1.toNat*3))=some (int .i64 v1)∧q1.cell? ((u1.add (h1.toNat*3)).add 1)=some (int .i64 x1)∧q1.cell? ((u1.add (h1.toNat*3)).add 2)=some (int .i64 y1)∧True)∧
 ∀z1,z1=q1.alloc (.cells #[int .i64 v1,int .i64 x1,int .i64 y1] 89)→
 (z1.cell? ((nb a1).add 4)=some (slice r1 s1 t1)∧True)∧
 ∃a2 b2 c2 d2,(Builtin.append_ #[23,23] 23 #[slice r1 s1 t1,slice (some (nb q1)) 1 1]).run Tryz.prog z1= .ok (slice a2 b2 c2) d2∧
 (slice a2 b2 c2).oneCell'=true∧(∃u,d2.cell? ((nb a1).add 4)=some u)∧d2.frozen? ((nb a1).add 4)=false∧
 ∀e2,e2=(d2.setCell ((nb a1).add 4) (slice a2 b2 c2))→
 j1 [] e2))
 (j1 [] o1))))
 (∀f2:KW,(∀(g2:Int) (h2:World),(ac (decide (g2< (i:Int)))
 (ac (decide (g2<8))
 (∀i2:KW,(∀j2:World,(Ar .i64 (g2+1) (fun k2=>
 f2 [int .i64 k2] j2))→i2 [] j2)→
 Ar .i64 (g2+1) (fun l2=>
 (0:Int)≤g2∧g2≤l2∧l2≤(j:Int)∧True∧True∧
 CP 104 #[agg #[slice none 0 0,slice (cd h g2.toNat (j:Int).toNat 2) (l2.toNat-g2.toNat) ((j:Int).toNat-g2.toNat)]] h2 (fun m2 n2=>
 ∃o2,m2= .returned (bool o2)∧
 ac o2
 (∀p2,p2=n2.drew→
 ∃q2 r2 s2,p2.cell? ((nb a1).add 5)=some (slice q2 r2 s2)∧
 af h (fun t2=>
 (0:Int)≤g2∧g2< (i:Int)∧
 ∃u2 v2,(p2.cell? (t2.add (g2.toNat*2))=some (int .i64 u2)∧p2.cell? ((t2.add (g2.toNat*2)).add 1)=some (int .i64 v2)∧True)∧
 ∀x2,x2=p2.alloc (.cells #[int .i64 u2,int .i64 v2] 170)→
 (x2.cell? ((nb a1).add 5)=some (slice q2 r2 s2)∧True)∧
 ∃y2 z2 a3 b3,(Builtin.append_ #[24,24] 24 #[slice q2 r2 s2,slice (some (nb p2)) 1 1]).run Tryz.prog x2= .ok (slice y2 z2 a3) b3∧
 (slice y2 z2 a3).oneCell'=true∧(∃u,b3.cell? ((nb a1).add 5)=some u)∧b3.frozen? ((nb a1).add 5)=false∧
 ∀c3,c3=(b3.setCell ((nb a1).add 5) (slice y2 z2 a3))→
 i2 [] c3))
 (i2 [] n2))))
 (∀d3:KW,(∀(e3:Int) (f3:World),(ac (decide (e3< (l:Int)))
 (ac (decide (e3<6))
 (∀g3:KW,(∀h3:World,(Ar .i64 (e3+1) (fun i3=>
 d3 [int .i64 i3] h3))→g3 [] h3)→
 ∀j3,j3=f3.drew→
 ∃k3 l3 m3,j3.cell? ((nb a1).add 3)=some (slice k3 l3 m3)∧
 Ar .i64 ((1000:Int)+e3) (fun n3=>
 af k (fun o3=>
 (0:Int)≤e3∧e3< (l:Int)∧
 ∃p3,j3.cell? ((o3.add (e3.toNat*2)).add 1)=some (string p3)∧
 (∀q3,q3=j3.alloc (.cells #[] 87)→
 (q3.cell? ((o3.add (e3.toNat*2)).add 1)=some (string p3)∧True)∧
 (q3.cell? ((nb a1).add 3)=some (slice k3 l3 m3)∧True)∧
 (∃r3 s3 t3 u3,(Builtin.append_ #[25,25] 25 #[slice (some (nb j3)) 0 0,slice k3 l3 m3]).run Tryz.prog q3= .ok (slice r3 s3 t3) u3∧
 (u3.cell? ((o3.add (e3.toNat*2)).add 1)=some (string p3)∧True)∧
 ∀v3,v3=u3.alloc (.cells #[int .i64 n3,string p3] 87)→
 ∃x3 y3 z3 a4,(Builtin.append_ #[25,25] 25 #[slice r3 s3 t3,slice (some (nb u3)) 1 1]).run Tryz.prog v3= .ok (slice x3 y3 z3) a4∧
 CP 98 #[slice x3 y3 z3] a4 (fun b4 c4=>
 ∃d4 e4,b4= .returned (tuple #[int .i64 d4,int .i64 e4])∧
 ac (e4==0)
 ((slice x3 y3 z3).oneCell'=true∧(∃u,c4.cell? ((nb a1).add 3)=some u)∧c4.frozen? ((nb a1).add 3)=false∧
 ∀f4,f4=(c4.setCell ((nb a1).add 3) (slice x3 y3 z3))→
 g3 [] f4)
 (g3 [] c4)))∧
 (∀g4,g4=q3.alloc (.cells #[int .i64 n3,string p3] 87)→
 (g4.cell? ((nb a1).add 3)=some (slice k3 l3 m3)∧True)∧
 ∃h4 i4 j4 k4,(Builtin.append_ #[25,25] 25 #[slice (some (nb j3)) 0 0,slice k3 l3 m3]).run Tryz.prog g4= .ok (slice h4 i4 j4) k4∧
 ∃l4 m4 n4 o4,(Builtin.append_ #[25,25] 25 #[slice h4 i4 j4,slice (some (nb q3)) 1 1]).run Tryz.prog k4= .ok (slice l4 m4 n4) o4∧
 CP 98 #[slice l4 m4 n4] o4 (fun p4 q4=>
 ∃r4 s4,p4= .returned (tuple #[int .i64 r4,int .i64 s4])∧
 ac (s4==0)
 ((slice l4 m4 n4).oneCell'=true∧(∃u,q4.cell? ((nb a1).add 3)=some u)∧q4.frozen? ((nb a1).add 3)=false∧
 ∀t4,t4=(q4.setCell ((nb a1).add 3) (slice l4 m4 n4))→
 g3 [] t4)
 (g3 [] q4))))∧
 (∀u4,u4=j3.alloc (.cells #[int .i64 n3,string p3] 87)→
 (u4.cell? ((nb a1).add 3)=some (slice k3 l3 m3)∧True)∧
 ∀v4,v4=u4.alloc (.cells #[] 87)→
 (v4.cell? ((nb a1).add 3)=some (slice k3 l3 m3)∧True)∧
 ∃x4 y4 z4 a5,(Builtin.append_ #[25,25] 25 #[slice (some (nb u4)) 0 0,slice k3 l3 m3]).run Tryz.prog v4= .ok (slice x4 y4 z4) a5∧
 ∃b5 c5 d5 e5,(Builtin.append_ #[25,25] 25 #[slice x4 y4 z4,slice (some (nb j3)) 1 1]).run Tryz.prog a5= .ok (slice b5 c5 d5) e5∧
 CP 98 #[slice b5 c5 d5] e5 (fun f5 g5=>
 ∃h5 i5,f5= .returned (tuple #[int .i64 h5,int .i64 i5])∧
 ac (i5==0)
 ((slice b5 c5 d5).oneCell'=true∧(∃u,g5.cell? ((nb a1).add 3)=some u)∧g5.frozen? ((nb a1).add 3)=false∧
 ∀j5,j5=(g5.setCell ((nb a1).add 3) (slice b5 c5 d5))→
 g3 [] j5)
 (g3 [] g5))))))
 (∃k5 l5 m5 n5 o5 p5 q5 r5 s5 t5 u5 v5 x5 y5 z5 a6,(f3.cell? (nb a1)=some (bool k5)∧f3.cell? ((nb a1).add 1)=some (slice l5 m5 n5)∧f3.cell? ((nb a1).add 2)=some (slice o5 p5 q5)∧f3.cell? ((nb a1).add 3)=some (slice r5 s5 t5)∧f3.cell? ((nb a1).add 4)=some (slice u5 v5 x5)∧f3.cell? ((nb a1).add 5)=some (slice y5 z5 a6)∧True)∧
 ax f3 (nb w) (fun b6=>
 ∃c6 d6 e6 f6 g6 h6 i6 j6 k6 l6 m6 n6 o6 p6 q6 r6,(b6.cell? (nb w)=some (bool c6)∧b6.cell? ((nb w).add 1)=some (slice d6 e6 f6)∧b6.cell? ((nb w).add 2)=some (slice g6 h6 i6)∧b6.cell? ((nb w).add 3)=some (slice j6 k6 l6)∧b6.cell? ((nb w).add 4)=some (slice m6 n6 o6)∧b6.cell? ((nb w).add 5)=some (slice p6 q6 r6)∧True)∧
 R (agg #[bool c6,slice d6 e6 f6,slice g6 h6 i6,slice j6 k6 l6,slice m6 n6 o6,slice p6 q6 r6]) b6) [bool k5,slice l5 m5 n5,slice o5 p5 q5,slice r5 s5 t5,slice u5 v5 x5,slice y5 z5 a6] 0))
 (∃s6 t6 u6 v6 x6 y6 z6 a7 b7 c7 d7 e7 f7 g7 h7 i7,(f3.cell? (nb a1)=some (bool s6)∧f3.cell? ((nb a1).add 1)=some (slice t6 u6 v6)∧f3.cell? ((nb a1).add 2)=some (slice x6 y6 z6)∧f3.cell? ((nb a1).add 3)=some (slice a7 b7 c7)∧f3.cell? ((nb a1).add 4)=some (slice d7 e7 f7)∧f3.cell? ((nb a1).add 5)=some (slice g7 h7 i7)∧True)∧
 ax f3 (nb w) (fun j7=>
 ∃k7 l7 m7 n7 o7 p7 q7 r7 s7 t7 u7 v7 x7 y7 z7 a8,(j7.cell? (nb w)=some (bool k7)∧j7.cell? ((nb w).add 1)=some (slice l7 m7 n7)∧j7.cell? ((nb w).add 2)=some (slice o7 p7 q7)∧j7.cell? ((nb w).add 3)=some (slice r7 s7 t7)∧j7.cell? ((nb w).add 4)=some (slice u7 v7 x7)∧j7.cell? ((nb w).add 5)=some (slice y7 z7 a8)∧True)∧
 R (agg #[bool k7,slice l7 m7 n7,slice o7 p7 q7,slice r7 s7 t7,slice u7 v7 x7,slice y7 z7 a8]) j7) [bool s6,slice t6 u6 v6,slice x6 y6 z6,slice a7 b7 c7,slice d7 e7 f7,slice g7 h7 i7] 0))→d3 [int .i64 e3] f3)→
 d3 [int .i64 0] h2))
 (∀b8:KW,(∀(c8:Int) (d8:World),(ac (decide (c8< (l:Int)))
 (ac (decide (c8<6))
 (∀e8:KW,(∀f8:World,(Ar .i64 (c8+1) (fun g8=>
 b8 [int .i64 g8] f8))→e8 [] f8)→
 ∀h8,h8=d8.drew→
 ∃i8 j8 k8,h8.cell? ((nb a1).add 3)=some (slice i8 j8 k8)∧
 Ar .i64 ((1000:Int)+c8) (fun l8=>
 af k (fun m8=>
 (0:Int)≤c8∧c8< (l:Int)∧
 ∃n8,h8.cell? ((m8.add (c8.toNat*2)).add 1)=some (string n8)∧
 (∀o8,o8=h8.alloc (.cells #[] 87)→
 (o8.cell? ((m8.add (c8.toNat*2)).add 1)=some (string n8)∧True)∧
 (o8.cell? ((nb a1).add 3)=some (slice i8 j8 k8)∧True)∧
 (∃p8 q8 r8 s8,(Builtin.append_ #[25,25] 25 #[slice (some (nb h8)) 0 0,slice i8 j8 k8]).run Tryz.prog o8= .ok (slice p8 q8 r8) s8∧
 (s8.cell? ((m8.add (c8.toNat*2)).add 1)=some (string n8)∧True)∧
 ∀t8,t8=s8.alloc (.cells #[int .i64 l8,string n8] 87)→
 ∃u8 v8 x8 y8,(Builtin.append_ #[25,25] 25 #[slice p8 q8 r8,slice (some (nb s8)) 1 1]).run Tryz.prog t8= .ok (slice u8 v8 x8) y8∧
 CP 98 #[slice u8 v8 x8] y8 (fun z8 a9=>
 ∃b9 c9,z8= .returned (tuple #[int .i64 b9,int .i64 c9])∧
 ac (c9==0)
 ((slice u8 v8 x8).oneCell'=true∧(∃u,a9.cell? ((nb a1).add 3)=some u)∧a9.frozen? ((nb a1).add 3)=false∧
 ∀d9,d9=(a9.setCell ((nb a1).add 3) (slice u8 v8 x8))→
 e8 [] d9)
 (e8 [] a9)))∧
 (∀e9,e9=o8.alloc (.cells #[int .i64 l8,string n8] 87)→
 (e9.cell? ((nb a1).add 3)=some (slice i8 j8 k8)∧True)∧
 ∃f9 g9 h9 i9,(Builtin.append_ #[25,25] 25 #[slice (some (nb h8)) 0 0,slice i8 j8 k8]).run Tryz.prog e9= .ok (slice f9 g9 h9) i9∧
 ∃j9 k9 l9 m9,(Builtin.append_ #[25,25] 25 #[slice f9 g9 h9,slice (some (nb o8)) 1 1]).run Tryz.prog i9= .ok (slice j9 k9 l9) m9∧
 CP 98 #[slice j9 k9 l9] m9 (fun n9 o9=>
 ∃p9 q9,n9= .returned (tuple #[int .i64 p9,int .i64 q9])∧
 ac (q9==0)
 ((slice j9 k9 l9).oneCell'=true∧(∃u,o9.cell? ((nb a1).add 3)=some u)∧o9.frozen? ((nb a1).add 3)=false∧
 ∀r9,r9=(o9.setCell ((nb a1).add 3) (slice j9 k9 l9))→
 e8 [] r9)
 (e8 [] o9))))∧
 (∀s9,s9=h8.alloc (.cells #[int .i64 l8,string n8] 87)→
 (s9.cell? ((nb a1).add 3)=some (slice i8 j8 k8)∧True)∧
 ∀t9,t9=s9.alloc (.cells #[] 87)→
 (t9.cell? ((nb a1).add 3)=some (slice i8 j8 k8)∧True)∧
 ∃u9 v9 x9 y9,(Builtin.append_ #[25,25] 25 #[slice (some (nb s9)) 0 0,slice i8 j8 k8]).run Tryz.prog t9= .ok (slice u9 v9 x9) y9∧
 ∃z9 a10 b10 c10,(Builtin.append_ #[25,25] 25 #[slice u9 v9 x9,slice (some (nb h8)) 1 1]).run Tryz.prog y9= .ok (slice z9 a10 b10) c10∧
 CP 98 #[slice z9 a10 b10] c10 (fun d10 e10=>
 ∃f10 g10,d10= .returned (tuple #[int .i64 f10,int .i64 g10])∧
 ac (g10==0)
 ((slice z9 a10 b10).oneCell'=true∧(∃u,e10.cell? ((nb a1).add 3)=some u)∧e10.frozen? ((nb a1).add 3)=false∧
 ∀h10,h10=(e10.setCell ((nb a1).add 3) (slice z9 a10 b10))→
 e8 [] h10)
 (e8 [] e10))))))
 (∃i10 j10 k10 l10 m10 n10 o10 p10 q10 r10 s10 t10 u10 v10 x10 y10,(d8.cell? (nb a1)=some (bool i10)∧d8.cell? ((nb a1).add 1)=some (slice j10 k10 l10)∧d8.cell? ((nb a1).add 2)=some (slice m10 n10 o10)∧d8.cell? ((nb a1).add 3)=some (slice p10 q10 r10)∧d8.cell? ((nb a1).add 4)=some (slice s10 t10 u10)∧d8.cell? ((nb a1).add 5)=some (slice v10 x10 y10)∧True)∧
 ax d8 (nb w) (fun z10=>
 ∃a11 b11 c11 d11 e11 f11 g11 h11 i11 j11 k11 l11 m11 n11 o11 p11,(z10.cell? (nb w)=some (bool a11)∧z10.cell? ((nb w).add 1)=some (slice b11 c11 d11)∧z10.cell? ((nb w).add 2)=some (slice e11 f11 g11)∧z10.cell? ((nb w).add 3)=some (slice h11 i11 j11)∧z10.cell? ((nb w).add 4)=some (slice k11 l11 m11)∧z10.cell? ((nb w).add 5)=some (slice n11 o11 p11)∧True)∧
 R (agg #[bool a11,slice b11 c11 d11,slice e11 f11 g11,slice h11 i11 j11,slice k11 l11 m11,slice n11 o11 p11]) z10) [bool i10,slice j10 k10 l10,slice m10 n10 o10,slice p10 q10 r10,slice s10 t10 u10,slice v10 x10 y10] 0))
 (∃q11 r11 s11 t11 u11 v11 x11 y11 z11 a12 b12 c12 d12 e12 f12 g12,(d8.cell? (nb a1)=some (bool q11)∧d8.cell? ((nb a1).add 1)=some (slice r11 s11 t11)∧d8.cell? ((nb a1).add 2)=some (slice u11 v11 x11)∧d8.cell? ((nb a1).add 3)=some (slice y11 z11 a12)∧d8.cell? ((nb a1).add 4)=some (slice b12 c12 d12)∧d8.cell? ((nb a1).add 5)=some (slice e12 f12 g12)∧True)∧
 ax d8 (nb w) (fun h12=>
 ∃i12 j12 k12 l12 m12 n12 o12 p12 q12 r12 s12 t12 u12 v12 x12 y12,(h12.cell? (nb w)=some (bool i12)∧h12.cell? ((nb w).add 1)=some (slice j12 k12 l12)∧h12.cell? ((nb w).add 2)=some (slice m12 n12 o12)∧h12.cell? ((nb w).add 3)=some (slice p12 q12 r12)∧h12.cell? ((nb w).add 4)=some (slice s12 t12 u12)∧h12.cell? ((nb w).add 5)=some (slice v12 x12 y12)∧True)∧
 R (agg #[bool i12,slice j12 k12 l12,slice m12 n12 o12,slice p12 q12 r12,slice s12 t12 u12,slice v12 x12 y12]) h12) [bool q11,slice r11 s11 t11,slice u11 v11 x11,slice y11 z11 a12,slice b12 c12 d12,slice e12 f12 g12] 0))→b8 [int .i64 c8] d8)→
 b8 [int .i64 0] h2))→f2 [int .i64 g2] h2)→
 f2 [int .i64 0] i1))
 (∀z12:KW,(∀(a13:Int) (b13:World),(ac (decide (a13< (i:Int)))
 (ac (decide (a13<8))
 (∀c13:KW,(∀d13:World,(Ar .i64 (a13+1) (fun e13=>
 z12 [int .i64 e13] d13))→c13 [] d13)→
 Ar .i64 (a13+1) (fun f13=>
 (0:Int)≤a13∧a13≤f13∧f13≤(j:Int)∧True∧True∧
 CP 104 #[agg #[slice none 0 0,slice (cd h a13.toNat (j:Int).toNat 2) (f13.toNat-a13.toNat) ((j:Int).toNat-a13.toNat)]] b13 (fun g13 h13=>
 ∃i13,g13= .returned (bool i13)∧
 ac i13
 (∀j13,j13=h13.drew→
 ∃k13 l13 m13,j13.cell? ((nb a1).add 5)=some (slice k13 l13 m13)∧
 af h (fun n13=>
 (0:Int)≤a13∧a13< (i:Int)∧
 ∃o13 p13,(j13.cell? (n13.add (a13.toNat*2))=some (int .i64 o13)∧j13.cell? ((n13.add (a13.toNat*2)).add 1)=some (int .i64 p13)∧True)∧
 ∀q13,q13=j13.alloc (.cells #[int .i64 o13,int .i64 p13] 170)→
 (q13.cell? ((nb a1).add 5)=some (slice k13 l13 m13)∧True)∧
 ∃r13 s13 t13 u13,(Builtin.append_ #[24,24] 24 #[slice k13 l13 m13,slice (some (nb j13)) 1 1]).run Tryz.prog q13= .ok (slice r13 s13 t13) u13∧
 (slice r13 s13 t13).oneCell'=true∧(∃u,u13.cell? ((nb a1).add 5)=some u)∧u13.frozen? ((nb a1).add 5)=false∧
 ∀v13,v13=(u13.setCell ((nb a1).add 5) (slice r13 s13 t13))→
 c13 [] v13))
 (c13 [] h13))))
 (∀x13:KW,(∀(y13:Int) (z13:World),(ac (decide (y13< (l:Int)))
 (ac (decide (y13<6))
 (∀a14:KW,(∀b14:World,(Ar .i64 (y13+1) (fun c14=>
 x13 [int .i64 c14] b14))→a14 [] b14)→
 ∀d14,d14=z13.drew→
 ∃e14 f14 g14,d14.cell? ((nb a1).add 3)=some (slice e14 f14 g14)∧
 Ar .i64 ((1000:Int)+y13) (fun h14=>
 af k (fun i14=>
 (0:Int)≤y13∧y13< (l:Int)∧
 ∃j14,d14.cell? ((i14.add (y13.toNat*2)).add 1)=some (string j14)∧
 (∀k14,k14=d14.alloc (.cells #[] 87)→
 (k14.cell? ((i14.add (y13.toNat*2)).add 1)=some (string j14)∧True)∧
 (k14.cell? ((nb a1).add 3)=some (slice e14 f14 g14)∧True)∧
 (∃l14 m14 n14 o14,(Builtin.append_ #[25,25] 25 #[slice (some (nb d14)) 0 0,slice e14 f14 g14]).run Tryz.prog k14= .ok (slice l14 m14 n14) o14∧
 (o14.cell? ((i14.add (y13.toNat*2)).add 1)=some (string j14)∧True)∧
 ∀p14,p14=o14.alloc (.cells #[int .i64 h14,string j14] 87)→
 ∃q14 r14 s14 t14,(Builtin.append_ #[25,25] 25 #[slice l14 m14 n14,slice (some (nb o14)) 1 1]).run Tryz.prog p14= .ok (slice q14 r14 s14) t14∧
 CP 98 #[slice q14 r14 s14] t14 (fun u14 v14=>
 ∃x14 y14,u14= .returned (tuple #[int .i64 x14,int .i64 y14])∧
 ac (y14==0)
 ((slice q14 r14 s14).oneCell'=true∧(∃u,v14.cell? ((nb a1).add 3)=some u)∧v14.frozen? ((nb a1).add 3)=false∧
 ∀z14,z14=(v14.setCell ((nb a1).add 3) (slice q14 r14 s14))→
 a14 [] z14)
 (a14 [] v14)))∧
 (∀a15,a15=k14.alloc (.cells #[int .i64 h14,string j14] 87)→
 (a15.cell? ((nb a1).add 3)=some (slice e14 f14 g14)∧True)∧
 ∃b15 c15 d15 e15,(Builtin.append_ #[25,25] 25 #[slice (some (nb d14)) 0 0,slice e14 f14 g14]).run Tryz.prog a15= .ok (slice b15 c15 d15) e15∧
 ∃f15 g15 h15 i15,(Builtin.append_ #[25,25] 25 #[slice b15 c15 d15,slice (some (nb k14)) 1 1]).run Tryz.prog e15= .ok (slice f15 g15 h15) i15∧
 CP 98 #[slice f15 g15 h15] i15 (fun j15 k15=>
 ∃l15 m15,j15= .returned (tuple #[int .i64 l15,int .i64 m15])∧
 ac (m15==0)
 ((slice f15 g15 h15).oneCell'=true∧(∃u,k15.cell? ((nb a1).add 3)=some u)∧k15.frozen? ((nb a1).add 3)=false∧
 ∀n15,n15=(k15.setCell ((nb a1).add 3) (slice f15 g15 h15))→
 a14 [] n15)
 (a14 [] k15))))∧
 (∀o15,o15=d14.alloc (.cells #[int .i64 h14,string j14] 87)→
 (o15.cell? ((nb a1).add 3)=some (slice e14 f14 g14)∧True)∧
 ∀p15,p15=o15.alloc (.cells #[] 87)→
 (p15.cell? ((nb a1).add 3)=some (slice e14 f14 g14)∧True)∧
 ∃q15 r15 s15 t15,(Builtin.append_ #[25,25] 25 #[slice (some (nb o15)) 0 0,slice e14 f14 g14]).run Tryz.prog p15= .ok (slice q15 r15 s15) t15∧
 ∃u15 v15 x15 y15,(Builtin.append_ #[25,25] 25 #[slice q15 r15 s15,slice (some (nb d14)) 1 1]).run Tryz.prog t15= .ok (slice u15 v15 x15) y15∧
 CP 98 #[slice u15 v15 x15] y15 (fun z15 a16=>
 ∃b16 c16,z15= .returned (tuple #[int .i64 b16,int .i64 c16])∧
 ac (c16==0)
 ((slice u15 v15 x15).oneCell'=true∧(∃u,a16.cell? ((nb a1).add 3)=some u)∧a16.frozen? ((nb a1).add 3)=false∧
 ∀d16,d16=(a16.setCell ((nb a1).add 3) (slice u15 v15 x15))→
 a14 [] d16)
 (a14 [] a16))))))
 (∃e16 f16 g16 h16 i16 j16 k16 l16 m16 n16 o16 p16 q16 r16 s16 t16,(z13.cell? (nb a1)=some (bool e16)∧z13.cell? ((nb a1).add 1)=some (slice f16 g16 h16)∧z13.cell? ((nb a1).add 2)=some (slice i16 j16 k16)∧z13.cell? ((nb a1).add 3)=some (slice l16 m16 n16)∧z13.cell? ((nb a1).add 4)=some (slice o16 p16 q16)∧z13.cell? ((nb a1).add 5)=some (slice r16 s16 t16)∧True)∧
 ax z13 (nb w) (fun u16=>
 ∃v16 x16 y16 z16 a17 b17 c17 d17 e17 f17 g17 h17 i17 j17 k17 l17,(u16.cell? (nb w)=some (bool v16)∧u16.cell? ((nb w).add 1)=some (slice x16 y16 z16)∧u16.cell? ((nb w).add 2)=some (slice a17 b17 c17)∧u16.cell? ((nb w).add 3)=some (slice d17 e17 f17)∧u16.cell? ((nb w).add 4)=some (slice g17 h17 i17)∧u16.cell? ((nb w).add 5)=some (slice j17 k17 l17)∧True)∧
 R (agg #[bool v16,slice x16 y16 z16,slice a17 b17 c17,slice d17 e17 f17,slice g17 h17 i17,slice j17 k17 l17]) u16) [bool e16,slice f16 g16 h16,slice i16 j16 k16,slice l16 m16 n16,slice o16 p16 q16,slice r16 s16 t16] 0))
 (∃m17 n17 o17 p17 q17 r17 s17 t17 u17 v17 x17 y17 z17 a18 b18 c18,(z13.cell? (nb a1)=some (bool m17)∧z13.cell? ((nb a1).add 1)=some (slice n17 o17 p17)∧z13.cell? ((nb a1).add 2)=some (slice q17 r17 s17)∧z13.cell? ((nb a1).add 3)=some (slice t17 u17 v17)∧z13.cell? ((nb a1).add 4)=some (slice x17 y17 z17)∧z13.cell? ((nb a1).add 5)=some (slice a18 b18 c18)∧True)∧
 ax z13 (nb w) (fun d18=>
 ∃e18 f18 g18 h18 i18 j18 k18 l18 m18 n18 o18 p18 q18 r18 s18 t18,(d18.cell? (nb w)=some (bool e18)∧d18.cell? ((nb w).add 1)=some (slice f18 g18 h18)∧d18.cell? ((nb w).add 2)=some (slice i18 j18 k18)∧d18.cell? ((nb w).add 3)=some (slice l18 m18 n18)∧d18.cell? ((nb w).add 4)=some (slice o18 p18 q18)∧d18.cell? ((nb w).add 5)=some (slice r18 s18 t18)∧True)∧
 R (agg #[bool e18,slice f18 g18 h18,slice i18 j18 k18,slice l18 m18 n18,slice o18 p18 q18,slice r18 s18 t18]) d18) [bool m17,slice n17 o17 p17,slice q17 r17 s17,slice t17 u17 v17,slice x17 y17 z17,slice a18 b18 c18] 0))→x13 [int .i64 y13] z13)→
 x13 [int .i64 0] b13))
 (∀u18:KW,(∀(v18:Int) (x18:World),(ac (decide (v18< (l:Int)))
 (ac (decide (v18<6))
 (∀y18:KW,(∀z18:World,(Ar .i64 (v18+1) (fun a19=>
 u18 [int .i64 a19] z18))→y18 [] z18)→
 ∀b19,b19=x18.drew→
 ∃c19 d19 e19,b19.cell? ((nb a1).add 3)=some (slice c19 d19 e19)∧
 Ar .i64 ((1000:Int)+v18) (fun f19=>
 af k (fun g19=>
 (0:Int)≤v18∧v18< (l:Int)∧
 ∃h19,b19.cell? ((g19.add (v18.toNat*2)).add 1)=some (string h19)∧
 (∀i19,i19=b19.alloc (.cells #[] 87)→
 (i19.cell? ((g19.add (v18.toNat*2)).add 1)=some (string h19)∧True)∧
 (i19.cell? ((nb a1).add 3)=some (slice c19 d19 e19)∧True)∧
 (∃j19 k19 l19 m19,(Builtin.append_ #[25,25] 25 #[slice (some (nb b19)) 0 0,slice c19 d19 e19]).run Tryz.prog i19= .ok (slice j19 k19 l19) m19∧
 (m19.cell? ((g19.add (v18.toNat*2)).add 1)=some (string h19)∧True)∧
 ∀n19,n19=m19.alloc (.cells #[int .i64 f19,string h19] 87)→
 ∃o19 p19 q19 r19,(Builtin.append_ #[25,25] 25 #[slice j19 k19 l19,slice (some (nb m19)) 1 1]).run Tryz.prog n19= .ok (slice o19 p19 q19) r19∧
 CP 98 #[slice o19 p19 q19] r19 (fun s19 t19=>
 ∃u19 v19,s19= .returned (tuple #[int .i64 u19,int .i64 v19])∧
 ac (v19==0)
 ((slice o19 p19 q19).oneCell'=true∧(∃u,t19.cell? ((nb a1).add 3)=some u)∧t19.frozen? ((nb a1).add 3)=false∧
 ∀x19,x19=(t19.setCell ((nb a1).add 3) (slice o19 p19 q19))→
 y18 [] x19)
 (y18 [] t19)))∧
 (∀y19,y19=i19.alloc (.cells #[int .i64 f19,string h19] 87)→
 (y19.cell? ((nb a1).add 3)=some (slice c19 d19 e19)∧True)∧
 ∃z19 a20 b20 c20,(Builtin.append_ #[25,25] 25 #[slice (some (nb b19)) 0 0,slice c19 d19 e19]).run Tryz.prog y19= .ok (slice z19 a20 b20) c20∧
 ∃d20 e20 f20 g20,(Builtin.append_ #[25,25] 25 #[slice z19 a20 b20,slice (some (nb i19)) 1 1]).run Tryz.prog c20= .ok (slice d20 e20 f20) g20∧
 CP 98 #[slice d20 e20 f20] g20 (fun h20 i20=>
 ∃j20 k20,h20= .returned (tuple #[int .i64 j20,int .i64 k20])∧
 ac (k20==0)
 ((slice d20 e20 f20).oneCell'=true∧(∃u,i20.cell? ((nb a1).add 3)=some u)∧i20.frozen? ((nb a1).add 3)=false∧
 ∀l20,l20=(i20.setCell ((nb a1).add 3) (slice d20 e20 f20))→
 y18 [] l20)
 (y18 [] i20))))∧
 (∀m20,m20=b19.alloc (.cells #[int .i64 f19,string h19] 87)→
 (m20.cell? ((nb a1).add 3)=some (slice c19 d19 e19)∧True)∧
 ∀n20,n20=m20.alloc (.cells #[] 87)→
 (n20.cell? ((nb a1).add 3)=some (slice c19 d19 e19)∧True)∧
 ∃o20 p20 q20 r20,(Builtin.append_ #[25,25] 25 #[slice (some (nb m20)) 0 0,slice c19 d19 e19]).run Tryz.prog n20= .ok (slice o20 p20 q20) r20∧
 ∃s20 t20 u20 v20,(Builtin.append_ #[25,25] 25 #[slice o20 p20 q20,slice (some (nb b19)) 1 1]).run Tryz.prog r20= .ok (slice s20 t20 u20) v20∧
 CP 98 #[slice s20 t20 u20] v20 (fun x20 y20=>
 ∃z20 a21,x20= .returned (tuple #[int .i64 z20,int .i64 a21])∧
 ac (a21==0)
 ((slice s20 t20 u20).oneCell'=true∧(∃u,y20.cell? ((nb a1).add 3)=some u)∧y20.frozen? ((nb a1).add 3)=false∧
 ∀b21,b21=(y20.setCell ((nb a1).add 3) (slice s20 t20 u20))→
 y18 [] b21)
 (y18 [] y20))))))
 (∃c21 d21 e21 f21 g21 h21 i21 j21 k21 l21 m21 n21 o21 p21 q21 r21,(x18.cell? (nb a1)=some (bool c21)∧x18.cell? ((nb a1).add 1)=some (slice d21 e21 f21)∧x18.cell? ((nb a1).add 2)=some (slice g21 h21 i21)∧x18.cell? ((nb a1).add 3)=some (slice j21 k21 l21)∧x18.cell? ((nb a1).add 4)=some (slice m21 n21 o21)∧x18.cell? ((nb a1).add 5)=some (slice p21 q21 r21)∧True)∧
 ax x18 (nb w) (fun s21=>
 ∃t21 u21 v21 x21 y21 z21 a22 b22 c22 d22 e22 f22 g22 h22 i22 j22,(s21.cell? (nb w)=some (bool t21)∧s21.cell? ((nb w).add 1)=some (slice u21 v21 x21)∧s21.cell? ((nb w).add 2)=some (slice y21 z21 a22)∧s21.cell? ((nb w).add 3)=some (slice b22 c22 d22)∧s21.cell? ((nb w).add 4)=some (slice e22 f22 g22)∧s21.cell? ((nb w).add 5)=some (slice h22 i22 j22)∧True)∧
 R (agg #[bool t21,slice u21 v21 x21,slice y21 z21 a22,slice b22 c22 d22,slice e22 f22 g22,slice h22 i22 j22]) s21) [bool c21,slice d21 e21 f21,slice g21 h21 i21,slice j21 k21 l21,slice m21 n21 o21,slice p21 q21 r21] 0))
 (∃k22 l22 m22 n22 o22 p22 q22 r22 s22 t22 u22 v22 x22 y22 z22 a23,(x18.cell? (nb a1)=some (bool k22)∧x18.cell? ((nb a1).add 1)=some (slice l22 m22 n22)∧x18.cell? ((nb a1).add 2)=some (slice o22 p22 q22)∧x18.cell? ((nb a1).add 3)=some (slice r22 s22 t22)∧x18.cell? ((nb a1).add 4)=some (slice u22 v22 x22)∧x18.cell? ((nb a1).add 5)=some (slice y22 z22 a23)∧True)∧
 ax x18 (nb w) (fun b23=>
 ∃c23 d23 e23 f23 g23 h23 i23 j23 k23 l23 m23 n23 o23 p23 q23 r23,(b23.cell? (nb w)=some (bool c23)∧b23.cell? ((nb w).add 1)=some (slice d23 e23 f23)∧b23.cell? ((nb w).add 2)=some (slice g23 h23 i23)∧b23.cell? ((nb w).add 3)=some (slice j23 k23 l23)∧b23.cell? ((nb w).add 4)=some (slice m23 n23 o23)∧b23.cell? ((nb w).add 5)=some (slice p23 q23 r23)∧True)∧
 R (agg #[bool c23,slice d23 e23 f23,slice g23 h23 i23,slice j23 k23 l23,slice m23 n23 o23,slice p23 q23 r23]) b23) [bool k22,slice l22 m22 n22,slice o22 p22 q22,slice r22 s22 t22,slice u22 v22 x22,slice y22 z22 a23] 0))→u18 [int .i64 v18] x18)→
 u18 [int .i64 0] b13))→z12 [int .i64 a13] b13)→
 z12 [int .i64 0] i1))→g1 [int .i64 h1] i1)→
 g1 [int .i64 0] f1) [bool false,slice b1 c1 d1,slice none 0 0,slice none 0 0,slice none 0 0,slice none 0 0] 0) [slice q r s,slice t x y] 0)
theorem Di (a:OA) (b c:Nat) (d:OA) (f g:Nat) (h:OA) (i j:Nat) (k:OA) (l m:Nat) (w:World) (R:RW) (hh:Q3 a b c d f g h i j k l m w R):CR 41 #[slice a b c,slice d f g,slice h i j,slice k l m] w R:=
 az (fn:=Tryz.f41) (by kernel_rfl) (by kernel_rfl) (by kernel_rfl) (by kernel_rfl) (by kernel_rfl) hh
def Qz (a:Bool) (b:OA) (c d:Nat) (f:OA) (g h:Nat) (i:OA) (j k:Nat) (l:OA) (m n:Nat) (o:OA) (p q:Nat) (w:World) (R:RW):Prop:=
 ∀r,r=w.alloc (.cells #[bool a,slice b c d,slice f g h,slice i j k,slice l m n,slice o p q] 71)→
 ∀s,s=r.alloc (.cells #[slice none 0 0,slice none 0 0,slice none 0 0,slice none 0 0,slice none 0 0] 39)→
 ∃t u x y z a1 b1 c1 d1 e1 f1 g1 h1 i1 j1 k1,(s.cell? (nb w)=some (bool t)∧s.cell? ((nb w).add 1)=some (slice u x y)∧s.cell? ((nb w).add 2)=some (slice z a1 b1)∧s.cell? ((nb w).add 3)=some (slice c1 d1 e1)∧s.cell? ((nb w).add 4)=some (slice f1 g1 h1)∧s.cell? ((nb w).add 5)=some (slice i1 j1 k1)∧True)∧
 CP 33 #[agg #[bool t,slice u x y,slice z a1 b1,slice c1 d1 e1,slice f1 g1 h1,slice i1 j1 k1]] s (fun l1 m1=>
 ∃n1 o1 p1 q1 r1 s1 t1 u1 v1 x1 y1 z1 a2 b2 c2 d2 e2 f2,l1= .returned (tuple #[agg #[slice n1 o1 p1,slice q1 r1 s1,slice t1 u1 v1,slice x1 y1 z1,slice a2 b2 c2],int .i64 d2,int .i64 e2,int .i64 f2])∧
 ∀g2,g2=m1.alloc (.cells #[slice none 0 0,slice none 0 0,slice none 0 0,slice none 0 0,slice none 0 0] 39)→
 ax g2 (nb m1) (fun h2=>
 ∃i2 j2 k2 l2 m2 n2 o2 p2 q2 r2 s2 t2 u2 v2 x2,(h2.cell? (nb m1)=some (slice i2 j2 k2)∧h2.cell? ((nb m1).add 1)=some (slice l2 m2 n2)∧h2.cell? ((nb m1).add 2)=some (slice o2 p2 q2)∧h2.cell? ((nb m1).add 3)=some (slice r2 s2 t2)∧h2.cell? ((nb m1).add 4)=some (slice u2 v2 x2)∧True)∧
 ax h2 (nb r) (fun y2=>
 ∃z2 a3 b3 c3 d3 e3 f3 g3 h3 i3 j3 k3 l3 m3 n3,(y2.cell? (nb r)=some (slice z2 a3 b3)∧y2.cell? ((nb r).add 1)=some (slice c3 d3 e3)∧y2.cell? ((nb r).add 2)=some (slice f3 g3 h3)∧y2.cell? ((nb r).add 3)=some (slice i3 j3 k3)∧y2.cell? ((nb r).add 4)=some (slice l3 m3 n3)∧True)∧
 R (agg #[slice z2 a3 b3,slice c3 d3 e3,slice f3 g3 h3,slice i3 j3 k3,slice l3 m3 n3]) y2) [slice i2 j2 k2,slice l2 m2 n2,slice o2 p2 q2,slice r2 s2 t2,slice u2 v2 x2] 0) [slice n1 o1 p1,slice q1 r1 s1,slice t1 u1 v1,slice x1 y1 z1,slice a2 b2 c2] 0)
theorem DO (a:Bool) (b:OA) (c d:Nat) (f:OA) (g h:Nat) (i:OA) (j k:Nat) (l:OA) (m n:Nat) (o:OA) (p q:Nat) (w:World) (R:RW) (hh:Qz a b c d f g h i j k l m n o p q w R):CR 42 #[agg #[bool a,slice b c d,slice f g h,slice i j k,slice l m n,slice o p q]] w R:=
 az (fn:=Tryz.f42) (by kernel_rfl) (by kernel_rfl) (by kernel_rfl) (by kernel_rfl) (by kernel_rfl) hh
def QX (a:OA) (b c:Nat) (d:OA) (f g:Nat) (h:OA) (i j:Nat) (k:OA) (l m:Nat) (n:OA) (o p:Nat) (q:Int) (w:World) (R:RW):Prop:=
 ∀r,r=w.alloc (.cells #[slice a b c,slice d f g,slice h i j,slice k l m,slice n o p] 39)→
 ∃s t u x y z,(r.cell? ((nb w).add 0)=some (slice s t u)∧r.cell? (((nb w).add 0).add 1)=some (slice x y z)∧True)∧
 CP 111 #[agg #[slice s t u,slice x y z],int .i64 q] r (fun a1 b1=>
 ∃c1,a1= .returned (bool c1)∧
 ac c1
 (R (bool true) b1)
 (∃d1 e1 f1 g1 h1 i1 j1 k1 l1 m1 n1 o1 p1 q1 r1,(b1.cell? (nb w)=some (slice d1 e1 f1)∧b1.cell? ((nb w).add 1)=some (slice g1 h1 i1)∧b1.cell? ((nb w).add 2)=some (slice j1 k1 l1)∧b1.cell? ((nb w).add 3)=some (slice m1 n1 o1)∧b1.cell? ((nb w).add 4)=some (slice p1 q1 r1)∧True)∧
 CP 112 #[agg #[slice d1 e1 f1,slice g1 h1 i1,slice j1 k1 l1,slice m1 n1 o1,slice p1 q1 r1],int .i64 q] b1 (fun s1 t1=>
 ∃u1,s1= .returned (int .i64 u1)∧
 R (bool (decide (u1<0))) t1)))
theorem Ee (a:OA) (b c:Nat) (d:OA) (f g:Nat) (h:OA) (i j:Nat) (k:OA) (l m:Nat) (n:OA) (o p:Nat) (q:Int) (w:World) (R:RW) (hh:QX a b c d f g h i j k l m n o p q w R):CR 46 #[agg #[slice a b c,slice d f g,slice h i j,slice k l m,slice n o p],int .i64 q] w R:=
 az (fn:=Tryz.f46) (by kernel_rfl) (by kernel_rfl) (by kernel_rfl) (by kernel_rfl) (by kernel_rfl) hh
def QO (a:OA) (b c:Nat) (d:OA) (f g:Nat) (w:World) (R:RW):Prop:=
 ac ((b:Int) != (f:Int))
 (R (bool false) w)
 (∀h:KW,(∀(i:Int) (j:Bool) (k:World),(ac (decide (i< (b:Int)))
 (∀l,l=k.drew→
 af a (fun m=>
 (0:Int)≤i∧i< (b:Int)∧
 ∃n,l.cell? (m.add (i.toNat*1))=some (int .i64 n)∧
 af d (fun o=>
 (0:Int)≤i∧i< (f:Int)∧
 ∃p,l.cell? (o.add (i.toNat*1))=some (int .i64 p)∧
 ac (n != p)
 (R (bool false) l)
 (Ar .i64 (i+1) (fun q=>
 h [int .i64 q,bool j] l)))))
 (R (bool true) k))→h [int .i64 i,bool j] k)→
 h [int .i64 0,bool false] w)
theorem Em (a:OA) (b c:Nat) (d:OA) (f g:Nat) (w:World) (R:RW) (hh:QO a b c d f g w R):CR 52 #[slice a b c,slice d f g] w R:=
 az (fn:=Tryz.f52) (by kernel_rfl) (by kernel_rfl) (by kernel_rfl) (by kernel_rfl) (by kernel_rfl) hh
def QU (a:Bool) (b:OA) (c d:Nat) (f:OA) (g h:Nat) (i:OA) (j k:Nat) (l:OA) (m n:Nat) (o:OA) (p q:Nat) (w:World) (R:RW):Prop:=
 ∀r,r=w.alloc (.cells #[bool a,slice b c d,slice f g h,slice i j k,slice l m n,slice o p q] 71)→
 ∀s,s=r.alloc (.cells #[slice none 0 0,slice none 0 0] 35)→
 ∃t,s.cell? ((nb w).add 0)=some (bool t)∧
 ac t
 (∃u x y,s.cell? ((nb w).add 2)=some (slice u x y)∧
 CP 140 #[slice u x y] s (fun z a1=>
 ∃b1 c1 d1 e1 f1 g1 h1 i1,z= .returned (tuple #[agg #[slice b1 c1 d1,slice e1 f1 g1],int .i64 h1,int .i64 i1])∧
 ax a1 (nb r) (fun j1=>
 ∃k1 l1 m1 n1 o1 p1,(j1.cell? (nb r)=some (slice k1 l1 m1)∧j1.cell? ((nb r).add 1)=some (slice n1 o1 p1)∧True)∧
 R (tuple #[agg #[slice k1 l1 m1,slice n1 o1 p1],int .i64 h1,int .i64 i1]) j1) [slice b1 c1 d1,slice e1 f1 g1] 0))
 (∃q1 r1 s1,s.cell? ((nb w).add 1)=some (slice q1 r1 s1)∧
 CP 141 #[slice q1 r1 s1] s (fun t1 u1=>
 ∃v1 x1 y1 z1 a2 b2 c2 d2,t1= .returned (tuple #[agg #[slice v1 x1 y1,slice z1 a2 b2],int .i64 c2,int .i64 d2])∧
 ax u1 (nb r) (fun e2=>
 ∃f2 g2 h2 i2 j2 k2,(e2.cell? (nb r)=some (slice f2 g2 h2)∧e2.cell? ((nb r).add 1)=some (slice i2 j2 k2)∧True)∧
 R (tuple #[agg #[slice f2 g2 h2,slice i2 j2 k2],int .i64 c2,int .i64 d2]) e2) [slice v1 x1 y1,slice z1 a2 b2] 0))
theorem En (a:Bool) (b:OA) (c d:Nat) (f:OA) (g h:Nat) (i:OA) (j k:Nat) (l:OA) (m n:Nat) (o:OA) (p q:Nat) (w:World) (R:RW) (hh:QU a b c d f g h i j k l m n o p q w R):CR 97 #[agg #[bool a,slice b c d,slice f g h,slice i j k,slice l m n,slice o p q]] w R:=
 az (fn:=Tryz.f97) (by kernel_rfl) (by kernel_rfl) (by kernel_rfl) (by kernel_rfl) (by kernel_rfl) hh
def Qq (a:OA) (b c:Nat) (w:World) (R:RW):Prop:=
 ∀d:KW,(∀(f g h:Int) (i:World),(ac (decide (f< (b:Int)))
 (af a (fun j=>
 (0:Int)≤f∧f< (b:Int)∧
 ∃k,i.cell? ((j.add (f.toNat*2)).add 0)=some (int .i64 k)∧
 ac (decide (k<0))
 (R (tuple #[int .i64 f,int .i64 1]) i)
 (af a (fun l=>
 (0:Int)≤f∧f< (b:Int)∧
 ∃m,i.cell? ((l.add (f.toNat*2)).add 0)=some (int .i64 m)∧
 ac (decide (m>1073741824))
 (R (tuple #[int .i64 f,int .i64 1]) i)
 (af a (fun n=>
 (0:Int)≤f∧f< (b:Int)∧
 ∃o,i.cell? ((n.add (f.toNat*2)).add 1)=some (string o)∧
 ac (decide (((o.size:Int):Int) <1))
 (R (tuple #[int .i64 f,int .i64 1]) i)
 (af a (fun p=>
 (0:Int)≤f∧f< (b:Int)∧
 ∃q,i.cell? ((p.add (f.toNat*2)).add 1)=some (string q)∧
 ac (decide (((q.size:Int):Int)>64))
 (R (tuple #[int .i64 f,int .i64 1]) i)
 (ac (decide (f≥32))
 (R (tuple #[int .i64 f,int .i64 3]) i)
 (∀r:KW,(∀(s t u:Int) (x:World),(ac (decide (s<f))
 (∀y,y=x.drew→
 af a (fun z=>
 (0:Int)≤s∧s< (b:Int)∧
 ∃a1,y.cell? ((z.add (s.toNat*2)).add 0)=some (int .i64 a1)∧
 af a (fun b1=>
 (0:Int)≤f∧f< (b:Int)∧
 ∃c1,y.cell? ((b1.add (f.toNat*2)).add 0)=some (int .i64 c1)∧
 ac (a1==c1)
 (R (tuple #[int .i64 f,int .i64 10]) y)
 (af a (fun d1=>
 (0:Int)≤s∧s< (b:Int)∧
 ∃e1,y.cell? ((d1.add (s.toNat*2)).add 1)=some (string e1)∧
 af a (fun f1=>
 (0:Int)≤f∧f< (b:Int)∧
 ∃g1,y.cell? ((f1.add (f.toNat*2)).add 1)=some (string g1)∧
 ac (e1.toList==g1.toList)
 (R (tuple #[int .i64 f,int .i64 10]) y)
 (Ar .i64 (s+1) (fun h1=>
 r [int .i64 h1,int .i64 t,int .i64 u] y))))))))
 (Ar .i64 (f+1) (fun i1=>
 d [int .i64 i1,int .i64 t,int .i64 u] x)))→r [int .i64 s,int .i64 t,int .i64 u] x)→
 r [int .i64 0,int .i64 g,int .i64 h] i))))))))))
 (R (tuple #[int .i64 (b:Int),int .i64 0]) i))→d [int .i64 f,int .i64 g,int .i64 h] i)→
 d [int .i64 0,int .i64 0,int .i64 0] w
theorem CS (a:OA) (b c:Nat) (w:World) (R:RW) (hh:Qq a b c w R):CR 98 #[slice a b c] w R:=
 az (fn:=Tryz.f98) (by kernel_rfl) (by kernel_rfl) (by kernel_rfl) (by kernel_rfl) (by kernel_rfl) hh
def NO (a:OA) (b c:Nat) (w:World) (R:RW):Prop:=
 ∀d:KW,(∀(f:Int) (g:Bool) (h:World),(ac (decide (f< (b:Int)))
 (af a (fun i=>
 (0:Int)≤f∧f< (b:Int)∧
 ∃j,h.cell? ((i.add (f.toNat*2)).add 1)=some (string j)∧
 ac (decide (((j.size:Int):Int)>100))
 (R (bool true) h)
 (Ar .i64 (f+1) (fun k=>
 d [int .i64 k,bool g] h))))
 (R (bool (decide ((b:Int)>40))) h))→d [int .i64 f,bool g] h)→
 d [int .i64 0,bool false] w
theorem zD (a:OA) (b c:Nat) (w:World) (R:RW) (hh:NO a b c w R):CR 102 #[slice a b c] w R:=
 az (fn:=Tryz.f102) (by kernel_rfl) (by kernel_rfl) (by kernel_rfl) (by kernel_rfl) (by kernel_rfl) hh
def PU (a:OA) (b c:Nat) (w:World) (R:RW):Prop:=
 ∀d,d=w.alloc (.cells #[slice none 0 0,slice none 0 0] 35)→
 CP 157 #[] d (fun f g=>
 ∃h i j k l m,f= .returned (agg #[slice h i j,slice k l m])∧
 ∀n,n=g.alloc (.cells #[slice none 0 0,slice none 0 0] 35)→
 ax n (nb g) (fun o=>
 ∀p:KW,(∀(q:Int) (r:World),(Ar .i64 (q+1) (fun s=>
 ac (decide (s< (b:Int)))
 (ac (decide (q<60))
 (∀t:KW,(∀u:World,(Ar .i64 (q+2) (fun x=>
 p [int .i64 x] u))→t [] u)→
 ∀y,y=r.drew→
 af a (fun z=>
 (0:Int)≤q∧q< (b:Int)∧
 ∃a1,y.cell? (z.add (q.toNat*1))=some (int .u16 a1)∧
 ∃b1 c1 d1,y.cell? ((nb g).add 0)=some (slice b1 c1 d1)∧
 ∃e1 f1 g1,y.cell? ((nb g).add 1)=some (slice e1 f1 g1)∧
 Ar .i64 ((c1:Int)+(f1:Int)) (fun h1=>
 h1≠0∧
 Ar .i64 (q+1) (fun i1=>
 af a (fun j1=>
 (0:Int)≤i1∧i1< (b:Int)∧
 ∃k1,y.cell? (j1.add (i1.toNat*1))=some (int .u16 k1)∧
 ∃l1 m1 n1,y.cell? ((nb g).add 0)=some (slice l1 m1 n1)∧
 ∃o1 p1 q1,y.cell? ((nb g).add 1)=some (slice o1 p1 q1)∧
 Ar .i64 ((m1:Int)+(p1:Int)) (fun r1=>
 r1≠0∧
 ∀s1:KW,(∀(t1:Int) (u1:World),(∀v1:KW,(∀(x1:Int) (y1:World),(∃z1 a2 b2 c2 d2 e2,(y1.cell? (nb g)=some (slice z1 a2 b2)∧y1.cell? ((nb g).add 1)=some (slice c2 d2 e2)∧True)∧
 CP 158 #[agg #[slice z1 a2 b2,slice c2 d2 e2],agg #[int .i64 t1,int .i64 x1]] y1 (fun f2 g2=>
 ∃h2 i2 j2 k2 l2 m2 n2,f2= .returned (tuple #[agg #[slice h2 i2 j2,slice k2 l2 m2],int .i64 n2])∧
 ∀o2,o2=g2.alloc (.cells #[slice none 0 0,slice none 0 0] 35)→
 ax o2 (nb g2) (fun p2=>
 ac (n2==0)
 (∃q2 r2 s2 t2 u2 v2,(p2.cell? (nb g2)=some (slice q2 r2 s2)∧p2.cell? ((nb g2).add 1)=some (slice t2 u2 v2)∧True)∧
 ax p2 (nb g) (fun x2=>
 t [] x2) [slice q2 r2 s2,slice t2 u2 v2] 0)
 (t [] p2)) [slice h2 i2 j2,slice k2 l2 m2] 0))→v1 [int .i64 x1] y1)→
 ∃y2 z2 a3,u1.cell? ((nb g).add 0)=some (slice y2 z2 a3)∧
 ac (decide ((Int.tmod (IntKind.wrap .i64 k1) r1:Int)≥(z2:Int)))
 (Ar .i64 ((256:Int)+(Int.tmod (IntKind.wrap .i64 k1) r1)) (fun b3=>
 ∃c3 d3 e3,u1.cell? ((nb g).add 0)=some (slice c3 d3 e3)∧
 Ar .i64 (b3- (d3:Int)) (fun f3=>
 v1 [int .i64 f3] u1)))
 (v1 [int .i64 (Int.tmod (IntKind.wrap .i64 k1) r1)] u1))→s1 [int .i64 t1] u1)→
 ∃g3 h3 i3,y.cell? ((nb g).add 0)=some (slice g3 h3 i3)∧
 ac (decide ((Int.tmod (IntKind.wrap .i64 a1) h1:Int)≥(h3:Int)))
 (Ar .i64 ((256:Int)+(Int.tmod (IntKind.wrap .i64 a1) h1)) (fun j3=>
 ∃k3 l3 m3,y.cell? ((nb g).add 0)=some (slice k3 l3 m3)∧
 Ar .i64 (j3- (l3:Int)) (fun n3=>
 s1 [int .i64 n3] y)))
 (s1 [int .i64 (Int.tmod (IntKind.wrap .i64 a1) h1)] y)))))))
 (∃o3 p3 q3 r3 s3 t3,(r.cell? (nb g)=some (slice o3 p3 q3)∧r.cell? ((nb g).add 1)=some (slice r3 s3 t3)∧True)∧
 ax r (nb w) (fun u3=>
 ∃v3 x3 y3 z3 a4 b4,(u3.cell? (nb w)=some (slice v3 x3 y3)∧u3.cell? ((nb w).add 1)=some (slice z3 a4 b4)∧True)∧
 R (agg #[slice v3 x3 y3,slice z3 a4 b4]) u3) [slice o3 p3 q3,slice r3 s3 t3] 0))
 (∃c4 d4 e4 f4 g4 h4,(r.cell? (nb g)=some (slice c4 d4 e4)∧r.cell? ((nb g).add 1)=some (slice f4 g4 h4)∧True)∧
 ax r (nb w) (fun i4=>
 ∃j4 k4 l4 m4 n4 o4,(i4.cell? (nb w)=some (slice j4 k4 l4)∧i4.cell? ((nb w).add 1)=some (slice m4 n4 o4)∧True)∧
 R (agg #[slice j4 k4 l4,slice m4 n4 o4]) i4) [slice c4 d4 e4,slice f4 g4 h4] 0)))→p [int .i64 q] r)→
 p [int .i64 0] o) [slice h i j,slice k l m] 0)
theorem An (a:OA) (b c:Nat) (w:World) (R:RW) (hh:PU a b c w R):CR 103 #[slice a b c] w R:=
 az (fn:=Tryz.f103) (by kernel_rfl) (by kernel_rfl) (by kernel_rfl) (by kernel_rfl) (by kernel_rfl) hh
def P3 (a:OA) (b c:Nat) (d:OA) (f g:Nat) (w:World) (R:RW):Prop:=
 ∀h,h=w.alloc (.cells #[slice a b c,slice d f g] 37)→
 ∀i:KW,(∀(j:Int) (k:Bool) (l:World),(∃m n o,l.cell? ((nb w).add 0)=some (slice m n o)∧
 ac (decide (j< (n:Int)))
 (∃p q r,l.cell? ((nb w).add 0)=some (slice p q r)∧
 af p (fun s=>
 (0:Int)≤j∧j< (q:Int)∧
 ∃t u x,(l.cell? (s.add (j.toNat*3))=some (int .i64 t)∧l.cell? ((s.add (j.toNat*3)).add 1)=some (int .i64 u)∧l.cell? ((s.add (j.toNat*3)).add 2)=some (int .i64 x)∧True)∧
 ∀y,y=l.alloc (.cells #[int .i64 0,int .i64 0,int .i64 0] 89)→
 ax y (nb l) (fun z=>
 ∃a1,z.cell? ((nb l).add 0)=some (int .i64 a1)∧
 ac (decide (a1<0))
 (R (bool false) z)
 (∃b1,z.cell? ((nb l).add 1)=some (int .i64 b1)∧
 ∃c1,z.cell? ((nb l).add 0)=some (int .i64 c1)∧
 ac (decide (b1<c1))
 (R (bool false) z)
 (∃d1,z.cell? ((nb l).add 1)=some (int .i64 d1)∧
 ac (decide (d1>255))
 (R (bool false) z)
 (∃e1,z.cell? ((nb l).add 2)=some (int .i64 e1)∧
 ac (decide (e1<0))
 (R (bool false) z)
 (∃f1,z.cell? ((nb l).add 2)=some (int .i64 f1)∧
 ac (decide (f1>15))
 (R (bool false) z)
 (Ar .i64 (j+1) (fun g1=>
 i [int .i64 g1,bool k] z))))))) [int .i64 t,int .i64 u,int .i64 x] 0))
 (∀h1:KW,(∀(i1:Int) (j1:Bool) (k1:World),(∃l1 m1 n1,k1.cell? ((nb w).add 1)=some (slice l1 m1 n1)∧
 ac (decide (i1< (m1:Int)))
 (∃o1 p1 q1,k1.cell? ((nb w).add 1)=some (slice o1 p1 q1)∧
 af o1 (fun r1=>
 (0:Int)≤i1∧i1< (p1:Int)∧
 ∃s1 t1,(k1.cell? (r1.add (i1.toNat*2))=some (int .i64 s1)∧k1.cell? ((r1.add (i1.toNat*2)).add 1)=some (int .i64 t1)∧True)∧
 ∀u1,u1=k1.alloc (.cells #[int .i64 0,int .i64 0] 170)→
 ax u1 (nb k1) (fun v1=>
 ∃x1,v1.cell? ((nb k1).add 0)=some (int .i64 x1)∧
 ac (decide (x1<0))
 (R (bool false) v1)
 (∃y1,v1.cell? ((nb k1).add 0)=some (int .i64 y1)∧
 ac (decide (y1>15))
 (R (bool false) v1)
 (∃z1,v1.cell? ((nb k1).add 1)=some (int .i64 z1)∧
 ac (decide (z1<0))
 (R (bool false) v1)
 (∃a2,v1.cell? ((nb k1).add 1)=some (int .i64 a2)∧
 ac (decide (a2>15))
 (R (bool false) v1)
 (Ar .i64 (i1+1) (fun b2=>
 h1 [int .i64 b2,bool j1] v1)))))) [int .i64 s1,int .i64 t1] 0))
 (R (bool true) k1))→h1 [int .i64 i1,bool j1] k1)→
 h1 [int .i64 0,bool k] l))→i [int .i64 j,bool k] l)→
 i [int .i64 0,bool false] h
theorem xN (a:OA) (b c:Nat) (d:OA) (f g:Nat) (w:World) (R:RW) (hh:P3 a b c d f g w R):CR 104 #[agg #[slice a b c,slice d f g]] w R:=
 az (fn:=Tryz.f104) (by kernel_rfl) (by kernel_rfl) (by kernel_rfl) (by kernel_rfl) (by kernel_rfl) hh
def PV (a:OA) (b c:Nat) (d:OA) (f g:Nat) (h:Int) (w:World) (R:RW):Prop:=
 ∀i,i=w.alloc (.cells #[slice a b c,slice d f g] 35)→
 ac (decide (h≥0))
 (∃j k l,i.cell? ((nb w).add 0)=some (slice j k l)∧
 R (bool (decide (h< (k:Int)))) i)
 (R (bool false) i)
theorem B2 (a:OA) (b c:Nat) (d:OA) (f g:Nat) (h:Int) (w:World) (R:RW) (hh:PV a b c d f g h w R):CR 111 #[agg #[slice a b c,slice d f g],int .i64 h] w R:=
 az (fn:=Tryz.f111) (by kernel_rfl) (by kernel_rfl) (by kernel_rfl) (by kernel_rfl) (by kernel_rfl) hh
def NL (a:OA) (b c:Nat) (d:OA) (f g:Nat) (h:OA) (i j:Nat) (k:OA) (l m:Nat) (n:OA) (o p:Nat) (q:Int) (w:World) (R:RW):Prop:=
 ∀r,r=w.alloc (.cells #[slice a b c,slice d f g,slice h i j,slice k l m,slice n o p] 39)→
 ∀s:KW,(∀(t u:Int) (x:World),(∃y z a1,x.cell? ((nb w).add 4)=some (slice y z a1)∧
 ac (decide (t< (z:Int)))
 (∃b1 c1 d1,x.cell? ((nb w).add 4)=some (slice b1 c1 d1)∧
 af b1 (fun e1=>
 (0:Int)≤t∧t< (c1:Int)∧
 ∃f1,x.cell? ((e1.add (t.toNat*2)).add 0)=some (int .i64 f1)∧
 ac (f1==q)
 (Ar .i64 ((-1:Int)-t) (fun g1=>
 R (int .i64 g1) x))
 (Ar .i64 (t+1) (fun h1=>
 s [int .i64 h1,int .i64 u] x))))
 (R (int .i64 0) x))→s [int .i64 t,int .i64 u] x)→
 s [int .i64 0,int .i64 0] r
theorem zY (a:OA) (b c:Nat) (d:OA) (f g:Nat) (h:OA) (i j:Nat) (k:OA) (l m:Nat) (n:OA) (o p:Nat) (q:Int) (w:World) (R:RW) (hh:NL a b c d f g h i j k l m n o p q w R):CR 112 #[agg #[slice a b c,slice d f g,slice h i j,slice k l m,slice n o p],int .i64 q] w R:=
 az (fn:=Tryz.f112) (by kernel_rfl) (by kernel_rfl) (by kernel_rfl) (by kernel_rfl) (by kernel_rfl) hh
def NY (a:OA) (b c:Nat) (w:World) (R:RW):Prop:=
 ∀d,d=w.alloc (.cells #[slice none 0 0,slice none 0 0] 35)→
 CP 157 #[] d (fun f g=>
 ∃h i j k l m,f= .returned (agg #[slice h i j,slice k l m])∧
 ∀n,n=g.alloc (.cells #[slice none 0 0,slice none 0 0] 35)→
 ax n (nb g) (fun o=>
 ∀p:KW,(∀(q r s:Int) (t:World),(ac (decide (q< (b:Int)))
 (∀u,u=t.drew→
 ∃x y z a1 b1 c1,(u.cell? (nb g)=some (slice x y z)∧u.cell? ((nb g).add 1)=some (slice a1 b1 c1)∧True)∧
 af a (fun d1=>
 (0:Int)≤q∧q< (b:Int)∧
 ∃e1 f1,(u.cell? (d1.add (q.toNat*2))=some (int .i64 e1)∧u.cell? ((d1.add (q.toNat*2)).add 1)=some (int .i64 f1)∧True)∧
 (CP 158 #[agg #[slice x y z,slice a1 b1 c1],agg #[int .i64 e1,int .i64 f1]] u (fun g1 h1=>
 ∃i1 j1 k1 l1 m1 n1 o1,g1= .returned (tuple #[agg #[slice i1 j1 k1,slice l1 m1 n1],int .i64 o1])∧
 ∀p1,p1=h1.alloc (.cells #[slice none 0 0,slice none 0 0] 35)→
 ax p1 (nb h1) (fun q1=>
 ac (o1 != 0)
 (∃r1 s1 t1 u1 v1 x1,(q1.cell? (nb g)=some (slice r1 s1 t1)∧q1.cell? ((nb g).add 1)=some (slice u1 v1 x1)∧True)∧
 ax q1 (nb w) (fun y1=>
 ∃z1 a2 b2 c2 d2 e2,(y1.cell? (nb w)=some (slice z1 a2 b2)∧y1.cell? ((nb w).add 1)=some (slice c2 d2 e2)∧True)∧
 R (tuple #[agg #[slice z1 a2 b2,slice c2 d2 e2],int .i64 q,int .i64 o1]) y1) [slice r1 s1 t1,slice u1 v1 x1] 0)
 (∃f2 g2 h2 i2 j2 k2,(q1.cell? (nb h1)=some (slice f2 g2 h2)∧q1.cell? ((nb h1).add 1)=some (slice i2 j2 k2)∧True)∧
 ax q1 (nb g) (fun l2=>
 Ar .i64 (q+1) (fun m2=>
 p [int .i64 m2,int .i64 r,int .i64 s] l2)) [slice f2 g2 h2,slice i2 j2 k2] 0)) [slice i1 j1 k1,slice l1 m1 n1] 0))∧
 (∀n2,n2=u.alloc (.cells #[slice none 0 0,slice none 0 0] 35)→
 (n2.cell? (d1.add (q.toNat*2))=some (int .i64 e1)∧n2.cell? ((d1.add (q.toNat*2)).add 1)=some (int .i64 f1)∧True)∧
 (n2.cell? (nb g)=some (slice x y z)∧n2.cell? ((nb g).add 1)=some (slice a1 b1 c1)∧True)∧
 CP 158 #[agg #[slice x y z,slice a1 b1 c1],agg #[int .i64 e1,int .i64 f1]] n2 (fun o2 p2=>
 ∃q2 r2 s2 t2 u2 v2 x2,o2= .returned (tuple #[agg #[slice q2 r2 s2,slice t2 u2 v2],int .i64 x2])∧
 ax p2 (nb u) (fun y2=>
 ac (x2 != 0)
 (∃z2 a3 b3 c3 d3 e3,(y2.cell? (nb g)=some (slice z2 a3 b3)∧y2.cell? ((nb g).add 1)=some (slice c3 d3 e3)∧True)∧
 ax y2 (nb w) (fun f3=>
 ∃g3 h3 i3 j3 k3 l3,(f3.cell? (nb w)=some (slice g3 h3 i3)∧f3.cell? ((nb w).add 1)=some (slice j3 k3 l3)∧True)∧
 R (tuple #[agg #[slice g3 h3 i3,slice j3 k3 l3],int .i64 q,int .i64 x2]) f3) [slice z2 a3 b3,slice c3 d3 e3] 0)
 (∃m3 n3 o3 p3 q3 r3,(y2.cell? (nb u)=some (slice m3 n3 o3)∧y2.cell? ((nb u).add 1)=some (slice p3 q3 r3)∧True)∧
 ax y2 (nb g) (fun s3=>
 Ar .i64 (q+1) (fun t3=>
 p [int .i64 t3,int .i64 r,int .i64 s] s3)) [slice m3 n3 o3,slice p3 q3 r3] 0)) [slice q2 r2 s2,slice t2 u2 v2] 0))))
 (∃u3 v3 x3 y3 z3 a4,(t.cell? (nb g)=some (slice u3 v3 x3)∧t.cell? ((nb g).add 1)=some (slice y3 z3 a4)∧True)∧
 ax t (nb w) (fun b4=>
 ∃c4 d4 e4 f4 g4 h4,(b4.cell? (nb w)=some (slice c4 d4 e4)∧b4.cell? ((nb w).add 1)=some (slice f4 g4 h4)∧True)∧
 R (tuple #[agg #[slice c4 d4 e4,slice f4 g4 h4],int .i64 (b:Int),int .i64 0]) b4) [slice u3 v3 x3,slice y3 z3 a4] 0))→p [int .i64 q,int .i64 r,int .i64 s] t)→
 p [int .i64 0,int .i64 0,int .i64 0] o) [slice h i j,slice k l m] 0)
theorem zA (a:OA) (b c:Nat) (w:World) (R:RW) (hh:NY a b c w R):CR 141 #[slice a b c] w R:=
 az (fn:=Tryz.f141) (by kernel_rfl) (by kernel_rfl) (by kernel_rfl) (by kernel_rfl) (by kernel_rfl) hh
def O7 (w:World) (R:RW):Prop:=
 ∀a,a=w.alloc (.cells #[slice none 0 0,slice none 0 0] 35)→
 ∀b,b=a.alloc (.cells #[slice none 0 0,slice none 0 0] 35)→
 ax b (nb a) (fun c=>
 ∀d:KW,(∀(f:Int) (g:World),(ac (decide (f<256))
 (∃h i j,g.cell? ((nb a).add 0)=some (slice h i j)∧
 ∀k,k=g.alloc (.cells #[int .u8 (IntKind.wrap .u8 f)] 5)→
 ∃l m,(convert 57 9 (slice (some (nb g)) 1 1)).run Tryz.prog k= .ok (string l) m∧
 ∀n,n=m.alloc (.cells #[string l] 9)→
 ∃o p q r,(Builtin.append_ #[32,32] 32 #[slice h i j,slice (some (nb m)) 1 1]).run Tryz.prog n= .ok (slice o p q) r∧
 (slice o p q).oneCell'=true∧(∃u,r.cell? ((nb a).add 0)=some u)∧r.frozen? ((nb a).add 0)=false∧
 ∀s,s=(r.setCell ((nb a).add 0) (slice o p q))→
 Ar .i64 (f+1) (fun t=>
 d [int .i64 t] s))
 (∃x y z a1 b1 c1,(g.cell? (nb a)=some (slice x y z)∧g.cell? ((nb a).add 1)=some (slice a1 b1 c1)∧True)∧
 ax g (nb w) (fun d1=>
 ∃e1 f1 g1 h1 i1 j1,(d1.cell? (nb w)=some (slice e1 f1 g1)∧d1.cell? ((nb w).add 1)=some (slice h1 i1 j1)∧True)∧
 R (agg #[slice e1 f1 g1,slice h1 i1 j1]) d1) [slice x y z,slice a1 b1 c1] 0))→d [int .i64 f] g)→
 d [int .i64 0] c) [slice none 0 0,slice none 0 0] 0
theorem yX (w:World) (R:RW) (hh:O7 w R):CR 157 #[] w R:=
 az (fn:=Tryz.f157) (by kernel_rfl) (by kernel_rfl) (by kernel_rfl) (by kernel_rfl) (by kernel_rfl) hh
def PW (a:OA) (b c:Nat) (d:OA) (f g:Nat) (h i:Int) (w:World) (R:RW):Prop:=
 ∀j,j=w.alloc (.cells #[slice a b c,slice d f g] 35)→
 ∀k,k=j.alloc (.cells #[int .i64 h,int .i64 i] 85)→
 ∀l,l=k.alloc (.cells #[slice none 0 0,slice none 0 0] 35)→
 ∃m n o p q r,(l.cell? (nb w)=some (slice m n o)∧l.cell? ((nb w).add 1)=some (slice p q r)∧True)∧
 ∃s,l.cell? ((nb j).add 0)=some (int .i64 s)∧
 CP 111 #[agg #[slice m n o,slice p q r],int .i64 s] l (fun t u=>
 ∃x,t= .returned (bool x)∧
 ac (!x)
 (∃y z a1 b1 c1 d1,(u.cell? (nb w)=some (slice y z a1)∧u.cell? ((nb w).add 1)=some (slice b1 c1 d1)∧True)∧
 ax u (nb k) (fun e1=>
 ∃f1 g1 h1 i1 j1 k1,(e1.cell? (nb k)=some (slice f1 g1 h1)∧e1.cell? ((nb k).add 1)=some (slice i1 j1 k1)∧True)∧
 R (tuple #[agg #[slice f1 g1 h1,slice i1 j1 k1],int .i64 4]) e1) [slice y z a1,slice b1 c1 d1] 0)
 (∃l1 m1 n1 o1 p1 q1,(u.cell? (nb w)=some (slice l1 m1 n1)∧u.cell? ((nb w).add 1)=some (slice o1 p1 q1)∧True)∧
 ∃r1,u.cell? ((nb j).add 1)=some (int .i64 r1)∧
 CP 111 #[agg #[slice l1 m1 n1,slice o1 p1 q1],int .i64 r1] u (fun s1 t1=>
 ∃u1,s1= .returned (bool u1)∧
 ac (!u1)
 (∃v1 x1 y1 z1 a2 b2,(t1.cell? (nb w)=some (slice v1 x1 y1)∧t1.cell? ((nb w).add 1)=some (slice z1 a2 b2)∧True)∧
 ax t1 (nb k) (fun c2=>
 ∃d2 e2 f2 g2 h2 i2,(c2.cell? (nb k)=some (slice d2 e2 f2)∧c2.cell? ((nb k).add 1)=some (slice g2 h2 i2)∧True)∧
 R (tuple #[agg #[slice d2 e2 f2,slice g2 h2 i2],int .i64 4]) c2) [slice v1 x1 y1,slice z1 a2 b2] 0)
 (∀j2,j2=t1.drew→
 ∃k2 l2 m2,j2.cell? ((nb w).add 0)=some (slice k2 l2 m2)∧
 ∃n2,j2.cell? ((nb j).add 0)=some (int .i64 n2)∧
 af k2 (fun o2=>
 (0:Int)≤n2∧n2< (l2:Int)∧
 ∃p2,j2.cell? (o2.add (n2.toNat*1))=some (string p2)∧
 ∃q2 r2 s2,j2.cell? ((nb w).add 0)=some (slice q2 r2 s2)∧
 ∃t2,j2.cell? ((nb j).add 1)=some (int .i64 t2)∧
 af q2 (fun u2=>
 (0:Int)≤t2∧t2< (r2:Int)∧
 ∃v2,j2.cell? (u2.add (t2.toNat*1))=some (string v2)∧
 ((p2.size+v2.size:Nat):Int)≤IntKind.i64.max∧
 ac (decide ((((p2++v2:ByteArray).size:Int):Int)>64))
 (∃x2 y2 z2 a3 b3 c3,(j2.cell? (nb w)=some (slice x2 y2 z2)∧j2.cell? ((nb w).add 1)=some (slice a3 b3 c3)∧True)∧
 ax j2 (nb k) (fun d3=>
 ∃e3 f3 g3 h3 i3 j3,(d3.cell? (nb k)=some (slice e3 f3 g3)∧d3.cell? ((nb k).add 1)=some (slice h3 i3 j3)∧True)∧
 R (tuple #[agg #[slice e3 f3 g3,slice h3 i3 j3],int .i64 3]) d3) [slice x2 y2 z2,slice a3 b3 c3] 0)
 (∃k3 l3 m3,j2.cell? ((nb w).add 0)=some (slice k3 l3 m3)∧
 ac (decide ((l3:Int)≥1000))
 (∃n3 o3 p3 q3 r3 s3,(j2.cell? (nb w)=some (slice n3 o3 p3)∧j2.cell? ((nb w).add 1)=some (slice q3 r3 s3)∧True)∧
 ax j2 (nb k) (fun t3=>
 ∃u3 v3 x3 y3 z3 a4,(t3.cell? (nb k)=some (slice u3 v3 x3)∧t3.cell? ((nb k).add 1)=some (slice y3 z3 a4)∧True)∧
 R (tuple #[agg #[slice u3 v3 x3,slice y3 z3 a4],int .i64 5]) t3) [slice n3 o3 p3,slice q3 r3 s3] 0)
 (∃b4 c4 d4 e4 f4 g4,(j2.cell? (nb w)=some (slice b4 c4 d4)∧j2.cell? ((nb w).add 1)=some (slice e4 f4 g4)∧True)∧
 CP 205 #[agg #[slice b4 c4 d4,slice e4 f4 g4],string (p2++v2)] j2 (fun h4 i4=>
 ∃j4,h4= .returned (int .i64 j4)∧
 ac (decide (j4≥0))
 (∃k4 l4 m4 n4 o4 p4,(i4.cell? (nb w)=some (slice k4 l4 m4)∧i4.cell? ((nb w).add 1)=some (slice n4 o4 p4)∧True)∧
 ax i4 (nb k) (fun q4=>
 ∃r4 s4 t4 u4 v4 x4,(q4.cell? (nb k)=some (slice r4 s4 t4)∧q4.cell? ((nb k).add 1)=some (slice u4 v4 x4)∧True)∧
 R (tuple #[agg #[slice r4 s4 t4,slice u4 v4 x4],int .i64 10]) q4) [slice k4 l4 m4,slice n4 o4 p4] 0)
 (∃y4 z4 a5,i4.cell? ((nb w).add 0)=some (slice y4 z4 a5)∧
 ∃b5 c5 d5 e5,(Builtin.append_ #[32,32] 32 #[slice none 0 0,slice y4 z4 a5]).run Tryz.prog i4= .ok (slice b5 c5 d5) e5∧
 ∃f5 g5 h5,e5.cell? ((nb w).add 1)=some (slice f5 g5 h5)∧
 ∃i5 j5 k5 l5,(Builtin.append_ #[33,33] 33 #[slice none 0 0,slice f5 g5 h5]).run Tryz.prog e5= .ok (slice i5 j5 k5) l5∧
 ∀m5,m5=l5.drew→
 ∃n5 o5,(m5.cell? (nb j)=some (int .i64 n5)∧m5.cell? ((nb j).add 1)=some (int .i64 o5)∧True)∧
 (∀p5,p5=m5.alloc (.cells #[string (p2++v2)] 9)→
 (p5.cell? (nb j)=some (int .i64 n5)∧p5.cell? ((nb j).add 1)=some (int .i64 o5)∧True)∧
 (∃q5 r5 s5 t5,(Builtin.append_ #[32,32] 32 #[slice b5 c5 d5,slice (some (nb m5)) 1 1]).run Tryz.prog p5= .ok (slice q5 r5 s5) t5∧
 (t5.cell? (nb j)=some (int .i64 n5)∧t5.cell? ((nb j).add 1)=some (int .i64 o5)∧True)∧
 ∀u5,u5=t5.alloc (.cells #[int .i64 n5,int .i64 o5] 85)→
 ∃v5 x5 y5 z5,(Builtin.append_ #[33,33] 33 #[slice i5 j5 k5,slice (some (nb t5)) 1 1]).run Tryz.prog u5= .ok (slice v5 x5 y5) z5∧
 ax z5 (nb k) (fun a6=>
 ∃b6 c6 d6 e6 f6 g6,(a6.cell? (nb k)=some (slice b6 c6 d6)∧a6.cell? ((nb k).add 1)=some (slice e6 f6 g6)∧True)∧
 R (tuple #[agg #[slice b6 c6 d6,slice e6 f6 g6],int .i64 0]) a6) [slice q5 r5 s5,slice v5 x5 y5] 0)∧
 (∀h6,h6=p5.alloc (.cells #[int .i64 n5,int .i64 o5] 85)→
 ∃i6 j6 k6 l6,(Builtin.append_ #[32,32] 32 #[slice b5 c5 d5,slice (some (nb m5)) 1 1]).run Tryz.prog h6= .ok (slice i6 j6 k6) l6∧
 ∃m6 n6 o6 p6,(Builtin.append_ #[33,33] 33 #[slice i5 j5 k5,slice (some (nb p5)) 1 1]).run Tryz.prog l6= .ok (slice m6 n6 o6) p6∧
 ax p6 (nb k) (fun q6=>
 ∃r6 s6 t6 u6 v6 x6,(q6.cell? (nb k)=some (slice r6 s6 t6)∧q6.cell? ((nb k).add 1)=some (slice u6 v6 x6)∧True)∧
 R (tuple #[agg #[slice r6 s6 t6,slice u6 v6 x6],int .i64 0]) q6) [slice i6 j6 k6,slice m6 n6 o6] 0))∧
 (∀y6,y6=m5.alloc (.cells #[int .i64 n5,int .i64 o5] 85)→
 ∀z6,z6=y6.alloc (.cells #[string (p2++v2)] 9)→
 ∃a7 b7 c7 d7,(Builtin.append_ #[32,32] 32 #[slice b5 c5 d5,slice (some (nb y6)) 1 1]).run Tryz.prog z6= .ok (slice a7 b7 c7) d7∧
 ∃e7 f7 g7 h7,(Builtin.append_ #[33,33] 33 #[slice i5 j5 k5,slice (some (nb m5)) 1 1]).run Tryz.prog d7= .ok (slice e7 f7 g7) h7∧
 ax h7 (nb k) (fun i7=>
 ∃j7 k7 l7 m7 n7 o7,(i7.cell? (nb k)=some (slice j7 k7 l7)∧i7.cell? ((nb k).add 1)=some (slice m7 n7 o7)∧True)∧
 R (tuple #[agg #[slice j7 k7 l7,slice m7 n7 o7],int .i64 0]) i7) [slice a7 b7 c7,slice e7 f7 g7] 0)))))))))))
theorem Bo (a:OA) (b c:Nat) (d:OA) (f g:Nat) (h i:Int) (w:World) (R:RW) (hh:PW a b c d f g h i w R):CR 158 #[agg #[slice a b c,slice d f g],agg #[int .i64 h,int .i64 i]] w R:=
 az (fn:=Tryz.f158) (by kernel_rfl) (by kernel_rfl) (by kernel_rfl) (by kernel_rfl) (by kernel_rfl) hh
def Ph (a:OA) (b c:Nat) (d:OA) (f g:Nat) (h:ByteArray) (w:World) (R:RW):Prop:=
 ∀i,i=w.alloc (.cells #[slice a b c,slice d f g] 35)→
 ∀j:KW,(∀(k l:Int) (m:World),(∃n o p,m.cell? ((nb w).add 0)=some (slice n o p)∧
 ac (decide (k< (o:Int)))
 (∃q r s,m.cell? ((nb w).add 0)=some (slice q r s)∧
 af q (fun t=>
 (0:Int)≤k∧k< (r:Int)∧
 ∃u,m.cell? (t.add (k.toNat*1))=some (string u)∧
 ac (u.toList==h.toList)
 (R (int .i64 k) m)
 (Ar .i64 (k+1) (fun x=>
 j [int .i64 x,int .i64 l] m))))
 (R (int .i64 (-1)) m))→j [int .i64 k,int .i64 l] m)→
 j [int .i64 0,int .i64 0] i
theorem AK (a:OA) (b c:Nat) (d:OA) (f g:Nat) (h:ByteArray) (w:World) (R:RW) (hh:Ph a b c d f g h w R):CR 205 #[agg #[slice a b c,slice d f g],string h] w R:=
 az (fn:=Tryz.f205) (by kernel_rfl) (by kernel_rfl) (by kernel_rfl) (by kernel_rfl) (by kernel_rfl) hh
set_option linter.unusedSimpArgs false
open Go Go.RowKit
structure nq where
 b:Sl
 m:Sl
abbrev nq.v (x:nq):Value:=.agg #[x.b.v,x.m.v]
structure gR (w:World) (x:nq) (es:List aT):Prop where
 n1:x.b.n=es.length
 r1:Rw c_ 1 w x.b.a (es.map (·.1))
 k1:tZ x.b
 n2:x.m.n=(ao es).length
 r2:Rw aP 2 w x.m.a (ao es)
 k2:tZ x.m
theorem gR.on {w w':World} {x:nq} {es:List aT} (h:gR w x es) (hb:Below w.heap.size w w'):gR w' x es:=⟨h.n1,h.r1.on hb,h.k1,h.n2,h.r2.on hb,h.k2⟩
def kI (B:Nat) (x:nq):Prop:=(∀p,x.b.a=some p→B≤p.block)∧∀p,x.m.a=some p→B≤p.block
theorem kI.mono {B B':Nat} {x:nq} (h:kI B x) (hB:B'≤B):kI B' x:=⟨fun p hp=>Nat.le_trans hB (h.1 p hp),fun p hp=>Nat.le_trans hB (h.2 p hp)⟩
theorem lU {w:World} {B:Nat} {e:TypeId} {sz:Nat} {l:Sl} {xs:List Value} (h:w.ownsRow B e sz l.v l.n xs):∀p,l.a=some p→B≤p.block:=by
 intro p hp;obtain⟨la,ln,lc⟩:=l;rcases h.2 with⟨hv,_⟩ |⟨g,cap,cur,hv,hB,_⟩
 ·cases hv;cases hp
 ·cases hv;cases hp;exact hB
theorem kT (w:World) (x:nq) (es:List aT) (h:gR w x es) (id:Int):CP 111 #[x.v,.int .i64 id] w fun e w'=>e= .returned (.bool (decide (bu es id)))∧Below w.heap.size w w':=by
 refine aJ (B2 x.b.a x.b.n x.b.c x.m.a x.m.n x.m.c id w (fun u w'=>u= .bool (decide (bu es id))∧Below w.heap.size w w') ?_) (by rintro v w' ⟨rfl,h⟩;exact⟨rfl,h⟩);intro w1 hw1;have hb1:Below w.heap.size w w1:=by subst hw1;exact ah _ _
 refine ac.mk (fun h0=>?_) fun h0=>?_
 ·have h0:=of_decide_eq_true h0;refine⟨_,_,_,by subst hw1;rw [aB,aV];rfl,?_,hb1⟩;congr 1;rw [h.n1];exact decide_eq_decide.2 ⟨fun h=>⟨h0,h⟩,fun h=>h.2⟩
 ·have h0:=of_decide_eq_false h0;refine⟨?_,hb1⟩;rw [decide_eq_false (fun h=>h0 h.1)]
def BF (es:List aT) (s:Bs):Int:=Av (fun b=>decide (b=s)) (es.map (·.1))
theorem vl (w:World) (x:nq) (es:List aT) (h:gR w x es) (hl:es.length≤1000000) (s:Bs):CP 205 #[x.v,.string (str s)] w fun e w'=>e= .returned (.int .i64 (BF es s))∧Below w.heap.size w w':=by
 refine aN (AK x.b.a x.b.n x.b.c x.m.a x.m.n x.m.c (str s) w) ?_;intro w1 hw1;have hb1:Below w.heap.size w w1:=by subst hw1;exact ah _ _
 have c0:w1.cell? ((nb w).add 0)=some (.slice x.b.a x.b.n x.b.c):=by subst hw1;rw [aB,aV];rfl
 have hlen:(es.map (·.1)).length=es.length:=by simp
 have hn:=h.n1;intro I hI;have key:=bj (α:=Int) es.length (fun i _=>∀j (hj:j< (es.map (·.1)).length),j<i→decide ((es.map (·.1))[j]=s)=false) (fun i y=>I [.int .i64 (i:Int),.int .i64 y] w1) 0 (fun j _ hj=>absurd hj (Nat.not_lt_zero j)) ?_ ?_
 ·exact key
 ·rintro i hi ih y hb;obtain⟨q,hq,_,hcx⟩:=(h.r1.on hb1) i _ (List.getElem?_eq_getElem (show i< (es.map (·.1)).length by omega));have h0:=hcx 0 _ rfl;rw [au]at h0;refine hI _ _ _ ⟨_,_,_,c0,ac.yes (by simp;omega) ⟨_,_,_,c0,af.mk q hq ⟨by omega,by omega,_,h0,ac.mk (fun h1=>?_) fun h1=>?_⟩⟩⟩
  ·rw [cu,cu]at h1;have h1:(es.map (·.1))[i]'(by omega)=s:=by simpa using h1
   refine⟨?_,hb1⟩;unfold BF;rw [gH (p:=fun b=>decide (b=s)) (xs:=es.map (·.1)) (i:=i) (by omega) (decide_eq_true h1) fun j hj=>hb j (by omega) hj]
  ·rw [cu,cu]at h1;have h1:¬(es.map (·.1))[i]'(by omega)=s:=by simpa using h1
   refine Ar.ok64 (by omega) (by omega) (ih y fun j hj hji=>?_);by_cases he:j=i
   ·subst he;exact decide_eq_false h1
   ·exact hb j hj (by omega)
 ·rintro y hb;refine hI _ _ _ ⟨_,_,_,c0,ac.no (by simp;omega) ⟨?_,hb1⟩⟩;unfold BF;rw [gI (p:=fun b=>decide (b=s)) (xs:=es.map (·.1)) fun j hj=>hb j hj (by omega)]
theorem uF (es:List aT) (s:Bs):BF es s≥0↔s∈es.map (·.1):=by
 have:=l_ (fun b=>decide (b=s)) (es.map (·.1));unfold BF;rw [←decide_eq_true_iff (p:=Av _ _≥0),this,List.any_eq_true];constructor
 ·rintro⟨b,hb,e⟩;rw [←of_decide_eq_true e];exact hb
 ·intro h;exact⟨s,h,decide_eq_true rfl⟩
abbrev AO:TypeId:=35
theorem bK (a b:Sl):∀v∈ [a.v,b.v],v.oneCell'=true:=by
 intro v hv;simp only [List.mem_cons,List.not_mem_nil,or_false]at hv;rcases hv with rfl |rfl<;>rfl
theorem gZ {w:World} {b:Nat} {x y:Value} {e:TypeId} {fz:Nat×Nat} (h:w.heap[b]? =some (.cells #[x,y] e fz)):w.cell? ⟨b,0,none⟩=some x∧w.cell? ((⟨b,0,none⟩:Addr).add 1)=some y∧True:=
 ⟨by have:=ai _ _ h 0;rw [au]at this;exact this,ai _ _ h 1,trivial⟩
theorem og {w:World} {B:Nat} {e:TypeId} {sz:Nat} {l:Sl} {xs:List Value} (h:w.ownsRow B e sz l.v l.n xs):tZ l:=by
 obtain⟨la,ln,lc⟩:=l;rcases h.2 with⟨hv,_⟩ |⟨g,cap,cur,hv,_⟩
 ·cases hv;exact .inl rfl
 ·cases hv;exact .inr ⟨_,rfl⟩
theorem mw (w:World):CP 157 #[] w fun e w'=>∃x:nq,e= .returned x.v∧gR w' x bG∧Below w.heap.size w w'∧kI w.heap.size x:=by
 refine aN (yX w) ?_;intro w1 hw1 w2 hw2;have hz1:w1.heap.size=w.heap.size+1:=by subst hw1;exact aA _ _
 have hb1:Below w.heap.size w w1:=by subst hw1;exact ah _ _
 have l1:w1.heap[w.heap.size]? =some (.cells #[Value.slice none 0 0,Value.slice none 0 0] AO (0,0)):=by subst hw1;exact ap _ _
 refine aS [.slice none 0 0,.slice none 0 0] [.slice none 0 0,.slice none 0 0] rfl (bK ⟨none,0,0⟩ ⟨none,0,0⟩) w2 hw2 ?_;intro w3 h3 hz3 hB3;have l3:=aj hB3 l1;intro I hI;have key:=bj (α:=World) 256 (fun i x=>∃l:Sl,x.heap[w1.heap.size]? =some (.cells #[l.v,Value.slice none 0 0] AO (0,0))∧x.ownsRow w1.heap.size fE 1 l.v l.n ((((List.range i).map cA).map (·.1)).flatMap c_)∧l.n=i∧l.v.ownBlock≠some w1.heap.size∧x.heap[w.heap.size]? =some (.cells #[Value.slice none 0 0,Value.slice none 0 0] AO (0,0))∧Below w.heap.size w x∧w1.heap.size<x.heap.size) (fun i x=>I [.int .i64 (i:Int)] x) w3 ⟨⟨none,0,0⟩,h3,cO _ _ _ _,rfl,(by intro h;cases h),l3,hb1.trans (hB3.mono hb1.size),by omega⟩ ?_ ?_
 ·exact key
 ·rintro i hi ih w4 ⟨l,h4,hown,hln,hoff,hl4,hB,hlt4⟩;have hwr:IntKind.wrap .u8 (i:Int)=(i:Int):=di (by show(0:Int)≤_;omega) (by show _≤(255:Int);omega);refine hI _ _ (ac.yes (by simp;omega) ⟨_,_,_,ai _ _ h4 0,?_⟩);rw [hwr];rintro w5 rfl;have hb5:=ah w4 (.cells #[Value.int .u8 (i:Int)] 5);refine⟨_,_,nV (P:=Tryz.prog) (by kernel_rfl) (by kernel_rfl) (by kernel_rfl) w4 i hi,?_⟩;rintro w7 rfl;have hrow5:=aF hown hb5;have h5:=aj hb5 h4;have hl5:=aj hb5 hl4;obtain⟨a',c',w8,hr8,hu8,hf8,h9⟩:=fk (P:=Tryz.prog) (s:=l) 0 h5 (show 0<2 by decide) hrow5 hoff (Nat.le_refl _) ft jW kd rfl (by decide) (c_ [UInt8.ofNat i]) rfl (by intro u hu;rw [List.mem_singleton.1 hu];rfl) (by omega) (by omega);refine⟨a',l.n+1,c',w8,hr8,rfl,hu8,hf8,?_⟩;intro w9 hw9;obtain⟨hblk9,hrow9,hoff9,hB9,hkeep9,hsz9,hnew9⟩:=h9 w9 hw9;have hrange:((List.range (i+1)).map cA).map (·.1)=((List.range i).map cA).map (·.1)++ [[UInt8.ofNat i]]:=by rw [List.range_succ];simp [cA]
  have hzz:(w4.alloc (.cells #[Value.int .u8 (i:Int)] 5)).heap.size=w4.heap.size+1:=aA _ _;have hne:l.v.ownBlock≠some w.heap.size:=fun e=>by have:=(cB hrow5 _ e).1;omega
  have hl9:w9.heap[w.heap.size]? =some (.cells #[Value.slice none 0 0,Value.slice none 0 0] AO (0,0)):=by
   rw [hkeep9 w.heap.size (by omega) (by omega) hne];exact hl5
  refine Ar.ok64 (by omega) (by omega) (ih w9 ⟨⟨a',l.n+1,c'⟩,hblk9,?_,by show l.n+1=i+1;omega,hoff9,hl9,?_,by omega⟩)
  ·rw [hrange,List.flatMap_append];simpa using hrow9
  ·have hb45:Below w1.heap.size w4 (w4.alloc (.cells #[Value.int .u8 (i:Int)] 5)):=hb5.mono (by omega);exact hB.trans ((hB9 w4 hb45).mono (by omega))
 ·rintro w4 ⟨l,h4,hown,hln,hoff,hl4,hB,hlt4⟩;refine hI _ _ (ac.no (by simp) ⟨_,_,_,_,_,_,gZ h4,?_⟩);refine bf hl4 [l.v,.slice none 0 0] rfl (bK l ⟨none,0,0⟩) ?_;intro w10 h10 hs10 hz10 hB10;refine⟨_,_,_,_,_,_,gZ h10,⟨l,⟨none,0,0⟩⟩,rfl,⟨?_,?_,og hown,?_,?_,.inl rfl⟩,hB10 _ _ (Nat.le_refl _) hB,fun p hp=>Nat.le_trans hb1.size (lU hown p hp),fun p hp=>(by cases hp)⟩
  ·rw [hln];simp [bG]
  ·have:=aU hown fun k hk=>hs10 k fun e=>by have:=(cB hown k hk).1;omega
   exact(Rw.of_own this (fun _=>rfl) (by decide)).1
  ·simp [ao,bG]
  ·intro j y hj;simp [ao,bG]at hj
theorem nL {α:Type} {enc:α→List Value} {sz:Nat} (hsz:∀x,(enc x).length=sz) (h0:0<sz) (h1:∀x,∀u∈enc x,u.oneCell'=true) (t e:TypeId) {z:Value} {bytes:Nat} (ht:Tryz.prog.underlying t=some (.slice e)) (hi:(Tryz.prog.info? e).map (fun i=>(i.zero,i.size,i.bytes))=some (some z,sz,bytes)) (hzs:z.cells.size=sz)
  {B:Nat} {w:World} {s:Sl} {xs:List α} (hown:w.ownsRow B e sz s.v s.n (xs.flatMap enc)) (x:α) {b:Nat} {T:TypeId} {fz:Nat×Nat} (hb:w.heap[b]? =some (.cells (enc x).toArray T fz)) (hB:B≤w.heap.size) (hbytes:(s.n+1)*bytes≤140737488355328) (h63:s.n+1≤140737488355328):
  ∃A C w',(Builtin.append_ #[t,t] t #[.slice s.a s.n s.c,.slice (some ⟨b,0,none⟩) 1 1]).run Tryz.prog w= .ok (.slice A (s.n+1) C) w'∧w'.ownsRow B e sz (.slice A (s.n+1) C) (s.n+1) ((xs++ [x]).flatMap enc)∧(∀w0,Below B w0 w→Below B w0 w')∧(∀k,k<w.heap.size→s.v.ownBlock≠some k→w'.heap[k]? =w.heap[k]?):=by
 obtain⟨A,C,w',h2,h3,h4,h5⟩:=mU (P:=Tryz.prog) t e ht hi hzs h0 hown ⟨some ⟨b,0,none⟩,1,1⟩ (.inr ⟨_,rfl⟩) (enc x) (by rw [hsz,Nat.one_mul]) (by
  intro a ha j u hj;cases ha;rw [ai _ _ hb];simpa using hj) (h1 x) hbytes h63 hB
 exact⟨A,C,w',h2,by simpa using h3,h4,h5⟩
theorem BU {α:Type} {enc:α→List Value} {sz:Nat} (hsz:∀x,(enc x).length=sz) (h0:0<sz) (h1:∀x,∀u∈enc x,u.oneCell'=true) (t e:TypeId) {z:Value} {bytes:Nat} (ht:Tryz.prog.underlying t=some (.slice e)) (hi:(Tryz.prog.info? e).map (fun i=>(i.zero,i.size,i.bytes))=some (some z,sz,bytes)) (hzs:z.cells.size=sz)
  (w:World) (s:Sl) (xs:List α) (hs:tZ s) (hr:Rw enc sz w s.a xs) (hn:s.n=xs.length) (hbytes:s.n*bytes≤140737488355328) (h63:s.n≤140737488355328):
  ∃A C w',(Builtin.append_ #[t,t] t #[.slice none 0 0,.slice s.a s.n s.c]).run Tryz.prog w= .ok (.slice A s.n C) w'∧w'.ownsRow w.heap.size e sz (.slice A s.n C) s.n (xs.flatMap enc)∧Below w.heap.size w w':=by
 obtain⟨A,C,w',h2,h3,h4,_⟩:=mU (P:=Tryz.prog) t e ht hi hzs h0 (cO w w.heap.size e sz) s hs (xs.flatMap enc) (by rw [bY hsz,hn]) (by
  intro a ha j u hj;rw [ha]at hr;exact hr.flat hsz h0 j u hj) (by
  intro u hu;obtain⟨x,_,hx⟩:=List.mem_flatMap.1 hu;exact h1 x u hx) (by rw [Nat.zero_add];exact hbytes) (by rw [Nat.zero_add];exact h63) (Nat.le_refl _)
 rw [Nat.zero_add]at h2 h3;exact⟨A,C,w',h2,by simpa using h3,h4 w (Below.refl _ _)⟩
def JX (w:World) (x:nq) (es:List aT) (m:Int×Int) (u:Value) (w':World):Prop:=∃(x':nq) (n:Int),u= .tuple #[x'.v,.int .i64 n]∧Below w.heap.size w w'∧(match bP es m with
 | .error n0=>n=n0∧x'=x
 | .ok y=>n=0∧gR w' x' (es++ [y])∧kI w.heap.size x')
def Wr (w:World) (l:Sl) (sz B:Nat):Prop:=l.n=0∨∃g cur e,l.a=some ⟨g,0,none⟩∧B≤g∧w.heap[g]? =some (.cells cur e (0,0))∧l.n*sz≤cur.size
theorem Wr.of_own {w:World} {B:Nat} {e:TypeId} {sz:Nat} {l:Sl} {xs:List Value} (h:w.ownsRow B e sz l.v l.n xs) (hsz:0<sz):Wr w l sz B:=by
 rcases h.2 with⟨_,hn⟩ |⟨g,cap,cur,hv,hB,hg,hc,_,hz,_⟩
 ·exact .inl hn
 ·obtain⟨a,n,c⟩:=l;cases hv;exact .inr ⟨g,cur,e,rfl,hB,hg,by rw [hz];exact Nat.mul_le_mul_right _ hc⟩
theorem Wr.on {w w':World} {l:Sl} {sz B:Nat} (h:Wr w l sz B) (hb:Below w.heap.size w w'):Wr w' l sz B:=
 h.imp id fun⟨g,cur,e,h1,h2,h3,h4⟩=>⟨g,cur,e,h1,h2,aj hb h3,h4⟩
theorem Wr.base {w:World} {l:Sl} {sz B B':Nat} (h:Wr w l sz B) (hB:B'≤B):Wr w l sz B':=
 h.imp id fun⟨g,cur,e,h1,h2,h3,h4⟩=>⟨g,cur,e,h1,Nat.le_trans hB h2,h3,h4⟩
theorem Wr.off {w w':World} {l:Sl} {sz B b:Nat} (h:Wr w l sz B) (hb:b<B) (hs:∀j,j≠b→w'.heap[j]? =w.heap[j]?):Wr w' l sz B:=
 h.imp id fun⟨g,cur,e,h1,h2,h3,h4⟩=>⟨g,cur,e,h1,h2,by rw [hs g (by omega)];exact h3,h4⟩
def oe (w:World) (x:nq) (es:List aT) (m:Int×Int) (u:Value) (w':World):Prop:=∃(x':nq) (n:Int),u= .tuple #[x'.v,.int .i64 n]∧Below w.heap.size w w'∧(match bP es m with
 | .error n0=>n=n0∧x'=x
 | .ok y=>n=0∧gR w' x' (es++ [y])∧kI w.heap.size x'∧Wr w' x'.m 2 w.heap.size)
theorem oF (w:World) (x:nq) (es:List aT) (h:gR w x es) (hok:iD es) (m:Int×Int):CP 158 #[x.v,.agg #[.int .i64 m.1,.int .i64 m.2]] w fun e w'=>∃u,e= .returned u∧oe w x es m u w':=by
 refine Bo x.b.a x.b.n x.b.c x.m.a x.m.n x.m.c m.1 m.2 w (oe w x es m) ?_;intro w1 hw1 w2 hw2 w3 hw3;have hz1:w1.heap.size=w.heap.size+1:=by subst hw1;exact aA _ _
 have hz2:w2.heap.size=w.heap.size+2:=by subst hw2;rw [aA,hz1]
 have hz3:w3.heap.size=w.heap.size+3:=by subst hw3;rw [aA,hz2]
 have hb1:Below w.heap.size w w1:=by subst hw1;exact ah _ _
 have hb2:Below w1.heap.size w1 w2:=by subst hw2;exact ah _ _
 have hb3:Below w2.heap.size w2 w3:=by subst hw3;exact ah _ _
 have l0:w3.heap[w.heap.size]? =some (.cells #[x.b.v,x.m.v] AO (0,0)):=aj hb3 (aj hb2 (by subst hw1;exact ap _ _));have l1:w3.heap[w1.heap.size]? =some (.cells #[.int .i64 m.1,.int .i64 m.2] mh (0,0)):=aj hb3 (by subst hw2;exact ap _ _);have l2:w3.heap[w2.heap.size]? =some (.cells #[Value.slice none 0 0,Value.slice none 0 0] AO (0,0)):=by subst hw3;exact ap _ _
 have hb03:Below w.heap.size w w3:=ae hb1 (ae hb2 hb3);have h3:=h.on hb03;have hmost:=hok.most;have hlen:=h.n1;have fail:∀(n:Int) (wq:World),bP es m= .error n→Below w3.heap.size w3 wq→
   ∃g0A:Option Addr,∃g0N:Nat,∃g0C:Nat,∃g1A:Option Addr,∃g1N:Nat,∃g1C:Nat,(wq.cell? (nb w)=some (Value.slice g0A g0N g0C)∧wq.cell? ((nb w).add 1)=some (Value.slice g1A g1N g1C)∧True)∧
   ax wq (nb w2) (fun w5=>
   ∃res0A:Option Addr,∃res0N:Nat,∃res0C:Nat,∃res1A:Option Addr,∃res1N:Nat,∃res1C:Nat,(w5.cell? (nb w2)=some (Value.slice res0A res0N res0C)∧w5.cell? ((nb w2).add 1)=some (Value.slice res1A res1N res1C)∧True)∧
   oe w x es m (Value.tuple #[Value.agg #[Value.slice res0A res0N res0C,Value.slice res1A res1N res1C],Value.int .i64 n]) w5) [Value.slice g0A g0N g0C,Value.slice g1A g1N g1C] 0:=by
  intro n wq hn hbq;refine⟨_,_,_,_,_,_,gZ (aj hbq l0),?_⟩;refine bf (aj hbq l2) [x.b.v,x.m.v] rfl (bK _ _) ?_;intro w5 h5 hs5 hz5 hB5;refine⟨_,_,_,_,_,_,gZ h5,x,n,rfl,(hB5 _ _ (by omega) (ae hb03 hbq)),?_⟩;rw [hn];exact⟨rfl,rfl⟩
 refine⟨_,_,_,_,_,_,gZ l0,m.1,ai _ _ l1 0,?_⟩;refine(kT w3 x es h3 m.1).mono ?_;rintro e w4 ⟨rfl,b4⟩;refine⟨_,rfl,ac.mk (fun h0=>?_) fun h0=>⟨_,_,_,_,_,_,gZ (aj b4 l0),m.2,ai _ _ (aj b4 l1) 1,?_⟩⟩
 ·have h0:¬bu es m.1:=by simpa using h0
  exact fail 4 w4 (by rw [bP,if_pos fun h=>h0 h.1]) b4
 have i1:bu es m.1:=by simpa using h0
 refine(kT w4 x es (h3.on b4) m.2).mono ?_;rintro e w6 ⟨rfl,b6⟩;have b36:=ae b4 b6;refine⟨_,rfl,ac.mk (fun h0=>?_) fun h0=>?_⟩
 ·have h0:¬bu es m.2:=by simpa using h0
  exact fail 4 w6 (by rw [bP,if_pos fun h=>h0 h.2]) b36
 have i2:bu es m.2:=by simpa using h0
 intro w8 hw8;have b38:Below w3.heap.size w3 w8:=by subst hw8;exact b36.drew
 have h8:=h3.on b38;have l08:=aj b38 l0;have l18:=aj b38 l1;obtain⟨x1,hx1,e1⟩:=e_ i1;obtain⟨x2,hx2,e2⟩:=e_ i2;have hmap:∀(i:Nat) (y:aT),es[i]? =some y→(es.map (·.1))[i]? =some y.1:=fun i y hy=>by rw [List.getElem?_map,hy];rfl
 obtain⟨a1,ha1,_,hc1⟩:=h8.r1 _ _ (hmap _ _ hx1);obtain⟨a2,ha2,_,hc2⟩:=h8.r1 _ _ (hmap _ _ hx2);have c1:=hc1 0 _ rfl;have c2:=hc2 0 _ rfl;rw [au]at c1 c2;have:=i1.1;have:=i1.2;have:=i2.1;have:=i2.2;have s1:=hok.short x1 (List.mem_of_getElem? hx1);have s2:=hok.short x2 (List.mem_of_getElem? hx2);refine⟨_,_,_,ai _ _ l08 0,m.1,ai _ _ l18 0,af.mk a1 ha1 ⟨by omega,by omega,str x1.1,c1,_,_,_,ai _ _ l08 0,m.2,ai _ _ l18 1,af.mk a2 ha2 ⟨by omega,by omega,str x2.1,c2,?_⟩⟩⟩;have hj:str x1.1++str x2.1=str (bR es m):=by rw [sW,bR,e1,e2]
 have hjl:(bR es m).length=x1.1.length+x2.1.length:=by rw [bR,e1,e2,List.length_append]
 rw [hj];refine⟨by rw [aR,aR];show _≤(9223372036854775807:Int);omega,ac.mk (fun h0=>?_) fun h0=>?_⟩
 ·have h0:=of_decide_eq_true h0;rw [aR]at h0;exact fail 3 w8 (by rw [bP,if_neg (Classical.not_not.2 ⟨i1,i2⟩),if_pos (by omega)]) b38
 have hs:=of_decide_eq_false h0;rw [aR]at hs;have hs:¬64< (bR es m).length:=by omega
 refine⟨_,_,_,ai _ _ l08 0,ac.mk (fun h0=>?_) fun h0=>⟨_,_,_,_,_,_,gZ l08,?_⟩⟩
 ·have h0:=of_decide_eq_true h0;exact fail 5 w8 (by rw [bP,if_neg (Classical.not_not.2 ⟨i1,i2⟩),if_neg hs,if_pos (by omega)]) b38
 have h0:=of_decide_eq_false h0;have hk:¬1000≤es.length:=by omega
 refine(vl w8 x es h8 (by omega) (bR es m)).mono ?_;rintro e w11 ⟨rfl,b11⟩;have b311:=ae b38 b11;refine⟨_,rfl,ac.mk (fun h1=>?_) fun h1=>?_⟩
 ·have h1:=(uF es _).1 (of_decide_eq_true h1);exact fail 10 w11 (by rw [bP,if_neg (Classical.not_not.2 ⟨i1,i2⟩),if_neg hs,if_neg hk,if_pos h1]) b311
 have hnew:bR es m∉es.map (·.1):=fun hm=>of_decide_eq_false h1 ((uF es _).2 hm);have hadd:bP es m= .ok (bR es m,m):=by rw [bP,if_neg (Classical.not_not.2 ⟨i1,i2⟩),if_neg hs,if_neg hk,if_neg hnew]
 have h11:=h8.on b11;have l011:=aj b11 l08;have l111:=aj b11 l18;have l211:=aj b311 l2;have hz11:=b311.size;obtain⟨A1,C1,w13,hr13,o13,b13⟩:=BU (enc:=c_) (sz:=1) (fun _=>rfl) (by decide) (fun y u hu=>by rw [List.mem_singleton.1 hu];rfl) ft fE jW kd rfl w11 x.b (es.map (·.1)) h11.k1 h11.r1 (by rw [h11.n1];simp) (by omega) (by omega);have h13:=h11.on b13;have hmlen:(ao es).length≤1000:=by have:=cD hok;omega
 have hn2:=h.n2;obtain⟨A2,C2,w14,hr14,o14,b14⟩:=BU (enc:=aP) (sz:=2) (fun _=>rfl) (by decide) (fun y=>cw _ _) 33 mh wd vD rfl w13 x.m (ao es) h13.k2 h13.r2 h13.n2 (by omega) (by omega);refine⟨_,_,_,ai _ _ l011 0,A1,x.b.n,C1,w13,hr13,_,_,_,ai _ _ (aj b13 l011) 1,A2,x.m.n,C2,w14,hr14,?_⟩;intro w15 hw15;have b15:Below w11.heap.size w11 w15:=by subst hw15;exact(ae b13 b14).drew
 have S15:w15.ownsRow w11.heap.size fE 1 (.slice A1 x.b.n C1) x.b.n ((es.map (·.1)).flatMap c_):=by subst hw15;exact im (aF o13 b14)
 have P15:w15.ownsRow w11.heap.size mh 2 (.slice A2 x.m.n C2) x.m.n ((ao es).flatMap aP):=by subst hw15;exact aX (im o14) b13.size
 have pair_at:∀ {wq:World},Below w11.heap.size w11 wq→wq.heap[w1.heap.size]? =some (.cells #[.int .i64 m.1,.int .i64 m.2] mh (0,0)):=fun hb=>Below.keeps hb (by omega) l111;have fin:∀(wq:World) (S P:Sl),wq.ownsRow w11.heap.size fE 1 S.v S.n (((es.map (·.1))++ [bR es m]).flatMap c_)→wq.ownsRow w11.heap.size mh 2 P.v P.n ((ao es++ [m]).flatMap aP)→Below w11.heap.size w11 wq→
   ax wq (nb w2) (fun w5=>
   ∃res0A:Option Addr,∃res0N:Nat,∃res0C:Nat,∃res1A:Option Addr,∃res1N:Nat,∃res1C:Nat,(w5.cell? (nb w2)=some (Value.slice res0A res0N res0C)∧w5.cell? ((nb w2).add 1)=some (Value.slice res1A res1N res1C)∧True)∧
   oe w x es m (Value.tuple #[Value.agg #[Value.slice res0A res0N res0C,Value.slice res1A res1N res1C],Value.int .i64 0]) w5) [Value.slice S.a S.n S.c,Value.slice P.a P.n P.c] 0:=by
  intro wq S P hS hP hbq;refine bf (Below.keeps hbq (by omega) l211) [S.v,P.v] rfl (bK _ _) ?_;intro w5 h5 hs5 hz5 hB5;have S5:=aU hS fun k hk=>hs5 k fun e=>by have:=(cB hS k hk).1;omega
  have P5:=aU hP fun k hk=>hs5 k fun e=>by have:=(cB hP k hk).1;omega
  obtain⟨rS,nS⟩:=Rw.of_own S5 (fun _=>rfl) (by decide);obtain⟨rP,nP⟩:=Rw.of_own P5 (fun _=>rfl) (by decide);have hmap:(es++ [(bR es m,m)]).map (·.1)=es.map (·.1)++ [bR es m]:=by simp
  have hmer:ao (es++ [(bR es m,m)])=ao es++ [m]:=by
   simp [ao,List.drop_append_of_le_length hok.len]
  refine⟨_,_,_,_,_,_,gZ h5,⟨S,P⟩,0,rfl,hB5 _ _ (by omega) ((hb03.trans (b311.mono hb03.size)).trans (hbq.mono (by omega))),?_⟩;rw [hadd];refine⟨rfl,⟨by rw [nS];simp,by rw [hmap];exact rS,og S5,by rw [nP,hmer],by rw [hmer];exact rP,og P5⟩,⟨fun p hp=>Nat.le_trans (hb03.trans (b311.mono hb03.size)).size (lU S5 p hp),fun p hp=>Nat.le_trans (hb03.trans (b311.mono hb03.size)).size (lU P5 p hp)⟩,Wr.of_own (aX P5 (hb03.trans (b311.mono hb03.size)).size) (by decide)⟩
 have pushS:∀ {wq:World} {b:Nat},wq.ownsRow w11.heap.size fE 1 (.slice A1 x.b.n C1) x.b.n ((es.map (·.1)).flatMap c_)→wq.heap[b]? =some (.cells #[Value.string (str (bR es m))] fE (0,0))→Below w11.heap.size w11 wq→_:=fun {wq} {b} h1 h2 h3=>
  nL (enc:=c_) (sz:=1) (fun _=>rfl) (by decide) (fun y u hu=>by rw [List.mem_singleton.1 hu];rfl) ft fE jW kd rfl (s:=⟨A1,x.b.n,C1⟩) h1 (bR es m) h2 h3.size (by show(x.b.n+1)*16≤_;omega) (by show x.b.n+1≤_;omega)
 have pushP:∀ {wq:World} {b:Nat},wq.ownsRow w11.heap.size mh 2 (.slice A2 x.m.n C2) x.m.n ((ao es).flatMap aP)→wq.heap[b]? =some (.cells #[Value.int .i64 m.1,Value.int .i64 m.2] mh (0,0))→Below w11.heap.size w11 wq→_:=fun {wq} {b} h1 h2 h3=>
  nL (enc:=aP) (sz:=2) (fun _=>rfl) (by decide) (fun y=>cw _ _) 33 mh wd vD rfl (s:=⟨A2,x.m.n,C2⟩) h1 m h2 h3.size (by show(x.m.n+1)*16≤_;omega) (by show x.m.n+1≤_;omega)
 refine⟨m.1,m.2,gZ (pair_at b15),?_,?_⟩
 ·intro w16 hw16;have b16:Below w11.heap.size w11 w16:=by subst hw16;exact b15.alloc b15.size _
  have c16:Below w15.heap.size w15 w16:=by subst hw16;exact ah _ _
  have s16:w16.heap[w15.heap.size]? =some (.cells #[Value.string (str (bR es m))] fE (0,0)):=by subst hw16;exact ap _ _
  refine⟨gZ (pair_at b16),?_,?_⟩
  ·obtain⟨A3,C3,w17,hr17,o17,b17,k17⟩:=pushS (aF S15 c16) s16 b16;have bb17:=b17 _ b16;refine⟨A3,_,C3,w17,hr17,gZ (pair_at bb17),?_⟩;intro w18 hw18;have c18:Below w17.heap.size w17 w18:=by subst hw18;exact ah _ _
   have b18:Below w11.heap.size w11 w18:=by subst hw18;exact bb17.alloc bb17.size _
   have m18:w18.heap[w17.heap.size]? =some (.cells #[Value.int .i64 m.1,Value.int .i64 m.2] mh (0,0)):=by subst hw18;exact ap _ _
   have P17:=aU (aF P15 c16) fun k hk=>k17 k (cB (aF P15 c16) k hk).2 (cn (aF P15 c16) (aF S15 c16) (by decide) k hk);obtain⟨A4,C4,w19,hr19,o19,b19,k19⟩:=pushP (aF P17 c18) m18 b18;refine⟨A4,_,C4,w19,hr19,?_⟩;have S18:=aF o17 c18;exact fin w19 ⟨A3,x.b.n+1,C3⟩ ⟨A4,x.m.n+1,C4⟩ (aU S18 fun k hk=>k19 k (cB S18 k hk).2 (cn S18 (aF P17 c18) (by decide) k hk)) o19 (b19 _ b18)
  ·intro w21 hw21;have c21:Below w16.heap.size w16 w21:=by subst hw21;exact ah _ _
   have b21:Below w11.heap.size w11 w21:=by subst hw21;exact b16.alloc b16.size _
   have m21:w21.heap[w16.heap.size]? =some (.cells #[Value.int .i64 m.1,Value.int .i64 m.2] mh (0,0)):=by subst hw21;exact ap _ _
   have S21:=aF (aF S15 c16) c21;have P21:=aF (aF P15 c16) c21;obtain⟨A3,C3,w22,hr22,o22,b22,k22⟩:=pushS S21 (aj c21 s16) b21;have P22:=aU P21 fun k hk=>k22 k (cB P21 k hk).2 (cn P21 S21 (by decide) k hk);have m22:w22.heap[w16.heap.size]? =some (.cells #[Value.int .i64 m.1,Value.int .i64 m.2] mh (0,0)):=by
    rw [k22 _ (Array.getElem?_eq_some_iff.1 m21).1 (aE S21 m21 (by decide))];exact m21
   obtain⟨A4,C4,w23,hr23,o23,b23,k23⟩:=pushP P22 m22 (b22 _ b21);exact⟨A3,_,C3,w22,hr22,A4,_,C4,w23,hr23,fin w23 ⟨A3,x.b.n+1,C3⟩ ⟨A4,x.m.n+1,C4⟩ (aU o22 fun k hk=>k23 k (cB o22 k hk).2 (cn o22 P22 (by decide) k hk)) o23 (b23 _ (b22 _ b21))⟩
 ·intro w25 hw25 w26 hw26;have c25:Below w15.heap.size w15 w25:=by subst hw25;exact ah _ _
  have b25:Below w11.heap.size w11 w25:=by subst hw25;exact b15.alloc b15.size _
  have m25:w25.heap[w15.heap.size]? =some (.cells #[Value.int .i64 m.1,Value.int .i64 m.2] mh (0,0)):=by subst hw25;exact ap _ _
  have c26:Below w25.heap.size w25 w26:=by subst hw26;exact ah _ _
  have b26:Below w11.heap.size w11 w26:=by subst hw26;exact b25.alloc b25.size _
  have s26:w26.heap[w25.heap.size]? =some (.cells #[Value.string (str (bR es m))] fE (0,0)):=by subst hw26;exact ap _ _
  have S26:=aF (aF S15 c25) c26;have P26:=aF (aF P15 c25) c26;have m26:=aj c26 m25;obtain⟨A3,C3,w27,hr27,o27,b27,k27⟩:=pushS S26 s26 b26;have P27:=aU P26 fun k hk=>k27 k (cB P26 k hk).2 (cn P26 S26 (by decide) k hk);have m27:w27.heap[w15.heap.size]? =some (.cells #[Value.int .i64 m.1,Value.int .i64 m.2] mh (0,0)):=by
   rw [k27 _ (Array.getElem?_eq_some_iff.1 m26).1 (aE S26 m26 (by decide))];exact m26
  obtain⟨A4,C4,w28,hr28,o28,b28,k28⟩:=pushP P27 m27 (b27 _ b26);exact⟨A3,_,C3,w27,hr27,A4,_,C4,w28,hr28,fin w28 ⟨A3,x.b.n+1,C3⟩ ⟨A4,x.m.n+1,C4⟩ (aU o27 fun k hk=>k28 k (cB o27 k hk).2 (cn o27 P27 (by decide) k hk)) o28 (b28 _ (b27 _ b26))⟩
theorem qf (w:World) (x:nq) (es:List aT) (h:gR w x es) (hok:iD es) (m:Int×Int):CP 158 #[x.v,.agg #[.int .i64 m.1,.int .i64 m.2]] w fun e w'=>∃u,e= .returned u∧JX w x es m u w':=by
 refine(oF w x es h hok m).mono fun e w' ⟨u,he,x',n,hu,hb,hp⟩=>⟨u,he,x',n,hu,hb,?_⟩;cases hx:bP es m with
 |error n0=>rw [hx]at hp;exact hp
 |ok y=>rw [hx]at hp;exact⟨hp.1,hp.2.1,hp.2.2.1⟩
theorem qb (a b:Sl):∀v∈(#[a.v,b.v]:Array Value),¬mr v:=by
 intro v hv;have hv:v=a.v∨v=b.v:=by simpa using hv
 rcases hv with rfl |rfl<;>(rintro(⟨k,n,h⟩ |⟨s,h⟩)<;>cases h)
theorem gR.past {w w':World} {x:nq} {es:List aT} {b:Nat} {p q:Sl} {T:TypeId} {fz:Nat×Nat} (h:gR w x es) (hb:w.heap[b]? =some (.cells #[p.v,q.v] T fz)) (hne:∀j,j<w.heap.size→j≠b→w'.heap[j]? =w.heap[j]?) (hs:w.heap.size≤w'.heap.size):gR w' x es:=
 ⟨h.n1,h.r1.past (fun y=>⟨_,rfl,.inr ⟨_,rfl⟩⟩) hb (qb p q) hne hs,h.k1,h.n2,h.r2.past (fun y=>⟨_,rfl,.inl ⟨_,_,rfl⟩⟩) hb (qb p q) hne hs,h.k2⟩
def BL (w:World) (ms:List (Int×Int)) (u:Value) (w':World):Prop:=∃(x:nq) (n e:Int),u= .tuple #[x.v,.int .i64 n,.int .i64 e]∧Below w.heap.size w w'∧(match cm bG 0 ms with
 | .error q=>n=q.1∧e=q.2
 | .ok es=>n=ms.length∧e=0∧gR w' x es∧iD es∧kI w.heap.size x)
theorem yf (w:World) (A:Option Addr) (C:Nat) (ms:List (Int×Int)) (hr:Rw aP 2 w A ms) (hl:ms.length≤1000000):CP 141 #[.slice A ms.length C] w fun e w'=>∃u,e= .returned u∧BL w ms u w':=by
 refine zA A ms.length C w (BL w ms) ?_;intro w1 hw1;have hb1:Below w.heap.size w w1:=by subst hw1;exact ah _ _
 have z1:w1.heap[w.heap.size]? =some (.cells #[(⟨none,0,0⟩:Sl).v,(⟨none,0,0⟩:Sl).v] AO (0,0)):=by subst hw1;exact ap _ _
 refine(mw w1).mono ?_;rintro e w2 ⟨x0,rfl,h2,b2,f2⟩;have z2:=aj b2 z1;have hlt2:w.heap.size<w2.heap.size:=(Array.getElem?_eq_some_iff.1 z2).1;refine⟨_,_,_,_,_,_,rfl,?_⟩;intro w3 hw3;refine aS [.slice none 0 0,.slice none 0 0] [x0.b.v,x0.m.v] rfl (bK _ _) w3 hw3 ?_;intro w4 h4 hz4 b4;have hb14:Below w.heap.size w w4:=ae hb1 (ae b2 b4);intro I hI;have key:=bj (α:=Int×Int×World) ms.length (fun i y=>∃(x:nq) (es:List aT),y.2.2.heap[w2.heap.size]? =some (.cells #[x.b.v,x.m.v] AO (0,0))∧y.2.2.heap[w.heap.size]? =some (.cells #[(⟨none,0,0⟩:Sl).v,(⟨none,0,0⟩:Sl).v] AO (0,0))∧gR y.2.2 x es∧iD es∧cm bG 0 ms=cm es i (ms.drop i)∧Below w.heap.size w y.2.2∧kI w.heap.size x) (fun i y=>I [.int .i64 (i:Int),.int .i64 y.1,.int .i64 y.2.1] y.2.2) (0,0,w4) ⟨x0,bG,h4,aj b4 z2,h2.on b4,oQ,by rw [List.drop_zero],hb14,f2.mono hb1.size⟩ ?_ ?_
 ·exact key
 ·rintro i hi ih ⟨y4,y3,w5⟩ ⟨x,es,h5,z5,hx5,hok,heq,hB5,f5⟩;change w5.heap[w2.heap.size]? =_ at h5;change w5.heap[w.heap.size]? =_ at z5;change gR w5 x es at hx5;change Below w.heap.size w w5 at hB5;have hdrop:ms.drop i=ms[i]::ms.drop (i+1):=List.drop_eq_getElem_cons hi;refine hI _ _ _ _ (ac.yes (by simp;omega) ?_);intro w6 hw6;have b6:Below w5.heap.size w5 w6:=by subst hw6;exact aO w5
  have h6:=aj b6 h5;have z6:=aj b6 z5;have hx6:=hx5.on b6;have hB6:Below w.heap.size w w6:=hB5.trans (b6.mono hB5.size);obtain⟨q,hq,_,hc⟩:=(hr.on hB6) i _ (List.getElem?_eq_getElem hi);have c0:=hc 0 _ rfl;rw [au]at c0;have hlt6:w2.heap.size<w6.heap.size:=(Array.getElem?_eq_some_iff.1 h6).1;have rest:∀(loc:Nat) (wq:World) (x':nq) (n:Int),loc≠w2.heap.size→wq.heap[loc]? =some (.cells #[x'.b.v,x'.m.v] AO (0,0))→wq.heap[w2.heap.size]? =some (.cells #[x.b.v,x.m.v] AO (0,0))→wq.heap[w.heap.size]? =some (.cells #[(⟨none,0,0⟩:Sl).v,(⟨none,0,0⟩:Sl).v] AO (0,0))→Below w.heap.size w wq→(match bP es ms[i]with
    | .error n0=>n=n0∧x'=x
    | .ok y=>n=0∧gR wq x' (es++ [y])∧kI w.heap.size x')→
    ac ((n:Int) != 0)
     (∃g0A:Option Addr,∃g0N:Nat,∃g0C:Nat,∃g1A:Option Addr,∃g1N:Nat,∃g1C:Nat,(wq.cell? (nb w2)=some (Value.slice g0A g0N g0C)∧wq.cell? ((nb w2).add 1)=some (Value.slice g1A g1N g1C)∧True)∧
      ax wq (nb w) (fun w10=>
      ∃res0A:Option Addr,∃res0N:Nat,∃res0C:Nat,∃res1A:Option Addr,∃res1N:Nat,∃res1C:Nat,(w10.cell? (nb w)=some (Value.slice res0A res0N res0C)∧w10.cell? ((nb w).add 1)=some (Value.slice res1A res1N res1C)∧True)∧
      BL w ms (Value.tuple #[Value.agg #[Value.slice res0A res0N res0C,Value.slice res1A res1N res1C],Value.int .i64 (i:Int),Value.int .i64 n]) w10) [Value.slice g0A g0N g0C,Value.slice g1A g1N g1C] 0)
     (∃g0A:Option Addr,∃g0N:Nat,∃g0C:Nat,∃g1A:Option Addr,∃g1N:Nat,∃g1C:Nat,(wq.cell? ⟨loc,0,none⟩=some (Value.slice g0A g0N g0C)∧wq.cell? ((⟨loc,0,none⟩:Addr).add 1)=some (Value.slice g1A g1N g1C)∧True)∧
      ax wq (nb w2) (fun w11=>
      Ar .i64 ((i:Int)+1) (fun n=>
      I [Value.int .i64 n,Value.int .i64 y4,Value.int .i64 y3] w11)) [Value.slice g0A g0N g0C,Value.slice g1A g1N g1C] 0):=by
   intro loc wq x' n hloc hl hb2 hb0 hBq hm;cases hx:bP es ms[i]with
   |error n0=>
    rw [hx]at hm;obtain⟨rfl,rfl⟩:=hm;refine ac.yes (by simpa using gn hx) ⟨_,_,_,_,_,_,gZ hb2,?_⟩;refine bf hb0 [x'.b.v,x'.m.v] rfl (bK _ _) ?_;intro w10 h10 hs10 hz10 hB10;refine⟨_,_,_,_,_,_,gZ h10,x',_,_,rfl,hB10 _ _ (Nat.le_refl _) hBq,?_⟩;rw [heq,hdrop,cm,hx];exact⟨rfl,rfl⟩
   |ok y=>
    rw [hx]at hm;obtain⟨rfl,hx',fx⟩:=hm;refine ac.no rfl ⟨_,_,_,_,_,_,gZ hl,?_⟩;refine bf hb2 [x'.b.v,x'.m.v] rfl (bK _ _) ?_;intro w11 h11 hs11 hz11 hB11;refine Ar.ok64 (by omega) (by omega) (ih (y4,y3,w11) ⟨x',es++ [y],h11,?_,hx'.past hb2 (fun j _ hj=>hs11 j hj) (Nat.le_of_eq hz11.symm),(mg hok hx).1,?_,hB11 _ _ (by omega) hBq,fx⟩)
    ·show w11.heap[w.heap.size]? =_;rw [hs11 _ (by omega)];exact hb0
    ·rw [heq,hdrop,cm,hx]
  refine⟨_,_,_,_,_,_,gZ h6,af.mk q hq ⟨by omega,by omega,_,_,⟨c0,hc 1 _ rfl,trivial⟩,?_,?_⟩⟩
  ·refine(qf w6 x es hx6 hok ms[i]).mono ?_;rintro e w7 ⟨u,rfl,x',n,rfl,b7,hp⟩;refine⟨_,_,_,_,_,_,n,rfl,?_⟩;intro w8 hw8;refine aS [.slice none 0 0,.slice none 0 0] [x'.b.v,x'.m.v] rfl (bK _ _) w8 hw8 ?_;intro w9 h9 hz9 b9;have hz7:=b7.size;refine rest w7.heap.size w9 x' n (by omega) h9 (aj b9 (aj b7 h6)) (aj b9 (aj b7 z6)) ((hB6.trans (b7.mono hB6.size)).trans (b9.mono (Nat.le_trans hB6.size hz7))) ?_;cases hx:bP es ms[i]with
   |error n0=>rw [hx]at hp;exact hp
   |ok y=>rw [hx]at hp;exact⟨hp.1,hp.2.1.on b9,hp.2.2.mono hB6.size⟩
  ·intro w12 hw12;have b12:Below w6.heap.size w6 w12:=by subst hw12;exact ah _ _
   have l12:w12.heap[w6.heap.size]? =some (.cells #[Value.slice none 0 0,Value.slice none 0 0] AO (0,0)):=by subst hw12;exact ap _ _
   have hB12:Below w.heap.size w w12:=hB6.trans (b12.mono hB6.size);obtain⟨q',hq',_,hc'⟩:=(hr.on hB12) i _ (List.getElem?_eq_getElem hi);have hqq:q'=q:=by rw [hq]at hq';exact(Option.some.inj hq').symm
   subst hqq;have c0':=hc' 0 _ rfl;rw [au]at c0';refine⟨⟨c0',hc' 1 _ rfl,trivial⟩,gZ (aj b12 h6),?_⟩;refine(qf w12 x es (hx6.on b12) hok ms[i]).mono ?_;rintro e w13 ⟨u,rfl,x',n,rfl,b13,hp⟩;refine⟨_,_,_,_,_,_,n,rfl,?_⟩;refine bf (aj b13 l12) [x'.b.v,x'.m.v] rfl (bK _ _) ?_;intro w14 h14 hs14 hz14 hB14;refine rest w6.heap.size w14 x' n (by omega) h14 (by rw [hs14 _ (by omega)];exact aj b13 (aj b12 h6)) (by rw [hs14 _ (by omega)];exact aj b13 (aj b12 z6)) (hB14 _ _ (by omega) (hB12.trans (b13.mono hB12.size))) ?_;cases hx:bP es ms[i]with
   |error n0=>rw [hx]at hp;exact hp
   |ok y=>rw [hx]at hp;exact⟨hp.1,hp.2.1.past (p:=⟨none,0,0⟩) (q:=⟨none,0,0⟩) (aj b13 l12) (fun j _ hj=>hs14 j hj) (Nat.le_of_eq hz14.symm),hp.2.2.mono hB12.size⟩
 ·rintro⟨y4,y3,w5⟩ ⟨x,es,h5,z5,hx5,hok,heq,hB5,f5⟩;change w5.heap[w2.heap.size]? =_ at h5;change w5.heap[w.heap.size]? =_ at z5;refine hI _ _ _ _ (ac.no (by simp) ⟨_,_,_,_,_,_,gZ h5,?_⟩);refine bf z5 [x.b.v,x.m.v] rfl (bK _ _) ?_;intro w17 h17 hs17 hz17 hB17;refine⟨_,_,_,_,_,_,gZ h17,x,_,_,rfl,hB17 _ _ (Nat.le_refl _) hB5,?_⟩;rw [heq,List.drop_length,cm];exact⟨rfl,rfl,hx5.past z5 (fun j _ hj=>hs17 j hj) (Nat.le_of_eq hz17.symm),hok,f5⟩
theorem Ar.nat {z:Int} {F:Int→Prop} (n:Nat) (hz:z=(n:Int)) (hn:n≤9223372036854775807) (h:F (n:Int)):Ar .i64 z F:=by
 subst hz;exact Ar.ok64 (by omega) (by omega) h
def uy (n:Int):List Value:=[.int .u16 n]
theorem qk {m:Int×Int} {y:aT} {es:List aT} (hy:bP es m= .ok y):∀(ms:List (Int×Int)) (es0:List aT) (i:Nat),cm es0 i ms= .ok es→cm es0 i (ms++ [m])= .ok (es++ [y])
 | [],es0,i,h=>by
  cases h;rw [List.nil_append,cm,hy];rfl
 |q::ms,es0,i,h=>by
  rw [cm]at h;rw [List.cons_append,cm];cases hq:bP es0 q with
  |error n=>rw [hq]at h;cases h
  |ok x=>rw [hq]at h;exact qk hy ms _ _ h
theorem uh {es:List aT} (h:iD es) (y:aT):ao (es++ [y])=ao es++ [y.2]:=by
 simp [ao,List.drop_append_of_le_length h.len]
theorem bQ {α:Type} {enc:α→List Value} {w:World} {a:Option Addr} {xs:List α} (h:Rw enc 1 w a xs) {i:Nat} (hi:i<xs.length) {v:Value} (hv:(enc xs[i])[0]? =some v):∃q,a=some q∧w.cell? (q.add (i*1))=some v:=by
 obtain⟨q,hq,_,hc⟩:=h i _ (List.getElem?_eq_getElem hi);have:=hc 0 _ hv;rw [au]at this;exact⟨q,hq,this⟩
def py (es:List aT) (c:Int):Int:=
 if decide (Int.tmod (IntKind.wrap .i64 c) ((es.length+(ao es).length:Nat):Int)≥((es.length:Nat):Int))=true
 then IntKind.wrap .i64 (IntKind.wrap .i64 (256+Int.tmod (IntKind.wrap .i64 c) ((es.length+(ao es).length:Nat):Int))- ((es.length:Nat):Int))
 else Int.tmod (IntKind.wrap .i64 c) ((es.length+(ao es).length:Nat):Int)
def ER (es:List aT) (a b:Int):List aT:=match bP es (py es a,py es b)with
 | .ok y=>es++ [y]
 | .error _=>es
def iU (l:List Int):Nat→List aT
 |0=>bG
 |i+1=>if 2*i+1<l.length then ER (iU l i) (l.getD (2*i) 0) (l.getD (2*i+1) 0)else iU l i
theorem tE {l:List Int} {i:Nat} (h:l.length≤2*i+1):∀d,iU l (i+d)=iU l i
 |0=>rfl
 |d+1=>by rw [←Nat.add_assoc,iU,if_neg (by omega),tE h d]
theorem tU (w:World) (A:Option Addr) (C:Nat) (l:List Int) (hr:Rw uy 1 w A l):CP 103 #[.slice A l.length C] w fun e w'=>∃(x:nq) (es:List aT),e= .returned x.v∧gR w' x es∧iD es∧cm bG 0 (ao es)= .ok es∧es=iU l 30∧Below w.heap.size w w'∧Wr w' x.m 2 (w.heap.size+1):=by
 refine aJ (An A l.length C w (fun u w'=>∃(x:nq) (es:List aT),u=x.v∧gR w' x es∧iD es∧cm bG 0 (ao es)= .ok es∧es=iU l 30∧Below w.heap.size w w'∧Wr w' x.m 2 (w.heap.size+1)) ?_) (by rintro v w' ⟨x,es,rfl,h⟩;exact⟨x,es,rfl,h⟩);intro w1 hw1;have hb1:Below w.heap.size w w1:=by subst hw1;exact ah _ _
 have z1:w1.heap[w.heap.size]? =some (.cells #[(⟨none,0,0⟩:Sl).v,(⟨none,0,0⟩:Sl).v] AO (0,0)):=by subst hw1;exact ap _ _
 refine(mw w1).mono ?_;rintro e w2 ⟨x0,rfl,h2,b2,_⟩;have z2:=aj b2 z1;have hlt2:w.heap.size<w2.heap.size:=(Array.getElem?_eq_some_iff.1 z2).1;refine⟨_,_,_,_,_,_,rfl,?_⟩;intro w3 hw3;refine aS [.slice none 0 0,.slice none 0 0] [x0.b.v,x0.m.v] rfl (bK _ _) w3 hw3 ?_;intro w4 h4 hz4 b4;have hb14:Below w.heap.size w w4:=ae hb1 (ae b2 b4);intro I hI;let Inv (i:Nat) (q:World):Prop:=∃(x:nq) (es:List aT),q.heap[w2.heap.size]? =some (.cells #[x.b.v,x.m.v] AO (0,0))∧q.heap[w.heap.size]? =some (.cells #[(⟨none,0,0⟩:Sl).v,(⟨none,0,0⟩:Sl).v] AO (0,0))∧gR q x es∧iD es∧cm bG 0 (ao es)= .ok es∧es=iU l i∧Below w.heap.size w q∧Wr q x.m 2 (w.heap.size+1);have fin:∀(i:Nat) (q:World),iU l 30=iU l i→Inv i q→∃g0A:Option Addr,∃g0N:Nat,∃g0C:Nat,∃g1A:Option Addr,∃g1N:Nat,∃g1C:Nat,(q.cell? (nb w2)=some (Value.slice g0A g0N g0C)∧q.cell? ((nb w2).add 1)=some (Value.slice g1A g1N g1C)∧True)∧
   ax q (nb w) (fun w5=>∃res0A:Option Addr,∃res0N:Nat,∃res0C:Nat,∃res1A:Option Addr,∃res1N:Nat,∃res1C:Nat,(w5.cell? (nb w)=some (Value.slice res0A res0N res0C)∧w5.cell? ((nb w).add 1)=some (Value.slice res1A res1N res1C)∧True)∧
    (∃(x:nq) (es:List aT),Value.agg #[Value.slice res0A res0N res0C,Value.slice res1A res1N res1C]=x.v∧gR w5 x es∧iD es∧cm bG 0 (ao es)= .ok es∧es=iU l 30∧Below w.heap.size w w5∧Wr w5 x.m 2 (w.heap.size+1))) [Value.slice g0A g0N g0C,Value.slice g1A g1N g1C] 0:=by
  rintro i q hst ⟨x,es,hq2,hq0,hx,hok,hnew,hes,hB,hW⟩;refine⟨_,_,_,_,_,_,gZ hq2,?_⟩;refine bf hq0 [x.b.v,x.m.v] rfl (bK _ _) ?_;intro w5 h5 hs5 hz5 hB5;exact⟨_,_,_,_,_,_,gZ h5,x,es,rfl,hx.past hq0 (fun j _ hj=>hs5 j hj) (Nat.le_of_eq hz5.symm),hok,hnew,hes.trans hst.symm,hB5 _ _ (Nat.le_refl _) hB,hW.off (Nat.lt_succ_self _) fun j hj=>hs5 j hj⟩
 have key:=bj (α:=World) 30 Inv (fun i q=>I [.int .i64 ((2*i:Nat):Int)] q) w4 ⟨x0,bG,h4,aj b4 z2,h2.on b4,oQ,rfl,rfl,hb14,.inl h2.n2⟩ ?_ ?_
 ·exact key
 ·rintro i hi ih w5 hinv;refine hI _ _ (Ar.nat (2*i+1) (by omega) (by omega) (ac.mk (fun hl=>?_) fun hl=>fin i w5 (by have:=of_decide_eq_false hl;have e:=tE (l:=l) (i:=i) (by omega) (30-i);rwa [show i+(30-i)=30 by omega]at e) hinv));have hl:2*i+1<l.length:=by have:=of_decide_eq_true hl;omega
  refine ac.yes (by simp;omega) ?_;intro J hJ w7 hw7;obtain⟨x,es,h5,z5,hx5,hok,hnew,hes,hB5,hW5⟩:=hinv;have hstep:iU l (i+1)=ER es l[2*i] l[2*i+1]:=by rw [iU,if_pos hl, ←hes];simp [List.getD,hl,show 2*i<l.length by omega]
  have hJ':∀q,Inv (i+1) q→J [] q:=fun q hq=>hJ q (Ar.nat (2*(i+1)) (by omega) (by omega) (ih q hq));have b7:Below w5.heap.size w5 w7:=by subst hw7;exact aO w5
  have h7:=aj b7 h5;have z7:=aj b7 z5;have hx7:=hx5.on b7;have hB7:Below w.heap.size w w7:=hB5.trans (b7.mono hB5.size);have hlt7:w2.heap.size<w7.heap.size:=(Array.getElem?_eq_some_iff.1 h7).1;obtain⟨q,hq,c0⟩:=bQ (hr.on hB7) (i:=2*i) (by omega) rfl;obtain⟨q',hq',c1⟩:=bQ (hr.on hB7) (i:=2*i+1) (by omega) rfl;have hn1:=hx7.n1;have hn2:=hx7.n2;have hmost:=hok.most;have hlen:=hok.len;have hml:=cD hok;have pick_yes:∀ {c:Int},decide (Int.tmod (IntKind.wrap .i64 c) ((x.b.n+x.m.n:Nat):Int)≥((x.b.n:Nat):Int))=true→IntKind.wrap .i64 (IntKind.wrap .i64 (256+Int.tmod (IntKind.wrap .i64 c) ((x.b.n+x.m.n:Nat):Int))- ((x.b.n:Nat):Int))=py es c:=by
   intro c hc;rw [hn1,hn2]at hc⊢;rw [py,if_pos hc]
  have pick_no:∀ {c:Int},decide (Int.tmod (IntKind.wrap .i64 c) ((x.b.n+x.m.n:Nat):Int)≥((x.b.n:Nat):Int))=false→Int.tmod (IntKind.wrap .i64 c) ((x.b.n+x.m.n:Nat):Int)=py es c:=by
   intro c hc;rw [hn1,hn2]at hc⊢;rw [py,if_neg (by rw [hc];exact Bool.false_ne_true)]
  refine af.mk q hq ⟨by omega,by omega,_,c0,_,_,_,ai _ _ h7 0,_,_,_,ai _ _ h7 1,Ar.nat (x.b.n+x.m.n) (by omega) (by omega) ⟨by omega,Ar.nat (2*i+1) (by omega) (by omega) (af.mk q' hq' ⟨by omega,by omega,_,c1,_,_,_,ai _ _ h7 0,_,_,_,ai _ _ h7 1,Ar.nat (x.b.n+x.m.n) (by omega) (by omega) ⟨by omega,?_⟩⟩)⟩⟩;intro J22 hJ22;have all:∀a:Int,a=py es l[2*i]→J22 [.int .i64 a] w7:=by
   intro a hpa;refine hJ22 a w7 ?_;intro J23 hJ23;have all2:∀b:Int,b=py es l[2*i+1]→J23 [.int .i64 b] w7:=by
    intro b hpb;refine hJ23 b w7 ⟨_,_,_,_,_,_,gZ h7,?_⟩;refine(oF w7 x es hx7 hok (a,b)).mono ?_;rintro e w10 ⟨u,rfl,x',n,rfl,b10,hp⟩;refine⟨_,_,_,_,_,_,n,rfl,?_⟩;intro w11 hw11;refine aS [.slice none 0 0,.slice none 0 0] [x'.b.v,x'.m.v] rfl (bK _ _) w11 hw11 ?_;intro w12 h12 hz12 b12;have b712:=ae b10 b12;have h2':=aj b712 h7;have z2':=aj b712 z7;have hB12:Below w.heap.size w w12:=hB7.trans (b712.mono hB7.size);cases hx:bP es (a,b)with
    |error n0=>
     rw [hx]at hp;obtain⟨rfl,rfl⟩:=hp;refine ac.no (by simpa using gn hx) (hJ' w12 ⟨x',es,h2',z2',hx7.on b712,hok,hnew,by rw [hstep,ER, ←hpa, ←hpb,hx],hB12,(hW5.on b7).on b712⟩)
    |ok y=>
     rw [hx]at hp;obtain⟨rfl,hx',_,hW'⟩:=hp;refine ac.yes rfl ⟨_,_,_,_,_,_,gZ h12,?_⟩;refine bf h2' [x'.b.v,x'.m.v] rfl (bK _ _) ?_;intro w13 h13 hs13 hz13 hB13;have hadd:=mg hok hx;refine hJ' w13 ⟨x',es++ [y],h13,?_,(hx'.on b12).past h2' (fun j _ hj=>hs13 j hj) (Nat.le_of_eq hz13.symm),hadd.1,?_,by rw [hstep,ER, ←hpa, ←hpb,hx],hB13 _ _ (by omega) hB12,((hW'.on b12).off hlt7 fun j hj=>hs13 j hj).base (by omega)⟩
     ·rw [hs13 _ (by omega)];exact z2'
     ·rw [uh hok,hadd.2.1];exact qk hx _ _ _ hnew
   exact⟨_,_,_,ai _ _ h7 0,ac.mk (fun hc=>⟨_,_,_,ai _ _ h7 0,all2 _ (pick_yes hc)⟩) fun hc=>all2 _ (pick_no hc)⟩
  exact⟨_,_,_,ai _ _ h7 0,ac.mk (fun hc=>⟨_,_,_,ai _ _ h7 0,all _ (pick_yes hc)⟩) fun hc=>all _ (pick_no hc)⟩
 ·rintro w5 hinv;refine hI _ _ (Ar.nat (2*30+1) (by omega) (by omega) (ac.mk (fun hl=>?_) fun hl=>fin 30 w5 rfl hinv));exact ac.no (by simp) (fin 30 w5 rfl hinv)
structure dk {α:Type} (enc:α→List Value) (sz:Nat) (w:World) (l:Sl) (xs:List α):Prop where
 n:l.n=xs.length
 r:Rw enc sz w l.a xs
 k:tZ l
structure E8 {α:Type} (enc:α→List Value) (sz:Nat) (t e:TypeId) (bytes:Nat):Prop where
 hsz:∀x,(enc x).length=sz
 h0:0<sz
 h1:∀x,∀u∈enc x,u.oneCell'=true
 ht:Tryz.prog.underlying t=some (.slice e)
 hz:∃z:Value,(Tryz.prog.info? e).map (fun i=>(i.zero,i.size,i.bytes))=some (some z,sz,bytes)∧z.cells.size=sz
theorem eL:E8 ay 1 cq bh 8:=⟨fun _=>rfl,by decide,fun x u hu=>by rw [List.mem_singleton.1 hu];rfl,qG,_,wC,rfl⟩
theorem dk.of_own {α:Type} {enc:α→List Value} {sz bytes:Nat} {t e:TypeId} (E:E8 enc sz t e bytes) {w:World} {B:Nat} {l:Sl} {xs:List α} (h:w.ownsRow B e sz l.v l.n (xs.flatMap enc)):dk enc sz w l xs:=
 have:=Rw.of_own h E.hsz E.h0
 ⟨this.2,this.1,og h⟩
theorem E8.push {α:Type} {enc:α→List Value} {sz bytes:Nat} {t e:TypeId} (E:E8 enc sz t e bytes) {B:Nat} {w2 w3:World} {s:Sl} {xs:List α} (hown:w2.ownsRow B e sz s.v s.n (xs.flatMap enc)) (x:α) {T:TypeId} {c:Array Value} (hw:w3=w2.alloc (.cells c T)) (hc:c=(enc x).toArray) (hB:B≤w2.heap.size) (hn:s.n≤1000000000) (hb:bytes≤1000):
  ∃(l:Sl) (w4:World),l.n=s.n+1∧(Builtin.append_ #[t,t] t #[.slice s.a s.n s.c,.slice (some (nb w2)) 1 1]).run Tryz.prog w3= .ok (.slice l.a l.n l.c) w4∧w4.ownsRow B e sz l.v l.n ((xs++ [x]).flatMap enc)∧(∀w0,Below B w0 w2→Below B w0 w4)∧(∀k,k<w2.heap.size→s.v.ownBlock≠some k→w4.heap[k]? =w2.heap[k]?):=by
 obtain⟨z,hi,hzs⟩:=E.hz;subst hw hc;have hba:=ah w2 (.cells (enc x).toArray T);have hmul:(s.n+1)*bytes≤(1000000000+1)*1000:=Nat.mul_le_mul (by omega) hb;obtain⟨A,C,w4,h1,h2,h3,h4⟩:=nL (enc:=enc) (sz:=sz) E.hsz E.h0 E.h1 t e E.ht hi hzs (aF hown hba) x (ap w2 _) (Nat.le_trans hB hba.size) (by omega) (by omega);refine⟨⟨A,s.n+1,C⟩,w4,rfl,h1,h2,fun w0 h0=>h3 w0 (h0.trans (hba.mono hB)),fun k hk hne=>?_⟩;rw [h4 k (Nat.lt_of_lt_of_le hk hba.size) hne,hba.block k hk]
theorem E8.spread {α:Type} {enc:α→List Value} {sz bytes:Nat} {t e:TypeId} (E:E8 enc sz t e bytes) {B:Nat} {w2:World} {s l:Sl} {xs ys:List α} (hown:w2.ownsRow B e sz s.v s.n (xs.flatMap enc)) (hl:dk enc sz w2 l ys) (hB:B≤w2.heap.size) (hn:s.n≤1000000000) (hm:l.n≤1000000000) (hb:bytes≤1000):
  ∃(r:Sl) (w4:World),r.n=s.n+l.n∧(Builtin.append_ #[t,t] t #[.slice s.a s.n s.c,.slice l.a l.n l.c]).run Tryz.prog w2= .ok (.slice r.a r.n r.c) w4∧w4.ownsRow B e sz r.v r.n ((xs++ys).flatMap enc)∧(∀w0,Below B w0 w2→Below B w0 w4)∧(∀k,k<w2.heap.size→s.v.ownBlock≠some k→w4.heap[k]? =w2.heap[k]?)∧∀k,r.v.ownBlock=some k→s.v.ownBlock=some k∨w2.heap.size≤k:=by
 obtain⟨z,hi,hzs⟩:=E.hz;have hmul:(s.n+l.n)*bytes≤(1000000000+1000000000)*1000:=Nat.mul_le_mul (by omega) hb;have hr:=hl.r;obtain⟨A,C,w4,h1,h2,h3,h4,h5⟩:=pZ (P:=Tryz.prog) t e E.ht hi hzs E.h0 hown l hl.k (ys.flatMap enc) (by rw [bY E.hsz,hl.n]) (by
  intro a ha j u hj;rw [ha]at hr;exact hr.flat E.hsz E.h0 j u hj) (by
  intro u hu;obtain⟨x,_,hx⟩:=List.mem_flatMap.1 hu;exact E.h1 x u hx) (by omega) (by omega) hB
 exact⟨⟨A,s.n+l.n,C⟩,w4,rfl,h1,by rw [List.flatMap_append];exact h2,h3,h4,h5⟩
theorem cX (w:World) (B:Nat) (e:TypeId) (sz:Nat) {α:Type} (enc:α→List Value):w.ownsRow B e sz dZ.v dZ.n (([]:List α).flatMap enc):=cO w B e sz
theorem Hk (a b c:Int) (l:List Int):(cz a b c l).length≤l.length:=by
 induction l using cz.induct a b with
 |case1=>simp [cz]
 |case2 x=>simp [cz]
 |case3 x y r hx ih=>
  obtain⟨rfl,rfl⟩:=hx;rw [bX];simp only [List.length_cons];omega
 |case4 x y r hx ih=>
  rw [ce r hx];simp only [List.length_cons]at ih⊢;omega
theorem uG (ms:List (Int×Int)) (s:List Int):∀k,k≤ms.length→(after ms k s).length≤s.length
 |0,_=>by rw [cV];exact Nat.le_refl _
 |k+1,h=>by
  rw [cj ms (List.getElem?_eq_getElem (show k<ms.length by omega))];exact Nat.le_trans (Hk _ _ _ _) (uG ms s k (by omega))
theorem we (w:World) (x:aY) (s:ak) (h:cI w x s) (hr:s.ranked=false) (hl:s.merges.length≤1000000):CP 97 #[x.v] w fun e w'=>∃u,e= .returned u∧BL w s.merges u w':=by
 refine En x.ranked x.s1.a x.s1.n x.s1.c x.s2.a x.s2.n x.s2.c x.s3.a x.s3.n x.s3.c x.s4.a x.s4.n x.s4.c x.s5.a x.s5.n x.s5.c w (BL w s.merges) ?_;intro w1 hw1 w2 hw2;have hb1:Below w.heap.size w w1:=by subst hw1;exact ah _ _
 have b2:Below w1.heap.size w1 w2:=by subst hw2;exact ah _ _
 have hb2:=ae hb1 b2;have p1:w1.heap[w.heap.size]? =some (.cells x.cells da (0,0)):=by subst hw1;exact ap _ _
 have p2:=aj b2 p1;have l2:w2.heap[w1.heap.size]? =some (.cells #[dZ.v,dZ.v] AO (0,0)):=by subst hw2;exact ap _ _
 refine⟨_,ai _ _ p2 0,ac.no (by rw [h.ranked,hr]) ⟨_,_,_,ai _ _ p2 1,?_⟩⟩;have hn:=h.n1;obtain⟨⟨a,n,c⟩,hx⟩:∃y:Sl,y=x.s1:=⟨_,rfl⟩;rw [←hx]at hn⊢;change n=s.merges.length at hn;subst hn;have hr2:Rw aP 2 w2 a s.merges:=by have:=(h.on hb2).r1;rw [←hx]at this;exact this
 refine(yf w2 a c s.merges hr2 hl).mono ?_;rintro e w5 ⟨u,rfl,y,n,e,rfl,b5,hp⟩;refine⟨_,_,_,_,_,_,n,e,rfl,?_⟩;have l5:=aj b5 l2;refine bf l5 [y.b.v,y.m.v] rfl (bK _ _) ?_;intro w6 h6 hs6 hz6 hB6;have hbb:=ae hb2 b5;refine⟨_,_,_,_,_,_,gZ h6,y,n,e,rfl,hB6 _ _ hb1.size hbb,?_⟩;cases hx:cm bG 0 s.merges with
 |error q=>rw [hx]at hp;exact hp
 |ok es=>rw [hx]at hp;exact⟨hp.1,hp.2.1,hp.2.2.1.past l5 (fun j _ hj=>hs6 j hj) (Nat.le_of_eq hz6.symm),hp.2.2.2.1,hp.2.2.2.2.mono hb2.size⟩
structure tI (w:World) (x:nq) (cls:List (Int×Int×Int)) (js:List (Int×Int)):Prop where
 n1:x.b.n=cls.length
 r1:Rw bH 3 w x.b.a cls
 n2:x.m.n=js.length
 r2:Rw aP 2 w x.m.a js
theorem tI.on {w w':World} {x:nq} {cls:List (Int×Int×Int)} {js:List (Int×Int)} (h:tI w x cls js) (hb:Below w.heap.size w w'):tI w' x cls js:=⟨h.n1,h.r1.on hb,h.n2,h.r2.on hb⟩
abbrev Rp:TypeId:=37
theorem EG {α:Type} {p:α→Bool} {l:List α} {i:Nat} (hi:i<l.length) (h:(l.take i).all p=true) (hp:p l[i]=true):(l.take (i+1)).all p=true:=by
 rw [List.take_add_one,List.getElem?_eq_getElem hi,List.all_append,h];simpa using hp
theorem EF {α:Type} {p:α→Bool} {l:List α} {i:Nat} (hi:i<l.length) (hp:p l[i]=false):l.all p=false:=by
 rw [List.all_eq_false];exact⟨_,List.getElem_mem hi,by simp [hp]⟩
theorem mz (w:World) (x:nq) (cls:List (Int×Int×Int)) (js:List (Int×Int)) (h:tI w x cls js) (hl:cls.length≤1000000) (hj:js.length≤1000000):CP 104 #[x.v] w fun e w'=>e= .returned (.bool (cls.all aQ&&js.all cr))∧Below w.heap.size w w':=by
 refine aJ (xN x.b.a x.b.n x.b.c x.m.a x.m.n x.m.c w (fun u w'=>u= .bool (cls.all aQ&&js.all cr)∧Below w.heap.size w w') ?_) (by rintro v w' ⟨rfl,h⟩;exact⟨rfl,h⟩);intro w1 hw1;have hb1:Below w.heap.size w w1:=by subst hw1;exact ah _ _
 have l1:w1.heap[w.heap.size]? =some (.cells #[x.b.v,x.m.v] Rp (0,0)):=by subst hw1;exact ap _ _
 have hn1:=h.n1;have hn2:=h.n2;intro I hI;have key:=bj (α:=Bool×World) cls.length (fun i y=>(cls.take i).all aQ=true∧Below w1.heap.size w1 y.2) (fun i y=>I [.int .i64 (i:Int),.bool y.1] y.2) (false,w1) ⟨by simp,Below.refl _ _⟩ ?_ ?_
 ·exact key
 ·rintro i hi ih ⟨y,q⟩ ⟨hall,hB⟩;change Below w1.heap.size w1 q at hB;have lq:=aj hB l1;obtain⟨p,hp,_,hc⟩:=((h.on hb1).on hB).r1 i _ (List.getElem?_eq_getElem hi);have c0:=hc 0 _ rfl;rw [au]at c0;refine hI _ y q ⟨_,_,_,ai _ _ lq 0,ac.yes (by simp;omega) ⟨_,_,_,ai _ _ lq 0,af.mk p hp ⟨by omega,by omega,_,_,_,⟨c0,hc 1 _ rfl,hc 2 _ rfl,trivial⟩,?_⟩⟩⟩;intro w3 hw3;refine aS [.int .i64 0,.int .i64 0,.int .i64 0] [.int .i64 cls[i].1,.int .i64 cls[i].2.1,.int .i64 cls[i].2.2] rfl (f_ _ _ _) w3 hw3 ?_;intro w4 h4 hz4 b4;have hBw:=ae hb1 (ae hB b4);have no:aQ cls[i]=false→Value.bool false=Value.bool (cls.all aQ&&js.all cr)∧Below w.heap.size w w4:=by
   intro e;rw [EF hi e];exact⟨rfl,hBw⟩
  refine⟨_,ai _ _ h4 0,ac.mk (fun e=>no ?_) fun e1=>⟨_,ai _ _ h4 1,_,ai _ _ h4 0,ac.mk (fun e=>no ?_) fun e2=>⟨_,ai _ _ h4 1,ac.mk (fun e=>no ?_) fun e3=>⟨_,ai _ _ h4 2,ac.mk (fun e=>no ?_) fun e4=>⟨_,ai _ _ h4 2,ac.mk (fun e=>no ?_) fun e5=>Ar.nat (i+1) rfl (by omega) (ih (y,w4) ⟨EG hi hall ?_,ae hB b4⟩)⟩⟩⟩⟩⟩
  ·have e:=of_decide_eq_true e;exact decide_eq_false (by omega)
  ·have e:=of_decide_eq_true e;exact decide_eq_false (by omega)
  ·have e:=of_decide_eq_true e;exact decide_eq_false (by omega)
  ·have e:=of_decide_eq_true e;exact decide_eq_false (by omega)
  ·have e:=of_decide_eq_true e;exact decide_eq_false (by omega)
  ·have e1:=of_decide_eq_false e1;have e2:=of_decide_eq_false e2;have e3:=of_decide_eq_false e3;have e4:=of_decide_eq_false e4;have e5:=of_decide_eq_false e5;exact decide_eq_true (by omega)
 ·rintro⟨y,q⟩ ⟨hall,hB⟩;change Below w1.heap.size w1 q at hB;rw [List.take_length]at hall;refine hI _ y q ⟨_,_,_,ai _ _ (aj hB l1) 0,ac.no (by simp;omega) ?_⟩;intro I2 hI2;have key2:=bj (α:=Bool×World) js.length (fun i y=>(js.take i).all cr=true∧Below w1.heap.size w1 y.2) (fun i y=>I2 [.int .i64 (i:Int),.bool y.1] y.2) (y,q) ⟨by simp,hB⟩ ?_ ?_
  ·exact key2
  ·rintro i hi ih ⟨y,q⟩ ⟨hall2,hB⟩;change Below w1.heap.size w1 q at hB;have lq:=aj hB l1;obtain⟨p,hp,_,hc⟩:=((h.on hb1).on hB).r2 i _ (List.getElem?_eq_getElem hi);have c0:=hc 0 _ rfl;rw [au]at c0;refine hI2 _ y q ⟨_,_,_,ai _ _ lq 1,ac.yes (by simp;omega) ⟨_,_,_,ai _ _ lq 1,af.mk p hp ⟨by omega,by omega,_,_,⟨c0,hc 1 _ rfl,trivial⟩,?_⟩⟩⟩;intro w3 hw3;refine aS [.int .i64 0,.int .i64 0] [.int .i64 js[i].1,.int .i64 js[i].2] rfl (cw _ _) w3 hw3 ?_;intro w4 h4 hz4 b4;have hBw:=ae hb1 (ae hB b4);have no:cr js[i]=false→Value.bool false=Value.bool (cls.all aQ&&js.all cr)∧Below w.heap.size w w4:=by
    intro e;rw [EF hi e,Bool.and_false];exact⟨rfl,hBw⟩
   refine⟨_,ai _ _ h4 0,ac.mk (fun e=>no ?_) fun e1=>⟨_,ai _ _ h4 0,ac.mk (fun e=>no ?_) fun e2=>⟨_,ai _ _ h4 1,ac.mk (fun e=>no ?_) fun e3=>⟨_,ai _ _ h4 1,ac.mk (fun e=>no ?_) fun e4=>Ar.nat (i+1) rfl (by omega) (ih (y,w4) ⟨EG hi hall2 ?_,ae hB b4⟩)⟩⟩⟩⟩
   ·have e:=of_decide_eq_true e;exact decide_eq_false (by omega)
   ·have e:=of_decide_eq_true e;exact decide_eq_false (by omega)
   ·have e:=of_decide_eq_true e;exact decide_eq_false (by omega)
   ·have e:=of_decide_eq_true e;exact decide_eq_false (by omega)
   ·have e1:=of_decide_eq_false e1;have e2:=of_decide_eq_false e2;have e3:=of_decide_eq_false e3;have e4:=of_decide_eq_false e4;exact decide_eq_true (by omega)
  ·rintro⟨y,q⟩ ⟨hall2,hB⟩;change Below w1.heap.size w1 q at hB;rw [List.take_length]at hall2;refine hI2 _ y q ⟨_,_,_,ai _ _ (aj hB l1) 1,ac.no (by simp;omega) ⟨?_,ae hb1 hB⟩⟩;rw [hall,hall2];rfl
def kz (xs:List (Int×Bs)):Value:=match bJ [] 0 xs with
 |none=>.tuple #[.int .i64 (xs.length:Int),.int .i64 0]
 |some q=>.tuple #[.int .i64 (q.1:Int),.int .i64 q.2]
theorem my (w:World) (A:Option Addr) (C:Nat) (xs:List (Int×Bs)) (hr:Rw aD 2 w A xs) (hl:xs.length≤1000000):CP 98 #[.slice A xs.length C] w fun e w'=>e= .returned (kz xs)∧Below w.heap.size w w':=by
 refine aJ (CS A xs.length C w (fun u w'=>u=kz xs∧Below w.heap.size w w') ?_) (by rintro v w' ⟨rfl,h⟩;exact⟨rfl,h⟩);intro I hI;have key:=bj (α:=Int×Int×World) xs.length (fun i y=>bJ [] 0 xs=bJ (xs.take i) i (xs.drop i)∧Below w.heap.size w y.2.2) (fun i y=>I [.int .i64 (i:Int),.int .i64 y.1,.int .i64 y.2.1] y.2.2) (0,0,w) ⟨by simp,Below.refl _ _⟩ ?_ ?_
 ·exact key
 ·rintro i hi ih ⟨y3,y2,q⟩ ⟨heq,hB⟩;change Below w.heap.size w q at hB;obtain⟨p,hp,_,hc⟩:=(hr.on hB) i _ (List.getElem?_eq_getElem hi);have hlen:(xs.take i).length=i:=by rw [List.length_take];omega
  rw [List.drop_eq_getElem_cons hi,bJ]at heq;have out:∀(n:Int) (v:World),n≠0→cE (xs.take i) xs[i]=n→Below w.heap.size w v→Value.tuple #[.int .i64 (i:Int),.int .i64 n]=kz xs∧Below w.heap.size w v:=by
   intro n v hn e hv;refine⟨?_,hv⟩;rw [if_neg (by rw [e];exact hn),e]at heq;rw [kz,heq]
  have one:bc xs[i]=false→cE (xs.take i) xs[i]=1:=fun e=>by rw [cE,if_pos e]
  refine hI _ y3 y2 q (ac.yes (by simp;omega) (af.mk p hp ⟨by omega,by omega,_,hc 0 _ rfl,ac.mk (fun e=>out 1 q (by decide) (one ?_) hB) fun e1=>(af.mk p hp ⟨by omega,by omega,_,hc 0 _ rfl,ac.mk (fun e=>out 1 q (by decide) (one ?_) hB) fun e2=>(af.mk p hp ⟨by omega,by omega,_,hc 1 _ rfl,ac.mk (fun e=>out 1 q (by decide) (one ?_) hB) fun e3=>(af.mk p hp ⟨by omega,by omega,_,hc 1 _ rfl,ac.mk (fun e=>out 1 q (by decide) (one ?_) hB) fun e4=>?_⟩)⟩)⟩)⟩))
  ·have e:=of_decide_eq_true e;exact decide_eq_false (by omega)
  ·have e:=of_decide_eq_true e;exact decide_eq_false (by omega)
  ·have e:=of_decide_eq_true e;rw [aR]at e;exact decide_eq_false (by omega)
  ·have e:=of_decide_eq_true e;rw [aR]at e;exact decide_eq_false (by omega)
  have hok:¬bc xs[i]=false:=by
   have e1:=of_decide_eq_false e1;have e2:=of_decide_eq_false e2;have e3:=of_decide_eq_false e3;have e4:=of_decide_eq_false e4;rw [aR]at e3 e4;rw [bc,decide_eq_true (by omega)];simp
  refine ac.mk (fun e=>out 3 q (by decide) ?_ hB) fun e=>?_
  ·have e:=of_decide_eq_true e;rw [cE,if_neg hok,hlen,if_pos (by omega)]
  have e:=of_decide_eq_false e;have h32:¬32≤(xs.take i).length:=by rw [hlen];omega
  intro I7 hI7;have key7:=bj (α:=Int×Int×World) i (fun k y=>(xs[i].1∉(xs.take k).map (·.1)∧xs[i].2∉(xs.take k).map (·.2))∧Below w.heap.size w y.2.2) (fun k y=>I7 [.int .i64 (k:Int),.int .i64 y.1,.int .i64 y.2.1] y.2.2) (y3,y2,q) ⟨by simp,hB⟩ ?_ ?_
  ·exact key7
  ·rintro k hk ih7 ⟨z3,z2,v⟩ ⟨hno,hBv⟩;change Below w.heap.size w v at hBv;refine hI7 _ z3 z2 v (ac.yes (by simp;omega) ?_);intro v3 hv3;have b3:Below v.heap.size v v3:=by subst hv3;exact aO v
   have hB3:Below w.heap.size w v3:=hBv.trans (b3.mono hBv.size);have hkl:k<xs.length:=by omega
   obtain⟨p',hp',_,hc'⟩:=(hr.on hB3) i _ (List.getElem?_eq_getElem hi);obtain⟨pk,hpk,_,hck⟩:=(hr.on hB3) k _ (List.getElem?_eq_getElem hkl);have mem:xs[k]∈xs.take i:=List.mem_take_iff_getElem.2 ⟨k,by omega,rfl⟩;refine af.mk pk hpk ⟨by omega,by omega,_,hck 0 _ rfl,af.mk p' hp' ⟨by omega,by omega,_,hc' 0 _ rfl,ac.mk (fun h0=>out 10 v3 (by decide) ?_ hB3) fun h0=>af.mk pk hpk ⟨by omega,by omega,_,hck 1 _ rfl,af.mk p' hp' ⟨by omega,by omega,_,hc' 1 _ rfl,ac.mk (fun h1=>out 10 v3 (by decide) ?_ hB3) fun h1=>Ar.nat (k+1) rfl (by omega) (ih7 (z3,z2,v3) ⟨?_,hB3⟩)⟩⟩⟩⟩
   ·have h0:xs[k].1=xs[i].1:=by simpa using h0
    rw [cE,if_neg hok,if_neg h32,if_pos (.inl (by rw [←h0];exact List.mem_map_of_mem mem))]
   ·rw [cu,cu]at h1;have h1:xs[k].2=xs[i].2:=by simpa using h1
    rw [cE,if_neg hok,if_neg h32,if_pos (.inr (by rw [←h1];exact List.mem_map_of_mem mem))]
   ·rw [cu,cu]at h1;have h0:¬xs[k].1=xs[i].1:=by simpa using h0
    have h1:¬xs[k].2=xs[i].2:=by simpa using h1
    rw [List.take_add_one,List.getElem?_eq_getElem hkl];simp only [Option.toList_some,List.map_append,List.map_cons,List.map_nil,List.mem_append,List.mem_singleton,not_or];exact⟨⟨hno.1,fun e=>h0 e.symm⟩,hno.2,fun e=>h1 e.symm⟩
  ·rintro⟨z3,z2,v⟩ ⟨hno,hBv⟩;change Below w.heap.size w v at hBv;have hadd:cE (xs.take i) xs[i]=0:=by rw [cE,if_neg hok,if_neg h32,if_neg (not_or.2 hno)]
   refine hI7 _ z3 z2 v (ac.no (by simp) (Ar.nat (i+1) rfl (by omega) (ih (z3,z2,v) ⟨?_,hBv⟩)));rw [heq,if_pos hadd,List.take_add_one,List.getElem?_eq_getElem hi];rfl
 ·rintro⟨y3,y2,q⟩ ⟨heq,hB⟩;refine hI _ y3 y2 q (ac.no (by simp) ⟨?_,hB⟩);rw [List.drop_length,bJ]at heq;rw [kz,heq]
def rH (xs:List (Int×Bs)):Bool:=xs.any (fun x=>decide (100<x.2.length))||decide (40<xs.length)
theorem ro (w:World) (A:Option Addr) (C:Nat) (xs:List (Int×Bs)) (hr:Rw aD 2 w A xs) (hl:xs.length≤9223372036854775807):CP 102 #[.slice A xs.length C] w fun e w'=>e= .returned (.bool (rH xs))∧w'=w:=by
 refine aJ (zD A xs.length C w (fun u w'=>u= .bool (rH xs)∧w'=w) ?_) (by rintro v w' ⟨rfl,h⟩;exact⟨rfl,h⟩);intro I hI;have key:=bj (α:=Bool) xs.length (fun i _=>(xs.take i).any (fun x=>decide (100<x.2.length))=false) (fun i y=>I [.int .i64 (i:Int),.bool y] w) false (by simp) ?_ ?_
 ·exact key
 ·rintro i hi ih y hinv;obtain⟨p,hp,_,hc⟩:=hr i _ (List.getElem?_eq_getElem hi);refine hI _ y w (ac.yes (by simp;omega) (af.mk p hp ⟨by omega,by omega,_,hc 1 _ rfl,ac.mk (fun e=>⟨?_,rfl⟩) fun e=>Ar.nat (i+1) rfl (by omega) (ih y ?_)⟩))
  ·have e:=of_decide_eq_true e;rw [aR]at e;have:xs.any (fun x=>decide (100<x.2.length))=true:=List.any_eq_true.2 ⟨_,List.getElem_mem hi,decide_eq_true (by omega)⟩;rw [rH,this];rfl
  ·have e:=of_decide_eq_false e;rw [aR]at e;rw [List.take_add_one,List.getElem?_eq_getElem hi,List.any_append,hinv];simp;omega
 ·rintro y hinv;rw [List.take_length]at hinv;refine hI _ y w (ac.no (by simp) ⟨?_,rfl⟩);rw [rH,hinv,Bool.false_or];congr 1;exact decide_eq_decide.2 (by omega)
theorem uf (w:World) (A1:Option Addr) (N1 C1:Nat) (A2:Option Addr) (N2 C2:Nat) (A3:Option Addr) (N3 C3:Nat) (A:Option Addr) (C:Nat) (xs:List (Int×Bs)) (hr:Rw aD 2 w A xs) (hl:xs.length≤9223372036854775807):CP 40 #[.slice A1 N1 C1,.slice A2 N2 C2,.slice A3 N3 C3,.slice A xs.length C] w fun e w'=>e= .returned (.bool (decide (60<N1∨20<N2∨20<N3)||rH xs))∧w'=w:=by
 refine aN (DG A1 N1 C1 A2 N2 C2 A3 N3 C3 A xs.length C w) ?_;refine ac.mk (fun h1=>⟨?_,rfl⟩) fun h1=>ac.mk (fun h2=>⟨?_,rfl⟩) fun h2=>ac.mk (fun h3=>⟨?_,rfl⟩) fun h3=>?_
 ·have:=of_decide_eq_true h1;rw [decide_eq_true (by omega)];rfl
 ·have:=of_decide_eq_true h2;rw [decide_eq_true (by omega)];rfl
 ·have:=of_decide_eq_true h3;rw [decide_eq_true (by omega)];rfl
 ·have h1:=of_decide_eq_false h1;have h2:=of_decide_eq_false h2;have h3:=of_decide_eq_false h3;refine(ro w A C xs hr hl).mono ?_;rintro e w' ⟨rfl,hw⟩;subst hw;refine⟨_,rfl,?_,rfl⟩;rw [decide_eq_false (by omega),Bool.false_or]
theorem uH {w:World} {p:Addr} {v:Value} {k:World→Prop} (h:ax w p k [v] 0):v.oneCell'=true∧(∃u,w.cell? p=some u)∧w.frozen? p=false∧∀w',w'=w.setCell p v→k w':=by
 obtain⟨h1,h2,h3,h4⟩:=h;rw [au]at h2 h3 h4;exact⟨h1,h2,h3,h4⟩
structure qv where
 t:nq
 b:nq
 sp:Sl
abbrev qv.cells (x:qv):Array Value:=#[x.t.b.v,x.t.m.v,x.b.b.v,x.b.m.v,x.sp.v]
abbrev qv.v (x:qv):Value:=.agg x.cells
structure kq (w:World) (x:qv) (s:ak) (T:List aT):Prop where
 t:gR w x.t T
 b:tI w x.b s.classes s.joins
 sn:x.sp.n=s.specials.length
 sr:Rw aD 2 w x.sp.a s.specials
 ok:iD T
 right:s.right=true
 ids:∀y∈s.specials,(T.length:Int)≤y.1
 nodup:(s.specials.map (·.1)).Nodup
theorem kq.on {w w':World} {x:qv} {s:ak} {T:List aT} (h:kq w x s T) (hb:Below w.heap.size w w'):kq w' x s T:=⟨h.t.on hb,h.b.on hb,h.sn,h.sr.on hb,h.ok,h.right,h.ids,h.nodup⟩
theorem kq.vok {w:World} {x:qv} {s:ak} {T:List aT} (h:kq w x s T):(aK s T).Ok:=by
 have ml:=cD h.ok;refine⟨qK h.ok,h.nodup,fun t ht=>?_⟩;obtain⟨y,hy,rfl⟩:=List.mem_map.1 ht;have:=h.ids y hy;show 256+((ao T).length:Int)≤y.1;omega
theorem kq.few {w:World} {x:qv} {s:ak} {T:List aT} (h:kq w x s T):s.specials.length≤1000000∧s.classes.length≤1000000∧s.joins.length≤1000000:=⟨(dc h.right).2.2.1,(dc h.right).2.2.2.1,(dc h.right).2.2.2.2⟩
abbrev MK:TypeId:=39
theorem xH {w:World} {b:Nat} {x:qv} {T:TypeId} {fz:Nat×Nat} (h:w.heap[b]? =some (.cells x.cells T fz)):
  w.cell? ⟨b,0,none⟩=some x.t.b.v∧w.cell? ((⟨b,0,none⟩:Addr).add 1)=some x.t.m.v∧w.cell? ((⟨b,0,none⟩:Addr).add 2)=some x.b.b.v∧w.cell? ((⟨b,0,none⟩:Addr).add 3)=some x.b.m.v∧w.cell? ((⟨b,0,none⟩:Addr).add 4)=some x.sp.v∧True:=by
 have hc:∀j,w.cell? ((⟨b,0,none⟩:Addr).add j)=x.cells[j]? :=fun j=>ai _ _ h j;exact⟨by have:=hc 0;rw [au]at this;exact this,hc 1,hc 2,hc 3,hc 4,trivial⟩
theorem MH {w:World} {b:Nat} {c:Array Value} {T:TypeId} {fz:Nat×Nat} (h:w.heap[b]? =some (.cells c T fz)) (j:Nat) {x y:Value} (hx:c[j]? =some x) (hy:c[j+1]? =some y):w.cell? ((⟨b,0,none⟩:Addr).add j)=some x∧w.cell? (((⟨b,0,none⟩:Addr).add j).add 1)=some y∧True:=by
 refine⟨by rw [ai _ _ h,hx],?_,trivial⟩;rw [Addr.add_add,ai _ _ h,hy]
theorem IH {α:Type} [BEq α] [LawfulBEq α] {l:List α} {x:α} {i:Nat} (hi:i<l.length) (hx:l[i]=x) (hn:x∉l.take i):l.idxOf? x=some i:=by
 rw [List.idxOf?,List.findIdx?_eq_some_iff_getElem];refine⟨hi,by simp [hx],fun j hj=>?_⟩;simp only [beq_iff_eq];intro e;exact hn (List.mem_take_iff_getElem.2 ⟨j,by omega,e⟩)
def kJ (s:ak) (id:Int):Int:=((jk s.specials id).map fun i:Nat=> -1- (i:Int)).getD 0
theorem wi (w:World) (x:qv) (s:ak) (T:List aT) (h:kq w x s T) (id:Int):CP 112 #[x.v,.int .i64 id] w fun e w'=>e= .returned (.int .i64 (kJ s id))∧Below w.heap.size w w':=by
 refine aN (zY x.t.b.a x.t.b.n x.t.b.c x.t.m.a x.t.m.n x.t.m.c x.b.b.a x.b.b.n x.b.b.c x.b.m.a x.b.m.n x.b.m.c x.sp.a x.sp.n x.sp.c id w) ?_;intro w1 hw1;have hb1:Below w.heap.size w w1:=by subst hw1;exact ah _ _
 have l1:w1.heap[w.heap.size]? =some (.cells x.cells MK (0,0)):=by subst hw1;exact ap _ _
 have hn:=h.sn;have hfew:=h.few.1;intro I hI;have key:=bj (α:=Int) s.specials.length (fun i _=>id∉(s.specials.map (·.1)).take i) (fun i y=>I [.int .i64 (i:Int),.int .i64 y] w1) 0 (by simp) ?_ ?_
 ·exact key
 ·rintro i hi ih y hinv;obtain⟨q,hq,_,hc⟩:=(h.sr.on hb1) i _ (List.getElem?_eq_getElem hi);have hi':i< (s.specials.map (·.1)).length:=by rw [List.length_map];exact hi
  have hget:(s.specials.map (·.1))[i]=s.specials[i].1:=by simp
  refine hI _ y w1 ⟨_,_,_,ai _ _ l1 4,ac.yes (by simp;omega) ⟨_,_,_,ai _ _ l1 4,af.mk q hq ⟨by omega,by omega,_,hc 0 _ rfl,ac.mk (fun h0=>Ar.ok64 (by omega) (by omega) ⟨?_,hb1⟩) fun h0=>Ar.nat (i+1) rfl (by omega) (ih y ?_)⟩⟩⟩
  ·have h0:s.specials[i].1=id:=by simpa using h0
   have:jk s.specials id=some i:=IH hi' (by rw [hget,h0]) hinv;rw [kJ,this];rfl
  ·have h0:¬s.specials[i].1=id:=by simpa using h0
   rw [List.take_add_one,List.getElem?_eq_getElem hi',hget];simp only [Option.toList_some,List.mem_append,List.mem_singleton,not_or];exact⟨hinv,fun e=>h0 e.symm⟩
 ·rintro y hinv;refine hI _ y w1 ⟨_,_,_,ai _ _ l1 4,ac.no (by simp;omega) ⟨?_,hb1⟩⟩;rw [List.take_of_length_le (by simp)]at hinv;have:jk s.specials id=none:=List.idxOf?_eq_none_iff.2 hinv;rw [kJ,this];rfl
theorem xa (s:ak) (id:Int):decide (kJ s id<0)=decide (id∈s.specials.map (·.1)):=by
 apply decide_eq_decide.2;unfold kJ;cases hm:jk s.specials id with
 |none=>
  have:id∉s.specials.map (·.1):=List.idxOf?_eq_none_iff.1 hm;simp only [Option.map_none,Option.getD_none];exact⟨fun e=>by omega,fun e=>absurd e this⟩
 |some i=>
  have:id∈s.specials.map (·.1):=by
   apply Classical.byContradiction;intro e;have e2:jk s.specials id=none:=List.idxOf?_eq_none_iff.2 e;rw [hm]at e2;cases e2
  simp only [Option.map_some,Option.getD_some];exact⟨fun _=>this,fun _=>by omega⟩
theorem wE (w:World) (x:qv) (s:ak) (T:List aT) (h:kq w x s T) (id:Int):CP 46 #[x.v,.int .i64 id] w fun e w'=>e= .returned (.bool (cY s T id))∧Below w.heap.size w w':=by
 refine aJ (Ee x.t.b.a x.t.b.n x.t.b.c x.t.m.a x.t.m.n x.t.m.c x.b.b.a x.b.b.n x.b.b.c x.b.m.a x.b.m.n x.b.m.c x.sp.a x.sp.n x.sp.c id w (fun u w'=>u= .bool (cY s T id)∧Below w.heap.size w w') ?_) (by rintro v w' ⟨rfl,h⟩;exact⟨rfl,h⟩);intro w1 hw1;have hb1:Below w.heap.size w w1:=by subst hw1;exact ah _ _
 have l1:w1.heap[w.heap.size]? =some (.cells x.cells MK (0,0)):=by subst hw1;exact ap _ _
 refine⟨_,_,_,_,_,_,MH l1 0 rfl rfl,?_⟩;refine(kT w1 x.t T (h.t.on hb1) id).mono ?_;rintro e w2 ⟨rfl,b2⟩;have hb2:=ae hb1 b2;refine⟨_,rfl,ac.mk (fun h0=>⟨?_,hb2⟩) fun h0=>?_⟩
 ·have h0:=of_decide_eq_true h0;rw [cY,decide_eq_true (.inr h0)]
 ·have h0:=of_decide_eq_false h0;refine⟨_,_,_,_,_,_,_,_,_,_,_,_,_,_,_,xH (aj b2 l1),?_⟩;refine(wi w2 x s T (h.on hb2) id).mono ?_;rintro e w3 ⟨rfl,b3⟩;refine⟨_,rfl,?_,ae hb2 b3⟩;rw [xa,cY];congr 1;exact decide_eq_decide.2 ⟨.inl,fun e=>e.resolve_right h0⟩
theorem pP (w:World) (x:qv) (s:ak) (T:List aT) (h:kq w x s T) (A:Option Addr) (C:Nat) (ids:List Int) (hr:Rw ay 1 w A ids) (hl:ids.length≤1000000000000):CP 17 #[x.v,.slice A ids.length C] w fun e w'=>e= .returned (.int .i64 (mH s T ids))∧Below w.heap.size w w':=by
 refine aN (Dt x.t.b.a x.t.b.n x.t.b.c x.t.m.a x.t.m.n x.t.m.c x.b.b.a x.b.b.n x.b.b.c x.b.m.a x.b.m.n x.b.m.c x.sp.a x.sp.n x.sp.c A ids.length C w) ?_;intro w1 hw1;have hb1:Below w.heap.size w w1:=by subst hw1;exact ah _ _
 have l1:w1.heap[w.heap.size]? =some (.cells x.cells MK (0,0)):=by subst hw1;exact ap _ _
 intro I hI;have key:=bj (α:=Int×World) ids.length (fun i y=>(∀j (hj:j<ids.length),j<i→(!cY s T ids[j])=false)∧Below w1.heap.size w1 y.2) (fun i y=>I [.int .i64 (i:Int),.int .i64 y.1] y.2) (0,w1) ⟨fun j _ hj=>absurd hj (Nat.not_lt_zero j),Below.refl _ _⟩ ?_ ?_
 ·exact key
 ·rintro i hi ih ⟨y,q⟩ ⟨hinv,hB⟩;change Below w1.heap.size w1 q at hB;refine hI _ y q (ac.yes (by simp;omega) ?_);intro w3 hw3;have b3:Below q.heap.size q w3:=by subst hw3;exact aO q
  have hB3:=ae hB b3;have hw:=ae hb1 hB3;obtain⟨p,hp,c0⟩:=bQ (hr.on hw) hi rfl;refine⟨_,_,_,_,_,_,_,_,_,_,_,_,_,_,_,xH (aj hB3 l1),af.mk p hp ⟨by omega,by omega,_,c0,?_⟩⟩;refine(wE w3 x s T (h.on hw) ids[i]).mono ?_;rintro e w4 ⟨rfl,b4⟩;refine⟨_,rfl,ac.mk (fun h0=>⟨?_,ae hw b4⟩) fun h0=>Ar.nat (i+1) rfl (by omega) (ih (y,w4) ⟨fun j hj hji=>?_,ae hB3 b4⟩)⟩
  ·rw [mH,gH (p:=fun id=> !cY s T id) hi h0 fun j hj=>hinv j (by omega) hj]
  ·by_cases e:j=i
   ·subst e;exact h0
   ·exact hinv j hj (by omega)
 ·rintro⟨y,q⟩ ⟨hinv,hB⟩;refine hI _ y q (ac.no (by simp) ⟨?_,ae hb1 hB⟩);rw [mH,gI (p:=fun id=> !cY s T id) fun j hj=>hinv j hj hj]
def kH (b:UInt8):List Value:=[.int .u8 ((b.toNat:Nat):Int)]
theorem wX (l:List UInt8):l.flatMap kH=Lib.byteCells l:=by
 induction l with
 |nil=>rfl
 |cons b l ih=>rw [List.flatMap_cons,ih];rfl
theorem Ib:E8 kH 1 kV vg 1:=⟨fun _=>rfl,by decide,fun x u hu=>by rw [List.mem_singleton.1 hu];rfl,jq,_,Cr,rfl⟩
theorem Ii {w:World} {B:Nat} {e:TypeId} {sz:Nat} {k:Nat} (h:w.heap[k]? =some (.cells #[] e (0,0))) (hB:B≤k):w.ownsRow B e sz (.slice (some ⟨k,0,none⟩) 0 0) 0 []:=
 ⟨by simp,.inr ⟨k,0,#[],rfl,hB,h,Nat.le_refl _,by simp⟩⟩
theorem xF {α:Type} {f:List Int→List α} (hf:∀p,(f p).length≤p.length):∀l:List (List Int),(l.flatMap f).length≤l.flatten.length
 | []=>Nat.le_refl _
 |p::l=>by
  have:=hf p;have:=xF hf l;rw [List.flatMap_cons,List.flatten_cons,List.length_append,List.length_append];omega
theorem Kd {w:World} {B:Nat} {e:TypeId} {sz:Nat} {l:Sl} {xs:List Value} (h:w.ownsRow B e sz l.v l.n xs):l.n≤l.c:=by
 obtain⟨a,c,e,hc⟩:=jC h;have e:Value.slice l.a l.n l.c= .slice a l.n c:=e;simp only [Value.slice.injEq]at e;omega
end Go.Proofs.YtijbcdiffjjefaaGreatDoor.Eng
