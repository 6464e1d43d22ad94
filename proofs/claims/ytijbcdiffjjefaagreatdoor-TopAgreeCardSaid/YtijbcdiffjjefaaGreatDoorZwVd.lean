/- What these functions owe, printed by a program of this repo out of the translation. -/
import Derived.Test.YtijbcdiffjjefaaGreatDoorZwTab
import Derived.Test.YtijbcdiffjjefaaGreatDoorZwVo
set_option linter.unusedVariables false
set_option maxRecDepth 100000
namespace Go.Proofs.YtijbcdiffjjefaaGreatDoor.Eng
open Go Go.Value
def Tz (a:OA) (b c:Nat) (d:OA) (f g:Nat) (h:OA) (i j:Nat) (k:OA) (l m:Nat) (w:World) (R:RW):Prop:=
 Zv w #[slice a b c,slice d f g,slice h i j,slice k l m] 27 fun n=>
 Zl n ((nb w).add 0) fun o p q=>
 Zl n ((nb w).add 1) fun r s t=>
 Zl n ((nb w).add 2) fun u x y=>
 Zl n ((nb w).add 3) fun z a1 b1=>
 CP 40 #[slice o p q,slice r s t,slice u x y,slice z a1 b1] n (fun c1 d1=>
 Zp c1 fun e1=>
 ac e1
 (R (int .i64 1) d1)
 (R (int .i64 0) d1))
theorem FP (a:OA) (b c:Nat) (d:OA) (f g:Nat) (h:OA) (i j:Nat) (k:OA) (l m:Nat) (w:World) (R:RW) (hh:Tz a b c d f g h i j k l m w R):CR 11 #[agg #[slice a b c,slice d f g,slice h i j,slice k l m]] w R:=by refine aH (fn:=Tryz.f11) ?_ ?_ ?_ ?_ ?_ hh<;>kernel_rfl
def SJ (a:OA) (b c:Nat) (d:OA) (f g:Nat) (h:OA) (i j:Nat) (k:OA) (l m:Nat) (w:World) (R:RW):Prop:=
 Zv w #[slice a b c,slice d f g,slice h i j,slice k l m] 27 fun n=>
 Zv n #[slice none 0 0,slice none 0 0,slice none 0 0,slice none 0 0,slice none 0 0] 39 fun o=>
 Zl o ((nb w).add 0) fun p q r=>
 Zl o ((nb w).add 1) fun s t u=>
 Zl o ((nb w).add 2) fun x y z=>
 Zl o ((nb w).add 3) fun a1 b1 c1=>
 CP 41 #[slice p q r,slice s t u,slice x y z,slice a1 b1 c1] o (fun d1 e1=>
 Ze d1 fun f1 g1 h1 i1 j1 k1 l1 m1 n1 o1 p1 q1 r1 s1 t1 u1=>
 Zv e1 #[bool false,slice none 0 0,slice none 0 0,slice none 0 0,slice none 0 0,slice none 0 0] 71 fun v1=>
 aI v1 (nb e1) (fun x1=>
 Zq x1 (nb e1) fun y1 z1 a2 b2 c2 d2 e2 f2 g2 h2 i2 j2 k2 l2 m2 n2=>
 CP 37 #[agg #[bool y1,slice z1 a2 b2,slice c2 d2 e2,slice f2 g2 h2,slice i2 j2 k2,slice l2 m2 n2]] x1 (fun o2 p2=>
 Zg o2 fun q2 r2 s2=>
 ac (s2 != 0)
 (aI p2 (nb n) (fun t2=>
 Z5 t2 (nb n) fun u2 v2 x2 y2 z2 a3 b3 c3 d3 e3 f3 g3 h3 i3 j3=>
 R (tuple #[pointer none,agg #[slice u2 v2 x2,slice y2 z2 a3,slice b3 c3 d3,slice e3 f3 g3,slice h3 i3 j3]]) t2) [slice none 0 0,slice none 0 0,slice none 0 0,slice none 0 0,slice none 0 0] 0)
 (Zq p2 (nb e1) fun k3 l3 m3 n3 o3 p3 q3 r3 s3 t3 u3 v3 x3 y3 z3 a4=>
 CP 42 #[agg #[bool k3,slice l3 m3 n3,slice o3 p3 q3,slice r3 s3 t3,slice u3 v3 x3,slice y3 z3 a4]] p2 (fun b4 c4=>
 Z6 b4 fun d4 e4 f4 g4 h4 i4 j4 k4 l4 m4 n4 o4 p4 q4 r4=>
 aI c4 (nb n) (fun s4=>
 Z5 s4 (nb n) fun t4 u4 v4 x4 y4 z4 a5 b5 c5 d5 e5 f5 g5 h5 i5=>
 R (tuple #[pointer q2,agg #[slice t4 u4 v4,slice x4 y4 z4,slice a5 b5 c5,slice d5 e5 f5,slice g5 h5 i5]]) s4) [slice d4 e4 f4,slice g4 h4 i4,slice j4 k4 l4,slice m4 n4 o4,slice p4 q4 r4] 0)))) [bool f1,slice g1 h1 i1,slice j1 k1 l1,slice m1 n1 o1,slice p1 q1 r1,slice s1 t1 u1] 0)
theorem EB (a:OA) (b c:Nat) (d:OA) (f g:Nat) (h:OA) (i j:Nat) (k:OA) (l m:Nat) (w:World) (R:RW) (hh:SJ a b c d f g h i j k l m w R):CR 13 #[agg #[slice a b c,slice d f g,slice h i j,slice k l m]] w R:=by refine aH (fn:=Tryz.f13) ?_ ?_ ?_ ?_ ?_ hh<;>kernel_rfl
def Tf (a:OA) (b c:Nat) (d:OA) (f g:Nat) (h:OA) (i j:Nat) (k:OA) (l m:Nat) (n:OA) (o p:Nat) (q:OA) (r s:Nat) (w:World) (R:RW):Prop:=
 Zv w #[slice a b c,slice d f g,slice h i j,slice k l m,slice n o p] 39 fun t=>
 ∀u:KW,(∀(x y:Int) (z:World),(ac (decide (x< (r:Int)))
 (∀a1,a1=z.drew→
 Z5 a1 (nb w) fun b1 c1 d1 e1 f1 g1 h1 i1 j1 k1 l1 m1 n1 o1 p1=>
 Zm q x r (fun q1=>
 Zs a1 (q1.add (x.toNat*1)) fun r1=>
 CP 46 #[agg #[slice b1 c1 d1,slice e1 f1 g1,slice h1 i1 j1,slice k1 l1 m1,slice n1 o1 p1],int .i64 r1] a1 (fun s1 t1=>
 Zp s1 fun u1=>
 ac (!u1)
 (R (int .i64 x) t1)
 (Ar .i64 (x+1) (fun v1=>
 u [int .i64 v1,int .i64 y] t1)))))
 (R (int .i64 (-1)) z))→u [int .i64 x,int .i64 y] z)→
 u [int .i64 0,int .i64 0] t
theorem FF (a:OA) (b c:Nat) (d:OA) (f g:Nat) (h:OA) (i j:Nat) (k:OA) (l m:Nat) (n:OA) (o p:Nat) (q:OA) (r s:Nat) (w:World) (R:RW) (hh:Tf a b c d f g h i j k l m n o p q r s w R):CR 17 #[agg #[slice a b c,slice d f g,slice h i j,slice k l m,slice n o p],slice q r s] w R:=by refine aH (fn:=Tryz.f17) ?_ ?_ ?_ ?_ ?_ hh<;>kernel_rfl
def Tn (a:OA) (b c:Nat) (d:OA) (f g:Nat) (h:OA) (i j:Nat) (k:OA) (l m:Nat) (n:OA) (o p:Nat) (q:OA) (r s:Nat) (w:World) (R:RW):Prop:=
 Zv w #[slice a b c,slice d f g,slice h i j,slice k l m,slice n o p] 39 fun t=>
 ∀u,u=t.drew→
 Z5 u (nb w) fun x y z a1 b1 c1 d1 e1 f1 g1 h1 i1 j1 k1 l1=>
 Z5 u (nb w) fun m1 n1 o1 p1 q1 r1 s1 t1 u1 v1 x1 y1 z1 a2 b2=>
 CP 53 #[agg #[slice m1 n1 o1,slice p1 q1 r1,slice s1 t1 u1,slice v1 x1 y1,slice z1 a2 b2],slice q r s] u (fun c2 d2=>
 Zr c2 fun e2 f2 g2=>
 (d2.cell? (nb w)=some (slice x y z)∧d2.cell? ((nb w).add 1)=some (slice a1 b1 c1)∧d2.cell? ((nb w).add 2)=some (slice d1 e1 f1)∧d2.cell? ((nb w).add 3)=some (slice g1 h1 i1)∧d2.cell? ((nb w).add 4)=some (slice j1 k1 l1)∧True)∧
 CP 89 #[agg #[slice x y z,slice a1 b1 c1,slice d1 e1 f1,slice g1 h1 i1,slice j1 k1 l1],slice e2 f2 g2] d2 (fun h2 i2=>
 Zr h2 fun j2 k2 l2=>
 ac ((k2:Int) != (r:Int))
 (R (bool false) i2)
 (∀m2:KW,(∀(n2:Int) (o2:Bool) (p2:World),(ac (decide (n2< (k2:Int)))
 (∀q2,q2=p2.drew→
 Zm j2 n2 k2 (fun r2=>
 Zs q2 (r2.add (n2.toNat*1)) fun s2=>
 Zm q n2 r (fun t2=>
 Zs q2 (t2.add (n2.toNat*1)) fun u2=>
 ac (s2 != u2)
 (R (bool false) q2)
 (Ar .i64 (n2+1) (fun v2=>
 m2 [int .i64 v2,bool o2] q2)))))
 (R (bool true) p2))→m2 [int .i64 n2,bool o2] p2)→
 m2 [int .i64 0,bool false] i2)))
theorem Ee (a:OA) (b c:Nat) (d:OA) (f g:Nat) (h:OA) (i j:Nat) (k:OA) (l m:Nat) (n:OA) (o p:Nat) (q:OA) (r s:Nat) (w:World) (R:RW) (hh:Tn a b c d f g h i j k l m n o p q r s w R):CR 29 #[agg #[slice a b c,slice d f g,slice h i j,slice k l m,slice n o p],slice q r s] w R:=by refine aH (fn:=Tryz.f29) ?_ ?_ ?_ ?_ ?_ hh<;>kernel_rfl
def SP (a:Bool) (b:OA) (c d:Nat) (f:OA) (g h:Nat) (i:OA) (j k:Nat) (l:OA) (m n:Nat) (o:OA) (p q:Nat) (w:World) (R:RW):Prop:=
 Zv w #[bool a,slice b c d,slice f g h,slice i j k,slice l m n,slice o p q] 71 fun r=>
 Zv r #[slice none 0 0,slice none 0 0,slice none 0 0,slice none 0 0,slice none 0 0] 39 fun s=>
 Zq s (nb w) fun t u x y z a1 b1 c1 d1 e1 f1 g1 h1 i1 j1 k1=>
 CP 97 #[agg #[bool t,slice u x y,slice z a1 b1,slice c1 d1 e1,slice f1 g1 h1,slice i1 j1 k1]] s (fun l1 m1=>
 Z7 l1 fun n1 o1 p1 q1 r1 s1 t1 u1=>
 Zv m1 #[slice none 0 0,slice none 0 0] 35 fun v1=>
 aI v1 (nb m1) (fun x1=>
 ac (u1 != 0)
 (aI x1 (nb r) (fun y1=>
 Z5 y1 (nb r) fun z1 a2 b2 c2 d2 e2 f2 g2 h2 i2 j2 k2 l2 m2 n2=>
 R (tuple #[agg #[slice z1 a2 b2,slice c2 d2 e2,slice f2 g2 h2,slice i2 j2 k2,slice l2 m2 n2],int .i64 1,int .i64 t1,int .i64 u1]) y1) [slice none 0 0,slice none 0 0,slice none 0 0,slice none 0 0,slice none 0 0] 0)
 (Zl x1 ((nb w).add 3) fun o2 p2 q2=>
 CP 98 #[slice o2 p2 q2] x1 (fun r2 s2=>
 Zz r2 fun t2 u2=>
 ac (u2 != 0)
 (aI s2 (nb r) (fun v2=>
 Z5 v2 (nb r) fun x2 y2 z2 a3 b3 c3 d3 e3 f3 g3 h3 i3 j3 k3 l3=>
 R (tuple #[agg #[slice x2 y2 z2,slice a3 b3 c3,slice d3 e3 f3,slice g3 h3 i3,slice j3 k3 l3],int .i64 2,int .i64 t2,int .i64 u2]) v2) [slice none 0 0,slice none 0 0,slice none 0 0,slice none 0 0,slice none 0 0] 0)
 (∀m3:KW,(∀(n3 o3 p3 q3:Int) (r3:World),(Zl r3 ((nb w).add 3) fun s3 t3 u3=>
 ac (decide (n3< (t3:Int)))
 (∀v3,v3=r3.drew→
 Zl v3 ((nb w).add 3) fun x3 y3 z3=>
 Zm x3 n3 y3 (fun a4=>
 Zs v3 ((a4.add (n3.toNat*2)).add 0) fun b4=>
 Zl v3 ((nb m1).add 0) fun c4 d4 e4=>
 ac (decide (b4< (d4:Int)))
 (aI v3 (nb r) (fun f4=>
 Z5 f4 (nb r) fun g4 h4 i4 j4 k4 l4 m4 n4 o4 p4 q4 r4 s4 t4 u4=>
 R (tuple #[agg #[slice g4 h4 i4,slice j4 k4 l4,slice m4 n4 o4,slice p4 q4 r4,slice s4 t4 u4],int .i64 2,int .i64 n3,int .i64 4]) f4) [slice none 0 0,slice none 0 0,slice none 0 0,slice none 0 0,slice none 0 0] 0)
 (Ar .i64 (n3+1) (fun v4=>
 m3 [int .i64 v4,int .i64 o3,int .i64 p3,int .i64 q3] v3))))
 (Z8 r3 (nb m1) fun x4 y4 z4 a5 b5 c5=>
 Zl r3 ((nb w).add 4) fun d5 e5 f5=>
 Zl r3 ((nb w).add 5) fun g5 h5 i5=>
 Zl r3 ((nb w).add 3) fun j5 k5 l5=>
 aI r3 (nb r) (fun m5=>
 Z5 m5 (nb r) fun n5 o5 p5 q5 r5 s5 t5 u5 v5 x5 y5 z5 a6 b6 c6=>
 R (tuple #[agg #[slice n5 o5 p5,slice q5 r5 s5,slice t5 u5 v5,slice x5 y5 z5,slice a6 b6 c6],int .i64 0,int .i64 0,int .i64 0]) m5) [slice x4 y4 z4,slice a5 b5 c5,slice d5 e5 f5,slice g5 h5 i5,slice j5 k5 l5] 0))→m3 [int .i64 n3,int .i64 o3,int .i64 p3,int .i64 q3] r3)→
 m3 [int .i64 0,int .i64 0,int .i64 0,int .i64 0] s2)))) [slice n1 o1 p1,slice q1 r1 s1] 0)
theorem Fo (a:Bool) (b:OA) (c d:Nat) (f:OA) (g h:Nat) (i:OA) (j k:Nat) (l:OA) (m n:Nat) (o:OA) (p q:Nat) (w:World) (R:RW) (hh:SP a b c d f g h i j k l m n o p q w R):CR 33 #[agg #[bool a,slice b c d,slice f g h,slice i j k,slice l m n,slice o p q]] w R:=by refine aH (fn:=Tryz.f33) ?_ ?_ ?_ ?_ ?_ hh<;>kernel_rfl
def SX (a:OA) (b c:Nat) (d:OA) (f g:Nat) (h:OA) (i j:Nat) (k:OA) (l m:Nat) (w:World) (R:RW):Prop:=
 ac (decide ((b:Int)>60))
 (R (bool true) w)
 (ac (decide ((f:Int)>20))
 (R (bool true) w)
 (ac (decide ((i:Int)>20))
 (R (bool true) w)
 (CP 102 #[slice k l m] w (fun n o=>
 Zp n fun p=>
 R (bool p) o))))
theorem EG (a:OA) (b c:Nat) (d:OA) (f g:Nat) (h:OA) (i j:Nat) (k:OA) (l m:Nat) (w:World) (R:RW) (hh:SX a b c d f g h i j k l m w R):CR 40 #[slice a b c,slice d f g,slice h i j,slice k l m] w R:=by refine aH (fn:=Tryz.f40) ?_ ?_ ?_ ?_ ?_ hh<;>kernel_rfl
def Tj (a:OA) (b c:Nat) (d:OA) (f g:Nat) (h:OA) (i j:Nat) (k:OA) (l m:Nat) (w:World) (R:RW):Prop:=
 Zv w #[bool false,slice none 0 0,slice none 0 0,slice none 0 0,slice none 0 0,slice none 0 0] 71 fun n=>
 CP 103 #[slice a b c] n (fun o p=>
 Z9 o fun q r s t x y=>
 Zv p #[slice none 0 0,slice none 0 0] 35 fun z=>
 aI z (nb p) (fun a1=>
 Zl a1 ((nb p).add 1) fun b1 c1 d1=>
 Zv a1 #[bool false,slice none 0 0,slice none 0 0,slice none 0 0,slice none 0 0,slice none 0 0] 71 fun e1=>
 aI e1 (nb a1) (fun f1=>
 ∀g1:KW,(∀(h1:Int) (i1:World),(ac (decide (h1< (f:Int)))
 (ac (decide (h1<8))
 (∀j1:KW,(∀k1:World,(Ar .i64 (h1+1) (fun l1=>
 g1 [int .i64 l1] k1))→j1 [] k1)→
 Ar .i64 (h1+1) (fun m1=>
 (0:Int)≤h1∧h1≤m1∧m1≤(g:Int)∧True∧True∧
 CP 104 #[agg #[slice (bB d h1.toNat (g:Int).toNat 3) (m1.toNat-h1.toNat) ((g:Int).toNat-h1.toNat),slice none 0 0]] i1 (fun n1 o1=>
 Zp n1 fun p1=>
 ac p1
 (∀q1,q1=o1.drew→
 Zl q1 ((nb a1).add 4) fun r1 s1 t1=>
 Zm d h1 f (fun u1=>
 Zb q1 (u1.add (h1.toNat*3)) fun v1 x1 y1=>
 Zv q1 #[int .i64 v1,int .i64 x1,int .i64 y1] 89 fun z1=>
 (z1.cell? ((nb a1).add 4)=some (slice r1 s1 t1)∧True)∧
 Zh 23 #[slice r1 s1 t1,slice (some (nb q1)) 1 1] z1 fun a2 b2 c2 d2=>
 Zu d2 ((nb a1).add 4) (slice a2 b2 c2) fun e2=>
 j1 [] e2))
 (j1 [] o1))))
 (∀f2:KW,(∀(g2:Int) (h2:World),(ac (decide (g2< (i:Int)))
 (ac (decide (g2<8))
 (∀i2:KW,(∀j2:World,(Ar .i64 (g2+1) (fun k2=>
 f2 [int .i64 k2] j2))→i2 [] j2)→
 Ar .i64 (g2+1) (fun l2=>
 (0:Int)≤g2∧g2≤l2∧l2≤(j:Int)∧True∧True∧
 CP 104 #[agg #[slice none 0 0,slice (bB h g2.toNat (j:Int).toNat 2) (l2.toNat-g2.toNat) ((j:Int).toNat-g2.toNat)]] h2 (fun m2 n2=>
 Zp m2 fun o2=>
 ac o2
 (∀p2,p2=n2.drew→
 Zl p2 ((nb a1).add 5) fun q2 r2 s2=>
 Zm h g2 i (fun t2=>
 Za p2 (t2.add (g2.toNat*2)) fun u2 v2=>
 Zv p2 #[int .i64 u2,int .i64 v2] 170 fun x2=>
 (x2.cell? ((nb a1).add 5)=some (slice q2 r2 s2)∧True)∧
 Zh 24 #[slice q2 r2 s2,slice (some (nb p2)) 1 1] x2 fun y2 z2 a3 b3=>
 Zu b3 ((nb a1).add 5) (slice y2 z2 a3) fun c3=>
 i2 [] c3))
 (i2 [] n2))))
 (∀d3:KW,(∀(e3:Int) (f3:World),(ac (decide (e3< (l:Int)))
 (ac (decide (e3<6))
 (∀g3:KW,(∀h3:World,(Ar .i64 (e3+1) (fun i3=>
 d3 [int .i64 i3] h3))→g3 [] h3)→
 ∀j3,j3=f3.drew→
 Zl j3 ((nb a1).add 3) fun k3 l3 m3=>
 Ar .i64 ((1000:Int)+e3) (fun n3=>
 Zm k e3 l (fun o3=>
 Z0 j3 ((o3.add (e3.toNat*2)).add 1) fun p3=>
 (Zv j3 #[] 87 fun q3=>
 (q3.cell? ((o3.add (e3.toNat*2)).add 1)=some (string p3)∧True)∧
 (q3.cell? ((nb a1).add 3)=some (slice k3 l3 m3)∧True)∧
 (Zh 25 #[slice (some (nb j3)) 0 0,slice k3 l3 m3] q3 fun r3 s3 t3 u3=>
 (u3.cell? ((o3.add (e3.toNat*2)).add 1)=some (string p3)∧True)∧
 Zv u3 #[int .i64 n3,string p3] 87 fun v3=>
 Zh 25 #[slice r3 s3 t3,slice (some (nb u3)) 1 1] v3 fun x3 y3 z3 a4=>
 CP 98 #[slice x3 y3 z3] a4 (fun b4 c4=>
 Zz b4 fun d4 e4=>
 ac (e4==0)
 (Zu c4 ((nb a1).add 3) (slice x3 y3 z3) fun f4=>
 g3 [] f4)
 (g3 [] c4)))∧
 (Zv q3 #[int .i64 n3,string p3] 87 fun g4=>
 (g4.cell? ((nb a1).add 3)=some (slice k3 l3 m3)∧True)∧
 Zh 25 #[slice (some (nb j3)) 0 0,slice k3 l3 m3] g4 fun h4 i4 j4 k4=>
 Zh 25 #[slice h4 i4 j4,slice (some (nb q3)) 1 1] k4 fun l4 m4 n4 o4=>
 CP 98 #[slice l4 m4 n4] o4 (fun p4 q4=>
 Zz p4 fun r4 s4=>
 ac (s4==0)
 (Zu q4 ((nb a1).add 3) (slice l4 m4 n4) fun t4=>
 g3 [] t4)
 (g3 [] q4))))∧
 (Zv j3 #[int .i64 n3,string p3] 87 fun u4=>
 (u4.cell? ((nb a1).add 3)=some (slice k3 l3 m3)∧True)∧
 Zv u4 #[] 87 fun v4=>
 (v4.cell? ((nb a1).add 3)=some (slice k3 l3 m3)∧True)∧
 Zh 25 #[slice (some (nb u4)) 0 0,slice k3 l3 m3] v4 fun x4 y4 z4 a5=>
 Zh 25 #[slice x4 y4 z4,slice (some (nb j3)) 1 1] a5 fun b5 c5 d5 e5=>
 CP 98 #[slice b5 c5 d5] e5 (fun f5 g5=>
 Zz f5 fun h5 i5=>
 ac (i5==0)
 (Zu g5 ((nb a1).add 3) (slice b5 c5 d5) fun j5=>
 g3 [] j5)
 (g3 [] g5))))))
 (Zq f3 (nb a1) fun k5 l5 m5 n5 o5 p5 q5 r5 s5 t5 u5 v5 x5 y5 z5 a6=>
 aI f3 (nb w) (fun b6=>
 Zq b6 (nb w) fun c6 d6 e6 f6 g6 h6 i6 j6 k6 l6 m6 n6 o6 p6 q6 r6=>
 R (agg #[bool c6,slice d6 e6 f6,slice g6 h6 i6,slice j6 k6 l6,slice m6 n6 o6,slice p6 q6 r6]) b6) [bool k5,slice l5 m5 n5,slice o5 p5 q5,slice r5 s5 t5,slice u5 v5 x5,slice y5 z5 a6] 0))
 (Zq f3 (nb a1) fun s6 t6 u6 v6 x6 y6 z6 a7 b7 c7 d7 e7 f7 g7 h7 i7=>
 aI f3 (nb w) (fun j7=>
 Zq j7 (nb w) fun k7 l7 m7 n7 o7 p7 q7 r7 s7 t7 u7 v7 x7 y7 z7 a8=>
 R (agg #[bool k7,slice l7 m7 n7,slice o7 p7 q7,slice r7 s7 t7,slice u7 v7 x7,slice y7 z7 a8]) j7) [bool s6,slice t6 u6 v6,slice x6 y6 z6,slice a7 b7 c7,slice d7 e7 f7,slice g7 h7 i7] 0))→d3 [int .i64 e3] f3)→
 d3 [int .i64 0] h2))
 (∀b8:KW,(∀(c8:Int) (d8:World),(ac (decide (c8< (l:Int)))
 (ac (decide (c8<6))
 (∀e8:KW,(∀f8:World,(Ar .i64 (c8+1) (fun g8=>
 b8 [int .i64 g8] f8))→e8 [] f8)→
 ∀h8,h8=d8.drew→
 Zl h8 ((nb a1).add 3) fun i8 j8 k8=>
 Ar .i64 ((1000:Int)+c8) (fun l8=>
 Zm k c8 l (fun m8=>
 Z0 h8 ((m8.add (c8.toNat*2)).add 1) fun n8=>
 (Zv h8 #[] 87 fun o8=>
 (o8.cell? ((m8.add (c8.toNat*2)).add 1)=some (string n8)∧True)∧
 (o8.cell? ((nb a1).add 3)=some (slice i8 j8 k8)∧True)∧
 (Zh 25 #[slice (some (nb h8)) 0 0,slice i8 j8 k8] o8 fun p8 q8 r8 s8=>
 (s8.cell? ((m8.add (c8.toNat*2)).add 1)=some (string n8)∧True)∧
 Zv s8 #[int .i64 l8,string n8] 87 fun t8=>
 Zh 25 #[slice p8 q8 r8,slice (some (nb s8)) 1 1] t8 fun u8 v8 x8 y8=>
 CP 98 #[slice u8 v8 x8] y8 (fun z8 a9=>
 Zz z8 fun b9 c9=>
 ac (c9==0)
 (Zu a9 ((nb a1).add 3) (slice u8 v8 x8) fun d9=>
 e8 [] d9)
 (e8 [] a9)))∧
 (Zv o8 #[int .i64 l8,string n8] 87 fun e9=>
 (e9.cell? ((nb a1).add 3)=some (slice i8 j8 k8)∧True)∧
 Zh 25 #[slice (some (nb h8)) 0 0,slice i8 j8 k8] e9 fun f9 g9 h9 i9=>
 Zh 25 #[slice f9 g9 h9,slice (some (nb o8)) 1 1] i9 fun j9 k9 l9 m9=>
 CP 98 #[slice j9 k9 l9] m9 (fun n9 o9=>
 Zz n9 fun p9 q9=>
 ac (q9==0)
 (Zu o9 ((nb a1).add 3) (slice j9 k9 l9) fun r9=>
 e8 [] r9)
 (e8 [] o9))))∧
 (Zv h8 #[int .i64 l8,string n8] 87 fun s9=>
 (s9.cell? ((nb a1).add 3)=some (slice i8 j8 k8)∧True)∧
 Zv s9 #[] 87 fun t9=>
 (t9.cell? ((nb a1).add 3)=some (slice i8 j8 k8)∧True)∧
 Zh 25 #[slice (some (nb s9)) 0 0,slice i8 j8 k8] t9 fun u9 v9 x9 y9=>
 Zh 25 #[slice u9 v9 x9,slice (some (nb h8)) 1 1] y9 fun z9 a10 b10 c10=>
 CP 98 #[slice z9 a10 b10] c10 (fun d10 e10=>
 Zz d10 fun f10 g10=>
 ac (g10==0)
 (Zu e10 ((nb a1).add 3) (slice z9 a10 b10) fun h10=>
 e8 [] h10)
 (e8 [] e10))))))
 (Zq d8 (nb a1) fun i10 j10 k10 l10 m10 n10 o10 p10 q10 r10 s10 t10 u10 v10 x10 y10=>
 aI d8 (nb w) (fun z10=>
 Zq z10 (nb w) fun a11 b11 c11 d11 e11 f11 g11 h11 i11 j11 k11 l11 m11 n11 o11 p11=>
 R (agg #[bool a11,slice b11 c11 d11,slice e11 f11 g11,slice h11 i11 j11,slice k11 l11 m11,slice n11 o11 p11]) z10) [bool i10,slice j10 k10 l10,slice m10 n10 o10,slice p10 q10 r10,slice s10 t10 u10,slice v10 x10 y10] 0))
 (Zq d8 (nb a1) fun q11 r11 s11 t11 u11 v11 x11 y11 z11 a12 b12 c12 d12 e12 f12 g12=>
 aI d8 (nb w) (fun h12=>
 Zq h12 (nb w) fun i12 j12 k12 l12 m12 n12 o12 p12 q12 r12 s12 t12 u12 v12 x12 y12=>
 R (agg #[bool i12,slice j12 k12 l12,slice m12 n12 o12,slice p12 q12 r12,slice s12 t12 u12,slice v12 x12 y12]) h12) [bool q11,slice r11 s11 t11,slice u11 v11 x11,slice y11 z11 a12,slice b12 c12 d12,slice e12 f12 g12] 0))→b8 [int .i64 c8] d8)→
 b8 [int .i64 0] h2))→f2 [int .i64 g2] h2)→
 f2 [int .i64 0] i1))
 (∀z12:KW,(∀(a13:Int) (b13:World),(ac (decide (a13< (i:Int)))
 (ac (decide (a13<8))
 (∀c13:KW,(∀d13:World,(Ar .i64 (a13+1) (fun e13=>
 z12 [int .i64 e13] d13))→c13 [] d13)→
 Ar .i64 (a13+1) (fun f13=>
 (0:Int)≤a13∧a13≤f13∧f13≤(j:Int)∧True∧True∧
 CP 104 #[agg #[slice none 0 0,slice (bB h a13.toNat (j:Int).toNat 2) (f13.toNat-a13.toNat) ((j:Int).toNat-a13.toNat)]] b13 (fun g13 h13=>
 Zp g13 fun i13=>
 ac i13
 (∀j13,j13=h13.drew→
 Zl j13 ((nb a1).add 5) fun k13 l13 m13=>
 Zm h a13 i (fun n13=>
 Za j13 (n13.add (a13.toNat*2)) fun o13 p13=>
 Zv j13 #[int .i64 o13,int .i64 p13] 170 fun q13=>
 (q13.cell? ((nb a1).add 5)=some (slice k13 l13 m13)∧True)∧
 Zh 24 #[slice k13 l13 m13,slice (some (nb j13)) 1 1] q13 fun r13 s13 t13 u13=>
 Zu u13 ((nb a1).add 5) (slice r13 s13 t13) fun v13=>
 c13 [] v13))
 (c13 [] h13))))
 (∀x13:KW,(∀(y13:Int) (z13:World),(ac (decide (y13< (l:Int)))
 (ac (decide (y13<6))
 (∀a14:KW,(∀b14:World,(Ar .i64 (y13+1) (fun c14=>
 x13 [int .i64 c14] b14))→a14 [] b14)→
 ∀d14,d14=z13.drew→
 Zl d14 ((nb a1).add 3) fun e14 f14 g14=>
 Ar .i64 ((1000:Int)+y13) (fun h14=>
 Zm k y13 l (fun i14=>
 Z0 d14 ((i14.add (y13.toNat*2)).add 1) fun j14=>
 (Zv d14 #[] 87 fun k14=>
 (k14.cell? ((i14.add (y13.toNat*2)).add 1)=some (string j14)∧True)∧
 (k14.cell? ((nb a1).add 3)=some (slice e14 f14 g14)∧True)∧
 (Zh 25 #[slice (some (nb d14)) 0 0,slice e14 f14 g14] k14 fun l14 m14 n14 o14=>
 (o14.cell? ((i14.add (y13.toNat*2)).add 1)=some (string j14)∧True)∧
 Zv o14 #[int .i64 h14,string j14] 87 fun p14=>
 Zh 25 #[slice l14 m14 n14,slice (some (nb o14)) 1 1] p14 fun q14 r14 s14 t14=>
 CP 98 #[slice q14 r14 s14] t14 (fun u14 v14=>
 Zz u14 fun x14 y14=>
 ac (y14==0)
 (Zu v14 ((nb a1).add 3) (slice q14 r14 s14) fun z14=>
 a14 [] z14)
 (a14 [] v14)))∧
 (Zv k14 #[int .i64 h14,string j14] 87 fun a15=>
 (a15.cell? ((nb a1).add 3)=some (slice e14 f14 g14)∧True)∧
 Zh 25 #[slice (some (nb d14)) 0 0,slice e14 f14 g14] a15 fun b15 c15 d15 e15=>
 Zh 25 #[slice b15 c15 d15,slice (some (nb k14)) 1 1] e15 fun f15 g15 h15 i15=>
 CP 98 #[slice f15 g15 h15] i15 (fun j15 k15=>
 Zz j15 fun l15 m15=>
 ac (m15==0)
 (Zu k15 ((nb a1).add 3) (slice f15 g15 h15) fun n15=>
 a14 [] n15)
 (a14 [] k15))))∧
 (Zv d14 #[int .i64 h14,string j14] 87 fun o15=>
 (o15.cell? ((nb a1).add 3)=some (slice e14 f14 g14)∧True)∧
 Zv o15 #[] 87 fun p15=>
 (p15.cell? ((nb a1).add 3)=some (slice e14 f14 g14)∧True)∧
 Zh 25 #[slice (some (nb o15)) 0 0,slice e14 f14 g14] p15 fun q15 r15 s15 t15=>
 Zh 25 #[slice q15 r15 s15,slice (some (nb d14)) 1 1] t15 fun u15 v15 x15 y15=>
 CP 98 #[slice u15 v15 x15] y15 (fun z15 a16=>
 Zz z15 fun b16 c16=>
 ac (c16==0)
 (Zu a16 ((nb a1).add 3) (slice u15 v15 x15) fun d16=>
 a14 [] d16)
 (a14 [] a16))))))
 (Zq z13 (nb a1) fun e16 f16 g16 h16 i16 j16 k16 l16 m16 n16 o16 p16 q16 r16 s16 t16=>
 aI z13 (nb w) (fun u16=>
 Zq u16 (nb w) fun v16 x16 y16 z16 a17 b17 c17 d17 e17 f17 g17 h17 i17 j17 k17 l17=>
 R (agg #[bool v16,slice x16 y16 z16,slice a17 b17 c17,slice d17 e17 f17,slice g17 h17 i17,slice j17 k17 l17]) u16) [bool e16,slice f16 g16 h16,slice i16 j16 k16,slice l16 m16 n16,slice o16 p16 q16,slice r16 s16 t16] 0))
 (Zq z13 (nb a1) fun m17 n17 o17 p17 q17 r17 s17 t17 u17 v17 x17 y17 z17 a18 b18 c18=>
 aI z13 (nb w) (fun d18=>
 Zq d18 (nb w) fun e18 f18 g18 h18 i18 j18 k18 l18 m18 n18 o18 p18 q18 r18 s18 t18=>
 R (agg #[bool e18,slice f18 g18 h18,slice i18 j18 k18,slice l18 m18 n18,slice o18 p18 q18,slice r18 s18 t18]) d18) [bool m17,slice n17 o17 p17,slice q17 r17 s17,slice t17 u17 v17,slice x17 y17 z17,slice a18 b18 c18] 0))→x13 [int .i64 y13] z13)→
 x13 [int .i64 0] b13))
 (∀u18:KW,(∀(v18:Int) (x18:World),(ac (decide (v18< (l:Int)))
 (ac (decide (v18<6))
 (∀y18:KW,(∀z18:World,(Ar .i64 (v18+1) (fun a19=>
 u18 [int .i64 a19] z18))→y18 [] z18)→
 ∀b19,b19=x18.drew→
 Zl b19 ((nb a1).add 3) fun c19 d19 e19=>
 Ar .i64 ((1000:Int)+v18) (fun f19=>
 Zm k v18 l (fun g19=>
 Z0 b19 ((g19.add (v18.toNat*2)).add 1) fun h19=>
 (Zv b19 #[] 87 fun i19=>
 (i19.cell? ((g19.add (v18.toNat*2)).add 1)=some (string h19)∧True)∧
 (i19.cell? ((nb a1).add 3)=some (slice c19 d19 e19)∧True)∧
 (Zh 25 #[slice (some (nb b19)) 0 0,slice c19 d19 e19] i19 fun j19 k19 l19 m19=>
 (m19.cell? ((g19.add (v18.toNat*2)).add 1)=some (string h19)∧True)∧
 Zv m19 #[int .i64 f19,string h19] 87 fun n19=>
 Zh 25 #[slice j19 k19 l19,slice (some (nb m19)) 1 1] n19 fun o19 p19 q19 r19=>
 CP 98 #[slice o19 p19 q19] r19 (fun s19 t19=>
 Zz s19 fun u19 v19=>
 ac (v19==0)
 (Zu t19 ((nb a1).add 3) (slice o19 p19 q19) fun x19=>
 y18 [] x19)
 (y18 [] t19)))∧
 (Zv i19 #[int .i64 f19,string h19] 87 fun y19=>
 (y19.cell? ((nb a1).add 3)=some (slice c19 d19 e19)∧True)∧
 Zh 25 #[slice (some (nb b19)) 0 0,slice c19 d19 e19] y19 fun z19 a20 b20 c20=>
 Zh 25 #[slice z19 a20 b20,slice (some (nb i19)) 1 1] c20 fun d20 e20 f20 g20=>
 CP 98 #[slice d20 e20 f20] g20 (fun h20 i20=>
 Zz h20 fun j20 k20=>
 ac (k20==0)
 (Zu i20 ((nb a1).add 3) (slice d20 e20 f20) fun l20=>
 y18 [] l20)
 (y18 [] i20))))∧
 (Zv b19 #[int .i64 f19,string h19] 87 fun m20=>
 (m20.cell? ((nb a1).add 3)=some (slice c19 d19 e19)∧True)∧
 Zv m20 #[] 87 fun n20=>
 (n20.cell? ((nb a1).add 3)=some (slice c19 d19 e19)∧True)∧
 Zh 25 #[slice (some (nb m20)) 0 0,slice c19 d19 e19] n20 fun o20 p20 q20 r20=>
 Zh 25 #[slice o20 p20 q20,slice (some (nb b19)) 1 1] r20 fun s20 t20 u20 v20=>
 CP 98 #[slice s20 t20 u20] v20 (fun x20 y20=>
 Zz x20 fun z20 a21=>
 ac (a21==0)
 (Zu y20 ((nb a1).add 3) (slice s20 t20 u20) fun b21=>
 y18 [] b21)
 (y18 [] y20))))))
 (Zq x18 (nb a1) fun c21 d21 e21 f21 g21 h21 i21 j21 k21 l21 m21 n21 o21 p21 q21 r21=>
 aI x18 (nb w) (fun s21=>
 Zq s21 (nb w) fun t21 u21 v21 x21 y21 z21 a22 b22 c22 d22 e22 f22 g22 h22 i22 j22=>
 R (agg #[bool t21,slice u21 v21 x21,slice y21 z21 a22,slice b22 c22 d22,slice e22 f22 g22,slice h22 i22 j22]) s21) [bool c21,slice d21 e21 f21,slice g21 h21 i21,slice j21 k21 l21,slice m21 n21 o21,slice p21 q21 r21] 0))
 (Zq x18 (nb a1) fun k22 l22 m22 n22 o22 p22 q22 r22 s22 t22 u22 v22 x22 y22 z22 a23=>
 aI x18 (nb w) (fun b23=>
 Zq b23 (nb w) fun c23 d23 e23 f23 g23 h23 i23 j23 k23 l23 m23 n23 o23 p23 q23 r23=>
 R (agg #[bool c23,slice d23 e23 f23,slice g23 h23 i23,slice j23 k23 l23,slice m23 n23 o23,slice p23 q23 r23]) b23) [bool k22,slice l22 m22 n22,slice o22 p22 q22,slice r22 s22 t22,slice u22 v22 x22,slice y22 z22 a23] 0))→u18 [int .i64 v18] x18)→
 u18 [int .i64 0] b13))→z12 [int .i64 a13] b13)→
 z12 [int .i64 0] i1))→g1 [int .i64 h1] i1)→
 g1 [int .i64 0] f1) [bool false,slice b1 c1 d1,slice none 0 0,slice none 0 0,slice none 0 0,slice none 0 0] 0) [slice q r s,slice t x y] 0)
theorem EI (a:OA) (b c:Nat) (d:OA) (f g:Nat) (h:OA) (i j:Nat) (k:OA) (l m:Nat) (w:World) (R:RW) (hh:Tj a b c d f g h i j k l m w R):CR 41 #[slice a b c,slice d f g,slice h i j,slice k l m] w R:=by refine aH (fn:=Tryz.f41) ?_ ?_ ?_ ?_ ?_ hh<;>kernel_rfl
def SA (a:Bool) (b:OA) (c d:Nat) (f:OA) (g h:Nat) (i:OA) (j k:Nat) (l:OA) (m n:Nat) (o:OA) (p q:Nat) (w:World) (R:RW):Prop:=
 Zv w #[bool a,slice b c d,slice f g h,slice i j k,slice l m n,slice o p q] 71 fun r=>
 Zv r #[slice none 0 0,slice none 0 0,slice none 0 0,slice none 0 0,slice none 0 0] 39 fun s=>
 Zq s (nb w) fun t u x y z a1 b1 c1 d1 e1 f1 g1 h1 i1 j1 k1=>
 CP 33 #[agg #[bool t,slice u x y,slice z a1 b1,slice c1 d1 e1,slice f1 g1 h1,slice i1 j1 k1]] s (fun l1 m1=>
 ZZ l1 fun n1 o1 p1 q1 r1 s1 t1 u1 v1 x1 y1 z1 a2 b2 c2 d2 e2 f2=>
 Zv m1 #[slice none 0 0,slice none 0 0,slice none 0 0,slice none 0 0,slice none 0 0] 39 fun g2=>
 aI g2 (nb m1) (fun h2=>
 Z5 h2 (nb m1) fun i2 j2 k2 l2 m2 n2 o2 p2 q2 r2 s2 t2 u2 v2 x2=>
 aI h2 (nb r) (fun y2=>
 Z5 y2 (nb r) fun z2 a3 b3 c3 d3 e3 f3 g3 h3 i3 j3 k3 l3 m3 n3=>
 R (agg #[slice z2 a3 b3,slice c3 d3 e3,slice f3 g3 h3,slice i3 j3 k3,slice l3 m3 n3]) y2) [slice i2 j2 k2,slice l2 m2 n2,slice o2 p2 q2,slice r2 s2 t2,slice u2 v2 x2] 0) [slice n1 o1 p1,slice q1 r1 s1,slice t1 u1 v1,slice x1 y1 z1,slice a2 b2 c2] 0)
theorem Fy (a:Bool) (b:OA) (c d:Nat) (f:OA) (g h:Nat) (i:OA) (j k:Nat) (l:OA) (m n:Nat) (o:OA) (p q:Nat) (w:World) (R:RW) (hh:SA a b c d f g h i j k l m n o p q w R):CR 42 #[agg #[bool a,slice b c d,slice f g h,slice i j k,slice l m n,slice o p q]] w R:=by refine aH (fn:=Tryz.f42) ?_ ?_ ?_ ?_ ?_ hh<;>kernel_rfl
def To (a:OA) (b c:Nat) (d:OA) (f g:Nat) (h:ByteArray) (w:World) (R:RW):Prop:=
 Zv w #[slice a b c,slice d f g] 37 fun i=>
 ∀j:KW,(∀(k:Int) (l:OA) (m n:Nat) (o:World),(ac (decide (k< (h.size:Int)))
 (∀p:KW,(∀(q:OA) (r s:Nat) (t:World),(∀x,x=t.drew→
 Ar .i64 ((r:Int)-1) (fun y=>
 Ar .i64 ((r:Int)-1) (fun z=>
 Zm q z r (fun a1=>
 Z0 x (a1.add (z.toNat*1)) fun b1=>
 Ar .i64 (k+1) (fun c1=>
 (0:Int)≤k∧k≤c1∧c1≤(h.size:Int)∧
 ((b1.size+(h.extract k.toNat c1.toNat:ByteArray).size:Nat):Int)≤IntKind.i64.max∧
 Zm q y r (fun d1=>
 (string (b1++(h.extract k.toNat c1.toNat:ByteArray))).oneCell'=true∧(∃u,x.cell? (d1.add (y.toNat*1))=some u)∧x.frozen? (d1.add (y.toNat*1))=false∧
 ∀e1,e1=(x.setCell (d1.add (y.toNat*1)) (string (b1++(h.extract k.toNat c1.toNat:ByteArray))))→
 Ar .i64 (k+1) (fun f1=>
 j [int .i64 f1,slice q r s] e1)))))))→p [slice q r s] t)→
 ∀g1,g1=o.drew→
 ac (k==0)
 (Zv g1 #[string ⟨#[]⟩] 9 fun h1=>
 Zh 32 #[slice l m n,slice (some (nb g1)) 1 1] h1 fun i1 j1 k1 l1=>
 p [slice i1 j1 k1] l1)
 (Z8 g1 (nb w) fun m1 n1 o1 p1 q1 r1=>
 Ar .i64 (k-1) (fun s1=>
 (0:Int)≤s1∧s1< (h.size:Int)∧
 (0:Int)≤k∧k< (h.size:Int)∧
 CP 110 #[agg #[slice m1 n1 o1,slice p1 q1 r1],int .u8 (dM h s1),int .u8 (dM h k)] g1 (fun t1 u1=>
 Zp t1 fun v1=>
 ac v1
 (Zv u1 #[string ⟨#[]⟩] 9 fun x1=>
 Zh 32 #[slice l m n,slice (some (nb u1)) 1 1] x1 fun y1 z1 a2 b2=>
 p [slice y1 z1 a2] b2)
 (p [slice l m n] u1)))))
 (R (slice l m n) o))→j [int .i64 k,slice l m n] o)→
 j [int .i64 0,slice none 0 0] i
theorem Eb (a:OA) (b c:Nat) (d:OA) (f g:Nat) (h:ByteArray) (w:World) (R:RW) (hh:To a b c d f g h w R):CR 45 #[agg #[slice a b c,slice d f g],string h] w R:=by refine aH (fn:=Tryz.f45) ?_ ?_ ?_ ?_ ?_ hh<;>kernel_rfl
def SH (a:OA) (b c:Nat) (d:OA) (f g:Nat) (h:OA) (i j:Nat) (k:OA) (l m:Nat) (n:OA) (o p:Nat) (q:Int) (w:World) (R:RW):Prop:=
 Zv w #[slice a b c,slice d f g,slice h i j,slice k l m,slice n o p] 39 fun r=>
 Z8 r ((nb w).add 0) fun s t u x y z=>
 CP 111 #[agg #[slice s t u,slice x y z],int .i64 q] r (fun a1 b1=>
 Zp a1 fun c1=>
 ac c1
 (R (bool true) b1)
 (Z5 b1 (nb w) fun d1 e1 f1 g1 h1 i1 j1 k1 l1 m1 n1 o1 p1 q1 r1=>
 CP 112 #[agg #[slice d1 e1 f1,slice g1 h1 i1,slice j1 k1 l1,slice m1 n1 o1,slice p1 q1 r1],int .i64 q] b1 (fun s1 t1=>
 Zx s1 fun u1=>
 R (bool (decide (u1<0))) t1)))
theorem Dw (a:OA) (b c:Nat) (d:OA) (f g:Nat) (h:OA) (i j:Nat) (k:OA) (l m:Nat) (n:OA) (o p:Nat) (q:Int) (w:World) (R:RW) (hh:SH a b c d f g h i j k l m n o p q w R):CR 46 #[agg #[slice a b c,slice d f g,slice h i j,slice k l m,slice n o p],int .i64 q] w R:=by refine aH (fn:=Tryz.f46) ?_ ?_ ?_ ?_ ?_ hh<;>kernel_rfl
def Tc (a:OA) (b c:Nat) (d:OA) (f g:Nat) (w:World) (R:RW):Prop:=
 ac ((b:Int) != (f:Int))
 (R (bool false) w)
 (∀h:KW,(∀(i:Int) (j:Bool) (k:World),(ac (decide (i< (b:Int)))
 (∀l,l=k.drew→
 Zm a i b (fun m=>
 Zs l (m.add (i.toNat*1)) fun n=>
 Zm d i f (fun o=>
 Zs l (o.add (i.toNat*1)) fun p=>
 ac (n != p)
 (R (bool false) l)
 (Ar .i64 (i+1) (fun q=>
 h [int .i64 q,bool j] l)))))
 (R (bool true) k))→h [int .i64 i,bool j] k)→
 h [int .i64 0,bool false] w)
theorem DE (a:OA) (b c:Nat) (d:OA) (f g:Nat) (w:World) (R:RW) (hh:Tc a b c d f g w R):CR 52 #[slice a b c,slice d f g] w R:=by refine aH (fn:=Tryz.f52) ?_ ?_ ?_ ?_ ?_ hh<;>kernel_rfl
def SS (a:OA) (b c:Nat) (d:OA) (f g:Nat) (h:OA) (i j:Nat) (k:OA) (l m:Nat) (n:OA) (o p:Nat) (q:OA) (r s:Nat) (w:World) (R:RW):Prop:=
 Zv w #[slice a b c,slice d f g,slice h i j,slice k l m,slice n o p] 39 fun t=>
 ∀u:KW,(∀(x:Int) (y:OA) (z a1:Nat) (b1:World),(ac (decide (x< (r:Int)))
 (∀c1:KW,(∀(d1:OA) (e1 f1:Nat) (g1:World),(Ar .i64 (x+1) (fun h1=>
 u [int .i64 h1,slice d1 e1 f1] g1))→c1 [slice d1 e1 f1] g1)→
 ∀i1,i1=b1.drew→
 Z5 i1 (nb w) fun j1 k1 l1 m1 n1 o1 p1 q1 r1 s1 t1 u1 v1 x1 y1=>
 Zm q x r (fun z1=>
 Zs i1 (z1.add (x.toNat*1)) fun a2=>
 CP 112 #[agg #[slice j1 k1 l1,slice m1 n1 o1,slice p1 q1 r1,slice s1 t1 u1,slice v1 x1 y1],int .i64 a2] i1 (fun b2 c2=>
 Zx b2 fun d2=>
 ac (decide (d2<0))
 (Zv c2 #[int .i64 d2] 3 fun e2=>
 Zh 28 #[slice y z a1,slice (some (nb c2)) 1 1] e2 fun f2 g2 h2 i2=>
 c1 [slice f2 g2 h2] i2)
 (∀j2,j2=c2.drew→
 Zl j2 (((nb w).add 0).add 0) fun k2 l2 m2=>
 Zm q x r (fun n2=>
 Zs j2 (n2.add (x.toNat*1)) fun o2=>
 Zm k2 o2 l2 (fun p2=>
 Z0 j2 (p2.add (o2.toNat*1)) fun q2=>
 ∀r2:KW,(∀(s2:Int) (t2:OA) (u2 v2:Nat) (x2:World),(ac (decide (s2< (q2.size:Int)))
 ((0:Int)≤s2∧s2< (q2.size:Int)∧
 Zv x2 #[int .i64 (IntKind.wrap .i64 (dM q2 s2))] 3 fun y2=>
 Zh 28 #[slice t2 u2 v2,slice (some (nb x2)) 1 1] y2 fun z2 a3 b3 c3=>
 Ar .i64 (s2+1) (fun d3=>
 r2 [int .i64 d3,slice z2 a3 b3] c3))
 (c1 [slice t2 u2 v2] x2))→r2 [int .i64 s2,slice t2 u2 v2] x2)→
 r2 [int .i64 0,slice y z a1] j2))))))
 (R (slice y z a1) b1))→u [int .i64 x,slice y z a1] b1)→
 u [int .i64 0,slice none 0 0] t
theorem Fv (a:OA) (b c:Nat) (d:OA) (f g:Nat) (h:OA) (i j:Nat) (k:OA) (l m:Nat) (n:OA) (o p:Nat) (q:OA) (r s:Nat) (w:World) (R:RW) (hh:SS a b c d f g h i j k l m n o p q r s w R):CR 53 #[agg #[slice a b c,slice d f g,slice h i j,slice k l m,slice n o p],slice q r s] w R:=by refine aH (fn:=Tryz.f53) ?_ ?_ ?_ ?_ ?_ hh<;>kernel_rfl
def SY (a:OA) (b c:Nat) (d:OA) (f g:Nat) (h:OA) (i j:Nat) (k:OA) (l m:Nat) (n:OA) (o p:Nat) (q:OA) (r s:Nat) (w:World) (R:RW):Prop:=
 Zv w #[slice a b c,slice d f g,slice h i j,slice k l m,slice n o p] 39 fun t=>
 Zv t #[] 5 fun u=>
 ∀x:KW,(∀(y:Int) (z:OA) (a1 b1:Nat) (c1:OA) (d1 e1:Nat) (f1:World),(ac (decide (y≤(r:Int)))
 (∀g1:KW,(∀(h1:OA) (i1 j1:Nat) (k1:OA) (l1 m1:Nat) (n1:World),(Ar .i64 (y+1) (fun o1=>
 x [int .i64 o1,slice h1 i1 j1,slice k1 l1 m1] n1))→g1 [slice h1 i1 j1,slice k1 l1 m1] n1)→
 ac (decide (y< (r:Int)))
 (Zm q y r (fun p1=>
 Zs f1 (p1.add (y.toNat*1)) fun q1=>
 ac (decide (q1≥0))
 (Zm q y r (fun r1=>
 Zs f1 (r1.add (y.toNat*1)) fun s1=>
 Zv f1 #[int .u8 (IntKind.wrap .u8 s1)] 5 fun t1=>
 Zh 57 #[slice z a1 b1,slice (some (nb f1)) 1 1] t1 fun u1 v1 x1 y1=>
 g1 [slice u1 v1 x1,slice c1 d1 e1] y1))
 (Z8 f1 ((nb w).add 2) fun z1 a2 b2 c2 d2 e2=>
 ∃f2 g2,(convert 57 9 (slice z a1 b1)).run Tryz.prog f1= .ok (string f2) g2∧
 CP 45 #[agg #[slice z1 a2 b2,slice c2 d2 e2],string f2] g2 (fun h2 i2=>
 Zr h2 fun j2 k2 l2=>
 ∀m2:KW,(∀(n2:Int) (o2:OA) (p2 q2:Nat) (r2:World),(ac (decide (n2< (k2:Int)))
 (∀s2,s2=r2.drew→
 Z8 s2 ((nb w).add 0) fun t2 u2 v2 x2 y2 z2=>
 Zm j2 n2 k2 (fun a3=>
 Z0 s2 (a3.add (n2.toNat*1)) fun b3=>
 CP 109 #[agg #[slice t2 u2 v2,slice x2 y2 z2],string b3] s2 (fun c3 d3=>
 Zr c3 fun e3 f3 g3=>
 Zh 28 #[slice o2 p2 q2,slice e3 f3 g3] d3 fun h3 i3 j3 k3=>
 Ar .i64 (n2+1) (fun l3=>
 m2 [int .i64 l3,slice h3 i3 j3] k3))))
 (Zv r2 #[] 5 fun m3=>
 ac (decide (y< (r:Int)))
 (∀n3,n3=m3.drew→
 Zl n3 ((nb w).add 4) fun o3 p3 q3=>
 Zm q y r (fun r3=>
 Zs n3 (r3.add (y.toNat*1)) fun s3=>
 Ar .i64 ((-1:Int)-s3) (fun t3=>
 Zm o3 t3 p3 (fun u3=>
 Zs n3 ((u3.add (t3.toNat*2)).add 0) fun v3=>
 Zv n3 #[int .i64 v3] 3 fun x3=>
 Zh 28 #[slice o2 p2 q2,slice (some (nb n3)) 1 1] x3 fun y3 z3 a4 b4=>
 g1 [slice (some (nb r2)) 0 0,slice y3 z3 a4] b4))))
 (g1 [slice (some (nb r2)) 0 0,slice o2 p2 q2] m3)))→m2 [int .i64 n2,slice o2 p2 q2] r2)→
 m2 [int .i64 0,slice c1 d1 e1] i2))))
 (Z8 f1 ((nb w).add 2) fun c4 d4 e4 f4 g4 h4=>
 ∃i4 j4,(convert 57 9 (slice z a1 b1)).run Tryz.prog f1= .ok (string i4) j4∧
 CP 45 #[agg #[slice c4 d4 e4,slice f4 g4 h4],string i4] j4 (fun k4 l4=>
 Zr k4 fun m4 n4 o4=>
 ∀p4:KW,(∀(q4:Int) (r4:OA) (s4 t4:Nat) (u4:World),(ac (decide (q4< (n4:Int)))
 (∀v4,v4=u4.drew→
 Z8 v4 ((nb w).add 0) fun x4 y4 z4 a5 b5 c5=>
 Zm m4 q4 n4 (fun d5=>
 Z0 v4 (d5.add (q4.toNat*1)) fun e5=>
 CP 109 #[agg #[slice x4 y4 z4,slice a5 b5 c5],string e5] v4 (fun f5 g5=>
 Zr f5 fun h5 i5 j5=>
 Zh 28 #[slice r4 s4 t4,slice h5 i5 j5] g5 fun k5 l5 m5 n5=>
 Ar .i64 (q4+1) (fun o5=>
 p4 [int .i64 o5,slice k5 l5 m5] n5))))
 (Zv u4 #[] 5 fun p5=>
 ac (decide (y< (r:Int)))
 (∀q5,q5=p5.drew→
 Zl q5 ((nb w).add 4) fun r5 s5 t5=>
 Zm q y r (fun u5=>
 Zs q5 (u5.add (y.toNat*1)) fun v5=>
 Ar .i64 ((-1:Int)-v5) (fun x5=>
 Zm r5 x5 s5 (fun y5=>
 Zs q5 ((y5.add (x5.toNat*2)).add 0) fun z5=>
 Zv q5 #[int .i64 z5] 3 fun a6=>
 Zh 28 #[slice r4 s4 t4,slice (some (nb q5)) 1 1] a6 fun b6 c6 d6 e6=>
 g1 [slice (some (nb u4)) 0 0,slice b6 c6 d6] e6))))
 (g1 [slice (some (nb u4)) 0 0,slice r4 s4 t4] p5)))→p4 [int .i64 q4,slice r4 s4 t4] u4)→
 p4 [int .i64 0,slice c1 d1 e1] l4)))
 (R (slice c1 d1 e1) f1))→x [int .i64 y,slice z a1 b1,slice c1 d1 e1] f1)→
 x [int .i64 0,slice (some (nb t)) 0 0,slice none 0 0] u
theorem EC (a:OA) (b c:Nat) (d:OA) (f g:Nat) (h:OA) (i j:Nat) (k:OA) (l m:Nat) (n:OA) (o p:Nat) (q:OA) (r s:Nat) (w:World) (R:RW) (hh:SY a b c d f g h i j k l m n o p q r s w R):CR 89 #[agg #[slice a b c,slice d f g,slice h i j,slice k l m,slice n o p],slice q r s] w R:=by refine aH (fn:=Tryz.f89) ?_ ?_ ?_ ?_ ?_ hh<;>kernel_rfl
def Th (a:Bool) (b:OA) (c d:Nat) (f:OA) (g h:Nat) (i:OA) (j k:Nat) (l:OA) (m n:Nat) (o:OA) (p q:Nat) (w:World) (R:RW):Prop:=
 Zv w #[bool a,slice b c d,slice f g h,slice i j k,slice l m n,slice o p q] 71 fun r=>
 Zv r #[slice none 0 0,slice none 0 0] 35 fun s=>
 Zk s ((nb w).add 0) fun t=>
 ac t
 (Zl s ((nb w).add 2) fun u x y=>
 CP 140 #[slice u x y] s (fun z a1=>
 Z7 z fun b1 c1 d1 e1 f1 g1 h1 i1=>
 aI a1 (nb r) (fun j1=>
 Z8 j1 (nb r) fun k1 l1 m1 n1 o1 p1=>
 R (tuple #[agg #[slice k1 l1 m1,slice n1 o1 p1],int .i64 h1,int .i64 i1]) j1) [slice b1 c1 d1,slice e1 f1 g1] 0))
 (Zl s ((nb w).add 1) fun q1 r1 s1=>
 CP 141 #[slice q1 r1 s1] s (fun t1 u1=>
 Z7 t1 fun v1 x1 y1 z1 a2 b2 c2 d2=>
 aI u1 (nb r) (fun e2=>
 Z8 e2 (nb r) fun f2 g2 h2 i2 j2 k2=>
 R (tuple #[agg #[slice f2 g2 h2,slice i2 j2 k2],int .i64 c2,int .i64 d2]) e2) [slice v1 x1 y1,slice z1 a2 b2] 0))
theorem Fx (a:Bool) (b:OA) (c d:Nat) (f:OA) (g h:Nat) (i:OA) (j k:Nat) (l:OA) (m n:Nat) (o:OA) (p q:Nat) (w:World) (R:RW) (hh:Th a b c d f g h i j k l m n o p q w R):CR 97 #[agg #[bool a,slice b c d,slice f g h,slice i j k,slice l m n,slice o p q]] w R:=by refine aH (fn:=Tryz.f97) ?_ ?_ ?_ ?_ ?_ hh<;>kernel_rfl
def Tr (a:OA) (b c:Nat) (w:World) (R:RW):Prop:=
 ∀d:KW,(∀(f g h:Int) (i:World),(ac (decide (f< (b:Int)))
 (Zm a f b (fun j=>
 Zs i ((j.add (f.toNat*2)).add 0) fun k=>
 ac (decide (k<0))
 (R (tuple #[int .i64 f,int .i64 1]) i)
 (Zm a f b (fun l=>
 Zs i ((l.add (f.toNat*2)).add 0) fun m=>
 ac (decide (m>1073741824))
 (R (tuple #[int .i64 f,int .i64 1]) i)
 (Zm a f b (fun n=>
 Z0 i ((n.add (f.toNat*2)).add 1) fun o=>
 ac (decide (((o.size:Int):Int) <1))
 (R (tuple #[int .i64 f,int .i64 1]) i)
 (Zm a f b (fun p=>
 Z0 i ((p.add (f.toNat*2)).add 1) fun q=>
 ac (decide (((q.size:Int):Int)>64))
 (R (tuple #[int .i64 f,int .i64 1]) i)
 (ac (decide (f≥32))
 (R (tuple #[int .i64 f,int .i64 3]) i)
 (∀r:KW,(∀(s t u:Int) (x:World),(ac (decide (s<f))
 (∀y,y=x.drew→
 Zm a s b (fun z=>
 Zs y ((z.add (s.toNat*2)).add 0) fun a1=>
 Zm a f b (fun b1=>
 Zs y ((b1.add (f.toNat*2)).add 0) fun c1=>
 ac (a1==c1)
 (R (tuple #[int .i64 f,int .i64 10]) y)
 (Zm a s b (fun d1=>
 Z0 y ((d1.add (s.toNat*2)).add 1) fun e1=>
 Zm a f b (fun f1=>
 Z0 y ((f1.add (f.toNat*2)).add 1) fun g1=>
 ac (e1.toList==g1.toList)
 (R (tuple #[int .i64 f,int .i64 10]) y)
 (Ar .i64 (s+1) (fun h1=>
 r [int .i64 h1,int .i64 t,int .i64 u] y))))))))
 (Ar .i64 (f+1) (fun i1=>
 d [int .i64 i1,int .i64 t,int .i64 u] x)))→r [int .i64 s,int .i64 t,int .i64 u] x)→
 r [int .i64 0,int .i64 g,int .i64 h] i))))))))))
 (R (tuple #[int .i64 (b:Int),int .i64 0]) i))→d [int .i64 f,int .i64 g,int .i64 h] i)→
 d [int .i64 0,int .i64 0,int .i64 0] w
theorem DU (a:OA) (b c:Nat) (w:World) (R:RW) (hh:Tr a b c w R):CR 98 #[slice a b c] w R:=by refine aH (fn:=Tryz.f98) ?_ ?_ ?_ ?_ ?_ hh<;>kernel_rfl
def Qs (a:OA) (b c:Nat) (w:World) (R:RW):Prop:=
 ∀d:KW,(∀(f:Int) (g:Bool) (h:World),(ac (decide (f< (b:Int)))
 (Zm a f b (fun i=>
 Z0 h ((i.add (f.toNat*2)).add 1) fun j=>
 ac (decide (((j.size:Int):Int)>100))
 (R (bool true) h)
 (Ar .i64 (f+1) (fun k=>
 d [int .i64 k,bool g] h))))
 (R (bool (decide ((b:Int)>40))) h))→d [int .i64 f,bool g] h)→
 d [int .i64 0,bool false] w
theorem yU (a:OA) (b c:Nat) (w:World) (R:RW) (hh:Qs a b c w R):CR 102 #[slice a b c] w R:=by refine aH (fn:=Tryz.f102) ?_ ?_ ?_ ?_ ?_ hh<;>kernel_rfl
def PI (a:OA) (b c:Nat) (w:World) (R:RW):Prop:=
 Zv w #[slice none 0 0,slice none 0 0] 35 fun d=>
 CP 157 #[] d (fun f g=>
 Z9 f fun h i j k l m=>
 Zv g #[slice none 0 0,slice none 0 0] 35 fun n=>
 aI n (nb g) (fun o=>
 ∀p:KW,(∀(q:Int) (r:World),(Ar .i64 (q+1) (fun s=>
 ac (decide (s< (b:Int)))
 (ac (decide (q<60))
 (∀t:KW,(∀u:World,(Ar .i64 (q+2) (fun x=>
 p [int .i64 x] u))→t [] u)→
 ∀y,y=r.drew→
 Zm a q b (fun z=>
 ZY y (z.add (q.toNat*1)) fun a1=>
 Zl y ((nb g).add 0) fun b1 c1 d1=>
 Zl y ((nb g).add 1) fun e1 f1 g1=>
 Ar .i64 ((c1:Int)+(f1:Int)) (fun h1=>
 h1≠0∧
 Ar .i64 (q+1) (fun i1=>
 Zm a i1 b (fun j1=>
 ZY y (j1.add (i1.toNat*1)) fun k1=>
 Zl y ((nb g).add 0) fun l1 m1 n1=>
 Zl y ((nb g).add 1) fun o1 p1 q1=>
 Ar .i64 ((m1:Int)+(p1:Int)) (fun r1=>
 r1≠0∧
 ∀s1:KW,(∀(t1:Int) (u1:World),(∀v1:KW,(∀(x1:Int) (y1:World),(Z8 y1 (nb g) fun z1 a2 b2 c2 d2 e2=>
 CP 158 #[agg #[slice z1 a2 b2,slice c2 d2 e2],agg #[int .i64 t1,int .i64 x1]] y1 (fun f2 g2=>
 ZX f2 fun h2 i2 j2 k2 l2 m2 n2=>
 Zv g2 #[slice none 0 0,slice none 0 0] 35 fun o2=>
 aI o2 (nb g2) (fun p2=>
 ac (n2==0)
 (Z8 p2 (nb g2) fun q2 r2 s2 t2 u2 v2=>
 aI p2 (nb g) (fun x2=>
 t [] x2) [slice q2 r2 s2,slice t2 u2 v2] 0)
 (t [] p2)) [slice h2 i2 j2,slice k2 l2 m2] 0))→v1 [int .i64 x1] y1)→
 Zl u1 ((nb g).add 0) fun y2 z2 a3=>
 ac (decide ((Int.tmod (IntKind.wrap .i64 k1) r1:Int)≥(z2:Int)))
 (Ar .i64 ((256:Int)+(Int.tmod (IntKind.wrap .i64 k1) r1)) (fun b3=>
 Zl u1 ((nb g).add 0) fun c3 d3 e3=>
 Ar .i64 (b3- (d3:Int)) (fun f3=>
 v1 [int .i64 f3] u1)))
 (v1 [int .i64 (Int.tmod (IntKind.wrap .i64 k1) r1)] u1))→s1 [int .i64 t1] u1)→
 Zl y ((nb g).add 0) fun g3 h3 i3=>
 ac (decide ((Int.tmod (IntKind.wrap .i64 a1) h1:Int)≥(h3:Int)))
 (Ar .i64 ((256:Int)+(Int.tmod (IntKind.wrap .i64 a1) h1)) (fun j3=>
 Zl y ((nb g).add 0) fun k3 l3 m3=>
 Ar .i64 (j3- (l3:Int)) (fun n3=>
 s1 [int .i64 n3] y)))
 (s1 [int .i64 (Int.tmod (IntKind.wrap .i64 a1) h1)] y)))))))
 (Z8 r (nb g) fun o3 p3 q3 r3 s3 t3=>
 aI r (nb w) (fun u3=>
 Z8 u3 (nb w) fun v3 x3 y3 z3 a4 b4=>
 R (agg #[slice v3 x3 y3,slice z3 a4 b4]) u3) [slice o3 p3 q3,slice r3 s3 t3] 0))
 (Z8 r (nb g) fun c4 d4 e4 f4 g4 h4=>
 aI r (nb w) (fun i4=>
 Z8 i4 (nb w) fun j4 k4 l4 m4 n4 o4=>
 R (agg #[slice j4 k4 l4,slice m4 n4 o4]) i4) [slice c4 d4 e4,slice f4 g4 h4] 0)))→p [int .i64 q] r)→
 p [int .i64 0] o) [slice h i j,slice k l m] 0)
theorem AO (a:OA) (b c:Nat) (w:World) (R:RW) (hh:PI a b c w R):CR 103 #[slice a b c] w R:=by refine aH (fn:=Tryz.f103) ?_ ?_ ?_ ?_ ?_ hh<;>kernel_rfl
def PL (a:OA) (b c:Nat) (d:OA) (f g:Nat) (w:World) (R:RW):Prop:=
 Zv w #[slice a b c,slice d f g] 37 fun h=>
 ∀i:KW,(∀(j:Int) (k:Bool) (l:World),(Zl l ((nb w).add 0) fun m n o=>
 ac (decide (j< (n:Int)))
 (Zl l ((nb w).add 0) fun p q r=>
 Zm p j q (fun s=>
 Zb l (s.add (j.toNat*3)) fun t u x=>
 Zv l #[int .i64 0,int .i64 0,int .i64 0] 89 fun y=>
 aI y (nb l) (fun z=>
 Zs z ((nb l).add 0) fun a1=>
 ac (decide (a1<0))
 (R (bool false) z)
 (Zs z ((nb l).add 1) fun b1=>
 Zs z ((nb l).add 0) fun c1=>
 ac (decide (b1<c1))
 (R (bool false) z)
 (Zs z ((nb l).add 1) fun d1=>
 ac (decide (d1>255))
 (R (bool false) z)
 (Zs z ((nb l).add 2) fun e1=>
 ac (decide (e1<0))
 (R (bool false) z)
 (Zs z ((nb l).add 2) fun f1=>
 ac (decide (f1>15))
 (R (bool false) z)
 (Ar .i64 (j+1) (fun g1=>
 i [int .i64 g1,bool k] z))))))) [int .i64 t,int .i64 u,int .i64 x] 0))
 (∀h1:KW,(∀(i1:Int) (j1:Bool) (k1:World),(Zl k1 ((nb w).add 1) fun l1 m1 n1=>
 ac (decide (i1< (m1:Int)))
 (Zl k1 ((nb w).add 1) fun o1 p1 q1=>
 Zm o1 i1 p1 (fun r1=>
 Za k1 (r1.add (i1.toNat*2)) fun s1 t1=>
 Zv k1 #[int .i64 0,int .i64 0] 170 fun u1=>
 aI u1 (nb k1) (fun v1=>
 Zs v1 ((nb k1).add 0) fun x1=>
 ac (decide (x1<0))
 (R (bool false) v1)
 (Zs v1 ((nb k1).add 0) fun y1=>
 ac (decide (y1>15))
 (R (bool false) v1)
 (Zs v1 ((nb k1).add 1) fun z1=>
 ac (decide (z1<0))
 (R (bool false) v1)
 (Zs v1 ((nb k1).add 1) fun a2=>
 ac (decide (a2>15))
 (R (bool false) v1)
 (Ar .i64 (i1+1) (fun b2=>
 h1 [int .i64 b2,bool j1] v1)))))) [int .i64 s1,int .i64 t1] 0))
 (R (bool true) k1))→h1 [int .i64 i1,bool j1] k1)→
 h1 [int .i64 0,bool k] l))→i [int .i64 j,bool k] l)→
 i [int .i64 0,bool false] h
theorem C6 (a:OA) (b c:Nat) (d:OA) (f g:Nat) (w:World) (R:RW) (hh:PL a b c d f g w R):CR 104 #[agg #[slice a b c,slice d f g]] w R:=by refine aH (fn:=Tryz.f104) ?_ ?_ ?_ ?_ ?_ hh<;>kernel_rfl
def QM (a:OA) (b c:Nat) (d:OA) (f g:Nat) (h:ByteArray) (w:World) (R:RW):Prop:=
 Zv w #[slice a b c,slice d f g] 35 fun i=>
 Z8 i (nb w) fun j k l m n o=>
 Zl i ((nb w).add 0) fun p q r=>
 CP 166 #[agg #[slice j k l,slice m n o],string h,int .i64 (q:Int)] i (fun s t=>
 Zr s fun u x y=>
 R (slice u x y) t)
theorem yR (a:OA) (b c:Nat) (d:OA) (f g:Nat) (h:ByteArray) (w:World) (R:RW) (hh:QM a b c d f g h w R):CR 109 #[agg #[slice a b c,slice d f g],string h] w R:=by refine aH (fn:=Tryz.f109) ?_ ?_ ?_ ?_ ?_ hh<;>kernel_rfl
def Sg (a:OA) (b c:Nat) (d:OA) (f g:Nat) (h i:Int) (w:World) (R:RW):Prop:=
 Zv w #[slice a b c,slice d f g] 37 fun j=>
 ∀k,k=j.drew→
 Z8 k (nb w) fun l m n o p q=>
 Z8 k (nb w) fun r s t u x y=>
 CP 167 #[agg #[slice l m n,slice o p q],int .u8 h] k (fun z a1=>
 Zx z fun b1=>
 (a1.cell? (nb w)=some (slice r s t)∧a1.cell? ((nb w).add 1)=some (slice u x y)∧True)∧
 CP 167 #[agg #[slice r s t,slice u x y],int .u8 i] a1 (fun c1 d1=>
 Zx c1 fun e1=>
 ∀f1:KW,(∀(g1:Int) (h1:Bool) (i1:World),(Zl i1 ((nb w).add 1) fun j1 k1 l1=>
 ac (decide (g1< (k1:Int)))
 (Zl i1 ((nb w).add 1) fun m1 n1 o1=>
 Zm m1 g1 n1 (fun p1=>
 Zs i1 ((p1.add (g1.toNat*2)).add 0) fun q1=>
 ac (q1==b1)
 (Zl i1 ((nb w).add 1) fun r1 s1 t1=>
 Zm r1 g1 s1 (fun u1=>
 Zs i1 ((u1.add (g1.toNat*2)).add 1) fun v1=>
 ac (v1==e1)
 (R (bool false) i1)
 (Ar .i64 (g1+1) (fun x1=>
 f1 [int .i64 x1,bool h1] i1))))
 (Ar .i64 (g1+1) (fun y1=>
 f1 [int .i64 y1,bool h1] i1))))
 (R (bool (b1 != e1)) i1))→f1 [int .i64 g1,bool h1] i1)→
 f1 [int .i64 0,bool false] d1))
theorem zr (a:OA) (b c:Nat) (d:OA) (f g:Nat) (h i:Int) (w:World) (R:RW) (hh:Sg a b c d f g h i w R):CR 110 #[agg #[slice a b c,slice d f g],int .u8 h,int .u8 i] w R:=by refine aH (fn:=Tryz.f110) ?_ ?_ ?_ ?_ ?_ hh<;>kernel_rfl
def PQ (a:OA) (b c:Nat) (d:OA) (f g:Nat) (h:Int) (w:World) (R:RW):Prop:=
 Zv w #[slice a b c,slice d f g] 35 fun i=>
 ac (decide (h≥0))
 (Zl i ((nb w).add 0) fun j k l=>
 R (bool (decide (h< (k:Int)))) i)
 (R (bool false) i)
theorem zt (a:OA) (b c:Nat) (d:OA) (f g:Nat) (h:Int) (w:World) (R:RW) (hh:PQ a b c d f g h w R):CR 111 #[agg #[slice a b c,slice d f g],int .i64 h] w R:=by refine aH (fn:=Tryz.f111) ?_ ?_ ?_ ?_ ?_ hh<;>kernel_rfl
def PJ (a:OA) (b c:Nat) (d:OA) (f g:Nat) (h:OA) (i j:Nat) (k:OA) (l m:Nat) (n:OA) (o p:Nat) (q:Int) (w:World) (R:RW):Prop:=
 Zv w #[slice a b c,slice d f g,slice h i j,slice k l m,slice n o p] 39 fun r=>
 ∀s:KW,(∀(t u:Int) (x:World),(Zl x ((nb w).add 4) fun y z a1=>
 ac (decide (t< (z:Int)))
 (Zl x ((nb w).add 4) fun b1 c1 d1=>
 Zm b1 t c1 (fun e1=>
 Zs x ((e1.add (t.toNat*2)).add 0) fun f1=>
 ac (f1==q)
 (Ar .i64 ((-1:Int)-t) (fun g1=>
 R (int .i64 g1) x))
 (Ar .i64 (t+1) (fun h1=>
 s [int .i64 h1,int .i64 u] x))))
 (R (int .i64 0) x))→s [int .i64 t,int .i64 u] x)→
 s [int .i64 0,int .i64 0] r
theorem AY (a:OA) (b c:Nat) (d:OA) (f g:Nat) (h:OA) (i j:Nat) (k:OA) (l m:Nat) (n:OA) (o p:Nat) (q:Int) (w:World) (R:RW) (hh:PJ a b c d f g h i j k l m n o p q w R):CR 112 #[agg #[slice a b c,slice d f g,slice h i j,slice k l m,slice n o p],int .i64 q] w R:=by refine aH (fn:=Tryz.f112) ?_ ?_ ?_ ?_ ?_ hh<;>kernel_rfl
def RY (a:OA) (b c:Nat) (w:World) (R:RW):Prop:=
 Zv w #[slice none 0 0,slice none 0 0] 35 fun d=>
 CP 157 #[] d (fun f g=>
 Z9 f fun h i j k l m=>
 Zv g #[slice none 0 0,slice none 0 0] 35 fun n=>
 aI n (nb g) (fun o=>
 ∀p:KW,(∀(q r s:Int) (t:World),(ac (decide (q< (b:Int)))
 (∀u,u=t.drew→
 Z8 u (nb g) fun x y z a1 b1 c1=>
 Zm a q b (fun d1=>
 Za u (d1.add (q.toNat*2)) fun e1 f1=>
 (CP 158 #[agg #[slice x y z,slice a1 b1 c1],agg #[int .i64 e1,int .i64 f1]] u (fun g1 h1=>
 ZX g1 fun i1 j1 k1 l1 m1 n1 o1=>
 Zv h1 #[slice none 0 0,slice none 0 0] 35 fun p1=>
 aI p1 (nb h1) (fun q1=>
 ac (o1 != 0)
 (Z8 q1 (nb g) fun r1 s1 t1 u1 v1 x1=>
 aI q1 (nb w) (fun y1=>
 Z8 y1 (nb w) fun z1 a2 b2 c2 d2 e2=>
 R (tuple #[agg #[slice z1 a2 b2,slice c2 d2 e2],int .i64 q,int .i64 o1]) y1) [slice r1 s1 t1,slice u1 v1 x1] 0)
 (Z8 q1 (nb h1) fun f2 g2 h2 i2 j2 k2=>
 aI q1 (nb g) (fun l2=>
 Ar .i64 (q+1) (fun m2=>
 p [int .i64 m2,int .i64 r,int .i64 s] l2)) [slice f2 g2 h2,slice i2 j2 k2] 0)) [slice i1 j1 k1,slice l1 m1 n1] 0))∧
 (Zv u #[slice none 0 0,slice none 0 0] 35 fun n2=>
 (n2.cell? (d1.add (q.toNat*2))=some (int .i64 e1)∧n2.cell? ((d1.add (q.toNat*2)).add 1)=some (int .i64 f1)∧True)∧
 (n2.cell? (nb g)=some (slice x y z)∧n2.cell? ((nb g).add 1)=some (slice a1 b1 c1)∧True)∧
 CP 158 #[agg #[slice x y z,slice a1 b1 c1],agg #[int .i64 e1,int .i64 f1]] n2 (fun o2 p2=>
 ZX o2 fun q2 r2 s2 t2 u2 v2 x2=>
 aI p2 (nb u) (fun y2=>
 ac (x2 != 0)
 (Z8 y2 (nb g) fun z2 a3 b3 c3 d3 e3=>
 aI y2 (nb w) (fun f3=>
 Z8 f3 (nb w) fun g3 h3 i3 j3 k3 l3=>
 R (tuple #[agg #[slice g3 h3 i3,slice j3 k3 l3],int .i64 q,int .i64 x2]) f3) [slice z2 a3 b3,slice c3 d3 e3] 0)
 (Z8 y2 (nb u) fun m3 n3 o3 p3 q3 r3=>
 aI y2 (nb g) (fun s3=>
 Ar .i64 (q+1) (fun t3=>
 p [int .i64 t3,int .i64 r,int .i64 s] s3)) [slice m3 n3 o3,slice p3 q3 r3] 0)) [slice q2 r2 s2,slice t2 u2 v2] 0))))
 (Z8 t (nb g) fun u3 v3 x3 y3 z3 a4=>
 aI t (nb w) (fun b4=>
 Z8 b4 (nb w) fun c4 d4 e4 f4 g4 h4=>
 R (tuple #[agg #[slice c4 d4 e4,slice f4 g4 h4],int .i64 (b:Int),int .i64 0]) b4) [slice u3 v3 x3,slice y3 z3 a4] 0))→p [int .i64 q,int .i64 r,int .i64 s] t)→
 p [int .i64 0,int .i64 0,int .i64 0] o) [slice h i j,slice k l m] 0)
theorem Dm (a:OA) (b c:Nat) (w:World) (R:RW) (hh:RY a b c w R):CR 141 #[slice a b c] w R:=by refine aH (fn:=Tryz.f141) ?_ ?_ ?_ ?_ ?_ hh<;>kernel_rfl
def OV (w:World) (R:RW):Prop:=
 Zv w #[slice none 0 0,slice none 0 0] 35 fun a=>
 Zv a #[slice none 0 0,slice none 0 0] 35 fun b=>
 aI b (nb a) (fun c=>
 ∀d:KW,(∀(f:Int) (g:World),(ac (decide (f<256))
 (Zl g ((nb a).add 0) fun h i j=>
 Zv g #[int .u8 (IntKind.wrap .u8 f)] 5 fun k=>
 ∃l m,(convert 57 9 (slice (some (nb g)) 1 1)).run Tryz.prog k= .ok (string l) m∧
 Zv m #[string l] 9 fun n=>
 Zh 32 #[slice h i j,slice (some (nb m)) 1 1] n fun o p q r=>
 Zu r ((nb a).add 0) (slice o p q) fun s=>
 Ar .i64 (f+1) (fun t=>
 d [int .i64 t] s))
 (Z8 g (nb a) fun x y z a1 b1 c1=>
 aI g (nb w) (fun d1=>
 Z8 d1 (nb w) fun e1 f1 g1 h1 i1 j1=>
 R (agg #[slice e1 f1 g1,slice h1 i1 j1]) d1) [slice x y z,slice a1 b1 c1] 0))→d [int .i64 f] g)→
 d [int .i64 0] c) [slice none 0 0,slice none 0 0] 0
theorem zZ (w:World) (R:RW) (hh:OV w R):CR 157 #[] w R:=by refine aH (fn:=Tryz.f157) ?_ ?_ ?_ ?_ ?_ hh<;>kernel_rfl
def QJ (a:OA) (b c:Nat) (d:OA) (f g:Nat) (h i:Int) (w:World) (R:RW):Prop:=
 Zv w #[slice a b c,slice d f g] 35 fun j=>
 Zv j #[int .i64 h,int .i64 i] 85 fun k=>
 Zv k #[slice none 0 0,slice none 0 0] 35 fun l=>
 Z8 l (nb w) fun m n o p q r=>
 Zs l ((nb j).add 0) fun s=>
 CP 111 #[agg #[slice m n o,slice p q r],int .i64 s] l (fun t u=>
 Zp t fun x=>
 ac (!x)
 (Z8 u (nb w) fun y z a1 b1 c1 d1=>
 aI u (nb k) (fun e1=>
 Z8 e1 (nb k) fun f1 g1 h1 i1 j1 k1=>
 R (tuple #[agg #[slice f1 g1 h1,slice i1 j1 k1],int .i64 4]) e1) [slice y z a1,slice b1 c1 d1] 0)
 (Z8 u (nb w) fun l1 m1 n1 o1 p1 q1=>
 Zs u ((nb j).add 1) fun r1=>
 CP 111 #[agg #[slice l1 m1 n1,slice o1 p1 q1],int .i64 r1] u (fun s1 t1=>
 Zp s1 fun u1=>
 ac (!u1)
 (Z8 t1 (nb w) fun v1 x1 y1 z1 a2 b2=>
 aI t1 (nb k) (fun c2=>
 Z8 c2 (nb k) fun d2 e2 f2 g2 h2 i2=>
 R (tuple #[agg #[slice d2 e2 f2,slice g2 h2 i2],int .i64 4]) c2) [slice v1 x1 y1,slice z1 a2 b2] 0)
 (∀j2,j2=t1.drew→
 Zl j2 ((nb w).add 0) fun k2 l2 m2=>
 Zs j2 ((nb j).add 0) fun n2=>
 Zm k2 n2 l2 (fun o2=>
 Z0 j2 (o2.add (n2.toNat*1)) fun p2=>
 Zl j2 ((nb w).add 0) fun q2 r2 s2=>
 Zs j2 ((nb j).add 1) fun t2=>
 Zm q2 t2 r2 (fun u2=>
 Z0 j2 (u2.add (t2.toNat*1)) fun v2=>
 ((p2.size+v2.size:Nat):Int)≤IntKind.i64.max∧
 ac (decide ((((p2++v2:ByteArray).size:Int):Int)>64))
 (Z8 j2 (nb w) fun x2 y2 z2 a3 b3 c3=>
 aI j2 (nb k) (fun d3=>
 Z8 d3 (nb k) fun e3 f3 g3 h3 i3 j3=>
 R (tuple #[agg #[slice e3 f3 g3,slice h3 i3 j3],int .i64 3]) d3) [slice x2 y2 z2,slice a3 b3 c3] 0)
 (Zl j2 ((nb w).add 0) fun k3 l3 m3=>
 ac (decide ((l3:Int)≥1000))
 (Z8 j2 (nb w) fun n3 o3 p3 q3 r3 s3=>
 aI j2 (nb k) (fun t3=>
 Z8 t3 (nb k) fun u3 v3 x3 y3 z3 a4=>
 R (tuple #[agg #[slice u3 v3 x3,slice y3 z3 a4],int .i64 5]) t3) [slice n3 o3 p3,slice q3 r3 s3] 0)
 (Z8 j2 (nb w) fun b4 c4 d4 e4 f4 g4=>
 CP 205 #[agg #[slice b4 c4 d4,slice e4 f4 g4],string (p2++v2)] j2 (fun h4 i4=>
 Zx h4 fun j4=>
 ac (decide (j4≥0))
 (Z8 i4 (nb w) fun k4 l4 m4 n4 o4 p4=>
 aI i4 (nb k) (fun q4=>
 Z8 q4 (nb k) fun r4 s4 t4 u4 v4 x4=>
 R (tuple #[agg #[slice r4 s4 t4,slice u4 v4 x4],int .i64 10]) q4) [slice k4 l4 m4,slice n4 o4 p4] 0)
 (Zl i4 ((nb w).add 0) fun y4 z4 a5=>
 Zh 32 #[slice none 0 0,slice y4 z4 a5] i4 fun b5 c5 d5 e5=>
 Zl e5 ((nb w).add 1) fun f5 g5 h5=>
 Zh 33 #[slice none 0 0,slice f5 g5 h5] e5 fun i5 j5 k5 l5=>
 ∀m5,m5=l5.drew→
 Za m5 (nb j) fun n5 o5=>
 (Zv m5 #[string (p2++v2)] 9 fun p5=>
 (p5.cell? (nb j)=some (int .i64 n5)∧p5.cell? ((nb j).add 1)=some (int .i64 o5)∧True)∧
 (Zh 32 #[slice b5 c5 d5,slice (some (nb m5)) 1 1] p5 fun q5 r5 s5 t5=>
 (t5.cell? (nb j)=some (int .i64 n5)∧t5.cell? ((nb j).add 1)=some (int .i64 o5)∧True)∧
 Zv t5 #[int .i64 n5,int .i64 o5] 85 fun u5=>
 Zh 33 #[slice i5 j5 k5,slice (some (nb t5)) 1 1] u5 fun v5 x5 y5 z5=>
 aI z5 (nb k) (fun a6=>
 Z8 a6 (nb k) fun b6 c6 d6 e6 f6 g6=>
 R (tuple #[agg #[slice b6 c6 d6,slice e6 f6 g6],int .i64 0]) a6) [slice q5 r5 s5,slice v5 x5 y5] 0)∧
 (Zv p5 #[int .i64 n5,int .i64 o5] 85 fun h6=>
 Zh 32 #[slice b5 c5 d5,slice (some (nb m5)) 1 1] h6 fun i6 j6 k6 l6=>
 Zh 33 #[slice i5 j5 k5,slice (some (nb p5)) 1 1] l6 fun m6 n6 o6 p6=>
 aI p6 (nb k) (fun q6=>
 Z8 q6 (nb k) fun r6 s6 t6 u6 v6 x6=>
 R (tuple #[agg #[slice r6 s6 t6,slice u6 v6 x6],int .i64 0]) q6) [slice i6 j6 k6,slice m6 n6 o6] 0))∧
 (Zv m5 #[int .i64 n5,int .i64 o5] 85 fun y6=>
 Zv y6 #[string (p2++v2)] 9 fun z6=>
 Zh 32 #[slice b5 c5 d5,slice (some (nb y6)) 1 1] z6 fun a7 b7 c7 d7=>
 Zh 33 #[slice i5 j5 k5,slice (some (nb m5)) 1 1] d7 fun e7 f7 g7 h7=>
 aI h7 (nb k) (fun i7=>
 Z8 i7 (nb k) fun j7 k7 l7 m7 n7 o7=>
 R (tuple #[agg #[slice j7 k7 l7,slice m7 n7 o7],int .i64 0]) i7) [slice a7 b7 c7,slice e7 f7 g7] 0)))))))))))
theorem B8 (a:OA) (b c:Nat) (d:OA) (f g:Nat) (h i:Int) (w:World) (R:RW) (hh:QJ a b c d f g h i w R):CR 158 #[agg #[slice a b c,slice d f g],agg #[int .i64 h,int .i64 i]] w R:=by refine aH (fn:=Tryz.f158) ?_ ?_ ?_ ?_ ?_ hh<;>kernel_rfl
def Sa (a:OA) (b c:Nat) (d:OA) (f g:Nat) (h:ByteArray) (i:Int) (w:World) (R:RW):Prop:=
 Zv w #[slice a b c,slice d f g] 35 fun j=>
 ∀k:KW,(∀(l:Int) (m:OA) (n o:Nat) (p:World),(ac (decide (l< (h.size:Int)))
 ((0:Int)≤l∧l< (h.size:Int)∧
 Zv p #[int .i64 (IntKind.wrap .i64 (dM h l))] 3 fun q=>
 Zh 28 #[slice m n o,slice (some (nb p)) 1 1] q fun r s t u=>
 Ar .i64 (l+1) (fun x=>
 k [int .i64 x,slice r s t] u))
 (∀y:KW,(∀(z:Int) (a1:OA) (b1 c1:Nat) (d1:World),(Zl d1 ((nb w).add 1) fun e1 f1 g1=>
 ac (decide (z< (f1:Int)))
 (Ar .i64 ((256:Int)+z) (fun h1=>
 ac (decide (h1<i))
 (∀i1:KW,(∀(j1:Int) (k1:OA) (l1 m1:Nat) (n1:World),(ac (decide (j1< (b1:Int)))
 (∀o1:KW,(∀(p1:Int) (q1:OA) (r1 s1:Nat) (t1:World),(Ar .i64 (p1+1) (fun u1=>
 i1 [int .i64 u1,slice q1 r1 s1] t1))→o1 [int .i64 p1,slice q1 r1 s1] t1)→
 ∀v1,v1=n1.drew→
 Ar .i64 (j1+1) (fun x1=>
 ac (decide (x1< (b1:Int)))
 (Zm a1 j1 b1 (fun y1=>
 Zs v1 (y1.add (j1.toNat*1)) fun z1=>
 Zl v1 ((nb w).add 1) fun a2 b2 c2=>
 Zm a2 z b2 (fun d2=>
 Zs v1 ((d2.add (z.toNat*2)).add 0) fun e2=>
 ac (z1==e2)
 (Ar .i64 (j1+1) (fun f2=>
 Zm a1 f2 b1 (fun g2=>
 Zs v1 (g2.add (f2.toNat*1)) fun h2=>
 Zl v1 ((nb w).add 1) fun i2 j2 k2=>
 Zm i2 z j2 (fun l2=>
 Zs v1 ((l2.add (z.toNat*2)).add 1) fun m2=>
 ac (h2==m2)
 (Ar .i64 ((256:Int)+z) (fun n2=>
 Zv v1 #[int .i64 n2] 3 fun o2=>
 Zh 28 #[slice k1 l1 m1,slice (some (nb v1)) 1 1] o2 fun p2 q2 r2 s2=>
 Ar .i64 (j1+1) (fun t2=>
 o1 [int .i64 t2,slice p2 q2 r2] s2)))
 (Zm a1 j1 b1 (fun u2=>
 Zs v1 (u2.add (j1.toNat*1)) fun v2=>
 Zv v1 #[int .i64 v2] 3 fun x2=>
 Zh 28 #[slice k1 l1 m1,slice (some (nb v1)) 1 1] x2 fun y2 z2 a3 b3=>
 o1 [int .i64 j1,slice y2 z2 a3] b3))))))
 (Zm a1 j1 b1 (fun c3=>
 Zs v1 (c3.add (j1.toNat*1)) fun d3=>
 Zv v1 #[int .i64 d3] 3 fun e3=>
 Zh 28 #[slice k1 l1 m1,slice (some (nb v1)) 1 1] e3 fun f3 g3 h3 i3=>
 o1 [int .i64 j1,slice f3 g3 h3] i3)))))
 (Zm a1 j1 b1 (fun j3=>
 Zs v1 (j3.add (j1.toNat*1)) fun k3=>
 Zv v1 #[int .i64 k3] 3 fun l3=>
 Zh 28 #[slice k1 l1 m1,slice (some (nb v1)) 1 1] l3 fun m3 n3 o3 p3=>
 o1 [int .i64 j1,slice m3 n3 o3] p3))))
 (Ar .i64 (z+1) (fun q3=>
 y [int .i64 q3,slice k1 l1 m1] n1)))→i1 [int .i64 j1,slice k1 l1 m1] n1)→
 i1 [int .i64 0,slice none 0 0] d1)
 (R (slice a1 b1 c1) d1)))
 (R (slice a1 b1 c1) d1))→y [int .i64 z,slice a1 b1 c1] d1)→
 y [int .i64 0,slice m n o] p))→k [int .i64 l,slice m n o] p)→
 k [int .i64 0,slice none 0 0] j
theorem Cw (a:OA) (b c:Nat) (d:OA) (f g:Nat) (h:ByteArray) (i:Int) (w:World) (R:RW) (hh:Sa a b c d f g h i w R):CR 166 #[agg #[slice a b c,slice d f g],string h,int .i64 i] w R:=by refine aH (fn:=Tryz.f166) ?_ ?_ ?_ ?_ ?_ hh<;>kernel_rfl
def RB (a:OA) (b c:Nat) (d:OA) (f g:Nat) (h:Int) (w:World) (R:RW):Prop:=
 Zv w #[slice a b c,slice d f g] 37 fun i=>
 Zl i ((nb w).add 0) fun j k l=>
 Ar .i64 ((k:Int)-1) (fun m=>
 ∀n:KW,(∀(o p:Int) (q:World),(ac (decide (o≥0))
 (Zl q ((nb w).add 0) fun r s t=>
 Zm r o s (fun u=>
 Zs q ((u.add (o.toNat*3)).add 0) fun x=>
 ac (decide ((IntKind.wrap .i64 h:Int)≥x))
 (Zl q ((nb w).add 0) fun y z a1=>
 Zm y o z (fun b1=>
 Zs q ((b1.add (o.toNat*3)).add 1) fun c1=>
 ac (decide ((IntKind.wrap .i64 h:Int)≤c1))
 (Zl q ((nb w).add 0) fun d1 e1 f1=>
 Zm d1 o e1 (fun g1=>
 Zs q ((g1.add (o.toNat*3)).add 2) fun h1=>
 R (int .i64 h1) q))
 (Ar .i64 (o-1) (fun i1=>
 n [int .i64 i1,int .i64 p] q))))
 (Ar .i64 (o-1) (fun j1=>
 n [int .i64 j1,int .i64 p] q))))
 (R (int .i64 0) q))→n [int .i64 o,int .i64 p] q)→
 n [int .i64 m,int .i64 0] i)
theorem xU (a:OA) (b c:Nat) (d:OA) (f g:Nat) (h:Int) (w:World) (R:RW) (hh:RB a b c d f g h w R):CR 167 #[agg #[slice a b c,slice d f g],int .u8 h] w R:=by refine aH (fn:=Tryz.f167) ?_ ?_ ?_ ?_ ?_ hh<;>kernel_rfl
def RG (a:OA) (b c:Nat) (d:OA) (f g:Nat) (h:ByteArray) (w:World) (R:RW):Prop:=
 Zv w #[slice a b c,slice d f g] 35 fun i=>
 ∀j:KW,(∀(k l:Int) (m:World),(Zl m ((nb w).add 0) fun n o p=>
 ac (decide (k< (o:Int)))
 (Zl m ((nb w).add 0) fun q r s=>
 Zm q k r (fun t=>
 Z0 m (t.add (k.toNat*1)) fun u=>
 ac (u.toList==h.toList)
 (R (int .i64 k) m)
 (Ar .i64 (k+1) (fun x=>
 j [int .i64 x,int .i64 l] m))))
 (R (int .i64 (-1)) m))→j [int .i64 k,int .i64 l] m)→
 j [int .i64 0,int .i64 0] i
theorem Dh (a:OA) (b c:Nat) (d:OA) (f g:Nat) (h:ByteArray) (w:World) (R:RW) (hh:RG a b c d f g h w R):CR 205 #[agg #[slice a b c,slice d f g],string h] w R:=by refine aH (fn:=Tryz.f205) ?_ ?_ ?_ ?_ ?_ hh<;>kernel_rfl
set_option linter.unusedSimpArgs false
open Go Go.RowKit
structure lK where
 b:Sl
 m:Sl
abbrev lK.v (x:lK):Value:=.agg #[x.b.v,x.m.v]
structure gI (w:World) (x:lK) (es:List aX):Prop where
 n1:x.b.n=es.length
 r1:Rw cz 1 w x.b.a (es.map (·.1))
 k1:lU x.b
 n2:x.m.n=(au es).length
 r2:Rw be 2 w x.m.a (au es)
 k2:lU x.m
theorem gI.on {w w':World} {x:lK} {es:List aX} (h:gI w x es) (hb:ZH w w'):gI w' x es:=⟨h.n1,h.r1.on hb,h.k1,h.n2,h.r2.on hb,h.k2⟩
def kH (B:Nat) (x:lK):Prop:=(∀p,x.b.a=some p→B≤p.block)∧∀p,x.m.a=some p→B≤p.block
theorem kH.mono {B B':Nat} {x:lK} (h:kH B x) (hB:B'≤B):kH B' x:=⟨fun p hp=>XW hB (h.1 p hp),fun p hp=>XW hB (h.2 p hp)⟩
theorem iz {w:World} {B:Nat} {e:TypeId} {sz:Nat} {l:Sl} {xs:List Value} (h:w.ownsRow B e sz l.v l.n xs):∀p,l.a=some p→B≤p.block:=by
 intro p b;obtain⟨i,k,j⟩:=l;rcases h.2 with⟨a,_⟩ |⟨g,c,d,a,f,_⟩
 ·cases a;cases b
 ·cases a;cases b;exact f
theorem lI (w:World) (x:lK) (es:List aX) (h:gI w x es) (id:Int):CP 111 #[x.v,.int .i64 id] w fun e w'=>e= .returned (.bool (decide (bH es id)))∧ZH w w':=by
 refine aJ (zt x.b.a x.b.n x.b.c x.m.a x.m.n x.m.c id w (fun u w'=>u= .bool (decide (bH es id))∧ZH w w') ?_) (by rintro v w' ⟨rfl,h⟩;exact⟨rfl,h⟩);intro d c;have b:ZH w d:=by subst c;exact ah _ _
 refine ac.mk (fun a=>?_) fun a=>?_
 ·have a:=XQ a;refine⟨_,_,_,by subst c;rw [aG,bn];rfl,?_,b⟩;congr 1;rw [h.n1];exact decide_eq_decide.2 ⟨fun h=>⟨a,h⟩,fun h=>h.2⟩
 ·have a:=XX a;refine⟨?_,b⟩;rw [XZ (fun h=>a h.1)]
def Dk (es:List aX) (s:Bs):Int:=vy (fun b=>decide (b=s)) (es.map (·.1))
theorem xc (w:World) (x:lK) (es:List aX) (h:gI w x es) (hl:es.length≤1000000) (s:Bs):CP 205 #[x.v,.string (str s)] w fun e w'=>e= .returned (.int .i64 (Dk es s))∧ZH w w':=by
 refine aV (Dh x.b.a x.b.n x.b.c x.m.a x.m.n x.m.c (str s) w) ?_;intro n f;have d:ZH w n:=by subst f;exact ah _ _
 have k:n.cell? ((nb w).add 0)=some (.slice x.b.a x.b.n x.b.c):=by subst f;rw [aG,bn];rfl
 have t:(es.map (·.1)).length=es.length:=by simp
 have B:=h.n1;intro I r;have m:=aZ (α:=Int) es.length (fun i _=>∀j (c:j< (es.map (·.1)).length),j<i→decide ((es.map (·.1))[j]=s)=false) (fun i y=>I [.int .i64 (i:Int),.int .i64 y] n) 0 (fun j _ c=>absurd c (Nat.not_lt_zero j)) ?_ ?_
 ·exact m
 ·rintro i A z y g;obtain⟨q,v,_,l⟩:=(h.r1.on d) i _ (XK (show i< (es.map (·.1)).length by omega));have o:=l 0 _ rfl;rw [aC]at o;refine r _ _ _ ⟨_,_,_,k,ac.yes (by simp;omega) ⟨_,_,_,k,ag.mk q v ⟨by omega,by omega,_,o,ac.mk (fun a=>?_) fun a=>?_⟩⟩⟩
  ·rw [cG,cG]at a;have a:(es.map (·.1))[i]'(by omega)=s:=by simpa using a
   refine⟨?_,d⟩;unfold Dk;rw [gn (p:=fun b=>decide (b=s)) (xs:=es.map (·.1)) (i:=i) (by omega) (XJ a) fun j c=>g j (by omega) c]
  ·rw [cG,cG]at a;have a:¬(es.map (·.1))[i]'(by omega)=s:=by simpa using a
   refine Ar.ok64 (by omega) (by omega) (z y fun j c u=>?_);by_cases he:j=i
   ·subst he;exact XZ a
   ·exact g j c (by omega)
 ·rintro y g;refine r _ _ _ ⟨_,_,_,k,ac.no (by simp;omega) ⟨?_,d⟩⟩;unfold Dk;rw [dY (p:=fun b=>decide (b=s)) (xs:=es.map (·.1)) fun j c=>g j c (by omega)]
theorem vJ (es:List aX) (s:Bs):Dk es s≥0↔s∈es.map (·.1):=by
 have:=mm (fun b=>decide (b=s)) (es.map (·.1));unfold Dk;rw [←decide_eq_true_iff (p:=vy _ _≥0),this,List.any_eq_true];constructor
 ·rintro⟨b,a,e⟩;rw [←XQ e];exact a
 ·intro h;exact⟨s,h,XJ rfl⟩
abbrev wY:TypeId:=35
theorem bX (a b:Sl):∀v∈ [a.v,b.v],v.oneCell'=true:=by
 intro v c;simp only [List.mem_cons,List.not_mem_nil,or_false]at c;rcases c with rfl |rfl<;>rfl
theorem gj {w:World} {b:Nat} {x y:Value} {e:TypeId} {fz:Nat×Nat} (h:w.heap[b]? =some (.cells #[x,y] e fz)):w.cell? ⟨b,0,none⟩=some x∧w.cell? ((⟨b,0,none⟩:Addr).add 1)=some y∧True:=
 ⟨by have:=ai _ _ h 0;rw [aC]at this;exact this,ai _ _ h 1,trivial⟩
theorem lD {w:World} {B:Nat} {e:TypeId} {sz:Nat} {l:Sl} {xs:List Value} (h:w.ownsRow B e sz l.v l.n xs):lU l:=by
 obtain⟨d,i,f⟩:=l;rcases h.2 with⟨a,_⟩ |⟨g,b,c,a,_⟩
 ·cases a;exact .inl rfl
 ·cases a;exact .inr ⟨_,rfl⟩
theorem mQ (w:World):CP 157 #[] w fun e w'=>∃x:lK,e= .returned x.v∧gI w' x bU∧ZH w w'∧kH w.heap.size x:=by
 refine aV (zZ w) ?_;intro m z w2 U;have hz1:m.heap.size=w.heap.size+1:=by subst z;exact aK _ _
 have o:ZH w m:=by subst z;exact ah _ _
 have l1:m.heap[w.heap.size]? =some (.cells #[Value.slice none 0 0,Value.slice none 0 0] wY (0,0)):=by subst z;exact aq _ _
 refine bg [.slice none 0 0,.slice none 0 0] [.slice none 0 0,.slice none 0 0] rfl (bX ⟨none,0,0⟩ ⟨none,0,0⟩) w2 U ?_;intro w3 h3 hz3 B;have l3:=aj B l1;intro I hI;have X:=aZ (α:=World) 256 (fun i x=>∃l:Sl,x.heap[m.heap.size]? =some (.cells #[l.v,Value.slice none 0 0] wY (0,0))∧x.ownsRow m.heap.size dN 1 l.v l.n ((((List.range i).map cM).map (·.1)).flatMap cz)∧l.n=i∧l.v.ownBlock≠some m.heap.size∧x.heap[w.heap.size]? =some (.cells #[Value.slice none 0 0,Value.slice none 0 0] wY (0,0))∧ZH w x∧m.heap.size<x.heap.size) (fun i x=>I [.int .i64 (i:Int)] x) w3 ⟨⟨none,0,0⟩,h3,cU _ _ _ _,rfl,(by intro h;cases h),l3,o.trans (B.mono o.size),by omega⟩ ?_ ?_
 ·exact X
 ·rintro i hi ih n ⟨l,G,a,D,g,r,J,E⟩;have W:IntKind.wrap .u8 (i:Int)=(i:Int):=cL (by show(0:Int)≤_;omega) (by show _≤(255:Int);omega);refine hI _ _ (ac.yes (by simp;omega) ⟨_,_,_,ai _ _ G 0,?_⟩);rw [W];rintro w5 rfl;have c:=ah n (.cells #[Value.int .u8 (i:Int)] 5);refine⟨_,_,oS (P:=Tryz.prog) (by kernel_rfl) (by kernel_rfl) (by kernel_rfl) n i hi,?_⟩;rintro w7 rfl;have b:=aE a c;have h5:=aj c G;have M:=aj c r;obtain⟨Z,c',w8,S,T,L,h9⟩:=fG (P:=Tryz.prog) (s:=l) 0 h5 (show 0<2 by decide) b g (XV _) eH jc jk rfl (by decide) (cz [UInt8.ofNat i]) rfl (by intro u hu;rw [List.mem_singleton.1 hu];rfl) (by omega) (by omega);refine⟨Z,l.n+1,c',w8,S,rfl,T,L,?_⟩;intro Y V;obtain⟨q,v,t,K,d,hsz9,Q⟩:=h9 Y V;have f:((List.range (i+1)).map cM).map (·.1)=((List.range i).map cM).map (·.1)++ [[UInt8.ofNat i]]:=by rw [List.range_succ];simp [cM]
  have hzz:(n.alloc (.cells #[Value.int .u8 (i:Int)] 5)).heap.size=n.heap.size+1:=aK _ _;have O:l.v.ownBlock≠some w.heap.size:=fun e=>by have:=(bL b _ e).1;omega
  have N:Y.heap[w.heap.size]? =some (.cells #[Value.slice none 0 0,Value.slice none 0 0] wY (0,0)):=by
   rw [d w.heap.size (by omega) (by omega) O];exact M
  refine Ar.ok64 (by omega) (by omega) (ih Y ⟨⟨Z,l.n+1,c'⟩,q,?_,by show l.n+1=i+1;omega,t,N,?_,by omega⟩)
  ·rw [f,List.flatMap_append];simpa using v
  ·have C:Below m.heap.size n (n.alloc (.cells #[Value.int .u8 (i:Int)] 5)):=c.mono (by omega);exact J.trans ((K n C).mono (by omega))
 ·rintro n ⟨l,G,a,D,g,r,J,E⟩;refine hI _ _ (ac.no (by simp) ⟨_,_,_,_,_,_,gj G,?_⟩);refine bo r [l.v,.slice none 0 0] rfl (bX l ⟨none,0,0⟩) ?_;intro w10 H F hz10 A;refine⟨_,_,_,_,_,_,gj H,⟨l,⟨none,0,0⟩⟩,rfl,⟨?_,?_,lD a,?_,?_,.inl rfl⟩,A _ _ (XV _) J,fun p R=>XW o.size (iz a p R),fun p R=>(by cases R)⟩
  ·rw [D];simp [bU]
  ·have:=aN a fun k hk=>F k fun e=>by have:=(bL a k hk).1;omega
   exact(Rw.of_own this (fun _=>rfl) (by decide)).1
  ·simp [au,bU]
  ·intro j y hj;simp [au,bU]at hj
theorem oJ {α:Type} {enc:α→List Value} {sz:Nat} (hsz:∀x,(enc x).length=sz) (h0:0<sz) (h1:∀x,∀u∈enc x,u.oneCell'=true) (t e:TypeId) {z:Value} {bytes:Nat} (ht:Tryz.prog.underlying t=some (.slice e)) (hi:(Tryz.prog.info? e).map (fun i=>(i.zero,i.size,i.bytes))=some (some z,sz,bytes)) (hzs:z.cells.size=sz)
  {B:Nat} {w:World} {s:Sl} {xs:List α} (hown:w.ownsRow B e sz s.v s.n (xs.flatMap enc)) (x:α) {b:Nat} {T:TypeId} {fz:Nat×Nat} (hb:w.heap[b]? =some (.cells (enc x).toArray T fz)) (hB:B≤w.heap.size) (hbytes:(s.n+1)*bytes≤140737488355328) (h63:s.n+1≤140737488355328):
  ∃A C w',(Builtin.append_ #[t,t] t #[.slice s.a s.n s.c,.slice (some ⟨b,0,none⟩) 1 1]).run Tryz.prog w= .ok (.slice A (s.n+1) C) w'∧w'.ownsRow B e sz (.slice A (s.n+1) C) (s.n+1) ((xs++ [x]).flatMap enc)∧(∀w0,Below B w0 w→Below B w0 w')∧(∀k,k<w.heap.size→s.v.ownBlock≠some k→w'.heap[k]? =w.heap[k]?):=by
 obtain⟨A,C,w',c,d,f,g⟩:=nE (P:=Tryz.prog) t e ht hi hzs h0 hown ⟨some ⟨b,0,none⟩,1,1⟩ (.inr ⟨_,rfl⟩) (enc x) (by rw [hsz,Nat.one_mul]) (by
  intro a h j u l;cases h;rw [ai _ _ hb];simpa using l) (h1 x) hbytes h63 hB
 exact⟨A,C,w',c,by simpa using d,f,g⟩
theorem xS {α:Type} {enc:α→List Value} {sz:Nat} (hsz:∀x,(enc x).length=sz) (h0:0<sz) (h1:∀x,∀u∈enc x,u.oneCell'=true) (t e:TypeId) {z:Value} {bytes:Nat} (ht:Tryz.prog.underlying t=some (.slice e)) (hi:(Tryz.prog.info? e).map (fun i=>(i.zero,i.size,i.bytes))=some (some z,sz,bytes)) (hzs:z.cells.size=sz)
  (w:World) (s:Sl) (xs:List α) (hs:lU s) (hr:Rw enc sz w s.a xs) (hn:s.n=xs.length) (hbytes:s.n*bytes≤140737488355328) (h63:s.n≤140737488355328):
  ∃A C w',(Builtin.append_ #[t,t] t #[.slice none 0 0,.slice s.a s.n s.c]).run Tryz.prog w= .ok (.slice A s.n C) w'∧w'.ownsRow w.heap.size e sz (.slice A s.n C) s.n (xs.flatMap enc)∧ZH w w':=by
 obtain⟨A,C,w',b,c,d,_⟩:=nE (P:=Tryz.prog) t e ht hi hzs h0 (cU w w.heap.size e sz) s hs (xs.flatMap enc) (by rw [cA hsz,hn]) (by
  intro a f j u g;rw [f]at hr;exact hr.flat hsz h0 j u g) (by
  intro u h;obtain⟨x,_,k⟩:=List.mem_flatMap.1 h;exact h1 x u k) (by rw [Nat.zero_add];exact hbytes) (by rw [Nat.zero_add];exact h63) (XV _)
 rw [Nat.zero_add]at b c;exact⟨A,C,w',b,by simpa using c,d w (Below.refl _ _)⟩
def L4 (w:World) (x:lK) (es:List aX) (m:Int×Int) (u:Value) (w':World):Prop:=∃(x':lK) (n:Int),u= .tuple #[x'.v,.int .i64 n]∧ZH w w'∧(match cq es m with
 | .error n0=>n=n0∧x'=x
 | .ok y=>n=0∧gI w' x' (es++ [y])∧kH w.heap.size x')
def Wr (w:World) (l:Sl) (sz B:Nat):Prop:=l.n=0∨∃g cur e,l.a=some ⟨g,0,none⟩∧B≤g∧w.heap[g]? =some (.cells cur e (0,0))∧l.n*sz≤cur.size
theorem Wr.of_own {w:World} {B:Nat} {e:TypeId} {sz:Nat} {l:Sl} {xs:List Value} (h:w.ownsRow B e sz l.v l.n xs) (hsz:0<sz):Wr w l sz B:=by
 rcases h.2 with⟨_,k⟩ |⟨g,d,b,m,f,j,i,_,o,_⟩
 ·exact .inl k
 ·obtain⟨a,n,c⟩:=l;cases m;exact .inr ⟨g,b,e,rfl,f,j,by rw [o];exact Nat.mul_le_mul_right _ i⟩
theorem Wr.on {w w':World} {l:Sl} {sz B:Nat} (h:Wr w l sz B) (hb:ZH w w'):Wr w' l sz B:=
 h.imp id fun⟨g,cur,e,h1,h2,h3,h4⟩=>⟨g,cur,e,h1,h2,aj hb h3,h4⟩
theorem Wr.base {w:World} {l:Sl} {sz B B':Nat} (h:Wr w l sz B) (hB:B'≤B):Wr w l sz B':=
 h.imp id fun⟨g,cur,e,h1,h2,h3,h4⟩=>⟨g,cur,e,h1,XW hB h2,h3,h4⟩
theorem Wr.off {w w':World} {l:Sl} {sz B b:Nat} (h:Wr w l sz B) (hb:b<B) (hs:∀j,j≠b→w'.heap[j]? =w.heap[j]?):Wr w' l sz B:=
 h.imp id fun⟨g,cur,e,h1,h2,h3,h4⟩=>⟨g,cur,e,h1,h2,by rw [hs g (by omega)];exact h3,h4⟩
def oo (w:World) (x:lK) (es:List aX) (m:Int×Int) (u:Value) (w':World):Prop:=∃(x':lK) (n:Int),u= .tuple #[x'.v,.int .i64 n]∧ZH w w'∧(match cq es m with
 | .error n0=>n=n0∧x'=x
 | .ok y=>n=0∧gI w' x' (es++ [y])∧kH w.heap.size x'∧Wr w' x'.m 2 w.heap.size)
theorem oP (w:World) (x:lK) (es:List aX) (h:gI w x es) (hok:fo es) (m:Int×Int):CP 158 #[x.v,.agg #[.int .i64 m.1,.int .i64 m.2]] w fun e w'=>∃u,e= .returned u∧oo w x es m u w':=by
 refine B8 x.b.a x.b.n x.b.c x.m.a x.m.n x.m.c m.1 m.2 w (oo w x es m) ?_;intro w1 hw1 Q hw2 X hw3;have hz1:w1.heap.size=w.heap.size+1:=by subst hw1;exact aK _ _
 have hz2:Q.heap.size=w.heap.size+2:=by subst hw2;rw [aK,hz1]
 have hz3:X.heap.size=w.heap.size+3:=by subst hw3;rw [aK,hz2]
 have hb1:ZH w w1:=by subst hw1;exact ah _ _
 have hb2:ZH w1 Q:=by subst hw2;exact ah _ _
 have hb3:ZH Q X:=by subst hw3;exact ah _ _
 have l0:X.heap[w.heap.size]? =some (.cells #[x.b.v,x.m.v] wY (0,0)):=aj hb3 (aj hb2 (by subst hw1;exact aq _ _));have l1:X.heap[w1.heap.size]? =some (.cells #[.int .i64 m.1,.int .i64 m.2] mw (0,0)):=aj hb3 (by subst hw2;exact aq _ _);have l2:X.heap[Q.heap.size]? =some (.cells #[Value.slice none 0 0,Value.slice none 0 0] wY (0,0)):=by subst hw3;exact aq _ _
 have c:ZH w X:=ae hb1 (ae hb2 hb3);have h3:=h.on c;have hmost:=hok.most;have hlen:=h.n1;have o:∀(n:Int) (f:World),cq es m= .error n→ZH X f→
   ∃g0A:Option Addr,∃g0N:Nat,∃g0C:Nat,∃g1A:Option Addr,∃g1N:Nat,∃g1C:Nat,(f.cell? (nb w)=some (Value.slice g0A g0N g0C)∧f.cell? ((nb w).add 1)=some (Value.slice g1A g1N g1C)∧True)∧
   aI f (nb Q) (fun Y=>
   ∃res0A:Option Addr,∃res0N:Nat,∃res0C:Nat,∃res1A:Option Addr,∃res1N:Nat,∃res1C:Nat,(Y.cell? (nb Q)=some (Value.slice res0A res0N res0C)∧Y.cell? ((nb Q).add 1)=some (Value.slice res1A res1N res1C)∧True)∧
   oo w x es m (Value.tuple #[Value.agg #[Value.slice res0A res0N res0C,Value.slice res1A res1N res1C],Value.int .i64 n]) Y) [Value.slice g0A g0N g0C,Value.slice g1A g1N g1C] 0:=by
  intro n f hn B;refine⟨_,_,_,_,_,_,gj (aj B l0),?_⟩;refine bo (aj B l2) [x.b.v,x.m.v] rfl (bX _ _) ?_;intro Y h5 hs5 hz5 hB5;refine⟨_,_,_,_,_,_,gj h5,x,n,rfl,(hB5 _ _ (by omega) (ae c B)),?_⟩;rw [hn];exact⟨rfl,rfl⟩
 refine⟨_,_,_,_,_,_,gj l0,m.1,ai _ _ l1 0,?_⟩;refine(lI X x es h3 m.1).mono ?_;rintro e w4 ⟨rfl,b4⟩;refine⟨_,rfl,ac.mk (fun j=>?_) fun j=>⟨_,_,_,_,_,_,gj (aj b4 l0),m.2,ai _ _ (aj b4 l1) 1,?_⟩⟩
 ·have j:¬bH es m.1:=by simpa using j
  exact o 4 w4 (by rw [cq,if_pos fun h=>j h.1]) b4
 have i1:bH es m.1:=by simpa using j
 refine(lI w4 x es (h3.on b4) m.2).mono ?_;rintro e w6 ⟨rfl,b6⟩;have b36:=ae b4 b6;refine⟨_,rfl,ac.mk (fun j=>?_) fun j=>?_⟩
 ·have j:¬bH es m.2:=by simpa using j
  exact o 4 w6 (by rw [cq,if_pos fun h=>j h.2]) b36
 have i2:bH es m.2:=by simpa using j
 intro w8 hw8;have A:ZH X w8:=by subst hw8;exact b36.drew
 have h8:=h3.on A;have N:=aj A l0;have l18:=aj A l1;obtain⟨x1,hx1,e1⟩:=ee i1;obtain⟨x2,hx2,e2⟩:=ee i2;have z:∀(i:Nat) (y:aX),es[i]? =some y→(es.map (·.1))[i]? =some y.1:=fun i y hy=>by rw [List.getElem?_map,hy];rfl
 obtain⟨a1,ha1,_,hc1⟩:=h8.r1 _ _ (z _ _ hx1);obtain⟨a2,ha2,_,hc2⟩:=h8.r1 _ _ (z _ _ hx2);have c1:=hc1 0 _ rfl;have c2:=hc2 0 _ rfl;rw [aC]at c1 c2;have:=i1.1;have:=i1.2;have:=i2.1;have:=i2.2;have s1:=hok.short x1 (List.mem_of_getElem? hx1);have s2:=hok.short x2 (List.mem_of_getElem? hx2);refine⟨_,_,_,ai _ _ N 0,m.1,ai _ _ l18 0,ag.mk a1 ha1 ⟨by omega,by omega,str x1.1,c1,_,_,_,ai _ _ N 0,m.2,ai _ _ l18 1,ag.mk a2 ha2 ⟨by omega,by omega,str x2.1,c2,?_⟩⟩⟩;have hj:str x1.1++str x2.1=str (cn es m):=by rw [nk,cn,e1,e2]
 have hjl:(cn es m).length=x1.1.length+x2.1.length:=by rw [cn,e1,e2,List.length_append]
 try dsimp only
 rw [hj];refine⟨by rw [aP,aP];show _≤(9223372036854775807:Int);omega,ac.mk (fun j=>?_) fun j=>?_⟩
 ·have j:=XQ j;rw [aP]at j;exact o 3 w8 (by rw [cq,if_neg (Classical.not_not.2 ⟨i1,i2⟩),if_pos (by omega)]) A
 have hs:=XX j;rw [aP]at hs;have hs:¬64< (cn es m).length:=by omega
 refine⟨_,_,_,ai _ _ N 0,ac.mk (fun j=>?_) fun j=>⟨_,_,_,_,_,_,gj N,?_⟩⟩
 ·have j:=XQ j;exact o 5 w8 (by rw [cq,if_neg (Classical.not_not.2 ⟨i1,i2⟩),if_neg hs,if_pos (by omega)]) A
 have j:=XX j;have d:¬1000≤es.length:=by omega
 refine(xc w8 x es h8 (by omega) (cn es m)).mono ?_;rintro e a ⟨rfl,T⟩;have g:=ae A T;refine⟨_,rfl,ac.mk (fun V=>?_) fun V=>?_⟩
 ·have V:=(vJ es _).1 (XQ V);exact o 10 a (by rw [cq,if_neg (Classical.not_not.2 ⟨i1,i2⟩),if_neg hs,if_neg d,if_pos V]) g
 have hnew:cn es m∉es.map (·.1):=fun hm=>XX V ((vJ es _).2 hm);have hadd:cq es m= .ok (cn es m,m):=by rw [cq,if_neg (Classical.not_not.2 ⟨i1,i2⟩),if_neg hs,if_neg d,if_neg hnew]
 have W:=h8.on T;have l011:=aj T N;have l111:=aj T l18;have l211:=aj g l2;have hz11:=g.size;obtain⟨A1,C1,w13,hr13,o13,U⟩:=xS (enc:=cz) (sz:=1) (fun _=>rfl) (by decide) (fun y u hu=>by rw [List.mem_singleton.1 hu];rfl) eH dN jc jk rfl a x.b (es.map (·.1)) W.k1 W.r1 (by rw [W.n1];simp) (by omega) (by omega);have h13:=W.on U;have hmlen:(au es).length≤1000:=by have:=cE hok;omega
 have hn2:=h.n2;obtain⟨A2,C2,w14,hr14,o14,b14⟩:=xS (enc:=be) (sz:=2) (fun _=>rfl) (by decide) (fun y=>cK _ _) 33 mw vS wk rfl w13 x.m (au es) h13.k2 h13.r2 h13.n2 (by omega) (by omega);refine⟨_,_,_,ai _ _ l011 0,A1,x.b.n,C1,w13,hr13,_,_,_,ai _ _ (aj U l011) 1,A2,x.m.n,C2,w14,hr14,?_⟩;intro q H;have E:ZH a q:=by subst H;exact(ae U b14).drew
 have R:q.ownsRow a.heap.size dN 1 (.slice A1 x.b.n C1) x.b.n ((es.map (·.1)).flatMap cz):=by subst H;exact eA (aE o13 b14)
 have D:q.ownsRow a.heap.size mw 2 (.slice A2 x.m.n C2) x.m.n ((au es).flatMap be):=by subst H;exact aS (eA o14) U.size
 have l:∀ {f:World},ZH a f→f.heap[w1.heap.size]? =some (.cells #[.int .i64 m.1,.int .i64 m.2] mw (0,0)):=fun hb=>Below.keeps hb (by omega) l111;have fin:∀(f:World) (S P:Sl),f.ownsRow a.heap.size dN 1 S.v S.n (((es.map (·.1))++ [cn es m]).flatMap cz)→f.ownsRow a.heap.size mw 2 P.v P.n ((au es++ [m]).flatMap be)→ZH a f→
   aI f (nb Q) (fun Y=>
   ∃res0A:Option Addr,∃res0N:Nat,∃res0C:Nat,∃res1A:Option Addr,∃res1N:Nat,∃res1C:Nat,(Y.cell? (nb Q)=some (Value.slice res0A res0N res0C)∧Y.cell? ((nb Q).add 1)=some (Value.slice res1A res1N res1C)∧True)∧
   oo w x es m (Value.tuple #[Value.agg #[Value.slice res0A res0N res0C,Value.slice res1A res1N res1C],Value.int .i64 0]) Y) [Value.slice S.a S.n S.c,Value.slice P.a P.n P.c] 0:=by
  intro f S P hS hP B;refine bo (Below.keeps B (by omega) l211) [S.v,P.v] rfl (bX _ _) ?_;intro Y h5 hs5 hz5 hB5;have S5:=aN hS fun k d=>hs5 k fun e=>by have:=(bL hS k d).1;omega
  have P5:=aN hP fun k d=>hs5 k fun e=>by have:=(bL hP k d).1;omega
  obtain⟨rS,nS⟩:=Rw.of_own S5 (fun _=>rfl) (by decide);obtain⟨rP,nP⟩:=Rw.of_own P5 (fun _=>rfl) (by decide);have z:(es++ [(cn es m,m)]).map (·.1)=es.map (·.1)++ [cn es m]:=by simp
  have hmer:au (es++ [(cn es m,m)])=au es++ [m]:=by
   simp [au,List.drop_append_of_le_length hok.len]
  refine⟨_,_,_,_,_,_,gj h5,⟨S,P⟩,0,rfl,hB5 _ _ (by omega) ((c.trans (g.mono c.size)).trans (B.mono (by omega))),?_⟩;rw [hadd];refine⟨rfl,⟨by rw [nS];simp,by rw [z];exact rS,lD S5,by rw [nP,hmer],by rw [hmer];exact rP,lD P5⟩,⟨fun p hp=>XW (c.trans (g.mono c.size)).size (iz S5 p hp),fun p hp=>XW (c.trans (g.mono c.size)).size (iz P5 p hp)⟩,Wr.of_own (aS P5 (c.trans (g.mono c.size)).size) (by decide)⟩
 have v:∀ {f:World} {b:Nat},f.ownsRow a.heap.size dN 1 (.slice A1 x.b.n C1) x.b.n ((es.map (·.1)).flatMap cz)→f.heap[b]? =some (.cells #[Value.string (str (cn es m))] dN (0,0))→ZH a f→_:=fun {f} {b} V h2 h3=>
  oJ (enc:=cz) (sz:=1) (fun _=>rfl) (by decide) (fun y u hu=>by rw [List.mem_singleton.1 hu];rfl) eH dN jc jk rfl (s:=⟨A1,x.b.n,C1⟩) V (cn es m) h2 h3.size (by show(x.b.n+1)*16≤_;omega) (by show x.b.n+1≤_;omega)
 have t:∀ {f:World} {b:Nat},f.ownsRow a.heap.size mw 2 (.slice A2 x.m.n C2) x.m.n ((au es).flatMap be)→f.heap[b]? =some (.cells #[Value.int .i64 m.1,Value.int .i64 m.2] mw (0,0))→ZH a f→_:=fun {f} {b} V h2 h3=>
  oJ (enc:=be) (sz:=2) (fun _=>rfl) (by decide) (fun y=>cK _ _) 33 mw vS wk rfl (s:=⟨A2,x.m.n,C2⟩) V m h2 h3.size (by show(x.m.n+1)*16≤_;omega) (by show x.m.n+1≤_;omega)
 refine⟨m.1,m.2,gj (l E),?_,?_⟩
 ·intro C I;have F:ZH a C:=by subst I;exact E.alloc E.size _
  have r:ZH q C:=by subst I;exact ah _ _
  have s16:C.heap[q.heap.size]? =some (.cells #[Value.string (str (cn es m))] dN (0,0)):=by subst I;exact aq _ _
  refine⟨gj (l F),?_,?_⟩
  ·obtain⟨Z,C3,w17,hr17,o17,b17,k17⟩:=v (aE R r) s16 F;have G:=b17 _ F;refine⟨Z,_,C3,w17,hr17,gj (l G),?_⟩;intro w18 J;have c18:ZH w17 w18:=by subst J;exact ah _ _
   have b18:ZH a w18:=by subst J;exact G.alloc G.size _
   have m18:w18.heap[w17.heap.size]? =some (.cells #[Value.int .i64 m.1,Value.int .i64 m.2] mw (0,0)):=by subst J;exact aq _ _
   have P17:=aN (aE D r) fun k d=>k17 k (bL (aE D r) k d).2 (cj (aE D r) (aE R r) (by decide) k d);obtain⟨A4,C4,w19,hr19,o19,b19,k19⟩:=t (aE P17 c18) m18 b18;refine⟨A4,_,C4,w19,hr19,?_⟩;have S18:=aE o17 c18;exact fin w19 ⟨Z,x.b.n+1,C3⟩ ⟨A4,x.m.n+1,C4⟩ (aN S18 fun k d=>k19 k (bL S18 k d).2 (cj S18 (aE P17 c18) (by decide) k d)) o19 (b19 _ b18)
  ·intro w21 K;have c21:ZH C w21:=by subst K;exact ah _ _
   have b21:ZH a w21:=by subst K;exact F.alloc F.size _
   have m21:w21.heap[C.heap.size]? =some (.cells #[Value.int .i64 m.1,Value.int .i64 m.2] mw (0,0)):=by subst K;exact aq _ _
   have S21:=aE (aE R r) c21;have P21:=aE (aE D r) c21;obtain⟨Z,C3,w22,hr22,o22,b22,k22⟩:=v S21 (aj c21 s16) b21;have P22:=aN P21 fun k d=>k22 k (bL P21 k d).2 (cj P21 S21 (by decide) k d);have m22:w22.heap[C.heap.size]? =some (.cells #[Value.int .i64 m.1,Value.int .i64 m.2] mw (0,0)):=by
    rw [k22 _ (XY.1 m21).1 (az S21 m21 (by decide))];exact m21
   obtain⟨A4,C4,w23,hr23,o23,b23,k23⟩:=t P22 m22 (b22 _ b21);exact⟨Z,_,C3,w22,hr22,A4,_,C4,w23,hr23,fin w23 ⟨Z,x.b.n+1,C3⟩ ⟨A4,x.m.n+1,C4⟩ (aN o22 fun k d=>k23 k (bL o22 k d).2 (cj o22 P22 (by decide) k d)) o23 (b23 _ (b22 _ b21))⟩
 ·intro O L w26 M;have c25:ZH q O:=by subst L;exact ah _ _
  have b25:ZH a O:=by subst L;exact E.alloc E.size _
  have m25:O.heap[q.heap.size]? =some (.cells #[Value.int .i64 m.1,Value.int .i64 m.2] mw (0,0)):=by subst L;exact aq _ _
  have c26:ZH O w26:=by subst M;exact ah _ _
  have b26:ZH a w26:=by subst M;exact b25.alloc b25.size _
  have s26:w26.heap[O.heap.size]? =some (.cells #[Value.string (str (cn es m))] dN (0,0)):=by subst M;exact aq _ _
  have S26:=aE (aE R c25) c26;have P26:=aE (aE D c25) c26;have m26:=aj c26 m25;obtain⟨Z,C3,w27,hr27,o27,b27,k27⟩:=v S26 s26 b26;have P27:=aN P26 fun k d=>k27 k (bL P26 k d).2 (cj P26 S26 (by decide) k d);have m27:w27.heap[q.heap.size]? =some (.cells #[Value.int .i64 m.1,Value.int .i64 m.2] mw (0,0)):=by
   rw [k27 _ (XY.1 m26).1 (az S26 m26 (by decide))];exact m26
  obtain⟨A4,C4,w28,hr28,o28,b28,k28⟩:=t P27 m27 (b27 _ b26);exact⟨Z,_,C3,w27,hr27,A4,_,C4,w28,hr28,fin w28 ⟨Z,x.b.n+1,C3⟩ ⟨A4,x.m.n+1,C4⟩ (aN o27 fun k d=>k28 k (bL o27 k d).2 (cj o27 P27 (by decide) k d)) o28 (b28 _ (b27 _ b26))⟩
theorem qP (w:World) (x:lK) (es:List aX) (h:gI w x es) (hok:fo es) (m:Int×Int):CP 158 #[x.v,.agg #[.int .i64 m.1,.int .i64 m.2]] w fun e w'=>∃u,e= .returned u∧L4 w x es m u w':=by
 refine(oP w x es h hok m).mono fun e w' ⟨u,c,f,n,d,b,a⟩=>⟨u,c,f,n,d,b,?_⟩;cases hx:cq es m with
 |error n0=>rw [hx]at a;exact a
 |ok y=>rw [hx]at a;exact⟨a.1,a.2.1,a.2.2.1⟩
theorem qA (a b:Sl):∀v∈(#[a.v,b.v]:Array Value),¬mJ v:=by
 intro v c;have c:v=a.v∨v=b.v:=by simpa using c
 rcases c with rfl |rfl<;>(rintro(⟨k,n,h⟩ |⟨s,h⟩)<;>cases h)
theorem gI.past {w w':World} {x:lK} {es:List aX} {b:Nat} {p q:Sl} {T:TypeId} {fz:Nat×Nat} (h:gI w x es) (hb:w.heap[b]? =some (.cells #[p.v,q.v] T fz)) (hne:∀j,j<w.heap.size→j≠b→w'.heap[j]? =w.heap[j]?) (hs:w.heap.size≤w'.heap.size):gI w' x es:=
 ⟨h.n1,h.r1.past (fun y=>⟨_,rfl,.inr ⟨_,rfl⟩⟩) hb (qA p q) hne hs,h.k1,h.n2,h.r2.past (fun y=>⟨_,rfl,.inl ⟨_,_,rfl⟩⟩) hb (qA p q) hne hs,h.k2⟩
def Ca (w:World) (ms:List (Int×Int)) (u:Value) (w':World):Prop:=∃(x:lK) (n e:Int),u= .tuple #[x.v,.int .i64 n,.int .i64 e]∧ZH w w'∧(match cI bU 0 ms with
 | .error q=>n=q.1∧e=q.2
 | .ok es=>n=ms.length∧e=0∧gI w' x es∧fo es∧kH w.heap.size x)
theorem zw (w:World) (A:Option Addr) (C:Nat) (ms:List (Int×Int)) (hr:Rw be 2 w A ms) (hl:ms.length≤1000000):CP 141 #[.slice A ms.length C] w fun e w'=>∃u,e= .returned u∧Ca w ms u w':=by
 refine Dm A ms.length C w (Ca w ms) ?_;intro w1 a2;have W:ZH w w1:=by subst a2;exact ah _ _
 have z1:w1.heap[w.heap.size]? =some (.cells #[(⟨none,0,0⟩:Sl).v,(⟨none,0,0⟩:Sl).v] wY (0,0)):=by subst a2;exact aq _ _
 refine(mQ w1).mono ?_;rintro e t ⟨x0,rfl,h2,b2,f2⟩;have z2:=aj b2 z1;have hlt2:w.heap.size<t.heap.size:=(XY.1 z2).1;refine⟨_,_,_,_,_,_,rfl,?_⟩;intro w3 hw3;refine bg [.slice none 0 0,.slice none 0 0] [x0.b.v,x0.m.v] rfl (bX _ _) w3 hw3 ?_;intro w4 h4 hz4 b4;have X:ZH w w4:=ae W (ae b2 b4);intro I hI;have key:=aZ (α:=Int×Int×World) ms.length (fun i y=>∃(x:lK) (c:List aX),y.2.2.heap[t.heap.size]? =some (.cells #[x.b.v,x.m.v] wY (0,0))∧y.2.2.heap[w.heap.size]? =some (.cells #[(⟨none,0,0⟩:Sl).v,(⟨none,0,0⟩:Sl).v] wY (0,0))∧gI y.2.2 x c∧fo c∧cI bU 0 ms=cI c i (ms.drop i)∧ZH w y.2.2∧kH w.heap.size x) (fun i y=>I [.int .i64 (i:Int),.int .i64 y.1,.int .i64 y.2.1] y.2.2) (0,0,w4) ⟨x0,bU,h4,aj b4 z2,h2.on b4,pE,by rw [List.drop_zero],X,f2.mono W.size⟩ ?_ ?_
 ·exact key
 ·rintro i hi ih ⟨y4,y3,F⟩ ⟨x,c,O,M,z,o,v,l,f5⟩;change F.heap[t.heap.size]? =_ at O;change F.heap[w.heap.size]? =_ at M;change gI F x c at z;change ZH w F at l;have m:ms.drop i=ms[i]::ms.drop (i+1):=List.drop_eq_getElem_cons hi;refine hI _ _ _ _ (ac.yes (by simp;omega) ?_);intro L hw6;have b6:ZH F L:=by subst hw6;exact aU F
  have P:=aj b6 O;have z6:=aj b6 M;have a3:=z.on b6;have b:ZH w L:=l.trans (b6.mono l.size);obtain⟨q,hq,_,hc⟩:=(hr.on b) i _ (XK hi);have c0:=hc 0 _ rfl;rw [aC]at c0;have hlt6:t.heap.size<L.heap.size:=(XY.1 P).1;have J:∀(s:Nat) (g:World) (a:lK) (n:Int),s≠t.heap.size→g.heap[s]? =some (.cells #[a.b.v,a.m.v] wY (0,0))→g.heap[t.heap.size]? =some (.cells #[x.b.v,x.m.v] wY (0,0))→g.heap[w.heap.size]? =some (.cells #[(⟨none,0,0⟩:Sl).v,(⟨none,0,0⟩:Sl).v] wY (0,0))→ZH w g→(match cq c ms[i]with
    | .error n0=>n=n0∧a=x
    | .ok y=>n=0∧gI g a (c++ [y])∧kH w.heap.size a)→
    ac ((n:Int) != 0)
     (∃g0A:Option Addr,∃g0N:Nat,∃g0C:Nat,∃g1A:Option Addr,∃g1N:Nat,∃g1C:Nat,(g.cell? (nb t)=some (Value.slice g0A g0N g0C)∧g.cell? ((nb t).add 1)=some (Value.slice g1A g1N g1C)∧True)∧
      aI g (nb w) (fun B=>
      ∃res0A:Option Addr,∃res0N:Nat,∃res0C:Nat,∃res1A:Option Addr,∃res1N:Nat,∃res1C:Nat,(B.cell? (nb w)=some (Value.slice res0A res0N res0C)∧B.cell? ((nb w).add 1)=some (Value.slice res1A res1N res1C)∧True)∧
      Ca w ms (Value.tuple #[Value.agg #[Value.slice res0A res0N res0C,Value.slice res1A res1N res1C],Value.int .i64 (i:Int),Value.int .i64 n]) B) [Value.slice g0A g0N g0C,Value.slice g1A g1N g1C] 0)
     (∃g0A:Option Addr,∃g0N:Nat,∃g0C:Nat,∃g1A:Option Addr,∃g1N:Nat,∃g1C:Nat,(g.cell? ⟨s,0,none⟩=some (Value.slice g0A g0N g0C)∧g.cell? ((⟨s,0,none⟩:Addr).add 1)=some (Value.slice g1A g1N g1C)∧True)∧
      aI g (nb t) (fun D=>
      Ar .i64 ((i:Int)+1) (fun n=>
      I [Value.int .i64 n,Value.int .i64 y4,Value.int .i64 y3] D)) [Value.slice g0A g0N g0C,Value.slice g1A g1N g1C] 0):=by
   intro s g a n hloc hl K V U hm;cases hx:cq c ms[i]with
   |error n0=>
    rw [hx]at hm;obtain⟨rfl,rfl⟩:=hm;refine ac.yes (by simpa using gB hx) ⟨_,_,_,_,_,_,gj K,?_⟩;refine bo V [a.b.v,a.m.v] rfl (bX _ _) ?_;intro B h10 hs10 hz10 Q;refine⟨_,_,_,_,_,_,gj h10,a,_,_,rfl,Q _ _ (XV _) U,?_⟩;rw [v,m,cI,hx];exact⟨rfl,rfl⟩
   |ok y=>
    rw [hx]at hm;obtain⟨rfl,hx',fx⟩:=hm;refine ac.no rfl ⟨_,_,_,_,_,_,gj hl,?_⟩;refine bo K [a.b.v,a.m.v] rfl (bX _ _) ?_;intro D h11 G a4 R;refine Ar.ok64 (by omega) (by omega) (ih (y4,y3,D) ⟨a,c++ [y],h11,?_,hx'.past K (fun j _ Z=>G j Z) (Nat.le_of_eq a4.symm),(lW o hx).1,?_,R _ _ (by omega) U,fx⟩)
    ·show D.heap[w.heap.size]? =_;rw [G _ (by omega)];exact V
    ·rw [v,m,cI,hx]
  refine⟨_,_,_,_,_,_,gj P,ag.mk q hq ⟨by omega,by omega,_,_,⟨c0,hc 1 _ rfl,trivial⟩,?_,?_⟩⟩
  ·refine(qP L x c a3 o ms[i]).mono ?_;rintro e w7 ⟨u,rfl,a,n,rfl,b7,f⟩;refine⟨_,_,_,_,_,_,n,rfl,?_⟩;intro w8 hw8;refine bg [.slice none 0 0,.slice none 0 0] [a.b.v,a.m.v] rfl (bX _ _) w8 hw8 ?_;intro w9 h9 hz9 b9;have hz7:=b7.size;refine J w7.heap.size w9 a n (by omega) h9 (aj b9 (aj b7 P)) (aj b9 (aj b7 z6)) ((b.trans (b7.mono b.size)).trans (b9.mono (XW b.size hz7))) ?_;cases hx:cq c ms[i]with
   |error n0=>rw [hx]at f;exact f
   |ok y=>rw [hx]at f;exact⟨f.1,f.2.1.on b9,f.2.2.mono b.size⟩
  ·intro E H;have h:ZH L E:=by subst H;exact ah _ _
   have a7:E.heap[L.heap.size]? =some (.cells #[Value.slice none 0 0,Value.slice none 0 0] wY (0,0)):=by subst H;exact aq _ _
   have d:ZH w E:=b.trans (h.mono b.size);obtain⟨q',a0,_,Y⟩:=(hr.on d) i _ (XK hi);have hqq:q'=q:=by rw [hq]at a0;exact(Option.some.inj a0).symm
   subst hqq;have N:=Y 0 _ rfl;rw [aC]at N;refine⟨⟨N,Y 1 _ rfl,trivial⟩,gj (aj h P),?_⟩;refine(qP E x c (a3.on h) o ms[i]).mono ?_;rintro e w13 ⟨u,rfl,a,n,rfl,k,f⟩;refine⟨_,_,_,_,_,_,n,rfl,?_⟩;refine bo (aj k a7) [a.b.v,a.m.v] rfl (bX _ _) ?_;intro w14 h14 r a5 S;refine J L.heap.size w14 a n (by omega) h14 (by rw [r _ (by omega)];exact aj k (aj h P)) (by rw [r _ (by omega)];exact aj k (aj h z6)) (S _ _ (by omega) (d.trans (k.mono d.size))) ?_;cases hx:cq c ms[i]with
   |error n0=>rw [hx]at f;exact f
   |ok y=>rw [hx]at f;exact⟨f.1,f.2.1.past (p:=⟨none,0,0⟩) (q:=⟨none,0,0⟩) (aj k a7) (fun j _ Z=>r j Z) (Nat.le_of_eq a5.symm),f.2.2.mono d.size⟩
 ·rintro⟨y4,y3,F⟩ ⟨x,c,O,M,z,o,v,l,f5⟩;change F.heap[t.heap.size]? =_ at O;change F.heap[w.heap.size]? =_ at M;refine hI _ _ _ _ (ac.no (by simp) ⟨_,_,_,_,_,_,gj O,?_⟩);refine bo M [x.b.v,x.m.v] rfl (bX _ _) ?_;intro w17 h17 a1 a6 T;refine⟨_,_,_,_,_,_,gj h17,x,_,_,rfl,T _ _ (XV _) l,?_⟩;rw [v,List.drop_length,cI];exact⟨rfl,rfl,z.past M (fun j _ Z=>a1 j Z) (Nat.le_of_eq a6.symm),o,f5⟩
end Go.Proofs.YtijbcdiffjjefaaGreatDoor.Eng
