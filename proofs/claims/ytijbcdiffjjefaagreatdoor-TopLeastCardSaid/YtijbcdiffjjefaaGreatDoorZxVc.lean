/- What these functions owe, printed by a program of this repo out of the translation. -/
import Derived.Test.YtijbcdiffjjefaaGreatDoorZxTab
set_option linter.unusedVariables false
set_option maxRecDepth 100000
namespace Go.Proofs.YtijbcdiffjjefaaGreatDoor.Eng
open Go Go.Value
def QJ (a b:OA) (c d:Nat) (w:World) (R:RW):Prop:=
 CP 24 #[pointer a,iface 144 (agg #[pointer a]),slice b c d] w (fun f g=>
 ∃h i,f= .returned (tuple #[int .i64 h,int .i64 i])∧
 R (tuple #[int .i64 h,int .i64 i]) g)
theorem Cm (a b:OA) (c d:Nat) (w:World) (R:RW) (hh:QJ a b c d w R):CR 22 #[pointer a,slice b c d] w R:=
 az (fn:=Tryz.f22) (by kernel_rfl) (by kernel_rfl) (by kernel_rfl) (by kernel_rfl) (by kernel_rfl) hh
def Qs (a:OA) (b:Value) (c:OA) (d f:Nat) (w:World) (R:RW):Prop:=
 CP 78 #[pointer a,slice c d f] w (fun h i=>
 ∃j k,h= .returned (tuple #[int .i64 j,int .i64 k])∧
 ac (k != 0)
 (R (tuple #[int .i64 j,int .i64 k]) i)
 (∃l m,(do eqGuard .eql 147 (.tmp 20) (.const (Value.nilIface)) b Value.nilIface;binOp .eql 147 b Value.nilIface).run Tryz.prog i= .ok (bool l) m∧
 ac l
 (R (tuple #[int .i64 0,int .i64 1]) m)
 (∃g as_,(callMethod b "First" #[slice c d f]).run Tryz.prog m= .ok (.enter g as_) m∧CP g as_ m (fun n o=>
 ∃p q,n= .returned (tuple #[int .i64 p,bool q])∧
 CP 79 #[int .i64 p,bool q] o (fun r s=>
 ∃t,r= .returned (int .i64 t)∧
 R (tuple #[int .i64 t,int .i64 0]) s)))))
theorem Du (a:OA) (b:Value) (c:OA) (d f:Nat) (w:World) (R:RW) (hh:Qs a b c d f w R):CR 24 #[pointer a,b,slice c d f] w R:=
 az (fn:=Tryz.f24) (by kernel_rfl) (by kernel_rfl) (by kernel_rfl) (by kernel_rfl) (by kernel_rfl) hh
def Rb (a:Bool) (b:OA) (c d:Nat) (f:OA) (g h:Nat) (i:OA) (j k:Nat) (l:OA) (m n:Nat) (o:OA) (p q:Nat) (w:World) (R:RW):Prop:=
 ∀r,r=w.alloc (.cells #[bool a,slice b c d,slice f g h,slice i j k,slice l m n,slice o p q] 71)→
 ∃s t u x y z a1 b1 c1 d1 e1 f1 g1 h1 i1 j1,(r.cell? (nb w)=some (bool s)∧r.cell? ((nb w).add 1)=some (slice t u x)∧r.cell? ((nb w).add 2)=some (slice y z a1)∧r.cell? ((nb w).add 3)=some (slice b1 c1 d1)∧r.cell? ((nb w).add 4)=some (slice e1 f1 g1)∧r.cell? ((nb w).add 5)=some (slice h1 i1 j1)∧True)∧
 CP 101 #[agg #[bool s,slice t u x,slice y z a1,slice b1 c1 d1,slice e1 f1 g1,slice h1 i1 j1]] r (fun k1 l1=>
 ∃m1,k1= .returned (bool m1)∧
 ac (!m1)
 (R (tuple #[pointer none,int .i64 0,int .i64 1]) l1)
 (∃n1 o1 p1 q1 r1 s1 t1 u1 v1 x1 y1 z1 a2 b2 c2 d2,(l1.cell? (nb w)=some (bool n1)∧l1.cell? ((nb w).add 1)=some (slice o1 p1 q1)∧l1.cell? ((nb w).add 2)=some (slice r1 s1 t1)∧l1.cell? ((nb w).add 3)=some (slice u1 v1 x1)∧l1.cell? ((nb w).add 4)=some (slice y1 z1 a2)∧l1.cell? ((nb w).add 5)=some (slice b2 c2 d2)∧True)∧
 CP 91 #[agg #[bool n1,slice o1 p1 q1,slice r1 s1 t1,slice u1 v1 x1,slice y1 z1 a2,slice b2 c2 d2]] l1 (fun e2 f2=>
 ∃g2 h2 i2 j2,e2= .returned (tuple #[pointer g2,int .i64 h2,int .i64 i2,int .i64 j2])∧
 R (tuple #[pointer g2,int .i64 i2,int .i64 j2]) f2)))
theorem CT (a:Bool) (b:OA) (c d:Nat) (f:OA) (g h:Nat) (i:OA) (j k:Nat) (l:OA) (m n:Nat) (o:OA) (p q:Nat) (w:World) (R:RW) (hh:Rb a b c d f g h i j k l m n o p q w R):CR 37 #[agg #[bool a,slice b c d,slice f g h,slice i j k,slice l m n,slice o p q]] w R:=
 az (fn:=Tryz.f37) (by kernel_rfl) (by kernel_rfl) (by kernel_rfl) (by kernel_rfl) (by kernel_rfl) hh
def Ra (a:OA) (b:Int) (w:World) (R:RW):Prop:=
 ac (Option.isNone a)
 (R (bool false) w)
 (af a (fun c=>
 CP 105 #[pointer (some (c.add 13)),int .i64 1] w (fun d f=>
 ∃g,d= .returned (int .i64 g)∧
 af a (fun h=>
 ∃i,f.cell? ((h.add 0).add 8)=some (pointer i)∧
 CP 106 #[pointer i,int .i64 b] f (fun j k=>
 ∃l m,j= .returned (tuple #[int .i64 l,bool m])∧
 ac m
 (R (bool true) k)
 (af a (fun n=>
 CP 107 #[pointer (some ((n.add 9).add 0)),func (.func 108) #[pointer a] #[]] k (fun o p=>
 o= .returned (tuple #[])∧
 ac (decide (b≥0))
 (af a (fun q=>
 ∃r s t,p.cell? ((q.add 9).add 3)=some (slice r s t)∧
 ac (decide (b< (s:Int)))
 (af a (fun u=>
 ∃x y z,p.cell? ((u.add 9).add 3)=some (slice x y z)∧
 af x (fun a1=>
 (0:Int)≤b∧b< (y:Int)∧
 ∃b1,p.cell? (a1.add (b.toNat*1))=some (bool b1)∧
 R (bool b1) p)))
 (R (bool false) p)))
 (R (bool false) p)))))))))
theorem Dz (a:OA) (b:Int) (w:World) (R:RW) (hh:Ra a b w R):CR 43 #[pointer a,int .i64 b] w R:=
 az (fn:=Tryz.f43) (by kernel_rfl) (by kernel_rfl) (by kernel_rfl) (by kernel_rfl) (by kernel_rfl) hh
def Qp (a:OA) (b:Int) (w:World) (R:RW):Prop:=
 CP 56 #[pointer a] w (fun c d=>
 ∃f,c= .returned (pointer f)∧
 CP 106 #[pointer f,int .i64 b] d (fun g h=>
 ∃i j,g= .returned (tuple #[int .i64 i,bool j])∧
 ac j
 (R (bool true) h)
 (ac (decide (b≥0))
 (CP 50 #[pointer a] h (fun k l=>
 ∃m,k= .returned (int .i64 m)∧
 R (bool (decide (b<m))) l))
 (R (bool false) h))))
theorem CI (a:OA) (b:Int) (w:World) (R:RW) (hh:Qp a b w R):CR 49 #[pointer a,int .i64 b] w R:=
 az (fn:=Tryz.f49) (by kernel_rfl) (by kernel_rfl) (by kernel_rfl) (by kernel_rfl) (by kernel_rfl) hh
def QV (a:OA) (w:World) (R:RW):Prop:=
 CP 54 #[pointer a] w (fun b c=>
 ∃d,b= .returned (pointer d)∧
 CP 116 #[pointer d] c (fun f g=>
 ∃h,f= .returned (int .i64 h)∧
 R (int .i64 h) g))
theorem Er (a:OA) (w:World) (R:RW) (hh:QV a w R):CR 50 #[pointer a] w R:=
 az (fn:=Tryz.f50) (by kernel_rfl) (by kernel_rfl) (by kernel_rfl) (by kernel_rfl) (by kernel_rfl) hh
def QC (a:OA) (w:World) (R:RW):Prop:=
 ac (Option.isNone a)
 (R (pointer none) w)
 (af a (fun b=>
 ∃c,w.cell? ((b.add 0).add 6)=some (pointer c)∧
 R (pointer c) w))
theorem DB (a:OA) (w:World) (R:RW) (hh:QC a w R):CR 54 #[pointer a] w R:=
 az (fn:=Tryz.f54) (by kernel_rfl) (by kernel_rfl) (by kernel_rfl) (by kernel_rfl) (by kernel_rfl) hh
def QW (a:OA) (w:World) (R:RW):Prop:=
 ac (Option.isNone a)
 (R (pointer none) w)
 (af a (fun b=>
 ∃c,w.cell? ((b.add 0).add 7)=some (pointer c)∧
 R (pointer c) w))
theorem EC (a:OA) (w:World) (R:RW) (hh:QW a w R):CR 55 #[pointer a] w R:=
 az (fn:=Tryz.f55) (by kernel_rfl) (by kernel_rfl) (by kernel_rfl) (by kernel_rfl) (by kernel_rfl) hh
def QK (a:OA) (w:World) (R:RW):Prop:=
 ac (Option.isNone a)
 (R (pointer none) w)
 (af a (fun b=>
 ∃c,w.cell? ((b.add 0).add 8)=some (pointer c)∧
 R (pointer c) w))
theorem Dc (a:OA) (w:World) (R:RW) (hh:QK a w R):CR 56 #[pointer a] w R:=
 az (fn:=Tryz.f56) (by kernel_rfl) (by kernel_rfl) (by kernel_rfl) (by kernel_rfl) (by kernel_rfl) hh
def QD (a b:OA) (c d:Nat) (w:World) (R:RW):Prop:=
 ∀f,f=w.alloc (.cells #[pointer a] 31)→
 ∃g,f.cell? (nb w)=some (pointer g)∧
 ac (Option.isNone g)
 (R (tuple #[int .i64 0,int .i64 1]) f)
 (ac (decide ((c:Int)>4000))
 (R (tuple #[int .i64 0,int .i64 3]) f)
 (CP 85 #[slice b c d,func (.func 126) #[] #[pointer (some (nb w))]] f (fun h i=>
 ∃j,h= .returned (int .i64 j)∧
 ac (decide (j≥0))
 (R (tuple #[int .i64 j,int .i64 4]) i)
 (R (tuple #[int .i64 0,int .i64 0]) i))))
theorem CW (a b:OA) (c d:Nat) (w:World) (R:RW) (hh:QD a b c d w R):CR 78 #[pointer a,slice b c d] w R:=
 az (fn:=Tryz.f78) (by kernel_rfl) (by kernel_rfl) (by kernel_rfl) (by kernel_rfl) (by kernel_rfl) hh
def Ql (a:Int) (b:Bool) (w:World) (R:RW):Prop:=
 ac (!b)
 (R (int .i64 (-1)) w)
 (R (int .i64 a) w)
theorem CK (a:Int) (b:Bool) (w:World) (R:RW) (hh:Ql a b w R):CR 79 #[int .i64 a,bool b] w R:=
 az (fn:=Tryz.f79) (by kernel_rfl) (by kernel_rfl) (by kernel_rfl) (by kernel_rfl) (by kernel_rfl) hh
def Qo (a:OA) (b c:Nat) (d:Value) (w:World) (R:RW):Prop:=
 ∀f:KW,(∀(g h:Int) (i:World),(ac (decide (g< (b:Int)))
 (af a (fun j=>
 (0:Int)≤g∧g< (b:Int)∧
 ∃k,i.cell? (j.add (g.toNat*1))=some (int .i64 k)∧
 bE gJ d [int .i64 k] i (fun l m=>
 ∃n,l= .returned (bool n)∧
 ac n
 (R (int .i64 g) m)
 (Ar .i64 (g+1) (fun o=>
 f [int .i64 o,int .i64 h] m)))))
 (R (int .i64 (-1)) i))→f [int .i64 g,int .i64 h] i)→
 f [int .i64 0,int .i64 0] w
theorem Ez (a:OA) (b c:Nat) (d:Value) (w:World) (R:RW) (hh:Qo a b c d w R):CR 85 #[slice a b c,d] w R:=
 az (fn:=Tryz.f85) (by kernel_rfl) (by kernel_rfl) (by kernel_rfl) (by kernel_rfl) (by kernel_rfl) hh
def Qg (a:Bool) (b:OA) (c d:Nat) (f:OA) (g h:Nat) (i:OA) (j k:Nat) (l:OA) (m n:Nat) (o:OA) (p q:Nat) (w:World) (R:RW):Prop:=
 ∀r,r=w.alloc (.cells #[bool a,slice b c d,slice f g h,slice i j k,slice l m n,slice o p q] 71)→
 ∃s t x y z a1 b1 c1 d1 e1 f1 g1 h1 i1 j1 k1,(r.cell? (nb w)=some (bool s)∧r.cell? ((nb w).add 1)=some (slice t x y)∧r.cell? ((nb w).add 2)=some (slice z a1 b1)∧r.cell? ((nb w).add 3)=some (slice c1 d1 e1)∧r.cell? ((nb w).add 4)=some (slice f1 g1 h1)∧r.cell? ((nb w).add 5)=some (slice i1 j1 k1)∧True)∧
 CP 130 #[agg #[bool s,slice t x y,slice z a1 b1,slice c1 d1 e1,slice f1 g1 h1,slice i1 j1 k1]] r (fun l1 m1=>
 ∃n1 o1 p1,l1= .returned (tuple #[pointer n1,int .i64 o1,int .i64 p1])∧
 ∀q1,q1=m1.alloc (.cells #[pointer none] 100)→
 (pointer n1).oneCell'=true∧(∃u,q1.cell? (nb m1)=some u)∧q1.frozen? (nb m1)=false∧
 ∀r1,r1=(q1.setCell (nb m1) (pointer n1))→
 ac (p1 != 0)
 (R (tuple #[pointer none,int .i64 1,int .i64 o1,int .i64 p1]) r1)
 (∃s1 t1 u1,r1.cell? ((nb w).add 3)=some (slice s1 t1 u1)∧
 CP 131 #[slice s1 t1 u1] r1 (fun v1 x1=>
 ∃y1 z1 a2,v1= .returned (tuple #[pointer y1,int .i64 z1,int .i64 a2])∧
 ac (a2 != 0)
 (R (tuple #[pointer none,int .i64 2,int .i64 z1,int .i64 a2]) x1)
 (∃b2 c2 d2,x1.cell? ((nb w).add 3)=some (slice b2 c2 d2)∧
 CP 132 #[slice b2 c2 d2,func (.func 133) #[] #[pointer (some (nb m1))]] x1 (fun e2 f2=>
 ∃g2,e2= .returned (int .i64 g2)∧
 ac (decide (g2≥0))
 (R (tuple #[pointer none,int .i64 2,int .i64 g2,int .i64 4]) f2)
 (∃h2 i2 j2,f2.cell? ((nb w).add 4)=some (slice h2 i2 j2)∧
 ∃k2 l2 m2,f2.cell? ((nb w).add 5)=some (slice k2 l2 m2)∧
 CP 134 #[slice h2 i2 j2,slice k2 l2 m2] f2 (fun n2 o2=>
 ∃p2 q2,n2= .returned (tuple #[pointer p2,int .i64 q2])∧
 ac (q2 != 0)
 (R (tuple #[pointer none,int .i64 0,int .i64 0,int .i64 q2]) o2)
 (∀r2,r2=o2.drew→
 ∃s2 t2 u2 v2 x2 y2 z2 a3 b3 c3 d3 e3 f3 g3 h3 i3,(r2.cell? (nb w)=some (bool s2)∧r2.cell? ((nb w).add 1)=some (slice t2 u2 v2)∧r2.cell? ((nb w).add 2)=some (slice x2 y2 z2)∧r2.cell? ((nb w).add 3)=some (slice a3 b3 c3)∧r2.cell? ((nb w).add 4)=some (slice d3 e3 f3)∧r2.cell? ((nb w).add 5)=some (slice g3 h3 i3)∧True)∧
 ∃j3,r2.cell? (nb m1)=some (pointer j3)∧
 CP 100 #[agg #[bool s2,slice t2 u2 v2,slice x2 y2 z2,slice a3 b3 c3,slice d3 e3 f3,slice g3 h3 i3]] r2 (fun k3 l3=>
 ∃m3 n3 o3 p3 q3 r3 s3 t3 u3 v3 x3 y3 z3 a4 b4 c4,k3= .returned (agg #[bool m3,slice n3 o3 p3,slice q3 r3 s3,slice t3 u3 v3,slice x3 y3 z3,slice a4 b4 c4])∧
 (l3.cell? (nb m1)=some (pointer j3)∧True)∧
 ∀d4,d4=l3.alloc (.cells #[bool m3,slice n3 o3 p3,slice q3 r3 s3,slice t3 u3 v3,slice x3 y3 z3,slice a4 b4 c4,pointer j3,pointer p2,pointer y1,int .u32 0,int .i32 0,int .u32 0,slice none 0 0,int .i64 0] 186)→
 R (tuple #[pointer (some (nb l3)),int .i64 0,int .i64 0,int .i64 0]) d4)))))))))
theorem Dd (a:Bool) (b:OA) (c d:Nat) (f:OA) (g h:Nat) (i:OA) (j k:Nat) (l:OA) (m n:Nat) (o:OA) (p q:Nat) (w:World) (R:RW) (hh:Qg a b c d f g h i j k l m n o p q w R):CR 91 #[agg #[bool a,slice b c d,slice f g h,slice i j k,slice l m n,slice o p q]] w R:=
 az (fn:=Tryz.f91) (by kernel_rfl) (by kernel_rfl) (by kernel_rfl) (by kernel_rfl) (by kernel_rfl) hh
def Nx (a:Bool) (b:OA) (c d:Nat) (f:OA) (g h:Nat) (i:OA) (j k:Nat) (l:OA) (m n:Nat) (o:OA) (p q:Nat) (w:World) (R:RW):Prop:=
 ∀r,r=w.alloc (.cells #[bool a,slice b c d,slice f g h,slice i j k,slice l m n,slice o p q] 71)→
 ∀s,s=r.alloc (.cells #[bool false,slice none 0 0,slice none 0 0,slice none 0 0,slice none 0 0,slice none 0 0] 71)→
 ∀t,t=s.drew→
 ∃x y z,t.cell? ((nb w).add 1)=some (slice x y z)∧
 ∃a1 b1 c1,t.cell? ((nb w).add 2)=some (slice a1 b1 c1)∧
 ∃d1 e1 f1,t.cell? ((nb w).add 3)=some (slice d1 e1 f1)∧
 CP 142 #[slice x y z] t (fun g1 h1=>
 ∃i1 j1 k1,g1= .returned (slice i1 j1 k1)∧
 (h1.cell? ((nb w).add 3)=some (slice d1 e1 f1)∧True)∧
 (h1.cell? ((nb w).add 2)=some (slice a1 b1 c1)∧True)∧
 CP 143 #[slice a1 b1 c1] h1 (fun l1 m1=>
 ∃n1 o1 p1,l1= .returned (slice n1 o1 p1)∧
 (m1.cell? ((nb w).add 3)=some (slice d1 e1 f1)∧True)∧
 CP 144 #[slice d1 e1 f1] m1 (fun q1 r1=>
 ∃s1 t1 u1,q1= .returned (slice s1 t1 u1)∧
 (slice i1 j1 k1).oneCell'=true∧(∃u,r1.cell? ((nb w).add 1)=some u)∧r1.frozen? ((nb w).add 1)=false∧
 ∀v1,v1=(r1.setCell ((nb w).add 1) (slice i1 j1 k1))→
 (slice n1 o1 p1).oneCell'=true∧(∃u,v1.cell? ((nb w).add 2)=some u)∧v1.frozen? ((nb w).add 2)=false∧
 ∀x1,x1=(v1.setCell ((nb w).add 2) (slice n1 o1 p1))→
 (slice s1 t1 u1).oneCell'=true∧(∃u,x1.cell? ((nb w).add 3)=some u)∧x1.frozen? ((nb w).add 3)=false∧
 ∀y1,y1=(x1.setCell ((nb w).add 3) (slice s1 t1 u1))→
 ∀z1,z1=y1.drew→
 ∃a2 b2 c2,z1.cell? ((nb w).add 4)=some (slice a2 b2 c2)∧
 ∃d2 e2 f2,z1.cell? ((nb w).add 5)=some (slice d2 e2 f2)∧
 CP 145 #[slice a2 b2 c2] z1 (fun g2 h2=>
 ∃i2 j2 k2,g2= .returned (slice i2 j2 k2)∧
 (h2.cell? ((nb w).add 5)=some (slice d2 e2 f2)∧True)∧
 CP 146 #[slice d2 e2 f2] h2 (fun l2 m2=>
 ∃n2 o2 p2,l2= .returned (slice n2 o2 p2)∧
 (slice i2 j2 k2).oneCell'=true∧(∃u,m2.cell? ((nb w).add 4)=some u)∧m2.frozen? ((nb w).add 4)=false∧
 ∀q2,q2=(m2.setCell ((nb w).add 4) (slice i2 j2 k2))→
 (slice n2 o2 p2).oneCell'=true∧(∃u,q2.cell? ((nb w).add 5)=some u)∧q2.frozen? ((nb w).add 5)=false∧
 ∀r2,r2=(q2.setCell ((nb w).add 5) (slice n2 o2 p2))→
 ∃s2 t2 u2 v2 x2 y2 z2 a3 b3 c3 d3 e3 f3 g3 h3 i3,(r2.cell? (nb w)=some (bool s2)∧r2.cell? ((nb w).add 1)=some (slice t2 u2 v2)∧r2.cell? ((nb w).add 2)=some (slice x2 y2 z2)∧r2.cell? ((nb w).add 3)=some (slice a3 b3 c3)∧r2.cell? ((nb w).add 4)=some (slice d3 e3 f3)∧r2.cell? ((nb w).add 5)=some (slice g3 h3 i3)∧True)∧
 ax r2 (nb r) (fun j3=>
 ∃k3 l3 m3 n3 o3 p3 q3 r3 s3 t3 u3 v3 x3 y3 z3 a4,(j3.cell? (nb r)=some (bool k3)∧j3.cell? ((nb r).add 1)=some (slice l3 m3 n3)∧j3.cell? ((nb r).add 2)=some (slice o3 p3 q3)∧j3.cell? ((nb r).add 3)=some (slice r3 s3 t3)∧j3.cell? ((nb r).add 4)=some (slice u3 v3 x3)∧j3.cell? ((nb r).add 5)=some (slice y3 z3 a4)∧True)∧
 R (agg #[bool k3,slice l3 m3 n3,slice o3 p3 q3,slice r3 s3 t3,slice u3 v3 x3,slice y3 z3 a4]) j3) [bool s2,slice t2 u2 v2,slice x2 y2 z2,slice a3 b3 c3,slice d3 e3 f3,slice g3 h3 i3] 0)))))
theorem xq (a:Bool) (b:OA) (c d:Nat) (f:OA) (g h:Nat) (i:OA) (j k:Nat) (l:OA) (m n:Nat) (o:OA) (p q:Nat) (w:World) (R:RW) (hh:Nx a b c d f g h i j k l m n o p q w R):CR 100 #[agg #[bool a,slice b c d,slice f g h,slice i j k,slice l m n,slice o p q]] w R:=
 az (fn:=Tryz.f100) (by kernel_rfl) (by kernel_rfl) (by kernel_rfl) (by kernel_rfl) (by kernel_rfl) hh
def PE (a:Bool) (b:OA) (c d:Nat) (f:OA) (g h:Nat) (i:OA) (j k:Nat) (l:OA) (m n:Nat) (o:OA) (p q:Nat) (w:World) (R:RW):Prop:=
 ∀r,r=w.alloc (.cells #[bool a,slice b c d,slice f g h,slice i j k,slice l m n,slice o p q] 71)→
 ∃s,r.cell? ((nb w).add 0)=some (bool s)∧
 ac s
 (∃t u x,r.cell? ((nb w).add 1)=some (slice t u x)∧
 ac (decide ((u:Int)>0))
 (R (bool false) r)
 (∃y,r.cell? ((nb w).add 0)=some (bool y)∧
 ac (!y)
 (∃z a1 b1,r.cell? ((nb w).add 2)=some (slice z a1 b1)∧
 ac (decide ((a1:Int)>0))
 (R (bool false) r)
 (∃c1 d1 e1,r.cell? ((nb w).add 1)=some (slice c1 d1 e1)∧
 CP 147 #[slice c1 d1 e1,int .i64 744,func (.func 148) #[] #[]] r (fun f1 g1=>
 ∃h1,f1= .returned (bool h1)∧
 ac h1
 (∃i1 j1 k1,g1.cell? ((nb w).add 2)=some (slice i1 j1 k1)∧
 CP 149 #[slice i1 j1 k1,int .i64 744,func (.func 150) #[] #[]] g1 (fun l1 m1=>
 ∃n1,l1= .returned (bool n1)∧
 ac n1
 (∃o1 p1 q1,m1.cell? ((nb w).add 3)=some (slice o1 p1 q1)∧
 CP 151 #[slice o1 p1 q1,int .i64 32,func (.func 152) #[] #[]] m1 (fun r1 s1=>
 ∃t1,r1= .returned (bool t1)∧
 ac t1
 (∃u1 v1 x1,s1.cell? ((nb w).add 4)=some (slice u1 v1 x1)∧
 CP 153 #[slice u1 v1 x1,int .i64 64,func (.func 154) #[] #[]] s1 (fun y1 z1=>
 ∃a2,y1= .returned (bool a2)∧
 ac a2
 (∃b2 c2 d2,z1.cell? ((nb w).add 5)=some (slice b2 c2 d2)∧
 CP 155 #[slice b2 c2 d2,int .i64 64,func (.func 156) #[] #[]] z1 (fun e2 f2=>
 ∃g2,e2= .returned (bool g2)∧
 R (bool g2) f2))
 (R (bool false) z1)))
 (R (bool false) s1)))
 (R (bool false) m1)))
 (R (bool false) g1))))
 (∃h2 i2 j2,r.cell? ((nb w).add 1)=some (slice h2 i2 j2)∧
 CP 147 #[slice h2 i2 j2,int .i64 744,func (.func 148) #[] #[]] r (fun k2 l2=>
 ∃m2,k2= .returned (bool m2)∧
 ac m2
 (∃n2 o2 p2,l2.cell? ((nb w).add 2)=some (slice n2 o2 p2)∧
 CP 149 #[slice n2 o2 p2,int .i64 744,func (.func 150) #[] #[]] l2 (fun q2 r2=>
 ∃s2,q2= .returned (bool s2)∧
 ac s2
 (∃t2 u2 v2,r2.cell? ((nb w).add 3)=some (slice t2 u2 v2)∧
 CP 151 #[slice t2 u2 v2,int .i64 32,func (.func 152) #[] #[]] r2 (fun x2 y2=>
 ∃z2,x2= .returned (bool z2)∧
 ac z2
 (∃a3 b3 c3,y2.cell? ((nb w).add 4)=some (slice a3 b3 c3)∧
 CP 153 #[slice a3 b3 c3,int .i64 64,func (.func 154) #[] #[]] y2 (fun d3 e3=>
 ∃f3,d3= .returned (bool f3)∧
 ac f3
 (∃g3 h3 i3,e3.cell? ((nb w).add 5)=some (slice g3 h3 i3)∧
 CP 155 #[slice g3 h3 i3,int .i64 64,func (.func 156) #[] #[]] e3 (fun j3 k3=>
 ∃l3,j3= .returned (bool l3)∧
 R (bool l3) k3))
 (R (bool false) e3)))
 (R (bool false) y2)))
 (R (bool false) r2)))
 (R (bool false) l2)))))
 (∃m3,r.cell? ((nb w).add 0)=some (bool m3)∧
 ac (!m3)
 (∃n3 o3 p3,r.cell? ((nb w).add 2)=some (slice n3 o3 p3)∧
 ac (decide ((o3:Int)>0))
 (R (bool false) r)
 (∃q3 r3 s3,r.cell? ((nb w).add 1)=some (slice q3 r3 s3)∧
 CP 147 #[slice q3 r3 s3,int .i64 744,func (.func 148) #[] #[]] r (fun t3 u3=>
 ∃v3,t3= .returned (bool v3)∧
 ac v3
 (∃x3 y3 z3,u3.cell? ((nb w).add 2)=some (slice x3 y3 z3)∧
 CP 149 #[slice x3 y3 z3,int .i64 744,func (.func 150) #[] #[]] u3 (fun a4 b4=>
 ∃c4,a4= .returned (bool c4)∧
 ac c4
 (∃d4 e4 f4,b4.cell? ((nb w).add 3)=some (slice d4 e4 f4)∧
 CP 151 #[slice d4 e4 f4,int .i64 32,func (.func 152) #[] #[]] b4 (fun g4 h4=>
 ∃i4,g4= .returned (bool i4)∧
 ac i4
 (∃j4 k4 l4,h4.cell? ((nb w).add 4)=some (slice j4 k4 l4)∧
 CP 153 #[slice j4 k4 l4,int .i64 64,func (.func 154) #[] #[]] h4 (fun m4 n4=>
 ∃o4,m4= .returned (bool o4)∧
 ac o4
 (∃p4 q4 r4,n4.cell? ((nb w).add 5)=some (slice p4 q4 r4)∧
 CP 155 #[slice p4 q4 r4,int .i64 64,func (.func 156) #[] #[]] n4 (fun s4 t4=>
 ∃u4,s4= .returned (bool u4)∧
 R (bool u4) t4))
 (R (bool false) n4)))
 (R (bool false) h4)))
 (R (bool false) b4)))
 (R (bool false) u3))))
 (∃v4 x4 y4,r.cell? ((nb w).add 1)=some (slice v4 x4 y4)∧
 CP 147 #[slice v4 x4 y4,int .i64 744,func (.func 148) #[] #[]] r (fun z4 a5=>
 ∃b5,z4= .returned (bool b5)∧
 ac b5
 (∃c5 d5 e5,a5.cell? ((nb w).add 2)=some (slice c5 d5 e5)∧
 CP 149 #[slice c5 d5 e5,int .i64 744,func (.func 150) #[] #[]] a5 (fun f5 g5=>
 ∃h5,f5= .returned (bool h5)∧
 ac h5
 (∃i5 j5 k5,g5.cell? ((nb w).add 3)=some (slice i5 j5 k5)∧
 CP 151 #[slice i5 j5 k5,int .i64 32,func (.func 152) #[] #[]] g5 (fun l5 m5=>
 ∃n5,l5= .returned (bool n5)∧
 ac n5
 (∃o5 p5 q5,m5.cell? ((nb w).add 4)=some (slice o5 p5 q5)∧
 CP 153 #[slice o5 p5 q5,int .i64 64,func (.func 154) #[] #[]] m5 (fun r5 s5=>
 ∃t5,r5= .returned (bool t5)∧
 ac t5
 (∃u5 v5 x5,s5.cell? ((nb w).add 5)=some (slice u5 v5 x5)∧
 CP 155 #[slice u5 v5 x5,int .i64 64,func (.func 156) #[] #[]] s5 (fun y5 z5=>
 ∃a6,y5= .returned (bool a6)∧
 R (bool a6) z5))
 (R (bool false) s5)))
 (R (bool false) m5)))
 (R (bool false) g5)))
 (R (bool false) a5))))
theorem yV (a:Bool) (b:OA) (c d:Nat) (f:OA) (g h:Nat) (i:OA) (j k:Nat) (l:OA) (m n:Nat) (o:OA) (p q:Nat) (w:World) (R:RW) (hh:PE a b c d f g h i j k l m n o p q w R):CR 101 #[agg #[bool a,slice b c d,slice f g h,slice i j k,slice l m n,slice o p q]] w R:=
 az (fn:=Tryz.f101) (by kernel_rfl) (by kernel_rfl) (by kernel_rfl) (by kernel_rfl) (by kernel_rfl) hh
def MR (a:OA) (b:Int) (w:World) (R:RW):Prop:=
 ac (Option.isNone a)
 (R (tuple #[int .i64 0,bool false]) w)
 (af a (fun c=>
 ∃d,w.cell? (c.add 1)=some (map d)∧
 ∃f g h,(Instr.lookup 108 (map d) (int .i64 b) true).run Tryz.prog w= .ok (tuple #[int .i64 f,bool g]) h∧
 ac (!g)
 (R (tuple #[int .i64 0,bool false]) h)
 (CP 160 #[int .i64 f] h (fun i j=>
 ∃k,i= .returned (int .i64 k)∧
 R (tuple #[int .i64 k,bool true]) j))))
theorem zy (a:OA) (b:Int) (w:World) (R:RW) (hh:MR a b w R):CR 106 #[pointer a,int .i64 b] w R:=
 az (fn:=Tryz.f106) (by kernel_rfl) (by kernel_rfl) (by kernel_rfl) (by kernel_rfl) (by kernel_rfl) hh
def Ot (a:OA) (w:World) (R:RW):Prop:=
 CP 50 #[pointer a] w (fun b c=>
 ∃d,b= .returned (int .i64 d)∧
 ∃f g h i,(Instr.makeSlice 117 (int .i64 d) (int .i64 d)).run Tryz.prog c= .ok (slice f g h) i∧
 af a (fun j=>
 (slice f g h).oneCell'=true∧(∃u,i.cell? ((j.add 9).add 3)=some u)∧i.frozen? ((j.add 9).add 3)=false∧
 ∀k,k=(i.setCell ((j.add 9).add 3) (slice f g h))→
 af a (fun l=>
 ∃m n o,k.cell? ((l.add 9).add 3)=some (slice m n o)∧
 ∀p:KW,(∀(q:Int) (r:World),(ac (decide (q< (n:Int)))
 (af a (fun s=>
 ∃t,r.cell? ((s.add 0).add 6)=some (pointer t)∧
 CP 163 #[pointer t,int .i64 q] r (fun x y=>
 ∃z a1,x= .returned (tuple #[string z,bool a1])∧
 af a (fun b1=>
 ∃c1,y.cell? ((b1.add 0).add 6)=some (pointer c1)∧
 CP 164 #[pointer c1,string z] y (fun d1 e1=>
 ∃f1 g1 h1,d1= .returned (slice f1 g1 h1)∧
 ∀i1,i1=e1.drew→
 af a (fun j1=>
 ∃k1 l1 m1,i1.cell? ((j1.add 9).add 3)=some (slice k1 l1 m1)∧
 ac ((g1:Int)==1)
 (af f1 (fun n1=>
 (0:Int)≤0∧0< (g1:Int)∧
 ∃o1,i1.cell? (n1.add ((0:Int).toNat*1))=some (int .i64 o1)∧
 ac (o1==q)
 (af a (fun p1=>
 ∃q1,i1.cell? ((p1.add 0).add 7)=some (pointer q1)∧
 CP 165 #[pointer q1,string z] i1 (fun r1 s1=>
 ∃t1,r1= .returned (bool t1)∧
 (s1.cell? ((j1.add 9).add 3)=some (slice k1 l1 m1)∧True)∧
 af k1 (fun u1=>
 (0:Int)≤q∧q< (l1:Int)∧
 (bool t1).oneCell'=true∧(∃u,s1.cell? (u1.add (q.toNat*1))=some u)∧s1.frozen? (u1.add (q.toNat*1))=false∧
 ∀v1,v1=(s1.setCell (u1.add (q.toNat*1)) (bool t1))→
 Ar .i64 (q+1) (fun x1=>
 p [int .i64 x1] v1)))))
 (af k1 (fun y1=>
 (0:Int)≤q∧q< (l1:Int)∧
 (bool false).oneCell'=true∧(∃u,i1.cell? (y1.add (q.toNat*1))=some u)∧i1.frozen? (y1.add (q.toNat*1))=false∧
 ∀z1,z1=(i1.setCell (y1.add (q.toNat*1)) (bool false))→
 Ar .i64 (q+1) (fun a2=>
 p [int .i64 a2] z1)))))
 (af k1 (fun b2=>
 (0:Int)≤q∧q< (l1:Int)∧
 (bool false).oneCell'=true∧(∃u,i1.cell? (b2.add (q.toNat*1))=some u)∧i1.frozen? (b2.add (q.toNat*1))=false∧
 ∀c2,c2=(i1.setCell (b2.add (q.toNat*1)) (bool false))→
 Ar .i64 (q+1) (fun d2=>
 p [int .i64 d2] c2)))))))))
 (R (tuple #[]) r))→p [int .i64 q] r)→
 p [int .i64 0] k)))
theorem zW (a:OA) (w:World) (R:RW) (hh:Ot a w R):CR 108 #[pointer a] w R:=
 az (fn:=Tryz.f108) (by kernel_rfl) (by kernel_rfl) (by kernel_rfl) (by kernel_rfl) (by kernel_rfl) hh
def PX (a:OA) (w:World) (R:RW):Prop:=
 ac (Option.isNone a)
 (R (int .i64 0) w)
 (af a (fun b=>
 ∃c d f,w.cell? (b.add 0)=some (slice c d f)∧
 R (int .i64 (d:Int)) w))
theorem Ai (a:OA) (w:World) (R:RW) (hh:PX a w R):CR 116 #[pointer a] w R:=
 az (fn:=Tryz.f116) (by kernel_rfl) (by kernel_rfl) (by kernel_rfl) (by kernel_rfl) (by kernel_rfl) hh
def Ng (a:OA) (b c:Int) (w:World) (R:RW):Prop:=
 CP 175 #[pointer a,int .i64 b] w (fun d f=>
 ∃g,d= .returned (bool g)∧
 ac g
 (R (bool true) f)
 (CP 175 #[pointer a,int .i64 c] f (fun h i=>
 ∃j,h= .returned (bool j)∧
 ac j
 (R (bool true) i)
 (CP 54 #[pointer a] i (fun k l=>
 ∃m,k= .returned (pointer m)∧
 CP 163 #[pointer m,int .i64 b] l (fun n o=>
 ∃p q,n= .returned (tuple #[string p,bool q])∧
 CP 54 #[pointer a] o (fun r s=>
 ∃t,r= .returned (pointer t)∧
 CP 163 #[pointer t,int .i64 c] s (fun u x=>
 ∃y z,u= .returned (tuple #[string y,bool z])∧
 CP 55 #[pointer a] x (fun a1 b1=>
 ∃c1,a1= .returned (pointer c1)∧
 CP 176 #[pointer c1,string p,string y] b1 (fun d1 e1=>
 ∃f1,d1= .returned (bool f1)∧
 ac f1
 (R (bool true) e1)
 (CP 54 #[pointer a] e1 (fun g1 h1=>
 ∃i1,g1= .returned (pointer i1)∧
 CP 177 #[pointer i1,int .i64 b,int .i64 c,int .i64 9223372036854775807] h1 (fun j1 k1=>
 ∃l1,j1= .returned (bool l1)∧
 R (bool l1) k1)))))))))))))
theorem xM (a:OA) (b c:Int) (w:World) (R:RW) (hh:Ng a b c w R):CR 121 #[pointer a,int .i64 b,int .i64 c] w R:=
 az (fn:=Tryz.f121) (by kernel_rfl) (by kernel_rfl) (by kernel_rfl) (by kernel_rfl) (by kernel_rfl) hh
def Pu (a:Int) (b:OA) (w:World) (R:RW):Prop:=
 af b (fun c=>
 ∃d,w.cell? c=some (pointer d)∧
 CP 49 #[pointer d,int .i64 a] w (fun f g=>
 ∃h,f= .returned (bool h)∧
 R (bool (!h)) g))
theorem BK (a:Int) (b:OA) (w:World) (R:RW) (hh:Pu a b w R):CR 126 #[int .i64 a,pointer b] w R:=
 az (fn:=Tryz.f126) (by kernel_rfl) (by kernel_rfl) (by kernel_rfl) (by kernel_rfl) (by kernel_rfl) hh
def Of (a b:OA) (c d:Nat) (w:World) (R:RW):Prop:=
 ∀f:KW,(∀(g:Int) (h:Bool) (i:Int) (j:World),(ac (decide (g< (c:Int)))
 (af b (fun k=>
 (0:Int)≤g∧g< (c:Int)∧
 ∃l,j.cell? (k.add (g.toNat*1))=some (int .i64 l)∧
 CP 43 #[pointer a,int .i64 l] j (fun m n=>
 ∃o,m= .returned (bool o)∧
 ac (!o)
 (R (tuple #[int .i64 g,bool true]) n)
 (ac (decide (g>0))
 (Ar .i64 (g-1) (fun p=>
 af b (fun q=>
 (0:Int)≤p∧p< (c:Int)∧
 ∃r,n.cell? (q.add (p.toNat*1))=some (int .i64 r)∧
 CP 121 #[pointer a,int .i64 r,int .i64 l] n (fun s t=>
 ∃u,s= .returned (bool u)∧
 ac (!u)
 (R (tuple #[int .i64 g,bool true]) t)
 (Ar .i64 (g+1) (fun x=>
 f [int .i64 x,bool h,int .i64 i] t))))))
 (Ar .i64 (g+1) (fun y=>
 f [int .i64 y,bool h,int .i64 i] n))))))
 (R (tuple #[int .i64 0,bool false]) j))→f [int .i64 g,bool h,int .i64 i] j)→
 f [int .i64 0,bool false,int .i64 0] w
theorem xG (a b:OA) (c d:Nat) (w:World) (R:RW) (hh:Of a b c d w R):CR 127 #[pointer a,slice b c d] w R:=
 az (fn:=Tryz.f127) (by kernel_rfl) (by kernel_rfl) (by kernel_rfl) (by kernel_rfl) (by kernel_rfl) hh
def Po (a:Bool) (b:OA) (c d:Nat) (f:OA) (g h:Nat) (i:OA) (j k:Nat) (l:OA) (m n:Nat) (o:OA) (p q:Nat) (w:World) (R:RW):Prop:=
 ∀r,r=w.alloc (.cells #[bool a,slice b c d,slice f g h,slice i j k,slice l m n,slice o p q] 71)→
 ∃s,r.cell? ((nb w).add 0)=some (bool s)∧
 ac s
 (∃t u x,r.cell? ((nb w).add 2)=some (slice t u x)∧
 CP 188 #[slice t u x] r (fun y z=>
 ∃a1 b1 c1,y= .returned (tuple #[pointer a1,int .i64 b1,int .i64 c1])∧
 R (tuple #[pointer a1,int .i64 b1,int .i64 c1]) z))
 (∃d1 e1 f1,r.cell? ((nb w).add 1)=some (slice d1 e1 f1)∧
 CP 189 #[slice d1 e1 f1] r (fun g1 h1=>
 ∃i1 j1 k1,g1= .returned (tuple #[pointer i1,int .i64 j1,int .i64 k1])∧
 R (tuple #[pointer i1,int .i64 j1,int .i64 k1]) h1))
theorem yO (a:Bool) (b:OA) (c d:Nat) (f:OA) (g h:Nat) (i:OA) (j k:Nat) (l:OA) (m n:Nat) (o:OA) (p q:Nat) (w:World) (R:RW) (hh:Po a b c d f g h i j k l m n o p q w R):CR 130 #[agg #[bool a,slice b c d,slice f g h,slice i j k,slice l m n,slice o p q]] w R:=
 az (fn:=Tryz.f130) (by kernel_rfl) (by kernel_rfl) (by kernel_rfl) (by kernel_rfl) (by kernel_rfl) hh
def PM (a:OA) (b c:Nat) (w:World) (R:RW):Prop:=
 ∃d f,(Instr.makeMap 108 none).run Tryz.prog w= .ok (map d) f∧
 ∃g h,(Instr.makeMap 205 none).run Tryz.prog f= .ok (map g) h∧
 ∀i,i=h.alloc (.cells (List.toArray ([slice none 0 0,map d,map g]++List.replicate 256 (bool false)++ [int .i64 0])) 250)→
 ∀j:KW,(∀(k l m:Int) (n:OA) (o:World),(ac (decide (k< (b:Int)))
 (af a (fun p=>
 (0:Int)≤k∧k< (b:Int)∧
 ∃q r,(o.cell? (p.add (k.toNat*2))=some (int .i64 q)∧o.cell? ((p.add (k.toNat*2)).add 1)=some (string r)∧True)∧
 ∀s,s=o.alloc (.cells #[int .i64 0,string ⟨#[]⟩] 87)→
 ax s (nb o) (fun t=>
 ∃u x,(t.cell? (nb o)=some (int .i64 u)∧t.cell? ((nb o).add 1)=some (string x)∧True)∧
 CP 190 #[pointer (some (nb h)),agg #[int .i64 u,string x]] t (fun y z=>
 ∃a1,y= .returned (int .i64 a1)∧
 ac (a1 != 0)
 (R (tuple #[pointer none,int .i64 k,int .i64 a1]) z)
 (Ar .i64 (k+1) (fun b1=>
 j [int .i64 b1,int .i64 l,int .i64 m,pointer n] z)))) [int .i64 q,string r] 0))
 (R (tuple #[pointer (some (nb h)),int .i64 (b:Int),int .i64 0]) o))→j [int .i64 k,int .i64 l,int .i64 m,pointer n] o)→
 j [int .i64 0,int .i64 0,int .i64 0,pointer none] i
theorem Al (a:OA) (b c:Nat) (w:World) (R:RW) (hh:PM a b c w R):CR 131 #[slice a b c] w R:=
 az (fn:=Tryz.f131) (by kernel_rfl) (by kernel_rfl) (by kernel_rfl) (by kernel_rfl) (by kernel_rfl) hh
def O0 (a:OA) (b c:Nat) (d:Value) (w:World) (R:RW):Prop:=
 ∀f:KW,(∀(g h:Int) (i:World),(ac (decide (g< (b:Int)))
 (af a (fun j=>
 (0:Int)≤g∧g< (b:Int)∧
 ∃k l,(i.cell? (j.add (g.toNat*2))=some (int .i64 k)∧i.cell? ((j.add (g.toNat*2)).add 1)=some (string l)∧True)∧
 bE gJ d [agg #[int .i64 k,string l]] i (fun m n=>
 ∃o,m= .returned (bool o)∧
 ac o
 (R (int .i64 g) n)
 (Ar .i64 (g+1) (fun p=>
 f [int .i64 p,int .i64 h] n)))))
 (R (int .i64 (-1)) i))→f [int .i64 g,int .i64 h] i)→
 f [int .i64 0,int .i64 0] w
theorem BZ (a:OA) (b c:Nat) (d:Value) (w:World) (R:RW) (hh:O0 a b c d w R):CR 132 #[slice a b c,d] w R:=
 az (fn:=Tryz.f132) (by kernel_rfl) (by kernel_rfl) (by kernel_rfl) (by kernel_rfl) (by kernel_rfl) hh
def Nc (a:Int) (b:ByteArray) (c:OA) (w:World) (R:RW):Prop:=
 ∀d,d=w.alloc (.cells #[int .i64 a,string b] 87)→
 ∀f,f=d.drew→
 ∃g,f.cell? ((nb w).add 0)=some (int .i64 g)∧
 af c (fun h=>
 ∃i,f.cell? h=some (pointer i)∧
 CP 116 #[pointer i] f (fun j k=>
 ∃l,j= .returned (int .i64 l)∧
 (k.cell? ((nb w).add 0)=some (int .i64 g)∧True)∧
 R (bool (decide (g<l))) k))
theorem zd (a:Int) (b:ByteArray) (c:OA) (w:World) (R:RW) (hh:Nc a b c w R):CR 133 #[agg #[int .i64 a,string b],pointer c] w R:=
 az (fn:=Tryz.f133) (by kernel_rfl) (by kernel_rfl) (by kernel_rfl) (by kernel_rfl) (by kernel_rfl) hh
def M0 (a:OA) (b c:Nat) (d:OA) (f g:Nat) (w:World) (R:RW):Prop:=
 ∀h,h=w.alloc (.cells (List.toArray (List.replicate 256 (int .i64 0)++List.replicate 256 (bool false))) 288)→
 ∀i:KW,(∀(j k:Int) (l:OA) (m:World),(ac (decide (j< (b:Int)))
 (af a (fun n=>
 (0:Int)≤j∧j< (b:Int)∧
 ∃o p q,(m.cell? (n.add (j.toNat*3))=some (int .i64 o)∧m.cell? ((n.add (j.toNat*3)).add 1)=some (int .i64 p)∧m.cell? ((n.add (j.toNat*3)).add 2)=some (int .i64 q)∧True)∧
 ∀r,r=m.alloc (.cells #[int .i64 0,int .i64 0,int .i64 0] 89)→
 ax r (nb m) (fun s=>
 ∃t x y,(s.cell? (nb m)=some (int .i64 t)∧s.cell? ((nb m).add 1)=some (int .i64 x)∧s.cell? ((nb m).add 2)=some (int .i64 y)∧True)∧
 CP 191 #[agg #[int .i64 t,int .i64 x,int .i64 y]] s (fun z a1=>
 ∃b1,z= .returned (bool b1)∧
 ac (!b1)
 (R (tuple #[pointer none,int .i64 1]) a1)
 (∃c1,a1.cell? ((nb m).add 0)=some (int .i64 c1)∧
 ∀d1:KW,(∀(e1:Int) (f1:World),(∃g1,f1.cell? ((nb m).add 1)=some (int .i64 g1)∧
 ac (decide (e1≤g1))
 (∀h1,h1=f1.drew→
 ∃i1,h1.cell? ((nb m).add 2)=some (int .i64 i1)∧
 (0:Int)≤e1∧e1< (256:Int)∧
 (int .i64 i1).oneCell'=true∧(∃u,h1.cell? (((nb w).add 0).add (e1.toNat*1))=some u)∧h1.frozen? (((nb w).add 0).add (e1.toNat*1))=false∧
 ∀j1,j1=(h1.setCell (((nb w).add 0).add (e1.toNat*1)) (int .i64 i1))→
 Ar .i64 (e1+1) (fun k1=>
 d1 [int .i64 k1] j1))
 (Ar .i64 (j+1) (fun l1=>
 i [int .i64 l1,int .i64 k,pointer l] f1)))→d1 [int .i64 e1] f1)→
 d1 [int .i64 c1] a1))) [int .i64 o,int .i64 p,int .i64 q] 0))
 (∀m1:KW,(∀(n1 o1:Int) (p1:OA) (q1:World),(ac (decide (n1< (f:Int)))
 (af d (fun r1=>
 (0:Int)≤n1∧n1< (f:Int)∧
 ∃s1 t1,(q1.cell? (r1.add (n1.toNat*2))=some (int .i64 s1)∧q1.cell? ((r1.add (n1.toNat*2)).add 1)=some (int .i64 t1)∧True)∧
 ∀u1,u1=q1.alloc (.cells #[int .i64 0,int .i64 0] 170)→
 ax u1 (nb q1) (fun v1=>
 ∃x1,v1.cell? ((nb q1).add 0)=some (int .i64 x1)∧
 CP 192 #[int .i64 x1] v1 (fun y1 z1=>
 ∃a2,y1= .returned (bool a2)∧
 ac (!a2)
 (R (tuple #[pointer none,int .i64 1]) z1)
 (∃b2,z1.cell? ((nb q1).add 1)=some (int .i64 b2)∧
 CP 192 #[int .i64 b2] z1 (fun c2 d2=>
 ∃e2,c2= .returned (bool e2)∧
 ac (!e2)
 (R (tuple #[pointer none,int .i64 1]) d2)
 (∀f2,f2=d2.drew→
 ∃g2,f2.cell? ((nb q1).add 0)=some (int .i64 g2)∧
 ∃h2,f2.cell? ((nb q1).add 1)=some (int .i64 h2)∧
 (0:Int)≤g2∧g2< (16:Int)∧
 (0:Int)≤h2∧h2< (16:Int)∧
 (bool true).oneCell'=true∧(∃u,f2.cell? ((((nb w).add 256).add (g2.toNat*16)).add (h2.toNat*1))=some u)∧f2.frozen? ((((nb w).add 256).add (g2.toNat*16)).add (h2.toNat*1))=false∧
 ∀i2,i2=(f2.setCell ((((nb w).add 256).add (g2.toNat*16)).add (h2.toNat*1)) (bool true))→
 Ar .i64 (n1+1) (fun j2=>
 m1 [int .i64 j2,int .i64 o1,pointer p1] i2)))))) [int .i64 s1,int .i64 t1] 0))
 (R (tuple #[pointer (some (nb w)),int .i64 0]) q1))→m1 [int .i64 n1,int .i64 o1,pointer p1] q1)→
 m1 [int .i64 0,int .i64 k,pointer l] m))→i [int .i64 j,int .i64 k,pointer l] m)→
 i [int .i64 0,int .i64 0,pointer none] h
theorem AS (a:OA) (b c:Nat) (d:OA) (f g:Nat) (w:World) (R:RW) (hh:M0 a b c d f g w R):CR 134 #[slice a b c,slice d f g] w R:=
 az (fn:=Tryz.f134) (by kernel_rfl) (by kernel_rfl) (by kernel_rfl) (by kernel_rfl) (by kernel_rfl) hh
def No (a:OA) (b c:Nat) (w:World) (R:RW):Prop:=
 ac (Option.isNone a)
 (R (slice none 0 0) w)
 (∀d,d=w.alloc (.cells #[] 85)→
 ∃f g h i,(Builtin.append_ #[33,33] 33 #[slice (some (nb w)) 0 0,slice a b c]).run Tryz.prog d= .ok (slice f g h) i∧
 R (slice f g h) i)
theorem AJ (a:OA) (b c:Nat) (w:World) (R:RW) (hh:No a b c w R):CR 142 #[slice a b c] w R:=
 az (fn:=Tryz.f142) (by kernel_rfl) (by kernel_rfl) (by kernel_rfl) (by kernel_rfl) (by kernel_rfl) hh
def Ob (a:OA) (b c:Nat) (w:World) (R:RW):Prop:=
 ac (Option.isNone a)
 (R (slice none 0 0) w)
 (∀d,d=w.alloc (.cells #[] 9)→
 ∃f g h i,(Builtin.append_ #[32,32] 32 #[slice (some (nb w)) 0 0,slice a b c]).run Tryz.prog d= .ok (slice f g h) i∧
 R (slice f g h) i)
theorem yK (a:OA) (b c:Nat) (w:World) (R:RW) (hh:Ob a b c w R):CR 143 #[slice a b c] w R:=
 az (fn:=Tryz.f143) (by kernel_rfl) (by kernel_rfl) (by kernel_rfl) (by kernel_rfl) (by kernel_rfl) hh
def Od (a:OA) (b c:Nat) (w:World) (R:RW):Prop:=
 ac (Option.isNone a)
 (R (slice none 0 0) w)
 (∀d,d=w.alloc (.cells #[] 87)→
 ∃f g h i,(Builtin.append_ #[25,25] 25 #[slice (some (nb w)) 0 0,slice a b c]).run Tryz.prog d= .ok (slice f g h) i∧
 R (slice f g h) i)
theorem yg (a:OA) (b c:Nat) (w:World) (R:RW) (hh:Od a b c w R):CR 144 #[slice a b c] w R:=
 az (fn:=Tryz.f144) (by kernel_rfl) (by kernel_rfl) (by kernel_rfl) (by kernel_rfl) (by kernel_rfl) hh
def NW (a:OA) (b c:Nat) (w:World) (R:RW):Prop:=
 ac (Option.isNone a)
 (R (slice none 0 0) w)
 (∀d,d=w.alloc (.cells #[] 89)→
 ∃f g h i,(Builtin.append_ #[23,23] 23 #[slice (some (nb w)) 0 0,slice a b c]).run Tryz.prog d= .ok (slice f g h) i∧
 R (slice f g h) i)
theorem xU (a:OA) (b c:Nat) (w:World) (R:RW) (hh:NW a b c w R):CR 145 #[slice a b c] w R:=
 az (fn:=Tryz.f145) (by kernel_rfl) (by kernel_rfl) (by kernel_rfl) (by kernel_rfl) (by kernel_rfl) hh
def OP (a:OA) (b c:Nat) (w:World) (R:RW):Prop:=
 ac (Option.isNone a)
 (R (slice none 0 0) w)
 (∀d,d=w.alloc (.cells #[] 170)→
 ∃f g h i,(Builtin.append_ #[24,24] 24 #[slice (some (nb w)) 0 0,slice a b c]).run Tryz.prog d= .ok (slice f g h) i∧
 R (slice f g h) i)
theorem xk (a:OA) (b c:Nat) (w:World) (R:RW) (hh:OP a b c w R):CR 146 #[slice a b c] w R:=
 az (fn:=Tryz.f146) (by kernel_rfl) (by kernel_rfl) (by kernel_rfl) (by kernel_rfl) (by kernel_rfl) hh
def Qc (a:OA) (b c:Nat) (d:Int) (f:Value) (w:World) (R:RW):Prop:=
 ∀g,g=w.alloc (.cells (Value.cells f) 234)→
 ac (decide ((b:Int)≤d))
 (CP 194 #[slice a b c,func (.func 195) #[] #[pointer (some (nb w))]] g (fun h i=>
 ∃j,h= .returned (bool j)∧
 R (bool (!j)) i))
 (R (bool false) g)
theorem zG (a:OA) (b c:Nat) (d:Int) (f:Value) (w:World) (R:RW) (hh:Qc a b c d f w R):CR 147 #[slice a b c,int .i64 d,f] w R:=
 az (fn:=Tryz.f147) (by kernel_rfl) (by kernel_rfl) (by kernel_rfl) (by kernel_rfl) (by kernel_rfl) hh
def Ns (a b:Int) (w:World) (R:RW):Prop:=
 ∀c,c=w.alloc (.cells #[int .i64 a,int .i64 b] 85)→
 ∃d,c.cell? ((nb w).add 0)=some (int .i64 d)∧
 CP 196 #[int .i64 d,int .i64 0,int .i64 999] c (fun f g=>
 ∃h,f= .returned (bool h)∧
 ac h
 (∃i,g.cell? ((nb w).add 1)=some (int .i64 i)∧
 CP 196 #[int .i64 i,int .i64 0,int .i64 999] g (fun j k=>
 ∃l,j= .returned (bool l)∧
 R (bool l) k))
 (R (bool false) g))
theorem zj (a b:Int) (w:World) (R:RW) (hh:Ns a b w R):CR 148 #[agg #[int .i64 a,int .i64 b]] w R:=
 az (fn:=Tryz.f148) (by kernel_rfl) (by kernel_rfl) (by kernel_rfl) (by kernel_rfl) (by kernel_rfl) hh
def M6 (a:OA) (b c:Nat) (d:Int) (f:Value) (w:World) (R:RW):Prop:=
 ∀g,g=w.alloc (.cells (Value.cells f) 78)→
 ac (decide ((b:Int)≤d))
 (CP 197 #[slice a b c,func (.func 198) #[] #[pointer (some (nb w))]] g (fun h i=>
 ∃j,h= .returned (bool j)∧
 R (bool (!j)) i))
 (R (bool false) g)
theorem zh (a:OA) (b c:Nat) (d:Int) (f:Value) (w:World) (R:RW) (hh:M6 a b c d f w R):CR 149 #[slice a b c,int .i64 d,f] w R:=
 az (fn:=Tryz.f149) (by kernel_rfl) (by kernel_rfl) (by kernel_rfl) (by kernel_rfl) (by kernel_rfl) hh
def O3 (a:ByteArray) (w:World) (R:RW):Prop:=
 CP 196 #[int .i64 (a.size:Int),int .i64 2,int .i64 64] w (fun b c=>
 ∃d,b= .returned (bool d)∧
 R (bool d) c)
theorem Bh (a:ByteArray) (w:World) (R:RW) (hh:O3 a w R):CR 150 #[string a] w R:=
 az (fn:=Tryz.f150) (by kernel_rfl) (by kernel_rfl) (by kernel_rfl) (by kernel_rfl) (by kernel_rfl) hh
def Nk (a:OA) (b c:Nat) (d:Int) (f:Value) (w:World) (R:RW):Prop:=
 ∀g,g=w.alloc (.cells (Value.cells f) 218)→
 ac (decide ((b:Int)≤d))
 (CP 199 #[slice a b c,func (.func 200) #[] #[pointer (some (nb w))]] g (fun h i=>
 ∃j,h= .returned (bool j)∧
 R (bool (!j)) i))
 (R (bool false) g)
theorem zn (a:OA) (b c:Nat) (d:Int) (f:Value) (w:World) (R:RW) (hh:Nk a b c d f w R):CR 151 #[slice a b c,int .i64 d,f] w R:=
 az (fn:=Tryz.f151) (by kernel_rfl) (by kernel_rfl) (by kernel_rfl) (by kernel_rfl) (by kernel_rfl) hh
def OH (a:Int) (b:ByteArray) (w:World) (R:RW):Prop:=
 ∀c,c=w.alloc (.cells #[int .i64 a,string b] 87)→
 ∃d,c.cell? ((nb w).add 0)=some (int .i64 d)∧
 CP 196 #[int .i64 d,int .i64 0,int .i64 1073741824] c (fun f g=>
 ∃h,f= .returned (bool h)∧
 ac h
 (∃i,g.cell? ((nb w).add 1)=some (string i)∧
 CP 196 #[int .i64 (i.size:Int),int .i64 1,int .i64 64] g (fun j k=>
 ∃l,j= .returned (bool l)∧
 R (bool l) k))
 (R (bool false) g))
theorem yP (a:Int) (b:ByteArray) (w:World) (R:RW) (hh:OH a b w R):CR 152 #[agg #[int .i64 a,string b]] w R:=
 az (fn:=Tryz.f152) (by kernel_rfl) (by kernel_rfl) (by kernel_rfl) (by kernel_rfl) (by kernel_rfl) hh
def Nh (a:OA) (b c:Nat) (d:Int) (f:Value) (w:World) (R:RW):Prop:=
 ∀g,g=w.alloc (.cells (Value.cells f) 238)→
 ac (decide ((b:Int)≤d))
 (CP 201 #[slice a b c,func (.func 202) #[] #[pointer (some (nb w))]] g (fun h i=>
 ∃j,h= .returned (bool j)∧
 R (bool (!j)) i))
 (R (bool false) g)
theorem xC (a:OA) (b c:Nat) (d:Int) (f:Value) (w:World) (R:RW) (hh:Nh a b c d f w R):CR 153 #[slice a b c,int .i64 d,f] w R:=
 az (fn:=Tryz.f153) (by kernel_rfl) (by kernel_rfl) (by kernel_rfl) (by kernel_rfl) (by kernel_rfl) hh
def Ol (a b c:Int) (w:World) (R:RW):Prop:=
 ∀d,d=w.alloc (.cells #[int .i64 a,int .i64 b,int .i64 c] 89)→
 ∃f,d.cell? ((nb w).add 0)=some (int .i64 f)∧
 ∃g,d.cell? ((nb w).add 1)=some (int .i64 g)∧
 CP 196 #[int .i64 f,int .i64 0,int .i64 g] d (fun h i=>
 ∃j,h= .returned (bool j)∧
 ac j
 (∃k,i.cell? ((nb w).add 1)=some (int .i64 k)∧
 ac (decide (k≤255))
 (∃l,i.cell? ((nb w).add 2)=some (int .i64 l)∧
 CP 196 #[int .i64 l,int .i64 0,int .i64 15] i (fun m n=>
 ∃o,m= .returned (bool o)∧
 R (bool o) n))
 (R (bool false) i))
 (R (bool false) i))
theorem AC (a b c:Int) (w:World) (R:RW) (hh:Ol a b c w R):CR 154 #[agg #[int .i64 a,int .i64 b,int .i64 c]] w R:=
 az (fn:=Tryz.f154) (by kernel_rfl) (by kernel_rfl) (by kernel_rfl) (by kernel_rfl) (by kernel_rfl) hh
def PL (a:OA) (b c:Nat) (d:Int) (f:Value) (w:World) (R:RW):Prop:=
 ∀g,g=w.alloc (.cells (Value.cells f) 240)→
 ac (decide ((b:Int)≤d))
 (CP 203 #[slice a b c,func (.func 204) #[] #[pointer (some (nb w))]] g (fun h i=>
 ∃j,h= .returned (bool j)∧
 R (bool (!j)) i))
 (R (bool false) g)
theorem Bk (a:OA) (b c:Nat) (d:Int) (f:Value) (w:World) (R:RW) (hh:PL a b c d f w R):CR 155 #[slice a b c,int .i64 d,f] w R:=
 az (fn:=Tryz.f155) (by kernel_rfl) (by kernel_rfl) (by kernel_rfl) (by kernel_rfl) (by kernel_rfl) hh
def Oh (a b:Int) (w:World) (R:RW):Prop:=
 ∀c,c=w.alloc (.cells #[int .i64 a,int .i64 b] 170)→
 ∃d,c.cell? ((nb w).add 0)=some (int .i64 d)∧
 CP 196 #[int .i64 d,int .i64 0,int .i64 15] c (fun f g=>
 ∃h,f= .returned (bool h)∧
 ac h
 (∃i,g.cell? ((nb w).add 1)=some (int .i64 i)∧
 CP 196 #[int .i64 i,int .i64 0,int .i64 15] g (fun j k=>
 ∃l,j= .returned (bool l)∧
 R (bool l) k))
 (R (bool false) g))
theorem AX (a b:Int) (w:World) (R:RW) (hh:Oh a b w R):CR 156 #[agg #[int .i64 a,int .i64 b]] w R:=
 az (fn:=Tryz.f156) (by kernel_rfl) (by kernel_rfl) (by kernel_rfl) (by kernel_rfl) (by kernel_rfl) hh
def Oi (a:Int) (w:World) (R:RW):Prop:=
 Ar .i64 ((-1:Int)-a) (fun b=>
 R (int .i64 b) w)
theorem Ae (a:Int) (w:World) (R:RW) (hh:Oi a w R):CR 160 #[int .i64 a] w R:=
 az (fn:=Tryz.f160) (by kernel_rfl) (by kernel_rfl) (by kernel_rfl) (by kernel_rfl) (by kernel_rfl) hh
def Ox (a:OA) (b:Int) (w:World) (R:RW):Prop:=
 CP 210 #[pointer a,int .i64 b] w (fun c d=>
 ∃f,c= .returned (bool f)∧
 ac (!f)
 (R (tuple #[string ⟨#[]⟩,bool false]) d)
 (af a (fun g=>
 ∃h i j,d.cell? (g.add 0)=some (slice h i j)∧
 af h (fun k=>
 (0:Int)≤b∧b< (i:Int)∧
 ∃l,d.cell? ((k.add (b.toNat*3)).add 0)=some (string l)∧
 R (tuple #[string l,bool true]) d))))
theorem zw (a:OA) (b:Int) (w:World) (R:RW) (hh:Ox a b w R):CR 163 #[pointer a,int .i64 b] w R:=
 az (fn:=Tryz.f163) (by kernel_rfl) (by kernel_rfl) (by kernel_rfl) (by kernel_rfl) (by kernel_rfl) hh
def On (a:OA) (b:ByteArray) (w:World) (R:RW):Prop:=
 CP 116 #[pointer a] w (fun c d=>
 ∃f,c= .returned (int .i64 f)∧
 CP 211 #[pointer a,string b,int .i64 f] d (fun g h=>
 ∃i j k,g= .returned (slice i j k)∧
 R (slice i j k) h))
theorem BA (a:OA) (b:ByteArray) (w:World) (R:RW) (hh:On a b w R):CR 164 #[pointer a,string b] w R:=
 az (fn:=Tryz.f164) (by kernel_rfl) (by kernel_rfl) (by kernel_rfl) (by kernel_rfl) (by kernel_rfl) hh
def Pf (a:OA) (b:ByteArray) (w:World) (R:RW):Prop:=
 CP 212 #[pointer a,string b] w (fun c d=>
 ∃f g h,c= .returned (slice f g h)∧
 R (bool (decide ((g:Int)≤1))) d)
theorem yZ (a:OA) (b:ByteArray) (w:World) (R:RW) (hh:Pf a b w R):CR 165 #[pointer a,string b] w R:=
 az (fn:=Tryz.f165) (by kernel_rfl) (by kernel_rfl) (by kernel_rfl) (by kernel_rfl) (by kernel_rfl) hh
def Nb (a:OA) (b:Int) (w:World) (R:RW):Prop:=
 ∀c,c=w.alloc (.cells #[int .i64 0,string ⟨#[]⟩] 87)→
 ac (decide (b≥0))
 (ax c (nb w) (fun d=>
 ∃f g,(d.cell? (nb w)=some (int .i64 f)∧d.cell? ((nb w).add 1)=some (string g)∧True)∧
 R (tuple #[agg #[int .i64 f,string g],bool false]) d) [int .i64 0,string ⟨#[]⟩] 0)
 (CP 226 #[pointer a] c (fun h i=>
 ∃j,h= .returned (int .i64 j)∧
 Ar .i64 (0-j) (fun k=>
 ac (decide (b<k))
 (ax i (nb w) (fun l=>
 ∃m n,(l.cell? (nb w)=some (int .i64 m)∧l.cell? ((nb w).add 1)=some (string n)∧True)∧
 R (tuple #[agg #[int .i64 m,string n],bool false]) l) [int .i64 0,string ⟨#[]⟩] 0)
 (af a (fun o=>
 ∃p q r,i.cell? (o.add 0)=some (slice p q r)∧
 Ar .i64 ((-1:Int)-b) (fun s=>
 af p (fun t=>
 (0:Int)≤s∧s< (q:Int)∧
 ∃u x,(i.cell? (t.add (s.toNat*2))=some (int .i64 u)∧i.cell? ((t.add (s.toNat*2)).add 1)=some (string x)∧True)∧
 ax i (nb w) (fun y=>
 ∃z a1,(y.cell? (nb w)=some (int .i64 z)∧y.cell? ((nb w).add 1)=some (string a1)∧True)∧
 R (tuple #[agg #[int .i64 z,string a1],bool true]) y) [int .i64 u,string x] 0)))))))
theorem zN (a:OA) (b:Int) (w:World) (R:RW) (hh:Nb a b w R):CR 174 #[pointer a,int .i64 b] w R:=
 az (fn:=Tryz.f174) (by kernel_rfl) (by kernel_rfl) (by kernel_rfl) (by kernel_rfl) (by kernel_rfl) hh
def N0 (a:OA) (b:Int) (w:World) (R:RW):Prop:=
 CP 56 #[pointer a] w (fun c d=>
 ∃f,c= .returned (pointer f)∧
 CP 106 #[pointer f,int .i64 b] d (fun g h=>
 ∃i j,g= .returned (tuple #[int .i64 i,bool j])∧
 R (bool j) h))
theorem BV (a:OA) (b:Int) (w:World) (R:RW) (hh:N0 a b w R):CR 175 #[pointer a,int .i64 b] w R:=
 az (fn:=Tryz.f175) (by kernel_rfl) (by kernel_rfl) (by kernel_rfl) (by kernel_rfl) (by kernel_rfl) hh
def Nt (a:OA) (b c:ByteArray) (w:World) (R:RW):Prop:=
 ∀d,d=w.drew→
 ac (!(b.toList==(⟨#[]⟩:ByteArray).toList))
 (ac (!(c.toList==(⟨#[]⟩:ByteArray).toList))
 (Ar .i64 (((b.size:Int):Int)-1) (fun f=>
 (0:Int)≤f∧f< (b.size:Int)∧
 (0:Int)≤0∧0< (c.size:Int)∧
 CP 227 #[pointer a,int .u8 (eu b f),int .u8 (eu c 0)] d (fun g h=>
 ∃i,g= .returned (bool i)∧
 R (bool i) h)))
 (R (bool false) d))
 (R (bool false) d)
theorem B_ (a:OA) (b c:ByteArray) (w:World) (R:RW) (hh:Nt a b c w R):CR 176 #[pointer a,string b,string c] w R:=
 az (fn:=Tryz.f176) (by kernel_rfl) (by kernel_rfl) (by kernel_rfl) (by kernel_rfl) (by kernel_rfl) hh
def OC (a:OA) (b c d:Int) (w:World) (R:RW):Prop:=
 CP 228 #[pointer a,int .i64 b,int .i64 c] w (fun f g=>
 ∃h,f= .returned (bool h)∧
 ac h
 (CP 229 #[pointer a,int .i64 b,int .i64 c,int .i64 d] g (fun i j=>
 ∃k,i= .returned (pointer k)∧
 CP 230 #[pointer k] j (fun l m=>
 ∃n,l= .returned (bool n)∧
 R (bool n) m)))
 (R (bool false) g))
theorem zZ (a:OA) (b c d:Int) (w:World) (R:RW) (hh:OC a b c d w R):CR 177 #[pointer a,int .i64 b,int .i64 c,int .i64 d] w R:=
 az (fn:=Tryz.f177) (by kernel_rfl) (by kernel_rfl) (by kernel_rfl) (by kernel_rfl) (by kernel_rfl) hh
def MO (a:OA) (b c:Nat) (w:World) (R:RW):Prop:=
 CP 189 #[slice none 0 0] w (fun d f=>
 ∃g h i,d= .returned (tuple #[pointer g,int .i64 h,int .i64 i])∧
 ac (i != 0)
 (R (tuple #[pointer none,int .i64 0,int .i64 i]) f)
 (∀j:KW,(∀(k l m:Int) (n:OA) (o:World),(ac (decide (k< (b:Int)))
 (af a (fun p=>
 (0:Int)≤k∧k< (b:Int)∧
 ∃q,o.cell? (p.add (k.toNat*1))=some (string q)∧
 CP 239 #[pointer g,string q] o (fun r s=>
 ∃t u x,r= .returned (tuple #[agg #[int .i64 t,int .i64 u],bool x])∧
 ∀y,y=s.alloc (.cells #[int .i64 0,int .i64 0] 85)→
 ax y (nb s) (fun z=>
 ac (!x)
 (R (tuple #[pointer none,int .i64 k,int .i64 2]) z)
 (∃a1 b1,(z.cell? (nb s)=some (int .i64 a1)∧z.cell? ((nb s).add 1)=some (int .i64 b1)∧True)∧
 CP 240 #[pointer g,agg #[int .i64 a1,int .i64 b1]] z (fun c1 d1=>
 ∃e1 f1,c1= .returned (tuple #[int .i64 e1,int .i64 f1])∧
 ac (f1 != 0)
 (R (tuple #[pointer none,int .i64 k,int .i64 f1]) d1)
 (Ar .i64 (k+1) (fun g1=>
 j [int .i64 g1,int .i64 l,int .i64 m,pointer n] d1))))) [int .i64 t,int .i64 u] 0)))
 (R (tuple #[pointer g,int .i64 (b:Int),int .i64 0]) o))→j [int .i64 k,int .i64 l,int .i64 m,pointer n] o)→
 j [int .i64 0,int .i64 0,int .i64 0,pointer none] f))
theorem Bn (a:OA) (b c:Nat) (w:World) (R:RW) (hh:MO a b c w R):CR 188 #[slice a b c] w R:=
 az (fn:=Tryz.f188) (by kernel_rfl) (by kernel_rfl) (by kernel_rfl) (by kernel_rfl) (by kernel_rfl) hh
def O5 (a:OA) (b c:Nat) (w:World) (R:RW):Prop:=
 CP 241 #[] w (fun d f=>
 ∃g,d= .returned (pointer g)∧
 ∀h:KW,(∀(i j k:Int) (l:OA) (m:World),(ac (decide (i< (b:Int)))
 (af a (fun n=>
 (0:Int)≤i∧i< (b:Int)∧
 ∃o p,(m.cell? (n.add (i.toNat*2))=some (int .i64 o)∧m.cell? ((n.add (i.toNat*2)).add 1)=some (int .i64 p)∧True)∧
 ∀q,q=m.alloc (.cells #[int .i64 0,int .i64 0] 85)→
 ax q (nb m) (fun r=>
 ∃s t,(r.cell? (nb m)=some (int .i64 s)∧r.cell? ((nb m).add 1)=some (int .i64 t)∧True)∧
 CP 240 #[pointer g,agg #[int .i64 s,int .i64 t]] r (fun u x=>
 ∃y z,u= .returned (tuple #[int .i64 y,int .i64 z])∧
 ac (z != 0)
 (R (tuple #[pointer none,int .i64 i,int .i64 z]) x)
 (Ar .i64 (i+1) (fun a1=>
 h [int .i64 a1,int .i64 j,int .i64 k,pointer l] x)))) [int .i64 o,int .i64 p] 0))
 (R (tuple #[pointer g,int .i64 (b:Int),int .i64 0]) m))→h [int .i64 i,int .i64 j,int .i64 k,pointer l] m)→
 h [int .i64 0,int .i64 0,int .i64 0,pointer none] f)
theorem Ba (a:OA) (b c:Nat) (w:World) (R:RW) (hh:O5 a b c w R):CR 189 #[slice a b c] w R:=
 az (fn:=Tryz.f189) (by kernel_rfl) (by kernel_rfl) (by kernel_rfl) (by kernel_rfl) (by kernel_rfl) hh
def Qb (a:OA) (b:Int) (c:ByteArray) (w:World) (R:RW):Prop:=
 ∀d,d=w.alloc (.cells #[int .i64 b,string c] 87)→
 ∀f,f=d.drew→
 af a (fun g=>
 ∃h,f.cell? (g.add 1)=some (map h)∧
 ∃i,f.cell? ((nb w).add 0)=some (int .i64 i)∧
 ∃j k l,(Instr.lookup 108 (map h) (int .i64 i) true).run Tryz.prog f= .ok (tuple #[int .i64 j,bool k]) l∧
 ∀m,m=l.drew→
 af a (fun n=>
 ∃o,m.cell? (n.add 2)=some (map o)∧
 ∃p,m.cell? ((nb w).add 1)=some (string p)∧
 ∃q r s,(Instr.lookup 205 (map o) (string p) true).run Tryz.prog m= .ok (tuple #[int .i64 q,bool r]) s∧
 ∃t x,(s.cell? (nb w)=some (int .i64 t)∧s.cell? ((nb w).add 1)=some (string x)∧True)∧
 CP 242 #[agg #[int .i64 t,string x]] s (fun y z=>
 ∃a1,y= .returned (bool a1)∧
 ac (!a1)
 (R (int .i64 1) z)
 (af a (fun b1=>
 ∃c1 d1 e1,z.cell? (b1.add 0)=some (slice c1 d1 e1)∧
 ac (decide ((d1:Int)≥32))
 (R (int .i64 3) z)
 (ac k
 (R (int .i64 10) z)
 (ac r
 (R (int .i64 10) z)
 (∀f1,f1=z.drew→
 af a (fun g1=>
 ∃h1,f1.cell? (g1.add 1)=some (map h1)∧
 ∃i1,f1.cell? ((nb w).add 0)=some (int .i64 i1)∧
 af a (fun j1=>
 ∃k1,f1.cell? (j1.add 2)=some (map k1)∧
 ∃l1,f1.cell? ((nb w).add 1)=some (string l1)∧
 af a (fun m1=>
 ∃n1 o1 p1,f1.cell? (m1.add 0)=some (slice n1 o1 p1)∧
 af a (fun q1=>
 ∃r1 s1 t1,f1.cell? (q1.add 0)=some (slice r1 s1 t1)∧
 ∃u1 v1 x1,(Instr.mapEntry 108 (map h1) (int .i64 i1)).run Tryz.prog f1= .ok (tuple #[int .i64 u1,int .i64 v1]) x1∧
 (x1.cell? (m1.add 0)=some (slice n1 o1 p1)∧True)∧
 (x1.cell? ((nb w).add 1)=some (string l1)∧True)∧
 ∃y1,(Instr.entryStore 108 (map h1) (int .i64 v1) (int .i64 (o1:Int))).run Tryz.prog x1= .ok () y1∧
 (y1.cell? ((nb w).add 1)=some (string l1)∧True)∧
 ∃z1 a2 b2,(Instr.mapEntry 205 (map k1) (string l1)).run Tryz.prog y1= .ok (tuple #[int .i64 z1,int .i64 a2]) b2∧
 ∃c2,(Instr.entryStore 205 (map k1) (int .i64 a2) (int .i64 (s1:Int))).run Tryz.prog b2= .ok () c2∧
 ∀d2,d2=c2.drew→
 ∃e2,d2.cell? ((nb w).add 1)=some (string e2)∧
 (0:Int)≤0∧0< (e2.size:Int)∧
 af a (fun f2=>
 (0:Int)≤(eu e2 0)∧(eu e2 0) < (256:Int)∧
 (bool true).oneCell'=true∧(∃u,d2.cell? ((f2.add 3).add ((eu e2 0:Int).toNat*1))=some u)∧d2.frozen? ((f2.add 3).add ((eu e2 0:Int).toNat*1))=false∧
 ∀g2,g2=(d2.setCell ((f2.add 3).add ((eu e2 0:Int).toNat*1)) (bool true))→
 ∀h2,h2=g2.drew→
 af a (fun i2=>
 ∃j2,h2.cell? (i2.add 259)=some (int .i64 j2)∧
 ∃k2,h2.cell? ((nb w).add 1)=some (string k2)∧
 ∃l2 m2,(Builtin.max_ #[3,3] 3 #[int .i64 j2,int .i64 (k2.size:Int)]).run Tryz.prog h2= .ok (int .i64 l2) m2∧
 af a (fun n2=>
 (int .i64 l2).oneCell'=true∧(∃u,m2.cell? (n2.add 259)=some u)∧m2.frozen? (n2.add 259)=false∧
 ∀o2,o2=(m2.setCell (n2.add 259) (int .i64 l2))→
 ∀p2,p2=o2.drew→
 af a (fun q2=>
 ∃r2 s2 t2,p2.cell? (q2.add 0)=some (slice r2 s2 t2)∧
 ∃u2 v2,(p2.cell? (nb w)=some (int .i64 u2)∧p2.cell? ((nb w).add 1)=some (string v2)∧True)∧
 ∀x2,x2=p2.alloc (.cells #[int .i64 u2,string v2] 87)→
 (x2.cell? (q2.add 0)=some (slice r2 s2 t2)∧True)∧
 ∃y2 z2 a3 b3,(Builtin.append_ #[25,25] 25 #[slice r2 s2 t2,slice (some (nb p2)) 1 1]).run Tryz.prog x2= .ok (slice y2 z2 a3) b3∧
 af a (fun c3=>
 (slice y2 z2 a3).oneCell'=true∧(∃u,b3.cell? (c3.add 0)=some u)∧b3.frozen? (c3.add 0)=false∧
 ∀d3,d3=(b3.setCell (c3.add 0) (slice y2 z2 a3))→
 R (int .i64 0) d3)))))))))))))))))
theorem yu (a:OA) (b:Int) (c:ByteArray) (w:World) (R:RW) (hh:Qb a b c w R):CR 190 #[pointer a,agg #[int .i64 b,string c]] w R:=
 az (fn:=Tryz.f190) (by kernel_rfl) (by kernel_rfl) (by kernel_rfl) (by kernel_rfl) (by kernel_rfl) hh
def Oa (a b c:Int) (w:World) (R:RW):Prop:=
 ∀d,d=w.alloc (.cells #[int .i64 a,int .i64 b,int .i64 c] 89)→
 ∃f,d.cell? ((nb w).add 0)=some (int .i64 f)∧
 ac (decide (f≥0))
 (∃g,d.cell? ((nb w).add 0)=some (int .i64 g)∧
 ∃h,d.cell? ((nb w).add 1)=some (int .i64 h)∧
 ac (decide (g≤h))
 (∃i,d.cell? ((nb w).add 1)=some (int .i64 i)∧
 ac (decide (i<256))
 (∃j,d.cell? ((nb w).add 2)=some (int .i64 j)∧
 CP 192 #[int .i64 j] d (fun k l=>
 ∃m,k= .returned (bool m)∧
 R (bool m) l))
 (R (bool false) d))
 (R (bool false) d))
 (R (bool false) d)
theorem xX (a b c:Int) (w:World) (R:RW) (hh:Oa a b c w R):CR 191 #[agg #[int .i64 a,int .i64 b,int .i64 c]] w R:=
 az (fn:=Tryz.f191) (by kernel_rfl) (by kernel_rfl) (by kernel_rfl) (by kernel_rfl) (by kernel_rfl) hh
def PD (a:Int) (w:World) (R:RW):Prop:=
 ac (decide (a≥0))
 (R (bool (decide (a<16))) w)
 (R (bool false) w)
theorem xg (a:Int) (w:World) (R:RW) (hh:PD a w R):CR 192 #[int .i64 a] w R:=
 az (fn:=Tryz.f192) (by kernel_rfl) (by kernel_rfl) (by kernel_rfl) (by kernel_rfl) (by kernel_rfl) hh
def Pb (a:OA) (b c:Nat) (d:Value) (w:World) (R:RW):Prop:=
 CP 243 #[slice a b c,d] w (fun f g=>
 ∃h,f= .returned (int .i64 h)∧
 R (bool (decide (h≥0))) g)
theorem xV (a:OA) (b c:Nat) (d:Value) (w:World) (R:RW) (hh:Pb a b c d w R):CR 194 #[slice a b c,d] w R:=
 az (fn:=Tryz.f194) (by kernel_rfl) (by kernel_rfl) (by kernel_rfl) (by kernel_rfl) (by kernel_rfl) hh
def Ou (a b:Int) (c:OA) (w:World) (R:RW):Prop:=
 ∀d,d=w.alloc (.cells #[int .i64 a,int .i64 b] 85)→
 af c (fun f=>
 ∃g,d.cell? f=some (g)∧
 ∃h i,(d.cell? (nb w)=some (int .i64 h)∧d.cell? ((nb w).add 1)=some (int .i64 i)∧True)∧
 bE gJ g [agg #[int .i64 h,int .i64 i]] d (fun j k=>
 ∃l,j= .returned (bool l)∧
 R (bool (!l)) k))
theorem Ah (a b:Int) (c:OA) (w:World) (R:RW) (hh:Ou a b c w R):CR 195 #[agg #[int .i64 a,int .i64 b],pointer c] w R:=
 az (fn:=Tryz.f195) (by kernel_rfl) (by kernel_rfl) (by kernel_rfl) (by kernel_rfl) (by kernel_rfl) hh
def P0 (a b c:Int) (w:World) (R:RW):Prop:=
 ac (decide (a≥b))
 (R (bool (decide (a≤c))) w)
 (R (bool false) w)
theorem wW (a b c:Int) (w:World) (R:RW) (hh:P0 a b c w R):CR 196 #[int .i64 a,int .i64 b,int .i64 c] w R:=
 az (fn:=Tryz.f196) (by kernel_rfl) (by kernel_rfl) (by kernel_rfl) (by kernel_rfl) (by kernel_rfl) hh
def OI (a:OA) (b c:Nat) (d:Value) (w:World) (R:RW):Prop:=
 CP 244 #[slice a b c,d] w (fun f g=>
 ∃h,f= .returned (int .i64 h)∧
 R (bool (decide (h≥0))) g)
theorem B7 (a:OA) (b c:Nat) (d:Value) (w:World) (R:RW) (hh:OI a b c d w R):CR 197 #[slice a b c,d] w R:=
 az (fn:=Tryz.f197) (by kernel_rfl) (by kernel_rfl) (by kernel_rfl) (by kernel_rfl) (by kernel_rfl) hh
def O4 (a:ByteArray) (b:OA) (w:World) (R:RW):Prop:=
 af b (fun c=>
 ∃d,w.cell? c=some (d)∧
 bE gJ d [string a] w (fun f g=>
 ∃h,f= .returned (bool h)∧
 R (bool (!h)) g))
theorem zU (a:ByteArray) (b:OA) (w:World) (R:RW) (hh:O4 a b w R):CR 198 #[string a,pointer b] w R:=
 az (fn:=Tryz.f198) (by kernel_rfl) (by kernel_rfl) (by kernel_rfl) (by kernel_rfl) (by kernel_rfl) hh
def NC (a:OA) (b c:Nat) (d:Value) (w:World) (R:RW):Prop:=
 CP 132 #[slice a b c,d] w (fun f g=>
 ∃h,f= .returned (int .i64 h)∧
 R (bool (decide (h≥0))) g)
theorem zs (a:OA) (b c:Nat) (d:Value) (w:World) (R:RW) (hh:NC a b c d w R):CR 199 #[slice a b c,d] w R:=
 az (fn:=Tryz.f199) (by kernel_rfl) (by kernel_rfl) (by kernel_rfl) (by kernel_rfl) (by kernel_rfl) hh
def OY (a:Int) (b:ByteArray) (c:OA) (w:World) (R:RW):Prop:=
 ∀d,d=w.alloc (.cells #[int .i64 a,string b] 87)→
 af c (fun f=>
 ∃g,d.cell? f=some (g)∧
 ∃h i,(d.cell? (nb w)=some (int .i64 h)∧d.cell? ((nb w).add 1)=some (string i)∧True)∧
 bE gJ g [agg #[int .i64 h,string i]] d (fun j k=>
 ∃l,j= .returned (bool l)∧
 R (bool (!l)) k))
theorem B5 (a:Int) (b:ByteArray) (c:OA) (w:World) (R:RW) (hh:OY a b c w R):CR 200 #[agg #[int .i64 a,string b],pointer c] w R:=
 az (fn:=Tryz.f200) (by kernel_rfl) (by kernel_rfl) (by kernel_rfl) (by kernel_rfl) (by kernel_rfl) hh
def N5 (a:OA) (b c:Nat) (d:Value) (w:World) (R:RW):Prop:=
 CP 245 #[slice a b c,d] w (fun f g=>
 ∃h,f= .returned (int .i64 h)∧
 R (bool (decide (h≥0))) g)
theorem xb (a:OA) (b c:Nat) (d:Value) (w:World) (R:RW) (hh:N5 a b c d w R):CR 201 #[slice a b c,d] w R:=
 az (fn:=Tryz.f201) (by kernel_rfl) (by kernel_rfl) (by kernel_rfl) (by kernel_rfl) (by kernel_rfl) hh
def O9 (a b c:Int) (d:OA) (w:World) (R:RW):Prop:=
 ∀f,f=w.alloc (.cells #[int .i64 a,int .i64 b,int .i64 c] 89)→
 af d (fun g=>
 ∃h,f.cell? g=some (h)∧
 ∃i j k,(f.cell? (nb w)=some (int .i64 i)∧f.cell? ((nb w).add 1)=some (int .i64 j)∧f.cell? ((nb w).add 2)=some (int .i64 k)∧True)∧
 bE gJ h [agg #[int .i64 i,int .i64 j,int .i64 k]] f (fun l m=>
 ∃n,l= .returned (bool n)∧
 R (bool (!n)) m))
theorem Cb (a b c:Int) (d:OA) (w:World) (R:RW) (hh:O9 a b c d w R):CR 202 #[agg #[int .i64 a,int .i64 b,int .i64 c],pointer d] w R:=
 az (fn:=Tryz.f202) (by kernel_rfl) (by kernel_rfl) (by kernel_rfl) (by kernel_rfl) (by kernel_rfl) hh
def O6 (a:OA) (b c:Nat) (d:Value) (w:World) (R:RW):Prop:=
 CP 246 #[slice a b c,d] w (fun f g=>
 ∃h,f= .returned (int .i64 h)∧
 R (bool (decide (h≥0))) g)
theorem zM (a:OA) (b c:Nat) (d:Value) (w:World) (R:RW) (hh:O6 a b c d w R):CR 203 #[slice a b c,d] w R:=
 az (fn:=Tryz.f203) (by kernel_rfl) (by kernel_rfl) (by kernel_rfl) (by kernel_rfl) (by kernel_rfl) hh
def OL (a b:Int) (c:OA) (w:World) (R:RW):Prop:=
 ∀d,d=w.alloc (.cells #[int .i64 a,int .i64 b] 170)→
 af c (fun f=>
 ∃g,d.cell? f=some (g)∧
 ∃h i,(d.cell? (nb w)=some (int .i64 h)∧d.cell? ((nb w).add 1)=some (int .i64 i)∧True)∧
 bE gJ g [agg #[int .i64 h,int .i64 i]] d (fun j k=>
 ∃l,j= .returned (bool l)∧
 R (bool (!l)) k))
theorem Be (a b:Int) (c:OA) (w:World) (R:RW) (hh:OL a b c w R):CR 204 #[agg #[int .i64 a,int .i64 b],pointer c] w R:=
 az (fn:=Tryz.f204) (by kernel_rfl) (by kernel_rfl) (by kernel_rfl) (by kernel_rfl) (by kernel_rfl) hh
def M4 (a:OA) (b:Int) (w:World) (R:RW):Prop:=
 ac (decide (b≥0))
 (CP 116 #[pointer a] w (fun c d=>
 ∃f,c= .returned (int .i64 f)∧
 R (bool (decide (b<f))) d))
 (R (bool false) w)
theorem BR (a:OA) (b:Int) (w:World) (R:RW) (hh:M4 a b w R):CR 210 #[pointer a,int .i64 b] w R:=
 az (fn:=Tryz.f210) (by kernel_rfl) (by kernel_rfl) (by kernel_rfl) (by kernel_rfl) (by kernel_rfl) hh
def Oc (a:OA) (b:ByteArray) (c:Int) (w:World) (R:RW):Prop:=
 ac (Option.isNone a)
 (R (slice none 0 0) w)
 (CP 251 #[pointer a,string b,int .i64 c] w (fun d f=>
 ∃g,d= .returned (pointer g)∧
 CP 252 #[pointer g] f (fun h i=>
 h= .returned (tuple #[])∧
 CP 253 #[pointer g] i (fun j k=>
 ∃l m n,j= .returned (slice l m n)∧
 R (slice l m n) k))))
theorem zg (a:OA) (b:ByteArray) (c:Int) (w:World) (R:RW) (hh:Oc a b c w R):CR 211 #[pointer a,string b,int .i64 c] w R:=
 az (fn:=Tryz.f211) (by kernel_rfl) (by kernel_rfl) (by kernel_rfl) (by kernel_rfl) (by kernel_rfl) hh
def Ov (a:OA) (b:ByteArray) (w:World) (R:RW):Prop:=
 ∀c:KW,(∀(d f:Int) (g:OA) (h i:Nat) (j:World),(ac (decide (d≤(b.size:Int)))
 (∀k:KW,(∀(l:Int) (m:OA) (n o:Nat) (p:World),(Ar .i64 (d+1) (fun q=>
 c [int .i64 q,int .i64 l,slice m n o] p))→k [int .i64 l,slice m n o] p)→
 ∀r,r=j.drew→
 ac (d==(b.size:Int))
 ((0:Int)≤f∧f≤d∧d≤(b.size:Int)∧
 ∀s,s=r.alloc (.cells #[string (b.extract f.toNat d.toNat)] 9)→
 ∃t u x y,(Builtin.append_ #[32,32] 32 #[slice g h i,slice (some (nb r)) 1 1]).run Tryz.prog s= .ok (slice t u x) y∧
 k [int .i64 d,slice t u x] y)
 (Ar .i64 (d-1) (fun z=>
 (0:Int)≤z∧z< (b.size:Int)∧
 (0:Int)≤d∧d< (b.size:Int)∧
 CP 227 #[pointer a,int .u8 (eu b z),int .u8 (eu b d)] r (fun a1 b1=>
 ∃c1,a1= .returned (bool c1)∧
 ac c1
 ((0:Int)≤f∧f≤d∧d≤(b.size:Int)∧
 ∀d1,d1=b1.alloc (.cells #[string (b.extract f.toNat d.toNat)] 9)→
 ∃e1 f1 g1 h1,(Builtin.append_ #[32,32] 32 #[slice g h i,slice (some (nb b1)) 1 1]).run Tryz.prog d1= .ok (slice e1 f1 g1) h1∧
 k [int .i64 d,slice e1 f1 g1] h1)
 (k [int .i64 f,slice g h i] b1)))))
 (R (slice g h i) j))→c [int .i64 d,int .i64 f,slice g h i] j)→
 c [int .i64 1,int .i64 0,slice none 0 0] w
theorem zk (a:OA) (b:ByteArray) (w:World) (R:RW) (hh:Ov a b w R):CR 212 #[pointer a,string b] w R:=
 az (fn:=Tryz.f212) (by kernel_rfl) (by kernel_rfl) (by kernel_rfl) (by kernel_rfl) (by kernel_rfl) hh
def P4 (a:OA) (w:World) (R:RW):Prop:=
 ac (Option.isNone a)
 (R (int .i64 0) w)
 (af a (fun b=>
 ∃c d f,w.cell? (b.add 0)=some (slice c d f)∧
 R (int .i64 (d:Int)) w))
theorem yD (a:OA) (w:World) (R:RW) (hh:P4 a w R):CR 226 #[pointer a] w R:=
 az (fn:=Tryz.f226) (by kernel_rfl) (by kernel_rfl) (by kernel_rfl) (by kernel_rfl) (by kernel_rfl) hh
def MQ (a:OA) (b c:Int) (w:World) (R:RW):Prop:=
 ac (Option.isNone a)
 (R (bool false) w)
 (∀d,d=w.drew→
 af a (fun f=>
 (0:Int)≤b∧b< (256:Int)∧
 ∃g,d.cell? ((f.add 0).add (b.toNat*1))=some (int .i64 g)∧
 af a (fun h=>
 (0:Int)≤c∧c< (256:Int)∧
 ∃i,d.cell? ((h.add 0).add (c.toNat*1))=some (int .i64 i)∧
 ac (g != i)
 (af a (fun j=>
 (0:Int)≤g∧g< (16:Int)∧
 (0:Int)≤i∧i< (16:Int)∧
 ∃k,d.cell? (((j.add 256).add (g.toNat*16)).add (i.toNat*1))=some (bool k)∧
 R (bool (!k)) d))
 (R (bool false) d))))
theorem x_ (a:OA) (b c:Int) (w:World) (R:RW) (hh:MQ a b c w R):CR 227 #[pointer a,int .u8 b,int .u8 c] w R:=
 az (fn:=Tryz.f227) (by kernel_rfl) (by kernel_rfl) (by kernel_rfl) (by kernel_rfl) (by kernel_rfl) hh
def Nw (a:OA) (b c:Int) (w:World) (R:RW):Prop:=
 ac (decide (b≥0))
 (CP 116 #[pointer a] w (fun d f=>
 ∃g,d= .returned (int .i64 g)∧
 ac (decide (b<g))
 (ac (decide (c≥0))
 (CP 116 #[pointer a] f (fun h i=>
 ∃j,h= .returned (int .i64 j)∧
 R (bool (decide (c<j))) i))
 (R (bool false) f))
 (R (bool false) f)))
 (R (bool false) w)
theorem A9 (a:OA) (b c:Int) (w:World) (R:RW) (hh:Nw a b c w R):CR 228 #[pointer a,int .i64 b,int .i64 c] w R:=
 az (fn:=Tryz.f228) (by kernel_rfl) (by kernel_rfl) (by kernel_rfl) (by kernel_rfl) (by kernel_rfl) hh
def PR (a:OA) (b c d:Int) (w:World) (R:RW):Prop:=
 ∀f,f=w.alloc (.cells #[int .i64 b,int .i64 c,pointer a,int .i64 d,int .i64 0] 343)→
 R (pointer (some (nb w))) f
theorem xL (a:OA) (b c d:Int) (w:World) (R:RW) (hh:PR a b c d w R):CR 229 #[pointer a,int .i64 b,int .i64 c,int .i64 d] w R:=
 az (fn:=Tryz.f229) (by kernel_rfl) (by kernel_rfl) (by kernel_rfl) (by kernel_rfl) (by kernel_rfl) hh
def P6 (a:OA) (w:World) (R:RW):Prop:=
 ∀b:KW,(∀(c:Bool) (d:World),(CP 264 #[pointer a] d (fun f g=>
 ∃h,f= .returned (bool h)∧
 ac (!h)
 (CP 265 #[pointer a] g (fun i j=>
 ∃k,i= .returned (bool k)∧
 ac (!k)
 (R (bool true) j)
 (b [bool c] j)))
 (R (bool false) g)))→b [bool c] d)→
 b [bool false] w
theorem xR (a:OA) (w:World) (R:RW) (hh:P6 a w R):CR 230 #[pointer a] w R:=
 az (fn:=Tryz.f230) (by kernel_rfl) (by kernel_rfl) (by kernel_rfl) (by kernel_rfl) (by kernel_rfl) hh
def OM (a:OA) (b:ByteArray) (w:World) (R:RW):Prop:=
 ∀c,c=w.alloc (.cells #[int .i64 0,int .i64 0] 85)→
 CP 164 #[pointer a,string b] c (fun d f=>
 ∃g h i,d= .returned (slice g h i)∧
 ac ((h:Int) != 2)
 (ax f (nb w) (fun j=>
 ∃k l,(j.cell? (nb w)=some (int .i64 k)∧j.cell? ((nb w).add 1)=some (int .i64 l)∧True)∧
 R (tuple #[agg #[int .i64 k,int .i64 l],bool false]) j) [int .i64 0,int .i64 0] 0)
 (∀m,m=f.drew→
 af g (fun n=>
 (0:Int)≤0∧0< (h:Int)∧
 ∃o,m.cell? (n.add ((0:Int).toNat*1))=some (int .i64 o)∧
 af g (fun p=>
 (0:Int)≤1∧1< (h:Int)∧
 ∃q,m.cell? (p.add ((1:Int).toNat*1))=some (int .i64 q)∧
 ax m (nb w) (fun r=>
 ∃s t,(r.cell? (nb w)=some (int .i64 s)∧r.cell? ((nb w).add 1)=some (int .i64 t)∧True)∧
 R (tuple #[agg #[int .i64 s,int .i64 t],bool true]) r) [int .i64 o,int .i64 q] 0))))
theorem xw (a:OA) (b:ByteArray) (w:World) (R:RW) (hh:OM a b w R):CR 239 #[pointer a,string b] w R:=
 az (fn:=Tryz.f239) (by kernel_rfl) (by kernel_rfl) (by kernel_rfl) (by kernel_rfl) (by kernel_rfl) hh
def NJ (a:OA) (b c:Int) (w:World) (R:RW):Prop:=
 ∀d,d=w.alloc (.cells #[int .i64 b,int .i64 c] 85)→
 ac (Option.isNone a)
 (R (tuple #[int .i64 0,int .i64 1]) d)
 (∃f,d.cell? ((nb w).add 0)=some (int .i64 f)∧
 CP 210 #[pointer a,int .i64 f] d (fun g h=>
 ∃i,g= .returned (bool i)∧
 ac (!i)
 (R (tuple #[int .i64 0,int .i64 4]) h)
 (∃j,h.cell? ((nb w).add 1)=some (int .i64 j)∧
 CP 210 #[pointer a,int .i64 j] h (fun k l=>
 ∃m,k= .returned (bool m)∧
 ac (!m)
 (R (tuple #[int .i64 0,int .i64 4]) l)
 (∀n,n=l.drew→
 af a (fun o=>
 ∃p q r,n.cell? (o.add 0)=some (slice p q r)∧
 ∃s,n.cell? ((nb w).add 0)=some (int .i64 s)∧
 af p (fun t=>
 (0:Int)≤s∧s< (q:Int)∧
 ∃x,n.cell? ((t.add (s.toNat*3)).add 0)=some (string x)∧
 af a (fun y=>
 ∃z a1 b1,n.cell? (y.add 0)=some (slice z a1 b1)∧
 ∃c1,n.cell? ((nb w).add 1)=some (int .i64 c1)∧
 af z (fun d1=>
 (0:Int)≤c1∧c1< (a1:Int)∧
 ∃e1,n.cell? ((d1.add (c1.toNat*3)).add 0)=some (string e1)∧
 ((x.size+e1.size:Nat):Int)≤IntKind.i64.max∧
 ac (decide ((((x++e1:ByteArray).size:Int):Int)>64))
 (R (tuple #[int .i64 0,int .i64 3]) n)
 (af a (fun f1=>
 ∃g1 h1 i1,n.cell? (f1.add 0)=some (slice g1 h1 i1)∧
 ac (decide ((h1:Int)≥1000))
 (R (tuple #[int .i64 0,int .i64 5]) n)
 (af a (fun j1=>
 ∃k1,n.cell? (j1.add 1)=some (map k1)∧
 ∃l1 m1 n1,(Instr.lookup 205 (map k1) (string (x++e1)) true).run Tryz.prog n= .ok (tuple #[int .i64 l1,bool m1]) n1∧
 ac m1
 (R (tuple #[int .i64 0,int .i64 10]) n1)
 (af a (fun o1=>
 ∃p1 q1 r1,n1.cell? (o1.add 0)=some (slice p1 q1 r1)∧
 ∀s1,s1=n1.drew→
 af a (fun t1=>
 ∃u1 v1 x1,s1.cell? (t1.add 0)=some (slice u1 v1 x1)∧
 ∃y1 z1,(s1.cell? (nb w)=some (int .i64 y1)∧s1.cell? ((nb w).add 1)=some (int .i64 z1)∧True)∧
 ∀a2,a2=s1.alloc (.cells #[string (x++e1),int .i64 y1,int .i64 z1] 300)→
 (a2.cell? (t1.add 0)=some (slice u1 v1 x1)∧True)∧
 ∃b2 c2 d2 e2,(Builtin.append_ #[258,258] 258 #[slice u1 v1 x1,slice (some (nb s1)) 1 1]).run Tryz.prog a2= .ok (slice b2 c2 d2) e2∧
 af a (fun f2=>
 (slice b2 c2 d2).oneCell'=true∧(∃u,e2.cell? (f2.add 0)=some u)∧e2.frozen? (f2.add 0)=false∧
 ∀g2,g2=(e2.setCell (f2.add 0) (slice b2 c2 d2))→
 ∀h2,h2=g2.drew→
 af a (fun i2=>
 ∃j2,h2.cell? (i2.add 1)=some (map j2)∧
 af a (fun k2=>
 ∃l2,h2.cell? (k2.add 2)=some (map l2)∧
 ∃m2 n2,(h2.cell? (nb w)=some (int .i64 m2)∧h2.cell? ((nb w).add 1)=some (int .i64 n2)∧True)∧
 ∃o2 p2 q2,(Instr.mapEntry 205 (map j2) (string (x++e1))).run Tryz.prog h2= .ok (tuple #[int .i64 o2,int .i64 p2]) q2∧
 (q2.cell? (nb w)=some (int .i64 m2)∧q2.cell? ((nb w).add 1)=some (int .i64 n2)∧True)∧
 ∃r2,(Instr.entryStore 205 (map j2) (int .i64 p2) (int .i64 (q1:Int))).run Tryz.prog q2= .ok () r2∧
 (r2.cell? (nb w)=some (int .i64 m2)∧r2.cell? ((nb w).add 1)=some (int .i64 n2)∧True)∧
 ∃s2 t2 u2,(Instr.mapEntry 259 (map l2) (agg #[int .i64 m2,int .i64 n2])).run Tryz.prog r2= .ok (tuple #[int .i64 s2,int .i64 t2]) u2∧
 ∃v2,(Instr.entryStore 259 (map l2) (int .i64 t2) (int .i64 (q1:Int))).run Tryz.prog u2= .ok () v2∧
 af a (fun x2=>
 ∃y2,v2.cell? (x2.add 3)=some (int .i64 y2)∧
 ∃z2 a3,(Builtin.max_ #[3,3] 3 #[int .i64 y2,int .i64 ((x++e1:ByteArray).size:Int)]).run Tryz.prog v2= .ok (int .i64 z2) a3∧
 af a (fun b3=>
 (int .i64 z2).oneCell'=true∧(∃u,a3.cell? (b3.add 3)=some u)∧a3.frozen? (b3.add 3)=false∧
 ∀c3,c3=(a3.setCell (b3.add 3) (int .i64 z2))→
 R (tuple #[int .i64 (q1:Int),int .i64 0]) c3)))))))))))))))))))))
theorem xQ (a:OA) (b c:Int) (w:World) (R:RW) (hh:NJ a b c w R):CR 240 #[pointer a,agg #[int .i64 b,int .i64 c]] w R:=
 az (fn:=Tryz.f240) (by kernel_rfl) (by kernel_rfl) (by kernel_rfl) (by kernel_rfl) (by kernel_rfl) hh
def Pq (w:World) (R:RW):Prop:=
 ∃a b,(Instr.makeMap 205 none).run Tryz.prog w= .ok (map a) b∧
 ∃c d,(Instr.makeMap 259 none).run Tryz.prog b= .ok (map c) d∧
 ∀f,f=d.alloc (.cells #[slice none 0 0,map a,map c,int .i64 1] 261)→
 ∀g:KW,(∀(h:Int) (i:World),(ac (decide (h<256))
 (∀j,j=i.alloc (.cells #[int .u8 (IntKind.wrap .u8 h)] 5)→
 ∃k l,(convert 57 9 (slice (some (nb i)) 1 1)).run Tryz.prog j= .ok (string k) l∧
 ∃m n o,l.cell? ((nb d).add 0)=some (slice m n o)∧
 ∀p,p=l.alloc (.cells #[string k,int .i64 (-1),int .i64 (-1)] 300)→
 ∃q r s t,(Builtin.append_ #[258,258] 258 #[slice m n o,slice (some (nb l)) 1 1]).run Tryz.prog p= .ok (slice q r s) t∧
 (slice q r s).oneCell'=true∧(∃u,t.cell? ((nb d).add 0)=some u)∧t.frozen? ((nb d).add 0)=false∧
 ∀x,x=(t.setCell ((nb d).add 0) (slice q r s))→
 ∃y,x.cell? ((nb d).add 1)=some (map y)∧
 ∃z,(Instr.mapUpdate 205 (map y) (string k) (int .i64 h)).run Tryz.prog x= .ok () z∧
 Ar .i64 (h+1) (fun a1=>
 g [int .i64 a1] z))
 (R (pointer (some (nb d))) i))→g [int .i64 h] i)→
 g [int .i64 0] f
theorem xe (w:World) (R:RW) (hh:Pq w R):CR 241 #[] w R:=
 az (fn:=Tryz.f241) (by kernel_rfl) (by kernel_rfl) (by kernel_rfl) (by kernel_rfl) (by kernel_rfl) hh
def M_ (a:Int) (b:ByteArray) (w:World) (R:RW):Prop:=
 ∀c,c=w.alloc (.cells #[int .i64 a,string b] 87)→
 ∃d,c.cell? ((nb w).add 0)=some (int .i64 d)∧
 ac (decide (d≥0))
 (∃f,c.cell? ((nb w).add 0)=some (int .i64 f)∧
 ac (decide (f≤1073741824))
 (∃g,c.cell? ((nb w).add 1)=some (string g)∧
 ac (!(g.toList==(⟨#[]⟩:ByteArray).toList))
 (∃h,c.cell? ((nb w).add 1)=some (string h)∧
 R (bool (decide (((h.size:Int):Int)≤64))) c)
 (R (bool false) c))
 (R (bool false) c))
 (R (bool false) c)
theorem yM (a:Int) (b:ByteArray) (w:World) (R:RW) (hh:M_ a b w R):CR 242 #[agg #[int .i64 a,string b]] w R:=
 az (fn:=Tryz.f242) (by kernel_rfl) (by kernel_rfl) (by kernel_rfl) (by kernel_rfl) (by kernel_rfl) hh
def PZ (a:OA) (b c:Nat) (d:Value) (w:World) (R:RW):Prop:=
 ∀f:KW,(∀(g h:Int) (i:World),(ac (decide (g< (b:Int)))
 (af a (fun j=>
 (0:Int)≤g∧g< (b:Int)∧
 ∃k l,(i.cell? (j.add (g.toNat*2))=some (int .i64 k)∧i.cell? ((j.add (g.toNat*2)).add 1)=some (int .i64 l)∧True)∧
 bE gJ d [agg #[int .i64 k,int .i64 l]] i (fun m n=>
 ∃o,m= .returned (bool o)∧
 ac o
 (R (int .i64 g) n)
 (Ar .i64 (g+1) (fun p=>
 f [int .i64 p,int .i64 h] n)))))
 (R (int .i64 (-1)) i))→f [int .i64 g,int .i64 h] i)→
 f [int .i64 0,int .i64 0] w
theorem Bu (a:OA) (b c:Nat) (d:Value) (w:World) (R:RW) (hh:PZ a b c d w R):CR 243 #[slice a b c,d] w R:=
 az (fn:=Tryz.f243) (by kernel_rfl) (by kernel_rfl) (by kernel_rfl) (by kernel_rfl) (by kernel_rfl) hh
def N9 (a:OA) (b c:Nat) (d:Value) (w:World) (R:RW):Prop:=
 ∀f:KW,(∀(g h:Int) (i:World),(ac (decide (g< (b:Int)))
 (af a (fun j=>
 (0:Int)≤g∧g< (b:Int)∧
 ∃k,i.cell? (j.add (g.toNat*1))=some (string k)∧
 bE gJ d [string k] i (fun l m=>
 ∃n,l= .returned (bool n)∧
 ac n
 (R (int .i64 g) m)
 (Ar .i64 (g+1) (fun o=>
 f [int .i64 o,int .i64 h] m)))))
 (R (int .i64 (-1)) i))→f [int .i64 g,int .i64 h] i)→
 f [int .i64 0,int .i64 0] w
theorem B8 (a:OA) (b c:Nat) (d:Value) (w:World) (R:RW) (hh:N9 a b c d w R):CR 244 #[slice a b c,d] w R:=
 az (fn:=Tryz.f244) (by kernel_rfl) (by kernel_rfl) (by kernel_rfl) (by kernel_rfl) (by kernel_rfl) hh
def Pg (a:OA) (b c:Nat) (d:Value) (w:World) (R:RW):Prop:=
 ∀f:KW,(∀(g h:Int) (i:World),(ac (decide (g< (b:Int)))
 (af a (fun j=>
 (0:Int)≤g∧g< (b:Int)∧
 ∃k l m,(i.cell? (j.add (g.toNat*3))=some (int .i64 k)∧i.cell? ((j.add (g.toNat*3)).add 1)=some (int .i64 l)∧i.cell? ((j.add (g.toNat*3)).add 2)=some (int .i64 m)∧True)∧
 bE gJ d [agg #[int .i64 k,int .i64 l,int .i64 m]] i (fun n o=>
 ∃p,n= .returned (bool p)∧
 ac p
 (R (int .i64 g) o)
 (Ar .i64 (g+1) (fun q=>
 f [int .i64 q,int .i64 h] o)))))
 (R (int .i64 (-1)) i))→f [int .i64 g,int .i64 h] i)→
 f [int .i64 0,int .i64 0] w
theorem yT (a:OA) (b c:Nat) (d:Value) (w:World) (R:RW) (hh:Pg a b c d w R):CR 245 #[slice a b c,d] w R:=
 az (fn:=Tryz.f245) (by kernel_rfl) (by kernel_rfl) (by kernel_rfl) (by kernel_rfl) (by kernel_rfl) hh
def Oo (a:OA) (b c:Nat) (d:Value) (w:World) (R:RW):Prop:=
 ∀f:KW,(∀(g h:Int) (i:World),(ac (decide (g< (b:Int)))
 (af a (fun j=>
 (0:Int)≤g∧g< (b:Int)∧
 ∃k l,(i.cell? (j.add (g.toNat*2))=some (int .i64 k)∧i.cell? ((j.add (g.toNat*2)).add 1)=some (int .i64 l)∧True)∧
 bE gJ d [agg #[int .i64 k,int .i64 l]] i (fun m n=>
 ∃o,m= .returned (bool o)∧
 ac o
 (R (int .i64 g) n)
 (Ar .i64 (g+1) (fun p=>
 f [int .i64 p,int .i64 h] n)))))
 (R (int .i64 (-1)) i))→f [int .i64 g,int .i64 h] i)→
 f [int .i64 0,int .i64 0] w
theorem BP (a:OA) (b c:Nat) (d:Value) (w:World) (R:RW) (hh:Oo a b c d w R):CR 246 #[slice a b c,d] w R:=
 az (fn:=Tryz.f246) (by kernel_rfl) (by kernel_rfl) (by kernel_rfl) (by kernel_rfl) (by kernel_rfl) hh
def NQ (a:OA) (b:ByteArray) (c:Int) (w:World) (R:RW):Prop:=
 CP 279 #[] w (fun d f=>
 ∃g,d= .returned (pointer g)∧
 ∀h,h=f.alloc (.cells #[pointer a,slice none 0 0,pointer g,int .i64 c,int .i64 0] 360)→
 ∀i:KW,(∀(j:Int) (k:World),(ac (decide (j< (b.size:Int)))
 (∀l,l=k.drew→
 ∃m n o,l.cell? ((nb f).add 1)=some (slice m n o)∧
 (0:Int)≤j∧j< (b.size:Int)∧
 Ar .i64 (j-1) (fun p=>
 Ar .i64 (j+1) (fun q=>
 ∀r,r=l.alloc (.cells #[int .i64 (IntKind.wrap .i64 (eu b j)),int .i64 p,int .i64 q] 362)→
 (r.cell? ((nb f).add 1)=some (slice m n o)∧True)∧
 ∃s t x y,(Builtin.append_ #[358,358] 358 #[slice m n o,slice (some (nb l)) 1 1]).run Tryz.prog r= .ok (slice s t x) y∧
 (slice s t x).oneCell'=true∧(∃u,y.cell? ((nb f).add 1)=some u)∧y.frozen? ((nb f).add 1)=false∧
 ∀z,z=(y.setCell ((nb f).add 1) (slice s t x))→
 Ar .i64 (j+1) (fun a1=>
 i [int .i64 a1] z))))
 (∀b1:KW,(∀c1:World,(∃d1 e1 f1,c1.cell? ((nb f).add 1)=some (slice d1 e1 f1)∧
 ∀g1:KW,(∀(h1:Int) (i1:World),(ac (decide (h1< (e1:Int)))
 (CP 280 #[pointer (some (nb f)),int .i64 h1] i1 (fun j1 k1=>
 j1= .returned (tuple #[])∧
 Ar .i64 (h1+1) (fun l1=>
 g1 [int .i64 l1] k1)))
 (R (pointer (some (nb f))) i1))→g1 [int .i64 h1] i1)→
 g1 [int .i64 0] c1)→b1 [] c1)→
 ∃m1 n1 o1,k.cell? ((nb f).add 1)=some (slice m1 n1 o1)∧
 ac (decide ((n1:Int)>0))
 (∃p1 q1 r1,k.cell? ((nb f).add 1)=some (slice p1 q1 r1)∧
 Ar .i64 ((n1:Int)-1) (fun s1=>
 af p1 (fun t1=>
 (0:Int)≤s1∧s1< (q1:Int)∧
 (int .i64 (-1)).oneCell'=true∧(∃u,k.cell? ((t1.add (s1.toNat*3)).add 2)=some u)∧k.frozen? ((t1.add (s1.toNat*3)).add 2)=false∧
 ∀u1,u1=(k.setCell ((t1.add (s1.toNat*3)).add 2) (int .i64 (-1)))→
 b1 [] u1)))
 (b1 [] k)))→i [int .i64 j] k)→
 i [int .i64 0] h)
theorem wT (a:OA) (b:ByteArray) (c:Int) (w:World) (R:RW) (hh:NQ a b c w R):CR 251 #[pointer a,string b,int .i64 c] w R:=
 az (fn:=Tryz.f251) (by kernel_rfl) (by kernel_rfl) (by kernel_rfl) (by kernel_rfl) (by kernel_rfl) hh
def MX (a:OA) (w:World) (R:RW):Prop:=
 ∀b:KW,(∀c:World,(∀d:KW,(∀f:World,(b [] f)→d [] f)→
 af a (fun g=>
 ∃h,c.cell? (g.add 2)=some (pointer h)∧
 CP 281 #[pointer h] c (fun i j=>
 ∃k l m n o p,i= .returned (tuple #[agg #[int .i64 k,int .i64 l,int .i64 m],int .i64 n,int .i64 o,bool p])∧
 ∀q,q=j.alloc (.cells #[int .i64 0,int .i64 0,int .i64 0] 357)→
 ax q (nb j) (fun r=>
 ac (!p)
 (R (tuple #[]) r)
 (∃s t u,(r.cell? (nb j)=some (int .i64 s)∧r.cell? ((nb j).add 1)=some (int .i64 t)∧r.cell? ((nb j).add 2)=some (int .i64 u)∧True)∧
 CP 282 #[pointer a,agg #[int .i64 s,int .i64 t,int .i64 u]] r (fun x y=>
 ∃z,x= .returned (bool z)∧
 ac (!z)
 (∃a1,y.cell? ((nb j).add 0)=some (int .i64 a1)∧
 CP 283 #[pointer a,int .i64 a1,int .i64 n] y (fun b1 c1=>
 b1= .returned (tuple #[])∧
 d [] c1))
 (d [] y)))) [int .i64 k,int .i64 l,int .i64 m] 0)))→b [] c)→
 b [] w
theorem zt (a:OA) (w:World) (R:RW) (hh:MX a w R):CR 252 #[pointer a] w R:=
 az (fn:=Tryz.f252) (by kernel_rfl) (by kernel_rfl) (by kernel_rfl) (by kernel_rfl) (by kernel_rfl) hh
def OT (a:OA) (w:World) (R:RW):Prop:=
 ∀b:KW,(∀(c:Int) (d:OA) (f g:Nat) (h:World),(ac (c != (-1))
 (af a (fun i=>
 ∃j k l,h.cell? (i.add 1)=some (slice j k l)∧
 ac (decide (c< (k:Int)))
 (af a (fun m=>
 ∃n o p,h.cell? (m.add 1)=some (slice n o p)∧
 af n (fun q=>
 (0:Int)≤c∧c< (o:Int)∧
 ∃r,h.cell? ((q.add (c.toNat*3)).add 0)=some (int .i64 r)∧
 ∀s,s=h.alloc (.cells #[int .i64 r] 3)→
 ∃t u x y,(Builtin.append_ #[28,28] 28 #[slice d f g,slice (some (nb h)) 1 1]).run Tryz.prog s= .ok (slice t u x) y∧
 af a (fun z=>
 ∃a1 b1 c1,y.cell? (z.add 1)=some (slice a1 b1 c1)∧
 af a1 (fun d1=>
 (0:Int)≤c∧c< (b1:Int)∧
 ∃e1,y.cell? ((d1.add (c.toNat*3)).add 2)=some (int .i64 e1)∧
 b [int .i64 e1,slice t u x] y)))))
 (R (slice d f g) h)))
 (R (slice d f g) h))→b [int .i64 c,slice d f g] h)→
 b [int .i64 0,slice none 0 0] w
theorem yl (a:OA) (w:World) (R:RW) (hh:OT a w R):CR 253 #[pointer a] w R:=
 az (fn:=Tryz.f253) (by kernel_rfl) (by kernel_rfl) (by kernel_rfl) (by kernel_rfl) (by kernel_rfl) hh
def Nv (a:OA) (b:Int) (w:World) (R:RW):Prop:=
 CP 174 #[pointer a,int .i64 b] w (fun c d=>
 ∃f g h,c= .returned (tuple #[agg #[int .i64 f,string g],bool h])∧
 ∀i,i=d.alloc (.cells #[int .i64 0,string ⟨#[]⟩] 87)→
 ax i (nb d) (fun j=>
 ∃k,j.cell? ((nb d).add 0)=some (int .i64 k)∧
 R (tuple #[int .i64 k,bool h]) j) [int .i64 f,string g] 0)
theorem z_ (a:OA) (b:Int) (w:World) (R:RW) (hh:Nv a b w R):CR 262 #[pointer a,int .i64 b] w R:=
 az (fn:=Tryz.f262) (by kernel_rfl) (by kernel_rfl) (by kernel_rfl) (by kernel_rfl) (by kernel_rfl) hh
def MY (a:OA) (w:World) (R:RW):Prop:=
 ∀b,b=w.drew→
 af a (fun c=>
 ∃d,b.cell? (c.add 2)=some (pointer d)∧
 af a (fun f=>
 ∃g,b.cell? (((f.add 0).add 0).add 0)=some (int .i64 g)∧
 af a (fun h=>
 ∃i,b.cell? (((h.add 0).add 0).add 1)=some (int .i64 i)∧
 CP 285 #[pointer d,int .i64 g,int .i64 i] b (fun j k=>
 ∃l m,j= .returned (tuple #[int .i64 l,bool m])∧
 ac m
 (af a (fun n=>
 ∃o,k.cell? (n.add 3)=some (int .i64 o)∧
 R (bool (decide (l<o))) k))
 (R (bool false) k)))))
theorem zI (a:OA) (w:World) (R:RW) (hh:MY a w R):CR 264 #[pointer a] w R:=
 az (fn:=Tryz.f264) (by kernel_rfl) (by kernel_rfl) (by kernel_rfl) (by kernel_rfl) (by kernel_rfl) hh
def M3 (a:OA) (w:World) (R:RW):Prop:=
 ∀b,b=w.drew→
 af a (fun c=>
 ∃d,b.cell? (((c.add 0).add 0).add 0)=some (int .i64 d)∧
 af a (fun f=>
 ∃g,b.cell? (((f.add 0).add 0).add 1)=some (int .i64 g)∧
 ac (decide (d>g))
 (CP 286 #[pointer a] b (fun h i=>
 ∃j,h= .returned (bool j)∧
 ac j
 (R (bool true) i)
 (CP 287 #[pointer a] i (fun k l=>
 ∃m,k= .returned (bool m)∧
 R (bool m) l))))
 (CP 287 #[pointer a] b (fun n o=>
 ∃p,n= .returned (bool p)∧
 ac p
 (R (bool true) o)
 (CP 286 #[pointer a] o (fun q r=>
 ∃s,q= .returned (bool s)∧
 R (bool s) r))))))
theorem Bp (a:OA) (w:World) (R:RW) (hh:M3 a w R):CR 265 #[pointer a] w R:=
 az (fn:=Tryz.f265) (by kernel_rfl) (by kernel_rfl) (by kernel_rfl) (by kernel_rfl) (by kernel_rfl) hh
def Og (w:World) (R:RW):Prop:=
 ∀a,a=w.alloc (.cells #[slice none 0 0,int .i64 0] 379)→
 R (pointer (some (nb w))) a
theorem xB (w:World) (R:RW) (hh:Og w R):CR 279 #[] w R:=
 az (fn:=Tryz.f279) (by kernel_rfl) (by kernel_rfl) (by kernel_rfl) (by kernel_rfl) (by kernel_rfl) hh
def PH (a:OA) (b:Int) (w:World) (R:RW):Prop:=
 ac (b==(-1))
 (R (tuple #[]) w)
 (af a (fun c=>
 ∃d f g,w.cell? (c.add 1)=some (slice d f g)∧
 af d (fun h=>
 (0:Int)≤b∧b< (f:Int)∧
 ∃i,w.cell? ((h.add (b.toNat*3)).add 2)=some (int .i64 i)∧
 ac (i==(-1))
 (R (tuple #[]) w)
 (∀j,j=w.drew→
 af a (fun k=>
 ∃l m n,j.cell? (k.add 1)=some (slice l m n)∧
 af l (fun o=>
 (0:Int)≤b∧b< (m:Int)∧
 ∃p,j.cell? ((o.add (b.toNat*3)).add 0)=some (int .i64 p)∧
 af a (fun q=>
 ∃r s t,j.cell? (q.add 1)=some (slice r s t)∧
 af a (fun u=>
 ∃x y z,j.cell? (u.add 1)=some (slice x y z)∧
 af x (fun a1=>
 (0:Int)≤b∧b< (y:Int)∧
 ∃b1,j.cell? ((a1.add (b.toNat*3)).add 2)=some (int .i64 b1)∧
 af r (fun c1=>
 (0:Int)≤b1∧b1< (s:Int)∧
 ∃d1,j.cell? ((c1.add (b1.toNat*3)).add 0)=some (int .i64 d1)∧
 ∀e1,e1=j.alloc (.cells #[int .i64 0,int .i64 0] 85)→
 (e1.cell? ((c1.add (b1.toNat*3)).add 0)=some (int .i64 d1)∧True)∧
 (e1.cell? ((a1.add (b.toNat*3)).add 2)=some (int .i64 b1)∧True)∧
 (e1.cell? (u.add 1)=some (slice x y z)∧True)∧
 (e1.cell? (q.add 1)=some (slice r s t)∧True)∧
 (e1.cell? ((o.add (b.toNat*3)).add 0)=some (int .i64 p)∧True)∧
 (e1.cell? (k.add 1)=some (slice l m n)∧True)∧
 ax e1 (nb j) (fun f1=>
 ∀g1,g1=f1.drew→
 af a (fun h1=>
 ∃i1,g1.cell? (h1.add 0)=some (pointer i1)∧
 ∃j1,g1.cell? ((nb j).add 0)=some (int .i64 j1)∧
 ∃k1,g1.cell? ((nb j).add 1)=some (int .i64 k1)∧
 CP 285 #[pointer i1,int .i64 j1,int .i64 k1] g1 (fun l1 m1=>
 ∃n1 o1,l1= .returned (tuple #[int .i64 n1,bool o1])∧
 ac o1
 (af a (fun p1=>
 ∃q1,m1.cell? (p1.add 3)=some (int .i64 q1)∧
 ac (decide (n1<q1))
 (∀r1,r1=m1.drew→
 af a (fun s1=>
 ∃t1,r1.cell? (s1.add 2)=some (pointer t1)∧
 ∃u1 v1,(r1.cell? (nb j)=some (int .i64 u1)∧r1.cell? ((nb j).add 1)=some (int .i64 v1)∧True)∧
 CP 305 #[pointer t1,int .i64 n1,int .i64 b,agg #[int .i64 b,int .i64 u1,int .i64 v1]] r1 (fun x1 y1=>
 x1= .returned (tuple #[])∧
 R (tuple #[]) y1)))
 (R (tuple #[]) m1)))
 (R (tuple #[]) m1)))) [int .i64 p,int .i64 d1] 0))))))))))
theorem B1 (a:OA) (b:Int) (w:World) (R:RW) (hh:PH a b w R):CR 280 #[pointer a,int .i64 b] w R:=
 az (fn:=Tryz.f280) (by kernel_rfl) (by kernel_rfl) (by kernel_rfl) (by kernel_rfl) (by kernel_rfl) hh
def Pk (a:OA) (w:World) (R:RW):Prop:=
 ∀b,b=w.alloc (.cells #[int .i64 0,int .i64 0,int .i64 0] 357)→
 CP 306 #[pointer a] b (fun c d=>
 ∃f g h i j k,c= .returned (tuple #[agg #[int .i64 f,int .i64 g,int .i64 h],int .i64 i,int .i64 j,bool k])∧
 ∀l,l=d.alloc (.cells #[int .i64 0,int .i64 0,int .i64 0] 357)→
 ax l (nb d) (fun m=>
 ∀n:KW,(∀o:World,(∃p q r,(o.cell? (nb d)=some (int .i64 p)∧o.cell? ((nb d).add 1)=some (int .i64 q)∧o.cell? ((nb d).add 2)=some (int .i64 r)∧True)∧
 ax o (nb w) (fun s=>
 ∃t x y,(s.cell? (nb w)=some (int .i64 t)∧s.cell? ((nb w).add 1)=some (int .i64 x)∧s.cell? ((nb w).add 2)=some (int .i64 y)∧True)∧
 R (tuple #[agg #[int .i64 t,int .i64 x,int .i64 y],int .i64 i,int .i64 j,bool k]) s) [int .i64 p,int .i64 q,int .i64 r] 0)→n [] o)→
 ac k
 (af a (fun z=>
 ∃a1 b1 c1,m.cell? (z.add 0)=some (slice a1 b1 c1)∧
 Ar .i64 ((b1:Int)-1) (fun d1=>
 CP 307 #[pointer a,int .i64 0,int .i64 d1] m (fun e1 f1=>
 e1= .returned (tuple #[])∧
 af a (fun g1=>
 ∃h1 i1 j1,f1.cell? (g1.add 0)=some (slice h1 i1 j1)∧
 (0:Int)≤(0:Int)∧(0:Int)≤d1∧d1≤(j1:Int)∧True∧True∧
 af a (fun k1=>
 (slice (cd h1 (0:Int).toNat (j1:Int).toNat 6) (d1.toNat- (0:Int).toNat) ((j1:Int).toNat- (0:Int).toNat)).oneCell'=true∧(∃u,f1.cell? (k1.add 0)=some u)∧f1.frozen? (k1.add 0)=false∧
 ∀l1,l1=(f1.setCell (k1.add 0) (slice (cd h1 (0:Int).toNat (j1:Int).toNat 6) (d1.toNat- (0:Int).toNat) ((j1:Int).toNat- (0:Int).toNat)))→
 CP 308 #[pointer a,int .i64 0] l1 (fun m1 n1=>
 m1= .returned (tuple #[])∧
 n [] n1)))))))
 (n [] m)) [int .i64 f,int .i64 g,int .i64 h] 0)
theorem yY (a:OA) (w:World) (R:RW) (hh:Pk a w R):CR 281 #[pointer a] w R:=
 az (fn:=Tryz.f281) (by kernel_rfl) (by kernel_rfl) (by kernel_rfl) (by kernel_rfl) (by kernel_rfl) hh
def NZ (a:OA) (b c d:Int) (w:World) (R:RW):Prop:=
 ∀f,f=w.alloc (.cells #[int .i64 b,int .i64 c,int .i64 d] 357)→
 ∀g,g=f.drew→
 af a (fun h=>
 ∃i j k,g.cell? (h.add 1)=some (slice i j k)∧
 ∃l,g.cell? ((nb w).add 0)=some (int .i64 l)∧
 af i (fun m=>
 (0:Int)≤l∧l< (j:Int)∧
 ∃n o p,(g.cell? (m.add (l.toNat*3))=some (int .i64 n)∧g.cell? ((m.add (l.toNat*3)).add 1)=some (int .i64 o)∧g.cell? ((m.add (l.toNat*3)).add 2)=some (int .i64 p)∧True)∧
 ∀q,q=g.alloc (.cells #[int .i64 0,int .i64 0,int .i64 0] 362)→
 (q.cell? (m.add (l.toNat*3))=some (int .i64 n)∧q.cell? ((m.add (l.toNat*3)).add 1)=some (int .i64 o)∧q.cell? ((m.add (l.toNat*3)).add 2)=some (int .i64 p)∧True)∧
 (q.cell? ((nb w).add 0)=some (int .i64 l)∧True)∧
 (q.cell? (h.add 1)=some (slice i j k)∧True)∧
 ax q (nb g) (fun r=>
 ∀s,s=r.drew→
 ∃t,s.cell? ((nb g).add 0)=some (int .i64 t)∧
 ∃u,s.cell? (((nb w).add 1).add 0)=some (int .i64 u)∧
 ac (t != u)
 (R (bool true) s)
 (∃x,s.cell? ((nb g).add 2)=some (int .i64 x)∧
 ac (x==(-1))
 (R (bool true) s)
 (af a (fun y=>
 ∃z a1 b1,s.cell? (y.add 1)=some (slice z a1 b1)∧
 ∃c1,s.cell? ((nb g).add 2)=some (int .i64 c1)∧
 af z (fun d1=>
 (0:Int)≤c1∧c1< (a1:Int)∧
 ∃e1,s.cell? ((d1.add (c1.toNat*3)).add 0)=some (int .i64 e1)∧
 ∃f1,s.cell? (((nb w).add 1).add 1)=some (int .i64 f1)∧
 R (bool (e1 != f1)) s))))) [int .i64 n,int .i64 o,int .i64 p] 0))
theorem xl (a:OA) (b c d:Int) (w:World) (R:RW) (hh:NZ a b c d w R):CR 282 #[pointer a,agg #[int .i64 b,int .i64 c,int .i64 d]] w R:=
 az (fn:=Tryz.f282) (by kernel_rfl) (by kernel_rfl) (by kernel_rfl) (by kernel_rfl) (by kernel_rfl) hh
def PA (a:OA) (b c:Int) (w:World) (R:RW):Prop:=
 af a (fun d=>
 ∃f g h,w.cell? (d.add 1)=some (slice f g h)∧
 af f (fun i=>
 (0:Int)≤b∧b< (g:Int)∧
 ∃j,w.cell? ((i.add (b.toNat*3)).add 2)=some (int .i64 j)∧
 af a (fun k=>
 ∃l m n,w.cell? (k.add 1)=some (slice l m n)∧
 af l (fun o=>
 (0:Int)≤j∧j< (m:Int)∧
 ∃p,w.cell? ((o.add (j.toNat*3)).add 2)=some (int .i64 p)∧
 af a (fun q=>
 ∃r s t,w.cell? (q.add 1)=some (slice r s t)∧
 af r (fun x=>
 (0:Int)≤j∧j< (s:Int)∧
 (int .i64 (-2)).oneCell'=true∧(∃u,w.cell? ((x.add (j.toNat*3)).add 0)=some u)∧w.frozen? ((x.add (j.toNat*3)).add 0)=false∧
 ∀y,y=(w.setCell ((x.add (j.toNat*3)).add 0) (int .i64 (-2)))→
 ∀z,z=y.drew→
 af a (fun a1=>
 ∃b1 c1 d1,z.cell? (a1.add 1)=some (slice b1 c1 d1)∧
 af a (fun e1=>
 ∃f1 g1 h1,z.cell? (e1.add 1)=some (slice f1 g1 h1)∧
 af b1 (fun i1=>
 (0:Int)≤b∧b< (c1:Int)∧
 (int .i64 c).oneCell'=true∧(∃u,z.cell? ((i1.add (b.toNat*3)).add 0)=some u)∧z.frozen? ((i1.add (b.toNat*3)).add 0)=false∧
 ∀j1,j1=(z.setCell ((i1.add (b.toNat*3)).add 0) (int .i64 c))→
 af f1 (fun k1=>
 (0:Int)≤b∧b< (g1:Int)∧
 (int .i64 p).oneCell'=true∧(∃u,j1.cell? ((k1.add (b.toNat*3)).add 2)=some u)∧j1.frozen? ((k1.add (b.toNat*3)).add 2)=false∧
 ∀l1,l1=(j1.setCell ((k1.add (b.toNat*3)).add 2) (int .i64 p))→
 ∀m1:KW,(∀n1:World,(af a (fun o1=>
 ∃p1,n1.cell? (o1.add 4)=some (int .i64 p1)∧
 Ar .i64 (p1+1) (fun q1=>
 af a (fun r1=>
 (int .i64 q1).oneCell'=true∧(∃u,n1.cell? (r1.add 4)=some u)∧n1.frozen? (r1.add 4)=false∧
 ∀s1,s1=(n1.setCell (r1.add 4) (int .i64 q1))→
 af a (fun t1=>
 ∃u1 v1 x1,s1.cell? (t1.add 1)=some (slice u1 v1 x1)∧
 af u1 (fun y1=>
 (0:Int)≤b∧b< (v1:Int)∧
 ∃z1,s1.cell? ((y1.add (b.toNat*3)).add 1)=some (int .i64 z1)∧
 CP 280 #[pointer a,int .i64 z1] s1 (fun a2 b2=>
 a2= .returned (tuple #[])∧
 CP 280 #[pointer a,int .i64 b] b2 (fun c2 d2=>
 c2= .returned (tuple #[])∧
 R (tuple #[]) d2))))))))→m1 [] n1)→
 ac (p != (-1))
 (af a (fun e2=>
 ∃f2 g2 h2,l1.cell? (e2.add 1)=some (slice f2 g2 h2)∧
 af f2 (fun i2=>
 (0:Int)≤p∧p< (g2:Int)∧
 (int .i64 b).oneCell'=true∧(∃u,l1.cell? ((i2.add (p.toNat*3)).add 1)=some u)∧l1.frozen? ((i2.add (p.toNat*3)).add 1)=false∧
 ∀j2,j2=(l1.setCell ((i2.add (p.toNat*3)).add 1) (int .i64 b))→
 m1 [] j2)))
 (m1 [] l1)))))))))))
theorem y_ (a:OA) (b c:Int) (w:World) (R:RW) (hh:PA a b c w R):CR 283 #[pointer a,int .i64 b,int .i64 c] w R:=
 az (fn:=Tryz.f283) (by kernel_rfl) (by kernel_rfl) (by kernel_rfl) (by kernel_rfl) (by kernel_rfl) hh
def NH (a:OA) (b c:Int) (w:World) (R:RW):Prop:=
 ac (Option.isNone a)
 (R (tuple #[int .i64 0,bool false]) w)
 (af a (fun d=>
 ∃f,w.cell? (d.add 2)=some (map f)∧
 ∃g h i,(Instr.lookup 259 (map f) (agg #[int .i64 b,int .i64 c]) true).run Tryz.prog w= .ok (tuple #[int .i64 g,bool h]) i∧
 R (tuple #[int .i64 g,bool h]) i))
theorem BB (a:OA) (b c:Int) (w:World) (R:RW) (hh:NH a b c w R):CR 285 #[pointer a,int .i64 b,int .i64 c] w R:=
 az (fn:=Tryz.f285) (by kernel_rfl) (by kernel_rfl) (by kernel_rfl) (by kernel_rfl) (by kernel_rfl) hh
def O1 (a:OA) (w:World) (R:RW):Prop:=
 ∀b,b=w.drew→
 af a (fun c=>
 ∃d,b.cell? (c.add 2)=some (pointer d)∧
 af a (fun f=>
 ∃g,b.cell? (((f.add 0).add 0).add 0)=some (int .i64 g)∧
 (CP 309 #[pointer d,int .i64 g] b (fun h i=>
 ∃j k l,h= .returned (tuple #[agg #[int .i64 j,int .i64 k],bool l])∧
 ∀m,m=i.alloc (.cells #[int .i64 0,int .i64 0] 85)→
 ax m (nb i) (fun n=>
 ∀o:KW,(∀p:World,(R (bool l) p)→o [] p)→
 ac l
 (∀q,q=n.drew→
 af a (fun r=>
 ∃s,q.cell? (((r.add 0).add 0).add 0)=some (int .i64 s)∧
 ∃t,q.cell? ((nb i).add 1)=some (int .i64 t)∧
 af a (fun x=>
 (int .i64 s).oneCell'=true∧(∃u,q.cell? (x.add 3)=some u)∧q.frozen? (x.add 3)=false∧
 ∀y,y=(q.setCell (x.add 3) (int .i64 s))→
 (y.cell? ((nb i).add 1)=some (int .i64 t)∧True)∧
 af a (fun z=>
 (int .i64 t).oneCell'=true∧(∃u,y.cell? (((z.add 0).add 0).add 0)=some u)∧y.frozen? (((z.add 0).add 0).add 0)=false∧
 ∀a1,a1=(y.setCell (((z.add 0).add 0).add 0) (int .i64 t))→
 af a (fun b1=>
 ∃c1,a1.cell? (b1.add 4)=some (int .i64 c1)∧
 Ar .i64 (c1+1) (fun d1=>
 af a (fun e1=>
 (int .i64 d1).oneCell'=true∧(∃u,a1.cell? (e1.add 4)=some u)∧a1.frozen? (e1.add 4)=false∧
 ∀f1,f1=(a1.setCell (e1.add 4) (int .i64 d1))→
 o [] f1)))))))
 (o [] n)) [int .i64 j,int .i64 k] 0))∧
 (∀g1,g1=b.alloc (.cells #[int .i64 0,int .i64 0] 85)→
 (g1.cell? (((f.add 0).add 0).add 0)=some (int .i64 g)∧True)∧
 (g1.cell? (c.add 2)=some (pointer d)∧True)∧
 CP 309 #[pointer d,int .i64 g] g1 (fun h1 i1=>
 ∃j1 k1 l1,h1= .returned (tuple #[agg #[int .i64 j1,int .i64 k1],bool l1])∧
 ax i1 (nb b) (fun m1=>
 ∀n1:KW,(∀o1:World,(R (bool l1) o1)→n1 [] o1)→
 ac l1
 (∀p1,p1=m1.drew→
 af a (fun q1=>
 ∃r1,p1.cell? (((q1.add 0).add 0).add 0)=some (int .i64 r1)∧
 ∃s1,p1.cell? ((nb b).add 1)=some (int .i64 s1)∧
 af a (fun t1=>
 (int .i64 r1).oneCell'=true∧(∃u,p1.cell? (t1.add 3)=some u)∧p1.frozen? (t1.add 3)=false∧
 ∀u1,u1=(p1.setCell (t1.add 3) (int .i64 r1))→
 (u1.cell? ((nb b).add 1)=some (int .i64 s1)∧True)∧
 af a (fun v1=>
 (int .i64 s1).oneCell'=true∧(∃u,u1.cell? (((v1.add 0).add 0).add 0)=some u)∧u1.frozen? (((v1.add 0).add 0).add 0)=false∧
 ∀x1,x1=(u1.setCell (((v1.add 0).add 0).add 0) (int .i64 s1))→
 af a (fun y1=>
 ∃z1,x1.cell? (y1.add 4)=some (int .i64 z1)∧
 Ar .i64 (z1+1) (fun a2=>
 af a (fun b2=>
 (int .i64 a2).oneCell'=true∧(∃u,x1.cell? (b2.add 4)=some u)∧x1.frozen? (b2.add 4)=false∧
 ∀c2,c2=(x1.setCell (b2.add 4) (int .i64 a2))→
 n1 [] c2)))))))
 (n1 [] m1)) [int .i64 j1,int .i64 k1] 0))))
theorem BQ (a:OA) (w:World) (R:RW) (hh:O1 a w R):CR 286 #[pointer a] w R:=
 az (fn:=Tryz.f286) (by kernel_rfl) (by kernel_rfl) (by kernel_rfl) (by kernel_rfl) (by kernel_rfl) hh
def ON (a:OA) (w:World) (R:RW):Prop:=
 ∀b,b=w.drew→
 af a (fun c=>
 ∃d,b.cell? (c.add 2)=some (pointer d)∧
 af a (fun f=>
 ∃g,b.cell? (((f.add 0).add 0).add 1)=some (int .i64 g)∧
 (CP 309 #[pointer d,int .i64 g] b (fun h i=>
 ∃j k l,h= .returned (tuple #[agg #[int .i64 j,int .i64 k],bool l])∧
 ∀m,m=i.alloc (.cells #[int .i64 0,int .i64 0] 85)→
 ax m (nb i) (fun n=>
 ∀o:KW,(∀p:World,(R (bool l) p)→o [] p)→
 ac l
 (∀q,q=n.drew→
 af a (fun r=>
 ∃s,q.cell? (((r.add 0).add 0).add 1)=some (int .i64 s)∧
 Ar .i64 (s+1) (fun t=>
 ∃x,q.cell? ((nb i).add 0)=some (int .i64 x)∧
 af a (fun y=>
 (int .i64 t).oneCell'=true∧(∃u,q.cell? (y.add 3)=some u)∧q.frozen? (y.add 3)=false∧
 ∀z,z=(q.setCell (y.add 3) (int .i64 t))→
 (z.cell? ((nb i).add 0)=some (int .i64 x)∧True)∧
 af a (fun a1=>
 (int .i64 x).oneCell'=true∧(∃u,z.cell? (((a1.add 0).add 0).add 1)=some u)∧z.frozen? (((a1.add 0).add 0).add 1)=false∧
 ∀b1,b1=(z.setCell (((a1.add 0).add 0).add 1) (int .i64 x))→
 af a (fun c1=>
 ∃d1,b1.cell? (c1.add 4)=some (int .i64 d1)∧
 Ar .i64 (d1+1) (fun e1=>
 af a (fun f1=>
 (int .i64 e1).oneCell'=true∧(∃u,b1.cell? (f1.add 4)=some u)∧b1.frozen? (f1.add 4)=false∧
 ∀g1,g1=(b1.setCell (f1.add 4) (int .i64 e1))→
 o [] g1))))))))
 (o [] n)) [int .i64 j,int .i64 k] 0))∧
 (∀h1,h1=b.alloc (.cells #[int .i64 0,int .i64 0] 85)→
 (h1.cell? (((f.add 0).add 0).add 1)=some (int .i64 g)∧True)∧
 (h1.cell? (c.add 2)=some (pointer d)∧True)∧
 CP 309 #[pointer d,int .i64 g] h1 (fun i1 j1=>
 ∃k1 l1 m1,i1= .returned (tuple #[agg #[int .i64 k1,int .i64 l1],bool m1])∧
 ax j1 (nb b) (fun n1=>
 ∀o1:KW,(∀p1:World,(R (bool m1) p1)→o1 [] p1)→
 ac m1
 (∀q1,q1=n1.drew→
 af a (fun r1=>
 ∃s1,q1.cell? (((r1.add 0).add 0).add 1)=some (int .i64 s1)∧
 Ar .i64 (s1+1) (fun t1=>
 ∃u1,q1.cell? ((nb b).add 0)=some (int .i64 u1)∧
 af a (fun v1=>
 (int .i64 t1).oneCell'=true∧(∃u,q1.cell? (v1.add 3)=some u)∧q1.frozen? (v1.add 3)=false∧
 ∀x1,x1=(q1.setCell (v1.add 3) (int .i64 t1))→
 (x1.cell? ((nb b).add 0)=some (int .i64 u1)∧True)∧
 af a (fun y1=>
 (int .i64 u1).oneCell'=true∧(∃u,x1.cell? (((y1.add 0).add 0).add 1)=some u)∧x1.frozen? (((y1.add 0).add 0).add 1)=false∧
 ∀z1,z1=(x1.setCell (((y1.add 0).add 0).add 1) (int .i64 u1))→
 af a (fun a2=>
 ∃b2,z1.cell? (a2.add 4)=some (int .i64 b2)∧
 Ar .i64 (b2+1) (fun c2=>
 af a (fun d2=>
 (int .i64 c2).oneCell'=true∧(∃u,z1.cell? (d2.add 4)=some u)∧z1.frozen? (d2.add 4)=false∧
 ∀e2,e2=(z1.setCell (d2.add 4) (int .i64 c2))→
 o1 [] e2))))))))
 (o1 [] n1)) [int .i64 k1,int .i64 l1] 0))))
theorem BY (a:OA) (w:World) (R:RW) (hh:ON a w R):CR 287 #[pointer a] w R:=
 az (fn:=Tryz.f287) (by kernel_rfl) (by kernel_rfl) (by kernel_rfl) (by kernel_rfl) (by kernel_rfl) hh
def OS (a:OA) (b c d f g:Int) (w:World) (R:RW):Prop:=
 ∀h,h=w.alloc (.cells #[int .i64 d,int .i64 f,int .i64 g] 357)→
 ac (Option.isNone a)
 (R (tuple #[]) h)
 (∀i,i=h.drew→
 af a (fun j=>
 ∃k l m,i.cell? (j.add 0)=some (slice k l m)∧
 af a (fun n=>
 ∃o,i.cell? (n.add 1)=some (int .i64 o)∧
 ∃p q r,(i.cell? (nb w)=some (int .i64 p)∧i.cell? ((nb w).add 1)=some (int .i64 q)∧i.cell? ((nb w).add 2)=some (int .i64 r)∧True)∧
 ∀s,s=i.alloc (.cells #[int .i64 b,int .i64 c,int .i64 o,int .i64 p,int .i64 q,int .i64 r] 389)→
 (s.cell? (j.add 0)=some (slice k l m)∧True)∧
 ∃t x y z,(Builtin.append_ #[377,377] 377 #[slice k l m,slice (some (nb i)) 1 1]).run Tryz.prog s= .ok (slice t x y) z∧
 af a (fun a1=>
 (slice t x y).oneCell'=true∧(∃u,z.cell? (a1.add 0)=some u)∧z.frozen? (a1.add 0)=false∧
 ∀b1,b1=(z.setCell (a1.add 0) (slice t x y))→
 af a (fun c1=>
 ∃d1,b1.cell? (c1.add 1)=some (int .i64 d1)∧
 Ar .i64 (d1+1) (fun e1=>
 af a (fun f1=>
 (int .i64 e1).oneCell'=true∧(∃u,b1.cell? (f1.add 1)=some u)∧b1.frozen? (f1.add 1)=false∧
 ∀g1,g1=(b1.setCell (f1.add 1) (int .i64 e1))→
 af a (fun h1=>
 ∃i1 j1 k1,g1.cell? (h1.add 0)=some (slice i1 j1 k1)∧
 Ar .i64 ((j1:Int)-1) (fun l1=>
 CP 319 #[pointer a,int .i64 l1] g1 (fun m1 n1=>
 m1= .returned (tuple #[])∧
 R (tuple #[]) n1))))))))))
theorem AT (a:OA) (b c d f g:Int) (w:World) (R:RW) (hh:OS a b c d f g w R):CR 305 #[pointer a,int .i64 b,int .i64 c,agg #[int .i64 d,int .i64 f,int .i64 g]] w R:=
 az (fn:=Tryz.f305) (by kernel_rfl) (by kernel_rfl) (by kernel_rfl) (by kernel_rfl) (by kernel_rfl) hh
def PI (a:OA) (w:World) (R:RW):Prop:=
 ∀b,b=w.alloc (.cells #[int .i64 0,int .i64 0,int .i64 0] 357)→
 CP 320 #[pointer a] b (fun c d=>
 ∃f,c= .returned (int .i64 f)∧
 ac (f==0)
 (∀g,g=d.alloc (.cells #[int .i64 0,int .i64 0,int .i64 0] 357)→
 ∃h i j,(g.cell? (nb d)=some (int .i64 h)∧g.cell? ((nb d).add 1)=some (int .i64 i)∧g.cell? ((nb d).add 2)=some (int .i64 j)∧True)∧
 ax g (nb w) (fun k=>
 ∃l m n,(k.cell? (nb w)=some (int .i64 l)∧k.cell? ((nb w).add 1)=some (int .i64 m)∧k.cell? ((nb w).add 2)=some (int .i64 n)∧True)∧
 R (tuple #[agg #[int .i64 l,int .i64 m,int .i64 n],int .i64 0,int .i64 0,bool false]) k) [int .i64 h,int .i64 i,int .i64 j] 0)
 (af a (fun o=>
 ∃p q r,d.cell? (o.add 0)=some (slice p q r)∧
 af p (fun s=>
 (0:Int)≤0∧0< (q:Int)∧
 ∃t u x y z a1,(d.cell? (s.add ((0:Int).toNat*6))=some (int .i64 t)∧d.cell? ((s.add ((0:Int).toNat*6)).add 1)=some (int .i64 u)∧d.cell? ((s.add ((0:Int).toNat*6)).add 2)=some (int .i64 x)∧d.cell? ((s.add ((0:Int).toNat*6)).add 3)=some (int .i64 y)∧d.cell? ((s.add ((0:Int).toNat*6)).add 4)=some (int .i64 z)∧d.cell? ((s.add ((0:Int).toNat*6)).add 5)=some (int .i64 a1)∧True)∧
 ∀b1,b1=d.alloc (.cells #[int .i64 0,int .i64 0,int .i64 0,int .i64 0,int .i64 0,int .i64 0] 389)→
 ax b1 (nb d) (fun c1=>
 ∀d1,d1=c1.drew→
 ∃e1 f1 g1,(d1.cell? ((nb d).add 3)=some (int .i64 e1)∧d1.cell? (((nb d).add 3).add 1)=some (int .i64 f1)∧d1.cell? (((nb d).add 3).add 2)=some (int .i64 g1)∧True)∧
 ∃h1,d1.cell? (((nb d).add 0).add 0)=some (int .i64 h1)∧
 ∃i1,d1.cell? (((nb d).add 0).add 1)=some (int .i64 i1)∧
 ax d1 (nb w) (fun j1=>
 (j1.cell? (((nb d).add 0).add 1)=some (int .i64 i1)∧True)∧
 (j1.cell? (((nb d).add 0).add 0)=some (int .i64 h1)∧True)∧
 ∃k1 l1 m1,(j1.cell? (nb w)=some (int .i64 k1)∧j1.cell? ((nb w).add 1)=some (int .i64 l1)∧j1.cell? ((nb w).add 2)=some (int .i64 m1)∧True)∧
 R (tuple #[agg #[int .i64 k1,int .i64 l1,int .i64 m1],int .i64 h1,int .i64 i1,bool true]) j1) [int .i64 e1,int .i64 f1,int .i64 g1] 0) [int .i64 t,int .i64 u,int .i64 x,int .i64 y,int .i64 z,int .i64 a1] 0))))
theorem AR (a:OA) (w:World) (R:RW) (hh:PI a w R):CR 306 #[pointer a] w R:=
 az (fn:=Tryz.f306) (by kernel_rfl) (by kernel_rfl) (by kernel_rfl) (by kernel_rfl) (by kernel_rfl) hh
def Pv (a:OA) (b c:Int) (w:World) (R:RW):Prop:=
 ∀d,d=w.drew→
 af a (fun f=>
 ∃g h i,d.cell? (f.add 0)=some (slice g h i)∧
 af a (fun j=>
 ∃k l m,d.cell? (j.add 0)=some (slice k l m)∧
 af a (fun n=>
 ∃o p q,d.cell? (n.add 0)=some (slice o p q)∧
 af o (fun r=>
 (0:Int)≤c∧c< (p:Int)∧
 ∃s t u x y z,(d.cell? (r.add (c.toNat*6))=some (int .i64 s)∧d.cell? ((r.add (c.toNat*6)).add 1)=some (int .i64 t)∧d.cell? ((r.add (c.toNat*6)).add 2)=some (int .i64 u)∧d.cell? ((r.add (c.toNat*6)).add 3)=some (int .i64 x)∧d.cell? ((r.add (c.toNat*6)).add 4)=some (int .i64 y)∧d.cell? ((r.add (c.toNat*6)).add 5)=some (int .i64 z)∧True)∧
 af a (fun a1=>
 ∃b1 c1 d1,d.cell? (a1.add 0)=some (slice b1 c1 d1)∧
 af b1 (fun e1=>
 (0:Int)≤b∧b< (c1:Int)∧
 ∃f1 g1 h1 i1 j1 k1,(d.cell? (e1.add (b.toNat*6))=some (int .i64 f1)∧d.cell? ((e1.add (b.toNat*6)).add 1)=some (int .i64 g1)∧d.cell? ((e1.add (b.toNat*6)).add 2)=some (int .i64 h1)∧d.cell? ((e1.add (b.toNat*6)).add 3)=some (int .i64 i1)∧d.cell? ((e1.add (b.toNat*6)).add 4)=some (int .i64 j1)∧d.cell? ((e1.add (b.toNat*6)).add 5)=some (int .i64 k1)∧True)∧
 af g (fun l1=>
 (0:Int)≤b∧b< (h:Int)∧
 ax d (l1.add (b.toNat*6)) (fun m1=>
 af k (fun n1=>
 (0:Int)≤c∧c< (l:Int)∧
 ax m1 (n1.add (c.toNat*6)) (fun o1=>
 R (tuple #[]) o1) [int .i64 f1,int .i64 g1,int .i64 h1,int .i64 i1,int .i64 j1,int .i64 k1] 0)) [int .i64 s,int .i64 t,int .i64 u,int .i64 x,int .i64 y,int .i64 z] 0)))))))
theorem Af (a:OA) (b c:Int) (w:World) (R:RW) (hh:Pv a b c w R):CR 307 #[pointer a,int .i64 b,int .i64 c] w R:=
 az (fn:=Tryz.f307) (by kernel_rfl) (by kernel_rfl) (by kernel_rfl) (by kernel_rfl) (by kernel_rfl) hh
def M2 (a:OA) (b:Int) (w:World) (R:RW):Prop:=
 ∀c:KW,(∀(d:Int) (f:World),(Ar .i64 ((2:Int)*d) (fun g=>
 Ar .i64 (g+1) (fun h=>
 Ar .i64 ((2:Int)*d) (fun i=>
 Ar .i64 (i+2) (fun j=>
 ∀k:KW,(∀(l m:Int) (n:World),(ac (decide (l<2))
 (∀o:KW,(∀(p:Int) (q:World),(Ar .i64 (l+1) (fun r=>
 k [int .i64 r,int .i64 p] q))→o [int .i64 p] q)→
 ∃s t,(Instr.index 390 (agg #[int .i64 h,int .i64 j]) (int .i64 l)).run Tryz.prog n= .ok (int .i64 s) t∧
 ∀u,u=t.drew→
 af a (fun x=>
 ∃y z a1,u.cell? (x.add 0)=some (slice y z a1)∧
 ac (decide (s< (z:Int)))
 (af a (fun b1=>
 ∃c1 d1 e1,u.cell? (b1.add 0)=some (slice c1 d1 e1)∧
 af c1 (fun f1=>
 (0:Int)≤s∧s< (d1:Int)∧
 ∃g1 h1 i1,(u.cell? ((f1.add (s.toNat*6)).add 0)=some (int .i64 g1)∧u.cell? (((f1.add (s.toNat*6)).add 0).add 1)=some (int .i64 h1)∧u.cell? (((f1.add (s.toNat*6)).add 0).add 2)=some (int .i64 i1)∧True)∧
 af a (fun j1=>
 ∃k1 l1 m1,u.cell? (j1.add 0)=some (slice k1 l1 m1)∧
 af k1 (fun n1=>
 (0:Int)≤m∧m< (l1:Int)∧
 ∃o1 p1 q1,(u.cell? ((n1.add (m.toNat*6)).add 0)=some (int .i64 o1)∧u.cell? (((n1.add (m.toNat*6)).add 0).add 1)=some (int .i64 p1)∧u.cell? (((n1.add (m.toNat*6)).add 0).add 2)=some (int .i64 q1)∧True)∧
 CP 321 #[agg #[int .i64 g1,int .i64 h1,int .i64 i1],agg #[int .i64 o1,int .i64 p1,int .i64 q1]] u (fun r1 s1=>
 ∃t1,r1= .returned (bool t1)∧
 ac t1
 (o [int .i64 s] s1)
 (o [int .i64 m] s1)))))))
 (o [int .i64 m] u)))
 (ac (m==d)
 (R (tuple #[]) n)
 (CP 307 #[pointer a,int .i64 d,int .i64 m] n (fun u1 v1=>
 u1= .returned (tuple #[])∧
 c [int .i64 m] v1))))→k [int .i64 l,int .i64 m] n)→
 k [int .i64 0,int .i64 d] f)))))→c [int .i64 d] f)→
 c [int .i64 b] w
theorem zr (a:OA) (b:Int) (w:World) (R:RW) (hh:M2 a b w R):CR 308 #[pointer a,int .i64 b] w R:=
 az (fn:=Tryz.f308) (by kernel_rfl) (by kernel_rfl) (by kernel_rfl) (by kernel_rfl) (by kernel_rfl) hh
def PG (a:OA) (b:Int) (w:World) (R:RW):Prop:=
 ∀c,c=w.alloc (.cells #[int .i64 0,int .i64 0] 85)→
 CP 210 #[pointer a,int .i64 b] c (fun d f=>
 ∃g,d= .returned (bool g)∧
 ac (!g)
 (ax f (nb w) (fun h=>
 ∃i j,(h.cell? (nb w)=some (int .i64 i)∧h.cell? ((nb w).add 1)=some (int .i64 j)∧True)∧
 R (tuple #[agg #[int .i64 i,int .i64 j],bool false]) h) [int .i64 0,int .i64 0] 0)
 (af a (fun k=>
 ∃l m n,f.cell? (k.add 0)=some (slice l m n)∧
 af l (fun o=>
 (0:Int)≤b∧b< (m:Int)∧
 ∃p q,(f.cell? ((o.add (b.toNat*3)).add 1)=some (int .i64 p)∧f.cell? (((o.add (b.toNat*3)).add 1).add 1)=some (int .i64 q)∧True)∧
 ac ((p== -1)&&((q== -1)&&(true)))
 (ax f (nb w) (fun r=>
 ∃s t,(r.cell? (nb w)=some (int .i64 s)∧r.cell? ((nb w).add 1)=some (int .i64 t)∧True)∧
 R (tuple #[agg #[int .i64 s,int .i64 t],bool false]) r) [int .i64 0,int .i64 0] 0)
 (af a (fun u=>
 ∃x y z,f.cell? (u.add 0)=some (slice x y z)∧
 af x (fun a1=>
 (0:Int)≤b∧b< (y:Int)∧
 ∃b1 c1,(f.cell? ((a1.add (b.toNat*3)).add 1)=some (int .i64 b1)∧f.cell? (((a1.add (b.toNat*3)).add 1).add 1)=some (int .i64 c1)∧True)∧
 ax f (nb w) (fun d1=>
 ∃e1 f1,(d1.cell? (nb w)=some (int .i64 e1)∧d1.cell? ((nb w).add 1)=some (int .i64 f1)∧True)∧
 R (tuple #[agg #[int .i64 e1,int .i64 f1],bool true]) d1) [int .i64 b1,int .i64 c1] 0)))))))
theorem yi (a:OA) (b:Int) (w:World) (R:RW) (hh:PG a b w R):CR 309 #[pointer a,int .i64 b] w R:=
 az (fn:=Tryz.f309) (by kernel_rfl) (by kernel_rfl) (by kernel_rfl) (by kernel_rfl) (by kernel_rfl) hh
def OB (a:OA) (b:Int) (w:World) (R:RW):Prop:=
 ∀c:KW,(∀(d:Int) (f:World),(ac (decide (d>0))
 (Ar .i64 (d-1) (fun g=>
 (2:Int)≠0∧
 ∀h,h=f.drew→
 af a (fun i=>
 ∃j k l,h.cell? (i.add 0)=some (slice j k l)∧
 af j (fun m=>
 (0:Int)≤d∧d< (k:Int)∧
 ∃n o p,(h.cell? ((m.add (d.toNat*6)).add 0)=some (int .i64 n)∧h.cell? (((m.add (d.toNat*6)).add 0).add 1)=some (int .i64 o)∧h.cell? (((m.add (d.toNat*6)).add 0).add 2)=some (int .i64 p)∧True)∧
 af a (fun q=>
 ∃r s t,h.cell? (q.add 0)=some (slice r s t)∧
 af r (fun u=>
 (0:Int)≤(IntKind.wrap .i64 (Int.tdiv g 2))∧(IntKind.wrap .i64 (Int.tdiv g 2)) < (s:Int)∧
 ∃x y z,(h.cell? ((u.add ((IntKind.wrap .i64 (Int.tdiv g 2):Int).toNat*6)).add 0)=some (int .i64 x)∧h.cell? (((u.add ((IntKind.wrap .i64 (Int.tdiv g 2):Int).toNat*6)).add 0).add 1)=some (int .i64 y)∧h.cell? (((u.add ((IntKind.wrap .i64 (Int.tdiv g 2):Int).toNat*6)).add 0).add 2)=some (int .i64 z)∧True)∧
 CP 321 #[agg #[int .i64 n,int .i64 o,int .i64 p],agg #[int .i64 x,int .i64 y,int .i64 z]] h (fun a1 b1=>
 ∃c1,a1= .returned (bool c1)∧
 ac (!c1)
 (R (tuple #[]) b1)
 (CP 307 #[pointer a,int .i64 d,int .i64 (IntKind.wrap .i64 (Int.tdiv g 2))] b1 (fun d1 e1=>
 d1= .returned (tuple #[])∧
 c [int .i64 (IntKind.wrap .i64 (Int.tdiv g 2))] e1)))))))))
 (R (tuple #[]) f))→c [int .i64 d] f)→
 c [int .i64 b] w
theorem yh (a:OA) (b:Int) (w:World) (R:RW) (hh:OB a b w R):CR 319 #[pointer a,int .i64 b] w R:=
 az (fn:=Tryz.f319) (by kernel_rfl) (by kernel_rfl) (by kernel_rfl) (by kernel_rfl) (by kernel_rfl) hh
def NS (a:OA) (w:World) (R:RW):Prop:=
 ac (Option.isNone a)
 (R (int .i64 0) w)
 (af a (fun b=>
 ∃c d f,w.cell? (b.add 0)=some (slice c d f)∧
 R (int .i64 (d:Int)) w))
theorem zE (a:OA) (w:World) (R:RW) (hh:NS a w R):CR 320 #[pointer a] w R:=
 az (fn:=Tryz.f320) (by kernel_rfl) (by kernel_rfl) (by kernel_rfl) (by kernel_rfl) (by kernel_rfl) hh
def Pd (a b c d f g:Int) (w:World) (R:RW):Prop:=
 ∀h,h=w.alloc (.cells #[int .i64 a,int .i64 b,int .i64 c] 387)→
 ∀i,i=h.alloc (.cells #[int .i64 d,int .i64 f,int .i64 g] 387)→
 ∃j,i.cell? ((nb w).add 0)=some (int .i64 j)∧
 ∃k,i.cell? ((nb h).add 0)=some (int .i64 k)∧
 ac (j != k)
 (∃l,i.cell? ((nb w).add 0)=some (int .i64 l)∧
 ∃m,i.cell? ((nb h).add 0)=some (int .i64 m)∧
 R (bool (decide (l<m))) i)
 (∃n,i.cell? ((nb w).add 1)=some (int .i64 n)∧
 ∃o,i.cell? ((nb h).add 1)=some (int .i64 o)∧
 ac (n != o)
 (∃p,i.cell? ((nb w).add 1)=some (int .i64 p)∧
 ∃q,i.cell? ((nb h).add 1)=some (int .i64 q)∧
 R (bool (decide (p<q))) i)
 (∃r,i.cell? ((nb w).add 2)=some (int .i64 r)∧
 ∃s,i.cell? ((nb h).add 2)=some (int .i64 s)∧
 R (bool (decide (r<s))) i))
theorem zX (a b c d f g:Int) (w:World) (R:RW) (hh:Pd a b c d f g w R):CR 321 #[agg #[int .i64 a,int .i64 b,int .i64 c],agg #[int .i64 d,int .i64 f,int .i64 g]] w R:=
 az (fn:=Tryz.f321) (by kernel_rfl) (by kernel_rfl) (by kernel_rfl) (by kernel_rfl) (by kernel_rfl) hh
def P2 (a b:OA) (c d:Nat) (w:World) (R:RW):Prop:=
 ∀f,f=w.alloc (.cells #[pointer a] 144)→
 ∃g,f.cell? ((nb w).add 0)=some (pointer g)∧
 CP 127 #[pointer g,slice b c d] f (fun h i=>
 ∃j k,h= .returned (tuple #[int .i64 j,bool k])∧
 R (tuple #[int .i64 j,bool k]) i)
theorem AL (a b:OA) (c d:Nat) (w:World) (R:RW) (hh:P2 a b c d w R):CR 372 #[agg #[pointer a],slice b c d] w R:=
 az (fn:=Tryz.f372) (by kernel_rfl) (by kernel_rfl) (by kernel_rfl) (by kernel_rfl) (by kernel_rfl) hh
end Go.Proofs.YtijbcdiffjjefaaGreatDoor.Eng
