/- What these functions owe, printed by a program of this repo out of the translation. -/
import Derived.Test.YtijbcdiffjjefaaGreatDoorZtTab
import Derived.Test.YtijbcdiffjjefaaGreatDoorZtEng
import Derived.Laws.AppendOwn
import Derived.Maps.AppendAt
import Derived.Below
import Derived.Lib.Builder
import Derived.SizedLaws
import Derived.Handed
import Derived.LaidLaws
import Derived.Stop.Joined
import Derived.Lib.UnsafeStr
import Derived.Laws.IdiomStrings
import Derived.Laws.BytesArg
import Derived.Laws.OwnMore
import Derived.DataElems
import Derived.Deep.Slices
import Derived.ChangeArms
set_option linter.unusedVariables false
set_option maxRecDepth 100000
namespace Go.Proofs.YtijbcdiffjjefaaGreatDoor.Eng
open Go Go.Value
def Lt (a:Bool) (b:OA) (c d:Nat) (f:OA) (g h:Nat) (i:OA) (j k:Nat) (l:OA) (m n:Nat) (o:OA) (p q:Nat) (w:World) (R:RW):Prop:=
 ∀r,r=w.alloc (.cells #[bool a,slice b c d,slice f g h,slice i j k,slice l m n,slice o p q] 71)→
 ∃s t u x y z a1 b1 c1 d1 e1 f1 g1 h1 i1 j1,(r.cell? (nb w)=some (bool s)∧r.cell? ((nb w).add 1)=some (slice t u x)∧r.cell? ((nb w).add 2)=some (slice y z a1)∧r.cell? ((nb w).add 3)=some (slice b1 c1 d1)∧r.cell? ((nb w).add 4)=some (slice e1 f1 g1)∧r.cell? ((nb w).add 5)=some (slice h1 i1 j1)∧True)∧
 CP 101 #[agg #[bool s,slice t u x,slice y z a1,slice b1 c1 d1,slice e1 f1 g1,slice h1 i1 j1]] r (fun k1 l1=>
 ∃m1,k1= .returned (bool m1)∧
 aa (!m1)
 (R (tuple #[pointer none,int .i64 0,int .i64 1]) l1)
 (∃n1 o1 p1 q1 r1 s1 t1 u1 v1 x1 y1 z1 a2 b2 c2 d2,(l1.cell? (nb w)=some (bool n1)∧l1.cell? ((nb w).add 1)=some (slice o1 p1 q1)∧l1.cell? ((nb w).add 2)=some (slice r1 s1 t1)∧l1.cell? ((nb w).add 3)=some (slice u1 v1 x1)∧l1.cell? ((nb w).add 4)=some (slice y1 z1 a2)∧l1.cell? ((nb w).add 5)=some (slice b2 c2 d2)∧True)∧
 CP 91 #[agg #[bool n1,slice o1 p1 q1,slice r1 s1 t1,slice u1 v1 x1,slice y1 z1 a2,slice b2 c2 d2]] l1 (fun e2 f2=>
 ∃g2 h2 i2 j2,e2= .returned (tuple #[pointer g2,int .i64 h2,int .i64 i2,int .i64 j2])∧
 R (tuple #[pointer g2,int .i64 i2,int .i64 j2]) f2)))
theorem Ap (a:Bool) (b:OA) (c d:Nat) (f:OA) (g h:Nat) (i:OA) (j k:Nat) (l:OA) (m n:Nat) (o:OA) (p q:Nat) (w:World) (R:RW) (hh:Lt a b c d f g h i j k l m n o p q w R):CR 37 #[agg #[bool a,slice b c d,slice f g h,slice i j k,slice l m n,slice o p q]] w R:=
 aF (fn:=Tryz.f37) (by kernel_rfl) (by kernel_rfl) (by kernel_rfl) (by kernel_rfl) (by kernel_rfl) hh
def Ld (a:OA) (b:Int) (w:World) (R:RW):Prop:=
 aa (Option.isNone a)
 (R (bool false) w)
 (ae a (fun c=>
 CP 105 #[pointer (some (c.add 13)),int .i64 1] w (fun d f=>
 ∃g,d= .returned (int .i64 g)∧
 ae a (fun h=>
 ∃i,f.cell? ((h.add 0).add 8)=some (pointer i)∧
 CP 106 #[pointer i,int .i64 b] f (fun j k=>
 ∃l m,j= .returned (tuple #[int .i64 l,bool m])∧
 aa m
 (R (bool true) k)
 (ae a (fun n=>
 CP 107 #[pointer (some ((n.add 9).add 0)),func (.func 108) #[pointer a] #[]] k (fun o p=>
 o= .returned (tuple #[])∧
 aa (decide (b≥0))
 (ae a (fun q=>
 ∃r s t,p.cell? ((q.add 9).add 3)=some (slice r s t)∧
 aa (decide (b< (s:Int)))
 (ae a (fun u=>
 ∃x y z,p.cell? ((u.add 9).add 3)=some (slice x y z)∧
 ae x (fun a1=>
 (0:Int)≤b∧b< (y:Int)∧
 ∃b1,p.cell? (a1.add (b.toNat*1))=some (bool b1)∧
 R (bool b1) p)))
 (R (bool false) p)))
 (R (bool false) p)))))))))
theorem qG (a:OA) (b:Int) (w:World) (R:RW) (hh:Ld a b w R):CR 43 #[pointer a,int .i64 b] w R:=
 aF (fn:=Tryz.f43) (by kernel_rfl) (by kernel_rfl) (by kernel_rfl) (by kernel_rfl) (by kernel_rfl) hh
def LL (a:OA) (b:Int) (w:World) (R:RW):Prop:=
 CP 56 #[pointer a] w (fun c d=>
 ∃f,c= .returned (pointer f)∧
 CP 106 #[pointer f,int .i64 b] d (fun g h=>
 ∃i j,g= .returned (tuple #[int .i64 i,bool j])∧
 aa j
 (R (bool true) h)
 (aa (decide (b≥0))
 (CP 50 #[pointer a] h (fun k l=>
 ∃m,k= .returned (int .i64 m)∧
 R (bool (decide (b<m))) l))
 (R (bool false) h))))
theorem qq (a:OA) (b:Int) (w:World) (R:RW) (hh:LL a b w R):CR 49 #[pointer a,int .i64 b] w R:=
 aF (fn:=Tryz.f49) (by kernel_rfl) (by kernel_rfl) (by kernel_rfl) (by kernel_rfl) (by kernel_rfl) hh
def Lr (a:OA) (w:World) (R:RW):Prop:=
 CP 54 #[pointer a] w (fun b c=>
 ∃d,b= .returned (pointer d)∧
 CP 116 #[pointer d] c (fun f g=>
 ∃h,f= .returned (int .i64 h)∧
 R (int .i64 h) g))
theorem lR (a:OA) (w:World) (R:RW) (hh:Lr a w R):CR 50 #[pointer a] w R:=
 aF (fn:=Tryz.f50) (by kernel_rfl) (by kernel_rfl) (by kernel_rfl) (by kernel_rfl) (by kernel_rfl) hh
def Lm (a:OA) (w:World) (R:RW):Prop:=
 aa (Option.isNone a)
 (R (pointer none) w)
 (ae a (fun b=>
 ∃c,w.cell? ((b.add 0).add 6)=some (pointer c)∧
 R (pointer c) w))
theorem lS (a:OA) (w:World) (R:RW) (hh:Lm a w R):CR 54 #[pointer a] w R:=
 aF (fn:=Tryz.f54) (by kernel_rfl) (by kernel_rfl) (by kernel_rfl) (by kernel_rfl) (by kernel_rfl) hh
def Lj (a:OA) (w:World) (R:RW):Prop:=
 aa (Option.isNone a)
 (R (pointer none) w)
 (ae a (fun b=>
 ∃c,w.cell? ((b.add 0).add 7)=some (pointer c)∧
 R (pointer c) w))
theorem zY (a:OA) (w:World) (R:RW) (hh:Lj a w R):CR 55 #[pointer a] w R:=
 aF (fn:=Tryz.f55) (by kernel_rfl) (by kernel_rfl) (by kernel_rfl) (by kernel_rfl) (by kernel_rfl) hh
def K4 (a:OA) (w:World) (R:RW):Prop:=
 aa (Option.isNone a)
 (R (pointer none) w)
 (ae a (fun b=>
 ∃c,w.cell? ((b.add 0).add 8)=some (pointer c)∧
 R (pointer c) w))
theorem lV (a:OA) (w:World) (R:RW) (hh:K4 a w R):CR 56 #[pointer a] w R:=
 aF (fn:=Tryz.f56) (by kernel_rfl) (by kernel_rfl) (by kernel_rfl) (by kernel_rfl) (by kernel_rfl) hh
def LA (a:Bool) (b:OA) (c d:Nat) (f:OA) (g h:Nat) (i:OA) (j k:Nat) (l:OA) (m n:Nat) (o:OA) (p q:Nat) (w:World) (R:RW):Prop:=
 ∀r,r=w.alloc (.cells #[bool a,slice b c d,slice f g h,slice i j k,slice l m n,slice o p q] 71)→
 ∃s t x y z a1 b1 c1 d1 e1 f1 g1 h1 i1 j1 k1,(r.cell? (nb w)=some (bool s)∧r.cell? ((nb w).add 1)=some (slice t x y)∧r.cell? ((nb w).add 2)=some (slice z a1 b1)∧r.cell? ((nb w).add 3)=some (slice c1 d1 e1)∧r.cell? ((nb w).add 4)=some (slice f1 g1 h1)∧r.cell? ((nb w).add 5)=some (slice i1 j1 k1)∧True)∧
 CP 130 #[agg #[bool s,slice t x y,slice z a1 b1,slice c1 d1 e1,slice f1 g1 h1,slice i1 j1 k1]] r (fun l1 m1=>
 ∃n1 o1 p1,l1= .returned (tuple #[pointer n1,int .i64 o1,int .i64 p1])∧
 ∀q1,q1=m1.alloc (.cells #[pointer none] 100)→
 (pointer n1).oneCell'=true∧(∃u,q1.cell? (nb m1)=some u)∧q1.frozen? (nb m1)=false∧
 ∀r1,r1=(q1.setCell (nb m1) (pointer n1))→
 aa (p1 != 0)
 (R (tuple #[pointer none,int .i64 1,int .i64 o1,int .i64 p1]) r1)
 (∃s1 t1 u1,r1.cell? ((nb w).add 3)=some (slice s1 t1 u1)∧
 CP 131 #[slice s1 t1 u1] r1 (fun v1 x1=>
 ∃y1 z1 a2,v1= .returned (tuple #[pointer y1,int .i64 z1,int .i64 a2])∧
 aa (a2 != 0)
 (R (tuple #[pointer none,int .i64 2,int .i64 z1,int .i64 a2]) x1)
 (∃b2 c2 d2,x1.cell? ((nb w).add 3)=some (slice b2 c2 d2)∧
 CP 132 #[slice b2 c2 d2,func (.func 133) #[] #[pointer (some (nb m1))]] x1 (fun e2 f2=>
 ∃g2,e2= .returned (int .i64 g2)∧
 aa (decide (g2≥0))
 (R (tuple #[pointer none,int .i64 2,int .i64 g2,int .i64 4]) f2)
 (∃h2 i2 j2,f2.cell? ((nb w).add 4)=some (slice h2 i2 j2)∧
 ∃k2 l2 m2,f2.cell? ((nb w).add 5)=some (slice k2 l2 m2)∧
 CP 134 #[slice h2 i2 j2,slice k2 l2 m2] f2 (fun n2 o2=>
 ∃p2 q2,n2= .returned (tuple #[pointer p2,int .i64 q2])∧
 aa (q2 != 0)
 (R (tuple #[pointer none,int .i64 0,int .i64 0,int .i64 q2]) o2)
 (∀r2,r2=o2.drew→
 ∃s2 t2 u2 v2 x2 y2 z2 a3 b3 c3 d3 e3 f3 g3 h3 i3,(r2.cell? (nb w)=some (bool s2)∧r2.cell? ((nb w).add 1)=some (slice t2 u2 v2)∧r2.cell? ((nb w).add 2)=some (slice x2 y2 z2)∧r2.cell? ((nb w).add 3)=some (slice a3 b3 c3)∧r2.cell? ((nb w).add 4)=some (slice d3 e3 f3)∧r2.cell? ((nb w).add 5)=some (slice g3 h3 i3)∧True)∧
 ∃j3,r2.cell? (nb m1)=some (pointer j3)∧
 CP 100 #[agg #[bool s2,slice t2 u2 v2,slice x2 y2 z2,slice a3 b3 c3,slice d3 e3 f3,slice g3 h3 i3]] r2 (fun k3 l3=>
 ∃m3 n3 o3 p3 q3 r3 s3 t3 u3 v3 x3 y3 z3 a4 b4 c4,k3= .returned (agg #[bool m3,slice n3 o3 p3,slice q3 r3 s3,slice t3 u3 v3,slice x3 y3 z3,slice a4 b4 c4])∧
 (l3.cell? (nb m1)=some (pointer j3)∧True)∧
 ∀d4,d4=l3.alloc (.cells #[bool m3,slice n3 o3 p3,slice q3 r3 s3,slice t3 u3 v3,slice x3 y3 z3,slice a4 b4 c4,pointer j3,pointer p2,pointer y1,int .u32 0,int .i32 0,int .u32 0,slice none 0 0,int .i64 0] 186)→
 R (tuple #[pointer (some (nb l3)),int .i64 0,int .i64 0,int .i64 0]) d4)))))))))
theorem zt (a:Bool) (b:OA) (c d:Nat) (f:OA) (g h:Nat) (i:OA) (j k:Nat) (l:OA) (m n:Nat) (o:OA) (p q:Nat) (w:World) (R:RW) (hh:LA a b c d f g h i j k l m n o p q w R):CR 91 #[agg #[bool a,slice b c d,slice f g h,slice i j k,slice l m n,slice o p q]] w R:=
 aF (fn:=Tryz.f91) (by kernel_rfl) (by kernel_rfl) (by kernel_rfl) (by kernel_rfl) (by kernel_rfl) hh
def KR (a:Bool) (b:OA) (c d:Nat) (f:OA) (g h:Nat) (i:OA) (j k:Nat) (l:OA) (m n:Nat) (o:OA) (p q:Nat) (w:World) (R:RW):Prop:=
 ∀r,r=w.alloc (.cells #[bool a,slice b c d,slice f g h,slice i j k,slice l m n,slice o p q] 71)→
 ∀s,s=r.alloc (.cells #[bool false,slice none 0 0,slice none 0 0,slice none 0 0,slice none 0 0,slice none 0 0] 71)→
 ∀t,t=s.drew→
 ∃x y z,t.cell? ((nb w).add 1)=some (slice x y z)∧
 ∃a1 b1 c1,t.cell? ((nb w).add 2)=some (slice a1 b1 c1)∧
 ∃d1 e1 f1,t.cell? ((nb w).add 3)=some (slice d1 e1 f1)∧
 CP 142 #[slice x y z] t (fun g1 h1=>
 ∃i1 j1 k1,g1= .returned (slice i1 j1 k1)∧
 (h1.cell? ((nb w).add 3)=some (slice d1 e1 f1)∧True)∧
 (h1.cell? ((nb w).add 2)=some (slice a1 b1 c1)∧True)∧
 CP 143 #[slice a1 b1 c1] h1 (fun l1 m1=>
 ∃n1 o1 p1,l1= .returned (slice n1 o1 p1)∧
 (m1.cell? ((nb w).add 3)=some (slice d1 e1 f1)∧True)∧
 CP 144 #[slice d1 e1 f1] m1 (fun q1 r1=>
 ∃s1 t1 u1,q1= .returned (slice s1 t1 u1)∧
 (slice i1 j1 k1).oneCell'=true∧(∃u,r1.cell? ((nb w).add 1)=some u)∧r1.frozen? ((nb w).add 1)=false∧
 ∀v1,v1=(r1.setCell ((nb w).add 1) (slice i1 j1 k1))→
 (slice n1 o1 p1).oneCell'=true∧(∃u,v1.cell? ((nb w).add 2)=some u)∧v1.frozen? ((nb w).add 2)=false∧
 ∀x1,x1=(v1.setCell ((nb w).add 2) (slice n1 o1 p1))→
 (slice s1 t1 u1).oneCell'=true∧(∃u,x1.cell? ((nb w).add 3)=some u)∧x1.frozen? ((nb w).add 3)=false∧
 ∀y1,y1=(x1.setCell ((nb w).add 3) (slice s1 t1 u1))→
 ∀z1,z1=y1.drew→
 ∃a2 b2 c2,z1.cell? ((nb w).add 4)=some (slice a2 b2 c2)∧
 ∃d2 e2 f2,z1.cell? ((nb w).add 5)=some (slice d2 e2 f2)∧
 CP 145 #[slice a2 b2 c2] z1 (fun g2 h2=>
 ∃i2 j2 k2,g2= .returned (slice i2 j2 k2)∧
 (h2.cell? ((nb w).add 5)=some (slice d2 e2 f2)∧True)∧
 CP 146 #[slice d2 e2 f2] h2 (fun l2 m2=>
 ∃n2 o2 p2,l2= .returned (slice n2 o2 p2)∧
 (slice i2 j2 k2).oneCell'=true∧(∃u,m2.cell? ((nb w).add 4)=some u)∧m2.frozen? ((nb w).add 4)=false∧
 ∀q2,q2=(m2.setCell ((nb w).add 4) (slice i2 j2 k2))→
 (slice n2 o2 p2).oneCell'=true∧(∃u,q2.cell? ((nb w).add 5)=some u)∧q2.frozen? ((nb w).add 5)=false∧
 ∀r2,r2=(q2.setCell ((nb w).add 5) (slice n2 o2 p2))→
 ∃s2 t2 u2 v2 x2 y2 z2 a3 b3 c3 d3 e3 f3 g3 h3 i3,(r2.cell? (nb w)=some (bool s2)∧r2.cell? ((nb w).add 1)=some (slice t2 u2 v2)∧r2.cell? ((nb w).add 2)=some (slice x2 y2 z2)∧r2.cell? ((nb w).add 3)=some (slice a3 b3 c3)∧r2.cell? ((nb w).add 4)=some (slice d3 e3 f3)∧r2.cell? ((nb w).add 5)=some (slice g3 h3 i3)∧True)∧
 ar r2 (nb r) (fun j3=>
 ∃k3 l3 m3 n3 o3 p3 q3 r3 s3 t3 u3 v3 x3 y3 z3 a4,(j3.cell? (nb r)=some (bool k3)∧j3.cell? ((nb r).add 1)=some (slice l3 m3 n3)∧j3.cell? ((nb r).add 2)=some (slice o3 p3 q3)∧j3.cell? ((nb r).add 3)=some (slice r3 s3 t3)∧j3.cell? ((nb r).add 4)=some (slice u3 v3 x3)∧j3.cell? ((nb r).add 5)=some (slice y3 z3 a4)∧True)∧
 R (agg #[bool k3,slice l3 m3 n3,slice o3 p3 q3,slice r3 s3 t3,slice u3 v3 x3,slice y3 z3 a4]) j3) [bool s2,slice t2 u2 v2,slice x2 y2 z2,slice a3 b3 c3,slice d3 e3 f3,slice g3 h3 i3] 0)))))
theorem wn (a:Bool) (b:OA) (c d:Nat) (f:OA) (g h:Nat) (i:OA) (j k:Nat) (l:OA) (m n:Nat) (o:OA) (p q:Nat) (w:World) (R:RW) (hh:KR a b c d f g h i j k l m n o p q w R):CR 100 #[agg #[bool a,slice b c d,slice f g h,slice i j k,slice l m n,slice o p q]] w R:=
 aF (fn:=Tryz.f100) (by kernel_rfl) (by kernel_rfl) (by kernel_rfl) (by kernel_rfl) (by kernel_rfl) hh
def Jh (a:Bool) (b:OA) (c d:Nat) (f:OA) (g h:Nat) (i:OA) (j k:Nat) (l:OA) (m n:Nat) (o:OA) (p q:Nat) (w:World) (R:RW):Prop:=
 ∀r,r=w.alloc (.cells #[bool a,slice b c d,slice f g h,slice i j k,slice l m n,slice o p q] 71)→
 ∃s,r.cell? ((nb w).add 0)=some (bool s)∧
 aa s
 (∃t u x,r.cell? ((nb w).add 1)=some (slice t u x)∧
 aa (decide ((u:Int)>0))
 (R (bool false) r)
 (∃y,r.cell? ((nb w).add 0)=some (bool y)∧
 aa (!y)
 (∃z a1 b1,r.cell? ((nb w).add 2)=some (slice z a1 b1)∧
 aa (decide ((a1:Int)>0))
 (R (bool false) r)
 (∃c1 d1 e1,r.cell? ((nb w).add 1)=some (slice c1 d1 e1)∧
 CP 147 #[slice c1 d1 e1,int .i64 744,func (.func 148) #[] #[]] r (fun f1 g1=>
 ∃h1,f1= .returned (bool h1)∧
 aa h1
 (∃i1 j1 k1,g1.cell? ((nb w).add 2)=some (slice i1 j1 k1)∧
 CP 149 #[slice i1 j1 k1,int .i64 744,func (.func 150) #[] #[]] g1 (fun l1 m1=>
 ∃n1,l1= .returned (bool n1)∧
 aa n1
 (∃o1 p1 q1,m1.cell? ((nb w).add 3)=some (slice o1 p1 q1)∧
 CP 151 #[slice o1 p1 q1,int .i64 32,func (.func 152) #[] #[]] m1 (fun r1 s1=>
 ∃t1,r1= .returned (bool t1)∧
 aa t1
 (∃u1 v1 x1,s1.cell? ((nb w).add 4)=some (slice u1 v1 x1)∧
 CP 153 #[slice u1 v1 x1,int .i64 64,func (.func 154) #[] #[]] s1 (fun y1 z1=>
 ∃a2,y1= .returned (bool a2)∧
 aa a2
 (∃b2 c2 d2,z1.cell? ((nb w).add 5)=some (slice b2 c2 d2)∧
 CP 155 #[slice b2 c2 d2,int .i64 64,func (.func 156) #[] #[]] z1 (fun e2 f2=>
 ∃g2,e2= .returned (bool g2)∧
 R (bool g2) f2))
 (R (bool false) z1)))
 (R (bool false) s1)))
 (R (bool false) m1)))
 (R (bool false) g1))))
 (∃h2 i2 j2,r.cell? ((nb w).add 1)=some (slice h2 i2 j2)∧
 CP 147 #[slice h2 i2 j2,int .i64 744,func (.func 148) #[] #[]] r (fun k2 l2=>
 ∃m2,k2= .returned (bool m2)∧
 aa m2
 (∃n2 o2 p2,l2.cell? ((nb w).add 2)=some (slice n2 o2 p2)∧
 CP 149 #[slice n2 o2 p2,int .i64 744,func (.func 150) #[] #[]] l2 (fun q2 r2=>
 ∃s2,q2= .returned (bool s2)∧
 aa s2
 (∃t2 u2 v2,r2.cell? ((nb w).add 3)=some (slice t2 u2 v2)∧
 CP 151 #[slice t2 u2 v2,int .i64 32,func (.func 152) #[] #[]] r2 (fun x2 y2=>
 ∃z2,x2= .returned (bool z2)∧
 aa z2
 (∃a3 b3 c3,y2.cell? ((nb w).add 4)=some (slice a3 b3 c3)∧
 CP 153 #[slice a3 b3 c3,int .i64 64,func (.func 154) #[] #[]] y2 (fun d3 e3=>
 ∃f3,d3= .returned (bool f3)∧
 aa f3
 (∃g3 h3 i3,e3.cell? ((nb w).add 5)=some (slice g3 h3 i3)∧
 CP 155 #[slice g3 h3 i3,int .i64 64,func (.func 156) #[] #[]] e3 (fun j3 k3=>
 ∃l3,j3= .returned (bool l3)∧
 R (bool l3) k3))
 (R (bool false) e3)))
 (R (bool false) y2)))
 (R (bool false) r2)))
 (R (bool false) l2)))))
 (∃m3,r.cell? ((nb w).add 0)=some (bool m3)∧
 aa (!m3)
 (∃n3 o3 p3,r.cell? ((nb w).add 2)=some (slice n3 o3 p3)∧
 aa (decide ((o3:Int)>0))
 (R (bool false) r)
 (∃q3 r3 s3,r.cell? ((nb w).add 1)=some (slice q3 r3 s3)∧
 CP 147 #[slice q3 r3 s3,int .i64 744,func (.func 148) #[] #[]] r (fun t3 u3=>
 ∃v3,t3= .returned (bool v3)∧
 aa v3
 (∃x3 y3 z3,u3.cell? ((nb w).add 2)=some (slice x3 y3 z3)∧
 CP 149 #[slice x3 y3 z3,int .i64 744,func (.func 150) #[] #[]] u3 (fun a4 b4=>
 ∃c4,a4= .returned (bool c4)∧
 aa c4
 (∃d4 e4 f4,b4.cell? ((nb w).add 3)=some (slice d4 e4 f4)∧
 CP 151 #[slice d4 e4 f4,int .i64 32,func (.func 152) #[] #[]] b4 (fun g4 h4=>
 ∃i4,g4= .returned (bool i4)∧
 aa i4
 (∃j4 k4 l4,h4.cell? ((nb w).add 4)=some (slice j4 k4 l4)∧
 CP 153 #[slice j4 k4 l4,int .i64 64,func (.func 154) #[] #[]] h4 (fun m4 n4=>
 ∃o4,m4= .returned (bool o4)∧
 aa o4
 (∃p4 q4 r4,n4.cell? ((nb w).add 5)=some (slice p4 q4 r4)∧
 CP 155 #[slice p4 q4 r4,int .i64 64,func (.func 156) #[] #[]] n4 (fun s4 t4=>
 ∃u4,s4= .returned (bool u4)∧
 R (bool u4) t4))
 (R (bool false) n4)))
 (R (bool false) h4)))
 (R (bool false) b4)))
 (R (bool false) u3))))
 (∃v4 x4 y4,r.cell? ((nb w).add 1)=some (slice v4 x4 y4)∧
 CP 147 #[slice v4 x4 y4,int .i64 744,func (.func 148) #[] #[]] r (fun z4 a5=>
 ∃b5,z4= .returned (bool b5)∧
 aa b5
 (∃c5 d5 e5,a5.cell? ((nb w).add 2)=some (slice c5 d5 e5)∧
 CP 149 #[slice c5 d5 e5,int .i64 744,func (.func 150) #[] #[]] a5 (fun f5 g5=>
 ∃h5,f5= .returned (bool h5)∧
 aa h5
 (∃i5 j5 k5,g5.cell? ((nb w).add 3)=some (slice i5 j5 k5)∧
 CP 151 #[slice i5 j5 k5,int .i64 32,func (.func 152) #[] #[]] g5 (fun l5 m5=>
 ∃n5,l5= .returned (bool n5)∧
 aa n5
 (∃o5 p5 q5,m5.cell? ((nb w).add 4)=some (slice o5 p5 q5)∧
 CP 153 #[slice o5 p5 q5,int .i64 64,func (.func 154) #[] #[]] m5 (fun r5 s5=>
 ∃t5,r5= .returned (bool t5)∧
 aa t5
 (∃u5 v5 x5,s5.cell? ((nb w).add 5)=some (slice u5 v5 x5)∧
 CP 155 #[slice u5 v5 x5,int .i64 64,func (.func 156) #[] #[]] s5 (fun y5 z5=>
 ∃a6,y5= .returned (bool a6)∧
 R (bool a6) z5))
 (R (bool false) s5)))
 (R (bool false) m5)))
 (R (bool false) g5)))
 (R (bool false) a5))))
theorem xN (a:Bool) (b:OA) (c d:Nat) (f:OA) (g h:Nat) (i:OA) (j k:Nat) (l:OA) (m n:Nat) (o:OA) (p q:Nat) (w:World) (R:RW) (hh:Jh a b c d f g h i j k l m n o p q w R):CR 101 #[agg #[bool a,slice b c d,slice f g h,slice i j k,slice l m n,slice o p q]] w R:=
 aF (fn:=Tryz.f101) (by kernel_rfl) (by kernel_rfl) (by kernel_rfl) (by kernel_rfl) (by kernel_rfl) hh
def JM (a:OA) (b:Int) (w:World) (R:RW):Prop:=
 aa (Option.isNone a)
 (R (tuple #[int .i64 0,bool false]) w)
 (ae a (fun c=>
 ∃d,w.cell? (c.add 1)=some (map d)∧
 ∃f g h,(Instr.lookup 108 (map d) (int .i64 b) true).run Tryz.prog w= .ok (tuple #[int .i64 f,bool g]) h∧
 aa (!g)
 (R (tuple #[int .i64 0,bool false]) h)
 (CP 160 #[int .i64 f] h (fun i j=>
 ∃k,i= .returned (int .i64 k)∧
 R (tuple #[int .i64 k,bool true]) j))))
theorem ou (a:OA) (b:Int) (w:World) (R:RW) (hh:JM a b w R):CR 106 #[pointer a,int .i64 b] w R:=
 aF (fn:=Tryz.f106) (by kernel_rfl) (by kernel_rfl) (by kernel_rfl) (by kernel_rfl) (by kernel_rfl) hh
def Jr (a:OA) (w:World) (R:RW):Prop:=
 CP 50 #[pointer a] w (fun b c=>
 ∃d,b= .returned (int .i64 d)∧
 ∃f g h i,(Instr.makeSlice 117 (int .i64 d) (int .i64 d)).run Tryz.prog c= .ok (slice f g h) i∧
 ae a (fun j=>
 (slice f g h).oneCell'=true∧(∃u,i.cell? ((j.add 9).add 3)=some u)∧i.frozen? ((j.add 9).add 3)=false∧
 ∀k,k=(i.setCell ((j.add 9).add 3) (slice f g h))→
 ae a (fun l=>
 ∃m n o,k.cell? ((l.add 9).add 3)=some (slice m n o)∧
 ∀p:KW,(∀(q:Int) (r:World),(aa (decide (q< (n:Int)))
 (ae a (fun s=>
 ∃t,r.cell? ((s.add 0).add 6)=some (pointer t)∧
 CP 163 #[pointer t,int .i64 q] r (fun x y=>
 ∃z a1,x= .returned (tuple #[string z,bool a1])∧
 ae a (fun b1=>
 ∃c1,y.cell? ((b1.add 0).add 6)=some (pointer c1)∧
 CP 164 #[pointer c1,string z] y (fun d1 e1=>
 ∃f1 g1 h1,d1= .returned (slice f1 g1 h1)∧
 ∀i1,i1=e1.drew→
 ae a (fun j1=>
 ∃k1 l1 m1,i1.cell? ((j1.add 9).add 3)=some (slice k1 l1 m1)∧
 aa ((g1:Int)==1)
 (ae f1 (fun n1=>
 (0:Int)≤0∧0< (g1:Int)∧
 ∃o1,i1.cell? (n1.add ((0:Int).toNat*1))=some (int .i64 o1)∧
 aa (o1==q)
 (ae a (fun p1=>
 ∃q1,i1.cell? ((p1.add 0).add 7)=some (pointer q1)∧
 CP 165 #[pointer q1,string z] i1 (fun r1 s1=>
 ∃t1,r1= .returned (bool t1)∧
 (s1.cell? ((j1.add 9).add 3)=some (slice k1 l1 m1)∧True)∧
 ae k1 (fun u1=>
 (0:Int)≤q∧q< (l1:Int)∧
 (bool t1).oneCell'=true∧(∃u,s1.cell? (u1.add (q.toNat*1))=some u)∧s1.frozen? (u1.add (q.toNat*1))=false∧
 ∀v1,v1=(s1.setCell (u1.add (q.toNat*1)) (bool t1))→
 Ar .i64 (q+1) (fun x1=>
 p [int .i64 x1] v1)))))
 (ae k1 (fun y1=>
 (0:Int)≤q∧q< (l1:Int)∧
 (bool false).oneCell'=true∧(∃u,i1.cell? (y1.add (q.toNat*1))=some u)∧i1.frozen? (y1.add (q.toNat*1))=false∧
 ∀z1,z1=(i1.setCell (y1.add (q.toNat*1)) (bool false))→
 Ar .i64 (q+1) (fun a2=>
 p [int .i64 a2] z1)))))
 (ae k1 (fun b2=>
 (0:Int)≤q∧q< (l1:Int)∧
 (bool false).oneCell'=true∧(∃u,i1.cell? (b2.add (q.toNat*1))=some u)∧i1.frozen? (b2.add (q.toNat*1))=false∧
 ∀c2,c2=(i1.setCell (b2.add (q.toNat*1)) (bool false))→
 Ar .i64 (q+1) (fun d2=>
 p [int .i64 d2] c2)))))))))
 (R (tuple #[]) r))→p [int .i64 q] r)→
 p [int .i64 0] k)))
theorem yO (a:OA) (w:World) (R:RW) (hh:Jr a w R):CR 108 #[pointer a] w R:=
 aF (fn:=Tryz.f108) (by kernel_rfl) (by kernel_rfl) (by kernel_rfl) (by kernel_rfl) (by kernel_rfl) hh
def J8 (a:OA) (w:World) (R:RW):Prop:=
 aa (Option.isNone a)
 (R (int .i64 0) w)
 (ae a (fun b=>
 ∃c d f,w.cell? (b.add 0)=some (slice c d f)∧
 R (int .i64 (d:Int)) w))
theorem jB (a:OA) (w:World) (R:RW) (hh:J8 a w R):CR 116 #[pointer a] w R:=
 aF (fn:=Tryz.f116) (by kernel_rfl) (by kernel_rfl) (by kernel_rfl) (by kernel_rfl) (by kernel_rfl) hh
def IW (a:Bool) (b:OA) (c d:Nat) (f:OA) (g h:Nat) (i:OA) (j k:Nat) (l:OA) (m n:Nat) (o:OA) (p q:Nat) (w:World) (R:RW):Prop:=
 ∀r,r=w.alloc (.cells #[bool a,slice b c d,slice f g h,slice i j k,slice l m n,slice o p q] 71)→
 ∃s,r.cell? ((nb w).add 0)=some (bool s)∧
 aa s
 (∃t u x,r.cell? ((nb w).add 2)=some (slice t u x)∧
 CP 188 #[slice t u x] r (fun y z=>
 ∃a1 b1 c1,y= .returned (tuple #[pointer a1,int .i64 b1,int .i64 c1])∧
 R (tuple #[pointer a1,int .i64 b1,int .i64 c1]) z))
 (∃d1 e1 f1,r.cell? ((nb w).add 1)=some (slice d1 e1 f1)∧
 CP 189 #[slice d1 e1 f1] r (fun g1 h1=>
 ∃i1 j1 k1,g1= .returned (tuple #[pointer i1,int .i64 j1,int .i64 k1])∧
 R (tuple #[pointer i1,int .i64 j1,int .i64 k1]) h1))
theorem vw (a:Bool) (b:OA) (c d:Nat) (f:OA) (g h:Nat) (i:OA) (j k:Nat) (l:OA) (m n:Nat) (o:OA) (p q:Nat) (w:World) (R:RW) (hh:IW a b c d f g h i j k l m n o p q w R):CR 130 #[agg #[bool a,slice b c d,slice f g h,slice i j k,slice l m n,slice o p q]] w R:=
 aF (fn:=Tryz.f130) (by kernel_rfl) (by kernel_rfl) (by kernel_rfl) (by kernel_rfl) (by kernel_rfl) hh
def Ju (a:OA) (b c:Nat) (w:World) (R:RW):Prop:=
 ∃d f,(Instr.makeMap 108 none).run Tryz.prog w= .ok (map d) f∧
 ∃g h,(Instr.makeMap 205 none).run Tryz.prog f= .ok (map g) h∧
 ∀i,i=h.alloc (.cells (List.toArray ([slice none 0 0,map d,map g]++List.replicate 256 (bool false)++ [int .i64 0])) 250)→
 ∀j:KW,(∀(k l m:Int) (n:OA) (o:World),(aa (decide (k< (b:Int)))
 (ae a (fun p=>
 (0:Int)≤k∧k< (b:Int)∧
 ∃q r,(o.cell? (p.add (k.toNat*2))=some (int .i64 q)∧o.cell? ((p.add (k.toNat*2)).add 1)=some (string r)∧True)∧
 ∀s,s=o.alloc (.cells #[int .i64 0,string ⟨#[]⟩] 87)→
 ar s (nb o) (fun t=>
 ∃u x,(t.cell? (nb o)=some (int .i64 u)∧t.cell? ((nb o).add 1)=some (string x)∧True)∧
 CP 190 #[pointer (some (nb h)),agg #[int .i64 u,string x]] t (fun y z=>
 ∃a1,y= .returned (int .i64 a1)∧
 aa (a1 != 0)
 (R (tuple #[pointer none,int .i64 k,int .i64 a1]) z)
 (Ar .i64 (k+1) (fun b1=>
 j [int .i64 b1,int .i64 l,int .i64 m,pointer n] z)))) [int .i64 q,string r] 0))
 (R (tuple #[pointer (some (nb h)),int .i64 (b:Int),int .i64 0]) o))→j [int .i64 k,int .i64 l,int .i64 m,pointer n] o)→
 j [int .i64 0,int .i64 0,int .i64 0,pointer none] i
theorem ym (a:OA) (b c:Nat) (w:World) (R:RW) (hh:Ju a b c w R):CR 131 #[slice a b c] w R:=
 aF (fn:=Tryz.f131) (by kernel_rfl) (by kernel_rfl) (by kernel_rfl) (by kernel_rfl) (by kernel_rfl) hh
def JJ (a:OA) (b c:Nat) (d:Value) (w:World) (R:RW):Prop:=
 ∀f:KW,(∀(g h:Int) (i:World),(aa (decide (g< (b:Int)))
 (ae a (fun j=>
 (0:Int)≤g∧g< (b:Int)∧
 ∃k l,(i.cell? (j.add (g.toNat*2))=some (int .i64 k)∧i.cell? ((j.add (g.toNat*2)).add 1)=some (string l)∧True)∧
 cI mf d [agg #[int .i64 k,string l]] i (fun m n=>
 ∃o,m= .returned (bool o)∧
 aa o
 (R (int .i64 g) n)
 (Ar .i64 (g+1) (fun p=>
 f [int .i64 p,int .i64 h] n)))))
 (R (int .i64 (-1)) i))→f [int .i64 g,int .i64 h] i)→
 f [int .i64 0,int .i64 0] w
theorem wN (a:OA) (b c:Nat) (d:Value) (w:World) (R:RW) (hh:JJ a b c d w R):CR 132 #[slice a b c,d] w R:=
 aF (fn:=Tryz.f132) (by kernel_rfl) (by kernel_rfl) (by kernel_rfl) (by kernel_rfl) (by kernel_rfl) hh
def JL (a:Int) (b:ByteArray) (c:OA) (w:World) (R:RW):Prop:=
 ∀d,d=w.alloc (.cells #[int .i64 a,string b] 87)→
 ∀f,f=d.drew→
 ∃g,f.cell? ((nb w).add 0)=some (int .i64 g)∧
 ae c (fun h=>
 ∃i,f.cell? h=some (pointer i)∧
 CP 116 #[pointer i] f (fun j k=>
 ∃l,j= .returned (int .i64 l)∧
 (k.cell? ((nb w).add 0)=some (int .i64 g)∧True)∧
 R (bool (decide (g<l))) k))
theorem yQ (a:Int) (b:ByteArray) (c:OA) (w:World) (R:RW) (hh:JL a b c w R):CR 133 #[agg #[int .i64 a,string b],pointer c] w R:=
 aF (fn:=Tryz.f133) (by kernel_rfl) (by kernel_rfl) (by kernel_rfl) (by kernel_rfl) (by kernel_rfl) hh
def KB (a:OA) (b c:Nat) (d:OA) (f g:Nat) (w:World) (R:RW):Prop:=
 ∀h,h=w.alloc (.cells (List.toArray (List.replicate 256 (int .i64 0)++List.replicate 256 (bool false))) 288)→
 ∀i:KW,(∀(j k:Int) (l:OA) (m:World),(aa (decide (j< (b:Int)))
 (ae a (fun n=>
 (0:Int)≤j∧j< (b:Int)∧
 ∃o p q,(m.cell? (n.add (j.toNat*3))=some (int .i64 o)∧m.cell? ((n.add (j.toNat*3)).add 1)=some (int .i64 p)∧m.cell? ((n.add (j.toNat*3)).add 2)=some (int .i64 q)∧True)∧
 ∀r,r=m.alloc (.cells #[int .i64 0,int .i64 0,int .i64 0] 89)→
 ar r (nb m) (fun s=>
 ∃t x y,(s.cell? (nb m)=some (int .i64 t)∧s.cell? ((nb m).add 1)=some (int .i64 x)∧s.cell? ((nb m).add 2)=some (int .i64 y)∧True)∧
 CP 191 #[agg #[int .i64 t,int .i64 x,int .i64 y]] s (fun z a1=>
 ∃b1,z= .returned (bool b1)∧
 aa (!b1)
 (R (tuple #[pointer none,int .i64 1]) a1)
 (∃c1,a1.cell? ((nb m).add 0)=some (int .i64 c1)∧
 ∀d1:KW,(∀(e1:Int) (f1:World),(∃g1,f1.cell? ((nb m).add 1)=some (int .i64 g1)∧
 aa (decide (e1≤g1))
 (∀h1,h1=f1.drew→
 ∃i1,h1.cell? ((nb m).add 2)=some (int .i64 i1)∧
 (0:Int)≤e1∧e1< (256:Int)∧
 (int .i64 i1).oneCell'=true∧(∃u,h1.cell? (((nb w).add 0).add (e1.toNat*1))=some u)∧h1.frozen? (((nb w).add 0).add (e1.toNat*1))=false∧
 ∀j1,j1=(h1.setCell (((nb w).add 0).add (e1.toNat*1)) (int .i64 i1))→
 Ar .i64 (e1+1) (fun k1=>
 d1 [int .i64 k1] j1))
 (Ar .i64 (j+1) (fun l1=>
 i [int .i64 l1,int .i64 k,pointer l] f1)))→d1 [int .i64 e1] f1)→
 d1 [int .i64 c1] a1))) [int .i64 o,int .i64 p,int .i64 q] 0))
 (∀m1:KW,(∀(n1 o1:Int) (p1:OA) (q1:World),(aa (decide (n1< (f:Int)))
 (ae d (fun r1=>
 (0:Int)≤n1∧n1< (f:Int)∧
 ∃s1 t1,(q1.cell? (r1.add (n1.toNat*2))=some (int .i64 s1)∧q1.cell? ((r1.add (n1.toNat*2)).add 1)=some (int .i64 t1)∧True)∧
 ∀u1,u1=q1.alloc (.cells #[int .i64 0,int .i64 0] 170)→
 ar u1 (nb q1) (fun v1=>
 ∃x1,v1.cell? ((nb q1).add 0)=some (int .i64 x1)∧
 CP 192 #[int .i64 x1] v1 (fun y1 z1=>
 ∃a2,y1= .returned (bool a2)∧
 aa (!a2)
 (R (tuple #[pointer none,int .i64 1]) z1)
 (∃b2,z1.cell? ((nb q1).add 1)=some (int .i64 b2)∧
 CP 192 #[int .i64 b2] z1 (fun c2 d2=>
 ∃e2,c2= .returned (bool e2)∧
 aa (!e2)
 (R (tuple #[pointer none,int .i64 1]) d2)
 (∀f2,f2=d2.drew→
 ∃g2,f2.cell? ((nb q1).add 0)=some (int .i64 g2)∧
 ∃h2,f2.cell? ((nb q1).add 1)=some (int .i64 h2)∧
 (0:Int)≤g2∧g2< (16:Int)∧
 (0:Int)≤h2∧h2< (16:Int)∧
 (bool true).oneCell'=true∧(∃u,f2.cell? ((((nb w).add 256).add (g2.toNat*16)).add (h2.toNat*1))=some u)∧f2.frozen? ((((nb w).add 256).add (g2.toNat*16)).add (h2.toNat*1))=false∧
 ∀i2,i2=(f2.setCell ((((nb w).add 256).add (g2.toNat*16)).add (h2.toNat*1)) (bool true))→
 Ar .i64 (n1+1) (fun j2=>
 m1 [int .i64 j2,int .i64 o1,pointer p1] i2)))))) [int .i64 s1,int .i64 t1] 0))
 (R (tuple #[pointer (some (nb w)),int .i64 0]) q1))→m1 [int .i64 n1,int .i64 o1,pointer p1] q1)→
 m1 [int .i64 0,int .i64 k,pointer l] m))→i [int .i64 j,int .i64 k,pointer l] m)→
 i [int .i64 0,int .i64 0,pointer none] h
theorem xM (a:OA) (b c:Nat) (d:OA) (f g:Nat) (w:World) (R:RW) (hh:KB a b c d f g w R):CR 134 #[slice a b c,slice d f g] w R:=
 aF (fn:=Tryz.f134) (by kernel_rfl) (by kernel_rfl) (by kernel_rfl) (by kernel_rfl) (by kernel_rfl) hh
def Jy (a:OA) (b c:Nat) (w:World) (R:RW):Prop:=
 aa (Option.isNone a)
 (R (slice none 0 0) w)
 (∀d,d=w.alloc (.cells #[] 85)→
 ∃f g h i,(Builtin.append_ #[33,33] 33 #[slice (some (nb w)) 0 0,slice a b c]).run Tryz.prog d= .ok (slice f g h) i∧
 R (slice f g h) i)
theorem wE (a:OA) (b c:Nat) (w:World) (R:RW) (hh:Jy a b c w R):CR 142 #[slice a b c] w R:=
 aF (fn:=Tryz.f142) (by kernel_rfl) (by kernel_rfl) (by kernel_rfl) (by kernel_rfl) (by kernel_rfl) hh
def Iq (a:OA) (b c:Nat) (w:World) (R:RW):Prop:=
 aa (Option.isNone a)
 (R (slice none 0 0) w)
 (∀d,d=w.alloc (.cells #[] 9)→
 ∃f g h i,(Builtin.append_ #[32,32] 32 #[slice (some (nb w)) 0 0,slice a b c]).run Tryz.prog d= .ok (slice f g h) i∧
 R (slice f g h) i)
theorem wW (a:OA) (b c:Nat) (w:World) (R:RW) (hh:Iq a b c w R):CR 143 #[slice a b c] w R:=
 aF (fn:=Tryz.f143) (by kernel_rfl) (by kernel_rfl) (by kernel_rfl) (by kernel_rfl) (by kernel_rfl) hh
def Kr (a:OA) (b c:Nat) (w:World) (R:RW):Prop:=
 aa (Option.isNone a)
 (R (slice none 0 0) w)
 (∀d,d=w.alloc (.cells #[] 87)→
 ∃f g h i,(Builtin.append_ #[25,25] 25 #[slice (some (nb w)) 0 0,slice a b c]).run Tryz.prog d= .ok (slice f g h) i∧
 R (slice f g h) i)
theorem wD (a:OA) (b c:Nat) (w:World) (R:RW) (hh:Kr a b c w R):CR 144 #[slice a b c] w R:=
 aF (fn:=Tryz.f144) (by kernel_rfl) (by kernel_rfl) (by kernel_rfl) (by kernel_rfl) (by kernel_rfl) hh
def JG (a:OA) (b c:Nat) (w:World) (R:RW):Prop:=
 aa (Option.isNone a)
 (R (slice none 0 0) w)
 (∀d,d=w.alloc (.cells #[] 89)→
 ∃f g h i,(Builtin.append_ #[23,23] 23 #[slice (some (nb w)) 0 0,slice a b c]).run Tryz.prog d= .ok (slice f g h) i∧
 R (slice f g h) i)
theorem xA (a:OA) (b c:Nat) (w:World) (R:RW) (hh:JG a b c w R):CR 145 #[slice a b c] w R:=
 aF (fn:=Tryz.f145) (by kernel_rfl) (by kernel_rfl) (by kernel_rfl) (by kernel_rfl) (by kernel_rfl) hh
def IP (a:OA) (b c:Nat) (w:World) (R:RW):Prop:=
 aa (Option.isNone a)
 (R (slice none 0 0) w)
 (∀d,d=w.alloc (.cells #[] 170)→
 ∃f g h i,(Builtin.append_ #[24,24] 24 #[slice (some (nb w)) 0 0,slice a b c]).run Tryz.prog d= .ok (slice f g h) i∧
 R (slice f g h) i)
theorem yh (a:OA) (b c:Nat) (w:World) (R:RW) (hh:IP a b c w R):CR 146 #[slice a b c] w R:=
 aF (fn:=Tryz.f146) (by kernel_rfl) (by kernel_rfl) (by kernel_rfl) (by kernel_rfl) (by kernel_rfl) hh
def Ja (a:OA) (b c:Nat) (d:Int) (f:Value) (w:World) (R:RW):Prop:=
 ∀g,g=w.alloc (.cells (Value.cells f) 234)→
 aa (decide ((b:Int)≤d))
 (CP 194 #[slice a b c,func (.func 195) #[] #[pointer (some (nb w))]] g (fun h i=>
 ∃j,h= .returned (bool j)∧
 R (bool (!j)) i))
 (R (bool false) g)
theorem yv (a:OA) (b c:Nat) (d:Int) (f:Value) (w:World) (R:RW) (hh:Ja a b c d f w R):CR 147 #[slice a b c,int .i64 d,f] w R:=
 aF (fn:=Tryz.f147) (by kernel_rfl) (by kernel_rfl) (by kernel_rfl) (by kernel_rfl) (by kernel_rfl) hh
def JZ (a b:Int) (w:World) (R:RW):Prop:=
 ∀c,c=w.alloc (.cells #[int .i64 a,int .i64 b] 85)→
 ∃d,c.cell? ((nb w).add 0)=some (int .i64 d)∧
 CP 196 #[int .i64 d,int .i64 0,int .i64 999] c (fun f g=>
 ∃h,f= .returned (bool h)∧
 aa h
 (∃i,g.cell? ((nb w).add 1)=some (int .i64 i)∧
 CP 196 #[int .i64 i,int .i64 0,int .i64 999] g (fun j k=>
 ∃l,j= .returned (bool l)∧
 R (bool l) k))
 (R (bool false) g))
theorem wF (a b:Int) (w:World) (R:RW) (hh:JZ a b w R):CR 148 #[agg #[int .i64 a,int .i64 b]] w R:=
 aF (fn:=Tryz.f148) (by kernel_rfl) (by kernel_rfl) (by kernel_rfl) (by kernel_rfl) (by kernel_rfl) hh
def I0 (a:OA) (b c:Nat) (d:Int) (f:Value) (w:World) (R:RW):Prop:=
 ∀g,g=w.alloc (.cells (Value.cells f) 78)→
 aa (decide ((b:Int)≤d))
 (CP 197 #[slice a b c,func (.func 198) #[] #[pointer (some (nb w))]] g (fun h i=>
 ∃j,h= .returned (bool j)∧
 R (bool (!j)) i))
 (R (bool false) g)
theorem vY (a:OA) (b c:Nat) (d:Int) (f:Value) (w:World) (R:RW) (hh:I0 a b c d f w R):CR 149 #[slice a b c,int .i64 d,f] w R:=
 aF (fn:=Tryz.f149) (by kernel_rfl) (by kernel_rfl) (by kernel_rfl) (by kernel_rfl) (by kernel_rfl) hh
def IC (a:ByteArray) (w:World) (R:RW):Prop:=
 CP 196 #[int .i64 (a.size:Int),int .i64 2,int .i64 64] w (fun b c=>
 ∃d,b= .returned (bool d)∧
 R (bool d) c)
theorem wH (a:ByteArray) (w:World) (R:RW) (hh:IC a w R):CR 150 #[string a] w R:=
 aF (fn:=Tryz.f150) (by kernel_rfl) (by kernel_rfl) (by kernel_rfl) (by kernel_rfl) (by kernel_rfl) hh
def IT (a:OA) (b c:Nat) (d:Int) (f:Value) (w:World) (R:RW):Prop:=
 ∀g,g=w.alloc (.cells (Value.cells f) 218)→
 aa (decide ((b:Int)≤d))
 (CP 199 #[slice a b c,func (.func 200) #[] #[pointer (some (nb w))]] g (fun h i=>
 ∃j,h= .returned (bool j)∧
 R (bool (!j)) i))
 (R (bool false) g)
theorem xP (a:OA) (b c:Nat) (d:Int) (f:Value) (w:World) (R:RW) (hh:IT a b c d f w R):CR 151 #[slice a b c,int .i64 d,f] w R:=
 aF (fn:=Tryz.f151) (by kernel_rfl) (by kernel_rfl) (by kernel_rfl) (by kernel_rfl) (by kernel_rfl) hh
def Ib (a:Int) (b:ByteArray) (w:World) (R:RW):Prop:=
 ∀c,c=w.alloc (.cells #[int .i64 a,string b] 87)→
 ∃d,c.cell? ((nb w).add 0)=some (int .i64 d)∧
 CP 196 #[int .i64 d,int .i64 0,int .i64 1073741824] c (fun f g=>
 ∃h,f= .returned (bool h)∧
 aa h
 (∃i,g.cell? ((nb w).add 1)=some (string i)∧
 CP 196 #[int .i64 (i.size:Int),int .i64 1,int .i64 64] g (fun j k=>
 ∃l,j= .returned (bool l)∧
 R (bool l) k))
 (R (bool false) g))
theorem vH (a:Int) (b:ByteArray) (w:World) (R:RW) (hh:Ib a b w R):CR 152 #[agg #[int .i64 a,string b]] w R:=
 aF (fn:=Tryz.f152) (by kernel_rfl) (by kernel_rfl) (by kernel_rfl) (by kernel_rfl) (by kernel_rfl) hh
def Jp (a:OA) (b c:Nat) (d:Int) (f:Value) (w:World) (R:RW):Prop:=
 ∀g,g=w.alloc (.cells (Value.cells f) 238)→
 aa (decide ((b:Int)≤d))
 (CP 201 #[slice a b c,func (.func 202) #[] #[pointer (some (nb w))]] g (fun h i=>
 ∃j,h= .returned (bool j)∧
 R (bool (!j)) i))
 (R (bool false) g)
theorem vT (a:OA) (b c:Nat) (d:Int) (f:Value) (w:World) (R:RW) (hh:Jp a b c d f w R):CR 153 #[slice a b c,int .i64 d,f] w R:=
 aF (fn:=Tryz.f153) (by kernel_rfl) (by kernel_rfl) (by kernel_rfl) (by kernel_rfl) (by kernel_rfl) hh
def KS (a b c:Int) (w:World) (R:RW):Prop:=
 ∀d,d=w.alloc (.cells #[int .i64 a,int .i64 b,int .i64 c] 89)→
 ∃f,d.cell? ((nb w).add 0)=some (int .i64 f)∧
 ∃g,d.cell? ((nb w).add 1)=some (int .i64 g)∧
 CP 196 #[int .i64 f,int .i64 0,int .i64 g] d (fun h i=>
 ∃j,h= .returned (bool j)∧
 aa j
 (∃k,i.cell? ((nb w).add 1)=some (int .i64 k)∧
 aa (decide (k≤255))
 (∃l,i.cell? ((nb w).add 2)=some (int .i64 l)∧
 CP 196 #[int .i64 l,int .i64 0,int .i64 15] i (fun m n=>
 ∃o,m= .returned (bool o)∧
 R (bool o) n))
 (R (bool false) i))
 (R (bool false) i))
theorem wR (a b c:Int) (w:World) (R:RW) (hh:KS a b c w R):CR 154 #[agg #[int .i64 a,int .i64 b,int .i64 c]] w R:=
 aF (fn:=Tryz.f154) (by kernel_rfl) (by kernel_rfl) (by kernel_rfl) (by kernel_rfl) (by kernel_rfl) hh
def Jt (a:OA) (b c:Nat) (d:Int) (f:Value) (w:World) (R:RW):Prop:=
 ∀g,g=w.alloc (.cells (Value.cells f) 240)→
 aa (decide ((b:Int)≤d))
 (CP 203 #[slice a b c,func (.func 204) #[] #[pointer (some (nb w))]] g (fun h i=>
 ∃j,h= .returned (bool j)∧
 R (bool (!j)) i))
 (R (bool false) g)
theorem xH (a:OA) (b c:Nat) (d:Int) (f:Value) (w:World) (R:RW) (hh:Jt a b c d f w R):CR 155 #[slice a b c,int .i64 d,f] w R:=
 aF (fn:=Tryz.f155) (by kernel_rfl) (by kernel_rfl) (by kernel_rfl) (by kernel_rfl) (by kernel_rfl) hh
def JA (a b:Int) (w:World) (R:RW):Prop:=
 ∀c,c=w.alloc (.cells #[int .i64 a,int .i64 b] 170)→
 ∃d,c.cell? ((nb w).add 0)=some (int .i64 d)∧
 CP 196 #[int .i64 d,int .i64 0,int .i64 15] c (fun f g=>
 ∃h,f= .returned (bool h)∧
 aa h
 (∃i,g.cell? ((nb w).add 1)=some (int .i64 i)∧
 CP 196 #[int .i64 i,int .i64 0,int .i64 15] g (fun j k=>
 ∃l,j= .returned (bool l)∧
 R (bool l) k))
 (R (bool false) g))
theorem yq (a b:Int) (w:World) (R:RW) (hh:JA a b w R):CR 156 #[agg #[int .i64 a,int .i64 b]] w R:=
 aF (fn:=Tryz.f156) (by kernel_rfl) (by kernel_rfl) (by kernel_rfl) (by kernel_rfl) (by kernel_rfl) hh
def Ij (a:Int) (w:World) (R:RW):Prop:=
 Ar .i64 ((-1:Int)-a) (fun b=>
 R (int .i64 b) w)
theorem vQ (a:Int) (w:World) (R:RW) (hh:Ij a w R):CR 160 #[int .i64 a] w R:=
 aF (fn:=Tryz.f160) (by kernel_rfl) (by kernel_rfl) (by kernel_rfl) (by kernel_rfl) (by kernel_rfl) hh
def Ke (a:OA) (b:Int) (w:World) (R:RW):Prop:=
 CP 210 #[pointer a,int .i64 b] w (fun c d=>
 ∃f,c= .returned (bool f)∧
 aa (!f)
 (R (tuple #[string ⟨#[]⟩,bool false]) d)
 (ae a (fun g=>
 ∃h i j,d.cell? (g.add 0)=some (slice h i j)∧
 ae h (fun k=>
 (0:Int)≤b∧b< (i:Int)∧
 ∃l,d.cell? ((k.add (b.toNat*3)).add 0)=some (string l)∧
 R (tuple #[string l,bool true]) d))))
theorem xj (a:OA) (b:Int) (w:World) (R:RW) (hh:Ke a b w R):CR 163 #[pointer a,int .i64 b] w R:=
 aF (fn:=Tryz.f163) (by kernel_rfl) (by kernel_rfl) (by kernel_rfl) (by kernel_rfl) (by kernel_rfl) hh
def Iz (a:OA) (b:ByteArray) (w:World) (R:RW):Prop:=
 CP 116 #[pointer a] w (fun c d=>
 ∃f,c= .returned (int .i64 f)∧
 CP 211 #[pointer a,string b,int .i64 f] d (fun g h=>
 ∃i j k,g= .returned (slice i j k)∧
 R (slice i j k) h))
theorem yw (a:OA) (b:ByteArray) (w:World) (R:RW) (hh:Iz a b w R):CR 164 #[pointer a,string b] w R:=
 aF (fn:=Tryz.f164) (by kernel_rfl) (by kernel_rfl) (by kernel_rfl) (by kernel_rfl) (by kernel_rfl) hh
def IL (a:OA) (b:ByteArray) (w:World) (R:RW):Prop:=
 CP 212 #[pointer a,string b] w (fun c d=>
 ∃f g h,c= .returned (slice f g h)∧
 R (bool (decide ((g:Int)≤1))) d)
theorem wI (a:OA) (b:ByteArray) (w:World) (R:RW) (hh:IL a b w R):CR 165 #[pointer a,string b] w R:=
 aF (fn:=Tryz.f165) (by kernel_rfl) (by kernel_rfl) (by kernel_rfl) (by kernel_rfl) (by kernel_rfl) hh
def Iu (a:OA) (b c:Nat) (w:World) (R:RW):Prop:=
 CP 189 #[slice none 0 0] w (fun d f=>
 ∃g h i,d= .returned (tuple #[pointer g,int .i64 h,int .i64 i])∧
 aa (i != 0)
 (R (tuple #[pointer none,int .i64 0,int .i64 i]) f)
 (∀j:KW,(∀(k l m:Int) (n:OA) (o:World),(aa (decide (k< (b:Int)))
 (ae a (fun p=>
 (0:Int)≤k∧k< (b:Int)∧
 ∃q,o.cell? (p.add (k.toNat*1))=some (string q)∧
 CP 239 #[pointer g,string q] o (fun r s=>
 ∃t u x,r= .returned (tuple #[agg #[int .i64 t,int .i64 u],bool x])∧
 ∀y,y=s.alloc (.cells #[int .i64 0,int .i64 0] 85)→
 ar y (nb s) (fun z=>
 aa (!x)
 (R (tuple #[pointer none,int .i64 k,int .i64 2]) z)
 (∃a1 b1,(z.cell? (nb s)=some (int .i64 a1)∧z.cell? ((nb s).add 1)=some (int .i64 b1)∧True)∧
 CP 240 #[pointer g,agg #[int .i64 a1,int .i64 b1]] z (fun c1 d1=>
 ∃e1 f1,c1= .returned (tuple #[int .i64 e1,int .i64 f1])∧
 aa (f1 != 0)
 (R (tuple #[pointer none,int .i64 k,int .i64 f1]) d1)
 (Ar .i64 (k+1) (fun g1=>
 j [int .i64 g1,int .i64 l,int .i64 m,pointer n] d1))))) [int .i64 t,int .i64 u] 0)))
 (R (tuple #[pointer g,int .i64 (b:Int),int .i64 0]) o))→j [int .i64 k,int .i64 l,int .i64 m,pointer n] o)→
 j [int .i64 0,int .i64 0,int .i64 0,pointer none] f))
theorem yS (a:OA) (b c:Nat) (w:World) (R:RW) (hh:Iu a b c w R):CR 188 #[slice a b c] w R:=
 aF (fn:=Tryz.f188) (by kernel_rfl) (by kernel_rfl) (by kernel_rfl) (by kernel_rfl) (by kernel_rfl) hh
def Jf (a:OA) (b c:Nat) (w:World) (R:RW):Prop:=
 CP 241 #[] w (fun d f=>
 ∃g,d= .returned (pointer g)∧
 ∀h:KW,(∀(i j k:Int) (l:OA) (m:World),(aa (decide (i< (b:Int)))
 (ae a (fun n=>
 (0:Int)≤i∧i< (b:Int)∧
 ∃o p,(m.cell? (n.add (i.toNat*2))=some (int .i64 o)∧m.cell? ((n.add (i.toNat*2)).add 1)=some (int .i64 p)∧True)∧
 ∀q,q=m.alloc (.cells #[int .i64 0,int .i64 0] 85)→
 ar q (nb m) (fun r=>
 ∃s t,(r.cell? (nb m)=some (int .i64 s)∧r.cell? ((nb m).add 1)=some (int .i64 t)∧True)∧
 CP 240 #[pointer g,agg #[int .i64 s,int .i64 t]] r (fun u x=>
 ∃y z,u= .returned (tuple #[int .i64 y,int .i64 z])∧
 aa (z != 0)
 (R (tuple #[pointer none,int .i64 i,int .i64 z]) x)
 (Ar .i64 (i+1) (fun a1=>
 h [int .i64 a1,int .i64 j,int .i64 k,pointer l] x)))) [int .i64 o,int .i64 p] 0))
 (R (tuple #[pointer g,int .i64 (b:Int),int .i64 0]) m))→h [int .i64 i,int .i64 j,int .i64 k,pointer l] m)→
 h [int .i64 0,int .i64 0,int .i64 0,pointer none] f)
theorem wd (a:OA) (b c:Nat) (w:World) (R:RW) (hh:Jf a b c w R):CR 189 #[slice a b c] w R:=
 aF (fn:=Tryz.f189) (by kernel_rfl) (by kernel_rfl) (by kernel_rfl) (by kernel_rfl) (by kernel_rfl) hh
def KG (a:OA) (b:Int) (c:ByteArray) (w:World) (R:RW):Prop:=
 ∀d,d=w.alloc (.cells #[int .i64 b,string c] 87)→
 ∀f,f=d.drew→
 ae a (fun g=>
 ∃h,f.cell? (g.add 1)=some (map h)∧
 ∃i,f.cell? ((nb w).add 0)=some (int .i64 i)∧
 ∃j k l,(Instr.lookup 108 (map h) (int .i64 i) true).run Tryz.prog f= .ok (tuple #[int .i64 j,bool k]) l∧
 ∀m,m=l.drew→
 ae a (fun n=>
 ∃o,m.cell? (n.add 2)=some (map o)∧
 ∃p,m.cell? ((nb w).add 1)=some (string p)∧
 ∃q r s,(Instr.lookup 205 (map o) (string p) true).run Tryz.prog m= .ok (tuple #[int .i64 q,bool r]) s∧
 ∃t x,(s.cell? (nb w)=some (int .i64 t)∧s.cell? ((nb w).add 1)=some (string x)∧True)∧
 CP 242 #[agg #[int .i64 t,string x]] s (fun y z=>
 ∃a1,y= .returned (bool a1)∧
 aa (!a1)
 (R (int .i64 1) z)
 (ae a (fun b1=>
 ∃c1 d1 e1,z.cell? (b1.add 0)=some (slice c1 d1 e1)∧
 aa (decide ((d1:Int)≥32))
 (R (int .i64 3) z)
 (aa k
 (R (int .i64 10) z)
 (aa r
 (R (int .i64 10) z)
 (∀f1,f1=z.drew→
 ae a (fun g1=>
 ∃h1,f1.cell? (g1.add 1)=some (map h1)∧
 ∃i1,f1.cell? ((nb w).add 0)=some (int .i64 i1)∧
 ae a (fun j1=>
 ∃k1,f1.cell? (j1.add 2)=some (map k1)∧
 ∃l1,f1.cell? ((nb w).add 1)=some (string l1)∧
 ae a (fun m1=>
 ∃n1 o1 p1,f1.cell? (m1.add 0)=some (slice n1 o1 p1)∧
 ae a (fun q1=>
 ∃r1 s1 t1,f1.cell? (q1.add 0)=some (slice r1 s1 t1)∧
 ∃u1 v1 x1,(Instr.mapEntry 108 (map h1) (int .i64 i1)).run Tryz.prog f1= .ok (tuple #[int .i64 u1,int .i64 v1]) x1∧
 (x1.cell? (m1.add 0)=some (slice n1 o1 p1)∧True)∧
 (x1.cell? ((nb w).add 1)=some (string l1)∧True)∧
 ∃y1,(Instr.entryStore 108 (map h1) (int .i64 v1) (int .i64 (o1:Int))).run Tryz.prog x1= .ok () y1∧
 (y1.cell? ((nb w).add 1)=some (string l1)∧True)∧
 ∃z1 a2 b2,(Instr.mapEntry 205 (map k1) (string l1)).run Tryz.prog y1= .ok (tuple #[int .i64 z1,int .i64 a2]) b2∧
 ∃c2,(Instr.entryStore 205 (map k1) (int .i64 a2) (int .i64 (s1:Int))).run Tryz.prog b2= .ok () c2∧
 ∀d2,d2=c2.drew→
 ∃e2,d2.cell? ((nb w).add 1)=some (string e2)∧
 (0:Int)≤0∧0< (e2.size:Int)∧
 ae a (fun f2=>
 (0:Int)≤(btAt e2 0)∧(btAt e2 0) < (256:Int)∧
 (bool true).oneCell'=true∧(∃u,d2.cell? ((f2.add 3).add ((btAt e2 0:Int).toNat*1))=some u)∧d2.frozen? ((f2.add 3).add ((btAt e2 0:Int).toNat*1))=false∧
 ∀g2,g2=(d2.setCell ((f2.add 3).add ((btAt e2 0:Int).toNat*1)) (bool true))→
 ∀h2,h2=g2.drew→
 ae a (fun i2=>
 ∃j2,h2.cell? (i2.add 259)=some (int .i64 j2)∧
 ∃k2,h2.cell? ((nb w).add 1)=some (string k2)∧
 ∃l2 m2,(Builtin.max_ #[3,3] 3 #[int .i64 j2,int .i64 (k2.size:Int)]).run Tryz.prog h2= .ok (int .i64 l2) m2∧
 ae a (fun n2=>
 (int .i64 l2).oneCell'=true∧(∃u,m2.cell? (n2.add 259)=some u)∧m2.frozen? (n2.add 259)=false∧
 ∀o2,o2=(m2.setCell (n2.add 259) (int .i64 l2))→
 ∀p2,p2=o2.drew→
 ae a (fun q2=>
 ∃r2 s2 t2,p2.cell? (q2.add 0)=some (slice r2 s2 t2)∧
 ∃u2 v2,(p2.cell? (nb w)=some (int .i64 u2)∧p2.cell? ((nb w).add 1)=some (string v2)∧True)∧
 ∀x2,x2=p2.alloc (.cells #[int .i64 u2,string v2] 87)→
 (x2.cell? (q2.add 0)=some (slice r2 s2 t2)∧True)∧
 ∃y2 z2 a3 b3,(Builtin.append_ #[25,25] 25 #[slice r2 s2 t2,slice (some (nb p2)) 1 1]).run Tryz.prog x2= .ok (slice y2 z2 a3) b3∧
 ae a (fun c3=>
 (slice y2 z2 a3).oneCell'=true∧(∃u,b3.cell? (c3.add 0)=some u)∧b3.frozen? (c3.add 0)=false∧
 ∀d3,d3=(b3.setCell (c3.add 0) (slice y2 z2 a3))→
 R (int .i64 0) d3)))))))))))))))))
theorem wX (a:OA) (b:Int) (c:ByteArray) (w:World) (R:RW) (hh:KG a b c w R):CR 190 #[pointer a,agg #[int .i64 b,string c]] w R:=
 aF (fn:=Tryz.f190) (by kernel_rfl) (by kernel_rfl) (by kernel_rfl) (by kernel_rfl) (by kernel_rfl) hh
def IG (a b c:Int) (w:World) (R:RW):Prop:=
 ∀d,d=w.alloc (.cells #[int .i64 a,int .i64 b,int .i64 c] 89)→
 ∃f,d.cell? ((nb w).add 0)=some (int .i64 f)∧
 aa (decide (f≥0))
 (∃g,d.cell? ((nb w).add 0)=some (int .i64 g)∧
 ∃h,d.cell? ((nb w).add 1)=some (int .i64 h)∧
 aa (decide (g≤h))
 (∃i,d.cell? ((nb w).add 1)=some (int .i64 i)∧
 aa (decide (i<256))
 (∃j,d.cell? ((nb w).add 2)=some (int .i64 j)∧
 CP 192 #[int .i64 j] d (fun k l=>
 ∃m,k= .returned (bool m)∧
 R (bool m) l))
 (R (bool false) d))
 (R (bool false) d))
 (R (bool false) d)
theorem wP (a b c:Int) (w:World) (R:RW) (hh:IG a b c w R):CR 191 #[agg #[int .i64 a,int .i64 b,int .i64 c]] w R:=
 aF (fn:=Tryz.f191) (by kernel_rfl) (by kernel_rfl) (by kernel_rfl) (by kernel_rfl) (by kernel_rfl) hh
def JP (a:Int) (w:World) (R:RW):Prop:=
 aa (decide (a≥0))
 (R (bool (decide (a<16))) w)
 (R (bool false) w)
theorem yy (a:Int) (w:World) (R:RW) (hh:JP a w R):CR 192 #[int .i64 a] w R:=
 aF (fn:=Tryz.f192) (by kernel_rfl) (by kernel_rfl) (by kernel_rfl) (by kernel_rfl) (by kernel_rfl) hh
def Ir (a:OA) (b c:Nat) (d:Value) (w:World) (R:RW):Prop:=
 CP 243 #[slice a b c,d] w (fun f g=>
 ∃h,f= .returned (int .i64 h)∧
 R (bool (decide (h≥0))) g)
theorem w_ (a:OA) (b c:Nat) (d:Value) (w:World) (R:RW) (hh:Ir a b c d w R):CR 194 #[slice a b c,d] w R:=
 aF (fn:=Tryz.f194) (by kernel_rfl) (by kernel_rfl) (by kernel_rfl) (by kernel_rfl) (by kernel_rfl) hh
def Kd (a b:Int) (c:OA) (w:World) (R:RW):Prop:=
 ∀d,d=w.alloc (.cells #[int .i64 a,int .i64 b] 85)→
 ae c (fun f=>
 ∃g,d.cell? f=some (g)∧
 ∃h i,(d.cell? (nb w)=some (int .i64 h)∧d.cell? ((nb w).add 1)=some (int .i64 i)∧True)∧
 cI mf g [agg #[int .i64 h,int .i64 i]] d (fun j k=>
 ∃l,j= .returned (bool l)∧
 R (bool (!l)) k))
theorem vh (a b:Int) (c:OA) (w:World) (R:RW) (hh:Kd a b c w R):CR 195 #[agg #[int .i64 a,int .i64 b],pointer c] w R:=
 aF (fn:=Tryz.f195) (by kernel_rfl) (by kernel_rfl) (by kernel_rfl) (by kernel_rfl) (by kernel_rfl) hh
def JV (a b c:Int) (w:World) (R:RW):Prop:=
 aa (decide (a≥b))
 (R (bool (decide (a≤c))) w)
 (R (bool false) w)
theorem yz (a b c:Int) (w:World) (R:RW) (hh:JV a b c w R):CR 196 #[int .i64 a,int .i64 b,int .i64 c] w R:=
 aF (fn:=Tryz.f196) (by kernel_rfl) (by kernel_rfl) (by kernel_rfl) (by kernel_rfl) (by kernel_rfl) hh
def Jm (a:OA) (b c:Nat) (d:Value) (w:World) (R:RW):Prop:=
 CP 244 #[slice a b c,d] w (fun f g=>
 ∃h,f= .returned (int .i64 h)∧
 R (bool (decide (h≥0))) g)
theorem yo (a:OA) (b c:Nat) (d:Value) (w:World) (R:RW) (hh:Jm a b c d w R):CR 197 #[slice a b c,d] w R:=
 aF (fn:=Tryz.f197) (by kernel_rfl) (by kernel_rfl) (by kernel_rfl) (by kernel_rfl) (by kernel_rfl) hh
def Kv (a:ByteArray) (b:OA) (w:World) (R:RW):Prop:=
 ae b (fun c=>
 ∃d,w.cell? c=some (d)∧
 cI mf d [string a] w (fun f g=>
 ∃h,f= .returned (bool h)∧
 R (bool (!h)) g))
theorem vr (a:ByteArray) (b:OA) (w:World) (R:RW) (hh:Kv a b w R):CR 198 #[string a,pointer b] w R:=
 aF (fn:=Tryz.f198) (by kernel_rfl) (by kernel_rfl) (by kernel_rfl) (by kernel_rfl) (by kernel_rfl) hh
def Io (a:OA) (b c:Nat) (d:Value) (w:World) (R:RW):Prop:=
 CP 132 #[slice a b c,d] w (fun f g=>
 ∃h,f= .returned (int .i64 h)∧
 R (bool (decide (h≥0))) g)
theorem vU (a:OA) (b c:Nat) (d:Value) (w:World) (R:RW) (hh:Io a b c d w R):CR 199 #[slice a b c,d] w R:=
 aF (fn:=Tryz.f199) (by kernel_rfl) (by kernel_rfl) (by kernel_rfl) (by kernel_rfl) (by kernel_rfl) hh
def ID (a:Int) (b:ByteArray) (c:OA) (w:World) (R:RW):Prop:=
 ∀d,d=w.alloc (.cells #[int .i64 a,string b] 87)→
 ae c (fun f=>
 ∃g,d.cell? f=some (g)∧
 ∃h i,(d.cell? (nb w)=some (int .i64 h)∧d.cell? ((nb w).add 1)=some (string i)∧True)∧
 cI mf g [agg #[int .i64 h,string i]] d (fun j k=>
 ∃l,j= .returned (bool l)∧
 R (bool (!l)) k))
theorem yK (a:Int) (b:ByteArray) (c:OA) (w:World) (R:RW) (hh:ID a b c w R):CR 200 #[agg #[int .i64 a,string b],pointer c] w R:=
 aF (fn:=Tryz.f200) (by kernel_rfl) (by kernel_rfl) (by kernel_rfl) (by kernel_rfl) (by kernel_rfl) hh
def Kn (a:OA) (b c:Nat) (d:Value) (w:World) (R:RW):Prop:=
 CP 245 #[slice a b c,d] w (fun f g=>
 ∃h,f= .returned (int .i64 h)∧
 R (bool (decide (h≥0))) g)
theorem vS (a:OA) (b c:Nat) (d:Value) (w:World) (R:RW) (hh:Kn a b c d w R):CR 201 #[slice a b c,d] w R:=
 aF (fn:=Tryz.f201) (by kernel_rfl) (by kernel_rfl) (by kernel_rfl) (by kernel_rfl) (by kernel_rfl) hh
def KJ (a b c:Int) (d:OA) (w:World) (R:RW):Prop:=
 ∀f,f=w.alloc (.cells #[int .i64 a,int .i64 b,int .i64 c] 89)→
 ae d (fun g=>
 ∃h,f.cell? g=some (h)∧
 ∃i j k,(f.cell? (nb w)=some (int .i64 i)∧f.cell? ((nb w).add 1)=some (int .i64 j)∧f.cell? ((nb w).add 2)=some (int .i64 k)∧True)∧
 cI mf h [agg #[int .i64 i,int .i64 j,int .i64 k]] f (fun l m=>
 ∃n,l= .returned (bool n)∧
 R (bool (!n)) m))
theorem xU (a b c:Int) (d:OA) (w:World) (R:RW) (hh:KJ a b c d w R):CR 202 #[agg #[int .i64 a,int .i64 b,int .i64 c],pointer d] w R:=
 aF (fn:=Tryz.f202) (by kernel_rfl) (by kernel_rfl) (by kernel_rfl) (by kernel_rfl) (by kernel_rfl) hh
def JY (a:OA) (b c:Nat) (d:Value) (w:World) (R:RW):Prop:=
 CP 246 #[slice a b c,d] w (fun f g=>
 ∃h,f= .returned (int .i64 h)∧
 R (bool (decide (h≥0))) g)
theorem xo (a:OA) (b c:Nat) (d:Value) (w:World) (R:RW) (hh:JY a b c d w R):CR 203 #[slice a b c,d] w R:=
 aF (fn:=Tryz.f203) (by kernel_rfl) (by kernel_rfl) (by kernel_rfl) (by kernel_rfl) (by kernel_rfl) hh
def Is (a b:Int) (c:OA) (w:World) (R:RW):Prop:=
 ∀d,d=w.alloc (.cells #[int .i64 a,int .i64 b] 170)→
 ae c (fun f=>
 ∃g,d.cell? f=some (g)∧
 ∃h i,(d.cell? (nb w)=some (int .i64 h)∧d.cell? ((nb w).add 1)=some (int .i64 i)∧True)∧
 cI mf g [agg #[int .i64 h,int .i64 i]] d (fun j k=>
 ∃l,j= .returned (bool l)∧
 R (bool (!l)) k))
theorem xh (a b:Int) (c:OA) (w:World) (R:RW) (hh:Is a b c w R):CR 204 #[agg #[int .i64 a,int .i64 b],pointer c] w R:=
 aF (fn:=Tryz.f204) (by kernel_rfl) (by kernel_rfl) (by kernel_rfl) (by kernel_rfl) (by kernel_rfl) hh
def Kg (a:OA) (b:Int) (w:World) (R:RW):Prop:=
 aa (decide (b≥0))
 (CP 116 #[pointer a] w (fun c d=>
 ∃f,c= .returned (int .i64 f)∧
 R (bool (decide (b<f))) d))
 (R (bool false) w)
theorem yJ (a:OA) (b:Int) (w:World) (R:RW) (hh:Kg a b w R):CR 210 #[pointer a,int .i64 b] w R:=
 aF (fn:=Tryz.f210) (by kernel_rfl) (by kernel_rfl) (by kernel_rfl) (by kernel_rfl) (by kernel_rfl) hh
def Iy (a:OA) (b:ByteArray) (c:Int) (w:World) (R:RW):Prop:=
 aa (Option.isNone a)
 (R (slice none 0 0) w)
 (CP 251 #[pointer a,string b,int .i64 c] w (fun d f=>
 ∃g,d= .returned (pointer g)∧
 CP 252 #[pointer g] f (fun h i=>
 h= .returned (tuple #[])∧
 CP 253 #[pointer g] i (fun j k=>
 ∃l m n,j= .returned (slice l m n)∧
 R (slice l m n) k))))
theorem vj (a:OA) (b:ByteArray) (c:Int) (w:World) (R:RW) (hh:Iy a b c w R):CR 211 #[pointer a,string b,int .i64 c] w R:=
 aF (fn:=Tryz.f211) (by kernel_rfl) (by kernel_rfl) (by kernel_rfl) (by kernel_rfl) (by kernel_rfl) hh
def IN (a:OA) (b:ByteArray) (w:World) (R:RW):Prop:=
 ∀c:KW,(∀(d f:Int) (g:OA) (h i:Nat) (j:World),(aa (decide (d≤(b.size:Int)))
 (∀k:KW,(∀(l:Int) (m:OA) (n o:Nat) (p:World),(Ar .i64 (d+1) (fun q=>
 c [int .i64 q,int .i64 l,slice m n o] p))→k [int .i64 l,slice m n o] p)→
 ∀r,r=j.drew→
 aa (d==(b.size:Int))
 ((0:Int)≤f∧f≤d∧d≤(b.size:Int)∧
 ∀s,s=r.alloc (.cells #[string (b.extract f.toNat d.toNat)] 9)→
 ∃t u x y,(Builtin.append_ #[32,32] 32 #[slice g h i,slice (some (nb r)) 1 1]).run Tryz.prog s= .ok (slice t u x) y∧
 k [int .i64 d,slice t u x] y)
 (Ar .i64 (d-1) (fun z=>
 (0:Int)≤z∧z< (b.size:Int)∧
 (0:Int)≤d∧d< (b.size:Int)∧
 CP 227 #[pointer a,int .u8 (btAt b z),int .u8 (btAt b d)] r (fun a1 b1=>
 ∃c1,a1= .returned (bool c1)∧
 aa c1
 ((0:Int)≤f∧f≤d∧d≤(b.size:Int)∧
 ∀d1,d1=b1.alloc (.cells #[string (b.extract f.toNat d.toNat)] 9)→
 ∃e1 f1 g1 h1,(Builtin.append_ #[32,32] 32 #[slice g h i,slice (some (nb b1)) 1 1]).run Tryz.prog d1= .ok (slice e1 f1 g1) h1∧
 k [int .i64 d,slice e1 f1 g1] h1)
 (k [int .i64 f,slice g h i] b1)))))
 (R (slice g h i) j))→c [int .i64 d,int .i64 f,slice g h i] j)→
 c [int .i64 1,int .i64 0,slice none 0 0] w
theorem uZ (a:OA) (b:ByteArray) (w:World) (R:RW) (hh:IN a b w R):CR 212 #[pointer a,string b] w R:=
 aF (fn:=Tryz.f212) (by kernel_rfl) (by kernel_rfl) (by kernel_rfl) (by kernel_rfl) (by kernel_rfl) hh
def JW (a:OA) (b c:Int) (w:World) (R:RW):Prop:=
 aa (Option.isNone a)
 (R (bool false) w)
 (∀d,d=w.drew→
 ae a (fun f=>
 (0:Int)≤b∧b< (256:Int)∧
 ∃g,d.cell? ((f.add 0).add (b.toNat*1))=some (int .i64 g)∧
 ae a (fun h=>
 (0:Int)≤c∧c< (256:Int)∧
 ∃i,d.cell? ((h.add 0).add (c.toNat*1))=some (int .i64 i)∧
 aa (g != i)
 (ae a (fun j=>
 (0:Int)≤g∧g< (16:Int)∧
 (0:Int)≤i∧i< (16:Int)∧
 ∃k,d.cell? (((j.add 256).add (g.toNat*16)).add (i.toNat*1))=some (bool k)∧
 R (bool (!k)) d))
 (R (bool false) d))))
theorem xy (a:OA) (b c:Int) (w:World) (R:RW) (hh:JW a b c w R):CR 227 #[pointer a,int .u8 b,int .u8 c] w R:=
 aF (fn:=Tryz.f227) (by kernel_rfl) (by kernel_rfl) (by kernel_rfl) (by kernel_rfl) (by kernel_rfl) hh
def JI (a:OA) (b:ByteArray) (w:World) (R:RW):Prop:=
 ∀c,c=w.alloc (.cells #[int .i64 0,int .i64 0] 85)→
 CP 164 #[pointer a,string b] c (fun d f=>
 ∃g h i,d= .returned (slice g h i)∧
 aa ((h:Int) != 2)
 (ar f (nb w) (fun j=>
 ∃k l,(j.cell? (nb w)=some (int .i64 k)∧j.cell? ((nb w).add 1)=some (int .i64 l)∧True)∧
 R (tuple #[agg #[int .i64 k,int .i64 l],bool false]) j) [int .i64 0,int .i64 0] 0)
 (∀m,m=f.drew→
 ae g (fun n=>
 (0:Int)≤0∧0< (h:Int)∧
 ∃o,m.cell? (n.add ((0:Int).toNat*1))=some (int .i64 o)∧
 ae g (fun p=>
 (0:Int)≤1∧1< (h:Int)∧
 ∃q,m.cell? (p.add ((1:Int).toNat*1))=some (int .i64 q)∧
 ar m (nb w) (fun r=>
 ∃s t,(r.cell? (nb w)=some (int .i64 s)∧r.cell? ((nb w).add 1)=some (int .i64 t)∧True)∧
 R (tuple #[agg #[int .i64 s,int .i64 t],bool true]) r) [int .i64 o,int .i64 q] 0))))
theorem xT (a:OA) (b:ByteArray) (w:World) (R:RW) (hh:JI a b w R):CR 239 #[pointer a,string b] w R:=
 aF (fn:=Tryz.f239) (by kernel_rfl) (by kernel_rfl) (by kernel_rfl) (by kernel_rfl) (by kernel_rfl) hh
def IR (a:OA) (b c:Int) (w:World) (R:RW):Prop:=
 ∀d,d=w.alloc (.cells #[int .i64 b,int .i64 c] 85)→
 aa (Option.isNone a)
 (R (tuple #[int .i64 0,int .i64 1]) d)
 (∃f,d.cell? ((nb w).add 0)=some (int .i64 f)∧
 CP 210 #[pointer a,int .i64 f] d (fun g h=>
 ∃i,g= .returned (bool i)∧
 aa (!i)
 (R (tuple #[int .i64 0,int .i64 4]) h)
 (∃j,h.cell? ((nb w).add 1)=some (int .i64 j)∧
 CP 210 #[pointer a,int .i64 j] h (fun k l=>
 ∃m,k= .returned (bool m)∧
 aa (!m)
 (R (tuple #[int .i64 0,int .i64 4]) l)
 (∀n,n=l.drew→
 ae a (fun o=>
 ∃p q r,n.cell? (o.add 0)=some (slice p q r)∧
 ∃s,n.cell? ((nb w).add 0)=some (int .i64 s)∧
 ae p (fun t=>
 (0:Int)≤s∧s< (q:Int)∧
 ∃x,n.cell? ((t.add (s.toNat*3)).add 0)=some (string x)∧
 ae a (fun y=>
 ∃z a1 b1,n.cell? (y.add 0)=some (slice z a1 b1)∧
 ∃c1,n.cell? ((nb w).add 1)=some (int .i64 c1)∧
 ae z (fun d1=>
 (0:Int)≤c1∧c1< (a1:Int)∧
 ∃e1,n.cell? ((d1.add (c1.toNat*3)).add 0)=some (string e1)∧
 ((x.size+e1.size:Nat):Int)≤IntKind.i64.max∧
 aa (decide ((((x++e1:ByteArray).size:Int):Int)>64))
 (R (tuple #[int .i64 0,int .i64 3]) n)
 (ae a (fun f1=>
 ∃g1 h1 i1,n.cell? (f1.add 0)=some (slice g1 h1 i1)∧
 aa (decide ((h1:Int)≥1000))
 (R (tuple #[int .i64 0,int .i64 5]) n)
 (ae a (fun j1=>
 ∃k1,n.cell? (j1.add 1)=some (map k1)∧
 ∃l1 m1 n1,(Instr.lookup 205 (map k1) (string (x++e1)) true).run Tryz.prog n= .ok (tuple #[int .i64 l1,bool m1]) n1∧
 aa m1
 (R (tuple #[int .i64 0,int .i64 10]) n1)
 (ae a (fun o1=>
 ∃p1 q1 r1,n1.cell? (o1.add 0)=some (slice p1 q1 r1)∧
 ∀s1,s1=n1.drew→
 ae a (fun t1=>
 ∃u1 v1 x1,s1.cell? (t1.add 0)=some (slice u1 v1 x1)∧
 ∃y1 z1,(s1.cell? (nb w)=some (int .i64 y1)∧s1.cell? ((nb w).add 1)=some (int .i64 z1)∧True)∧
 ∀a2,a2=s1.alloc (.cells #[string (x++e1),int .i64 y1,int .i64 z1] 300)→
 (a2.cell? (t1.add 0)=some (slice u1 v1 x1)∧True)∧
 ∃b2 c2 d2 e2,(Builtin.append_ #[258,258] 258 #[slice u1 v1 x1,slice (some (nb s1)) 1 1]).run Tryz.prog a2= .ok (slice b2 c2 d2) e2∧
 ae a (fun f2=>
 (slice b2 c2 d2).oneCell'=true∧(∃u,e2.cell? (f2.add 0)=some u)∧e2.frozen? (f2.add 0)=false∧
 ∀g2,g2=(e2.setCell (f2.add 0) (slice b2 c2 d2))→
 ∀h2,h2=g2.drew→
 ae a (fun i2=>
 ∃j2,h2.cell? (i2.add 1)=some (map j2)∧
 ae a (fun k2=>
 ∃l2,h2.cell? (k2.add 2)=some (map l2)∧
 ∃m2 n2,(h2.cell? (nb w)=some (int .i64 m2)∧h2.cell? ((nb w).add 1)=some (int .i64 n2)∧True)∧
 ∃o2 p2 q2,(Instr.mapEntry 205 (map j2) (string (x++e1))).run Tryz.prog h2= .ok (tuple #[int .i64 o2,int .i64 p2]) q2∧
 (q2.cell? (nb w)=some (int .i64 m2)∧q2.cell? ((nb w).add 1)=some (int .i64 n2)∧True)∧
 ∃r2,(Instr.entryStore 205 (map j2) (int .i64 p2) (int .i64 (q1:Int))).run Tryz.prog q2= .ok () r2∧
 (r2.cell? (nb w)=some (int .i64 m2)∧r2.cell? ((nb w).add 1)=some (int .i64 n2)∧True)∧
 ∃s2 t2 u2,(Instr.mapEntry 259 (map l2) (agg #[int .i64 m2,int .i64 n2])).run Tryz.prog r2= .ok (tuple #[int .i64 s2,int .i64 t2]) u2∧
 ∃v2,(Instr.entryStore 259 (map l2) (int .i64 t2) (int .i64 (q1:Int))).run Tryz.prog u2= .ok () v2∧
 ae a (fun x2=>
 ∃y2,v2.cell? (x2.add 3)=some (int .i64 y2)∧
 ∃z2 a3,(Builtin.max_ #[3,3] 3 #[int .i64 y2,int .i64 ((x++e1:ByteArray).size:Int)]).run Tryz.prog v2= .ok (int .i64 z2) a3∧
 ae a (fun b3=>
 (int .i64 z2).oneCell'=true∧(∃u,a3.cell? (b3.add 3)=some u)∧a3.frozen? (b3.add 3)=false∧
 ∀c3,c3=(a3.setCell (b3.add 3) (int .i64 z2))→
 R (tuple #[int .i64 (q1:Int),int .i64 0]) c3)))))))))))))))))))))
theorem vz (a:OA) (b c:Int) (w:World) (R:RW) (hh:IR a b c w R):CR 240 #[pointer a,agg #[int .i64 b,int .i64 c]] w R:=
 aF (fn:=Tryz.f240) (by kernel_rfl) (by kernel_rfl) (by kernel_rfl) (by kernel_rfl) (by kernel_rfl) hh
def KC (w:World) (R:RW):Prop:=
 ∃a b,(Instr.makeMap 205 none).run Tryz.prog w= .ok (map a) b∧
 ∃c d,(Instr.makeMap 259 none).run Tryz.prog b= .ok (map c) d∧
 ∀f,f=d.alloc (.cells #[slice none 0 0,map a,map c,int .i64 1] 261)→
 ∀g:KW,(∀(h:Int) (i:World),(aa (decide (h<256))
 (∀j,j=i.alloc (.cells #[int .u8 (IntKind.wrap .u8 h)] 5)→
 ∃k l,(convert 57 9 (slice (some (nb i)) 1 1)).run Tryz.prog j= .ok (string k) l∧
 ∃m n o,l.cell? ((nb d).add 0)=some (slice m n o)∧
 ∀p,p=l.alloc (.cells #[string k,int .i64 (-1),int .i64 (-1)] 300)→
 ∃q r s t,(Builtin.append_ #[258,258] 258 #[slice m n o,slice (some (nb l)) 1 1]).run Tryz.prog p= .ok (slice q r s) t∧
 (slice q r s).oneCell'=true∧(∃u,t.cell? ((nb d).add 0)=some u)∧t.frozen? ((nb d).add 0)=false∧
 ∀x,x=(t.setCell ((nb d).add 0) (slice q r s))→
 ∃y,x.cell? ((nb d).add 1)=some (map y)∧
 ∃z,(Instr.mapUpdate 205 (map y) (string k) (int .i64 h)).run Tryz.prog x= .ok () z∧
 Ar .i64 (h+1) (fun a1=>
 g [int .i64 a1] z))
 (R (pointer (some (nb d))) i))→g [int .i64 h] i)→
 g [int .i64 0] f
theorem xO (w:World) (R:RW) (hh:KC w R):CR 241 #[] w R:=
 aF (fn:=Tryz.f241) (by kernel_rfl) (by kernel_rfl) (by kernel_rfl) (by kernel_rfl) (by kernel_rfl) hh
def KP (a:Int) (b:ByteArray) (w:World) (R:RW):Prop:=
 ∀c,c=w.alloc (.cells #[int .i64 a,string b] 87)→
 ∃d,c.cell? ((nb w).add 0)=some (int .i64 d)∧
 aa (decide (d≥0))
 (∃f,c.cell? ((nb w).add 0)=some (int .i64 f)∧
 aa (decide (f≤1073741824))
 (∃g,c.cell? ((nb w).add 1)=some (string g)∧
 aa (!(g.toList==(⟨#[]⟩:ByteArray).toList))
 (∃h,c.cell? ((nb w).add 1)=some (string h)∧
 R (bool (decide (((h.size:Int):Int)≤64))) c)
 (R (bool false) c))
 (R (bool false) c))
 (R (bool false) c)
theorem wr (a:Int) (b:ByteArray) (w:World) (R:RW) (hh:KP a b w R):CR 242 #[agg #[int .i64 a,string b]] w R:=
 aF (fn:=Tryz.f242) (by kernel_rfl) (by kernel_rfl) (by kernel_rfl) (by kernel_rfl) (by kernel_rfl) hh
def Ku (a:OA) (b c:Nat) (d:Value) (w:World) (R:RW):Prop:=
 ∀f:KW,(∀(g h:Int) (i:World),(aa (decide (g< (b:Int)))
 (ae a (fun j=>
 (0:Int)≤g∧g< (b:Int)∧
 ∃k l,(i.cell? (j.add (g.toNat*2))=some (int .i64 k)∧i.cell? ((j.add (g.toNat*2)).add 1)=some (int .i64 l)∧True)∧
 cI mf d [agg #[int .i64 k,int .i64 l]] i (fun m n=>
 ∃o,m= .returned (bool o)∧
 aa o
 (R (int .i64 g) n)
 (Ar .i64 (g+1) (fun p=>
 f [int .i64 p,int .i64 h] n)))))
 (R (int .i64 (-1)) i))→f [int .i64 g,int .i64 h] i)→
 f [int .i64 0,int .i64 0] w
theorem yd (a:OA) (b c:Nat) (d:Value) (w:World) (R:RW) (hh:Ku a b c d w R):CR 243 #[slice a b c,d] w R:=
 aF (fn:=Tryz.f243) (by kernel_rfl) (by kernel_rfl) (by kernel_rfl) (by kernel_rfl) (by kernel_rfl) hh
def JS (a:OA) (b c:Nat) (d:Value) (w:World) (R:RW):Prop:=
 ∀f:KW,(∀(g h:Int) (i:World),(aa (decide (g< (b:Int)))
 (ae a (fun j=>
 (0:Int)≤g∧g< (b:Int)∧
 ∃k,i.cell? (j.add (g.toNat*1))=some (string k)∧
 cI mf d [string k] i (fun l m=>
 ∃n,l= .returned (bool n)∧
 aa n
 (R (int .i64 g) m)
 (Ar .i64 (g+1) (fun o=>
 f [int .i64 o,int .i64 h] m)))))
 (R (int .i64 (-1)) i))→f [int .i64 g,int .i64 h] i)→
 f [int .i64 0,int .i64 0] w
theorem uY (a:OA) (b c:Nat) (d:Value) (w:World) (R:RW) (hh:JS a b c d w R):CR 244 #[slice a b c,d] w R:=
 aF (fn:=Tryz.f244) (by kernel_rfl) (by kernel_rfl) (by kernel_rfl) (by kernel_rfl) (by kernel_rfl) hh
def IZ (a:OA) (b c:Nat) (d:Value) (w:World) (R:RW):Prop:=
 ∀f:KW,(∀(g h:Int) (i:World),(aa (decide (g< (b:Int)))
 (ae a (fun j=>
 (0:Int)≤g∧g< (b:Int)∧
 ∃k l m,(i.cell? (j.add (g.toNat*3))=some (int .i64 k)∧i.cell? ((j.add (g.toNat*3)).add 1)=some (int .i64 l)∧i.cell? ((j.add (g.toNat*3)).add 2)=some (int .i64 m)∧True)∧
 cI mf d [agg #[int .i64 k,int .i64 l,int .i64 m]] i (fun n o=>
 ∃p,n= .returned (bool p)∧
 aa p
 (R (int .i64 g) o)
 (Ar .i64 (g+1) (fun q=>
 f [int .i64 q,int .i64 h] o)))))
 (R (int .i64 (-1)) i))→f [int .i64 g,int .i64 h] i)→
 f [int .i64 0,int .i64 0] w
theorem wj (a:OA) (b c:Nat) (d:Value) (w:World) (R:RW) (hh:IZ a b c d w R):CR 245 #[slice a b c,d] w R:=
 aF (fn:=Tryz.f245) (by kernel_rfl) (by kernel_rfl) (by kernel_rfl) (by kernel_rfl) (by kernel_rfl) hh
def JH (a:OA) (b c:Nat) (d:Value) (w:World) (R:RW):Prop:=
 ∀f:KW,(∀(g h:Int) (i:World),(aa (decide (g< (b:Int)))
 (ae a (fun j=>
 (0:Int)≤g∧g< (b:Int)∧
 ∃k l,(i.cell? (j.add (g.toNat*2))=some (int .i64 k)∧i.cell? ((j.add (g.toNat*2)).add 1)=some (int .i64 l)∧True)∧
 cI mf d [agg #[int .i64 k,int .i64 l]] i (fun m n=>
 ∃o,m= .returned (bool o)∧
 aa o
 (R (int .i64 g) n)
 (Ar .i64 (g+1) (fun p=>
 f [int .i64 p,int .i64 h] n)))))
 (R (int .i64 (-1)) i))→f [int .i64 g,int .i64 h] i)→
 f [int .i64 0,int .i64 0] w
theorem xd (a:OA) (b c:Nat) (d:Value) (w:World) (R:RW) (hh:JH a b c d w R):CR 246 #[slice a b c,d] w R:=
 aF (fn:=Tryz.f246) (by kernel_rfl) (by kernel_rfl) (by kernel_rfl) (by kernel_rfl) (by kernel_rfl) hh
def Jo (a:OA) (b:ByteArray) (c:Int) (w:World) (R:RW):Prop:=
 CP 279 #[] w (fun d f=>
 ∃g,d= .returned (pointer g)∧
 ∀h,h=f.alloc (.cells #[pointer a,slice none 0 0,pointer g,int .i64 c,int .i64 0] 360)→
 ∀i:KW,(∀(j:Int) (k:World),(aa (decide (j< (b.size:Int)))
 (∀l,l=k.drew→
 ∃m n o,l.cell? ((nb f).add 1)=some (slice m n o)∧
 (0:Int)≤j∧j< (b.size:Int)∧
 Ar .i64 (j-1) (fun p=>
 Ar .i64 (j+1) (fun q=>
 ∀r,r=l.alloc (.cells #[int .i64 (IntKind.wrap .i64 (btAt b j)),int .i64 p,int .i64 q] 362)→
 (r.cell? ((nb f).add 1)=some (slice m n o)∧True)∧
 ∃s t x y,(Builtin.append_ #[358,358] 358 #[slice m n o,slice (some (nb l)) 1 1]).run Tryz.prog r= .ok (slice s t x) y∧
 (slice s t x).oneCell'=true∧(∃u,y.cell? ((nb f).add 1)=some u)∧y.frozen? ((nb f).add 1)=false∧
 ∀z,z=(y.setCell ((nb f).add 1) (slice s t x))→
 Ar .i64 (j+1) (fun a1=>
 i [int .i64 a1] z))))
 (∀b1:KW,(∀c1:World,(∃d1 e1 f1,c1.cell? ((nb f).add 1)=some (slice d1 e1 f1)∧
 ∀g1:KW,(∀(h1:Int) (i1:World),(aa (decide (h1< (e1:Int)))
 (CP 280 #[pointer (some (nb f)),int .i64 h1] i1 (fun j1 k1=>
 j1= .returned (tuple #[])∧
 Ar .i64 (h1+1) (fun l1=>
 g1 [int .i64 l1] k1)))
 (R (pointer (some (nb f))) i1))→g1 [int .i64 h1] i1)→
 g1 [int .i64 0] c1)→b1 [] c1)→
 ∃m1 n1 o1,k.cell? ((nb f).add 1)=some (slice m1 n1 o1)∧
 aa (decide ((n1:Int)>0))
 (∃p1 q1 r1,k.cell? ((nb f).add 1)=some (slice p1 q1 r1)∧
 Ar .i64 ((n1:Int)-1) (fun s1=>
 ae p1 (fun t1=>
 (0:Int)≤s1∧s1< (q1:Int)∧
 (int .i64 (-1)).oneCell'=true∧(∃u,k.cell? ((t1.add (s1.toNat*3)).add 2)=some u)∧k.frozen? ((t1.add (s1.toNat*3)).add 2)=false∧
 ∀u1,u1=(k.setCell ((t1.add (s1.toNat*3)).add 2) (int .i64 (-1)))→
 b1 [] u1)))
 (b1 [] k)))→i [int .i64 j] k)→
 i [int .i64 0] h)
theorem wY (a:OA) (b:ByteArray) (c:Int) (w:World) (R:RW) (hh:Jo a b c w R):CR 251 #[pointer a,string b,int .i64 c] w R:=
 aF (fn:=Tryz.f251) (by kernel_rfl) (by kernel_rfl) (by kernel_rfl) (by kernel_rfl) (by kernel_rfl) hh
def Km (a:OA) (w:World) (R:RW):Prop:=
 ∀b:KW,(∀c:World,(∀d:KW,(∀f:World,(b [] f)→d [] f)→
 ae a (fun g=>
 ∃h,c.cell? (g.add 2)=some (pointer h)∧
 CP 281 #[pointer h] c (fun i j=>
 ∃k l m n o p,i= .returned (tuple #[agg #[int .i64 k,int .i64 l,int .i64 m],int .i64 n,int .i64 o,bool p])∧
 ∀q,q=j.alloc (.cells #[int .i64 0,int .i64 0,int .i64 0] 357)→
 ar q (nb j) (fun r=>
 aa (!p)
 (R (tuple #[]) r)
 (∃s t u,(r.cell? (nb j)=some (int .i64 s)∧r.cell? ((nb j).add 1)=some (int .i64 t)∧r.cell? ((nb j).add 2)=some (int .i64 u)∧True)∧
 CP 282 #[pointer a,agg #[int .i64 s,int .i64 t,int .i64 u]] r (fun x y=>
 ∃z,x= .returned (bool z)∧
 aa (!z)
 (∃a1,y.cell? ((nb j).add 0)=some (int .i64 a1)∧
 CP 283 #[pointer a,int .i64 a1,int .i64 n] y (fun b1 c1=>
 b1= .returned (tuple #[])∧
 d [] c1))
 (d [] y)))) [int .i64 k,int .i64 l,int .i64 m] 0)))→b [] c)→
 b [] w
theorem vZ (a:OA) (w:World) (R:RW) (hh:Km a w R):CR 252 #[pointer a] w R:=
 aF (fn:=Tryz.f252) (by kernel_rfl) (by kernel_rfl) (by kernel_rfl) (by kernel_rfl) (by kernel_rfl) hh
def KM (a:OA) (w:World) (R:RW):Prop:=
 ∀b:KW,(∀(c:Int) (d:OA) (f g:Nat) (h:World),(aa (c != (-1))
 (ae a (fun i=>
 ∃j k l,h.cell? (i.add 1)=some (slice j k l)∧
 aa (decide (c< (k:Int)))
 (ae a (fun m=>
 ∃n o p,h.cell? (m.add 1)=some (slice n o p)∧
 ae n (fun q=>
 (0:Int)≤c∧c< (o:Int)∧
 ∃r,h.cell? ((q.add (c.toNat*3)).add 0)=some (int .i64 r)∧
 ∀s,s=h.alloc (.cells #[int .i64 r] 3)→
 ∃t u x y,(Builtin.append_ #[28,28] 28 #[slice d f g,slice (some (nb h)) 1 1]).run Tryz.prog s= .ok (slice t u x) y∧
 ae a (fun z=>
 ∃a1 b1 c1,y.cell? (z.add 1)=some (slice a1 b1 c1)∧
 ae a1 (fun d1=>
 (0:Int)≤c∧c< (b1:Int)∧
 ∃e1,y.cell? ((d1.add (c.toNat*3)).add 2)=some (int .i64 e1)∧
 b [int .i64 e1,slice t u x] y)))))
 (R (slice d f g) h)))
 (R (slice d f g) h))→b [int .i64 c,slice d f g] h)→
 b [int .i64 0,slice none 0 0] w
theorem vx (a:OA) (w:World) (R:RW) (hh:KM a w R):CR 253 #[pointer a] w R:=
 aF (fn:=Tryz.f253) (by kernel_rfl) (by kernel_rfl) (by kernel_rfl) (by kernel_rfl) (by kernel_rfl) hh
def Iw (w:World) (R:RW):Prop:=
 ∀a,a=w.alloc (.cells #[slice none 0 0,int .i64 0] 379)→
 R (pointer (some (nb w))) a
theorem xD (w:World) (R:RW) (hh:Iw w R):CR 279 #[] w R:=
 aF (fn:=Tryz.f279) (by kernel_rfl) (by kernel_rfl) (by kernel_rfl) (by kernel_rfl) (by kernel_rfl) hh
def JQ (a:OA) (b:Int) (w:World) (R:RW):Prop:=
 aa (b==(-1))
 (R (tuple #[]) w)
 (ae a (fun c=>
 ∃d f g,w.cell? (c.add 1)=some (slice d f g)∧
 ae d (fun h=>
 (0:Int)≤b∧b< (f:Int)∧
 ∃i,w.cell? ((h.add (b.toNat*3)).add 2)=some (int .i64 i)∧
 aa (i==(-1))
 (R (tuple #[]) w)
 (∀j,j=w.drew→
 ae a (fun k=>
 ∃l m n,j.cell? (k.add 1)=some (slice l m n)∧
 ae l (fun o=>
 (0:Int)≤b∧b< (m:Int)∧
 ∃p,j.cell? ((o.add (b.toNat*3)).add 0)=some (int .i64 p)∧
 ae a (fun q=>
 ∃r s t,j.cell? (q.add 1)=some (slice r s t)∧
 ae a (fun u=>
 ∃x y z,j.cell? (u.add 1)=some (slice x y z)∧
 ae x (fun a1=>
 (0:Int)≤b∧b< (y:Int)∧
 ∃b1,j.cell? ((a1.add (b.toNat*3)).add 2)=some (int .i64 b1)∧
 ae r (fun c1=>
 (0:Int)≤b1∧b1< (s:Int)∧
 ∃d1,j.cell? ((c1.add (b1.toNat*3)).add 0)=some (int .i64 d1)∧
 ∀e1,e1=j.alloc (.cells #[int .i64 0,int .i64 0] 85)→
 (e1.cell? ((c1.add (b1.toNat*3)).add 0)=some (int .i64 d1)∧True)∧
 (e1.cell? ((a1.add (b.toNat*3)).add 2)=some (int .i64 b1)∧True)∧
 (e1.cell? (u.add 1)=some (slice x y z)∧True)∧
 (e1.cell? (q.add 1)=some (slice r s t)∧True)∧
 (e1.cell? ((o.add (b.toNat*3)).add 0)=some (int .i64 p)∧True)∧
 (e1.cell? (k.add 1)=some (slice l m n)∧True)∧
 ar e1 (nb j) (fun f1=>
 ∀g1,g1=f1.drew→
 ae a (fun h1=>
 ∃i1,g1.cell? (h1.add 0)=some (pointer i1)∧
 ∃j1,g1.cell? ((nb j).add 0)=some (int .i64 j1)∧
 ∃k1,g1.cell? ((nb j).add 1)=some (int .i64 k1)∧
 CP 285 #[pointer i1,int .i64 j1,int .i64 k1] g1 (fun l1 m1=>
 ∃n1 o1,l1= .returned (tuple #[int .i64 n1,bool o1])∧
 aa o1
 (ae a (fun p1=>
 ∃q1,m1.cell? (p1.add 3)=some (int .i64 q1)∧
 aa (decide (n1<q1))
 (∀r1,r1=m1.drew→
 ae a (fun s1=>
 ∃t1,r1.cell? (s1.add 2)=some (pointer t1)∧
 ∃u1 v1,(r1.cell? (nb j)=some (int .i64 u1)∧r1.cell? ((nb j).add 1)=some (int .i64 v1)∧True)∧
 CP 305 #[pointer t1,int .i64 n1,int .i64 b,agg #[int .i64 b,int .i64 u1,int .i64 v1]] r1 (fun x1 y1=>
 x1= .returned (tuple #[])∧
 R (tuple #[]) y1)))
 (R (tuple #[]) m1)))
 (R (tuple #[]) m1)))) [int .i64 p,int .i64 d1] 0))))))))))
theorem vO (a:OA) (b:Int) (w:World) (R:RW) (hh:JQ a b w R):CR 280 #[pointer a,int .i64 b] w R:=
 aF (fn:=Tryz.f280) (by kernel_rfl) (by kernel_rfl) (by kernel_rfl) (by kernel_rfl) (by kernel_rfl) hh
def Jg (a:OA) (w:World) (R:RW):Prop:=
 ∀b,b=w.alloc (.cells #[int .i64 0,int .i64 0,int .i64 0] 357)→
 CP 306 #[pointer a] b (fun c d=>
 ∃f g h i j k,c= .returned (tuple #[agg #[int .i64 f,int .i64 g,int .i64 h],int .i64 i,int .i64 j,bool k])∧
 ∀l,l=d.alloc (.cells #[int .i64 0,int .i64 0,int .i64 0] 357)→
 ar l (nb d) (fun m=>
 ∀n:KW,(∀o:World,(∃p q r,(o.cell? (nb d)=some (int .i64 p)∧o.cell? ((nb d).add 1)=some (int .i64 q)∧o.cell? ((nb d).add 2)=some (int .i64 r)∧True)∧
 ar o (nb w) (fun s=>
 ∃t x y,(s.cell? (nb w)=some (int .i64 t)∧s.cell? ((nb w).add 1)=some (int .i64 x)∧s.cell? ((nb w).add 2)=some (int .i64 y)∧True)∧
 R (tuple #[agg #[int .i64 t,int .i64 x,int .i64 y],int .i64 i,int .i64 j,bool k]) s) [int .i64 p,int .i64 q,int .i64 r] 0)→n [] o)→
 aa k
 (ae a (fun z=>
 ∃a1 b1 c1,m.cell? (z.add 0)=some (slice a1 b1 c1)∧
 Ar .i64 ((b1:Int)-1) (fun d1=>
 CP 307 #[pointer a,int .i64 0,int .i64 d1] m (fun e1 f1=>
 e1= .returned (tuple #[])∧
 ae a (fun g1=>
 ∃h1 i1 j1,f1.cell? (g1.add 0)=some (slice h1 i1 j1)∧
 (0:Int)≤(0:Int)∧(0:Int)≤d1∧d1≤(j1:Int)∧True∧True∧
 ae a (fun k1=>
 (slice (cu h1 (0:Int).toNat (j1:Int).toNat 6) (d1.toNat- (0:Int).toNat) ((j1:Int).toNat- (0:Int).toNat)).oneCell'=true∧(∃u,f1.cell? (k1.add 0)=some u)∧f1.frozen? (k1.add 0)=false∧
 ∀l1,l1=(f1.setCell (k1.add 0) (slice (cu h1 (0:Int).toNat (j1:Int).toNat 6) (d1.toNat- (0:Int).toNat) ((j1:Int).toNat- (0:Int).toNat)))→
 CP 308 #[pointer a,int .i64 0] l1 (fun m1 n1=>
 m1= .returned (tuple #[])∧
 n [] n1)))))))
 (n [] m)) [int .i64 f,int .i64 g,int .i64 h] 0)
theorem uQ (a:OA) (w:World) (R:RW) (hh:Jg a w R):CR 281 #[pointer a] w R:=
 aF (fn:=Tryz.f281) (by kernel_rfl) (by kernel_rfl) (by kernel_rfl) (by kernel_rfl) (by kernel_rfl) hh
def Ik (a:OA) (b c d:Int) (w:World) (R:RW):Prop:=
 ∀f,f=w.alloc (.cells #[int .i64 b,int .i64 c,int .i64 d] 357)→
 ∀g,g=f.drew→
 ae a (fun h=>
 ∃i j k,g.cell? (h.add 1)=some (slice i j k)∧
 ∃l,g.cell? ((nb w).add 0)=some (int .i64 l)∧
 ae i (fun m=>
 (0:Int)≤l∧l< (j:Int)∧
 ∃n o p,(g.cell? (m.add (l.toNat*3))=some (int .i64 n)∧g.cell? ((m.add (l.toNat*3)).add 1)=some (int .i64 o)∧g.cell? ((m.add (l.toNat*3)).add 2)=some (int .i64 p)∧True)∧
 ∀q,q=g.alloc (.cells #[int .i64 0,int .i64 0,int .i64 0] 362)→
 (q.cell? (m.add (l.toNat*3))=some (int .i64 n)∧q.cell? ((m.add (l.toNat*3)).add 1)=some (int .i64 o)∧q.cell? ((m.add (l.toNat*3)).add 2)=some (int .i64 p)∧True)∧
 (q.cell? ((nb w).add 0)=some (int .i64 l)∧True)∧
 (q.cell? (h.add 1)=some (slice i j k)∧True)∧
 ar q (nb g) (fun r=>
 ∀s,s=r.drew→
 ∃t,s.cell? ((nb g).add 0)=some (int .i64 t)∧
 ∃u,s.cell? (((nb w).add 1).add 0)=some (int .i64 u)∧
 aa (t != u)
 (R (bool true) s)
 (∃x,s.cell? ((nb g).add 2)=some (int .i64 x)∧
 aa (x==(-1))
 (R (bool true) s)
 (ae a (fun y=>
 ∃z a1 b1,s.cell? (y.add 1)=some (slice z a1 b1)∧
 ∃c1,s.cell? ((nb g).add 2)=some (int .i64 c1)∧
 ae z (fun d1=>
 (0:Int)≤c1∧c1< (a1:Int)∧
 ∃e1,s.cell? ((d1.add (c1.toNat*3)).add 0)=some (int .i64 e1)∧
 ∃f1,s.cell? (((nb w).add 1).add 1)=some (int .i64 f1)∧
 R (bool (e1 != f1)) s))))) [int .i64 n,int .i64 o,int .i64 p] 0))
theorem vG (a:OA) (b c d:Int) (w:World) (R:RW) (hh:Ik a b c d w R):CR 282 #[pointer a,agg #[int .i64 b,int .i64 c,int .i64 d]] w R:=
 aF (fn:=Tryz.f282) (by kernel_rfl) (by kernel_rfl) (by kernel_rfl) (by kernel_rfl) (by kernel_rfl) hh
def KH (a:OA) (b c:Int) (w:World) (R:RW):Prop:=
 ae a (fun d=>
 ∃f g h,w.cell? (d.add 1)=some (slice f g h)∧
 ae f (fun i=>
 (0:Int)≤b∧b< (g:Int)∧
 ∃j,w.cell? ((i.add (b.toNat*3)).add 2)=some (int .i64 j)∧
 ae a (fun k=>
 ∃l m n,w.cell? (k.add 1)=some (slice l m n)∧
 ae l (fun o=>
 (0:Int)≤j∧j< (m:Int)∧
 ∃p,w.cell? ((o.add (j.toNat*3)).add 2)=some (int .i64 p)∧
 ae a (fun q=>
 ∃r s t,w.cell? (q.add 1)=some (slice r s t)∧
 ae r (fun x=>
 (0:Int)≤j∧j< (s:Int)∧
 (int .i64 (-2)).oneCell'=true∧(∃u,w.cell? ((x.add (j.toNat*3)).add 0)=some u)∧w.frozen? ((x.add (j.toNat*3)).add 0)=false∧
 ∀y,y=(w.setCell ((x.add (j.toNat*3)).add 0) (int .i64 (-2)))→
 ∀z,z=y.drew→
 ae a (fun a1=>
 ∃b1 c1 d1,z.cell? (a1.add 1)=some (slice b1 c1 d1)∧
 ae a (fun e1=>
 ∃f1 g1 h1,z.cell? (e1.add 1)=some (slice f1 g1 h1)∧
 ae b1 (fun i1=>
 (0:Int)≤b∧b< (c1:Int)∧
 (int .i64 c).oneCell'=true∧(∃u,z.cell? ((i1.add (b.toNat*3)).add 0)=some u)∧z.frozen? ((i1.add (b.toNat*3)).add 0)=false∧
 ∀j1,j1=(z.setCell ((i1.add (b.toNat*3)).add 0) (int .i64 c))→
 ae f1 (fun k1=>
 (0:Int)≤b∧b< (g1:Int)∧
 (int .i64 p).oneCell'=true∧(∃u,j1.cell? ((k1.add (b.toNat*3)).add 2)=some u)∧j1.frozen? ((k1.add (b.toNat*3)).add 2)=false∧
 ∀l1,l1=(j1.setCell ((k1.add (b.toNat*3)).add 2) (int .i64 p))→
 ∀m1:KW,(∀n1:World,(ae a (fun o1=>
 ∃p1,n1.cell? (o1.add 4)=some (int .i64 p1)∧
 Ar .i64 (p1+1) (fun q1=>
 ae a (fun r1=>
 (int .i64 q1).oneCell'=true∧(∃u,n1.cell? (r1.add 4)=some u)∧n1.frozen? (r1.add 4)=false∧
 ∀s1,s1=(n1.setCell (r1.add 4) (int .i64 q1))→
 ae a (fun t1=>
 ∃u1 v1 x1,s1.cell? (t1.add 1)=some (slice u1 v1 x1)∧
 ae u1 (fun y1=>
 (0:Int)≤b∧b< (v1:Int)∧
 ∃z1,s1.cell? ((y1.add (b.toNat*3)).add 1)=some (int .i64 z1)∧
 CP 280 #[pointer a,int .i64 z1] s1 (fun a2 b2=>
 a2= .returned (tuple #[])∧
 CP 280 #[pointer a,int .i64 b] b2 (fun c2 d2=>
 c2= .returned (tuple #[])∧
 R (tuple #[]) d2))))))))→m1 [] n1)→
 aa (p != (-1))
 (ae a (fun e2=>
 ∃f2 g2 h2,l1.cell? (e2.add 1)=some (slice f2 g2 h2)∧
 ae f2 (fun i2=>
 (0:Int)≤p∧p< (g2:Int)∧
 (int .i64 b).oneCell'=true∧(∃u,l1.cell? ((i2.add (p.toNat*3)).add 1)=some u)∧l1.frozen? ((i2.add (p.toNat*3)).add 1)=false∧
 ∀j2,j2=(l1.setCell ((i2.add (p.toNat*3)).add 1) (int .i64 b))→
 m1 [] j2)))
 (m1 [] l1)))))))))))
theorem vv (a:OA) (b c:Int) (w:World) (R:RW) (hh:KH a b c w R):CR 283 #[pointer a,int .i64 b,int .i64 c] w R:=
 aF (fn:=Tryz.f283) (by kernel_rfl) (by kernel_rfl) (by kernel_rfl) (by kernel_rfl) (by kernel_rfl) hh
def KF (a:OA) (b c:Int) (w:World) (R:RW):Prop:=
 aa (Option.isNone a)
 (R (tuple #[int .i64 0,bool false]) w)
 (ae a (fun d=>
 ∃f,w.cell? (d.add 2)=some (map f)∧
 ∃g h i,(Instr.lookup 259 (map f) (agg #[int .i64 b,int .i64 c]) true).run Tryz.prog w= .ok (tuple #[int .i64 g,bool h]) i∧
 R (tuple #[int .i64 g,bool h]) i))
theorem yx (a:OA) (b c:Int) (w:World) (R:RW) (hh:KF a b c w R):CR 285 #[pointer a,int .i64 b,int .i64 c] w R:=
 aF (fn:=Tryz.f285) (by kernel_rfl) (by kernel_rfl) (by kernel_rfl) (by kernel_rfl) (by kernel_rfl) hh
def Jq (a:OA) (b c d f g:Int) (w:World) (R:RW):Prop:=
 ∀h,h=w.alloc (.cells #[int .i64 d,int .i64 f,int .i64 g] 357)→
 aa (Option.isNone a)
 (R (tuple #[]) h)
 (∀i,i=h.drew→
 ae a (fun j=>
 ∃k l m,i.cell? (j.add 0)=some (slice k l m)∧
 ae a (fun n=>
 ∃o,i.cell? (n.add 1)=some (int .i64 o)∧
 ∃p q r,(i.cell? (nb w)=some (int .i64 p)∧i.cell? ((nb w).add 1)=some (int .i64 q)∧i.cell? ((nb w).add 2)=some (int .i64 r)∧True)∧
 ∀s,s=i.alloc (.cells #[int .i64 b,int .i64 c,int .i64 o,int .i64 p,int .i64 q,int .i64 r] 389)→
 (s.cell? (j.add 0)=some (slice k l m)∧True)∧
 ∃t x y z,(Builtin.append_ #[377,377] 377 #[slice k l m,slice (some (nb i)) 1 1]).run Tryz.prog s= .ok (slice t x y) z∧
 ae a (fun a1=>
 (slice t x y).oneCell'=true∧(∃u,z.cell? (a1.add 0)=some u)∧z.frozen? (a1.add 0)=false∧
 ∀b1,b1=(z.setCell (a1.add 0) (slice t x y))→
 ae a (fun c1=>
 ∃d1,b1.cell? (c1.add 1)=some (int .i64 d1)∧
 Ar .i64 (d1+1) (fun e1=>
 ae a (fun f1=>
 (int .i64 e1).oneCell'=true∧(∃u,b1.cell? (f1.add 1)=some u)∧b1.frozen? (f1.add 1)=false∧
 ∀g1,g1=(b1.setCell (f1.add 1) (int .i64 e1))→
 ae a (fun h1=>
 ∃i1 j1 k1,g1.cell? (h1.add 0)=some (slice i1 j1 k1)∧
 Ar .i64 ((j1:Int)-1) (fun l1=>
 CP 319 #[pointer a,int .i64 l1] g1 (fun m1 n1=>
 m1= .returned (tuple #[])∧
 R (tuple #[]) n1))))))))))
theorem vp (a:OA) (b c d f g:Int) (w:World) (R:RW) (hh:Jq a b c d f g w R):CR 305 #[pointer a,int .i64 b,int .i64 c,agg #[int .i64 d,int .i64 f,int .i64 g]] w R:=
 aF (fn:=Tryz.f305) (by kernel_rfl) (by kernel_rfl) (by kernel_rfl) (by kernel_rfl) (by kernel_rfl) hh
def JB (a:OA) (w:World) (R:RW):Prop:=
 ∀b,b=w.alloc (.cells #[int .i64 0,int .i64 0,int .i64 0] 357)→
 CP 320 #[pointer a] b (fun c d=>
 ∃f,c= .returned (int .i64 f)∧
 aa (f==0)
 (∀g,g=d.alloc (.cells #[int .i64 0,int .i64 0,int .i64 0] 357)→
 ∃h i j,(g.cell? (nb d)=some (int .i64 h)∧g.cell? ((nb d).add 1)=some (int .i64 i)∧g.cell? ((nb d).add 2)=some (int .i64 j)∧True)∧
 ar g (nb w) (fun k=>
 ∃l m n,(k.cell? (nb w)=some (int .i64 l)∧k.cell? ((nb w).add 1)=some (int .i64 m)∧k.cell? ((nb w).add 2)=some (int .i64 n)∧True)∧
 R (tuple #[agg #[int .i64 l,int .i64 m,int .i64 n],int .i64 0,int .i64 0,bool false]) k) [int .i64 h,int .i64 i,int .i64 j] 0)
 (ae a (fun o=>
 ∃p q r,d.cell? (o.add 0)=some (slice p q r)∧
 ae p (fun s=>
 (0:Int)≤0∧0< (q:Int)∧
 ∃t u x y z a1,(d.cell? (s.add ((0:Int).toNat*6))=some (int .i64 t)∧d.cell? ((s.add ((0:Int).toNat*6)).add 1)=some (int .i64 u)∧d.cell? ((s.add ((0:Int).toNat*6)).add 2)=some (int .i64 x)∧d.cell? ((s.add ((0:Int).toNat*6)).add 3)=some (int .i64 y)∧d.cell? ((s.add ((0:Int).toNat*6)).add 4)=some (int .i64 z)∧d.cell? ((s.add ((0:Int).toNat*6)).add 5)=some (int .i64 a1)∧True)∧
 ∀b1,b1=d.alloc (.cells #[int .i64 0,int .i64 0,int .i64 0,int .i64 0,int .i64 0,int .i64 0] 389)→
 ar b1 (nb d) (fun c1=>
 ∀d1,d1=c1.drew→
 ∃e1 f1 g1,(d1.cell? ((nb d).add 3)=some (int .i64 e1)∧d1.cell? (((nb d).add 3).add 1)=some (int .i64 f1)∧d1.cell? (((nb d).add 3).add 2)=some (int .i64 g1)∧True)∧
 ∃h1,d1.cell? (((nb d).add 0).add 0)=some (int .i64 h1)∧
 ∃i1,d1.cell? (((nb d).add 0).add 1)=some (int .i64 i1)∧
 ar d1 (nb w) (fun j1=>
 (j1.cell? (((nb d).add 0).add 1)=some (int .i64 i1)∧True)∧
 (j1.cell? (((nb d).add 0).add 0)=some (int .i64 h1)∧True)∧
 ∃k1 l1 m1,(j1.cell? (nb w)=some (int .i64 k1)∧j1.cell? ((nb w).add 1)=some (int .i64 l1)∧j1.cell? ((nb w).add 2)=some (int .i64 m1)∧True)∧
 R (tuple #[agg #[int .i64 k1,int .i64 l1,int .i64 m1],int .i64 h1,int .i64 i1,bool true]) j1) [int .i64 e1,int .i64 f1,int .i64 g1] 0) [int .i64 t,int .i64 u,int .i64 x,int .i64 y,int .i64 z,int .i64 a1] 0))))
theorem ve (a:OA) (w:World) (R:RW) (hh:JB a w R):CR 306 #[pointer a] w R:=
 aF (fn:=Tryz.f306) (by kernel_rfl) (by kernel_rfl) (by kernel_rfl) (by kernel_rfl) (by kernel_rfl) hh
def Ks (a:OA) (b c:Int) (w:World) (R:RW):Prop:=
 ∀d,d=w.drew→
 ae a (fun f=>
 ∃g h i,d.cell? (f.add 0)=some (slice g h i)∧
 ae a (fun j=>
 ∃k l m,d.cell? (j.add 0)=some (slice k l m)∧
 ae a (fun n=>
 ∃o p q,d.cell? (n.add 0)=some (slice o p q)∧
 ae o (fun r=>
 (0:Int)≤c∧c< (p:Int)∧
 ∃s t u x y z,(d.cell? (r.add (c.toNat*6))=some (int .i64 s)∧d.cell? ((r.add (c.toNat*6)).add 1)=some (int .i64 t)∧d.cell? ((r.add (c.toNat*6)).add 2)=some (int .i64 u)∧d.cell? ((r.add (c.toNat*6)).add 3)=some (int .i64 x)∧d.cell? ((r.add (c.toNat*6)).add 4)=some (int .i64 y)∧d.cell? ((r.add (c.toNat*6)).add 5)=some (int .i64 z)∧True)∧
 ae a (fun a1=>
 ∃b1 c1 d1,d.cell? (a1.add 0)=some (slice b1 c1 d1)∧
 ae b1 (fun e1=>
 (0:Int)≤b∧b< (c1:Int)∧
 ∃f1 g1 h1 i1 j1 k1,(d.cell? (e1.add (b.toNat*6))=some (int .i64 f1)∧d.cell? ((e1.add (b.toNat*6)).add 1)=some (int .i64 g1)∧d.cell? ((e1.add (b.toNat*6)).add 2)=some (int .i64 h1)∧d.cell? ((e1.add (b.toNat*6)).add 3)=some (int .i64 i1)∧d.cell? ((e1.add (b.toNat*6)).add 4)=some (int .i64 j1)∧d.cell? ((e1.add (b.toNat*6)).add 5)=some (int .i64 k1)∧True)∧
 ae g (fun l1=>
 (0:Int)≤b∧b< (h:Int)∧
 ar d (l1.add (b.toNat*6)) (fun m1=>
 ae k (fun n1=>
 (0:Int)≤c∧c< (l:Int)∧
 ar m1 (n1.add (c.toNat*6)) (fun o1=>
 R (tuple #[]) o1) [int .i64 f1,int .i64 g1,int .i64 h1,int .i64 i1,int .i64 j1,int .i64 k1] 0)) [int .i64 s,int .i64 t,int .i64 u,int .i64 x,int .i64 y,int .i64 z] 0)))))))
theorem vc (a:OA) (b c:Int) (w:World) (R:RW) (hh:Ks a b c w R):CR 307 #[pointer a,int .i64 b,int .i64 c] w R:=
 aF (fn:=Tryz.f307) (by kernel_rfl) (by kernel_rfl) (by kernel_rfl) (by kernel_rfl) (by kernel_rfl) hh
def KO (a:OA) (b:Int) (w:World) (R:RW):Prop:=
 ∀c:KW,(∀(d:Int) (f:World),(Ar .i64 ((2:Int)*d) (fun g=>
 Ar .i64 (g+1) (fun h=>
 Ar .i64 ((2:Int)*d) (fun i=>
 Ar .i64 (i+2) (fun j=>
 ∀k:KW,(∀(l m:Int) (n:World),(aa (decide (l<2))
 (∀o:KW,(∀(p:Int) (q:World),(Ar .i64 (l+1) (fun r=>
 k [int .i64 r,int .i64 p] q))→o [int .i64 p] q)→
 ∃s t,(Instr.index 390 (agg #[int .i64 h,int .i64 j]) (int .i64 l)).run Tryz.prog n= .ok (int .i64 s) t∧
 ∀u,u=t.drew→
 ae a (fun x=>
 ∃y z a1,u.cell? (x.add 0)=some (slice y z a1)∧
 aa (decide (s< (z:Int)))
 (ae a (fun b1=>
 ∃c1 d1 e1,u.cell? (b1.add 0)=some (slice c1 d1 e1)∧
 ae c1 (fun f1=>
 (0:Int)≤s∧s< (d1:Int)∧
 ∃g1 h1 i1,(u.cell? ((f1.add (s.toNat*6)).add 0)=some (int .i64 g1)∧u.cell? (((f1.add (s.toNat*6)).add 0).add 1)=some (int .i64 h1)∧u.cell? (((f1.add (s.toNat*6)).add 0).add 2)=some (int .i64 i1)∧True)∧
 ae a (fun j1=>
 ∃k1 l1 m1,u.cell? (j1.add 0)=some (slice k1 l1 m1)∧
 ae k1 (fun n1=>
 (0:Int)≤m∧m< (l1:Int)∧
 ∃o1 p1 q1,(u.cell? ((n1.add (m.toNat*6)).add 0)=some (int .i64 o1)∧u.cell? (((n1.add (m.toNat*6)).add 0).add 1)=some (int .i64 p1)∧u.cell? (((n1.add (m.toNat*6)).add 0).add 2)=some (int .i64 q1)∧True)∧
 CP 321 #[agg #[int .i64 g1,int .i64 h1,int .i64 i1],agg #[int .i64 o1,int .i64 p1,int .i64 q1]] u (fun r1 s1=>
 ∃t1,r1= .returned (bool t1)∧
 aa t1
 (o [int .i64 s] s1)
 (o [int .i64 m] s1)))))))
 (o [int .i64 m] u)))
 (aa (m==d)
 (R (tuple #[]) n)
 (CP 307 #[pointer a,int .i64 d,int .i64 m] n (fun u1 v1=>
 u1= .returned (tuple #[])∧
 c [int .i64 m] v1))))→k [int .i64 l,int .i64 m] n)→
 k [int .i64 0,int .i64 d] f)))))→c [int .i64 d] f)→
 c [int .i64 b] w
theorem ye (a:OA) (b:Int) (w:World) (R:RW) (hh:KO a b w R):CR 308 #[pointer a,int .i64 b] w R:=
 aF (fn:=Tryz.f308) (by kernel_rfl) (by kernel_rfl) (by kernel_rfl) (by kernel_rfl) (by kernel_rfl) hh
def Ip (a:OA) (b:Int) (w:World) (R:RW):Prop:=
 ∀c:KW,(∀(d:Int) (f:World),(aa (decide (d>0))
 (Ar .i64 (d-1) (fun g=>
 (2:Int)≠0∧
 ∀h,h=f.drew→
 ae a (fun i=>
 ∃j k l,h.cell? (i.add 0)=some (slice j k l)∧
 ae j (fun m=>
 (0:Int)≤d∧d< (k:Int)∧
 ∃n o p,(h.cell? ((m.add (d.toNat*6)).add 0)=some (int .i64 n)∧h.cell? (((m.add (d.toNat*6)).add 0).add 1)=some (int .i64 o)∧h.cell? (((m.add (d.toNat*6)).add 0).add 2)=some (int .i64 p)∧True)∧
 ae a (fun q=>
 ∃r s t,h.cell? (q.add 0)=some (slice r s t)∧
 ae r (fun u=>
 (0:Int)≤(IntKind.wrap .i64 (Int.tdiv g 2))∧(IntKind.wrap .i64 (Int.tdiv g 2)) < (s:Int)∧
 ∃x y z,(h.cell? ((u.add ((IntKind.wrap .i64 (Int.tdiv g 2):Int).toNat*6)).add 0)=some (int .i64 x)∧h.cell? (((u.add ((IntKind.wrap .i64 (Int.tdiv g 2):Int).toNat*6)).add 0).add 1)=some (int .i64 y)∧h.cell? (((u.add ((IntKind.wrap .i64 (Int.tdiv g 2):Int).toNat*6)).add 0).add 2)=some (int .i64 z)∧True)∧
 CP 321 #[agg #[int .i64 n,int .i64 o,int .i64 p],agg #[int .i64 x,int .i64 y,int .i64 z]] h (fun a1 b1=>
 ∃c1,a1= .returned (bool c1)∧
 aa (!c1)
 (R (tuple #[]) b1)
 (CP 307 #[pointer a,int .i64 d,int .i64 (IntKind.wrap .i64 (Int.tdiv g 2))] b1 (fun d1 e1=>
 d1= .returned (tuple #[])∧
 c [int .i64 (IntKind.wrap .i64 (Int.tdiv g 2))] e1)))))))))
 (R (tuple #[]) f))→c [int .i64 d] f)→
 c [int .i64 b] w
theorem yG (a:OA) (b:Int) (w:World) (R:RW) (hh:Ip a b w R):CR 319 #[pointer a,int .i64 b] w R:=
 aF (fn:=Tryz.f319) (by kernel_rfl) (by kernel_rfl) (by kernel_rfl) (by kernel_rfl) (by kernel_rfl) hh
def I8 (a:OA) (w:World) (R:RW):Prop:=
 aa (Option.isNone a)
 (R (int .i64 0) w)
 (ae a (fun b=>
 ∃c d f,w.cell? (b.add 0)=some (slice c d f)∧
 R (int .i64 (d:Int)) w))
theorem uS (a:OA) (w:World) (R:RW) (hh:I8 a w R):CR 320 #[pointer a] w R:=
 aF (fn:=Tryz.f320) (by kernel_rfl) (by kernel_rfl) (by kernel_rfl) (by kernel_rfl) (by kernel_rfl) hh
def Kq (a b c d f g:Int) (w:World) (R:RW):Prop:=
 ∀h,h=w.alloc (.cells #[int .i64 a,int .i64 b,int .i64 c] 387)→
 ∀i,i=h.alloc (.cells #[int .i64 d,int .i64 f,int .i64 g] 387)→
 ∃j,i.cell? ((nb w).add 0)=some (int .i64 j)∧
 ∃k,i.cell? ((nb h).add 0)=some (int .i64 k)∧
 aa (j != k)
 (∃l,i.cell? ((nb w).add 0)=some (int .i64 l)∧
 ∃m,i.cell? ((nb h).add 0)=some (int .i64 m)∧
 R (bool (decide (l<m))) i)
 (∃n,i.cell? ((nb w).add 1)=some (int .i64 n)∧
 ∃o,i.cell? ((nb h).add 1)=some (int .i64 o)∧
 aa (n != o)
 (∃p,i.cell? ((nb w).add 1)=some (int .i64 p)∧
 ∃q,i.cell? ((nb h).add 1)=some (int .i64 q)∧
 R (bool (decide (p<q))) i)
 (∃r,i.cell? ((nb w).add 2)=some (int .i64 r)∧
 ∃s,i.cell? ((nb h).add 2)=some (int .i64 s)∧
 R (bool (decide (r<s))) i))
theorem wv (a b c d f g:Int) (w:World) (R:RW) (hh:Kq a b c d f g w R):CR 321 #[agg #[int .i64 a,int .i64 b,int .i64 c],agg #[int .i64 d,int .i64 f,int .i64 g]] w R:=
 aF (fn:=Tryz.f321) (by kernel_rfl) (by kernel_rfl) (by kernel_rfl) (by kernel_rfl) (by kernel_rfl) hh
set_option linter.unusedSimpArgs false
open Go Go.RowKit
theorem az {P:Program} {f:FuncId} {args:Array Value} {w:World} {R:Value→World→Prop} {R':Ending→World→Prop} (h:Calls P f args w fun e w'=>∃v,e= .returned v∧R v w') (hr:∀v w',R v w'→R' (.returned v) w'):Calls P f args w R':=
 h.mono fun e w' ⟨v,he,h⟩=>by subst he;exact hr v w' h
theorem aU {P:Program} {f:FuncId} {args:Array Value} {w:World} {V:(Value→World→Prop)→Prop} {R':Ending→World→Prop} (h:∀R,V R→Calls P f args w fun e w'=>∃v,e= .returned v∧R v w') (hv:V fun v w'=>R' (.returned v) w'):Calls P f args w R':=
 (h _ hv).mono fun e w' ⟨v,he,h⟩=>by subst he;exact h
theorem ax (w:World) (o:Obj):(w.alloc o).heap.size=w.heap.size+1:=by
 show(w.heap.push o).size=_;simp
theorem cN (w:World) (o:Obj) {k:Nat} (h:k<w.heap.size):(w.alloc o).heap[k]? =w.heap[k]? :=by
 show(w.heap.push o)[k]? =_;simp [Array.getElem?_push,Nat.ne_of_lt h]
theorem ao (w:World) (o:Obj):(w.alloc o).heap[w.heap.size]? =some o:=by
 show(w.heap.push o)[w.heap.size]? =_;simp
theorem aT (w:World) (c:Array Value) (e:TypeId) (j:Nat):(w.alloc (.cells c e)).cell? ⟨w.heap.size,j,none⟩=c[j]? :=by
 simp only [World.cell?,ao];rfl
theorem cY {w:World} {b j:Nat} {c:Array Value} {e:TypeId} {fz:Nat×Nat} (h:w.heap[b]? =some (.cells c e fz)):w.cell? ⟨b,j,none⟩=c[j]? :=by
 simp only [World.cell?,h];rfl
theorem eT {w:World} {b j:Nat} {c:Array Value} {e:TypeId} (h:w.heap[b]? =some (.cells c e (0,0))):w.frozen? ⟨b,j,none⟩=false:=by
 simp [World.frozen?,h]
theorem gl {w:World} {b j:Nat} {c:Array Value} {e:TypeId} {fz:Nat×Nat} (h:w.heap[b]? =some (.cells c e fz)) (u:Value):(w.setCell ⟨b,j,none⟩ u).heap[b]? =some (.cells (c.setIfInBounds j u) e fz):=by
 simp [World.setCell,Array.getElem?_modify,h]
theorem dG {b:Nat} {e:TypeId} {k:World→Prop}:∀(vs:List Value) (i:Nat) (w:World) (c:Array Value) (o:Nat),w.heap[b]? =some (.cells c e (0,0))→o+i+vs.length≤c.size→(∀v∈vs,v.oneCell'=true)→
  (∀w',w'.heap[b]? =some (.cells (gS c.toList (o+i) vs).toArray e (0,0))→(∀j,j≠b→w'.heap[j]? =w.heap[j]?)→w'.heap.size=w.heap.size→(∀B w0,B≤b→Below B w0 w→Below B w0 w')→k w')→ar w ⟨b,o,none⟩ k vs i
 | [],i,w,c,o,h,hl,h1,hk=>by
  rintro w' rfl;exact hk w' (by simpa [gS]using h) (fun _ _=>rfl) rfl (fun _ _ _ h=>h)
 |v::r,i,w,c,o,h,hl,h1,hk=>by
  simp only [List.length_cons]at hl;have ha:(⟨b,o,none⟩:Addr).add i=⟨b,o+i,none⟩:=Addr.add_lit b o i;have hi:o+i<c.size:=by omega
  refine⟨h1 v (by simp),?_,?_,?_⟩
  ·rw [ha,cY h];exact⟨c[o+i],by simp [hi]⟩
  ·rw [ha];exact eT h
  rw [ha];refine dG r (i+1) _ (c.setIfInBounds (o+i) v) o (gl h v) (by simp;omega) (fun u hu=>h1 u (by simp [hu])) ?_;intro w' hw hne hsz hB;refine hk w' ?_ (fun j hj=>(hne j hj).trans (Below.heap_setCell w ⟨b,o+i,none⟩ v j hj)) (by rw [hsz];simp [World.setCell]) (fun B w0 hb hBel=>hB B w0 hb (hBel.setCell (p:=⟨b,o+i,none⟩) hb v));rw [hw];congr 2;have hi':o+i<c.toList.length:=by simp;omega
  simp only [gS,Array.toList_setIfInBounds,List.length_cons,List.set_eq_take_append_cons_drop,hi',if_true];have hlen:(c.toList.take (o+i)).length=o+i:=by rw [List.length_take];omega
  rw [show o+(i+1)=(c.toList.take (o+i)).length+1 from by omega,List.take_length_add_append,show(c.toList.take (o+i)).length+1+r.length=(c.toList.take (o+i)).length+(1+r.length)from by omega,List.drop_length_add_append];rw [Nat.add_comm 1 r.length];simp only [List.drop_succ_cons,List.drop_drop,List.take_succ_cons,List.take_zero,List.append_assoc,List.cons_append,List.nil_append];rw [show o+i+1+r.length=o+i+(r.length+1)from by omega]
theorem aJ {w:World} {e:TypeId} {k:World→Prop} (z vs:List Value) (hz:z.length=vs.length) (h1:∀v∈vs,v.oneCell'=true) (w1:World) (hw:w1=w.alloc (.cells z.toArray e))
  (hk:∀w',w'.heap[w.heap.size]? =some (.cells vs.toArray e (0,0))→w'.heap.size=w.heap.size+1→Below w.heap.size w w'→k w'):ar w1 (nb w) k vs 0:=by
 subst hw;refine dG vs 0 _ z.toArray 0 (ao w _) (by simp;omega) h1 ?_;intro w' h hne hsz hB;refine hk w' ?_ (by rw [hsz,ax]) (hB _ w (Nat.le_refl _) ((Below.refl _ w).alloc (Nat.le_refl _) _));rw [h];congr 2;simp [gS, ←hz]
theorem iG {w:World} {base:Nat} {e:TypeId} {size n:Nat} {v:Value} {xs:List Value} (h:w.ownsRow base e size v n xs):∃a c,v= .slice a n c∧n≤c:=by
 rcases h.2 with⟨rfl,rfl⟩ |⟨g,cap,cur,rfl,_,_,hc,_⟩
 ·exact⟨none,0,rfl,Nat.le_refl _⟩
 ·exact⟨_,_,rfl,hc⟩
theorem cn {w:World} {base:Nat} {e:TypeId} {size n:Nat} {v:Value} {xs:List Value} (h:w.ownsRow base e size v n xs):∀k,v.ownBlock=some k→base≤k∧k<w.heap.size:=by
 intro k hk;rcases h.2 with⟨rfl,rfl⟩ |⟨g,cap,cur,rfl,hb,hg,_⟩
 ·cases hk
 ·cases hk;exact⟨hb,(Array.getElem?_eq_some_iff.1 hg).1⟩
theorem co (w:World) (base:Nat) (e:TypeId) (size:Nat):w.ownsRow base e size (.slice none 0 0) 0 []:=⟨by simp,.inl ⟨rfl,rfl⟩⟩
theorem eG {P:Program} (t e:TypeId) {z:Value} {size bytes:Nat} (ht:P.underlying t=some (.slice e)) (hi:(P.info? e).map (fun i=>(i.zero,i.size,i.bytes))=some (some z,size,bytes)) (hzs:z.cells.size=size) (hsz:0<size)
  {base:Nat} {w1:World} {v:Value} {n:Nat} {xs:List Value} (hown:w1.ownsRow base e size v n xs) (news:List Value) (hl:news.length=size) (h1:∀u∈news,u.oneCell'=true)
  (hbytes:(n+1)*bytes≤140737488355328) (h63:n+1≤140737488355328) (hbase:base≤w1.heap.size):
  ∃a' c' w3,(Builtin.append_ #[t,t] t #[v,.slice (some (nb w1)) 1 1]).run P (w1.alloc (.cells news.toArray e))= .ok (.slice a' (n+1) c') w3∧w3.ownsRow base e size (.slice a' (n+1) c') (n+1) (xs++news)∧
   (w1.alloc (.cells news.toArray e)).grownBy w3 v.ownBlock∧((Value.slice a' (n+1) c').ownBlock=v.ownBlock∨(Value.slice a' (n+1) c').ownBlock=some (w1.heap.size+1)):=by
 obtain⟨i,hi',hz,hs,hb⟩:=info_parts hi;obtain⟨v',w3,hr,hown',hg,_,hnb⟩:=run_append_own_at (P:=P) (w1.alloc (.cells news.toArray e)) base t t e i z size bytes ht hi' hz hs hb hzs hsz v n xs (hown.alloc _) (nb w1) 1 1 news (by omega)
  (fun j u hj=>by
   have hjl:j<news.length:=(List.getElem?_eq_some_iff.1 hj).1;have hadd:(nb w1).add j=⟨w1.heap.size,j,none⟩:=by
    unfold Addr.add nb;split
    ·rename_i h0;subst h0;rfl
    ·simp
   rw [hadd];rw [aT];simpa using hj)
  h1 (by unfold maxLen;omega) hbytes (by rw [ax];omega)
 obtain⟨a',c',rfl,_⟩:=iG hown';exact⟨a',c',w3,hr,hown',hg,by rwa [ax]at hnb⟩
theorem di {B:Nat} {w w1 w3:World} {e:TypeId} {size n:Nat} {v:Value} {xs:List Value} {o:Obj} (hb:Below B w w1) (hown:w1.ownsRow B e size v n xs) (hg:(w1.alloc o).grownBy w3 v.ownBlock) (hB:B≤w1.heap.size):Below B w w3:=
 (hb.alloc hB o).grown hg (by rw [ax];omega) fun k hk=>(cn hown k hk).1
theorem rK {w1 w3:World} {row:Option Nat} {o:Obj} (hg:(w1.alloc o).grownBy w3 row) {k:Nat} (hk:k<w1.heap.size) (hne:some k≠row):w3.heap[k]? =w1.heap[k]? :=by
 rw [hg.block k (by rw [ax];omega) hne,cN w1 o hk]
theorem sX {w1 w3:World} {row:Option Nat} {o:Obj} (hg:(w1.alloc o).grownBy w3 row):w1.heap.size+1≤w3.heap.size:=by
 have:=hg.size;rwa [ax]at this
theorem ay {w:World} {a:Addr} {u:Value} {k:Nat} (h:k≠a.block):(w.setCell a u).heap[k]? =w.heap[k]? :=Below.heap_setCell w a u k h
theorem aO (w:World) (a:Addr) (u:Value):(w.setCell a u).heap.size=w.heap.size:=by simp [World.setCell]
theorem db {w:World} {base:Nat} {e:TypeId} {size n:Nat} {v:Value} {xs:List Value} (h:w.ownsRow base e size v n xs) {a:Addr} (u:Value) (hne:v.ownBlock≠some a.block):(w.setCell a u).ownsRow base e size v n xs:=by
 refine⟨h.1,?_⟩;rcases h.2 with h2 |⟨g,cap,cur,hv,hg,hh,r⟩
 ·exact .inl h2
 ·refine .inr ⟨g,cap,cur,hv,hg,?_,r⟩;rw [ay]
  ·exact hh
  ·intro he;subst he;exact hne (by rw [hv];rfl)
theorem jr {α:Type} (n:Nat) (Inv G:Nat→α→Prop) (last:∀x,Inv n x→G n x) (step:∀i,i<n→(∀x,Inv (i+1) x→G (i+1) x)→∀x,Inv i x→G i x):∀i,i≤n→∀x,Inv i x→G i x:=by
 have key:∀k i,i+k=n→∀x,Inv i x→G i x:=by
  intro k;induction k with
  |zero=>intro i hi;have:i=n:=by omega
         subst this;exact last
  |succ k ih=>intro i hi;exact step i (by omega) (ih (i+1) (by omega))
 intro i hi;exact key (n-i) i (by omega)
theorem bY {k:IntKind} {z:Int} (h1:k.min≤z) (h2:z≤k.max):k.wrap z=z:=by
 cases k<;>simp [IntKind.wrap,IntKind.bits,IntKind.signed,IntKind.min,IntKind.max]at* <;>omega
theorem Ar.ok {k:IntKind} {z:Int} {F:Int→Prop} (h1:k.min≤z) (h2:z≤k.max) (h:F z):Ar k z F:=by
 unfold Ar;rw [bY h1 h2];exact h
theorem Ar.ok64 {z:Int} {F:Int→Prop} (h1: -9223372036854775808≤z) (h2:z≤9223372036854775807) (h:F z):Ar .i64 z F:=Ar.ok (k:=.i64) h1 h2 h
abbrev str (l:List UInt8):ByteArray:=⟨l.toArray⟩
theorem t' (s:ByteArray):s=str s.data.toList:=by cases s;simp [str]
theorem aj (l:List UInt8):(str l).size=l.length:=by simp [str,ByteArray.size]
theorem cr (l:List UInt8):(str l).toList=l:=by rw [ByteArray.toList_eq]
theorem cd (l:List UInt8) (i:Nat) (h:i<l.length):btAt (str l) (i:Int)=((l[i]).toNat:Int):=by
 simp [btAt,str,List.getElem?_eq_getElem h]
theorem bL (a b:List UInt8):str a++str b=str (a++b):=by
 apply ByteArray.ext;simp [str]
theorem ig {P:Program} {src dst e:TypeId} (hs:P.underlying src=some (.slice e)) (he:P.underlying e=some (.int .u8)) (hd:P.underlying dst=some .string) {w:World} {base:Nat} {a:Option Addr} {n c:Nat} {l:List UInt8}
  (h:w.ownsRow base e 1 (.slice a n c) n (Lib.byteCells l)):(convert src dst (.slice a n c)).run P w= .ok (.string (str l)) w:=by
 have hl:=h.1;rw [Lib.byteCells_length]at hl;rcases h.2 with⟨h1,h2⟩ |⟨g,cap,cur,h1,h2,h3,h4,h5,h6,h7⟩
 ·cases h1;have:l= []:=List.eq_nil_of_length_eq_zero (by omega);subst this;exact run_convert_bytes_nil w src e hs he 0 0 dst hd
 ·cases h1;have hn:n=l.length:=by omega
  subst hn;refine run_convert_bytes_back w src dst e ⟨g,0,none⟩ c l hs he hd ?_;intro j hj;have hadd:(⟨g,0,none⟩:Addr).add j=⟨g,j,none⟩:=by unfold Addr.add;split<;>simp_all
  rw [hadd,cY h3];have h8:(Lib.byteCells l)[j]? =some (.int .u8 (l[j].toNat:Int)):=by simp [Lib.byteCells,hj]
  rw [←h7,List.getElem?_take_of_lt (by omega)]at h8;simpa using h8
theorem du {w:World} {base:Nat} {e:TypeId} {size n:Nat} {v:Value} {xs:List Value} (h:w.ownsRow base e size v n xs):w.drew.ownsRow base e size v n xs:=h
theorem kg (l:List UInt8) (b:UInt8):Lib.byteCells l++ [.int .u8 b.toNat]=Lib.byteCells (l++ [b]):=by simp [Lib.byteCells]
theorem aL {w w':World} {base:Nat} {e:TypeId} {size n:Nat} {v:Value} {xs:List Value} (h:w.ownsRow base e size v n xs) (hb:Below w.heap.size w w'):w'.ownsRow base e size v n xs:=by
 refine⟨h.1,?_⟩;rcases h.2 with hh |⟨g,cap,cur,h1,h2,h3,h4⟩
 ·exact .inl hh
 ·exact .inr ⟨g,cap,cur,h1,h2,by rw [hb.block g (Array.getElem?_eq_some_iff.1 h3).1];exact h3,h4⟩
theorem ab {a b c:World} (h:Below a.heap.size a b) (k:Below b.heap.size b c):Below a.heap.size a c:=h.trans (k.mono h.size)
theorem ag (w:World) (o:Obj):Below w.heap.size w (w.alloc o):=(Below.refl _ w).alloc (Nat.le_refl _) o
theorem iw (l:List UInt8) (a b:Nat):(str l).extract a b=str ((l.drop a).take (b-a)):=by
 apply ByteArray.ext;simp [str]
theorem aq (a:Addr) (k:Nat):(a.add k).block=a.block:=by
 unfold Addr.add;split<;>rfl
theorem aA (b o n:Nat):Addr.add ⟨b,o,none⟩ n=⟨b,o+n,none⟩:=Addr.add_lit b o n
section
variable {H:Type} {enc:TypeId×Value→H}
theorem gC {C:Checked} {os:Os} {f:FuncId} {fn:Func} {s:ChangeSpec} {laid:List (String×DataW Unit)}
  (own:ownKnob C.prog.godebug=none) (started:os.Started) (noInit:C.prog.inits.idxOf? f=none) (hfn:C.prog.funcs[f]? =some fn)
  (witness:∃(w:World) (tape:Tape) (i:Input),w.os=os∧(w.forCall tape i).Shaped C.prog∧i.vars= []∧Input.okWide C.prog (w.forCall tape i) .any w.heap.size f i∧
   ((s.pre enc C.prog fn [] false (w.forCall tape i).memory i.args∧laidMetH C.prog laid (w.forCall tape i).memory)∧sizedMet enc C.prog fn (OpenSpec.ofChange s) false (w.forCall tape i).memory i.args)∧({}:Assume).holds C.prog (lone (Frame.enter C.prog f i.args .normal) [] (w.forCall tape i)))
  (contract:∀(W:World) (base:Nat) (args:Array Value) (ds gs:List (DataW H)) (before:List MemPlace),
   (∀(j:Nat) t v,fn.params[j]? =some t→args[j]? =some v→Value.okWide C.prog W .any base t v)→
   DataW.Whole enc C.prog fn.params.toList s.vars false W args.toList ds gs before→
   (DataW.weightsEach C.prog (fn.params.toList++s.plain.varTypes C.prog) (ds++gs)).all (·≤reachBytes)=true→
   laidMetH C.prog laid W→W.ShapedOpen C.prog→
   Calls C.prog f args W fun e W'=>∃v,e= .returned v∧s.post enc C.prog fn false true false false W args v W'):
  ReturnsInHanded {} C os f .any (fun w args=>(s.pre enc C.prog fn [] false w args∧laidMetH C.prog laid w)∧sizedMet enc C.prog fn (OpenSpec.ofChange s) false w args) (s.post enc C.prog fn false true false false):=by
 refine returnsInHanded_of_calls own started noInit witness ?_;intro w tape i _ hshape _ hok hpre _;obtain⟨_,_,_,fn',hfn',_,_,_,_,hval⟩:=hok;obtain rfl:fn'=fn:=Option.some.inj (hfn'.symm.trans hfn);obtain⟨⟨⟨ds,gs,before,hw,_⟩,hx⟩,hz⟩:=hpre;refine(contract (w.forCall tape i) w.heap.size i.args ds gs before hval (DataW.Whole.of_heap (w':=w.forCall tape i) (by rfl) hw) (hz.weights hw) (hx.of_heap (by rfl)) hshape).mono ?_;rintro e W' ⟨v,rfl,hp⟩;exact ChangeSpec.post_blind hp
end
structure Sl where
 a:Option Addr
 n:Nat
 c:Nat
abbrev Sl.v (s:Sl):Value:=.slice s.a s.n s.c
structure gB where
 sl:Sl
 e:TypeId
 sz:Nat
 xs:List Value
def gB.blk (r:gB):Option Nat:=r.sl.v.ownBlock
def yB (r r':gB):Prop:=∀k,r.blk=some k→r'.blk≠some k
structure dc (w:World) (B:Nat) (rows:List gB):Prop where
 own:∀r∈rows,w.ownsRow B r.e r.sz r.sl.v r.sl.n r.xs
 apart:rows.Pairwise yB
theorem dc.lt {w:World} {B:Nat} {rows:List gB} (h:dc w B rows) {r:gB} (hr:r∈rows):∀k,r.blk=some k→B≤k∧k<w.heap.size:=cn (h.own r hr)
theorem dc.on {w w':World} {B:Nat} {rows:List gB} (h:dc w B rows) (hb:Below w.heap.size w w'):dc w' B rows:=
 ⟨fun r hr=>aL (h.own r hr) hb,h.apart⟩
theorem bD {w w':World} {B:Nat} {e:TypeId} {size n:Nat} {v:Value} {xs:List Value} (h:w.ownsRow B e size v n xs) (hb:∀k,v.ownBlock=some k→w'.heap[k]? =w.heap[k]?):w'.ownsRow B e size v n xs:=by
 refine⟨h.1,?_⟩;rcases h.2 with hh |⟨g,cap,cur,h1,h2,h3,h4⟩
 ·exact .inl hh
 ·exact .inr ⟨g,cap,cur,h1,h2,by rw [hb g (by rw [h1];rfl)];exact h3,h4⟩
theorem dc.same {w w':World} {B:Nat} {rows:List gB} (h:dc w B rows) (hb:∀r∈rows,∀k,r.blk=some k→w'.heap[k]? =w.heap[k]?):dc w' B rows:=
 ⟨fun r hr=>bD (h.own r hr) (hb r hr),h.apart⟩
theorem dc.setCell {w:World} {B:Nat} {rows:List gB} (h:dc w B rows) (a:Addr) (u:Value) (hne:∀r∈rows,r.blk≠some a.block):dc (w.setCell a u) B rows:=
 h.same fun r hr k hk=>ay fun e=>hne r hr (by rw [hk,e])
theorem zv {pre post:List gB} {r r':gB} {top:Nat} (h:(pre++r::post).Pairwise yB) (hlt:∀x∈pre++r::post,∀k,x.blk=some k→k<top) (hr:∀k,r'.blk=some k→r.blk=some k∨top≤k):(pre++r'::post).Pairwise yB:=by
 rw [List.pairwise_append,List.pairwise_cons]at h⊢;obtain⟨h1,⟨h2,h3⟩,h4⟩:=h;refine⟨h1,⟨fun y hy k hk=>?_,h3⟩,fun x hx y hy=>?_⟩
 ·rcases hr k hk with e |e
  ·exact h2 y hy k e
  ·intro e';have:=hlt y (by simp [hy]) k e';omega
 ·rcases List.mem_cons.1 hy with rfl |hy
  ·intro k hk e';rcases hr k e' with e |e
   ·exact h4 x hx r (by simp) k hk e
   ·have:=hlt x (by simp [hx]) k hk;omega
  ·exact h4 x hx y (by simp [hy])
theorem dc.push {P:Program} (t:TypeId) {z:Value} {bytes:Nat} {w1:World} {B:Nat} {pre post:List gB} {r:gB} (h:dc w1 B (pre++r::post)) (ht:P.underlying t=some (.slice r.e)) (hi:(P.info? r.e).map (fun i=>(i.zero,i.size,i.bytes))=some (some z,r.sz,bytes)) (hzs:z.cells.size=r.sz) (hsz:0<r.sz)
  (news:List Value) (hl:news.length=r.sz) (h1:∀u∈news,u.oneCell'=true) (hbytes:(r.sl.n+1)*bytes≤140737488355328) (h63:r.sl.n+1≤140737488355328) (hB:B≤w1.heap.size):
  ∃a' c' w3,(Builtin.append_ #[t,t] t #[r.sl.v,.slice (some (nb w1)) 1 1]).run P (w1.alloc (.cells news.toArray r.e))= .ok (.slice a' (r.sl.n+1) c') w3∧
   dc w3 B (pre++⟨⟨a',r.sl.n+1,c'⟩,r.e,r.sz,r.xs++news⟩::post)∧(∀k,k<w1.heap.size→r.blk≠some k→w3.heap[k]? =w1.heap[k]?)∧
   (∀k,(Value.slice a' (r.sl.n+1) c').ownBlock=some k→r.blk=some k∨w1.heap.size<k)∧(∀w0,Below B w0 w1→Below B w0 w3)∧w1.heap.size<w3.heap.size:=by
 have hown:=h.own r (by simp);obtain⟨a',c',w3,hr,hown',hg,hnb⟩:=eG (P:=P) t r.e ht hi hzs hsz hown news hl h1 hbytes h63 hB;have hkeep:∀k,k<w1.heap.size→r.blk≠some k→w3.heap[k]? =w1.heap[k]? :=fun k hk hne=>rK hg hk (fun e=>hne e.symm);have hnew:∀k,(Value.slice a' (r.sl.n+1) c').ownBlock=some k→r.blk=some k∨w1.heap.size<k:=by
  intro k hk;rcases hnb with e |e
  ·rw [e]at hk;exact .inl hk
  ·rw [e]at hk;cases hk;exact .inr (by omega)
 have hsize:=sX hg;refine⟨a',c',w3,hr,⟨?_,zv (top:=w1.heap.size) h.apart (fun x hx k hk=>(h.lt hx k hk).2) fun k hk=>(hnew k hk).imp id Nat.le_of_lt⟩,hkeep,hnew,fun w0 hb=>di hb hown hg hB,by omega⟩;intro x hx;have other:∀y∈pre++r::post,yB r y∨yB y r→w3.ownsRow B y.e y.sz y.sl.v y.sl.n y.xs:=by
  intro y hy hap;refine bD (h.own y hy) fun k hk=>hkeep k (h.lt hy k hk).2 fun e=>?_;rcases hap with hap |hap
  ·exact hap k e hk
  ·exact hap k hk e
 have hap:=h.apart;rw [List.pairwise_append,List.pairwise_cons]at hap;rcases List.mem_append.1 hx with hx |hx
 ·exact other x (by simp [hx]) (.inr (hap.2.2 x hx r (by simp)))
 ·rcases List.mem_cons.1 hx with rfl |hx
  ·exact hown'
  ·exact other x (by simp [hx]) (.inl (hap.2.1.1 x hx))
def jf (s:Sl):Prop:=s=⟨none,0,0⟩∨∃a,s.a=some a
theorem oy {P:Program} (t e:TypeId) {z:Value} {size bytes:Nat} (ht:P.underlying t=some (.slice e)) (hi:(P.info? e).map (fun i=>(i.zero,i.size,i.bytes))=some (some z,size,bytes)) (hzs:z.cells.size=size) (hsz:0<size)
  {base:Nat} {w1:World} {v:Value} {n:Nat} {xs:List Value} (hown:w1.ownsRow base e size v n xs) (src:Sl) (hsrc:jf src) (news:List Value) (hl:news.length=src.n*size)
  (hcells:∀a,src.a=some a→∀j u,news[j]? =some u→w1.cell? (a.add j)=some u) (h1:∀u∈news,u.oneCell'=true)
  (hbytes:(n+src.n)*bytes≤140737488355328) (h63:n+src.n≤140737488355328) (hbase:base≤w1.heap.size):
  ∃a' c' w3,(Builtin.append_ #[t,t] t #[v,src.v]).run P w1= .ok (.slice a' (n+src.n) c') w3∧w3.ownsRow base e size (.slice a' (n+src.n) c') (n+src.n) (xs++news)∧
   (∀w0,Below base w0 w1→Below base w0 w3)∧(∀k,k<w1.heap.size→v.ownBlock≠some k→w3.heap[k]? =w1.heap[k]?)∧∀k,(Value.slice a' (n+src.n) c').ownBlock=some k→v.ownBlock=some k∨w1.heap.size≤k:=by
 obtain⟨i,hi',hz,hs,hb⟩:=info_parts hi;obtain⟨sa,sn,sc⟩:=src;rcases hsrc with h |⟨a,ha⟩
 ·cases h;have hn:news= []:=List.eq_nil_of_length_eq_zero (by simpa using hl);subst hn;obtain⟨a',c',rfl,_⟩:=iG hown;exact⟨a',c',w1,run_append_owned_none w1 base t t e i size ht hi' _ n xs hown,by simpa using hown,fun w0 hb=>hb,fun _ _ _=>rfl,fun k hk=>.inl hk⟩
 ·cases ha;obtain⟨v',w3,hr,hown',hg,_,hnb⟩:=run_append_own_at (P:=P) w1 base t t e i z size bytes ht hi' hz hs hb hzs hsz v n xs hown a sn sc news hl (hcells a rfl) h1 (by unfold maxLen;dsimp only at h63;omega) hbytes hbase;obtain⟨a',c',rfl,_⟩:=iG hown';refine⟨a',c',w3,hr,hown',fun w0 hb=>hb.grown hg hbase fun k hk=>(cn hown k hk).1,fun k hk hne=>hg.block k hk (fun e=>hne e.symm),fun k hk=>?_⟩;rcases hnb with h |h
  ·exact .inl (by rw [←h];exact hk)
  ·rw [h]at hk;cases hk;exact .inr (Nat.le_refl _)
theorem lO {P:Program} (t e:TypeId) {z:Value} {size bytes:Nat} (ht:P.underlying t=some (.slice e)) (hi:(P.info? e).map (fun i=>(i.zero,i.size,i.bytes))=some (some z,size,bytes)) (hzs:z.cells.size=size) (hsz:0<size)
  {base:Nat} {w1:World} {v:Value} {n:Nat} {xs:List Value} (hown:w1.ownsRow base e size v n xs) (src:Sl) (hsrc:jf src) (news:List Value) (hl:news.length=src.n*size)
  (hcells:∀a,src.a=some a→∀j u,news[j]? =some u→w1.cell? (a.add j)=some u) (h1:∀u∈news,u.oneCell'=true)
  (hbytes:(n+src.n)*bytes≤140737488355328) (h63:n+src.n≤140737488355328) (hbase:base≤w1.heap.size):
  ∃a' c' w3,(Builtin.append_ #[t,t] t #[v,src.v]).run P w1= .ok (.slice a' (n+src.n) c') w3∧w3.ownsRow base e size (.slice a' (n+src.n) c') (n+src.n) (xs++news)∧
   (∀w0,Below base w0 w1→Below base w0 w3)∧(∀k,k<w1.heap.size→v.ownBlock≠some k→w3.heap[k]? =w1.heap[k]?):=by
 obtain⟨a',c',w3,g1,g2,g3,g4,_⟩:=oy t e ht hi hzs hsz hown src hsrc news hl hcells h1 hbytes h63 hbase;exact⟨a',c',w3,g1,g2,g3,g4⟩
open Go Go.RowKit Go.Deep
theorem nQ {α:Type} {p:Nat→α→Prop}:∀n:Nat,(∀i,i<n→∃m,p i m)→∃xs:List α,xs.length=n∧∀i x,xs[i]? =some x→p i x
 |0,_=>⟨[],rfl,fun i x h=>by simp at h⟩
 |n+1,h=>by
  obtain⟨xs,hl,hx⟩:=nQ n fun i hi=>h i (by omega);obtain⟨m,hm⟩:=h n (by omega);refine⟨xs++ [m],by simp [hl],fun i x hi=>?_⟩;rcases Nat.lt_trichotomy i xs.length with h1 |h1 |h1
  ·rw [List.getElem?_append_left h1]at hi;exact hx i x hi
  ·subst h1;rw [List.getElem?_append_right (Nat.le_refl _)]at hi;simp at hi;subst hi;rw [hl];exact hm
  ·rw [List.getElem?_append_right (by omega)]at hi;have:=(List.getElem?_eq_some_iff.1 hi).1;simp at this;omega
theorem dJ {P:Program} {H:Type} {enc0:TypeId×Value→H} {w:World} {base:Nat} {spare:Nat→Bool} {held:Bool} {t e:TypeId} {fuel:Nat} {cs:List Value} {x:DataW H×List MemPlace} {α:Type} {enc:α→List Value} {sz:Nat} (ht:P.underlying t=some (.slice e)) (hc:P.cellsOf e=sz) (hsz:∀m,(enc m).length=sz) (h0:0<sz)
  (hel:∀n cs' y,DataW.trod enc0 P w base spare held n e cs'=some y→∃m:α,cs'=enc m) (h:DataW.trod enc0 P w base spare held fuel t cs=some x):
  ∃(s:Sl) (xs:List α),cs= [s.v]∧s.n=xs.length∧jf s∧s.n≤s.c∧s.c≤maxLen∧
   ∀(j:Nat) (m:α),xs[j]? =some m→∃p,s.a=some p∧p.block<w.heap.size∧∀(k:Nat) (v:Value),(enc m)[k]? =some v→w.cell? ((p.add (j*sz)).add k)=some v:=by
 rcases open_slice ht h with⟨rfl,_⟩ |⟨a,len,cap,m,n,D,Pl,rfl,hb,hl,hm,hmm,rfl,hx⟩
 ·exact⟨⟨none,0,0⟩,[],rfl,rfl,.inl rfl,Nat.le_refl _,Nat.zero_le _,fun j m hj=>by simp at hj⟩
 ·have hle:len≤m:=by rw [hmm];split<;>omega
  obtain⟨xs,hxl,hxs⟩:=nQ (α:=α) (p:=fun i u=>w.cells? base (a.add (i*sz)) sz=some (enc u)) len (fun i hi=>by
   obtain⟨cs',h1,h2⟩:=hx i (by omega);rw [hc]at h1;obtain⟨u,rfl⟩:=hel _ _ _ h2;exact⟨u,h1⟩)
  refine⟨⟨some a,len,cap⟩,xs,rfl,hxl.symm,.inr ⟨a,rfl⟩,hl,hm,fun j u hj=>⟨a,rfl,?_,fun k v hk=>?_⟩⟩
  ·obtain⟨_,_,hcell⟩:=World.cells?_some (hxs j u hj);have h3:=hcell 0 h0;have hlt:0< (enc u).length:=by rw [hsz];exact h0
   rw [List.getElem?_eq_getElem hlt]at h3;have:=World.block_lt_of_cell? _ _ h3;rwa [aq,aq]at this
  ·obtain⟨_,_,hcell⟩:=World.cells?_some (hxs j u hj);rw [hcell k (by rw [←hsz u];exact(List.getElem?_eq_some_iff.1 hk).1)];exact hk
end Go.Proofs.YtijbcdiffjjefaaGreatDoor.Eng
