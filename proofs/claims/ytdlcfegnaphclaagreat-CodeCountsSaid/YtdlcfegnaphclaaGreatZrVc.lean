/- What these functions owe, printed by a program of this repo out of the translation. -/
import Derived.Test.YtdlcfegnaphclaaGreatZrTab
import Derived.Test.YtdlcfegnaphclaaGreatZrEng
import Derived.Laws.AppendOwn
import Derived.Maps.AppendAt
import Derived.Below
import Derived.Lib.Builder
import Derived.SizedLaws
import Derived.Handed
import Derived.LaidLaws
import Derived.Stop.Joined
import Derived.Lib.UnsafeStr
import Derived.Laws.IdiomStrings
import Derived.Laws.BytesArg
import Derived.Laws.OwnMore
import Derived.DataElems
import Derived.Deep.Slices
import Derived.ChangeArms
set_option linter.unusedVariables false
set_option maxRecDepth 100000
namespace Go.Proofs.YtdlcfegnaphclaaGreat.Eng
open Go Go.Value
def OI (a:Bool) (b:OA) (c d:Nat) (f:OA) (g h:Nat) (i:OA) (j k:Nat) (l:OA) (m n:Nat) (o:OA) (p q:Nat) (w:World) (R:RW):Prop:=
 ∀r,r=w.alloc (.cells #[bool a,slice b c d,slice f g h,slice i j k,slice l m n,slice o p q] 73)→
 ∃s t u x y z a1 b1 c1 d1 e1 f1 g1 h1 i1 j1,(r.cell? (nb w)=some (bool s)∧r.cell? ((nb w).add 1)=some (slice t u x)∧r.cell? ((nb w).add 2)=some (slice y z a1)∧r.cell? ((nb w).add 3)=some (slice b1 c1 d1)∧r.cell? ((nb w).add 4)=some (slice e1 f1 g1)∧r.cell? ((nb w).add 5)=some (slice h1 i1 j1)∧True)∧
 CP 69 #[agg #[bool s,slice t u x,slice y z a1,slice b1 c1 d1,slice e1 f1 g1,slice h1 i1 j1]] r (fun k1 l1=>
 ∃m1,k1= .returned (bool m1)∧
 ac (!m1)
 (R (tuple #[pointer none,int .i64 0,int .i64 1]) l1)
 (∃n1 o1 p1 q1 r1 s1 t1 u1 v1 x1 y1 z1 a2 b2 c2 d2,(l1.cell? (nb w)=some (bool n1)∧l1.cell? ((nb w).add 1)=some (slice o1 p1 q1)∧l1.cell? ((nb w).add 2)=some (slice r1 s1 t1)∧l1.cell? ((nb w).add 3)=some (slice u1 v1 x1)∧l1.cell? ((nb w).add 4)=some (slice y1 z1 a2)∧l1.cell? ((nb w).add 5)=some (slice b2 c2 d2)∧True)∧
 CP 70 #[agg #[bool n1,slice o1 p1 q1,slice r1 s1 t1,slice u1 v1 x1,slice y1 z1 a2,slice b2 c2 d2]] l1 (fun e2 f2=>
 ∃g2 h2 i2 j2,e2= .returned (tuple #[pointer g2,int .i64 h2,int .i64 i2,int .i64 j2])∧
 R (tuple #[pointer g2,int .i64 i2,int .i64 j2]) f2)))
theorem AN (a:Bool) (b:OA) (c d:Nat) (f:OA) (g h:Nat) (i:OA) (j k:Nat) (l:OA) (m n:Nat) (o:OA) (p q:Nat) (w:World) (R:RW) (hh:OI a b c d f g h i j k l m n o p q w R):CR 31 #[agg #[bool a,slice b c d,slice f g h,slice i j k,slice l m n,slice o p q]] w R:=
 aD (fn:=Tryz.f31) (by kernel_rfl) (by kernel_rfl) (by kernel_rfl) (by kernel_rfl) (by kernel_rfl) hh
def Om (a:Bool) (b:OA) (c d:Nat) (f:OA) (g h:Nat) (i:OA) (j k:Nat) (l:OA) (m n:Nat) (o:OA) (p q:Nat) (w:World) (R:RW):Prop:=
 ∀r,r=w.alloc (.cells #[bool a,slice b c d,slice f g h,slice i j k,slice l m n,slice o p q] 73)→
 ∃s,r.cell? ((nb w).add 0)=some (bool s)∧
 ac s
 (∃t u x,r.cell? ((nb w).add 1)=some (slice t u x)∧
 ac (decide ((u:Int)>0))
 (R (bool false) r)
 (∃y,r.cell? ((nb w).add 0)=some (bool y)∧
 ac (!y)
 (∃z a1 b1,r.cell? ((nb w).add 2)=some (slice z a1 b1)∧
 ac (decide ((a1:Int)>0))
 (R (bool false) r)
 (∃c1 d1 e1,r.cell? ((nb w).add 1)=some (slice c1 d1 e1)∧
 CP 129 #[slice c1 d1 e1,int .i64 744,func (.func 130) #[] #[]] r (fun f1 g1=>
 ∃h1,f1= .returned (bool h1)∧
 ac h1
 (∃i1 j1 k1,g1.cell? ((nb w).add 2)=some (slice i1 j1 k1)∧
 CP 131 #[slice i1 j1 k1,int .i64 744,func (.func 132) #[] #[]] g1 (fun l1 m1=>
 ∃n1,l1= .returned (bool n1)∧
 ac n1
 (∃o1 p1 q1,m1.cell? ((nb w).add 3)=some (slice o1 p1 q1)∧
 CP 133 #[slice o1 p1 q1,int .i64 32,func (.func 134) #[] #[]] m1 (fun r1 s1=>
 ∃t1,r1= .returned (bool t1)∧
 ac t1
 (∃u1 v1 x1,s1.cell? ((nb w).add 4)=some (slice u1 v1 x1)∧
 CP 135 #[slice u1 v1 x1,int .i64 64,func (.func 136) #[] #[]] s1 (fun y1 z1=>
 ∃a2,y1= .returned (bool a2)∧
 ac a2
 (∃b2 c2 d2,z1.cell? ((nb w).add 5)=some (slice b2 c2 d2)∧
 CP 137 #[slice b2 c2 d2,int .i64 64,func (.func 138) #[] #[]] z1 (fun e2 f2=>
 ∃g2,e2= .returned (bool g2)∧
 R (bool g2) f2))
 (R (bool false) z1)))
 (R (bool false) s1)))
 (R (bool false) m1)))
 (R (bool false) g1))))
 (∃h2 i2 j2,r.cell? ((nb w).add 1)=some (slice h2 i2 j2)∧
 CP 129 #[slice h2 i2 j2,int .i64 744,func (.func 130) #[] #[]] r (fun k2 l2=>
 ∃m2,k2= .returned (bool m2)∧
 ac m2
 (∃n2 o2 p2,l2.cell? ((nb w).add 2)=some (slice n2 o2 p2)∧
 CP 131 #[slice n2 o2 p2,int .i64 744,func (.func 132) #[] #[]] l2 (fun q2 r2=>
 ∃s2,q2= .returned (bool s2)∧
 ac s2
 (∃t2 u2 v2,r2.cell? ((nb w).add 3)=some (slice t2 u2 v2)∧
 CP 133 #[slice t2 u2 v2,int .i64 32,func (.func 134) #[] #[]] r2 (fun x2 y2=>
 ∃z2,x2= .returned (bool z2)∧
 ac z2
 (∃a3 b3 c3,y2.cell? ((nb w).add 4)=some (slice a3 b3 c3)∧
 CP 135 #[slice a3 b3 c3,int .i64 64,func (.func 136) #[] #[]] y2 (fun d3 e3=>
 ∃f3,d3= .returned (bool f3)∧
 ac f3
 (∃g3 h3 i3,e3.cell? ((nb w).add 5)=some (slice g3 h3 i3)∧
 CP 137 #[slice g3 h3 i3,int .i64 64,func (.func 138) #[] #[]] e3 (fun j3 k3=>
 ∃l3,j3= .returned (bool l3)∧
 R (bool l3) k3))
 (R (bool false) e3)))
 (R (bool false) y2)))
 (R (bool false) r2)))
 (R (bool false) l2)))))
 (∃m3,r.cell? ((nb w).add 0)=some (bool m3)∧
 ac (!m3)
 (∃n3 o3 p3,r.cell? ((nb w).add 2)=some (slice n3 o3 p3)∧
 ac (decide ((o3:Int)>0))
 (R (bool false) r)
 (∃q3 r3 s3,r.cell? ((nb w).add 1)=some (slice q3 r3 s3)∧
 CP 129 #[slice q3 r3 s3,int .i64 744,func (.func 130) #[] #[]] r (fun t3 u3=>
 ∃v3,t3= .returned (bool v3)∧
 ac v3
 (∃x3 y3 z3,u3.cell? ((nb w).add 2)=some (slice x3 y3 z3)∧
 CP 131 #[slice x3 y3 z3,int .i64 744,func (.func 132) #[] #[]] u3 (fun a4 b4=>
 ∃c4,a4= .returned (bool c4)∧
 ac c4
 (∃d4 e4 f4,b4.cell? ((nb w).add 3)=some (slice d4 e4 f4)∧
 CP 133 #[slice d4 e4 f4,int .i64 32,func (.func 134) #[] #[]] b4 (fun g4 h4=>
 ∃i4,g4= .returned (bool i4)∧
 ac i4
 (∃j4 k4 l4,h4.cell? ((nb w).add 4)=some (slice j4 k4 l4)∧
 CP 135 #[slice j4 k4 l4,int .i64 64,func (.func 136) #[] #[]] h4 (fun m4 n4=>
 ∃o4,m4= .returned (bool o4)∧
 ac o4
 (∃p4 q4 r4,n4.cell? ((nb w).add 5)=some (slice p4 q4 r4)∧
 CP 137 #[slice p4 q4 r4,int .i64 64,func (.func 138) #[] #[]] n4 (fun s4 t4=>
 ∃u4,s4= .returned (bool u4)∧
 R (bool u4) t4))
 (R (bool false) n4)))
 (R (bool false) h4)))
 (R (bool false) b4)))
 (R (bool false) u3))))
 (∃v4 x4 y4,r.cell? ((nb w).add 1)=some (slice v4 x4 y4)∧
 CP 129 #[slice v4 x4 y4,int .i64 744,func (.func 130) #[] #[]] r (fun z4 a5=>
 ∃b5,z4= .returned (bool b5)∧
 ac b5
 (∃c5 d5 e5,a5.cell? ((nb w).add 2)=some (slice c5 d5 e5)∧
 CP 131 #[slice c5 d5 e5,int .i64 744,func (.func 132) #[] #[]] a5 (fun f5 g5=>
 ∃h5,f5= .returned (bool h5)∧
 ac h5
 (∃i5 j5 k5,g5.cell? ((nb w).add 3)=some (slice i5 j5 k5)∧
 CP 133 #[slice i5 j5 k5,int .i64 32,func (.func 134) #[] #[]] g5 (fun l5 m5=>
 ∃n5,l5= .returned (bool n5)∧
 ac n5
 (∃o5 p5 q5,m5.cell? ((nb w).add 4)=some (slice o5 p5 q5)∧
 CP 135 #[slice o5 p5 q5,int .i64 64,func (.func 136) #[] #[]] m5 (fun r5 s5=>
 ∃t5,r5= .returned (bool t5)∧
 ac t5
 (∃u5 v5 x5,s5.cell? ((nb w).add 5)=some (slice u5 v5 x5)∧
 CP 137 #[slice u5 v5 x5,int .i64 64,func (.func 138) #[] #[]] s5 (fun y5 z5=>
 ∃a6,y5= .returned (bool a6)∧
 R (bool a6) z5))
 (R (bool false) s5)))
 (R (bool false) m5)))
 (R (bool false) g5)))
 (R (bool false) a5))))
theorem B5 (a:Bool) (b:OA) (c d:Nat) (f:OA) (g h:Nat) (i:OA) (j k:Nat) (l:OA) (m n:Nat) (o:OA) (p q:Nat) (w:World) (R:RW) (hh:Om a b c d f g h i j k l m n o p q w R):CR 69 #[agg #[bool a,slice b c d,slice f g h,slice i j k,slice l m n,slice o p q]] w R:=
 aD (fn:=Tryz.f69) (by kernel_rfl) (by kernel_rfl) (by kernel_rfl) (by kernel_rfl) (by kernel_rfl) hh
def OW (a:Bool) (b:OA) (c d:Nat) (f:OA) (g h:Nat) (i:OA) (j k:Nat) (l:OA) (m n:Nat) (o:OA) (p q:Nat) (w:World) (R:RW):Prop:=
 ∀r,r=w.alloc (.cells #[bool a,slice b c d,slice f g h,slice i j k,slice l m n,slice o p q] 73)→
 ∃s t x y z a1 b1 c1 d1 e1 f1 g1 h1 i1 j1 k1,(r.cell? (nb w)=some (bool s)∧r.cell? ((nb w).add 1)=some (slice t x y)∧r.cell? ((nb w).add 2)=some (slice z a1 b1)∧r.cell? ((nb w).add 3)=some (slice c1 d1 e1)∧r.cell? ((nb w).add 4)=some (slice f1 g1 h1)∧r.cell? ((nb w).add 5)=some (slice i1 j1 k1)∧True)∧
 CP 139 #[agg #[bool s,slice t x y,slice z a1 b1,slice c1 d1 e1,slice f1 g1 h1,slice i1 j1 k1]] r (fun l1 m1=>
 ∃n1 o1 p1,l1= .returned (tuple #[pointer n1,int .i64 o1,int .i64 p1])∧
 ∀q1,q1=m1.alloc (.cells #[pointer none] 145)→
 (pointer n1).oneCell'=true∧(∃u,q1.cell? (nb m1)=some u)∧q1.frozen? (nb m1)=false∧
 ∀r1,r1=(q1.setCell (nb m1) (pointer n1))→
 ac (p1 != 0)
 (R (tuple #[pointer none,int .i64 1,int .i64 o1,int .i64 p1]) r1)
 (∃s1 t1 u1,r1.cell? ((nb w).add 3)=some (slice s1 t1 u1)∧
 CP 140 #[slice s1 t1 u1] r1 (fun v1 x1=>
 ∃y1 z1 a2,v1= .returned (tuple #[pointer y1,int .i64 z1,int .i64 a2])∧
 ac (a2 != 0)
 (R (tuple #[pointer none,int .i64 2,int .i64 z1,int .i64 a2]) x1)
 (∃b2 c2 d2,x1.cell? ((nb w).add 3)=some (slice b2 c2 d2)∧
 CP 141 #[slice b2 c2 d2,func (.func 142) #[] #[pointer (some (nb m1))]] x1 (fun e2 f2=>
 ∃g2,e2= .returned (int .i64 g2)∧
 ac (decide (g2≥0))
 (R (tuple #[pointer none,int .i64 2,int .i64 g2,int .i64 4]) f2)
 (∃h2 i2 j2,f2.cell? ((nb w).add 4)=some (slice h2 i2 j2)∧
 ∃k2 l2 m2,f2.cell? ((nb w).add 5)=some (slice k2 l2 m2)∧
 CP 144 #[slice h2 i2 j2,slice k2 l2 m2] f2 (fun n2 o2=>
 ∃p2 q2,n2= .returned (tuple #[pointer p2,int .i64 q2])∧
 ac (q2 != 0)
 (R (tuple #[pointer none,int .i64 0,int .i64 0,int .i64 q2]) o2)
 (∀r2,r2=o2.drew→
 ∃s2 t2 u2 v2 x2 y2 z2 a3 b3 c3 d3 e3 f3 g3 h3 i3,(r2.cell? (nb w)=some (bool s2)∧r2.cell? ((nb w).add 1)=some (slice t2 u2 v2)∧r2.cell? ((nb w).add 2)=some (slice x2 y2 z2)∧r2.cell? ((nb w).add 3)=some (slice a3 b3 c3)∧r2.cell? ((nb w).add 4)=some (slice d3 e3 f3)∧r2.cell? ((nb w).add 5)=some (slice g3 h3 i3)∧True)∧
 ∃j3,r2.cell? (nb m1)=some (pointer j3)∧
 CP 145 #[agg #[bool s2,slice t2 u2 v2,slice x2 y2 z2,slice a3 b3 c3,slice d3 e3 f3,slice g3 h3 i3]] r2 (fun k3 l3=>
 ∃m3 n3 o3 p3 q3 r3 s3 t3 u3 v3 x3 y3 z3 a4 b4 c4,k3= .returned (agg #[bool m3,slice n3 o3 p3,slice q3 r3 s3,slice t3 u3 v3,slice x3 y3 z3,slice a4 b4 c4])∧
 (l3.cell? (nb m1)=some (pointer j3)∧True)∧
 ∀d4,d4=l3.alloc (.cells #[bool m3,slice n3 o3 p3,slice q3 r3 s3,slice t3 u3 v3,slice x3 y3 z3,slice a4 b4 c4,pointer j3,pointer p2,pointer y1,int .u32 0,int .i32 0,int .u32 0,slice none 0 0,int .i64 0] 237)→
 R (tuple #[pointer (some (nb l3)),int .i64 0,int .i64 0,int .i64 0]) d4)))))))))
theorem Cg (a:Bool) (b:OA) (c d:Nat) (f:OA) (g h:Nat) (i:OA) (j k:Nat) (l:OA) (m n:Nat) (o:OA) (p q:Nat) (w:World) (R:RW) (hh:OW a b c d f g h i j k l m n o p q w R):CR 70 #[agg #[bool a,slice b c d,slice f g h,slice i j k,slice l m n,slice o p q]] w R:=
 aD (fn:=Tryz.f70) (by kernel_rfl) (by kernel_rfl) (by kernel_rfl) (by kernel_rfl) (by kernel_rfl) hh
def OL (a:OA) (b:Int) (w:World) (R:RW):Prop:=
 ac (Option.isNone a)
 (R (bool false) w)
 (af a (fun c=>
 CP 147 #[pointer (some (c.add 13)),int .i64 1] w (fun d f=>
 ∃g,d= .returned (int .i64 g)∧
 af a (fun h=>
 ∃i,f.cell? ((h.add 0).add 8)=some (pointer i)∧
 CP 148 #[pointer i,int .i64 b] f (fun j k=>
 ∃l m,j= .returned (tuple #[int .i64 l,bool m])∧
 ac m
 (R (bool true) k)
 (af a (fun n=>
 CP 83 #[pointer (some ((n.add 9).add 0)),func (.func 149) #[pointer a] #[]] k (fun o p=>
 o= .returned (tuple #[])∧
 ac (decide (b≥0))
 (af a (fun q=>
 ∃r s t,p.cell? ((q.add 9).add 3)=some (slice r s t)∧
 ac (decide (b< (s:Int)))
 (af a (fun u=>
 ∃x y z,p.cell? ((u.add 9).add 3)=some (slice x y z)∧
 af x (fun a1=>
 (0:Int)≤b∧b< (y:Int)∧
 ∃b1,p.cell? (a1.add (b.toNat*1))=some (bool b1)∧
 R (bool b1) p)))
 (R (bool false) p)))
 (R (bool false) p)))))))))
theorem An (a:OA) (b:Int) (w:World) (R:RW) (hh:OL a b w R):CR 73 #[pointer a,int .i64 b] w R:=
 aD (fn:=Tryz.f73) (by kernel_rfl) (by kernel_rfl) (by kernel_rfl) (by kernel_rfl) (by kernel_rfl) hh
def Pg (a:OA) (w:World) (R:RW):Prop:=
 ac (Option.isNone a)
 (R (pointer none) w)
 (af a (fun b=>
 ∃c,w.cell? ((b.add 0).add 6)=some (pointer c)∧
 R (pointer c) w))
theorem AX (a:OA) (w:World) (R:RW) (hh:Pg a w R):CR 78 #[pointer a] w R:=
 aD (fn:=Tryz.f78) (by kernel_rfl) (by kernel_rfl) (by kernel_rfl) (by kernel_rfl) (by kernel_rfl) hh
def L0 (a:OA) (w:World) (R:RW):Prop:=
 CP 78 #[pointer a] w (fun b c=>
 ∃d,b= .returned (pointer d)∧
 CP 143 #[pointer d] c (fun f g=>
 ∃h,f= .returned (int .i64 h)∧
 R (int .i64 h) g))
theorem xp (a:OA) (w:World) (R:RW) (hh:L0 a w R):CR 119 #[pointer a] w R:=
 aD (fn:=Tryz.f119) (by kernel_rfl) (by kernel_rfl) (by kernel_rfl) (by kernel_rfl) (by kernel_rfl) hh
def ML (a:OA) (w:World) (R:RW):Prop:=
 ac (Option.isNone a)
 (R (pointer none) w)
 (af a (fun b=>
 ∃c,w.cell? ((b.add 0).add 8)=some (pointer c)∧
 R (pointer c) w))
theorem xD (a:OA) (w:World) (R:RW) (hh:ML a w R):CR 120 #[pointer a] w R:=
 aD (fn:=Tryz.f120) (by kernel_rfl) (by kernel_rfl) (by kernel_rfl) (by kernel_rfl) (by kernel_rfl) hh
def MK (a:OA) (b:Int) (w:World) (R:RW):Prop:=
 CP 174 #[pointer a,int .i64 b] w (fun c d=>
 ∃f,c= .returned (bool f)∧
 ac (!f)
 (R (tuple #[string ⟨#[]⟩,bool false]) d)
 (af a (fun g=>
 ∃h i j,d.cell? (g.add 0)=some (slice h i j)∧
 af h (fun k=>
 (0:Int)≤b∧b< (i:Int)∧
 ∃l,d.cell? ((k.add (b.toNat*3)).add 0)=some (string l)∧
 R (tuple #[string l,bool true]) d))))
theorem zM (a:OA) (b:Int) (w:World) (R:RW) (hh:MK a b w R):CR 126 #[pointer a,int .i64 b] w R:=
 aD (fn:=Tryz.f126) (by kernel_rfl) (by kernel_rfl) (by kernel_rfl) (by kernel_rfl) (by kernel_rfl) hh
def L4 (a:OA) (b c:Nat) (d:Int) (f:Value) (w:World) (R:RW):Prop:=
 ∀g,g=w.alloc (.cells (Value.cells f) 208)→
 ac (decide ((b:Int)≤d))
 (CP 176 #[slice a b c,func (.func 177) #[] #[pointer (some (nb w))]] g (fun h i=>
 ∃j,h= .returned (bool j)∧
 R (bool (!j)) i))
 (R (bool false) g)
theorem vo (a:OA) (b c:Nat) (d:Int) (f:Value) (w:World) (R:RW) (hh:L4 a b c d f w R):CR 129 #[slice a b c,int .i64 d,f] w R:=
 aD (fn:=Tryz.f129) (by kernel_rfl) (by kernel_rfl) (by kernel_rfl) (by kernel_rfl) (by kernel_rfl) hh
def NJ (a b:Int) (w:World) (R:RW):Prop:=
 ∀c,c=w.alloc (.cells #[int .i64 a,int .i64 b] 118)→
 ∃d,c.cell? ((nb w).add 0)=some (int .i64 d)∧
 CP 178 #[int .i64 d,int .i64 0,int .i64 999] c (fun f g=>
 ∃h,f= .returned (bool h)∧
 ac h
 (∃i,g.cell? ((nb w).add 1)=some (int .i64 i)∧
 CP 178 #[int .i64 i,int .i64 0,int .i64 999] g (fun j k=>
 ∃l,j= .returned (bool l)∧
 R (bool l) k))
 (R (bool false) g))
theorem yq (a b:Int) (w:World) (R:RW) (hh:NJ a b w R):CR 130 #[agg #[int .i64 a,int .i64 b]] w R:=
 aD (fn:=Tryz.f130) (by kernel_rfl) (by kernel_rfl) (by kernel_rfl) (by kernel_rfl) (by kernel_rfl) hh
def Me (a:OA) (b c:Nat) (d:Int) (f:Value) (w:World) (R:RW):Prop:=
 ∀g,g=w.alloc (.cells (Value.cells f) 210)→
 ac (decide ((b:Int)≤d))
 (CP 179 #[slice a b c,func (.func 180) #[] #[pointer (some (nb w))]] g (fun h i=>
 ∃j,h= .returned (bool j)∧
 R (bool (!j)) i))
 (R (bool false) g)
theorem yy (a:OA) (b c:Nat) (d:Int) (f:Value) (w:World) (R:RW) (hh:Me a b c d f w R):CR 131 #[slice a b c,int .i64 d,f] w R:=
 aD (fn:=Tryz.f131) (by kernel_rfl) (by kernel_rfl) (by kernel_rfl) (by kernel_rfl) (by kernel_rfl) hh
def LP (a:ByteArray) (w:World) (R:RW):Prop:=
 CP 178 #[int .i64 (a.size:Int),int .i64 2,int .i64 64] w (fun b c=>
 ∃d,b= .returned (bool d)∧
 R (bool d) c)
theorem vT (a:ByteArray) (w:World) (R:RW) (hh:LP a w R):CR 132 #[string a] w R:=
 aD (fn:=Tryz.f132) (by kernel_rfl) (by kernel_rfl) (by kernel_rfl) (by kernel_rfl) (by kernel_rfl) hh
def Lz (a:OA) (b c:Nat) (d:Int) (f:Value) (w:World) (R:RW):Prop:=
 ∀g,g=w.alloc (.cells (Value.cells f) 212)→
 ac (decide ((b:Int)≤d))
 (CP 181 #[slice a b c,func (.func 182) #[] #[pointer (some (nb w))]] g (fun h i=>
 ∃j,h= .returned (bool j)∧
 R (bool (!j)) i))
 (R (bool false) g)
theorem xY (a:OA) (b c:Nat) (d:Int) (f:Value) (w:World) (R:RW) (hh:Lz a b c d f w R):CR 133 #[slice a b c,int .i64 d,f] w R:=
 aD (fn:=Tryz.f133) (by kernel_rfl) (by kernel_rfl) (by kernel_rfl) (by kernel_rfl) (by kernel_rfl) hh
def Lc (a:Int) (b:ByteArray) (w:World) (R:RW):Prop:=
 ∀c,c=w.alloc (.cells #[int .i64 a,string b] 75)→
 ∃d,c.cell? ((nb w).add 0)=some (int .i64 d)∧
 CP 178 #[int .i64 d,int .i64 0,int .i64 1073741824] c (fun f g=>
 ∃h,f= .returned (bool h)∧
 ac h
 (∃i,g.cell? ((nb w).add 1)=some (string i)∧
 CP 178 #[int .i64 (i.size:Int),int .i64 1,int .i64 64] g (fun j k=>
 ∃l,j= .returned (bool l)∧
 R (bool l) k))
 (R (bool false) g))
theorem xX (a:Int) (b:ByteArray) (w:World) (R:RW) (hh:Lc a b w R):CR 134 #[agg #[int .i64 a,string b]] w R:=
 aD (fn:=Tryz.f134) (by kernel_rfl) (by kernel_rfl) (by kernel_rfl) (by kernel_rfl) (by kernel_rfl) hh
def Ns (a:OA) (b c:Nat) (d:Int) (f:Value) (w:World) (R:RW):Prop:=
 ∀g,g=w.alloc (.cells (Value.cells f) 216)→
 ac (decide ((b:Int)≤d))
 (CP 183 #[slice a b c,func (.func 184) #[] #[pointer (some (nb w))]] g (fun h i=>
 ∃j,h= .returned (bool j)∧
 R (bool (!j)) i))
 (R (bool false) g)
theorem zR (a:OA) (b c:Nat) (d:Int) (f:Value) (w:World) (R:RW) (hh:Ns a b c d f w R):CR 135 #[slice a b c,int .i64 d,f] w R:=
 aD (fn:=Tryz.f135) (by kernel_rfl) (by kernel_rfl) (by kernel_rfl) (by kernel_rfl) (by kernel_rfl) hh
def NN (a b c:Int) (w:World) (R:RW):Prop:=
 ∀d,d=w.alloc (.cells #[int .i64 a,int .i64 b,int .i64 c] 215)→
 ∃f,d.cell? ((nb w).add 0)=some (int .i64 f)∧
 ∃g,d.cell? ((nb w).add 1)=some (int .i64 g)∧
 CP 178 #[int .i64 f,int .i64 0,int .i64 g] d (fun h i=>
 ∃j,h= .returned (bool j)∧
 ac j
 (∃k,i.cell? ((nb w).add 1)=some (int .i64 k)∧
 ac (decide (k≤255))
 (∃l,i.cell? ((nb w).add 2)=some (int .i64 l)∧
 CP 178 #[int .i64 l,int .i64 0,int .i64 15] i (fun m n=>
 ∃o,m= .returned (bool o)∧
 R (bool o) n))
 (R (bool false) i))
 (R (bool false) i))
theorem Ag (a b c:Int) (w:World) (R:RW) (hh:NN a b c w R):CR 136 #[agg #[int .i64 a,int .i64 b,int .i64 c]] w R:=
 aD (fn:=Tryz.f136) (by kernel_rfl) (by kernel_rfl) (by kernel_rfl) (by kernel_rfl) (by kernel_rfl) hh
def Ma (a:OA) (b c:Nat) (d:Int) (f:Value) (w:World) (R:RW):Prop:=
 ∀g,g=w.alloc (.cells (Value.cells f) 219)→
 ac (decide ((b:Int)≤d))
 (CP 185 #[slice a b c,func (.func 186) #[] #[pointer (some (nb w))]] g (fun h i=>
 ∃j,h= .returned (bool j)∧
 R (bool (!j)) i))
 (R (bool false) g)
theorem y_ (a:OA) (b c:Nat) (d:Int) (f:Value) (w:World) (R:RW) (hh:Ma a b c d f w R):CR 137 #[slice a b c,int .i64 d,f] w R:=
 aD (fn:=Tryz.f137) (by kernel_rfl) (by kernel_rfl) (by kernel_rfl) (by kernel_rfl) (by kernel_rfl) hh
def Nn (a b:Int) (w:World) (R:RW):Prop:=
 ∀c,c=w.alloc (.cells #[int .i64 a,int .i64 b] 218)→
 ∃d,c.cell? ((nb w).add 0)=some (int .i64 d)∧
 CP 178 #[int .i64 d,int .i64 0,int .i64 15] c (fun f g=>
 ∃h,f= .returned (bool h)∧
 ac h
 (∃i,g.cell? ((nb w).add 1)=some (int .i64 i)∧
 CP 178 #[int .i64 i,int .i64 0,int .i64 15] g (fun j k=>
 ∃l,j= .returned (bool l)∧
 R (bool l) k))
 (R (bool false) g))
theorem xw (a b:Int) (w:World) (R:RW) (hh:Nn a b w R):CR 138 #[agg #[int .i64 a,int .i64 b]] w R:=
 aD (fn:=Tryz.f138) (by kernel_rfl) (by kernel_rfl) (by kernel_rfl) (by kernel_rfl) (by kernel_rfl) hh
def Mf (a:Bool) (b:OA) (c d:Nat) (f:OA) (g h:Nat) (i:OA) (j k:Nat) (l:OA) (m n:Nat) (o:OA) (p q:Nat) (w:World) (R:RW):Prop:=
 ∀r,r=w.alloc (.cells #[bool a,slice b c d,slice f g h,slice i j k,slice l m n,slice o p q] 73)→
 ∃s,r.cell? ((nb w).add 0)=some (bool s)∧
 ac s
 (∃t u x,r.cell? ((nb w).add 2)=some (slice t u x)∧
 CP 187 #[slice t u x] r (fun y z=>
 ∃a1 b1 c1,y= .returned (tuple #[pointer a1,int .i64 b1,int .i64 c1])∧
 R (tuple #[pointer a1,int .i64 b1,int .i64 c1]) z))
 (∃d1 e1 f1,r.cell? ((nb w).add 1)=some (slice d1 e1 f1)∧
 CP 188 #[slice d1 e1 f1] r (fun g1 h1=>
 ∃i1 j1 k1,g1= .returned (tuple #[pointer i1,int .i64 j1,int .i64 k1])∧
 R (tuple #[pointer i1,int .i64 j1,int .i64 k1]) h1))
theorem xc (a:Bool) (b:OA) (c d:Nat) (f:OA) (g h:Nat) (i:OA) (j k:Nat) (l:OA) (m n:Nat) (o:OA) (p q:Nat) (w:World) (R:RW) (hh:Mf a b c d f g h i j k l m n o p q w R):CR 139 #[agg #[bool a,slice b c d,slice f g h,slice i j k,slice l m n,slice o p q]] w R:=
 aD (fn:=Tryz.f139) (by kernel_rfl) (by kernel_rfl) (by kernel_rfl) (by kernel_rfl) (by kernel_rfl) hh
def NL (a:OA) (b c:Nat) (w:World) (R:RW):Prop:=
 ∃d f,(Instr.makeMap 128 none).run Tryz.prog w= .ok (map d) f∧
 ∃g h,(Instr.makeMap 246 none).run Tryz.prog f= .ok (map g) h∧
 ∀i,i=h.alloc (.cells (List.toArray ([slice none 0 0,map d,map g]++List.replicate 256 (bool false)++ [int .i64 0])) 270)→
 ∀j:KW,(∀(k l m:Int) (n:OA) (o:World),(ac (decide (k< (b:Int)))
 (af a (fun p=>
 (0:Int)≤k∧k< (b:Int)∧
 ∃q r,(o.cell? (p.add (k.toNat*2))=some (int .i64 q)∧o.cell? ((p.add (k.toNat*2)).add 1)=some (string r)∧True)∧
 ∀s,s=o.alloc (.cells #[int .i64 0,string ⟨#[]⟩] 75)→
 aB s (nb o) (fun t=>
 ∃u x,(t.cell? (nb o)=some (int .i64 u)∧t.cell? ((nb o).add 1)=some (string x)∧True)∧
 CP 189 #[pointer (some (nb h)),agg #[int .i64 u,string x]] t (fun y z=>
 ∃a1,y= .returned (int .i64 a1)∧
 ac (a1 != 0)
 (R (tuple #[pointer none,int .i64 k,int .i64 a1]) z)
 (Ar .i64 (k+1) (fun b1=>
 j [int .i64 b1,int .i64 l,int .i64 m,pointer n] z)))) [int .i64 q,string r] 0))
 (R (tuple #[pointer (some (nb h)),int .i64 (b:Int),int .i64 0]) o))→j [int .i64 k,int .i64 l,int .i64 m,pointer n] o)→
 j [int .i64 0,int .i64 0,int .i64 0,pointer none] i
theorem za (a:OA) (b c:Nat) (w:World) (R:RW) (hh:NL a b c w R):CR 140 #[slice a b c] w R:=
 aD (fn:=Tryz.f140) (by kernel_rfl) (by kernel_rfl) (by kernel_rfl) (by kernel_rfl) (by kernel_rfl) hh
def Mw (a:OA) (b c:Nat) (d:Value) (w:World) (R:RW):Prop:=
 ∀f:KW,(∀(g h:Int) (i:World),(ac (decide (g< (b:Int)))
 (af a (fun j=>
 (0:Int)≤g∧g< (b:Int)∧
 ∃k l,(i.cell? (j.add (g.toNat*2))=some (int .i64 k)∧i.cell? ((j.add (g.toNat*2)).add 1)=some (string l)∧True)∧
 bH gr d [agg #[int .i64 k,string l]] i (fun m n=>
 ∃o,m= .returned (bool o)∧
 ac o
 (R (int .i64 g) n)
 (Ar .i64 (g+1) (fun p=>
 f [int .i64 p,int .i64 h] n)))))
 (R (int .i64 (-1)) i))→f [int .i64 g,int .i64 h] i)→
 f [int .i64 0,int .i64 0] w
theorem xZ (a:OA) (b c:Nat) (d:Value) (w:World) (R:RW) (hh:Mw a b c d w R):CR 141 #[slice a b c,d] w R:=
 aD (fn:=Tryz.f141) (by kernel_rfl) (by kernel_rfl) (by kernel_rfl) (by kernel_rfl) (by kernel_rfl) hh
def Lq (a:Int) (b:ByteArray) (c:OA) (w:World) (R:RW):Prop:=
 ∀d,d=w.alloc (.cells #[int .i64 a,string b] 75)→
 ∀f,f=d.drew→
 ∃g,f.cell? ((nb w).add 0)=some (int .i64 g)∧
 af c (fun h=>
 ∃i,f.cell? h=some (pointer i)∧
 CP 143 #[pointer i] f (fun j k=>
 ∃l,j= .returned (int .i64 l)∧
 (k.cell? ((nb w).add 0)=some (int .i64 g)∧True)∧
 R (bool (decide (g<l))) k))
theorem xN (a:Int) (b:ByteArray) (c:OA) (w:World) (R:RW) (hh:Lq a b c w R):CR 142 #[agg #[int .i64 a,string b],pointer c] w R:=
 aD (fn:=Tryz.f142) (by kernel_rfl) (by kernel_rfl) (by kernel_rfl) (by kernel_rfl) (by kernel_rfl) hh
def Le (a:OA) (w:World) (R:RW):Prop:=
 ac (Option.isNone a)
 (R (int .i64 0) w)
 (af a (fun b=>
 ∃c d f,w.cell? (b.add 0)=some (slice c d f)∧
 R (int .i64 (d:Int)) w))
theorem vY (a:OA) (w:World) (R:RW) (hh:Le a w R):CR 143 #[pointer a] w R:=
 aD (fn:=Tryz.f143) (by kernel_rfl) (by kernel_rfl) (by kernel_rfl) (by kernel_rfl) (by kernel_rfl) hh
def MH (a:OA) (b c:Nat) (d:OA) (f g:Nat) (w:World) (R:RW):Prop:=
 ∀h,h=w.alloc (.cells (List.toArray (List.replicate 256 (int .i64 0)++List.replicate 256 (bool false))) 293)→
 ∀i:KW,(∀(j k:Int) (l:OA) (m:World),(ac (decide (j< (b:Int)))
 (af a (fun n=>
 (0:Int)≤j∧j< (b:Int)∧
 ∃o p q,(m.cell? (n.add (j.toNat*3))=some (int .i64 o)∧m.cell? ((n.add (j.toNat*3)).add 1)=some (int .i64 p)∧m.cell? ((n.add (j.toNat*3)).add 2)=some (int .i64 q)∧True)∧
 ∀r,r=m.alloc (.cells #[int .i64 0,int .i64 0,int .i64 0] 215)→
 aB r (nb m) (fun s=>
 ∃t x y,(s.cell? (nb m)=some (int .i64 t)∧s.cell? ((nb m).add 1)=some (int .i64 x)∧s.cell? ((nb m).add 2)=some (int .i64 y)∧True)∧
 CP 190 #[agg #[int .i64 t,int .i64 x,int .i64 y]] s (fun z a1=>
 ∃b1,z= .returned (bool b1)∧
 ac (!b1)
 (R (tuple #[pointer none,int .i64 1]) a1)
 (∃c1,a1.cell? ((nb m).add 0)=some (int .i64 c1)∧
 ∀d1:KW,(∀(e1:Int) (f1:World),(∃g1,f1.cell? ((nb m).add 1)=some (int .i64 g1)∧
 ac (decide (e1≤g1))
 (∀h1,h1=f1.drew→
 ∃i1,h1.cell? ((nb m).add 2)=some (int .i64 i1)∧
 (0:Int)≤e1∧e1< (256:Int)∧
 (int .i64 i1).oneCell'=true∧(∃u,h1.cell? (((nb w).add 0).add (e1.toNat*1))=some u)∧h1.frozen? (((nb w).add 0).add (e1.toNat*1))=false∧
 ∀j1,j1=(h1.setCell (((nb w).add 0).add (e1.toNat*1)) (int .i64 i1))→
 Ar .i64 (e1+1) (fun k1=>
 d1 [int .i64 k1] j1))
 (Ar .i64 (j+1) (fun l1=>
 i [int .i64 l1,int .i64 k,pointer l] f1)))→d1 [int .i64 e1] f1)→
 d1 [int .i64 c1] a1))) [int .i64 o,int .i64 p,int .i64 q] 0))
 (∀m1:KW,(∀(n1 o1:Int) (p1:OA) (q1:World),(ac (decide (n1< (f:Int)))
 (af d (fun r1=>
 (0:Int)≤n1∧n1< (f:Int)∧
 ∃s1 t1,(q1.cell? (r1.add (n1.toNat*2))=some (int .i64 s1)∧q1.cell? ((r1.add (n1.toNat*2)).add 1)=some (int .i64 t1)∧True)∧
 ∀u1,u1=q1.alloc (.cells #[int .i64 0,int .i64 0] 218)→
 aB u1 (nb q1) (fun v1=>
 ∃x1,v1.cell? ((nb q1).add 0)=some (int .i64 x1)∧
 CP 191 #[int .i64 x1] v1 (fun y1 z1=>
 ∃a2,y1= .returned (bool a2)∧
 ac (!a2)
 (R (tuple #[pointer none,int .i64 1]) z1)
 (∃b2,z1.cell? ((nb q1).add 1)=some (int .i64 b2)∧
 CP 191 #[int .i64 b2] z1 (fun c2 d2=>
 ∃e2,c2= .returned (bool e2)∧
 ac (!e2)
 (R (tuple #[pointer none,int .i64 1]) d2)
 (∀f2,f2=d2.drew→
 ∃g2,f2.cell? ((nb q1).add 0)=some (int .i64 g2)∧
 ∃h2,f2.cell? ((nb q1).add 1)=some (int .i64 h2)∧
 (0:Int)≤g2∧g2< (16:Int)∧
 (0:Int)≤h2∧h2< (16:Int)∧
 (bool true).oneCell'=true∧(∃u,f2.cell? ((((nb w).add 256).add (g2.toNat*16)).add (h2.toNat*1))=some u)∧f2.frozen? ((((nb w).add 256).add (g2.toNat*16)).add (h2.toNat*1))=false∧
 ∀i2,i2=(f2.setCell ((((nb w).add 256).add (g2.toNat*16)).add (h2.toNat*1)) (bool true))→
 Ar .i64 (n1+1) (fun j2=>
 m1 [int .i64 j2,int .i64 o1,pointer p1] i2)))))) [int .i64 s1,int .i64 t1] 0))
 (R (tuple #[pointer (some (nb w)),int .i64 0]) q1))→m1 [int .i64 n1,int .i64 o1,pointer p1] q1)→
 m1 [int .i64 0,int .i64 k,pointer l] m))→i [int .i64 j,int .i64 k,pointer l] m)→
 i [int .i64 0,int .i64 0,pointer none] h
theorem xh (a:OA) (b c:Nat) (d:OA) (f g:Nat) (w:World) (R:RW) (hh:MH a b c d f g w R):CR 144 #[slice a b c,slice d f g] w R:=
 aD (fn:=Tryz.f144) (by kernel_rfl) (by kernel_rfl) (by kernel_rfl) (by kernel_rfl) (by kernel_rfl) hh
def Mq (a:Bool) (b:OA) (c d:Nat) (f:OA) (g h:Nat) (i:OA) (j k:Nat) (l:OA) (m n:Nat) (o:OA) (p q:Nat) (w:World) (R:RW):Prop:=
 ∀r,r=w.alloc (.cells #[bool a,slice b c d,slice f g h,slice i j k,slice l m n,slice o p q] 73)→
 ∀s,s=r.alloc (.cells #[bool false,slice none 0 0,slice none 0 0,slice none 0 0,slice none 0 0,slice none 0 0] 73)→
 ∀t,t=s.drew→
 ∃x y z,t.cell? ((nb w).add 1)=some (slice x y z)∧
 ∃a1 b1 c1,t.cell? ((nb w).add 2)=some (slice a1 b1 c1)∧
 ∃d1 e1 f1,t.cell? ((nb w).add 3)=some (slice d1 e1 f1)∧
 CP 192 #[slice x y z] t (fun g1 h1=>
 ∃i1 j1 k1,g1= .returned (slice i1 j1 k1)∧
 (h1.cell? ((nb w).add 3)=some (slice d1 e1 f1)∧True)∧
 (h1.cell? ((nb w).add 2)=some (slice a1 b1 c1)∧True)∧
 CP 193 #[slice a1 b1 c1] h1 (fun l1 m1=>
 ∃n1 o1 p1,l1= .returned (slice n1 o1 p1)∧
 (m1.cell? ((nb w).add 3)=some (slice d1 e1 f1)∧True)∧
 CP 169 #[slice d1 e1 f1] m1 (fun q1 r1=>
 ∃s1 t1 u1,q1= .returned (slice s1 t1 u1)∧
 (slice i1 j1 k1).oneCell'=true∧(∃u,r1.cell? ((nb w).add 1)=some u)∧r1.frozen? ((nb w).add 1)=false∧
 ∀v1,v1=(r1.setCell ((nb w).add 1) (slice i1 j1 k1))→
 (slice n1 o1 p1).oneCell'=true∧(∃u,v1.cell? ((nb w).add 2)=some u)∧v1.frozen? ((nb w).add 2)=false∧
 ∀x1,x1=(v1.setCell ((nb w).add 2) (slice n1 o1 p1))→
 (slice s1 t1 u1).oneCell'=true∧(∃u,x1.cell? ((nb w).add 3)=some u)∧x1.frozen? ((nb w).add 3)=false∧
 ∀y1,y1=(x1.setCell ((nb w).add 3) (slice s1 t1 u1))→
 ∀z1,z1=y1.drew→
 ∃a2 b2 c2,z1.cell? ((nb w).add 4)=some (slice a2 b2 c2)∧
 ∃d2 e2 f2,z1.cell? ((nb w).add 5)=some (slice d2 e2 f2)∧
 CP 194 #[slice a2 b2 c2] z1 (fun g2 h2=>
 ∃i2 j2 k2,g2= .returned (slice i2 j2 k2)∧
 (h2.cell? ((nb w).add 5)=some (slice d2 e2 f2)∧True)∧
 CP 195 #[slice d2 e2 f2] h2 (fun l2 m2=>
 ∃n2 o2 p2,l2= .returned (slice n2 o2 p2)∧
 (slice i2 j2 k2).oneCell'=true∧(∃u,m2.cell? ((nb w).add 4)=some u)∧m2.frozen? ((nb w).add 4)=false∧
 ∀q2,q2=(m2.setCell ((nb w).add 4) (slice i2 j2 k2))→
 (slice n2 o2 p2).oneCell'=true∧(∃u,q2.cell? ((nb w).add 5)=some u)∧q2.frozen? ((nb w).add 5)=false∧
 ∀r2,r2=(q2.setCell ((nb w).add 5) (slice n2 o2 p2))→
 ∃s2 t2 u2 v2 x2 y2 z2 a3 b3 c3 d3 e3 f3 g3 h3 i3,(r2.cell? (nb w)=some (bool s2)∧r2.cell? ((nb w).add 1)=some (slice t2 u2 v2)∧r2.cell? ((nb w).add 2)=some (slice x2 y2 z2)∧r2.cell? ((nb w).add 3)=some (slice a3 b3 c3)∧r2.cell? ((nb w).add 4)=some (slice d3 e3 f3)∧r2.cell? ((nb w).add 5)=some (slice g3 h3 i3)∧True)∧
 aB r2 (nb r) (fun j3=>
 ∃k3 l3 m3 n3 o3 p3 q3 r3 s3 t3 u3 v3 x3 y3 z3 a4,(j3.cell? (nb r)=some (bool k3)∧j3.cell? ((nb r).add 1)=some (slice l3 m3 n3)∧j3.cell? ((nb r).add 2)=some (slice o3 p3 q3)∧j3.cell? ((nb r).add 3)=some (slice r3 s3 t3)∧j3.cell? ((nb r).add 4)=some (slice u3 v3 x3)∧j3.cell? ((nb r).add 5)=some (slice y3 z3 a4)∧True)∧
 R (agg #[bool k3,slice l3 m3 n3,slice o3 p3 q3,slice r3 s3 t3,slice u3 v3 x3,slice y3 z3 a4]) j3) [bool s2,slice t2 u2 v2,slice x2 y2 z2,slice a3 b3 c3,slice d3 e3 f3,slice g3 h3 i3] 0)))))
theorem wh (a:Bool) (b:OA) (c d:Nat) (f:OA) (g h:Nat) (i:OA) (j k:Nat) (l:OA) (m n:Nat) (o:OA) (p q:Nat) (w:World) (R:RW) (hh:Mq a b c d f g h i j k l m n o p q w R):CR 145 #[agg #[bool a,slice b c d,slice f g h,slice i j k,slice l m n,slice o p q]] w R:=
 aD (fn:=Tryz.f145) (by kernel_rfl) (by kernel_rfl) (by kernel_rfl) (by kernel_rfl) (by kernel_rfl) hh
def MA (a:OA) (b:Int) (w:World) (R:RW):Prop:=
 ac (Option.isNone a)
 (R (tuple #[int .i64 0,bool false]) w)
 (af a (fun c=>
 ∃d,w.cell? (c.add 1)=some (map d)∧
 ∃f g h,(Instr.lookup 128 (map d) (int .i64 b) true).run Tryz.prog w= .ok (tuple #[int .i64 f,bool g]) h∧
 ac (!g)
 (R (tuple #[int .i64 0,bool false]) h)
 (CP 197 #[int .i64 f] h (fun i j=>
 ∃k,i= .returned (int .i64 k)∧
 R (tuple #[int .i64 k,bool true]) j))))
theorem xC (a:OA) (b:Int) (w:World) (R:RW) (hh:MA a b w R):CR 148 #[pointer a,int .i64 b] w R:=
 aD (fn:=Tryz.f148) (by kernel_rfl) (by kernel_rfl) (by kernel_rfl) (by kernel_rfl) (by kernel_rfl) hh
def MJ (a:OA) (w:World) (R:RW):Prop:=
 CP 119 #[pointer a] w (fun b c=>
 ∃d,b= .returned (int .i64 d)∧
 ∃f g h i,(Instr.makeSlice 149 (int .i64 d) (int .i64 d)).run Tryz.prog c= .ok (slice f g h) i∧
 af a (fun j=>
 (slice f g h).oneCell'=true∧(∃u,i.cell? ((j.add 9).add 3)=some u)∧i.frozen? ((j.add 9).add 3)=false∧
 ∀k,k=(i.setCell ((j.add 9).add 3) (slice f g h))→
 af a (fun l=>
 ∃m n o,k.cell? ((l.add 9).add 3)=some (slice m n o)∧
 ∀p:KW,(∀(q:Int) (r:World),(ac (decide (q< (n:Int)))
 (af a (fun s=>
 ∃t,r.cell? ((s.add 0).add 6)=some (pointer t)∧
 CP 126 #[pointer t,int .i64 q] r (fun x y=>
 ∃z a1,x= .returned (tuple #[string z,bool a1])∧
 af a (fun b1=>
 ∃c1,y.cell? ((b1.add 0).add 6)=some (pointer c1)∧
 CP 198 #[pointer c1,string z] y (fun d1 e1=>
 ∃f1 g1 h1,d1= .returned (slice f1 g1 h1)∧
 ∀i1,i1=e1.drew→
 af a (fun j1=>
 ∃k1 l1 m1,i1.cell? ((j1.add 9).add 3)=some (slice k1 l1 m1)∧
 ac ((g1:Int)==1)
 (af f1 (fun n1=>
 (0:Int)≤0∧0< (g1:Int)∧
 ∃o1,i1.cell? (n1.add ((0:Int).toNat*1))=some (int .i64 o1)∧
 ac (o1==q)
 (af a (fun p1=>
 ∃q1,i1.cell? ((p1.add 0).add 7)=some (pointer q1)∧
 CP 199 #[pointer q1,string z] i1 (fun r1 s1=>
 ∃t1,r1= .returned (bool t1)∧
 (s1.cell? ((j1.add 9).add 3)=some (slice k1 l1 m1)∧True)∧
 af k1 (fun u1=>
 (0:Int)≤q∧q< (l1:Int)∧
 (bool t1).oneCell'=true∧(∃u,s1.cell? (u1.add (q.toNat*1))=some u)∧s1.frozen? (u1.add (q.toNat*1))=false∧
 ∀v1,v1=(s1.setCell (u1.add (q.toNat*1)) (bool t1))→
 Ar .i64 (q+1) (fun x1=>
 p [int .i64 x1] v1)))))
 (af k1 (fun y1=>
 (0:Int)≤q∧q< (l1:Int)∧
 (bool false).oneCell'=true∧(∃u,i1.cell? (y1.add (q.toNat*1))=some u)∧i1.frozen? (y1.add (q.toNat*1))=false∧
 ∀z1,z1=(i1.setCell (y1.add (q.toNat*1)) (bool false))→
 Ar .i64 (q+1) (fun a2=>
 p [int .i64 a2] z1)))))
 (af k1 (fun b2=>
 (0:Int)≤q∧q< (l1:Int)∧
 (bool false).oneCell'=true∧(∃u,i1.cell? (b2.add (q.toNat*1))=some u)∧i1.frozen? (b2.add (q.toNat*1))=false∧
 ∀c2,c2=(i1.setCell (b2.add (q.toNat*1)) (bool false))→
 Ar .i64 (q+1) (fun d2=>
 p [int .i64 d2] c2)))))))))
 (R (tuple #[]) r))→p [int .i64 q] r)→
 p [int .i64 0] k)))
theorem xQ (a:OA) (w:World) (R:RW) (hh:MJ a w R):CR 149 #[pointer a] w R:=
 aD (fn:=Tryz.f149) (by kernel_rfl) (by kernel_rfl) (by kernel_rfl) (by kernel_rfl) (by kernel_rfl) hh
def Nq (a:OA) (b c:Int) (w:World) (R:RW):Prop:=
 CP 200 #[pointer a,int .i64 b] w (fun d f=>
 ∃g,d= .returned (bool g)∧
 ac g
 (R (bool true) f)
 (CP 200 #[pointer a,int .i64 c] f (fun h i=>
 ∃j,h= .returned (bool j)∧
 ac j
 (R (bool true) i)
 (CP 78 #[pointer a] i (fun k l=>
 ∃m,k= .returned (pointer m)∧
 CP 126 #[pointer m,int .i64 b] l (fun n o=>
 ∃p q,n= .returned (tuple #[string p,bool q])∧
 CP 78 #[pointer a] o (fun r s=>
 ∃t,r= .returned (pointer t)∧
 CP 126 #[pointer t,int .i64 c] s (fun u x=>
 ∃y z,u= .returned (tuple #[string y,bool z])∧
 CP 201 #[pointer a] x (fun a1 b1=>
 ∃c1,a1= .returned (pointer c1)∧
 CP 202 #[pointer c1,string p,string y] b1 (fun d1 e1=>
 ∃f1,d1= .returned (bool f1)∧
 ac f1
 (R (bool true) e1)
 (CP 78 #[pointer a] e1 (fun g1 h1=>
 ∃i1,g1= .returned (pointer i1)∧
 CP 203 #[pointer i1,int .i64 b,int .i64 c,int .i64 9223372036854775807] h1 (fun j1 k1=>
 ∃l1,j1= .returned (bool l1)∧
 R (bool l1) k1)))))))))))))
theorem vl (a:OA) (b c:Int) (w:World) (R:RW) (hh:Nq a b c w R):CR 150 #[pointer a,int .i64 b,int .i64 c] w R:=
 aD (fn:=Tryz.f150) (by kernel_rfl) (by kernel_rfl) (by kernel_rfl) (by kernel_rfl) (by kernel_rfl) hh
def Mk (a:OA) (b c:Nat) (w:World) (R:RW):Prop:=
 ac (Option.isNone a)
 (R (slice none 0 0) w)
 (∀d,d=w.alloc (.cells #[] 75)→
 ∃f g h i,(Builtin.append_ #[25,25] 25 #[slice (some (nb w)) 0 0,slice a b c]).run Tryz.prog d= .ok (slice f g h) i∧
 R (slice f g h) i)
theorem xG (a:OA) (b c:Nat) (w:World) (R:RW) (hh:Mk a b c w R):CR 169 #[slice a b c] w R:=
 aD (fn:=Tryz.f169) (by kernel_rfl) (by kernel_rfl) (by kernel_rfl) (by kernel_rfl) (by kernel_rfl) hh
def MY (a:OA) (b:Int) (w:World) (R:RW):Prop:=
 ac (decide (b≥0))
 (CP 143 #[pointer a] w (fun c d=>
 ∃f,c= .returned (int .i64 f)∧
 R (bool (decide (b<f))) d))
 (R (bool false) w)
theorem wr (a:OA) (b:Int) (w:World) (R:RW) (hh:MY a b w R):CR 174 #[pointer a,int .i64 b] w R:=
 aD (fn:=Tryz.f174) (by kernel_rfl) (by kernel_rfl) (by kernel_rfl) (by kernel_rfl) (by kernel_rfl) hh
def LN (a:OA) (b c:Nat) (d:Value) (w:World) (R:RW):Prop:=
 CP 230 #[slice a b c,d] w (fun f g=>
 ∃h,f= .returned (int .i64 h)∧
 R (bool (decide (h≥0))) g)
theorem wu (a:OA) (b c:Nat) (d:Value) (w:World) (R:RW) (hh:LN a b c d w R):CR 176 #[slice a b c,d] w R:=
 aD (fn:=Tryz.f176) (by kernel_rfl) (by kernel_rfl) (by kernel_rfl) (by kernel_rfl) (by kernel_rfl) hh
def M4 (a b:Int) (c:OA) (w:World) (R:RW):Prop:=
 ∀d,d=w.alloc (.cells #[int .i64 a,int .i64 b] 118)→
 af c (fun f=>
 ∃g,d.cell? f=some (g)∧
 ∃h i,(d.cell? (nb w)=some (int .i64 h)∧d.cell? ((nb w).add 1)=some (int .i64 i)∧True)∧
 bH gr g [agg #[int .i64 h,int .i64 i]] d (fun j k=>
 ∃l,j= .returned (bool l)∧
 R (bool (!l)) k))
theorem Aj (a b:Int) (c:OA) (w:World) (R:RW) (hh:M4 a b c w R):CR 177 #[agg #[int .i64 a,int .i64 b],pointer c] w R:=
 aD (fn:=Tryz.f177) (by kernel_rfl) (by kernel_rfl) (by kernel_rfl) (by kernel_rfl) (by kernel_rfl) hh
def MZ (a b c:Int) (w:World) (R:RW):Prop:=
 ac (decide (a≥b))
 (R (bool (decide (a≤c))) w)
 (R (bool false) w)
theorem xV (a b c:Int) (w:World) (R:RW) (hh:MZ a b c w R):CR 178 #[int .i64 a,int .i64 b,int .i64 c] w R:=
 aD (fn:=Tryz.f178) (by kernel_rfl) (by kernel_rfl) (by kernel_rfl) (by kernel_rfl) (by kernel_rfl) hh
def MU (a:OA) (b c:Nat) (d:Value) (w:World) (R:RW):Prop:=
 CP 231 #[slice a b c,d] w (fun f g=>
 ∃h,f= .returned (int .i64 h)∧
 R (bool (decide (h≥0))) g)
theorem Af (a:OA) (b c:Nat) (d:Value) (w:World) (R:RW) (hh:MU a b c d w R):CR 179 #[slice a b c,d] w R:=
 aD (fn:=Tryz.f179) (by kernel_rfl) (by kernel_rfl) (by kernel_rfl) (by kernel_rfl) (by kernel_rfl) hh
def ND (a:ByteArray) (b:OA) (w:World) (R:RW):Prop:=
 af b (fun c=>
 ∃d,w.cell? c=some (d)∧
 bH gr d [string a] w (fun f g=>
 ∃h,f= .returned (bool h)∧
 R (bool (!h)) g))
theorem wa (a:ByteArray) (b:OA) (w:World) (R:RW) (hh:ND a b w R):CR 180 #[string a,pointer b] w R:=
 aD (fn:=Tryz.f180) (by kernel_rfl) (by kernel_rfl) (by kernel_rfl) (by kernel_rfl) (by kernel_rfl) hh
def LC (a:OA) (b c:Nat) (d:Value) (w:World) (R:RW):Prop:=
 CP 141 #[slice a b c,d] w (fun f g=>
 ∃h,f= .returned (int .i64 h)∧
 R (bool (decide (h≥0))) g)
theorem x_ (a:OA) (b c:Nat) (d:Value) (w:World) (R:RW) (hh:LC a b c d w R):CR 181 #[slice a b c,d] w R:=
 aD (fn:=Tryz.f181) (by kernel_rfl) (by kernel_rfl) (by kernel_rfl) (by kernel_rfl) (by kernel_rfl) hh
def Lt (a:Int) (b:ByteArray) (c:OA) (w:World) (R:RW):Prop:=
 ∀d,d=w.alloc (.cells #[int .i64 a,string b] 75)→
 af c (fun f=>
 ∃g,d.cell? f=some (g)∧
 ∃h i,(d.cell? (nb w)=some (int .i64 h)∧d.cell? ((nb w).add 1)=some (string i)∧True)∧
 bH gr g [agg #[int .i64 h,string i]] d (fun j k=>
 ∃l,j= .returned (bool l)∧
 R (bool (!l)) k))
theorem vG (a:Int) (b:ByteArray) (c:OA) (w:World) (R:RW) (hh:Lt a b c w R):CR 182 #[agg #[int .i64 a,string b],pointer c] w R:=
 aD (fn:=Tryz.f182) (by kernel_rfl) (by kernel_rfl) (by kernel_rfl) (by kernel_rfl) (by kernel_rfl) hh
def M9 (a:OA) (b c:Nat) (d:Value) (w:World) (R:RW):Prop:=
 CP 232 #[slice a b c,d] w (fun f g=>
 ∃h,f= .returned (int .i64 h)∧
 R (bool (decide (h≥0))) g)
theorem yw (a:OA) (b c:Nat) (d:Value) (w:World) (R:RW) (hh:M9 a b c d w R):CR 183 #[slice a b c,d] w R:=
 aD (fn:=Tryz.f183) (by kernel_rfl) (by kernel_rfl) (by kernel_rfl) (by kernel_rfl) (by kernel_rfl) hh
def NW (a b c:Int) (d:OA) (w:World) (R:RW):Prop:=
 ∀f,f=w.alloc (.cells #[int .i64 a,int .i64 b,int .i64 c] 215)→
 af d (fun g=>
 ∃h,f.cell? g=some (h)∧
 ∃i j k,(f.cell? (nb w)=some (int .i64 i)∧f.cell? ((nb w).add 1)=some (int .i64 j)∧f.cell? ((nb w).add 2)=some (int .i64 k)∧True)∧
 bH gr h [agg #[int .i64 i,int .i64 j,int .i64 k]] f (fun l m=>
 ∃n,l= .returned (bool n)∧
 R (bool (!n)) m))
theorem Ac (a b c:Int) (d:OA) (w:World) (R:RW) (hh:NW a b c d w R):CR 184 #[agg #[int .i64 a,int .i64 b,int .i64 c],pointer d] w R:=
 aD (fn:=Tryz.f184) (by kernel_rfl) (by kernel_rfl) (by kernel_rfl) (by kernel_rfl) (by kernel_rfl) hh
def Lp (a:OA) (b c:Nat) (d:Value) (w:World) (R:RW):Prop:=
 CP 233 #[slice a b c,d] w (fun f g=>
 ∃h,f= .returned (int .i64 h)∧
 R (bool (decide (h≥0))) g)
theorem xb (a:OA) (b c:Nat) (d:Value) (w:World) (R:RW) (hh:Lp a b c d w R):CR 185 #[slice a b c,d] w R:=
 aD (fn:=Tryz.f185) (by kernel_rfl) (by kernel_rfl) (by kernel_rfl) (by kernel_rfl) (by kernel_rfl) hh
def LG (a b:Int) (c:OA) (w:World) (R:RW):Prop:=
 ∀d,d=w.alloc (.cells #[int .i64 a,int .i64 b] 218)→
 af c (fun f=>
 ∃g,d.cell? f=some (g)∧
 ∃h i,(d.cell? (nb w)=some (int .i64 h)∧d.cell? ((nb w).add 1)=some (int .i64 i)∧True)∧
 bH gr g [agg #[int .i64 h,int .i64 i]] d (fun j k=>
 ∃l,j= .returned (bool l)∧
 R (bool (!l)) k))
theorem vx (a b:Int) (c:OA) (w:World) (R:RW) (hh:LG a b c w R):CR 186 #[agg #[int .i64 a,int .i64 b],pointer c] w R:=
 aD (fn:=Tryz.f186) (by kernel_rfl) (by kernel_rfl) (by kernel_rfl) (by kernel_rfl) (by kernel_rfl) hh
def Nx (a:OA) (b c:Nat) (w:World) (R:RW):Prop:=
 CP 188 #[slice none 0 0] w (fun d f=>
 ∃g h i,d= .returned (tuple #[pointer g,int .i64 h,int .i64 i])∧
 ac (i != 0)
 (R (tuple #[pointer none,int .i64 0,int .i64 i]) f)
 (∀j:KW,(∀(k l m:Int) (n:OA) (o:World),(ac (decide (k< (b:Int)))
 (af a (fun p=>
 (0:Int)≤k∧k< (b:Int)∧
 ∃q,o.cell? (p.add (k.toNat*1))=some (string q)∧
 CP 234 #[pointer g,string q] o (fun r s=>
 ∃t u x,r= .returned (tuple #[agg #[int .i64 t,int .i64 u],bool x])∧
 ∀y,y=s.alloc (.cells #[int .i64 0,int .i64 0] 118)→
 aB y (nb s) (fun z=>
 ac (!x)
 (R (tuple #[pointer none,int .i64 k,int .i64 2]) z)
 (∃a1 b1,(z.cell? (nb s)=some (int .i64 a1)∧z.cell? ((nb s).add 1)=some (int .i64 b1)∧True)∧
 CP 235 #[pointer g,agg #[int .i64 a1,int .i64 b1]] z (fun c1 d1=>
 ∃e1 f1,c1= .returned (tuple #[int .i64 e1,int .i64 f1])∧
 ac (f1 != 0)
 (R (tuple #[pointer none,int .i64 k,int .i64 f1]) d1)
 (Ar .i64 (k+1) (fun g1=>
 j [int .i64 g1,int .i64 l,int .i64 m,pointer n] d1))))) [int .i64 t,int .i64 u] 0)))
 (R (tuple #[pointer g,int .i64 (b:Int),int .i64 0]) o))→j [int .i64 k,int .i64 l,int .i64 m,pointer n] o)→
 j [int .i64 0,int .i64 0,int .i64 0,pointer none] f))
theorem we (a:OA) (b c:Nat) (w:World) (R:RW) (hh:Nx a b c w R):CR 187 #[slice a b c] w R:=
 aD (fn:=Tryz.f187) (by kernel_rfl) (by kernel_rfl) (by kernel_rfl) (by kernel_rfl) (by kernel_rfl) hh
def Mr (a:OA) (b c:Nat) (w:World) (R:RW):Prop:=
 CP 236 #[] w (fun d f=>
 ∃g,d= .returned (pointer g)∧
 ∀h:KW,(∀(i j k:Int) (l:OA) (m:World),(ac (decide (i< (b:Int)))
 (af a (fun n=>
 (0:Int)≤i∧i< (b:Int)∧
 ∃o p,(m.cell? (n.add (i.toNat*2))=some (int .i64 o)∧m.cell? ((n.add (i.toNat*2)).add 1)=some (int .i64 p)∧True)∧
 ∀q,q=m.alloc (.cells #[int .i64 0,int .i64 0] 118)→
 aB q (nb m) (fun r=>
 ∃s t,(r.cell? (nb m)=some (int .i64 s)∧r.cell? ((nb m).add 1)=some (int .i64 t)∧True)∧
 CP 235 #[pointer g,agg #[int .i64 s,int .i64 t]] r (fun u x=>
 ∃y z,u= .returned (tuple #[int .i64 y,int .i64 z])∧
 ac (z != 0)
 (R (tuple #[pointer none,int .i64 i,int .i64 z]) x)
 (Ar .i64 (i+1) (fun a1=>
 h [int .i64 a1,int .i64 j,int .i64 k,pointer l] x)))) [int .i64 o,int .i64 p] 0))
 (R (tuple #[pointer g,int .i64 (b:Int),int .i64 0]) m))→h [int .i64 i,int .i64 j,int .i64 k,pointer l] m)→
 h [int .i64 0,int .i64 0,int .i64 0,pointer none] f)
theorem wm (a:OA) (b c:Nat) (w:World) (R:RW) (hh:Mr a b c w R):CR 188 #[slice a b c] w R:=
 aD (fn:=Tryz.f188) (by kernel_rfl) (by kernel_rfl) (by kernel_rfl) (by kernel_rfl) (by kernel_rfl) hh
def Od (a:OA) (b:Int) (c:ByteArray) (w:World) (R:RW):Prop:=
 ∀d,d=w.alloc (.cells #[int .i64 b,string c] 75)→
 ∀f,f=d.drew→
 af a (fun g=>
 ∃h,f.cell? (g.add 1)=some (map h)∧
 ∃i,f.cell? ((nb w).add 0)=some (int .i64 i)∧
 ∃j k l,(Instr.lookup 128 (map h) (int .i64 i) true).run Tryz.prog f= .ok (tuple #[int .i64 j,bool k]) l∧
 ∀m,m=l.drew→
 af a (fun n=>
 ∃o,m.cell? (n.add 2)=some (map o)∧
 ∃p,m.cell? ((nb w).add 1)=some (string p)∧
 ∃q r s,(Instr.lookup 246 (map o) (string p) true).run Tryz.prog m= .ok (tuple #[int .i64 q,bool r]) s∧
 ∃t x,(s.cell? (nb w)=some (int .i64 t)∧s.cell? ((nb w).add 1)=some (string x)∧True)∧
 CP 237 #[agg #[int .i64 t,string x]] s (fun y z=>
 ∃a1,y= .returned (bool a1)∧
 ac (!a1)
 (R (int .i64 1) z)
 (af a (fun b1=>
 ∃c1 d1 e1,z.cell? (b1.add 0)=some (slice c1 d1 e1)∧
 ac (decide ((d1:Int)≥32))
 (R (int .i64 3) z)
 (ac k
 (R (int .i64 10) z)
 (ac r
 (R (int .i64 10) z)
 (∀f1,f1=z.drew→
 af a (fun g1=>
 ∃h1,f1.cell? (g1.add 1)=some (map h1)∧
 ∃i1,f1.cell? ((nb w).add 0)=some (int .i64 i1)∧
 af a (fun j1=>
 ∃k1,f1.cell? (j1.add 2)=some (map k1)∧
 ∃l1,f1.cell? ((nb w).add 1)=some (string l1)∧
 af a (fun m1=>
 ∃n1 o1 p1,f1.cell? (m1.add 0)=some (slice n1 o1 p1)∧
 af a (fun q1=>
 ∃r1 s1 t1,f1.cell? (q1.add 0)=some (slice r1 s1 t1)∧
 ∃u1 v1 x1,(Instr.mapEntry 128 (map h1) (int .i64 i1)).run Tryz.prog f1= .ok (tuple #[int .i64 u1,int .i64 v1]) x1∧
 (x1.cell? (m1.add 0)=some (slice n1 o1 p1)∧True)∧
 (x1.cell? ((nb w).add 1)=some (string l1)∧True)∧
 ∃y1,(Instr.entryStore 128 (map h1) (int .i64 v1) (int .i64 (o1:Int))).run Tryz.prog x1= .ok () y1∧
 (y1.cell? ((nb w).add 1)=some (string l1)∧True)∧
 ∃z1 a2 b2,(Instr.mapEntry 246 (map k1) (string l1)).run Tryz.prog y1= .ok (tuple #[int .i64 z1,int .i64 a2]) b2∧
 ∃c2,(Instr.entryStore 246 (map k1) (int .i64 a2) (int .i64 (s1:Int))).run Tryz.prog b2= .ok () c2∧
 ∀d2,d2=c2.drew→
 ∃e2,d2.cell? ((nb w).add 1)=some (string e2)∧
 (0:Int)≤0∧0< (e2.size:Int)∧
 af a (fun f2=>
 (0:Int)≤(fJ e2 0)∧(fJ e2 0) < (256:Int)∧
 (bool true).oneCell'=true∧(∃u,d2.cell? ((f2.add 3).add ((fJ e2 0:Int).toNat*1))=some u)∧d2.frozen? ((f2.add 3).add ((fJ e2 0:Int).toNat*1))=false∧
 ∀g2,g2=(d2.setCell ((f2.add 3).add ((fJ e2 0:Int).toNat*1)) (bool true))→
 ∀h2,h2=g2.drew→
 af a (fun i2=>
 ∃j2,h2.cell? (i2.add 259)=some (int .i64 j2)∧
 ∃k2,h2.cell? ((nb w).add 1)=some (string k2)∧
 ∃l2 m2,(Builtin.max_ #[3,3] 3 #[int .i64 j2,int .i64 (k2.size:Int)]).run Tryz.prog h2= .ok (int .i64 l2) m2∧
 af a (fun n2=>
 (int .i64 l2).oneCell'=true∧(∃u,m2.cell? (n2.add 259)=some u)∧m2.frozen? (n2.add 259)=false∧
 ∀o2,o2=(m2.setCell (n2.add 259) (int .i64 l2))→
 ∀p2,p2=o2.drew→
 af a (fun q2=>
 ∃r2 s2 t2,p2.cell? (q2.add 0)=some (slice r2 s2 t2)∧
 ∃u2 v2,(p2.cell? (nb w)=some (int .i64 u2)∧p2.cell? ((nb w).add 1)=some (string v2)∧True)∧
 ∀x2,x2=p2.alloc (.cells #[int .i64 u2,string v2] 75)→
 (x2.cell? (q2.add 0)=some (slice r2 s2 t2)∧True)∧
 ∃y2 z2 a3 b3,(Builtin.append_ #[25,25] 25 #[slice r2 s2 t2,slice (some (nb p2)) 1 1]).run Tryz.prog x2= .ok (slice y2 z2 a3) b3∧
 af a (fun c3=>
 (slice y2 z2 a3).oneCell'=true∧(∃u,b3.cell? (c3.add 0)=some u)∧b3.frozen? (c3.add 0)=false∧
 ∀d3,d3=(b3.setCell (c3.add 0) (slice y2 z2 a3))→
 R (int .i64 0) d3)))))))))))))))))
theorem xK (a:OA) (b:Int) (c:ByteArray) (w:World) (R:RW) (hh:Od a b c w R):CR 189 #[pointer a,agg #[int .i64 b,string c]] w R:=
 aD (fn:=Tryz.f189) (by kernel_rfl) (by kernel_rfl) (by kernel_rfl) (by kernel_rfl) (by kernel_rfl) hh
def Nf (a b c:Int) (w:World) (R:RW):Prop:=
 ∀d,d=w.alloc (.cells #[int .i64 a,int .i64 b,int .i64 c] 215)→
 ∃f,d.cell? ((nb w).add 0)=some (int .i64 f)∧
 ac (decide (f≥0))
 (∃g,d.cell? ((nb w).add 0)=some (int .i64 g)∧
 ∃h,d.cell? ((nb w).add 1)=some (int .i64 h)∧
 ac (decide (g≤h))
 (∃i,d.cell? ((nb w).add 1)=some (int .i64 i)∧
 ac (decide (i<256))
 (∃j,d.cell? ((nb w).add 2)=some (int .i64 j)∧
 CP 191 #[int .i64 j] d (fun k l=>
 ∃m,k= .returned (bool m)∧
 R (bool m) l))
 (R (bool false) d))
 (R (bool false) d))
 (R (bool false) d)
theorem vK (a b c:Int) (w:World) (R:RW) (hh:Nf a b c w R):CR 190 #[agg #[int .i64 a,int .i64 b,int .i64 c]] w R:=
 aD (fn:=Tryz.f190) (by kernel_rfl) (by kernel_rfl) (by kernel_rfl) (by kernel_rfl) (by kernel_rfl) hh
def Mb (a:Int) (w:World) (R:RW):Prop:=
 ac (decide (a≥0))
 (R (bool (decide (a<16))) w)
 (R (bool false) w)
theorem vW (a:Int) (w:World) (R:RW) (hh:Mb a w R):CR 191 #[int .i64 a] w R:=
 aD (fn:=Tryz.f191) (by kernel_rfl) (by kernel_rfl) (by kernel_rfl) (by kernel_rfl) (by kernel_rfl) hh
def NF (a:OA) (b c:Nat) (w:World) (R:RW):Prop:=
 ac (Option.isNone a)
 (R (slice none 0 0) w)
 (∀d,d=w.alloc (.cells #[] 118)→
 ∃f g h i,(Builtin.append_ #[34,34] 34 #[slice (some (nb w)) 0 0,slice a b c]).run Tryz.prog d= .ok (slice f g h) i∧
 R (slice f g h) i)
theorem yv (a:OA) (b c:Nat) (w:World) (R:RW) (hh:NF a b c w R):CR 192 #[slice a b c] w R:=
 aD (fn:=Tryz.f192) (by kernel_rfl) (by kernel_rfl) (by kernel_rfl) (by kernel_rfl) (by kernel_rfl) hh
def NH (a:OA) (b c:Nat) (w:World) (R:RW):Prop:=
 ac (Option.isNone a)
 (R (slice none 0 0) w)
 (∀d,d=w.alloc (.cells #[] 9)→
 ∃f g h i,(Builtin.append_ #[33,33] 33 #[slice (some (nb w)) 0 0,slice a b c]).run Tryz.prog d= .ok (slice f g h) i∧
 R (slice f g h) i)
theorem wQ (a:OA) (b c:Nat) (w:World) (R:RW) (hh:NH a b c w R):CR 193 #[slice a b c] w R:=
 aD (fn:=Tryz.f193) (by kernel_rfl) (by kernel_rfl) (by kernel_rfl) (by kernel_rfl) (by kernel_rfl) hh
def Oc (a:OA) (b c:Nat) (w:World) (R:RW):Prop:=
 ac (Option.isNone a)
 (R (slice none 0 0) w)
 (∀d,d=w.alloc (.cells #[] 215)→
 ∃f g h i,(Builtin.append_ #[23,23] 23 #[slice (some (nb w)) 0 0,slice a b c]).run Tryz.prog d= .ok (slice f g h) i∧
 R (slice f g h) i)
theorem vC (a:OA) (b c:Nat) (w:World) (R:RW) (hh:Oc a b c w R):CR 194 #[slice a b c] w R:=
 aD (fn:=Tryz.f194) (by kernel_rfl) (by kernel_rfl) (by kernel_rfl) (by kernel_rfl) (by kernel_rfl) hh
def LV (a:OA) (b c:Nat) (w:World) (R:RW):Prop:=
 ac (Option.isNone a)
 (R (slice none 0 0) w)
 (∀d,d=w.alloc (.cells #[] 218)→
 ∃f g h i,(Builtin.append_ #[24,24] 24 #[slice (some (nb w)) 0 0,slice a b c]).run Tryz.prog d= .ok (slice f g h) i∧
 R (slice f g h) i)
theorem xx (a:OA) (b c:Nat) (w:World) (R:RW) (hh:LV a b c w R):CR 195 #[slice a b c] w R:=
 aD (fn:=Tryz.f195) (by kernel_rfl) (by kernel_rfl) (by kernel_rfl) (by kernel_rfl) (by kernel_rfl) hh
def Lh (a:Int) (w:World) (R:RW):Prop:=
 Ar .i64 ((-1:Int)-a) (fun b=>
 R (int .i64 b) w)
theorem zt (a:Int) (w:World) (R:RW) (hh:Lh a w R):CR 197 #[int .i64 a] w R:=
 aD (fn:=Tryz.f197) (by kernel_rfl) (by kernel_rfl) (by kernel_rfl) (by kernel_rfl) (by kernel_rfl) hh
def Lk (a:OA) (b:ByteArray) (w:World) (R:RW):Prop:=
 CP 143 #[pointer a] w (fun c d=>
 ∃f,c= .returned (int .i64 f)∧
 CP 238 #[pointer a,string b,int .i64 f] d (fun g h=>
 ∃i j k,g= .returned (slice i j k)∧
 R (slice i j k) h))
theorem wj (a:OA) (b:ByteArray) (w:World) (R:RW) (hh:Lk a b w R):CR 198 #[pointer a,string b] w R:=
 aD (fn:=Tryz.f198) (by kernel_rfl) (by kernel_rfl) (by kernel_rfl) (by kernel_rfl) (by kernel_rfl) hh
def N5 (a:OA) (b:ByteArray) (w:World) (R:RW):Prop:=
 CP 239 #[pointer a,string b] w (fun c d=>
 ∃f g h,c= .returned (slice f g h)∧
 R (bool (decide ((g:Int)≤1))) d)
theorem wN (a:OA) (b:ByteArray) (w:World) (R:RW) (hh:N5 a b w R):CR 199 #[pointer a,string b] w R:=
 aD (fn:=Tryz.f199) (by kernel_rfl) (by kernel_rfl) (by kernel_rfl) (by kernel_rfl) (by kernel_rfl) hh
def K7 (a:OA) (b:Int) (w:World) (R:RW):Prop:=
 CP 120 #[pointer a] w (fun c d=>
 ∃f,c= .returned (pointer f)∧
 CP 148 #[pointer f,int .i64 b] d (fun g h=>
 ∃i j,g= .returned (tuple #[int .i64 i,bool j])∧
 R (bool j) h))
theorem ye (a:OA) (b:Int) (w:World) (R:RW) (hh:K7 a b w R):CR 200 #[pointer a,int .i64 b] w R:=
 aD (fn:=Tryz.f200) (by kernel_rfl) (by kernel_rfl) (by kernel_rfl) (by kernel_rfl) (by kernel_rfl) hh
def NE (a:OA) (w:World) (R:RW):Prop:=
 ac (Option.isNone a)
 (R (pointer none) w)
 (af a (fun b=>
 ∃c,w.cell? ((b.add 0).add 7)=some (pointer c)∧
 R (pointer c) w))
theorem yK (a:OA) (w:World) (R:RW) (hh:NE a w R):CR 201 #[pointer a] w R:=
 aD (fn:=Tryz.f201) (by kernel_rfl) (by kernel_rfl) (by kernel_rfl) (by kernel_rfl) (by kernel_rfl) hh
def MM (a:OA) (b c:ByteArray) (w:World) (R:RW):Prop:=
 ∀d,d=w.drew→
 ac (!(b.toList==(⟨#[]⟩:ByteArray).toList))
 (ac (!(c.toList==(⟨#[]⟩:ByteArray).toList))
 (Ar .i64 (((b.size:Int):Int)-1) (fun f=>
 (0:Int)≤f∧f< (b.size:Int)∧
 (0:Int)≤0∧0< (c.size:Int)∧
 CP 240 #[pointer a,int .u8 (fJ b f),int .u8 (fJ c 0)] d (fun g h=>
 ∃i,g= .returned (bool i)∧
 R (bool i) h)))
 (R (bool false) d))
 (R (bool false) d)
theorem vF (a:OA) (b c:ByteArray) (w:World) (R:RW) (hh:MM a b c w R):CR 202 #[pointer a,string b,string c] w R:=
 aD (fn:=Tryz.f202) (by kernel_rfl) (by kernel_rfl) (by kernel_rfl) (by kernel_rfl) (by kernel_rfl) hh
def Mu (a:OA) (b c d:Int) (w:World) (R:RW):Prop:=
 CP 241 #[pointer a,int .i64 b,int .i64 c] w (fun f g=>
 ∃h,f= .returned (bool h)∧
 ac h
 (CP 242 #[pointer a,int .i64 b,int .i64 c,int .i64 d] g (fun i j=>
 ∃k,i= .returned (pointer k)∧
 CP 243 #[pointer k] j (fun l m=>
 ∃n,l= .returned (bool n)∧
 R (bool n) m)))
 (R (bool false) g))
theorem xE (a:OA) (b c d:Int) (w:World) (R:RW) (hh:Mu a b c d w R):CR 203 #[pointer a,int .i64 b,int .i64 c,int .i64 d] w R:=
 aD (fn:=Tryz.f203) (by kernel_rfl) (by kernel_rfl) (by kernel_rfl) (by kernel_rfl) (by kernel_rfl) hh
def La (a:OA) (b c:Nat) (d:Value) (w:World) (R:RW):Prop:=
 ∀f:KW,(∀(g h:Int) (i:World),(ac (decide (g< (b:Int)))
 (af a (fun j=>
 (0:Int)≤g∧g< (b:Int)∧
 ∃k l,(i.cell? (j.add (g.toNat*2))=some (int .i64 k)∧i.cell? ((j.add (g.toNat*2)).add 1)=some (int .i64 l)∧True)∧
 bH gr d [agg #[int .i64 k,int .i64 l]] i (fun m n=>
 ∃o,m= .returned (bool o)∧
 ac o
 (R (int .i64 g) n)
 (Ar .i64 (g+1) (fun p=>
 f [int .i64 p,int .i64 h] n)))))
 (R (int .i64 (-1)) i))→f [int .i64 g,int .i64 h] i)→
 f [int .i64 0,int .i64 0] w
theorem wV (a:OA) (b c:Nat) (d:Value) (w:World) (R:RW) (hh:La a b c d w R):CR 230 #[slice a b c,d] w R:=
 aD (fn:=Tryz.f230) (by kernel_rfl) (by kernel_rfl) (by kernel_rfl) (by kernel_rfl) (by kernel_rfl) hh
def Ny (a:OA) (b c:Nat) (d:Value) (w:World) (R:RW):Prop:=
 ∀f:KW,(∀(g h:Int) (i:World),(ac (decide (g< (b:Int)))
 (af a (fun j=>
 (0:Int)≤g∧g< (b:Int)∧
 ∃k,i.cell? (j.add (g.toNat*1))=some (string k)∧
 bH gr d [string k] i (fun l m=>
 ∃n,l= .returned (bool n)∧
 ac n
 (R (int .i64 g) m)
 (Ar .i64 (g+1) (fun o=>
 f [int .i64 o,int .i64 h] m)))))
 (R (int .i64 (-1)) i))→f [int .i64 g,int .i64 h] i)→
 f [int .i64 0,int .i64 0] w
theorem vS (a:OA) (b c:Nat) (d:Value) (w:World) (R:RW) (hh:Ny a b c d w R):CR 231 #[slice a b c,d] w R:=
 aD (fn:=Tryz.f231) (by kernel_rfl) (by kernel_rfl) (by kernel_rfl) (by kernel_rfl) (by kernel_rfl) hh
def MF (a:OA) (b c:Nat) (d:Value) (w:World) (R:RW):Prop:=
 ∀f:KW,(∀(g h:Int) (i:World),(ac (decide (g< (b:Int)))
 (af a (fun j=>
 (0:Int)≤g∧g< (b:Int)∧
 ∃k l m,(i.cell? (j.add (g.toNat*3))=some (int .i64 k)∧i.cell? ((j.add (g.toNat*3)).add 1)=some (int .i64 l)∧i.cell? ((j.add (g.toNat*3)).add 2)=some (int .i64 m)∧True)∧
 bH gr d [agg #[int .i64 k,int .i64 l,int .i64 m]] i (fun n o=>
 ∃p,n= .returned (bool p)∧
 ac p
 (R (int .i64 g) o)
 (Ar .i64 (g+1) (fun q=>
 f [int .i64 q,int .i64 h] o)))))
 (R (int .i64 (-1)) i))→f [int .i64 g,int .i64 h] i)→
 f [int .i64 0,int .i64 0] w
theorem wv (a:OA) (b c:Nat) (d:Value) (w:World) (R:RW) (hh:MF a b c d w R):CR 232 #[slice a b c,d] w R:=
 aD (fn:=Tryz.f232) (by kernel_rfl) (by kernel_rfl) (by kernel_rfl) (by kernel_rfl) (by kernel_rfl) hh
def Np (a:OA) (b c:Nat) (d:Value) (w:World) (R:RW):Prop:=
 ∀f:KW,(∀(g h:Int) (i:World),(ac (decide (g< (b:Int)))
 (af a (fun j=>
 (0:Int)≤g∧g< (b:Int)∧
 ∃k l,(i.cell? (j.add (g.toNat*2))=some (int .i64 k)∧i.cell? ((j.add (g.toNat*2)).add 1)=some (int .i64 l)∧True)∧
 bH gr d [agg #[int .i64 k,int .i64 l]] i (fun m n=>
 ∃o,m= .returned (bool o)∧
 ac o
 (R (int .i64 g) n)
 (Ar .i64 (g+1) (fun p=>
 f [int .i64 p,int .i64 h] n)))))
 (R (int .i64 (-1)) i))→f [int .i64 g,int .i64 h] i)→
 f [int .i64 0,int .i64 0] w
theorem zO (a:OA) (b c:Nat) (d:Value) (w:World) (R:RW) (hh:Np a b c d w R):CR 233 #[slice a b c,d] w R:=
 aD (fn:=Tryz.f233) (by kernel_rfl) (by kernel_rfl) (by kernel_rfl) (by kernel_rfl) (by kernel_rfl) hh
def Mm (a:OA) (b:ByteArray) (w:World) (R:RW):Prop:=
 ∀c,c=w.alloc (.cells #[int .i64 0,int .i64 0] 118)→
 CP 198 #[pointer a,string b] c (fun d f=>
 ∃g h i,d= .returned (slice g h i)∧
 ac ((h:Int) != 2)
 (aB f (nb w) (fun j=>
 ∃k l,(j.cell? (nb w)=some (int .i64 k)∧j.cell? ((nb w).add 1)=some (int .i64 l)∧True)∧
 R (tuple #[agg #[int .i64 k,int .i64 l],bool false]) j) [int .i64 0,int .i64 0] 0)
 (∀m,m=f.drew→
 af g (fun n=>
 (0:Int)≤0∧0< (h:Int)∧
 ∃o,m.cell? (n.add ((0:Int).toNat*1))=some (int .i64 o)∧
 af g (fun p=>
 (0:Int)≤1∧1< (h:Int)∧
 ∃q,m.cell? (p.add ((1:Int).toNat*1))=some (int .i64 q)∧
 aB m (nb w) (fun r=>
 ∃s t,(r.cell? (nb w)=some (int .i64 s)∧r.cell? ((nb w).add 1)=some (int .i64 t)∧True)∧
 R (tuple #[agg #[int .i64 s,int .i64 t],bool true]) r) [int .i64 o,int .i64 q] 0))))
theorem zA (a:OA) (b:ByteArray) (w:World) (R:RW) (hh:Mm a b w R):CR 234 #[pointer a,string b] w R:=
 aD (fn:=Tryz.f234) (by kernel_rfl) (by kernel_rfl) (by kernel_rfl) (by kernel_rfl) (by kernel_rfl) hh
def No (a:OA) (b c:Int) (w:World) (R:RW):Prop:=
 ∀d,d=w.alloc (.cells #[int .i64 b,int .i64 c] 118)→
 ac (Option.isNone a)
 (R (tuple #[int .i64 0,int .i64 1]) d)
 (∃f,d.cell? ((nb w).add 0)=some (int .i64 f)∧
 CP 174 #[pointer a,int .i64 f] d (fun g h=>
 ∃i,g= .returned (bool i)∧
 ac (!i)
 (R (tuple #[int .i64 0,int .i64 4]) h)
 (∃j,h.cell? ((nb w).add 1)=some (int .i64 j)∧
 CP 174 #[pointer a,int .i64 j] h (fun k l=>
 ∃m,k= .returned (bool m)∧
 ac (!m)
 (R (tuple #[int .i64 0,int .i64 4]) l)
 (∀n,n=l.drew→
 af a (fun o=>
 ∃p q r,n.cell? (o.add 0)=some (slice p q r)∧
 ∃s,n.cell? ((nb w).add 0)=some (int .i64 s)∧
 af p (fun t=>
 (0:Int)≤s∧s< (q:Int)∧
 ∃x,n.cell? ((t.add (s.toNat*3)).add 0)=some (string x)∧
 af a (fun y=>
 ∃z a1 b1,n.cell? (y.add 0)=some (slice z a1 b1)∧
 ∃c1,n.cell? ((nb w).add 1)=some (int .i64 c1)∧
 af z (fun d1=>
 (0:Int)≤c1∧c1< (a1:Int)∧
 ∃e1,n.cell? ((d1.add (c1.toNat*3)).add 0)=some (string e1)∧
 ((x.size+e1.size:Nat):Int)≤IntKind.i64.max∧
 ac (decide ((((x++e1:ByteArray).size:Int):Int)>64))
 (R (tuple #[int .i64 0,int .i64 3]) n)
 (af a (fun f1=>
 ∃g1 h1 i1,n.cell? (f1.add 0)=some (slice g1 h1 i1)∧
 ac (decide ((h1:Int)≥1000))
 (R (tuple #[int .i64 0,int .i64 5]) n)
 (af a (fun j1=>
 ∃k1,n.cell? (j1.add 1)=some (map k1)∧
 ∃l1 m1 n1,(Instr.lookup 246 (map k1) (string (x++e1)) true).run Tryz.prog n= .ok (tuple #[int .i64 l1,bool m1]) n1∧
 ac m1
 (R (tuple #[int .i64 0,int .i64 10]) n1)
 (af a (fun o1=>
 ∃p1 q1 r1,n1.cell? (o1.add 0)=some (slice p1 q1 r1)∧
 ∀s1,s1=n1.drew→
 af a (fun t1=>
 ∃u1 v1 x1,s1.cell? (t1.add 0)=some (slice u1 v1 x1)∧
 ∃y1 z1,(s1.cell? (nb w)=some (int .i64 y1)∧s1.cell? ((nb w).add 1)=some (int .i64 z1)∧True)∧
 ∀a2,a2=s1.alloc (.cells #[string (x++e1),int .i64 y1,int .i64 z1] 278)→
 (a2.cell? (t1.add 0)=some (slice u1 v1 x1)∧True)∧
 ∃b2 c2 d2 e2,(Builtin.append_ #[245,245] 245 #[slice u1 v1 x1,slice (some (nb s1)) 1 1]).run Tryz.prog a2= .ok (slice b2 c2 d2) e2∧
 af a (fun f2=>
 (slice b2 c2 d2).oneCell'=true∧(∃u,e2.cell? (f2.add 0)=some u)∧e2.frozen? (f2.add 0)=false∧
 ∀g2,g2=(e2.setCell (f2.add 0) (slice b2 c2 d2))→
 ∀h2,h2=g2.drew→
 af a (fun i2=>
 ∃j2,h2.cell? (i2.add 1)=some (map j2)∧
 af a (fun k2=>
 ∃l2,h2.cell? (k2.add 2)=some (map l2)∧
 ∃m2 n2,(h2.cell? (nb w)=some (int .i64 m2)∧h2.cell? ((nb w).add 1)=some (int .i64 n2)∧True)∧
 ∃o2 p2 q2,(Instr.mapEntry 246 (map j2) (string (x++e1))).run Tryz.prog h2= .ok (tuple #[int .i64 o2,int .i64 p2]) q2∧
 (q2.cell? (nb w)=some (int .i64 m2)∧q2.cell? ((nb w).add 1)=some (int .i64 n2)∧True)∧
 ∃r2,(Instr.entryStore 246 (map j2) (int .i64 p2) (int .i64 (q1:Int))).run Tryz.prog q2= .ok () r2∧
 (r2.cell? (nb w)=some (int .i64 m2)∧r2.cell? ((nb w).add 1)=some (int .i64 n2)∧True)∧
 ∃s2 t2 u2,(Instr.mapEntry 247 (map l2) (agg #[int .i64 m2,int .i64 n2])).run Tryz.prog r2= .ok (tuple #[int .i64 s2,int .i64 t2]) u2∧
 ∃v2,(Instr.entryStore 247 (map l2) (int .i64 t2) (int .i64 (q1:Int))).run Tryz.prog u2= .ok () v2∧
 af a (fun x2=>
 ∃y2,v2.cell? (x2.add 3)=some (int .i64 y2)∧
 ∃z2 a3,(Builtin.max_ #[3,3] 3 #[int .i64 y2,int .i64 ((x++e1:ByteArray).size:Int)]).run Tryz.prog v2= .ok (int .i64 z2) a3∧
 af a (fun b3=>
 (int .i64 z2).oneCell'=true∧(∃u,a3.cell? (b3.add 3)=some u)∧a3.frozen? (b3.add 3)=false∧
 ∀c3,c3=(a3.setCell (b3.add 3) (int .i64 z2))→
 R (tuple #[int .i64 (q1:Int),int .i64 0]) c3)))))))))))))))))))))
theorem wO (a:OA) (b c:Int) (w:World) (R:RW) (hh:No a b c w R):CR 235 #[pointer a,agg #[int .i64 b,int .i64 c]] w R:=
 aD (fn:=Tryz.f235) (by kernel_rfl) (by kernel_rfl) (by kernel_rfl) (by kernel_rfl) (by kernel_rfl) hh
def Nj (w:World) (R:RW):Prop:=
 ∃a b,(Instr.makeMap 246 none).run Tryz.prog w= .ok (map a) b∧
 ∃c d,(Instr.makeMap 247 none).run Tryz.prog b= .ok (map c) d∧
 ∀f,f=d.alloc (.cells #[slice none 0 0,map a,map c,int .i64 1] 249)→
 ∀g:KW,(∀(h:Int) (i:World),(ac (decide (h<256))
 (∀j,j=i.alloc (.cells #[int .u8 (IntKind.wrap .u8 h)] 5)→
 ∃k l,(convert 97 9 (slice (some (nb i)) 1 1)).run Tryz.prog j= .ok (string k) l∧
 ∃m n o,l.cell? ((nb d).add 0)=some (slice m n o)∧
 ∀p,p=l.alloc (.cells #[string k,int .i64 (-1),int .i64 (-1)] 278)→
 ∃q r s t,(Builtin.append_ #[245,245] 245 #[slice m n o,slice (some (nb l)) 1 1]).run Tryz.prog p= .ok (slice q r s) t∧
 (slice q r s).oneCell'=true∧(∃u,t.cell? ((nb d).add 0)=some u)∧t.frozen? ((nb d).add 0)=false∧
 ∀x,x=(t.setCell ((nb d).add 0) (slice q r s))→
 ∃y,x.cell? ((nb d).add 1)=some (map y)∧
 ∃z,(Instr.mapUpdate 246 (map y) (string k) (int .i64 h)).run Tryz.prog x= .ok () z∧
 Ar .i64 (h+1) (fun a1=>
 g [int .i64 a1] z))
 (R (pointer (some (nb d))) i))→g [int .i64 h] i)→
 g [int .i64 0] f
theorem vv (w:World) (R:RW) (hh:Nj w R):CR 236 #[] w R:=
 aD (fn:=Tryz.f236) (by kernel_rfl) (by kernel_rfl) (by kernel_rfl) (by kernel_rfl) (by kernel_rfl) hh
def Nt (a:Int) (b:ByteArray) (w:World) (R:RW):Prop:=
 ∀c,c=w.alloc (.cells #[int .i64 a,string b] 75)→
 ∃d,c.cell? ((nb w).add 0)=some (int .i64 d)∧
 ac (decide (d≥0))
 (∃f,c.cell? ((nb w).add 0)=some (int .i64 f)∧
 ac (decide (f≤1073741824))
 (∃g,c.cell? ((nb w).add 1)=some (string g)∧
 ac (!(g.toList==(⟨#[]⟩:ByteArray).toList))
 (∃h,c.cell? ((nb w).add 1)=some (string h)∧
 R (bool (decide (((h.size:Int):Int)≤64))) c)
 (R (bool false) c))
 (R (bool false) c))
 (R (bool false) c)
theorem yR (a:Int) (b:ByteArray) (w:World) (R:RW) (hh:Nt a b w R):CR 237 #[agg #[int .i64 a,string b]] w R:=
 aD (fn:=Tryz.f237) (by kernel_rfl) (by kernel_rfl) (by kernel_rfl) (by kernel_rfl) (by kernel_rfl) hh
def LL (a:OA) (b:ByteArray) (c:Int) (w:World) (R:RW):Prop:=
 ac (Option.isNone a)
 (R (slice none 0 0) w)
 (CP 256 #[pointer a,string b,int .i64 c] w (fun d f=>
 ∃g,d= .returned (pointer g)∧
 CP 257 #[pointer g] f (fun h i=>
 h= .returned (tuple #[])∧
 CP 258 #[pointer g] i (fun j k=>
 ∃l m n,j= .returned (slice l m n)∧
 R (slice l m n) k))))
theorem wT (a:OA) (b:ByteArray) (c:Int) (w:World) (R:RW) (hh:LL a b c w R):CR 238 #[pointer a,string b,int .i64 c] w R:=
 aD (fn:=Tryz.f238) (by kernel_rfl) (by kernel_rfl) (by kernel_rfl) (by kernel_rfl) (by kernel_rfl) hh
def MD (a:OA) (b:ByteArray) (w:World) (R:RW):Prop:=
 ∀c:KW,(∀(d f:Int) (g:OA) (h i:Nat) (j:World),(ac (decide (d≤(b.size:Int)))
 (∀k:KW,(∀(l:Int) (m:OA) (n o:Nat) (p:World),(Ar .i64 (d+1) (fun q=>
 c [int .i64 q,int .i64 l,slice m n o] p))→k [int .i64 l,slice m n o] p)→
 ∀r,r=j.drew→
 ac (d==(b.size:Int))
 ((0:Int)≤f∧f≤d∧d≤(b.size:Int)∧
 ∀s,s=r.alloc (.cells #[string (b.extract f.toNat d.toNat)] 9)→
 ∃t u x y,(Builtin.append_ #[33,33] 33 #[slice g h i,slice (some (nb r)) 1 1]).run Tryz.prog s= .ok (slice t u x) y∧
 k [int .i64 d,slice t u x] y)
 (Ar .i64 (d-1) (fun z=>
 (0:Int)≤z∧z< (b.size:Int)∧
 (0:Int)≤d∧d< (b.size:Int)∧
 CP 240 #[pointer a,int .u8 (fJ b z),int .u8 (fJ b d)] r (fun a1 b1=>
 ∃c1,a1= .returned (bool c1)∧
 ac c1
 ((0:Int)≤f∧f≤d∧d≤(b.size:Int)∧
 ∀d1,d1=b1.alloc (.cells #[string (b.extract f.toNat d.toNat)] 9)→
 ∃e1 f1 g1 h1,(Builtin.append_ #[33,33] 33 #[slice g h i,slice (some (nb b1)) 1 1]).run Tryz.prog d1= .ok (slice e1 f1 g1) h1∧
 k [int .i64 d,slice e1 f1 g1] h1)
 (k [int .i64 f,slice g h i] b1)))))
 (R (slice g h i) j))→c [int .i64 d,int .i64 f,slice g h i] j)→
 c [int .i64 1,int .i64 0,slice none 0 0] w
theorem zF (a:OA) (b:ByteArray) (w:World) (R:RW) (hh:MD a b w R):CR 239 #[pointer a,string b] w R:=
 aD (fn:=Tryz.f239) (by kernel_rfl) (by kernel_rfl) (by kernel_rfl) (by kernel_rfl) (by kernel_rfl) hh
def LF (a:OA) (b c:Int) (w:World) (R:RW):Prop:=
 ac (Option.isNone a)
 (R (bool false) w)
 (∀d,d=w.drew→
 af a (fun f=>
 (0:Int)≤b∧b< (256:Int)∧
 ∃g,d.cell? ((f.add 0).add (b.toNat*1))=some (int .i64 g)∧
 af a (fun h=>
 (0:Int)≤c∧c< (256:Int)∧
 ∃i,d.cell? ((h.add 0).add (c.toNat*1))=some (int .i64 i)∧
 ac (g != i)
 (af a (fun j=>
 (0:Int)≤g∧g< (16:Int)∧
 (0:Int)≤i∧i< (16:Int)∧
 ∃k,d.cell? (((j.add 256).add (g.toNat*16)).add (i.toNat*1))=some (bool k)∧
 R (bool (!k)) d))
 (R (bool false) d))))
theorem vw (a:OA) (b c:Int) (w:World) (R:RW) (hh:LF a b c w R):CR 240 #[pointer a,int .u8 b,int .u8 c] w R:=
 aD (fn:=Tryz.f240) (by kernel_rfl) (by kernel_rfl) (by kernel_rfl) (by kernel_rfl) (by kernel_rfl) hh
def NI (a:OA) (b c:Int) (w:World) (R:RW):Prop:=
 ac (decide (b≥0))
 (CP 143 #[pointer a] w (fun d f=>
 ∃g,d= .returned (int .i64 g)∧
 ac (decide (b<g))
 (ac (decide (c≥0))
 (CP 143 #[pointer a] f (fun h i=>
 ∃j,h= .returned (int .i64 j)∧
 R (bool (decide (c<j))) i))
 (R (bool false) f))
 (R (bool false) f)))
 (R (bool false) w)
theorem yJ (a:OA) (b c:Int) (w:World) (R:RW) (hh:NI a b c w R):CR 241 #[pointer a,int .i64 b,int .i64 c] w R:=
 aD (fn:=Tryz.f241) (by kernel_rfl) (by kernel_rfl) (by kernel_rfl) (by kernel_rfl) (by kernel_rfl) hh
def N6 (a:OA) (b c d:Int) (w:World) (R:RW):Prop:=
 ∀f,f=w.alloc (.cells #[int .i64 b,int .i64 c,pointer a,int .i64 d,int .i64 0] 365)→
 R (pointer (some (nb w))) f
theorem zd (a:OA) (b c d:Int) (w:World) (R:RW) (hh:N6 a b c d w R):CR 242 #[pointer a,int .i64 b,int .i64 c,int .i64 d] w R:=
 aD (fn:=Tryz.f242) (by kernel_rfl) (by kernel_rfl) (by kernel_rfl) (by kernel_rfl) (by kernel_rfl) hh
def Nh (a:OA) (w:World) (R:RW):Prop:=
 ∀b:KW,(∀(c:Bool) (d:World),(CP 259 #[pointer a] d (fun f g=>
 ∃h,f= .returned (bool h)∧
 ac (!h)
 (CP 260 #[pointer a] g (fun i j=>
 ∃k,i= .returned (bool k)∧
 ac (!k)
 (R (bool true) j)
 (b [bool c] j)))
 (R (bool false) g)))→b [bool c] d)→
 b [bool false] w
theorem vI (a:OA) (w:World) (R:RW) (hh:Nh a w R):CR 243 #[pointer a] w R:=
 aD (fn:=Tryz.f243) (by kernel_rfl) (by kernel_rfl) (by kernel_rfl) (by kernel_rfl) (by kernel_rfl) hh
def Mh (a:OA) (b:ByteArray) (c:Int) (w:World) (R:RW):Prop:=
 CP 270 #[] w (fun d f=>
 ∃g,d= .returned (pointer g)∧
 ∀h,h=f.alloc (.cells #[pointer a,slice none 0 0,pointer g,int .i64 c,int .i64 0] 381)→
 ∀i:KW,(∀(j:Int) (k:World),(ac (decide (j< (b.size:Int)))
 (∀l,l=k.drew→
 ∃m n o,l.cell? ((nb f).add 1)=some (slice m n o)∧
 (0:Int)≤j∧j< (b.size:Int)∧
 Ar .i64 (j-1) (fun p=>
 Ar .i64 (j+1) (fun q=>
 ∀r,r=l.alloc (.cells #[int .i64 (IntKind.wrap .i64 (fJ b j)),int .i64 p,int .i64 q] 383)→
 (r.cell? ((nb f).add 1)=some (slice m n o)∧True)∧
 ∃s t x y,(Builtin.append_ #[379,379] 379 #[slice m n o,slice (some (nb l)) 1 1]).run Tryz.prog r= .ok (slice s t x) y∧
 (slice s t x).oneCell'=true∧(∃u,y.cell? ((nb f).add 1)=some u)∧y.frozen? ((nb f).add 1)=false∧
 ∀z,z=(y.setCell ((nb f).add 1) (slice s t x))→
 Ar .i64 (j+1) (fun a1=>
 i [int .i64 a1] z))))
 (∀b1:KW,(∀c1:World,(∃d1 e1 f1,c1.cell? ((nb f).add 1)=some (slice d1 e1 f1)∧
 ∀g1:KW,(∀(h1:Int) (i1:World),(ac (decide (h1< (e1:Int)))
 (CP 271 #[pointer (some (nb f)),int .i64 h1] i1 (fun j1 k1=>
 j1= .returned (tuple #[])∧
 Ar .i64 (h1+1) (fun l1=>
 g1 [int .i64 l1] k1)))
 (R (pointer (some (nb f))) i1))→g1 [int .i64 h1] i1)→
 g1 [int .i64 0] c1)→b1 [] c1)→
 ∃m1 n1 o1,k.cell? ((nb f).add 1)=some (slice m1 n1 o1)∧
 ac (decide ((n1:Int)>0))
 (∃p1 q1 r1,k.cell? ((nb f).add 1)=some (slice p1 q1 r1)∧
 Ar .i64 ((n1:Int)-1) (fun s1=>
 af p1 (fun t1=>
 (0:Int)≤s1∧s1< (q1:Int)∧
 (int .i64 (-1)).oneCell'=true∧(∃u,k.cell? ((t1.add (s1.toNat*3)).add 2)=some u)∧k.frozen? ((t1.add (s1.toNat*3)).add 2)=false∧
 ∀u1,u1=(k.setCell ((t1.add (s1.toNat*3)).add 2) (int .i64 (-1)))→
 b1 [] u1)))
 (b1 [] k)))→i [int .i64 j] k)→
 i [int .i64 0] h)
theorem yU (a:OA) (b:ByteArray) (c:Int) (w:World) (R:RW) (hh:Mh a b c w R):CR 256 #[pointer a,string b,int .i64 c] w R:=
 aD (fn:=Tryz.f256) (by kernel_rfl) (by kernel_rfl) (by kernel_rfl) (by kernel_rfl) (by kernel_rfl) hh
def NP (a:OA) (w:World) (R:RW):Prop:=
 ∀b:KW,(∀c:World,(∀d:KW,(∀f:World,(b [] f)→d [] f)→
 af a (fun g=>
 ∃h,c.cell? (g.add 2)=some (pointer h)∧
 CP 272 #[pointer h] c (fun i j=>
 ∃k l m n o p,i= .returned (tuple #[agg #[int .i64 k,int .i64 l,int .i64 m],int .i64 n,int .i64 o,bool p])∧
 ∀q,q=j.alloc (.cells #[int .i64 0,int .i64 0,int .i64 0] 378)→
 aB q (nb j) (fun r=>
 ac (!p)
 (R (tuple #[]) r)
 (∃s t u,(r.cell? (nb j)=some (int .i64 s)∧r.cell? ((nb j).add 1)=some (int .i64 t)∧r.cell? ((nb j).add 2)=some (int .i64 u)∧True)∧
 CP 273 #[pointer a,agg #[int .i64 s,int .i64 t,int .i64 u]] r (fun x y=>
 ∃z,x= .returned (bool z)∧
 ac (!z)
 (∃a1,y.cell? ((nb j).add 0)=some (int .i64 a1)∧
 CP 274 #[pointer a,int .i64 a1,int .i64 n] y (fun b1 c1=>
 b1= .returned (tuple #[])∧
 d [] c1))
 (d [] y)))) [int .i64 k,int .i64 l,int .i64 m] 0)))→b [] c)→
 b [] w
theorem wk (a:OA) (w:World) (R:RW) (hh:NP a w R):CR 257 #[pointer a] w R:=
 aD (fn:=Tryz.f257) (by kernel_rfl) (by kernel_rfl) (by kernel_rfl) (by kernel_rfl) (by kernel_rfl) hh
def MQ (a:OA) (w:World) (R:RW):Prop:=
 ∀b:KW,(∀(c:Int) (d:OA) (f g:Nat) (h:World),(ac (c != (-1))
 (af a (fun i=>
 ∃j k l,h.cell? (i.add 1)=some (slice j k l)∧
 ac (decide (c< (k:Int)))
 (af a (fun m=>
 ∃n o p,h.cell? (m.add 1)=some (slice n o p)∧
 af n (fun q=>
 (0:Int)≤c∧c< (o:Int)∧
 ∃r,h.cell? ((q.add (c.toNat*3)).add 0)=some (int .i64 r)∧
 ∀s,s=h.alloc (.cells #[int .i64 r] 3)→
 ∃t u x y,(Builtin.append_ #[28,28] 28 #[slice d f g,slice (some (nb h)) 1 1]).run Tryz.prog s= .ok (slice t u x) y∧
 af a (fun z=>
 ∃a1 b1 c1,y.cell? (z.add 1)=some (slice a1 b1 c1)∧
 af a1 (fun d1=>
 (0:Int)≤c∧c< (b1:Int)∧
 ∃e1,y.cell? ((d1.add (c.toNat*3)).add 2)=some (int .i64 e1)∧
 b [int .i64 e1,slice t u x] y)))))
 (R (slice d f g) h)))
 (R (slice d f g) h))→b [int .i64 c,slice d f g] h)→
 b [int .i64 0,slice none 0 0] w
theorem zD (a:OA) (w:World) (R:RW) (hh:MQ a w R):CR 258 #[pointer a] w R:=
 aD (fn:=Tryz.f258) (by kernel_rfl) (by kernel_rfl) (by kernel_rfl) (by kernel_rfl) (by kernel_rfl) hh
def NM (a:OA) (w:World) (R:RW):Prop:=
 ∀b,b=w.drew→
 af a (fun c=>
 ∃d,b.cell? (c.add 2)=some (pointer d)∧
 af a (fun f=>
 ∃g,b.cell? (((f.add 0).add 0).add 0)=some (int .i64 g)∧
 af a (fun h=>
 ∃i,b.cell? (((h.add 0).add 0).add 1)=some (int .i64 i)∧
 CP 275 #[pointer d,int .i64 g,int .i64 i] b (fun j k=>
 ∃l m,j= .returned (tuple #[int .i64 l,bool m])∧
 ac m
 (af a (fun n=>
 ∃o,k.cell? (n.add 3)=some (int .i64 o)∧
 R (bool (decide (l<o))) k))
 (R (bool false) k)))))
theorem wF (a:OA) (w:World) (R:RW) (hh:NM a w R):CR 259 #[pointer a] w R:=
 aD (fn:=Tryz.f259) (by kernel_rfl) (by kernel_rfl) (by kernel_rfl) (by kernel_rfl) (by kernel_rfl) hh
def LO (a:OA) (w:World) (R:RW):Prop:=
 ∀b,b=w.drew→
 af a (fun c=>
 ∃d,b.cell? (((c.add 0).add 0).add 0)=some (int .i64 d)∧
 af a (fun f=>
 ∃g,b.cell? (((f.add 0).add 0).add 1)=some (int .i64 g)∧
 ac (decide (d>g))
 (CP 276 #[pointer a] b (fun h i=>
 ∃j,h= .returned (bool j)∧
 ac j
 (R (bool true) i)
 (CP 277 #[pointer a] i (fun k l=>
 ∃m,k= .returned (bool m)∧
 R (bool m) l))))
 (CP 277 #[pointer a] b (fun n o=>
 ∃p,n= .returned (bool p)∧
 ac p
 (R (bool true) o)
 (CP 276 #[pointer a] o (fun q r=>
 ∃s,q= .returned (bool s)∧
 R (bool s) r))))))
theorem xM (a:OA) (w:World) (R:RW) (hh:LO a w R):CR 260 #[pointer a] w R:=
 aD (fn:=Tryz.f260) (by kernel_rfl) (by kernel_rfl) (by kernel_rfl) (by kernel_rfl) (by kernel_rfl) hh
def Nc (w:World) (R:RW):Prop:=
 ∀a,a=w.alloc (.cells #[slice none 0 0,int .i64 0] 393)→
 R (pointer (some (nb w))) a
theorem xn (w:World) (R:RW) (hh:Nc w R):CR 270 #[] w R:=
 aD (fn:=Tryz.f270) (by kernel_rfl) (by kernel_rfl) (by kernel_rfl) (by kernel_rfl) (by kernel_rfl) hh
def Ng (a:OA) (b:Int) (w:World) (R:RW):Prop:=
 ac (b==(-1))
 (R (tuple #[]) w)
 (af a (fun c=>
 ∃d f g,w.cell? (c.add 1)=some (slice d f g)∧
 af d (fun h=>
 (0:Int)≤b∧b< (f:Int)∧
 ∃i,w.cell? ((h.add (b.toNat*3)).add 2)=some (int .i64 i)∧
 ac (i==(-1))
 (R (tuple #[]) w)
 (∀j,j=w.drew→
 af a (fun k=>
 ∃l m n,j.cell? (k.add 1)=some (slice l m n)∧
 af l (fun o=>
 (0:Int)≤b∧b< (m:Int)∧
 ∃p,j.cell? ((o.add (b.toNat*3)).add 0)=some (int .i64 p)∧
 af a (fun q=>
 ∃r s t,j.cell? (q.add 1)=some (slice r s t)∧
 af a (fun u=>
 ∃x y z,j.cell? (u.add 1)=some (slice x y z)∧
 af x (fun a1=>
 (0:Int)≤b∧b< (y:Int)∧
 ∃b1,j.cell? ((a1.add (b.toNat*3)).add 2)=some (int .i64 b1)∧
 af r (fun c1=>
 (0:Int)≤b1∧b1< (s:Int)∧
 ∃d1,j.cell? ((c1.add (b1.toNat*3)).add 0)=some (int .i64 d1)∧
 ∀e1,e1=j.alloc (.cells #[int .i64 0,int .i64 0] 118)→
 (e1.cell? ((c1.add (b1.toNat*3)).add 0)=some (int .i64 d1)∧True)∧
 (e1.cell? ((a1.add (b.toNat*3)).add 2)=some (int .i64 b1)∧True)∧
 (e1.cell? (u.add 1)=some (slice x y z)∧True)∧
 (e1.cell? (q.add 1)=some (slice r s t)∧True)∧
 (e1.cell? ((o.add (b.toNat*3)).add 0)=some (int .i64 p)∧True)∧
 (e1.cell? (k.add 1)=some (slice l m n)∧True)∧
 aB e1 (nb j) (fun f1=>
 ∀g1,g1=f1.drew→
 af a (fun h1=>
 ∃i1,g1.cell? (h1.add 0)=some (pointer i1)∧
 ∃j1,g1.cell? ((nb j).add 0)=some (int .i64 j1)∧
 ∃k1,g1.cell? ((nb j).add 1)=some (int .i64 k1)∧
 CP 275 #[pointer i1,int .i64 j1,int .i64 k1] g1 (fun l1 m1=>
 ∃n1 o1,l1= .returned (tuple #[int .i64 n1,bool o1])∧
 ac o1
 (af a (fun p1=>
 ∃q1,m1.cell? (p1.add 3)=some (int .i64 q1)∧
 ac (decide (n1<q1))
 (∀r1,r1=m1.drew→
 af a (fun s1=>
 ∃t1,r1.cell? (s1.add 2)=some (pointer t1)∧
 ∃u1 v1,(r1.cell? (nb j)=some (int .i64 u1)∧r1.cell? ((nb j).add 1)=some (int .i64 v1)∧True)∧
 CP 285 #[pointer t1,int .i64 n1,int .i64 b,agg #[int .i64 b,int .i64 u1,int .i64 v1]] r1 (fun x1 y1=>
 x1= .returned (tuple #[])∧
 R (tuple #[]) y1)))
 (R (tuple #[]) m1)))
 (R (tuple #[]) m1)))) [int .i64 p,int .i64 d1] 0))))))))))
theorem ww (a:OA) (b:Int) (w:World) (R:RW) (hh:Ng a b w R):CR 271 #[pointer a,int .i64 b] w R:=
 aD (fn:=Tryz.f271) (by kernel_rfl) (by kernel_rfl) (by kernel_rfl) (by kernel_rfl) (by kernel_rfl) hh
def Mv (a:OA) (w:World) (R:RW):Prop:=
 ∀b,b=w.alloc (.cells #[int .i64 0,int .i64 0,int .i64 0] 378)→
 CP 286 #[pointer a] b (fun c d=>
 ∃f g h i j k,c= .returned (tuple #[agg #[int .i64 f,int .i64 g,int .i64 h],int .i64 i,int .i64 j,bool k])∧
 ∀l,l=d.alloc (.cells #[int .i64 0,int .i64 0,int .i64 0] 378)→
 aB l (nb d) (fun m=>
 ∀n:KW,(∀o:World,(∃p q r,(o.cell? (nb d)=some (int .i64 p)∧o.cell? ((nb d).add 1)=some (int .i64 q)∧o.cell? ((nb d).add 2)=some (int .i64 r)∧True)∧
 aB o (nb w) (fun s=>
 ∃t x y,(s.cell? (nb w)=some (int .i64 t)∧s.cell? ((nb w).add 1)=some (int .i64 x)∧s.cell? ((nb w).add 2)=some (int .i64 y)∧True)∧
 R (tuple #[agg #[int .i64 t,int .i64 x,int .i64 y],int .i64 i,int .i64 j,bool k]) s) [int .i64 p,int .i64 q,int .i64 r] 0)→n [] o)→
 ac k
 (af a (fun z=>
 ∃a1 b1 c1,m.cell? (z.add 0)=some (slice a1 b1 c1)∧
 Ar .i64 ((b1:Int)-1) (fun d1=>
 CP 287 #[pointer a,int .i64 0,int .i64 d1] m (fun e1 f1=>
 e1= .returned (tuple #[])∧
 af a (fun g1=>
 ∃h1 i1 j1,f1.cell? (g1.add 0)=some (slice h1 i1 j1)∧
 (0:Int)≤(0:Int)∧(0:Int)≤d1∧d1≤(j1:Int)∧True∧True∧
 af a (fun k1=>
 (slice (bh h1 (0:Int).toNat (j1:Int).toNat 6) (d1.toNat- (0:Int).toNat) ((j1:Int).toNat- (0:Int).toNat)).oneCell'=true∧(∃u,f1.cell? (k1.add 0)=some u)∧f1.frozen? (k1.add 0)=false∧
 ∀l1,l1=(f1.setCell (k1.add 0) (slice (bh h1 (0:Int).toNat (j1:Int).toNat 6) (d1.toNat- (0:Int).toNat) ((j1:Int).toNat- (0:Int).toNat)))→
 CP 288 #[pointer a,int .i64 0] l1 (fun m1 n1=>
 m1= .returned (tuple #[])∧
 n [] n1)))))))
 (n [] m)) [int .i64 f,int .i64 g,int .i64 h] 0)
theorem zJ (a:OA) (w:World) (R:RW) (hh:Mv a w R):CR 272 #[pointer a] w R:=
 aD (fn:=Tryz.f272) (by kernel_rfl) (by kernel_rfl) (by kernel_rfl) (by kernel_rfl) (by kernel_rfl) hh
def K8 (a:OA) (b c d:Int) (w:World) (R:RW):Prop:=
 ∀f,f=w.alloc (.cells #[int .i64 b,int .i64 c,int .i64 d] 378)→
 ∀g,g=f.drew→
 af a (fun h=>
 ∃i j k,g.cell? (h.add 1)=some (slice i j k)∧
 ∃l,g.cell? ((nb w).add 0)=some (int .i64 l)∧
 af i (fun m=>
 (0:Int)≤l∧l< (j:Int)∧
 ∃n o p,(g.cell? (m.add (l.toNat*3))=some (int .i64 n)∧g.cell? ((m.add (l.toNat*3)).add 1)=some (int .i64 o)∧g.cell? ((m.add (l.toNat*3)).add 2)=some (int .i64 p)∧True)∧
 ∀q,q=g.alloc (.cells #[int .i64 0,int .i64 0,int .i64 0] 383)→
 (q.cell? (m.add (l.toNat*3))=some (int .i64 n)∧q.cell? ((m.add (l.toNat*3)).add 1)=some (int .i64 o)∧q.cell? ((m.add (l.toNat*3)).add 2)=some (int .i64 p)∧True)∧
 (q.cell? ((nb w).add 0)=some (int .i64 l)∧True)∧
 (q.cell? (h.add 1)=some (slice i j k)∧True)∧
 aB q (nb g) (fun r=>
 ∀s,s=r.drew→
 ∃t,s.cell? ((nb g).add 0)=some (int .i64 t)∧
 ∃u,s.cell? (((nb w).add 1).add 0)=some (int .i64 u)∧
 ac (t != u)
 (R (bool true) s)
 (∃x,s.cell? ((nb g).add 2)=some (int .i64 x)∧
 ac (x==(-1))
 (R (bool true) s)
 (af a (fun y=>
 ∃z a1 b1,s.cell? (y.add 1)=some (slice z a1 b1)∧
 ∃c1,s.cell? ((nb g).add 2)=some (int .i64 c1)∧
 af z (fun d1=>
 (0:Int)≤c1∧c1< (a1:Int)∧
 ∃e1,s.cell? ((d1.add (c1.toNat*3)).add 0)=some (int .i64 e1)∧
 ∃f1,s.cell? (((nb w).add 1).add 1)=some (int .i64 f1)∧
 R (bool (e1 != f1)) s))))) [int .i64 n,int .i64 o,int .i64 p] 0))
theorem wt (a:OA) (b c d:Int) (w:World) (R:RW) (hh:K8 a b c d w R):CR 273 #[pointer a,agg #[int .i64 b,int .i64 c,int .i64 d]] w R:=
 aD (fn:=Tryz.f273) (by kernel_rfl) (by kernel_rfl) (by kernel_rfl) (by kernel_rfl) (by kernel_rfl) hh
def Lw (a:OA) (b c:Int) (w:World) (R:RW):Prop:=
 af a (fun d=>
 ∃f g h,w.cell? (d.add 1)=some (slice f g h)∧
 af f (fun i=>
 (0:Int)≤b∧b< (g:Int)∧
 ∃j,w.cell? ((i.add (b.toNat*3)).add 2)=some (int .i64 j)∧
 af a (fun k=>
 ∃l m n,w.cell? (k.add 1)=some (slice l m n)∧
 af l (fun o=>
 (0:Int)≤j∧j< (m:Int)∧
 ∃p,w.cell? ((o.add (j.toNat*3)).add 2)=some (int .i64 p)∧
 af a (fun q=>
 ∃r s t,w.cell? (q.add 1)=some (slice r s t)∧
 af r (fun x=>
 (0:Int)≤j∧j< (s:Int)∧
 (int .i64 (-2)).oneCell'=true∧(∃u,w.cell? ((x.add (j.toNat*3)).add 0)=some u)∧w.frozen? ((x.add (j.toNat*3)).add 0)=false∧
 ∀y,y=(w.setCell ((x.add (j.toNat*3)).add 0) (int .i64 (-2)))→
 ∀z,z=y.drew→
 af a (fun a1=>
 ∃b1 c1 d1,z.cell? (a1.add 1)=some (slice b1 c1 d1)∧
 af a (fun e1=>
 ∃f1 g1 h1,z.cell? (e1.add 1)=some (slice f1 g1 h1)∧
 af b1 (fun i1=>
 (0:Int)≤b∧b< (c1:Int)∧
 (int .i64 c).oneCell'=true∧(∃u,z.cell? ((i1.add (b.toNat*3)).add 0)=some u)∧z.frozen? ((i1.add (b.toNat*3)).add 0)=false∧
 ∀j1,j1=(z.setCell ((i1.add (b.toNat*3)).add 0) (int .i64 c))→
 af f1 (fun k1=>
 (0:Int)≤b∧b< (g1:Int)∧
 (int .i64 p).oneCell'=true∧(∃u,j1.cell? ((k1.add (b.toNat*3)).add 2)=some u)∧j1.frozen? ((k1.add (b.toNat*3)).add 2)=false∧
 ∀l1,l1=(j1.setCell ((k1.add (b.toNat*3)).add 2) (int .i64 p))→
 ∀m1:KW,(∀n1:World,(af a (fun o1=>
 ∃p1,n1.cell? (o1.add 4)=some (int .i64 p1)∧
 Ar .i64 (p1+1) (fun q1=>
 af a (fun r1=>
 (int .i64 q1).oneCell'=true∧(∃u,n1.cell? (r1.add 4)=some u)∧n1.frozen? (r1.add 4)=false∧
 ∀s1,s1=(n1.setCell (r1.add 4) (int .i64 q1))→
 af a (fun t1=>
 ∃u1 v1 x1,s1.cell? (t1.add 1)=some (slice u1 v1 x1)∧
 af u1 (fun y1=>
 (0:Int)≤b∧b< (v1:Int)∧
 ∃z1,s1.cell? ((y1.add (b.toNat*3)).add 1)=some (int .i64 z1)∧
 CP 271 #[pointer a,int .i64 z1] s1 (fun a2 b2=>
 a2= .returned (tuple #[])∧
 CP 271 #[pointer a,int .i64 b] b2 (fun c2 d2=>
 c2= .returned (tuple #[])∧
 R (tuple #[]) d2))))))))→m1 [] n1)→
 ac (p != (-1))
 (af a (fun e2=>
 ∃f2 g2 h2,l1.cell? (e2.add 1)=some (slice f2 g2 h2)∧
 af f2 (fun i2=>
 (0:Int)≤p∧p< (g2:Int)∧
 (int .i64 b).oneCell'=true∧(∃u,l1.cell? ((i2.add (p.toNat*3)).add 1)=some u)∧l1.frozen? ((i2.add (p.toNat*3)).add 1)=false∧
 ∀j2,j2=(l1.setCell ((i2.add (p.toNat*3)).add 1) (int .i64 b))→
 m1 [] j2)))
 (m1 [] l1)))))))))))
theorem yp (a:OA) (b c:Int) (w:World) (R:RW) (hh:Lw a b c w R):CR 274 #[pointer a,int .i64 b,int .i64 c] w R:=
 aD (fn:=Tryz.f274) (by kernel_rfl) (by kernel_rfl) (by kernel_rfl) (by kernel_rfl) (by kernel_rfl) hh
def Mn (a:OA) (b c:Int) (w:World) (R:RW):Prop:=
 ac (Option.isNone a)
 (R (tuple #[int .i64 0,bool false]) w)
 (af a (fun d=>
 ∃f,w.cell? (d.add 2)=some (map f)∧
 ∃g h i,(Instr.lookup 247 (map f) (agg #[int .i64 b,int .i64 c]) true).run Tryz.prog w= .ok (tuple #[int .i64 g,bool h]) i∧
 R (tuple #[int .i64 g,bool h]) i))
theorem xF (a:OA) (b c:Int) (w:World) (R:RW) (hh:Mn a b c w R):CR 275 #[pointer a,int .i64 b,int .i64 c] w R:=
 aD (fn:=Tryz.f275) (by kernel_rfl) (by kernel_rfl) (by kernel_rfl) (by kernel_rfl) (by kernel_rfl) hh
def LS (a:OA) (w:World) (R:RW):Prop:=
 ∀b,b=w.drew→
 af a (fun c=>
 ∃d,b.cell? (c.add 2)=some (pointer d)∧
 af a (fun f=>
 ∃g,b.cell? (((f.add 0).add 0).add 0)=some (int .i64 g)∧
 (CP 289 #[pointer d,int .i64 g] b (fun h i=>
 ∃j k l,h= .returned (tuple #[agg #[int .i64 j,int .i64 k],bool l])∧
 ∀m,m=i.alloc (.cells #[int .i64 0,int .i64 0] 118)→
 aB m (nb i) (fun n=>
 ∀o:KW,(∀p:World,(R (bool l) p)→o [] p)→
 ac l
 (∀q,q=n.drew→
 af a (fun r=>
 ∃s,q.cell? (((r.add 0).add 0).add 0)=some (int .i64 s)∧
 ∃t,q.cell? ((nb i).add 1)=some (int .i64 t)∧
 af a (fun x=>
 (int .i64 s).oneCell'=true∧(∃u,q.cell? (x.add 3)=some u)∧q.frozen? (x.add 3)=false∧
 ∀y,y=(q.setCell (x.add 3) (int .i64 s))→
 (y.cell? ((nb i).add 1)=some (int .i64 t)∧True)∧
 af a (fun z=>
 (int .i64 t).oneCell'=true∧(∃u,y.cell? (((z.add 0).add 0).add 0)=some u)∧y.frozen? (((z.add 0).add 0).add 0)=false∧
 ∀a1,a1=(y.setCell (((z.add 0).add 0).add 0) (int .i64 t))→
 af a (fun b1=>
 ∃c1,a1.cell? (b1.add 4)=some (int .i64 c1)∧
 Ar .i64 (c1+1) (fun d1=>
 af a (fun e1=>
 (int .i64 d1).oneCell'=true∧(∃u,a1.cell? (e1.add 4)=some u)∧a1.frozen? (e1.add 4)=false∧
 ∀f1,f1=(a1.setCell (e1.add 4) (int .i64 d1))→
 o [] f1)))))))
 (o [] n)) [int .i64 j,int .i64 k] 0))∧
 (∀g1,g1=b.alloc (.cells #[int .i64 0,int .i64 0] 118)→
 (g1.cell? (((f.add 0).add 0).add 0)=some (int .i64 g)∧True)∧
 (g1.cell? (c.add 2)=some (pointer d)∧True)∧
 CP 289 #[pointer d,int .i64 g] g1 (fun h1 i1=>
 ∃j1 k1 l1,h1= .returned (tuple #[agg #[int .i64 j1,int .i64 k1],bool l1])∧
 aB i1 (nb b) (fun m1=>
 ∀n1:KW,(∀o1:World,(R (bool l1) o1)→n1 [] o1)→
 ac l1
 (∀p1,p1=m1.drew→
 af a (fun q1=>
 ∃r1,p1.cell? (((q1.add 0).add 0).add 0)=some (int .i64 r1)∧
 ∃s1,p1.cell? ((nb b).add 1)=some (int .i64 s1)∧
 af a (fun t1=>
 (int .i64 r1).oneCell'=true∧(∃u,p1.cell? (t1.add 3)=some u)∧p1.frozen? (t1.add 3)=false∧
 ∀u1,u1=(p1.setCell (t1.add 3) (int .i64 r1))→
 (u1.cell? ((nb b).add 1)=some (int .i64 s1)∧True)∧
 af a (fun v1=>
 (int .i64 s1).oneCell'=true∧(∃u,u1.cell? (((v1.add 0).add 0).add 0)=some u)∧u1.frozen? (((v1.add 0).add 0).add 0)=false∧
 ∀x1,x1=(u1.setCell (((v1.add 0).add 0).add 0) (int .i64 s1))→
 af a (fun y1=>
 ∃z1,x1.cell? (y1.add 4)=some (int .i64 z1)∧
 Ar .i64 (z1+1) (fun a2=>
 af a (fun b2=>
 (int .i64 a2).oneCell'=true∧(∃u,x1.cell? (b2.add 4)=some u)∧x1.frozen? (b2.add 4)=false∧
 ∀c2,c2=(x1.setCell (b2.add 4) (int .i64 a2))→
 n1 [] c2)))))))
 (n1 [] m1)) [int .i64 j1,int .i64 k1] 0))))
theorem vr (a:OA) (w:World) (R:RW) (hh:LS a w R):CR 276 #[pointer a] w R:=
 aD (fn:=Tryz.f276) (by kernel_rfl) (by kernel_rfl) (by kernel_rfl) (by kernel_rfl) (by kernel_rfl) hh
def L1 (a:OA) (w:World) (R:RW):Prop:=
 ∀b,b=w.drew→
 af a (fun c=>
 ∃d,b.cell? (c.add 2)=some (pointer d)∧
 af a (fun f=>
 ∃g,b.cell? (((f.add 0).add 0).add 1)=some (int .i64 g)∧
 (CP 289 #[pointer d,int .i64 g] b (fun h i=>
 ∃j k l,h= .returned (tuple #[agg #[int .i64 j,int .i64 k],bool l])∧
 ∀m,m=i.alloc (.cells #[int .i64 0,int .i64 0] 118)→
 aB m (nb i) (fun n=>
 ∀o:KW,(∀p:World,(R (bool l) p)→o [] p)→
 ac l
 (∀q,q=n.drew→
 af a (fun r=>
 ∃s,q.cell? (((r.add 0).add 0).add 1)=some (int .i64 s)∧
 Ar .i64 (s+1) (fun t=>
 ∃x,q.cell? ((nb i).add 0)=some (int .i64 x)∧
 af a (fun y=>
 (int .i64 t).oneCell'=true∧(∃u,q.cell? (y.add 3)=some u)∧q.frozen? (y.add 3)=false∧
 ∀z,z=(q.setCell (y.add 3) (int .i64 t))→
 (z.cell? ((nb i).add 0)=some (int .i64 x)∧True)∧
 af a (fun a1=>
 (int .i64 x).oneCell'=true∧(∃u,z.cell? (((a1.add 0).add 0).add 1)=some u)∧z.frozen? (((a1.add 0).add 0).add 1)=false∧
 ∀b1,b1=(z.setCell (((a1.add 0).add 0).add 1) (int .i64 x))→
 af a (fun c1=>
 ∃d1,b1.cell? (c1.add 4)=some (int .i64 d1)∧
 Ar .i64 (d1+1) (fun e1=>
 af a (fun f1=>
 (int .i64 e1).oneCell'=true∧(∃u,b1.cell? (f1.add 4)=some u)∧b1.frozen? (f1.add 4)=false∧
 ∀g1,g1=(b1.setCell (f1.add 4) (int .i64 e1))→
 o [] g1))))))))
 (o [] n)) [int .i64 j,int .i64 k] 0))∧
 (∀h1,h1=b.alloc (.cells #[int .i64 0,int .i64 0] 118)→
 (h1.cell? (((f.add 0).add 0).add 1)=some (int .i64 g)∧True)∧
 (h1.cell? (c.add 2)=some (pointer d)∧True)∧
 CP 289 #[pointer d,int .i64 g] h1 (fun i1 j1=>
 ∃k1 l1 m1,i1= .returned (tuple #[agg #[int .i64 k1,int .i64 l1],bool m1])∧
 aB j1 (nb b) (fun n1=>
 ∀o1:KW,(∀p1:World,(R (bool m1) p1)→o1 [] p1)→
 ac m1
 (∀q1,q1=n1.drew→
 af a (fun r1=>
 ∃s1,q1.cell? (((r1.add 0).add 0).add 1)=some (int .i64 s1)∧
 Ar .i64 (s1+1) (fun t1=>
 ∃u1,q1.cell? ((nb b).add 0)=some (int .i64 u1)∧
 af a (fun v1=>
 (int .i64 t1).oneCell'=true∧(∃u,q1.cell? (v1.add 3)=some u)∧q1.frozen? (v1.add 3)=false∧
 ∀x1,x1=(q1.setCell (v1.add 3) (int .i64 t1))→
 (x1.cell? ((nb b).add 0)=some (int .i64 u1)∧True)∧
 af a (fun y1=>
 (int .i64 u1).oneCell'=true∧(∃u,x1.cell? (((y1.add 0).add 0).add 1)=some u)∧x1.frozen? (((y1.add 0).add 0).add 1)=false∧
 ∀z1,z1=(x1.setCell (((y1.add 0).add 0).add 1) (int .i64 u1))→
 af a (fun a2=>
 ∃b2,z1.cell? (a2.add 4)=some (int .i64 b2)∧
 Ar .i64 (b2+1) (fun c2=>
 af a (fun d2=>
 (int .i64 c2).oneCell'=true∧(∃u,z1.cell? (d2.add 4)=some u)∧z1.frozen? (d2.add 4)=false∧
 ∀e2,e2=(z1.setCell (d2.add 4) (int .i64 c2))→
 o1 [] e2))))))))
 (o1 [] n1)) [int .i64 k1,int .i64 l1] 0))))
theorem zQ (a:OA) (w:World) (R:RW) (hh:L1 a w R):CR 277 #[pointer a] w R:=
 aD (fn:=Tryz.f277) (by kernel_rfl) (by kernel_rfl) (by kernel_rfl) (by kernel_rfl) (by kernel_rfl) hh
def M1 (a:OA) (b c d f g:Int) (w:World) (R:RW):Prop:=
 ∀h,h=w.alloc (.cells #[int .i64 d,int .i64 f,int .i64 g] 378)→
 ac (Option.isNone a)
 (R (tuple #[]) h)
 (∀i,i=h.drew→
 af a (fun j=>
 ∃k l m,i.cell? (j.add 0)=some (slice k l m)∧
 af a (fun n=>
 ∃o,i.cell? (n.add 1)=some (int .i64 o)∧
 ∃p q r,(i.cell? (nb w)=some (int .i64 p)∧i.cell? ((nb w).add 1)=some (int .i64 q)∧i.cell? ((nb w).add 2)=some (int .i64 r)∧True)∧
 ∀s,s=i.alloc (.cells #[int .i64 b,int .i64 c,int .i64 o,int .i64 p,int .i64 q,int .i64 r] 399)→
 (s.cell? (j.add 0)=some (slice k l m)∧True)∧
 ∃t x y z,(Builtin.append_ #[391,391] 391 #[slice k l m,slice (some (nb i)) 1 1]).run Tryz.prog s= .ok (slice t x y) z∧
 af a (fun a1=>
 (slice t x y).oneCell'=true∧(∃u,z.cell? (a1.add 0)=some u)∧z.frozen? (a1.add 0)=false∧
 ∀b1,b1=(z.setCell (a1.add 0) (slice t x y))→
 af a (fun c1=>
 ∃d1,b1.cell? (c1.add 1)=some (int .i64 d1)∧
 Ar .i64 (d1+1) (fun e1=>
 af a (fun f1=>
 (int .i64 e1).oneCell'=true∧(∃u,b1.cell? (f1.add 1)=some u)∧b1.frozen? (f1.add 1)=false∧
 ∀g1,g1=(b1.setCell (f1.add 1) (int .i64 e1))→
 af a (fun h1=>
 ∃i1 j1 k1,g1.cell? (h1.add 0)=some (slice i1 j1 k1)∧
 Ar .i64 ((j1:Int)-1) (fun l1=>
 CP 290 #[pointer a,int .i64 l1] g1 (fun m1 n1=>
 m1= .returned (tuple #[])∧
 R (tuple #[]) n1))))))))))
theorem vp (a:OA) (b c d f g:Int) (w:World) (R:RW) (hh:M1 a b c d f g w R):CR 285 #[pointer a,int .i64 b,int .i64 c,agg #[int .i64 d,int .i64 f,int .i64 g]] w R:=
 aD (fn:=Tryz.f285) (by kernel_rfl) (by kernel_rfl) (by kernel_rfl) (by kernel_rfl) (by kernel_rfl) hh
def N0 (a:OA) (w:World) (R:RW):Prop:=
 ∀b,b=w.alloc (.cells #[int .i64 0,int .i64 0,int .i64 0] 378)→
 CP 291 #[pointer a] b (fun c d=>
 ∃f,c= .returned (int .i64 f)∧
 ac (f==0)
 (∀g,g=d.alloc (.cells #[int .i64 0,int .i64 0,int .i64 0] 378)→
 ∃h i j,(g.cell? (nb d)=some (int .i64 h)∧g.cell? ((nb d).add 1)=some (int .i64 i)∧g.cell? ((nb d).add 2)=some (int .i64 j)∧True)∧
 aB g (nb w) (fun k=>
 ∃l m n,(k.cell? (nb w)=some (int .i64 l)∧k.cell? ((nb w).add 1)=some (int .i64 m)∧k.cell? ((nb w).add 2)=some (int .i64 n)∧True)∧
 R (tuple #[agg #[int .i64 l,int .i64 m,int .i64 n],int .i64 0,int .i64 0,bool false]) k) [int .i64 h,int .i64 i,int .i64 j] 0)
 (af a (fun o=>
 ∃p q r,d.cell? (o.add 0)=some (slice p q r)∧
 af p (fun s=>
 (0:Int)≤0∧0< (q:Int)∧
 ∃t u x y z a1,(d.cell? (s.add ((0:Int).toNat*6))=some (int .i64 t)∧d.cell? ((s.add ((0:Int).toNat*6)).add 1)=some (int .i64 u)∧d.cell? ((s.add ((0:Int).toNat*6)).add 2)=some (int .i64 x)∧d.cell? ((s.add ((0:Int).toNat*6)).add 3)=some (int .i64 y)∧d.cell? ((s.add ((0:Int).toNat*6)).add 4)=some (int .i64 z)∧d.cell? ((s.add ((0:Int).toNat*6)).add 5)=some (int .i64 a1)∧True)∧
 ∀b1,b1=d.alloc (.cells #[int .i64 0,int .i64 0,int .i64 0,int .i64 0,int .i64 0,int .i64 0] 399)→
 aB b1 (nb d) (fun c1=>
 ∀d1,d1=c1.drew→
 ∃e1 f1 g1,(d1.cell? ((nb d).add 3)=some (int .i64 e1)∧d1.cell? (((nb d).add 3).add 1)=some (int .i64 f1)∧d1.cell? (((nb d).add 3).add 2)=some (int .i64 g1)∧True)∧
 ∃h1,d1.cell? (((nb d).add 0).add 0)=some (int .i64 h1)∧
 ∃i1,d1.cell? (((nb d).add 0).add 1)=some (int .i64 i1)∧
 aB d1 (nb w) (fun j1=>
 (j1.cell? (((nb d).add 0).add 1)=some (int .i64 i1)∧True)∧
 (j1.cell? (((nb d).add 0).add 0)=some (int .i64 h1)∧True)∧
 ∃k1 l1 m1,(j1.cell? (nb w)=some (int .i64 k1)∧j1.cell? ((nb w).add 1)=some (int .i64 l1)∧j1.cell? ((nb w).add 2)=some (int .i64 m1)∧True)∧
 R (tuple #[agg #[int .i64 k1,int .i64 l1,int .i64 m1],int .i64 h1,int .i64 i1,bool true]) j1) [int .i64 e1,int .i64 f1,int .i64 g1] 0) [int .i64 t,int .i64 u,int .i64 x,int .i64 y,int .i64 z,int .i64 a1] 0))))
theorem wg (a:OA) (w:World) (R:RW) (hh:N0 a w R):CR 286 #[pointer a] w R:=
 aD (fn:=Tryz.f286) (by kernel_rfl) (by kernel_rfl) (by kernel_rfl) (by kernel_rfl) (by kernel_rfl) hh
def MW (a:OA) (b c:Int) (w:World) (R:RW):Prop:=
 ∀d,d=w.drew→
 af a (fun f=>
 ∃g h i,d.cell? (f.add 0)=some (slice g h i)∧
 af a (fun j=>
 ∃k l m,d.cell? (j.add 0)=some (slice k l m)∧
 af a (fun n=>
 ∃o p q,d.cell? (n.add 0)=some (slice o p q)∧
 af o (fun r=>
 (0:Int)≤c∧c< (p:Int)∧
 ∃s t u x y z,(d.cell? (r.add (c.toNat*6))=some (int .i64 s)∧d.cell? ((r.add (c.toNat*6)).add 1)=some (int .i64 t)∧d.cell? ((r.add (c.toNat*6)).add 2)=some (int .i64 u)∧d.cell? ((r.add (c.toNat*6)).add 3)=some (int .i64 x)∧d.cell? ((r.add (c.toNat*6)).add 4)=some (int .i64 y)∧d.cell? ((r.add (c.toNat*6)).add 5)=some (int .i64 z)∧True)∧
 af a (fun a1=>
 ∃b1 c1 d1,d.cell? (a1.add 0)=some (slice b1 c1 d1)∧
 af b1 (fun e1=>
 (0:Int)≤b∧b< (c1:Int)∧
 ∃f1 g1 h1 i1 j1 k1,(d.cell? (e1.add (b.toNat*6))=some (int .i64 f1)∧d.cell? ((e1.add (b.toNat*6)).add 1)=some (int .i64 g1)∧d.cell? ((e1.add (b.toNat*6)).add 2)=some (int .i64 h1)∧d.cell? ((e1.add (b.toNat*6)).add 3)=some (int .i64 i1)∧d.cell? ((e1.add (b.toNat*6)).add 4)=some (int .i64 j1)∧d.cell? ((e1.add (b.toNat*6)).add 5)=some (int .i64 k1)∧True)∧
 af g (fun l1=>
 (0:Int)≤b∧b< (h:Int)∧
 aB d (l1.add (b.toNat*6)) (fun m1=>
 af k (fun n1=>
 (0:Int)≤c∧c< (l:Int)∧
 aB m1 (n1.add (c.toNat*6)) (fun o1=>
 R (tuple #[]) o1) [int .i64 f1,int .i64 g1,int .i64 h1,int .i64 i1,int .i64 j1,int .i64 k1] 0)) [int .i64 s,int .i64 t,int .i64 u,int .i64 x,int .i64 y,int .i64 z] 0)))))))
theorem wY (a:OA) (b c:Int) (w:World) (R:RW) (hh:MW a b c w R):CR 287 #[pointer a,int .i64 b,int .i64 c] w R:=
 aD (fn:=Tryz.f287) (by kernel_rfl) (by kernel_rfl) (by kernel_rfl) (by kernel_rfl) (by kernel_rfl) hh
def K6 (a:OA) (b:Int) (w:World) (R:RW):Prop:=
 ∀c:KW,(∀(d:Int) (f:World),(Ar .i64 ((2:Int)*d) (fun g=>
 Ar .i64 (g+1) (fun h=>
 Ar .i64 ((2:Int)*d) (fun i=>
 Ar .i64 (i+2) (fun j=>
 ∀k:KW,(∀(l m:Int) (n:World),(ac (decide (l<2))
 (∀o:KW,(∀(p:Int) (q:World),(Ar .i64 (l+1) (fun r=>
 k [int .i64 r,int .i64 p] q))→o [int .i64 p] q)→
 ∃s t,(Instr.index 400 (agg #[int .i64 h,int .i64 j]) (int .i64 l)).run Tryz.prog n= .ok (int .i64 s) t∧
 ∀u,u=t.drew→
 af a (fun x=>
 ∃y z a1,u.cell? (x.add 0)=some (slice y z a1)∧
 ac (decide (s< (z:Int)))
 (af a (fun b1=>
 ∃c1 d1 e1,u.cell? (b1.add 0)=some (slice c1 d1 e1)∧
 af c1 (fun f1=>
 (0:Int)≤s∧s< (d1:Int)∧
 ∃g1 h1 i1,(u.cell? ((f1.add (s.toNat*6)).add 0)=some (int .i64 g1)∧u.cell? (((f1.add (s.toNat*6)).add 0).add 1)=some (int .i64 h1)∧u.cell? (((f1.add (s.toNat*6)).add 0).add 2)=some (int .i64 i1)∧True)∧
 af a (fun j1=>
 ∃k1 l1 m1,u.cell? (j1.add 0)=some (slice k1 l1 m1)∧
 af k1 (fun n1=>
 (0:Int)≤m∧m< (l1:Int)∧
 ∃o1 p1 q1,(u.cell? ((n1.add (m.toNat*6)).add 0)=some (int .i64 o1)∧u.cell? (((n1.add (m.toNat*6)).add 0).add 1)=some (int .i64 p1)∧u.cell? (((n1.add (m.toNat*6)).add 0).add 2)=some (int .i64 q1)∧True)∧
 CP 292 #[agg #[int .i64 g1,int .i64 h1,int .i64 i1],agg #[int .i64 o1,int .i64 p1,int .i64 q1]] u (fun r1 s1=>
 ∃t1,r1= .returned (bool t1)∧
 ac t1
 (o [int .i64 s] s1)
 (o [int .i64 m] s1)))))))
 (o [int .i64 m] u)))
 (ac (m==d)
 (R (tuple #[]) n)
 (CP 287 #[pointer a,int .i64 d,int .i64 m] n (fun u1 v1=>
 u1= .returned (tuple #[])∧
 c [int .i64 m] v1))))→k [int .i64 l,int .i64 m] n)→
 k [int .i64 0,int .i64 d] f)))))→c [int .i64 d] f)→
 c [int .i64 b] w
theorem wn (a:OA) (b:Int) (w:World) (R:RW) (hh:K6 a b w R):CR 288 #[pointer a,int .i64 b] w R:=
 aD (fn:=Tryz.f288) (by kernel_rfl) (by kernel_rfl) (by kernel_rfl) (by kernel_rfl) (by kernel_rfl) hh
def Mj (a:OA) (b:Int) (w:World) (R:RW):Prop:=
 ∀c,c=w.alloc (.cells #[int .i64 0,int .i64 0] 118)→
 CP 174 #[pointer a,int .i64 b] c (fun d f=>
 ∃g,d= .returned (bool g)∧
 ac (!g)
 (aB f (nb w) (fun h=>
 ∃i j,(h.cell? (nb w)=some (int .i64 i)∧h.cell? ((nb w).add 1)=some (int .i64 j)∧True)∧
 R (tuple #[agg #[int .i64 i,int .i64 j],bool false]) h) [int .i64 0,int .i64 0] 0)
 (af a (fun k=>
 ∃l m n,f.cell? (k.add 0)=some (slice l m n)∧
 af l (fun o=>
 (0:Int)≤b∧b< (m:Int)∧
 ∃p q,(f.cell? ((o.add (b.toNat*3)).add 1)=some (int .i64 p)∧f.cell? (((o.add (b.toNat*3)).add 1).add 1)=some (int .i64 q)∧True)∧
 ac ((p== -1)&&((q== -1)&&(true)))
 (aB f (nb w) (fun r=>
 ∃s t,(r.cell? (nb w)=some (int .i64 s)∧r.cell? ((nb w).add 1)=some (int .i64 t)∧True)∧
 R (tuple #[agg #[int .i64 s,int .i64 t],bool false]) r) [int .i64 0,int .i64 0] 0)
 (af a (fun u=>
 ∃x y z,f.cell? (u.add 0)=some (slice x y z)∧
 af x (fun a1=>
 (0:Int)≤b∧b< (y:Int)∧
 ∃b1 c1,(f.cell? ((a1.add (b.toNat*3)).add 1)=some (int .i64 b1)∧f.cell? (((a1.add (b.toNat*3)).add 1).add 1)=some (int .i64 c1)∧True)∧
 aB f (nb w) (fun d1=>
 ∃e1 f1,(d1.cell? (nb w)=some (int .i64 e1)∧d1.cell? ((nb w).add 1)=some (int .i64 f1)∧True)∧
 R (tuple #[agg #[int .i64 e1,int .i64 f1],bool true]) d1) [int .i64 b1,int .i64 c1] 0)))))))
theorem zE (a:OA) (b:Int) (w:World) (R:RW) (hh:Mj a b w R):CR 289 #[pointer a,int .i64 b] w R:=
 aD (fn:=Tryz.f289) (by kernel_rfl) (by kernel_rfl) (by kernel_rfl) (by kernel_rfl) (by kernel_rfl) hh
def Nu (a:OA) (b:Int) (w:World) (R:RW):Prop:=
 ∀c:KW,(∀(d:Int) (f:World),(ac (decide (d>0))
 (Ar .i64 (d-1) (fun g=>
 (2:Int)≠0∧
 ∀h,h=f.drew→
 af a (fun i=>
 ∃j k l,h.cell? (i.add 0)=some (slice j k l)∧
 af j (fun m=>
 (0:Int)≤d∧d< (k:Int)∧
 ∃n o p,(h.cell? ((m.add (d.toNat*6)).add 0)=some (int .i64 n)∧h.cell? (((m.add (d.toNat*6)).add 0).add 1)=some (int .i64 o)∧h.cell? (((m.add (d.toNat*6)).add 0).add 2)=some (int .i64 p)∧True)∧
 af a (fun q=>
 ∃r s t,h.cell? (q.add 0)=some (slice r s t)∧
 af r (fun u=>
 (0:Int)≤(IntKind.wrap .i64 (Int.tdiv g 2))∧(IntKind.wrap .i64 (Int.tdiv g 2)) < (s:Int)∧
 ∃x y z,(h.cell? ((u.add ((IntKind.wrap .i64 (Int.tdiv g 2):Int).toNat*6)).add 0)=some (int .i64 x)∧h.cell? (((u.add ((IntKind.wrap .i64 (Int.tdiv g 2):Int).toNat*6)).add 0).add 1)=some (int .i64 y)∧h.cell? (((u.add ((IntKind.wrap .i64 (Int.tdiv g 2):Int).toNat*6)).add 0).add 2)=some (int .i64 z)∧True)∧
 CP 292 #[agg #[int .i64 n,int .i64 o,int .i64 p],agg #[int .i64 x,int .i64 y,int .i64 z]] h (fun a1 b1=>
 ∃c1,a1= .returned (bool c1)∧
 ac (!c1)
 (R (tuple #[]) b1)
 (CP 287 #[pointer a,int .i64 d,int .i64 (IntKind.wrap .i64 (Int.tdiv g 2))] b1 (fun d1 e1=>
 d1= .returned (tuple #[])∧
 c [int .i64 (IntKind.wrap .i64 (Int.tdiv g 2))] e1)))))))))
 (R (tuple #[]) f))→c [int .i64 d] f)→
 c [int .i64 b] w
theorem wy (a:OA) (b:Int) (w:World) (R:RW) (hh:Nu a b w R):CR 290 #[pointer a,int .i64 b] w R:=
 aD (fn:=Tryz.f290) (by kernel_rfl) (by kernel_rfl) (by kernel_rfl) (by kernel_rfl) (by kernel_rfl) hh
def L7 (a:OA) (w:World) (R:RW):Prop:=
 ac (Option.isNone a)
 (R (int .i64 0) w)
 (af a (fun b=>
 ∃c d f,w.cell? (b.add 0)=some (slice c d f)∧
 R (int .i64 (d:Int)) w))
theorem vD (a:OA) (w:World) (R:RW) (hh:L7 a w R):CR 291 #[pointer a] w R:=
 aD (fn:=Tryz.f291) (by kernel_rfl) (by kernel_rfl) (by kernel_rfl) (by kernel_rfl) (by kernel_rfl) hh
def Nl (a b c d f g:Int) (w:World) (R:RW):Prop:=
 ∀h,h=w.alloc (.cells #[int .i64 a,int .i64 b,int .i64 c] 397)→
 ∀i,i=h.alloc (.cells #[int .i64 d,int .i64 f,int .i64 g] 397)→
 ∃j,i.cell? ((nb w).add 0)=some (int .i64 j)∧
 ∃k,i.cell? ((nb h).add 0)=some (int .i64 k)∧
 ac (j != k)
 (∃l,i.cell? ((nb w).add 0)=some (int .i64 l)∧
 ∃m,i.cell? ((nb h).add 0)=some (int .i64 m)∧
 R (bool (decide (l<m))) i)
 (∃n,i.cell? ((nb w).add 1)=some (int .i64 n)∧
 ∃o,i.cell? ((nb h).add 1)=some (int .i64 o)∧
 ac (n != o)
 (∃p,i.cell? ((nb w).add 1)=some (int .i64 p)∧
 ∃q,i.cell? ((nb h).add 1)=some (int .i64 q)∧
 R (bool (decide (p<q))) i)
 (∃r,i.cell? ((nb w).add 2)=some (int .i64 r)∧
 ∃s,i.cell? ((nb h).add 2)=some (int .i64 s)∧
 R (bool (decide (r<s))) i))
theorem xg (a b c d f g:Int) (w:World) (R:RW) (hh:Nl a b c d f g w R):CR 292 #[agg #[int .i64 a,int .i64 b,int .i64 c],agg #[int .i64 d,int .i64 f,int .i64 g]] w R:=
 aD (fn:=Tryz.f292) (by kernel_rfl) (by kernel_rfl) (by kernel_rfl) (by kernel_rfl) (by kernel_rfl) hh
set_option linter.unusedSimpArgs false
open Go Go.RowKit
theorem aR {P:Program} {f:FuncId} {args:Array Value} {w:World} {R:Value→World→Prop} {R':Ending→World→Prop} (h:Calls P f args w fun e w'=>∃v,e= .returned v∧R v w') (hr:∀v w',R v w'→R' (.returned v) w'):Calls P f args w R':=
 h.mono fun e w' ⟨v,he,h⟩=>by subst he;exact hr v w' h
theorem aL {P:Program} {f:FuncId} {args:Array Value} {w:World} {V:(Value→World→Prop)→Prop} {R':Ending→World→Prop} (h:∀R,V R→Calls P f args w fun e w'=>∃v,e= .returned v∧R v w') (hv:V fun v w'=>R' (.returned v) w'):Calls P f args w R':=
 (h _ hv).mono fun e w' ⟨v,he,h⟩=>by subst he;exact h
theorem av (w:World) (o:Obj):(w.alloc o).heap.size=w.heap.size+1:=by
 show(w.heap.push o).size=_;simp
theorem fc (w:World) (o:Obj) {k:Nat} (h:k<w.heap.size):(w.alloc o).heap[k]? =w.heap[k]? :=by
 show(w.heap.push o)[k]? =_;simp [Array.getElem?_push,Nat.ne_of_lt h]
theorem ak (w:World) (o:Obj):(w.alloc o).heap[w.heap.size]? =some o:=by
 show(w.heap.push o)[w.heap.size]? =_;simp
theorem aY (w:World) (c:Array Value) (e:TypeId) (j:Nat):(w.alloc (.cells c e)).cell? ⟨w.heap.size,j,none⟩=c[j]? :=by
 simp only [World.cell?,ak];rfl
theorem aM {w:World} {b j:Nat} {c:Array Value} {e:TypeId} {fz:Nat×Nat} (h:w.heap[b]? =some (.cells c e fz)):w.cell? ⟨b,j,none⟩=c[j]? :=by
 simp only [World.cell?,h];rfl
theorem bo {w:World} {b j:Nat} {c:Array Value} {e:TypeId} (h:w.heap[b]? =some (.cells c e (0,0))):w.frozen? ⟨b,j,none⟩=false:=by
 simp [World.frozen?,h]
theorem bD {w:World} {b j:Nat} {c:Array Value} {e:TypeId} {fz:Nat×Nat} (h:w.heap[b]? =some (.cells c e fz)) (u:Value):(w.setCell ⟨b,j,none⟩ u).heap[b]? =some (.cells (c.setIfInBounds j u) e fz):=by
 simp [World.setCell,Array.getElem?_modify,h]
theorem ft {b:Nat} {e:TypeId} {k:World→Prop}:∀(vs:List Value) (i:Nat) (w:World) (c:Array Value) (o:Nat),w.heap[b]? =some (.cells c e (0,0))→o+i+vs.length≤c.size→(∀v∈vs,v.oneCell'=true)→
  (∀w',w'.heap[b]? =some (.cells (ir c.toList (o+i) vs).toArray e (0,0))→(∀j,j≠b→w'.heap[j]? =w.heap[j]?)→w'.heap.size=w.heap.size→(∀B w0,B≤b→Below B w0 w→Below B w0 w')→k w')→aB w ⟨b,o,none⟩ k vs i
 | [],i,w,c,o,h,hl,h1,hk=>by
  rintro w' rfl;exact hk w' (by simpa [ir]using h) (fun _ _=>rfl) rfl (fun _ _ _ h=>h)
 |v::r,i,w,c,o,h,hl,h1,hk=>by
  simp only [List.length_cons]at hl;have ha:(⟨b,o,none⟩:Addr).add i=⟨b,o+i,none⟩:=Addr.add_lit b o i;have hi:o+i<c.size:=by omega
  refine⟨h1 v (by simp),?_,?_,?_⟩
  ·rw [ha,aM h];exact⟨c[o+i],by simp [hi]⟩
  ·rw [ha];exact bo h
  rw [ha];refine ft r (i+1) _ (c.setIfInBounds (o+i) v) o (bD h v) (by simp;omega) (fun u hu=>h1 u (by simp [hu])) ?_;intro w' hw hne hsz hB;refine hk w' ?_ (fun j hj=>(hne j hj).trans (Below.heap_setCell w ⟨b,o+i,none⟩ v j hj)) (by rw [hsz];simp [World.setCell]) (fun B w0 hb hBel=>hB B w0 hb (hBel.setCell (p:=⟨b,o+i,none⟩) hb v));rw [hw];congr 2;have hi':o+i<c.toList.length:=by simp;omega
  simp only [ir,Array.toList_setIfInBounds,List.length_cons,List.set_eq_take_append_cons_drop,hi',if_true];have hlen:(c.toList.take (o+i)).length=o+i:=by rw [List.length_take];omega
  rw [show o+(i+1)=(c.toList.take (o+i)).length+1 from by omega,List.take_length_add_append,show(c.toList.take (o+i)).length+1+r.length=(c.toList.take (o+i)).length+(1+r.length)from by omega,List.drop_length_add_append];rw [Nat.add_comm 1 r.length];simp only [List.drop_succ_cons,List.drop_drop,List.take_succ_cons,List.take_zero,List.append_assoc,List.cons_append,List.nil_append];rw [show o+i+1+r.length=o+i+(r.length+1)from by omega]
theorem aT {w:World} {e:TypeId} {k:World→Prop} (z vs:List Value) (hz:z.length=vs.length) (h1:∀v∈vs,v.oneCell'=true) (w1:World) (hw:w1=w.alloc (.cells z.toArray e))
  (hk:∀w',w'.heap[w.heap.size]? =some (.cells vs.toArray e (0,0))→w'.heap.size=w.heap.size+1→Below w.heap.size w w'→k w'):aB w1 (nb w) k vs 0:=by
 subst hw;refine ft vs 0 _ z.toArray 0 (ak w _) (by simp;omega) h1 ?_;intro w' h hne hsz hB;refine hk w' ?_ (by rw [hsz,av]) (hB _ w (Nat.le_refl _) ((Below.refl _ w).alloc (Nat.le_refl _) _));rw [h];congr 2;simp [ir, ←hz]
theorem kc {w:World} {base:Nat} {e:TypeId} {size n:Nat} {v:Value} {xs:List Value} (h:w.ownsRow base e size v n xs):∃a c,v= .slice a n c∧n≤c:=by
 rcases h.2 with⟨rfl,rfl⟩ |⟨g,cap,cur,rfl,_,_,hc,_⟩
 ·exact⟨none,0,rfl,Nat.le_refl _⟩
 ·exact⟨_,_,rfl,hc⟩
theorem b_ {w:World} {base:Nat} {e:TypeId} {size n:Nat} {v:Value} {xs:List Value} (h:w.ownsRow base e size v n xs):∀k,v.ownBlock=some k→base≤k∧k<w.heap.size:=by
 intro k hk;rcases h.2 with⟨rfl,rfl⟩ |⟨g,cap,cur,rfl,hb,hg,_⟩
 ·cases hk
 ·cases hk;exact⟨hb,(Array.getElem?_eq_some_iff.1 hg).1⟩
theorem cP (w:World) (base:Nat) (e:TypeId) (size:Nat):w.ownsRow base e size (.slice none 0 0) 0 []:=⟨by simp,.inl ⟨rfl,rfl⟩⟩
theorem qc {P:Program} (t e:TypeId) {z:Value} {size bytes:Nat} (ht:P.underlying t=some (.slice e)) (hi:(P.info? e).map (fun i=>(i.zero,i.size,i.bytes))=some (some z,size,bytes)) (hzs:z.cells.size=size) (hsz:0<size)
  {base:Nat} {w1:World} {v:Value} {n:Nat} {xs:List Value} (hown:w1.ownsRow base e size v n xs) (news:List Value) (hl:news.length=size) (h1:∀u∈news,u.oneCell'=true)
  (hbytes:(n+1)*bytes≤140737488355328) (h63:n+1≤140737488355328) (hbase:base≤w1.heap.size):
  ∃a' c' w3,(Builtin.append_ #[t,t] t #[v,.slice (some (nb w1)) 1 1]).run P (w1.alloc (.cells news.toArray e))= .ok (.slice a' (n+1) c') w3∧w3.ownsRow base e size (.slice a' (n+1) c') (n+1) (xs++news)∧
   (w1.alloc (.cells news.toArray e)).grownBy w3 v.ownBlock∧((Value.slice a' (n+1) c').ownBlock=v.ownBlock∨(Value.slice a' (n+1) c').ownBlock=some (w1.heap.size+1)):=by
 obtain⟨i,hi',hz,hs,hb⟩:=info_parts hi;obtain⟨v',w3,hr,hown',hg,_,hnb⟩:=run_append_own_at (P:=P) (w1.alloc (.cells news.toArray e)) base t t e i z size bytes ht hi' hz hs hb hzs hsz v n xs (hown.alloc _) (nb w1) 1 1 news (by omega)
  (fun j u hj=>by
   have hjl:j<news.length:=(List.getElem?_eq_some_iff.1 hj).1;have hadd:(nb w1).add j=⟨w1.heap.size,j,none⟩:=by
    unfold Addr.add nb;split
    ·rename_i h0;subst h0;rfl
    ·simp
   rw [hadd];rw [aY];simpa using hj)
  h1 (by unfold maxLen;omega) hbytes (by rw [av];omega)
 obtain⟨a',c',rfl,_⟩:=kc hown';exact⟨a',c',w3,hr,hown',hg,by rwa [av]at hnb⟩
theorem lW {B:Nat} {w w1 w3:World} {e:TypeId} {size n:Nat} {v:Value} {xs:List Value} {o:Obj} (hb:Below B w w1) (hown:w1.ownsRow B e size v n xs) (hg:(w1.alloc o).grownBy w3 v.ownBlock) (hB:B≤w1.heap.size):Below B w w3:=
 (hb.alloc hB o).grown hg (by rw [av];omega) fun k hk=>(b_ hown k hk).1
theorem Cj {w1 w3:World} {row:Option Nat} {o:Obj} (hg:(w1.alloc o).grownBy w3 row) {k:Nat} (hk:k<w1.heap.size) (hne:some k≠row):w3.heap[k]? =w1.heap[k]? :=by
 rw [hg.block k (by rw [av];omega) hne,fc w1 o hk]
theorem Ef {w1 w3:World} {row:Option Nat} {o:Obj} (hg:(w1.alloc o).grownBy w3 row):w1.heap.size+1≤w3.heap.size:=by
 have:=hg.size;rwa [av]at this
theorem aq {w:World} {a:Addr} {u:Value} {k:Nat} (h:k≠a.block):(w.setCell a u).heap[k]? =w.heap[k]? :=Below.heap_setCell w a u k h
theorem aU (w:World) (a:Addr) (u:Value):(w.setCell a u).heap.size=w.heap.size:=by simp [World.setCell]
theorem bB {w:World} {base:Nat} {e:TypeId} {size n:Nat} {v:Value} {xs:List Value} (h:w.ownsRow base e size v n xs) {a:Addr} (u:Value) (hne:v.ownBlock≠some a.block):(w.setCell a u).ownsRow base e size v n xs:=by
 refine⟨h.1,?_⟩;rcases h.2 with h2 |⟨g,cap,cur,hv,hg,hh,r⟩
 ·exact .inl h2
 ·refine .inr ⟨g,cap,cur,hv,hg,?_,r⟩;rw [aq]
  ·exact hh
  ·intro he;subst he;exact hne (by rw [hv];rfl)
theorem s' {α:Type} (n:Nat) (Inv G:Nat→α→Prop) (last:∀x,Inv n x→G n x) (step:∀i,i<n→(∀x,Inv (i+1) x→G (i+1) x)→∀x,Inv i x→G i x):∀i,i≤n→∀x,Inv i x→G i x:=by
 have key:∀k i,i+k=n→∀x,Inv i x→G i x:=by
  intro k;induction k with
  |zero=>intro i hi;have:i=n:=by omega
         subst this;exact last
  |succ k ih=>intro i hi;exact step i (by omega) (ih (i+1) (by omega))
 intro i hi;exact key (n-i) i (by omega)
theorem dm {k:IntKind} {z:Int} (h1:k.min≤z) (h2:z≤k.max):k.wrap z=z:=by
 cases k<;>simp [IntKind.wrap,IntKind.bits,IntKind.signed,IntKind.min,IntKind.max]at* <;>omega
theorem Ar.ok {k:IntKind} {z:Int} {F:Int→Prop} (h1:k.min≤z) (h2:z≤k.max) (h:F z):Ar k z F:=by
 unfold Ar;rw [dm h1 h2];exact h
theorem Ar.ok64 {z:Int} {F:Int→Prop} (h1: -9223372036854775808≤z) (h2:z≤9223372036854775807) (h:F z):Ar .i64 z F:=Ar.ok (k:=.i64) h1 h2 h
abbrev str (l:List UInt8):ByteArray:=⟨l.toArray⟩
theorem HR (s:ByteArray):s=str s.data.toList:=by cases s;simp [str]
theorem bO (l:List UInt8):(str l).size=l.length:=by simp [str,ByteArray.size]
theorem cn (l:List UInt8):(str l).toList=l:=by rw [ByteArray.toList_eq]
theorem iY (l:List UInt8) (i:Nat) (h:i<l.length):fJ (str l) (i:Int)=((l[i]).toNat:Int):=by
 simp [fJ,str,List.getElem?_eq_getElem h]
theorem mg (a b:List UInt8):str a++str b=str (a++b):=by
 apply ByteArray.ext;simp [str]
theorem iC {P:Program} {src dst e:TypeId} (hs:P.underlying src=some (.slice e)) (he:P.underlying e=some (.int .u8)) (hd:P.underlying dst=some .string) {w:World} {base:Nat} {a:Option Addr} {n c:Nat} {l:List UInt8}
  (h:w.ownsRow base e 1 (.slice a n c) n (Lib.byteCells l)):(convert src dst (.slice a n c)).run P w= .ok (.string (str l)) w:=by
 have hl:=h.1;rw [Lib.byteCells_length]at hl;rcases h.2 with⟨h1,h2⟩ |⟨g,cap,cur,h1,h2,h3,h4,h5,h6,h7⟩
 ·cases h1;have:l= []:=List.eq_nil_of_length_eq_zero (by omega);subst this;exact run_convert_bytes_nil w src e hs he 0 0 dst hd
 ·cases h1;have hn:n=l.length:=by omega
  subst hn;refine run_convert_bytes_back w src dst e ⟨g,0,none⟩ c l hs he hd ?_;intro j hj;have hadd:(⟨g,0,none⟩:Addr).add j=⟨g,j,none⟩:=by unfold Addr.add;split<;>simp_all
  rw [hadd,aM h3];have h8:(Lib.byteCells l)[j]? =some (.int .u8 (l[j].toNat:Int)):=by simp [Lib.byteCells,hj]
  rw [←h7,List.getElem?_take_of_lt (by omega)]at h8;simpa using h8
theorem kE {w:World} {base:Nat} {e:TypeId} {size n:Nat} {v:Value} {xs:List Value} (h:w.ownsRow base e size v n xs):w.drew.ownsRow base e size v n xs:=h
theorem aE {w w':World} {base:Nat} {e:TypeId} {size n:Nat} {v:Value} {xs:List Value} (h:w.ownsRow base e size v n xs) (hb:Below w.heap.size w w'):w'.ownsRow base e size v n xs:=by
 refine⟨h.1,?_⟩;rcases h.2 with hh |⟨g,cap,cur,h1,h2,h3,h4⟩
 ·exact .inl hh
 ·exact .inr ⟨g,cap,cur,h1,h2,by rw [hb.block g (Array.getElem?_eq_some_iff.1 h3).1];exact h3,h4⟩
theorem ae {a b c:World} (h:Below a.heap.size a b) (k:Below b.heap.size b c):Below a.heap.size a c:=h.trans (k.mono h.size)
theorem ag (w:World) (o:Obj):Below w.heap.size w (w.alloc o):=(Below.refl _ w).alloc (Nat.le_refl _) o
theorem ax (a:Addr) (k:Nat):(a.add k).block=a.block:=by
 unfold Addr.add;split<;>rfl
theorem aC (b o n:Nat):Addr.add ⟨b,o,none⟩ n=⟨b,o+n,none⟩:=Addr.add_lit b o n
section
variable {H:Type} {enc:TypeId×Value→H}
end
structure Sl where
 a:Option Addr
 n:Nat
 c:Nat
abbrev Sl.v (s:Sl):Value:=.slice s.a s.n s.c
theorem aN {w w':World} {B:Nat} {e:TypeId} {size n:Nat} {v:Value} {xs:List Value} (h:w.ownsRow B e size v n xs) (hb:∀k,v.ownBlock=some k→w'.heap[k]? =w.heap[k]?):w'.ownsRow B e size v n xs:=by
 refine⟨h.1,?_⟩;rcases h.2 with hh |⟨g,cap,cur,h1,h2,h3,h4⟩
 ·exact .inl hh
 ·exact .inr ⟨g,cap,cur,h1,h2,by rw [hb g (by rw [h1];rfl)];exact h3,h4⟩
def tU (s:Sl):Prop:=s=⟨none,0,0⟩∨∃a,s.a=some a
theorem oP {P:Program} (t e:TypeId) {z:Value} {size bytes:Nat} (ht:P.underlying t=some (.slice e)) (hi:(P.info? e).map (fun i=>(i.zero,i.size,i.bytes))=some (some z,size,bytes)) (hzs:z.cells.size=size) (hsz:0<size)
  {base:Nat} {w1:World} {v:Value} {n:Nat} {xs:List Value} (hown:w1.ownsRow base e size v n xs) (src:Sl) (hsrc:tU src) (news:List Value) (hl:news.length=src.n*size)
  (hcells:∀a,src.a=some a→∀j u,news[j]? =some u→w1.cell? (a.add j)=some u) (h1:∀u∈news,u.oneCell'=true)
  (hbytes:(n+src.n)*bytes≤140737488355328) (h63:n+src.n≤140737488355328) (hbase:base≤w1.heap.size):
  ∃a' c' w3,(Builtin.append_ #[t,t] t #[v,src.v]).run P w1= .ok (.slice a' (n+src.n) c') w3∧w3.ownsRow base e size (.slice a' (n+src.n) c') (n+src.n) (xs++news)∧
   (∀w0,Below base w0 w1→Below base w0 w3)∧(∀k,k<w1.heap.size→v.ownBlock≠some k→w3.heap[k]? =w1.heap[k]?)∧∀k,(Value.slice a' (n+src.n) c').ownBlock=some k→v.ownBlock=some k∨w1.heap.size≤k:=by
 obtain⟨i,hi',hz,hs,hb⟩:=info_parts hi;obtain⟨sa,sn,sc⟩:=src;rcases hsrc with h |⟨a,ha⟩
 ·cases h;have hn:news= []:=List.eq_nil_of_length_eq_zero (by simpa using hl);subst hn;obtain⟨a',c',rfl,_⟩:=kc hown;exact⟨a',c',w1,run_append_owned_none w1 base t t e i size ht hi' _ n xs hown,by simpa using hown,fun w0 hb=>hb,fun _ _ _=>rfl,fun k hk=>.inl hk⟩
 ·cases ha;obtain⟨v',w3,hr,hown',hg,_,hnb⟩:=run_append_own_at (P:=P) w1 base t t e i z size bytes ht hi' hz hs hb hzs hsz v n xs hown a sn sc news hl (hcells a rfl) h1 (by unfold maxLen;dsimp only at h63;omega) hbytes hbase;obtain⟨a',c',rfl,_⟩:=kc hown';refine⟨a',c',w3,hr,hown',fun w0 hb=>hb.grown hg hbase fun k hk=>(b_ hown k hk).1,fun k hk hne=>hg.block k hk (fun e=>hne e.symm),fun k hk=>?_⟩;rcases hnb with h |h
  ·exact .inl (by rw [←h];exact hk)
  ·rw [h]at hk;cases hk;exact .inr (Nat.le_refl _)
theorem lM {P:Program} (t e:TypeId) {z:Value} {size bytes:Nat} (ht:P.underlying t=some (.slice e)) (hi:(P.info? e).map (fun i=>(i.zero,i.size,i.bytes))=some (some z,size,bytes)) (hzs:z.cells.size=size) (hsz:0<size)
  {base:Nat} {w1:World} {v:Value} {n:Nat} {xs:List Value} (hown:w1.ownsRow base e size v n xs) (src:Sl) (hsrc:tU src) (news:List Value) (hl:news.length=src.n*size)
  (hcells:∀a,src.a=some a→∀j u,news[j]? =some u→w1.cell? (a.add j)=some u) (h1:∀u∈news,u.oneCell'=true)
  (hbytes:(n+src.n)*bytes≤140737488355328) (h63:n+src.n≤140737488355328) (hbase:base≤w1.heap.size):
  ∃a' c' w3,(Builtin.append_ #[t,t] t #[v,src.v]).run P w1= .ok (.slice a' (n+src.n) c') w3∧w3.ownsRow base e size (.slice a' (n+src.n) c') (n+src.n) (xs++news)∧
   (∀w0,Below base w0 w1→Below base w0 w3)∧(∀k,k<w1.heap.size→v.ownBlock≠some k→w3.heap[k]? =w1.heap[k]?):=by
 obtain⟨a',c',w3,g1,g2,g3,g4,_⟩:=oP t e ht hi hzs hsz hown src hsrc news hl hcells h1 hbytes h63 hbase;exact⟨a',c',w3,g1,g2,g3,g4⟩
open Go Go.RowKit Go.Deep
theorem oY {α:Type} {p:Nat→α→Prop}:∀n:Nat,(∀i,i<n→∃m,p i m)→∃xs:List α,xs.length=n∧∀i x,xs[i]? =some x→p i x
 |0,_=>⟨[],rfl,fun i x h=>by simp at h⟩
 |n+1,h=>by
  obtain⟨xs,hl,hx⟩:=oY n fun i hi=>h i (by omega);obtain⟨m,hm⟩:=h n (by omega);refine⟨xs++ [m],by simp [hl],fun i x hi=>?_⟩;rcases Nat.lt_trichotomy i xs.length with h1 |h1 |h1
  ·rw [List.getElem?_append_left h1]at hi;exact hx i x hi
  ·subst h1;rw [List.getElem?_append_right (Nat.le_refl _)]at hi;simp at hi;subst hi;rw [hl];exact hm
  ·rw [List.getElem?_append_right (by omega)]at hi;have:=(List.getElem?_eq_some_iff.1 hi).1;simp at this;omega
theorem kV {P:Program} {H:Type} {enc0:TypeId×Value→H} {w:World} {base:Nat} {spare:Nat→Bool} {held:Bool} {t e:TypeId} {fuel:Nat} {cs:List Value} {x:DataW H×List MemPlace} {α:Type} {enc:α→List Value} {sz:Nat} (ht:P.underlying t=some (.slice e)) (hc:P.cellsOf e=sz) (hsz:∀m,(enc m).length=sz) (h0:0<sz)
  (hel:∀n cs' y,DataW.trod enc0 P w base spare held n e cs'=some y→∃m:α,cs'=enc m) (h:DataW.trod enc0 P w base spare held fuel t cs=some x):
  ∃(s:Sl) (xs:List α),cs= [s.v]∧s.n=xs.length∧tU s∧s.n≤s.c∧s.c≤maxLen∧
   ∀(j:Nat) (m:α),xs[j]? =some m→∃p,s.a=some p∧p.block<w.heap.size∧∀(k:Nat) (v:Value),(enc m)[k]? =some v→w.cell? ((p.add (j*sz)).add k)=some v:=by
 rcases open_slice ht h with⟨rfl,_⟩ |⟨a,len,cap,m,n,D,Pl,rfl,hb,hl,hm,hmm,rfl,hx⟩
 ·exact⟨⟨none,0,0⟩,[],rfl,rfl,.inl rfl,Nat.le_refl _,Nat.zero_le _,fun j m hj=>by simp at hj⟩
 ·have hle:len≤m:=by rw [hmm];split<;>omega
  obtain⟨xs,hxl,hxs⟩:=oY (α:=α) (p:=fun i u=>w.cells? base (a.add (i*sz)) sz=some (enc u)) len (fun i hi=>by
   obtain⟨cs',h1,h2⟩:=hx i (by omega);rw [hc]at h1;obtain⟨u,rfl⟩:=hel _ _ _ h2;exact⟨u,h1⟩)
  refine⟨⟨some a,len,cap⟩,xs,rfl,hxl.symm,.inr ⟨a,rfl⟩,hl,hm,fun j u hj=>⟨a,rfl,?_,fun k v hk=>?_⟩⟩
  ·obtain⟨_,_,hcell⟩:=World.cells?_some (hxs j u hj);have h3:=hcell 0 h0;have hlt:0< (enc u).length:=by rw [hsz];exact h0
   rw [List.getElem?_eq_getElem hlt]at h3;have:=World.block_lt_of_cell? _ _ h3;rwa [ax,ax]at this
  ·obtain⟨_,_,hcell⟩:=World.cells?_some (hxs j u hj);rw [hcell k (by rw [←hsz u];exact(List.getElem?_eq_some_iff.1 hk).1)];exact hk
end Go.Proofs.YtdlcfegnaphclaaGreat.Eng
