/- What these functions owe, printed by a program of this repo out of the translation. -/
import Derived.Test.YtijbcdiffjjefaaGreatDoorZwTab
set_option linter.unusedVariables false
set_option maxRecDepth 100000
namespace Go.Proofs.YtijbcdiffjjefaaGreatDoor.Eng
open Go Go.Value
def SV (a b:OA) (c d:Nat) (w:World) (R:RW):Prop:=
 CP 24 #[pointer a,iface 144 (agg #[pointer a]),slice b c d] w (fun f g=>
 Zz f fun h i=>
 R (tuple #[int .i64 h,int .i64 i]) g)
theorem FG (a b:OA) (c d:Nat) (w:World) (R:RW) (hh:SV a b c d w R):CR 22 #[pointer a,slice b c d] w R:=by refine aH (fn:=Tryz.f22) ?_ ?_ ?_ ?_ ?_ hh<;>kernel_rfl
def SO (a b:OA) (c d:Nat) (w:World) (R:RW):Prop:=
 CP 24 #[pointer a,iface 145 (agg #[pointer a]),slice b c d] w (fun f g=>
 Zz f fun h i=>
 R (tuple #[int .i64 h,int .i64 i]) g)
theorem Dz (a b:OA) (c d:Nat) (w:World) (R:RW) (hh:SO a b c d w R):CR 23 #[pointer a,slice b c d] w R:=by refine aH (fn:=Tryz.f23) ?_ ?_ ?_ ?_ ?_ hh<;>kernel_rfl
def TB (a:OA) (b:Value) (c:OA) (d f:Nat) (w:World) (R:RW):Prop:=
 CP 78 #[pointer a,slice c d f] w (fun h i=>
 Zz h fun j k=>
 ac (k != 0)
 (R (tuple #[int .i64 j,int .i64 k]) i)
 (∃l m,(do eqGuard .eql 147 (.tmp 20) (.const (Value.nilIface)) b Value.nilIface;binOp .eql 147 b Value.nilIface).run Tryz.prog i= .ok (bool l) m∧
 ac l
 (R (tuple #[int .i64 0,int .i64 1]) m)
 (∃g as_,(callMethod b "First" #[slice c d f]).run Tryz.prog m= .ok (.enter g as_) m∧CP g as_ m (fun n o=>
 Zy n fun p q=>
 CP 79 #[int .i64 p,bool q] o (fun r s=>
 Zx r fun t=>
 R (tuple #[int .i64 t,int .i64 0]) s)))))
theorem iN (a:OA) (b:Value) (c:OA) (d f:Nat) (w:World) (R:RW) (hh:TB a b c d f w R):CR 24 #[pointer a,b,slice c d f] w R:=by refine aH (fn:=Tryz.f24) ?_ ?_ ?_ ?_ ?_ hh<;>kernel_rfl
def SL (a:OA) (w:World) (R:RW):Prop:=
 ac (Option.isNone a)
 (R (pointer none) w)
 (Zv w #[pointer a,slice none 0 0,int .i64 0,int .i64 (-1)] 159 fun b=>
 R (pointer (some (nb w))) b)
theorem Fh (a:OA) (w:World) (R:RW) (hh:SL a w R):CR 26 #[pointer a] w R:=by refine aH (fn:=Tryz.f26) ?_ ?_ ?_ ?_ ?_ hh<;>kernel_rfl
def SW (a b:OA) (c d:Nat) (w:World) (R:RW):Prop:=
 Zv w #[pointer a] 63 fun f=>
 Zt f (nb w) fun g=>
 ac (Option.isNone g)
 (R (tuple #[int .i64 0,int .i64 1]) f)
 (Zt f (nb w) fun h=>
 ag h (fun i=>
 Zs f (i.add 2) fun j=>
 Ar .i64 ((1099511627776:Int)-j) (fun k=>
 ac (decide ((c:Int)>k))
 (R (tuple #[int .i64 0,int .i64 3]) f)
 (CP 85 #[slice b c d,func (.func 86) #[] #[pointer (some (nb w))]] f (fun l m=>
 Zx l fun n=>
 ac (decide (n≥0))
 (R (tuple #[int .i64 n,int .i64 4]) m)
 (∀o:KW,(∀p:World,(Zt p (nb w) fun q=>
 ag q (fun r=>
 Zs p (r.add 2) fun s=>
 Ar .i64 (s+(c:Int)) (fun t=>
 ag q (fun x=>
 Zu p (x.add 2) (int .i64 t) fun y=>
 ∀z:KW,(∀a1:World,(Zt a1 (nb w) fun b1=>
 ag b1 (fun c1=>
 Zs a1 (c1.add 3) fun d1=>
 R (tuple #[int .i64 d1,int .i64 0]) a1))→z [] a1)→
 ac (decide ((c:Int)>0))
 (∀e1,e1=y.drew→
 Zt e1 (nb w) fun f1=>
 Ar .i64 ((c:Int)-1) (fun g1=>
 (0:Int)≤g1∧g1≤(c:Int)∧True∧True∧True∧
 CP 88 #[slice (bB b g1.toNat (d:Int).toNat 1) ((c:Int).toNat-g1.toNat) ((d:Int).toNat-g1.toNat)] e1 (fun h1 i1=>
 Zr h1 fun j1 k1 l1=>
 (i1.cell? (nb w)=some (pointer f1)∧True)∧
 ag f1 (fun m1=>
 Zu i1 (m1.add 1) (slice j1 k1 l1) fun n1=>
 z [] n1))))
 (z [] y)))))→o [] p)→
 Zt m (nb w) fun o1=>
 ag o1 (fun p1=>
 Zs m (p1.add 3) fun q1=>
 ac (q1==(-1))
 (Zt m (nb w) fun r1=>
 CP 87 #[pointer r1,slice b c d] m (fun s1 t1=>
 s1= .returned (tuple #[])∧
 o [] t1))
 (o [] m))))))))
theorem D' (a b:OA) (c d:Nat) (w:World) (R:RW) (hh:SW a b c d w R):CR 27 #[pointer a,slice b c d] w R:=by refine aH (fn:=Tryz.f27) ?_ ?_ ?_ ?_ ?_ hh<;>kernel_rfl
def Ty (a:OA) (w:World) (R:RW):Prop:=
 ac (Option.isNone a)
 (R (int .i64 (-1)) w)
 (ag a (fun b=>
 Zs w (b.add 3) fun c=>
 R (int .i64 c) w))
theorem EL (a:OA) (w:World) (R:RW) (hh:Ty a w R):CR 28 #[pointer a] w R:=by refine aH (fn:=Tryz.f28) ?_ ?_ ?_ ?_ ?_ hh<;>kernel_rfl
def TD (a:Bool) (b:OA) (c d:Nat) (f:OA) (g h:Nat) (i:OA) (j k:Nat) (l:OA) (m n:Nat) (o:OA) (p q:Nat) (w:World) (R:RW):Prop:=
 Zv w #[bool a,slice b c d,slice f g h,slice i j k,slice l m n,slice o p q] 71 fun r=>
 Zq r (nb w) fun s t u x y z a1 b1 c1 d1 e1 f1 g1 h1 i1 j1=>
 CP 101 #[agg #[bool s,slice t u x,slice y z a1,slice b1 c1 d1,slice e1 f1 g1,slice h1 i1 j1]] r (fun k1 l1=>
 Zp k1 fun m1=>
 ac (!m1)
 (R (tuple #[pointer none,int .i64 0,int .i64 1]) l1)
 (Zq l1 (nb w) fun n1 o1 p1 q1 r1 s1 t1 u1 v1 x1 y1 z1 a2 b2 c2 d2=>
 CP 91 #[agg #[bool n1,slice o1 p1 q1,slice r1 s1 t1,slice u1 v1 x1,slice y1 z1 a2,slice b2 c2 d2]] l1 (fun e2 f2=>
 Zn e2 fun g2 h2 i2 j2=>
 R (tuple #[pointer g2,int .i64 i2,int .i64 j2]) f2)))
theorem Fz (a:Bool) (b:OA) (c d:Nat) (f:OA) (g h:Nat) (i:OA) (j k:Nat) (l:OA) (m n:Nat) (o:OA) (p q:Nat) (w:World) (R:RW) (hh:TD a b c d f g h i j k l m n o p q w R):CR 37 #[agg #[bool a,slice b c d,slice f g h,slice i j k,slice l m n,slice o p q]] w R:=by refine aH (fn:=Tryz.f37) ?_ ?_ ?_ ?_ ?_ hh<;>kernel_rfl
def SD (a:OA) (b:Int) (w:World) (R:RW):Prop:=
 ac (Option.isNone a)
 (R (bool false) w)
 (ag a (fun c=>
 CP 105 #[pointer (some (c.add 13)),int .i64 1] w (fun d f=>
 Zx d fun g=>
 ag a (fun h=>
 Zt f ((h.add 0).add 8) fun i=>
 CP 106 #[pointer i,int .i64 b] f (fun j k=>
 Zy j fun l m=>
 ac m
 (R (bool true) k)
 (ag a (fun n=>
 CP 107 #[pointer (some ((n.add 9).add 0)),func (.func 108) #[pointer a] #[]] k (fun o p=>
 o= .returned (tuple #[])∧
 ac (decide (b≥0))
 (ag a (fun q=>
 Zl p ((q.add 9).add 3) fun r s t=>
 ac (decide (b< (s:Int)))
 (ag a (fun u=>
 Zl p ((u.add 9).add 3) fun x y z=>
 Zm x b y (fun a1=>
 Zk p (a1.add (b.toNat*1)) fun b1=>
 R (bool b1) p)))
 (R (bool false) p)))
 (R (bool false) p)))))))))
theorem EA (a:OA) (b:Int) (w:World) (R:RW) (hh:SD a b w R):CR 43 #[pointer a,int .i64 b] w R:=by refine aH (fn:=Tryz.f43) ?_ ?_ ?_ ?_ ?_ hh<;>kernel_rfl
def TO (a:OA) (b:Int) (w:World) (R:RW):Prop:=
 CP 56 #[pointer a] w (fun c d=>
 Zj c fun f=>
 CP 106 #[pointer f,int .i64 b] d (fun g h=>
 Zy g fun i j=>
 ac j
 (R (bool true) h)
 (ac (decide (b≥0))
 (CP 50 #[pointer a] h (fun k l=>
 Zx k fun m=>
 R (bool (decide (b<m))) l))
 (R (bool false) h))))
theorem Ey (a:OA) (b:Int) (w:World) (R:RW) (hh:TO a b w R):CR 49 #[pointer a,int .i64 b] w R:=by refine aH (fn:=Tryz.f49) ?_ ?_ ?_ ?_ ?_ hh<;>kernel_rfl
def SK (a:OA) (w:World) (R:RW):Prop:=
 CP 54 #[pointer a] w (fun b c=>
 Zj b fun d=>
 CP 116 #[pointer d] c (fun f g=>
 Zx f fun h=>
 R (int .i64 h) g))
theorem DI (a:OA) (w:World) (R:RW) (hh:SK a w R):CR 50 #[pointer a] w R:=by refine aH (fn:=Tryz.f50) ?_ ?_ ?_ ?_ ?_ hh<;>kernel_rfl
def S0 (a:OA) (w:World) (R:RW):Prop:=
 ac (Option.isNone a)
 (R (pointer none) w)
 (ag a (fun b=>
 Zt w ((b.add 0).add 6) fun c=>
 R (pointer c) w))
theorem E_ (a:OA) (w:World) (R:RW) (hh:S0 a w R):CR 54 #[pointer a] w R:=by refine aH (fn:=Tryz.f54) ?_ ?_ ?_ ?_ ?_ hh<;>kernel_rfl
def TF (a:OA) (w:World) (R:RW):Prop:=
 ac (Option.isNone a)
 (R (pointer none) w)
 (ag a (fun b=>
 Zt w ((b.add 0).add 7) fun c=>
 R (pointer c) w))
theorem DR (a:OA) (w:World) (R:RW) (hh:TF a w R):CR 55 #[pointer a] w R:=by refine aH (fn:=Tryz.f55) ?_ ?_ ?_ ?_ ?_ hh<;>kernel_rfl
def Tk (a:OA) (w:World) (R:RW):Prop:=
 ac (Option.isNone a)
 (R (pointer none) w)
 (ag a (fun b=>
 Zt w ((b.add 0).add 8) fun c=>
 R (pointer c) w))
theorem D6 (a:OA) (w:World) (R:RW) (hh:Tk a w R):CR 56 #[pointer a] w R:=by refine aH (fn:=Tryz.f56) ?_ ?_ ?_ ?_ ?_ hh<;>kernel_rfl
def Ts (a b:OA) (c d:Nat) (w:World) (R:RW):Prop:=
 Zv w #[pointer a] 31 fun f=>
 Zt f (nb w) fun g=>
 ac (Option.isNone g)
 (R (tuple #[int .i64 0,int .i64 1]) f)
 (ac (decide ((c:Int)>4000))
 (R (tuple #[int .i64 0,int .i64 3]) f)
 (CP 85 #[slice b c d,func (.func 126) #[] #[pointer (some (nb w))]] f (fun h i=>
 Zx h fun j=>
 ac (decide (j≥0))
 (R (tuple #[int .i64 j,int .i64 4]) i)
 (R (tuple #[int .i64 0,int .i64 0]) i))))
theorem FK (a b:OA) (c d:Nat) (w:World) (R:RW) (hh:Ts a b c d w R):CR 78 #[pointer a,slice b c d] w R:=by refine aH (fn:=Tryz.f78) ?_ ?_ ?_ ?_ ?_ hh<;>kernel_rfl
def TR (a:Int) (b:Bool) (w:World) (R:RW):Prop:=
 ac (!b)
 (R (int .i64 (-1)) w)
 (R (int .i64 a) w)
theorem rQ (a:Int) (b:Bool) (w:World) (R:RW) (hh:TR a b w R):CR 79 #[int .i64 a,bool b] w R:=by refine aH (fn:=Tryz.f79) ?_ ?_ ?_ ?_ ?_ hh<;>kernel_rfl
def Tp (a:OA) (b c:Nat) (d:Value) (w:World) (R:RW):Prop:=
 ∀f:KW,(∀(g h:Int) (i:World),(ac (decide (g< (b:Int)))
 (Zm a g b (fun j=>
 Zs i (j.add (g.toNat*1)) fun k=>
 bM gq d [int .i64 k] i (fun l m=>
 Zp l fun n=>
 ac n
 (R (int .i64 g) m)
 (Ar .i64 (g+1) (fun o=>
 f [int .i64 o,int .i64 h] m)))))
 (R (int .i64 (-1)) i))→f [int .i64 g,int .i64 h] i)→
 f [int .i64 0,int .i64 0] w
theorem FD (a:OA) (b c:Nat) (d:Value) (w:World) (R:RW) (hh:Tp a b c d w R):CR 85 #[slice a b c,d] w R:=by refine aH (fn:=Tryz.f85) ?_ ?_ ?_ ?_ ?_ hh<;>kernel_rfl
def TN (a:OA) (b c:Nat) (w:World) (R:RW):Prop:=
 ac (Option.isNone a)
 (R (slice none 0 0) w)
 (Zv w #[] 3 fun d=>
 Zh 28 #[slice (some (nb w)) 0 0,slice a b c] d fun f g h i=>
 R (slice f g h) i)
theorem DV (a:OA) (b c:Nat) (w:World) (R:RW) (hh:TN a b c w R):CR 88 #[slice a b c] w R:=by refine aH (fn:=Tryz.f88) ?_ ?_ ?_ ?_ ?_ hh<;>kernel_rfl
def TM (a:Bool) (b:OA) (c d:Nat) (f:OA) (g h:Nat) (i:OA) (j k:Nat) (l:OA) (m n:Nat) (o:OA) (p q:Nat) (w:World) (R:RW):Prop:=
 Zv w #[bool a,slice b c d,slice f g h,slice i j k,slice l m n,slice o p q] 71 fun r=>
 Zq r (nb w) fun s t x y z a1 b1 c1 d1 e1 f1 g1 h1 i1 j1 k1=>
 CP 130 #[agg #[bool s,slice t x y,slice z a1 b1,slice c1 d1 e1,slice f1 g1 h1,slice i1 j1 k1]] r (fun l1 m1=>
 Zg l1 fun n1 o1 p1=>
 Zv m1 #[pointer none] 100 fun q1=>
 Zu q1 (nb m1) (pointer n1) fun r1=>
 ac (p1 != 0)
 (R (tuple #[pointer none,int .i64 1,int .i64 o1,int .i64 p1]) r1)
 (Zl r1 ((nb w).add 3) fun s1 t1 u1=>
 CP 131 #[slice s1 t1 u1] r1 (fun v1 x1=>
 Zg v1 fun y1 z1 a2=>
 ac (a2 != 0)
 (R (tuple #[pointer none,int .i64 2,int .i64 z1,int .i64 a2]) x1)
 (Zl x1 ((nb w).add 3) fun b2 c2 d2=>
 CP 132 #[slice b2 c2 d2,func (.func 133) #[] #[pointer (some (nb m1))]] x1 (fun e2 f2=>
 Zx e2 fun g2=>
 ac (decide (g2≥0))
 (R (tuple #[pointer none,int .i64 2,int .i64 g2,int .i64 4]) f2)
 (Zl f2 ((nb w).add 4) fun h2 i2 j2=>
 Zl f2 ((nb w).add 5) fun k2 l2 m2=>
 CP 134 #[slice h2 i2 j2,slice k2 l2 m2] f2 (fun n2 o2=>
 Zf n2 fun p2 q2=>
 ac (q2 != 0)
 (R (tuple #[pointer none,int .i64 0,int .i64 0,int .i64 q2]) o2)
 (∀r2,r2=o2.drew→
 Zq r2 (nb w) fun s2 t2 u2 v2 x2 y2 z2 a3 b3 c3 d3 e3 f3 g3 h3 i3=>
 Zt r2 (nb m1) fun j3=>
 CP 100 #[agg #[bool s2,slice t2 u2 v2,slice x2 y2 z2,slice a3 b3 c3,slice d3 e3 f3,slice g3 h3 i3]] r2 (fun k3 l3=>
 Ze k3 fun m3 n3 o3 p3 q3 r3 s3 t3 u3 v3 x3 y3 z3 a4 b4 c4=>
 (l3.cell? (nb m1)=some (pointer j3)∧True)∧
 Zv l3 #[bool m3,slice n3 o3 p3,slice q3 r3 s3,slice t3 u3 v3,slice x3 y3 z3,slice a4 b4 c4,pointer j3,pointer p2,pointer y1,int .u32 0,int .i32 0,int .u32 0,slice none 0 0,int .i64 0] 186 fun d4=>
 R (tuple #[pointer (some (nb l3)),int .i64 0,int .i64 0,int .i64 0]) d4)))))))))
theorem FO (a:Bool) (b:OA) (c d:Nat) (f:OA) (g h:Nat) (i:OA) (j k:Nat) (l:OA) (m n:Nat) (o:OA) (p q:Nat) (w:World) (R:RW) (hh:TM a b c d f g h i j k l m n o p q w R):CR 91 #[agg #[bool a,slice b c d,slice f g h,slice i j k,slice l m n,slice o p q]] w R:=by refine aH (fn:=Tryz.f91) ?_ ?_ ?_ ?_ ?_ hh<;>kernel_rfl
def Sv (a:Bool) (b:OA) (c d:Nat) (f:OA) (g h:Nat) (i:OA) (j k:Nat) (l:OA) (m n:Nat) (o:OA) (p q:Nat) (w:World) (R:RW):Prop:=
 Zv w #[bool a,slice b c d,slice f g h,slice i j k,slice l m n,slice o p q] 71 fun r=>
 Zv r #[bool false,slice none 0 0,slice none 0 0,slice none 0 0,slice none 0 0,slice none 0 0] 71 fun s=>
 ∀t,t=s.drew→
 Zl t ((nb w).add 1) fun x y z=>
 Zl t ((nb w).add 2) fun a1 b1 c1=>
 Zl t ((nb w).add 3) fun d1 e1 f1=>
 CP 142 #[slice x y z] t (fun g1 h1=>
 Zr g1 fun i1 j1 k1=>
 (h1.cell? ((nb w).add 3)=some (slice d1 e1 f1)∧True)∧
 (h1.cell? ((nb w).add 2)=some (slice a1 b1 c1)∧True)∧
 CP 143 #[slice a1 b1 c1] h1 (fun l1 m1=>
 Zr l1 fun n1 o1 p1=>
 (m1.cell? ((nb w).add 3)=some (slice d1 e1 f1)∧True)∧
 CP 144 #[slice d1 e1 f1] m1 (fun q1 r1=>
 Zr q1 fun s1 t1 u1=>
 Zu r1 ((nb w).add 1) (slice i1 j1 k1) fun v1=>
 Zu v1 ((nb w).add 2) (slice n1 o1 p1) fun x1=>
 Zu x1 ((nb w).add 3) (slice s1 t1 u1) fun y1=>
 ∀z1,z1=y1.drew→
 Zl z1 ((nb w).add 4) fun a2 b2 c2=>
 Zl z1 ((nb w).add 5) fun d2 e2 f2=>
 CP 145 #[slice a2 b2 c2] z1 (fun g2 h2=>
 Zr g2 fun i2 j2 k2=>
 (h2.cell? ((nb w).add 5)=some (slice d2 e2 f2)∧True)∧
 CP 146 #[slice d2 e2 f2] h2 (fun l2 m2=>
 Zr l2 fun n2 o2 p2=>
 Zu m2 ((nb w).add 4) (slice i2 j2 k2) fun q2=>
 Zu q2 ((nb w).add 5) (slice n2 o2 p2) fun r2=>
 Zq r2 (nb w) fun s2 t2 u2 v2 x2 y2 z2 a3 b3 c3 d3 e3 f3 g3 h3 i3=>
 aI r2 (nb r) (fun j3=>
 Zq j3 (nb r) fun k3 l3 m3 n3 o3 p3 q3 r3 s3 t3 u3 v3 x3 y3 z3 a4=>
 R (agg #[bool k3,slice l3 m3 n3,slice o3 p3 q3,slice r3 s3 t3,slice u3 v3 x3,slice y3 z3 a4]) j3) [bool s2,slice t2 u2 v2,slice x2 y2 z2,slice a3 b3 c3,slice d3 e3 f3,slice g3 h3 i3] 0)))))
theorem Db (a:Bool) (b:OA) (c d:Nat) (f:OA) (g h:Nat) (i:OA) (j k:Nat) (l:OA) (m n:Nat) (o:OA) (p q:Nat) (w:World) (R:RW) (hh:Sv a b c d f g h i j k l m n o p q w R):CR 100 #[agg #[bool a,slice b c d,slice f g h,slice i j k,slice l m n,slice o p q]] w R:=by refine aH (fn:=Tryz.f100) ?_ ?_ ?_ ?_ ?_ hh<;>kernel_rfl
def QH (a:Bool) (b:OA) (c d:Nat) (f:OA) (g h:Nat) (i:OA) (j k:Nat) (l:OA) (m n:Nat) (o:OA) (p q:Nat) (w:World) (R:RW):Prop:=
 Zv w #[bool a,slice b c d,slice f g h,slice i j k,slice l m n,slice o p q] 71 fun r=>
 Zk r ((nb w).add 0) fun s=>
 ac s
 (Zl r ((nb w).add 1) fun t u x=>
 ac (decide ((u:Int)>0))
 (R (bool false) r)
 (Zk r ((nb w).add 0) fun y=>
 ac (!y)
 (Zl r ((nb w).add 2) fun z a1 b1=>
 ac (decide ((a1:Int)>0))
 (R (bool false) r)
 (Zl r ((nb w).add 1) fun c1 d1 e1=>
 CP 147 #[slice c1 d1 e1,int .i64 744,func (.func 148) #[] #[]] r (fun f1 g1=>
 Zp f1 fun h1=>
 ac h1
 (Zl g1 ((nb w).add 2) fun i1 j1 k1=>
 CP 149 #[slice i1 j1 k1,int .i64 744,func (.func 150) #[] #[]] g1 (fun l1 m1=>
 Zp l1 fun n1=>
 ac n1
 (Zl m1 ((nb w).add 3) fun o1 p1 q1=>
 CP 151 #[slice o1 p1 q1,int .i64 32,func (.func 152) #[] #[]] m1 (fun r1 s1=>
 Zp r1 fun t1=>
 ac t1
 (Zl s1 ((nb w).add 4) fun u1 v1 x1=>
 CP 153 #[slice u1 v1 x1,int .i64 64,func (.func 154) #[] #[]] s1 (fun y1 z1=>
 Zp y1 fun a2=>
 ac a2
 (Zl z1 ((nb w).add 5) fun b2 c2 d2=>
 CP 155 #[slice b2 c2 d2,int .i64 64,func (.func 156) #[] #[]] z1 (fun e2 f2=>
 Zp e2 fun g2=>
 R (bool g2) f2))
 (R (bool false) z1)))
 (R (bool false) s1)))
 (R (bool false) m1)))
 (R (bool false) g1))))
 (Zl r ((nb w).add 1) fun h2 i2 j2=>
 CP 147 #[slice h2 i2 j2,int .i64 744,func (.func 148) #[] #[]] r (fun k2 l2=>
 Zp k2 fun m2=>
 ac m2
 (Zl l2 ((nb w).add 2) fun n2 o2 p2=>
 CP 149 #[slice n2 o2 p2,int .i64 744,func (.func 150) #[] #[]] l2 (fun q2 r2=>
 Zp q2 fun s2=>
 ac s2
 (Zl r2 ((nb w).add 3) fun t2 u2 v2=>
 CP 151 #[slice t2 u2 v2,int .i64 32,func (.func 152) #[] #[]] r2 (fun x2 y2=>
 Zp x2 fun z2=>
 ac z2
 (Zl y2 ((nb w).add 4) fun a3 b3 c3=>
 CP 153 #[slice a3 b3 c3,int .i64 64,func (.func 154) #[] #[]] y2 (fun d3 e3=>
 Zp d3 fun f3=>
 ac f3
 (Zl e3 ((nb w).add 5) fun g3 h3 i3=>
 CP 155 #[slice g3 h3 i3,int .i64 64,func (.func 156) #[] #[]] e3 (fun j3 k3=>
 Zp j3 fun l3=>
 R (bool l3) k3))
 (R (bool false) e3)))
 (R (bool false) y2)))
 (R (bool false) r2)))
 (R (bool false) l2)))))
 (Zk r ((nb w).add 0) fun m3=>
 ac (!m3)
 (Zl r ((nb w).add 2) fun n3 o3 p3=>
 ac (decide ((o3:Int)>0))
 (R (bool false) r)
 (Zl r ((nb w).add 1) fun q3 r3 s3=>
 CP 147 #[slice q3 r3 s3,int .i64 744,func (.func 148) #[] #[]] r (fun t3 u3=>
 Zp t3 fun v3=>
 ac v3
 (Zl u3 ((nb w).add 2) fun x3 y3 z3=>
 CP 149 #[slice x3 y3 z3,int .i64 744,func (.func 150) #[] #[]] u3 (fun a4 b4=>
 Zp a4 fun c4=>
 ac c4
 (Zl b4 ((nb w).add 3) fun d4 e4 f4=>
 CP 151 #[slice d4 e4 f4,int .i64 32,func (.func 152) #[] #[]] b4 (fun g4 h4=>
 Zp g4 fun i4=>
 ac i4
 (Zl h4 ((nb w).add 4) fun j4 k4 l4=>
 CP 153 #[slice j4 k4 l4,int .i64 64,func (.func 154) #[] #[]] h4 (fun m4 n4=>
 Zp m4 fun o4=>
 ac o4
 (Zl n4 ((nb w).add 5) fun p4 q4 r4=>
 CP 155 #[slice p4 q4 r4,int .i64 64,func (.func 156) #[] #[]] n4 (fun s4 t4=>
 Zp s4 fun u4=>
 R (bool u4) t4))
 (R (bool false) n4)))
 (R (bool false) h4)))
 (R (bool false) b4)))
 (R (bool false) u3))))
 (Zl r ((nb w).add 1) fun v4 x4 y4=>
 CP 147 #[slice v4 x4 y4,int .i64 744,func (.func 148) #[] #[]] r (fun z4 a5=>
 Zp z4 fun b5=>
 ac b5
 (Zl a5 ((nb w).add 2) fun c5 d5 e5=>
 CP 149 #[slice c5 d5 e5,int .i64 744,func (.func 150) #[] #[]] a5 (fun f5 g5=>
 Zp f5 fun h5=>
 ac h5
 (Zl g5 ((nb w).add 3) fun i5 j5 k5=>
 CP 151 #[slice i5 j5 k5,int .i64 32,func (.func 152) #[] #[]] g5 (fun l5 m5=>
 Zp l5 fun n5=>
 ac n5
 (Zl m5 ((nb w).add 4) fun o5 p5 q5=>
 CP 153 #[slice o5 p5 q5,int .i64 64,func (.func 154) #[] #[]] m5 (fun r5 s5=>
 Zp r5 fun t5=>
 ac t5
 (Zl s5 ((nb w).add 5) fun u5 v5 x5=>
 CP 155 #[slice u5 v5 x5,int .i64 64,func (.func 156) #[] #[]] s5 (fun y5 z5=>
 Zp y5 fun a6=>
 R (bool a6) z5))
 (R (bool false) s5)))
 (R (bool false) m5)))
 (R (bool false) g5)))
 (R (bool false) a5))))
theorem BE (a:Bool) (b:OA) (c d:Nat) (f:OA) (g h:Nat) (i:OA) (j k:Nat) (l:OA) (m n:Nat) (o:OA) (p q:Nat) (w:World) (R:RW) (hh:QH a b c d f g h i j k l m n o p q w R):CR 101 #[agg #[bool a,slice b c d,slice f g h,slice i j k,slice l m n,slice o p q]] w R:=by refine aH (fn:=Tryz.f101) ?_ ?_ ?_ ?_ ?_ hh<;>kernel_rfl
def O8 (a:OA) (b:Int) (w:World) (R:RW):Prop:=
 ac (Option.isNone a)
 (R (tuple #[int .i64 0,bool false]) w)
 (ag a (fun c=>
 ∃d,w.cell? (c.add 1)=some (map d)∧
 ∃f g h,(Instr.lookup 108 (map d) (int .i64 b) true).run Tryz.prog w= .ok (tuple #[int .i64 f,bool g]) h∧
 ac (!g)
 (R (tuple #[int .i64 0,bool false]) h)
 (CP 160 #[int .i64 f] h (fun i j=>
 Zx i fun k=>
 R (tuple #[int .i64 k,bool true]) j))))
theorem Bt (a:OA) (b:Int) (w:World) (R:RW) (hh:O8 a b w R):CR 106 #[pointer a,int .i64 b] w R:=by refine aH (fn:=Tryz.f106) ?_ ?_ ?_ ?_ ?_ hh<;>kernel_rfl
def O4 (a:OA) (w:World) (R:RW):Prop:=
 CP 50 #[pointer a] w (fun b c=>
 Zx b fun d=>
 ∃f g h i,(Instr.makeSlice 117 (int .i64 d) (int .i64 d)).run Tryz.prog c= .ok (slice f g h) i∧
 ag a (fun j=>
 Zu i ((j.add 9).add 3) (slice f g h) fun k=>
 ag a (fun l=>
 Zl k ((l.add 9).add 3) fun m n o=>
 ∀p:KW,(∀(q:Int) (r:World),(ac (decide (q< (n:Int)))
 (ag a (fun s=>
 Zt r ((s.add 0).add 6) fun t=>
 CP 163 #[pointer t,int .i64 q] r (fun x y=>
 Zd x fun z a1=>
 ag a (fun b1=>
 Zt y ((b1.add 0).add 6) fun c1=>
 CP 164 #[pointer c1,string z] y (fun d1 e1=>
 Zr d1 fun f1 g1 h1=>
 ∀i1,i1=e1.drew→
 ag a (fun j1=>
 Zl i1 ((j1.add 9).add 3) fun k1 l1 m1=>
 ac ((g1:Int)==1)
 (Zm f1 0 g1 (fun n1=>
 Zs i1 (n1.add ((0:Int).toNat*1)) fun o1=>
 ac (o1==q)
 (ag a (fun p1=>
 Zt i1 ((p1.add 0).add 7) fun q1=>
 CP 165 #[pointer q1,string z] i1 (fun r1 s1=>
 Zp r1 fun t1=>
 (s1.cell? ((j1.add 9).add 3)=some (slice k1 l1 m1)∧True)∧
 Zm k1 q l1 (fun u1=>
 Zu s1 (u1.add (q.toNat*1)) (bool t1) fun v1=>
 Ar .i64 (q+1) (fun x1=>
 p [int .i64 x1] v1)))))
 (Zm k1 q l1 (fun y1=>
 Zu i1 (y1.add (q.toNat*1)) (bool false) fun z1=>
 Ar .i64 (q+1) (fun a2=>
 p [int .i64 a2] z1)))))
 (Zm k1 q l1 (fun b2=>
 Zu i1 (b2.add (q.toNat*1)) (bool false) fun c2=>
 Ar .i64 (q+1) (fun d2=>
 p [int .i64 d2] c2)))))))))
 (R (tuple #[]) r))→p [int .i64 q] r)→
 p [int .i64 0] k)))
theorem B4 (a:OA) (w:World) (R:RW) (hh:O4 a w R):CR 108 #[pointer a] w R:=by refine aH (fn:=Tryz.f108) ?_ ?_ ?_ ?_ ?_ hh<;>kernel_rfl
def Qu (a:OA) (w:World) (R:RW):Prop:=
 ac (Option.isNone a)
 (R (int .i64 0) w)
 (ag a (fun b=>
 Zl w (b.add 0) fun c d f=>
 R (int .i64 (d:Int)) w))
theorem Co (a:OA) (w:World) (R:RW) (hh:Qu a w R):CR 116 #[pointer a] w R:=by refine aH (fn:=Tryz.f116) ?_ ?_ ?_ ?_ ?_ hh<;>kernel_rfl
def R9 (a:OA) (b c:Int) (w:World) (R:RW):Prop:=
 CP 175 #[pointer a,int .i64 b] w (fun d f=>
 Zp d fun g=>
 ac g
 (R (bool true) f)
 (CP 175 #[pointer a,int .i64 c] f (fun h i=>
 Zp h fun j=>
 ac j
 (R (bool true) i)
 (CP 54 #[pointer a] i (fun k l=>
 Zj k fun m=>
 CP 163 #[pointer m,int .i64 b] l (fun n o=>
 Zd n fun p q=>
 CP 54 #[pointer a] o (fun r s=>
 Zj r fun t=>
 CP 163 #[pointer t,int .i64 c] s (fun u x=>
 Zd u fun y z=>
 CP 55 #[pointer a] x (fun a1 b1=>
 Zj a1 fun c1=>
 CP 176 #[pointer c1,string p,string y] b1 (fun d1 e1=>
 Zp d1 fun f1=>
 ac f1
 (R (bool true) e1)
 (CP 54 #[pointer a] e1 (fun g1 h1=>
 Zj g1 fun i1=>
 CP 177 #[pointer i1,int .i64 b,int .i64 c,int .i64 9223372036854775807] h1 (fun j1 k1=>
 Zp j1 fun l1=>
 R (bool l1) k1)))))))))))))
theorem Dr (a:OA) (b c:Int) (w:World) (R:RW) (hh:R9 a b c w R):CR 121 #[pointer a,int .i64 b,int .i64 c] w R:=by refine aH (fn:=Tryz.f121) ?_ ?_ ?_ ?_ ?_ hh<;>kernel_rfl
def Q8 (a:Int) (b:OA) (w:World) (R:RW):Prop:=
 ag b (fun c=>
 Zt w c fun d=>
 CP 49 #[pointer d,int .i64 a] w (fun f g=>
 Zp f fun h=>
 R (bool (!h)) g))
theorem Bn (a:Int) (b:OA) (w:World) (R:RW) (hh:Q8 a b w R):CR 126 #[int .i64 a,pointer b] w R:=by refine aH (fn:=Tryz.f126) ?_ ?_ ?_ ?_ ?_ hh<;>kernel_rfl
def Pv (a b:OA) (c d:Nat) (w:World) (R:RW):Prop:=
 ∀f:KW,(∀(g:Int) (h:Bool) (i:Int) (j:World),(ac (decide (g< (c:Int)))
 (Zm b g c (fun k=>
 Zs j (k.add (g.toNat*1)) fun l=>
 CP 43 #[pointer a,int .i64 l] j (fun m n=>
 Zp m fun o=>
 ac (!o)
 (R (tuple #[int .i64 g,bool true]) n)
 (ac (decide (g>0))
 (Ar .i64 (g-1) (fun p=>
 Zm b p c (fun q=>
 Zs n (q.add (p.toNat*1)) fun r=>
 CP 121 #[pointer a,int .i64 r,int .i64 l] n (fun s t=>
 Zp s fun u=>
 ac (!u)
 (R (tuple #[int .i64 g,bool true]) t)
 (Ar .i64 (g+1) (fun x=>
 f [int .i64 x,bool h,int .i64 i] t))))))
 (Ar .i64 (g+1) (fun y=>
 f [int .i64 y,bool h,int .i64 i] n))))))
 (R (tuple #[int .i64 0,bool false]) j))→f [int .i64 g,bool h,int .i64 i] j)→
 f [int .i64 0,bool false,int .i64 0] w
theorem Ck (a b:OA) (c d:Nat) (w:World) (R:RW) (hh:Pv a b c d w R):CR 127 #[pointer a,slice b c d] w R:=by refine aH (fn:=Tryz.f127) ?_ ?_ ?_ ?_ ?_ hh<;>kernel_rfl
def PX (a:Bool) (b:OA) (c d:Nat) (f:OA) (g h:Nat) (i:OA) (j k:Nat) (l:OA) (m n:Nat) (o:OA) (p q:Nat) (w:World) (R:RW):Prop:=
 Zv w #[bool a,slice b c d,slice f g h,slice i j k,slice l m n,slice o p q] 71 fun r=>
 Zk r ((nb w).add 0) fun s=>
 ac s
 (Zl r ((nb w).add 2) fun t u x=>
 CP 188 #[slice t u x] r (fun y z=>
 Zg y fun a1 b1 c1=>
 R (tuple #[pointer a1,int .i64 b1,int .i64 c1]) z))
 (Zl r ((nb w).add 1) fun d1 e1 f1=>
 CP 189 #[slice d1 e1 f1] r (fun g1 h1=>
 Zg g1 fun i1 j1 k1=>
 R (tuple #[pointer i1,int .i64 j1,int .i64 k1]) h1))
theorem BD (a:Bool) (b:OA) (c d:Nat) (f:OA) (g h:Nat) (i:OA) (j k:Nat) (l:OA) (m n:Nat) (o:OA) (p q:Nat) (w:World) (R:RW) (hh:PX a b c d f g h i j k l m n o p q w R):CR 130 #[agg #[bool a,slice b c d,slice f g h,slice i j k,slice l m n,slice o p q]] w R:=by refine aH (fn:=Tryz.f130) ?_ ?_ ?_ ?_ ?_ hh<;>kernel_rfl
def PZ (a:OA) (b c:Nat) (w:World) (R:RW):Prop:=
 ∃d f,(Instr.makeMap 108 none).run Tryz.prog w= .ok (map d) f∧
 ∃g h,(Instr.makeMap 205 none).run Tryz.prog f= .ok (map g) h∧
 ∀i,i=h.alloc (.cells (List.toArray ([slice none 0 0,map d,map g]++List.replicate 256 (bool false)++ [int .i64 0])) 250)→
 ∀j:KW,(∀(k l m:Int) (n:OA) (o:World),(ac (decide (k< (b:Int)))
 (Zm a k b (fun p=>
 Zc o (p.add (k.toNat*2)) fun q r=>
 Zv o #[int .i64 0,string ⟨#[]⟩] 87 fun s=>
 aI s (nb o) (fun t=>
 Zc t (nb o) fun u x=>
 CP 190 #[pointer (some (nb h)),agg #[int .i64 u,string x]] t (fun y z=>
 Zx y fun a1=>
 ac (a1 != 0)
 (R (tuple #[pointer none,int .i64 k,int .i64 a1]) z)
 (Ar .i64 (k+1) (fun b1=>
 j [int .i64 b1,int .i64 l,int .i64 m,pointer n] z)))) [int .i64 q,string r] 0))
 (R (tuple #[pointer (some (nb h)),int .i64 (b:Int),int .i64 0]) o))→j [int .i64 k,int .i64 l,int .i64 m,pointer n] o)→
 j [int .i64 0,int .i64 0,int .i64 0,pointer none] i
theorem Bc (a:OA) (b c:Nat) (w:World) (R:RW) (hh:PZ a b c w R):CR 131 #[slice a b c] w R:=by refine aH (fn:=Tryz.f131) ?_ ?_ ?_ ?_ ?_ hh<;>kernel_rfl
def Qa (a:OA) (b c:Nat) (d:Value) (w:World) (R:RW):Prop:=
 ∀f:KW,(∀(g h:Int) (i:World),(ac (decide (g< (b:Int)))
 (Zm a g b (fun j=>
 Zc i (j.add (g.toNat*2)) fun k l=>
 bM gq d [agg #[int .i64 k,string l]] i (fun m n=>
 Zp m fun o=>
 ac o
 (R (int .i64 g) n)
 (Ar .i64 (g+1) (fun p=>
 f [int .i64 p,int .i64 h] n)))))
 (R (int .i64 (-1)) i))→f [int .i64 g,int .i64 h] i)→
 f [int .i64 0,int .i64 0] w
theorem yF (a:OA) (b c:Nat) (d:Value) (w:World) (R:RW) (hh:Qa a b c d w R):CR 132 #[slice a b c,d] w R:=by refine aH (fn:=Tryz.f132) ?_ ?_ ?_ ?_ ?_ hh<;>kernel_rfl
def PT (a:Int) (b:ByteArray) (c:OA) (w:World) (R:RW):Prop:=
 Zv w #[int .i64 a,string b] 87 fun d=>
 ∀f,f=d.drew→
 Zs f ((nb w).add 0) fun g=>
 ag c (fun h=>
 Zt f h fun i=>
 CP 116 #[pointer i] f (fun j k=>
 Zx j fun l=>
 (k.cell? ((nb w).add 0)=some (int .i64 g)∧True)∧
 R (bool (decide (g<l))) k))
theorem AA (a:Int) (b:ByteArray) (c:OA) (w:World) (R:RW) (hh:PT a b c w R):CR 133 #[agg #[int .i64 a,string b],pointer c] w R:=by refine aH (fn:=Tryz.f133) ?_ ?_ ?_ ?_ ?_ hh<;>kernel_rfl
def RM (a:OA) (b c:Nat) (d:OA) (f g:Nat) (w:World) (R:RW):Prop:=
 ∀h,h=w.alloc (.cells (List.toArray (List.replicate 256 (int .i64 0)++List.replicate 256 (bool false))) 288)→
 ∀i:KW,(∀(j k:Int) (l:OA) (m:World),(ac (decide (j< (b:Int)))
 (Zm a j b (fun n=>
 Zb m (n.add (j.toNat*3)) fun o p q=>
 Zv m #[int .i64 0,int .i64 0,int .i64 0] 89 fun r=>
 aI r (nb m) (fun s=>
 Zb s (nb m) fun t x y=>
 CP 191 #[agg #[int .i64 t,int .i64 x,int .i64 y]] s (fun z a1=>
 Zp z fun b1=>
 ac (!b1)
 (R (tuple #[pointer none,int .i64 1]) a1)
 (Zs a1 ((nb m).add 0) fun c1=>
 ∀d1:KW,(∀(e1:Int) (f1:World),(Zs f1 ((nb m).add 1) fun g1=>
 ac (decide (e1≤g1))
 (∀h1,h1=f1.drew→
 Zs h1 ((nb m).add 2) fun i1=>
 (0:Int)≤e1∧e1< (256:Int)∧
 Zu h1 (((nb w).add 0).add (e1.toNat*1)) (int .i64 i1) fun j1=>
 Ar .i64 (e1+1) (fun k1=>
 d1 [int .i64 k1] j1))
 (Ar .i64 (j+1) (fun l1=>
 i [int .i64 l1,int .i64 k,pointer l] f1)))→d1 [int .i64 e1] f1)→
 d1 [int .i64 c1] a1))) [int .i64 o,int .i64 p,int .i64 q] 0))
 (∀m1:KW,(∀(n1 o1:Int) (p1:OA) (q1:World),(ac (decide (n1< (f:Int)))
 (Zm d n1 f (fun r1=>
 Za q1 (r1.add (n1.toNat*2)) fun s1 t1=>
 Zv q1 #[int .i64 0,int .i64 0] 170 fun u1=>
 aI u1 (nb q1) (fun v1=>
 Zs v1 ((nb q1).add 0) fun x1=>
 CP 192 #[int .i64 x1] v1 (fun y1 z1=>
 Zp y1 fun a2=>
 ac (!a2)
 (R (tuple #[pointer none,int .i64 1]) z1)
 (Zs z1 ((nb q1).add 1) fun b2=>
 CP 192 #[int .i64 b2] z1 (fun c2 d2=>
 Zp c2 fun e2=>
 ac (!e2)
 (R (tuple #[pointer none,int .i64 1]) d2)
 (∀f2,f2=d2.drew→
 Zs f2 ((nb q1).add 0) fun g2=>
 Zs f2 ((nb q1).add 1) fun h2=>
 (0:Int)≤g2∧g2< (16:Int)∧
 (0:Int)≤h2∧h2< (16:Int)∧
 Zu f2 ((((nb w).add 256).add (g2.toNat*16)).add (h2.toNat*1)) (bool true) fun i2=>
 Ar .i64 (n1+1) (fun j2=>
 m1 [int .i64 j2,int .i64 o1,pointer p1] i2)))))) [int .i64 s1,int .i64 t1] 0))
 (R (tuple #[pointer (some (nb w)),int .i64 0]) q1))→m1 [int .i64 n1,int .i64 o1,pointer p1] q1)→
 m1 [int .i64 0,int .i64 k,pointer l] m))→i [int .i64 j,int .i64 k,pointer l] m)→
 i [int .i64 0,int .i64 0,pointer none] h
theorem AL (a:OA) (b c:Nat) (d:OA) (f g:Nat) (w:World) (R:RW) (hh:RM a b c d f g w R):CR 134 #[slice a b c,slice d f g] w R:=by refine aH (fn:=Tryz.f134) ?_ ?_ ?_ ?_ ?_ hh<;>kernel_rfl
def Qi (a:OA) (b c:Nat) (w:World) (R:RW):Prop:=
 ac (Option.isNone a)
 (R (slice none 0 0) w)
 (Zv w #[] 85 fun d=>
 Zh 33 #[slice (some (nb w)) 0 0,slice a b c] d fun f g h i=>
 R (slice f g h) i)
theorem Ab (a:OA) (b c:Nat) (w:World) (R:RW) (hh:Qi a b c w R):CR 142 #[slice a b c] w R:=by refine aH (fn:=Tryz.f142) ?_ ?_ ?_ ?_ ?_ hh<;>kernel_rfl
def Q3 (a:OA) (b c:Nat) (w:World) (R:RW):Prop:=
 ac (Option.isNone a)
 (R (slice none 0 0) w)
 (Zv w #[] 9 fun d=>
 Zh 32 #[slice (some (nb w)) 0 0,slice a b c] d fun f g h i=>
 R (slice f g h) i)
theorem yE (a:OA) (b c:Nat) (w:World) (R:RW) (hh:Q3 a b c w R):CR 143 #[slice a b c] w R:=by refine aH (fn:=Tryz.f143) ?_ ?_ ?_ ?_ ?_ hh<;>kernel_rfl
def OH (a:OA) (b c:Nat) (w:World) (R:RW):Prop:=
 ac (Option.isNone a)
 (R (slice none 0 0) w)
 (Zv w #[] 87 fun d=>
 Zh 25 #[slice (some (nb w)) 0 0,slice a b c] d fun f g h i=>
 R (slice f g h) i)
theorem At (a:OA) (b c:Nat) (w:World) (R:RW) (hh:OH a b c w R):CR 144 #[slice a b c] w R:=by refine aH (fn:=Tryz.f144) ?_ ?_ ?_ ?_ ?_ hh<;>kernel_rfl
def RA (a:OA) (b c:Nat) (w:World) (R:RW):Prop:=
 ac (Option.isNone a)
 (R (slice none 0 0) w)
 (Zv w #[] 89 fun d=>
 Zh 23 #[slice (some (nb w)) 0 0,slice a b c] d fun f g h i=>
 R (slice f g h) i)
theorem BQ (a:OA) (b c:Nat) (w:World) (R:RW) (hh:RA a b c w R):CR 145 #[slice a b c] w R:=by refine aH (fn:=Tryz.f145) ?_ ?_ ?_ ?_ ?_ hh<;>kernel_rfl
def Pc (a:OA) (b c:Nat) (w:World) (R:RW):Prop:=
 ac (Option.isNone a)
 (R (slice none 0 0) w)
 (Zv w #[] 170 fun d=>
 Zh 24 #[slice (some (nb w)) 0 0,slice a b c] d fun f g h i=>
 R (slice f g h) i)
theorem Cc (a:OA) (b c:Nat) (w:World) (R:RW) (hh:Pc a b c w R):CR 146 #[slice a b c] w R:=by refine aH (fn:=Tryz.f146) ?_ ?_ ?_ ?_ ?_ hh<;>kernel_rfl
def Rl (a:OA) (b c:Nat) (d:Int) (f:Value) (w:World) (R:RW):Prop:=
 ∀g,g=w.alloc (.cells (Value.cells f) 234)→
 ac (decide ((b:Int)≤d))
 (CP 194 #[slice a b c,func (.func 195) #[] #[pointer (some (nb w))]] g (fun h i=>
 Zp h fun j=>
 R (bool (!j)) i))
 (R (bool false) g)
theorem zp (a:OA) (b c:Nat) (d:Int) (f:Value) (w:World) (R:RW) (hh:Rl a b c d f w R):CR 147 #[slice a b c,int .i64 d,f] w R:=by refine aH (fn:=Tryz.f147) ?_ ?_ ?_ ?_ ?_ hh<;>kernel_rfl
def QV (a b:Int) (w:World) (R:RW):Prop:=
 Zv w #[int .i64 a,int .i64 b] 85 fun c=>
 Zs c ((nb w).add 0) fun d=>
 CP 196 #[int .i64 d,int .i64 0,int .i64 999] c (fun f g=>
 Zp f fun h=>
 ac h
 (Zs g ((nb w).add 1) fun i=>
 CP 196 #[int .i64 i,int .i64 0,int .i64 999] g (fun j k=>
 Zp j fun l=>
 R (bool l) k))
 (R (bool false) g))
theorem xZ (a b:Int) (w:World) (R:RW) (hh:QV a b w R):CR 148 #[agg #[int .i64 a,int .i64 b]] w R:=by refine aH (fn:=Tryz.f148) ?_ ?_ ?_ ?_ ?_ hh<;>kernel_rfl
def QX (a:OA) (b c:Nat) (d:Int) (f:Value) (w:World) (R:RW):Prop:=
 ∀g,g=w.alloc (.cells (Value.cells f) 78)→
 ac (decide ((b:Int)≤d))
 (CP 197 #[slice a b c,func (.func 198) #[] #[pointer (some (nb w))]] g (fun h i=>
 Zp h fun j=>
 R (bool (!j)) i))
 (R (bool false) g)
theorem C5 (a:OA) (b c:Nat) (d:Int) (f:Value) (w:World) (R:RW) (hh:QX a b c d f w R):CR 149 #[slice a b c,int .i64 d,f] w R:=by refine aH (fn:=Tryz.f149) ?_ ?_ ?_ ?_ ?_ hh<;>kernel_rfl
def OL (a:ByteArray) (w:World) (R:RW):Prop:=
 CP 196 #[int .i64 (a.size:Int),int .i64 2,int .i64 64] w (fun b c=>
 Zp b fun d=>
 R (bool d) c)
theorem Cg (a:ByteArray) (w:World) (R:RW) (hh:OL a w R):CR 150 #[string a] w R:=by refine aH (fn:=Tryz.f150) ?_ ?_ ?_ ?_ ?_ hh<;>kernel_rfl
def Sp (a:OA) (b c:Nat) (d:Int) (f:Value) (w:World) (R:RW):Prop:=
 ∀g,g=w.alloc (.cells (Value.cells f) 218)→
 ac (decide ((b:Int)≤d))
 (CP 199 #[slice a b c,func (.func 200) #[] #[pointer (some (nb w))]] g (fun h i=>
 Zp h fun j=>
 R (bool (!j)) i))
 (R (bool false) g)
theorem BJ (a:OA) (b c:Nat) (d:Int) (f:Value) (w:World) (R:RW) (hh:Sp a b c d f w R):CR 151 #[slice a b c,int .i64 d,f] w R:=by refine aH (fn:=Tryz.f151) ?_ ?_ ?_ ?_ ?_ hh<;>kernel_rfl
def Qc (a:Int) (b:ByteArray) (w:World) (R:RW):Prop:=
 Zv w #[int .i64 a,string b] 87 fun c=>
 Zs c ((nb w).add 0) fun d=>
 CP 196 #[int .i64 d,int .i64 0,int .i64 1073741824] c (fun f g=>
 Zp f fun h=>
 ac h
 (Z0 g ((nb w).add 1) fun i=>
 CP 196 #[int .i64 (i.size:Int),int .i64 1,int .i64 64] g (fun j k=>
 Zp j fun l=>
 R (bool l) k))
 (R (bool false) g))
theorem yP (a:Int) (b:ByteArray) (w:World) (R:RW) (hh:Qc a b w R):CR 152 #[agg #[int .i64 a,string b]] w R:=by refine aH (fn:=Tryz.f152) ?_ ?_ ?_ ?_ ?_ hh<;>kernel_rfl
def Q6 (a:OA) (b c:Nat) (d:Int) (f:Value) (w:World) (R:RW):Prop:=
 ∀g,g=w.alloc (.cells (Value.cells f) 238)→
 ac (decide ((b:Int)≤d))
 (CP 201 #[slice a b c,func (.func 202) #[] #[pointer (some (nb w))]] g (fun h i=>
 Zp h fun j=>
 R (bool (!j)) i))
 (R (bool false) g)
theorem zg (a:OA) (b c:Nat) (d:Int) (f:Value) (w:World) (R:RW) (hh:Q6 a b c d f w R):CR 153 #[slice a b c,int .i64 d,f] w R:=by refine aH (fn:=Tryz.f153) ?_ ?_ ?_ ?_ ?_ hh<;>kernel_rfl
def PM (a b c:Int) (w:World) (R:RW):Prop:=
 Zv w #[int .i64 a,int .i64 b,int .i64 c] 89 fun d=>
 Zs d ((nb w).add 0) fun f=>
 Zs d ((nb w).add 1) fun g=>
 CP 196 #[int .i64 f,int .i64 0,int .i64 g] d (fun h i=>
 Zp h fun j=>
 ac j
 (Zs i ((nb w).add 1) fun k=>
 ac (decide (k≤255))
 (Zs i ((nb w).add 2) fun l=>
 CP 196 #[int .i64 l,int .i64 0,int .i64 15] i (fun m n=>
 Zp m fun o=>
 R (bool o) n))
 (R (bool false) i))
 (R (bool false) i))
theorem Dd (a b c:Int) (w:World) (R:RW) (hh:PM a b c w R):CR 154 #[agg #[int .i64 a,int .i64 b,int .i64 c]] w R:=by refine aH (fn:=Tryz.f154) ?_ ?_ ?_ ?_ ?_ hh<;>kernel_rfl
def R0 (a:OA) (b c:Nat) (d:Int) (f:Value) (w:World) (R:RW):Prop:=
 ∀g,g=w.alloc (.cells (Value.cells f) 240)→
 ac (decide ((b:Int)≤d))
 (CP 203 #[slice a b c,func (.func 204) #[] #[pointer (some (nb w))]] g (fun h i=>
 Zp h fun j=>
 R (bool (!j)) i))
 (R (bool false) g)
theorem Av (a:OA) (b c:Nat) (d:Int) (f:Value) (w:World) (R:RW) (hh:R0 a b c d f w R):CR 155 #[slice a b c,int .i64 d,f] w R:=by refine aH (fn:=Tryz.f155) ?_ ?_ ?_ ?_ ?_ hh<;>kernel_rfl
def Ra (a b:Int) (w:World) (R:RW):Prop:=
 Zv w #[int .i64 a,int .i64 b] 170 fun c=>
 Zs c ((nb w).add 0) fun d=>
 CP 196 #[int .i64 d,int .i64 0,int .i64 15] c (fun f g=>
 Zp f fun h=>
 ac h
 (Zs g ((nb w).add 1) fun i=>
 CP 196 #[int .i64 i,int .i64 0,int .i64 15] g (fun j k=>
 Zp j fun l=>
 R (bool l) k))
 (R (bool false) g))
theorem AQ (a b:Int) (w:World) (R:RW) (hh:Ra a b w R):CR 156 #[agg #[int .i64 a,int .i64 b]] w R:=by refine aH (fn:=Tryz.f156) ?_ ?_ ?_ ?_ ?_ hh<;>kernel_rfl
def Rp (a:Int) (w:World) (R:RW):Prop:=
 Ar .i64 ((-1:Int)-a) (fun b=>
 R (int .i64 b) w)
theorem C9 (a:Int) (w:World) (R:RW) (hh:Rp a w R):CR 160 #[int .i64 a] w R:=by refine aH (fn:=Tryz.f160) ?_ ?_ ?_ ?_ ?_ hh<;>kernel_rfl
def O_ (a:OA) (b:Int) (w:World) (R:RW):Prop:=
 CP 210 #[pointer a,int .i64 b] w (fun c d=>
 Zp c fun f=>
 ac (!f)
 (R (tuple #[string ⟨#[]⟩,bool false]) d)
 (ag a (fun g=>
 Zl d (g.add 0) fun h i j=>
 Zm h b i (fun k=>
 Z0 d ((k.add (b.toNat*3)).add 0) fun l=>
 R (tuple #[string l,bool true]) d))))
theorem Ai (a:OA) (b:Int) (w:World) (R:RW) (hh:O_ a b w R):CR 163 #[pointer a,int .i64 b] w R:=by refine aH (fn:=Tryz.f163) ?_ ?_ ?_ ?_ ?_ hh<;>kernel_rfl
def Pq (a:OA) (b:ByteArray) (w:World) (R:RW):Prop:=
 CP 116 #[pointer a] w (fun c d=>
 Zx c fun f=>
 CP 211 #[pointer a,string b,int .i64 f] d (fun g h=>
 Zr g fun i j k=>
 R (slice i j k) h))
theorem CM (a:OA) (b:ByteArray) (w:World) (R:RW) (hh:Pq a b w R):CR 164 #[pointer a,string b] w R:=by refine aH (fn:=Tryz.f164) ?_ ?_ ?_ ?_ ?_ hh<;>kernel_rfl
def RO (a:OA) (b:ByteArray) (w:World) (R:RW):Prop:=
 CP 212 #[pointer a,string b] w (fun c d=>
 Zr c fun f g h=>
 R (bool (decide ((g:Int)≤1))) d)
theorem ye (a:OA) (b:ByteArray) (w:World) (R:RW) (hh:RO a b w R):CR 165 #[pointer a,string b] w R:=by refine aH (fn:=Tryz.f165) ?_ ?_ ?_ ?_ ?_ hh<;>kernel_rfl
def Sf (a:OA) (b:Int) (w:World) (R:RW):Prop:=
 Zv w #[int .i64 0,string ⟨#[]⟩] 87 fun c=>
 ac (decide (b≥0))
 (aI c (nb w) (fun d=>
 Zc d (nb w) fun f g=>
 R (tuple #[agg #[int .i64 f,string g],bool false]) d) [int .i64 0,string ⟨#[]⟩] 0)
 (CP 226 #[pointer a] c (fun h i=>
 Zx h fun j=>
 Ar .i64 (0-j) (fun k=>
 ac (decide (b<k))
 (aI i (nb w) (fun l=>
 Zc l (nb w) fun m n=>
 R (tuple #[agg #[int .i64 m,string n],bool false]) l) [int .i64 0,string ⟨#[]⟩] 0)
 (ag a (fun o=>
 Zl i (o.add 0) fun p q r=>
 Ar .i64 ((-1:Int)-b) (fun s=>
 Zm p s q (fun t=>
 Zc i (t.add (s.toNat*2)) fun u x=>
 aI i (nb w) (fun y=>
 Zc y (nb w) fun z a1=>
 R (tuple #[agg #[int .i64 z,string a1],bool true]) y) [int .i64 u,string x] 0)))))))
theorem BR (a:OA) (b:Int) (w:World) (R:RW) (hh:Sf a b w R):CR 174 #[pointer a,int .i64 b] w R:=by refine aH (fn:=Tryz.f174) ?_ ?_ ?_ ?_ ?_ hh<;>kernel_rfl
def OK (a:OA) (b:Int) (w:World) (R:RW):Prop:=
 CP 56 #[pointer a] w (fun c d=>
 Zj c fun f=>
 CP 106 #[pointer f,int .i64 b] d (fun g h=>
 Zy g fun i j=>
 R (bool j) h))
theorem yL (a:OA) (b:Int) (w:World) (R:RW) (hh:OK a b w R):CR 175 #[pointer a,int .i64 b] w R:=by refine aH (fn:=Tryz.f175) ?_ ?_ ?_ ?_ ?_ hh<;>kernel_rfl
def Ro (a:OA) (b c:ByteArray) (w:World) (R:RW):Prop:=
 ∀d,d=w.drew→
 ac (!(b.toList==(⟨#[]⟩:ByteArray).toList))
 (ac (!(c.toList==(⟨#[]⟩:ByteArray).toList))
 (Ar .i64 (((b.size:Int):Int)-1) (fun f=>
 (0:Int)≤f∧f< (b.size:Int)∧
 (0:Int)≤0∧0< (c.size:Int)∧
 CP 227 #[pointer a,int .u8 (dM b f),int .u8 (dM c 0)] d (fun g h=>
 Zp g fun i=>
 R (bool i) h)))
 (R (bool false) d))
 (R (bool false) d)
theorem CT (a:OA) (b c:ByteArray) (w:World) (R:RW) (hh:Ro a b c w R):CR 176 #[pointer a,string b,string c] w R:=by refine aH (fn:=Tryz.f176) ?_ ?_ ?_ ?_ ?_ hh<;>kernel_rfl
def Q5 (a:OA) (b c d:Int) (w:World) (R:RW):Prop:=
 CP 228 #[pointer a,int .i64 b,int .i64 c] w (fun f g=>
 Zp f fun h=>
 ac h
 (CP 229 #[pointer a,int .i64 b,int .i64 c,int .i64 d] g (fun i j=>
 Zj i fun k=>
 CP 230 #[pointer k] j (fun l m=>
 Zp l fun n=>
 R (bool n) m)))
 (R (bool false) g))
theorem Ag (a:OA) (b c d:Int) (w:World) (R:RW) (hh:Q5 a b c d w R):CR 177 #[pointer a,int .i64 b,int .i64 c,int .i64 d] w R:=by refine aH (fn:=Tryz.f177) ?_ ?_ ?_ ?_ ?_ hh<;>kernel_rfl
def OZ (a:OA) (b c:Nat) (w:World) (R:RW):Prop:=
 CP 189 #[slice none 0 0] w (fun d f=>
 Zg d fun g h i=>
 ac (i != 0)
 (R (tuple #[pointer none,int .i64 0,int .i64 i]) f)
 (∀j:KW,(∀(k l m:Int) (n:OA) (o:World),(ac (decide (k< (b:Int)))
 (Zm a k b (fun p=>
 Z0 o (p.add (k.toNat*1)) fun q=>
 CP 239 #[pointer g,string q] o (fun r s=>
 Z1 r fun t u x=>
 Zv s #[int .i64 0,int .i64 0] 85 fun y=>
 aI y (nb s) (fun z=>
 ac (!x)
 (R (tuple #[pointer none,int .i64 k,int .i64 2]) z)
 (Za z (nb s) fun a1 b1=>
 CP 240 #[pointer g,agg #[int .i64 a1,int .i64 b1]] z (fun c1 d1=>
 Zz c1 fun e1 f1=>
 ac (f1 != 0)
 (R (tuple #[pointer none,int .i64 k,int .i64 f1]) d1)
 (Ar .i64 (k+1) (fun g1=>
 j [int .i64 g1,int .i64 l,int .i64 m,pointer n] d1))))) [int .i64 t,int .i64 u] 0)))
 (R (tuple #[pointer g,int .i64 (b:Int),int .i64 0]) o))→j [int .i64 k,int .i64 l,int .i64 m,pointer n] o)→
 j [int .i64 0,int .i64 0,int .i64 0,pointer none] f))
theorem yK (a:OA) (b c:Nat) (w:World) (R:RW) (hh:OZ a b c w R):CR 188 #[slice a b c] w R:=by refine aH (fn:=Tryz.f188) ?_ ?_ ?_ ?_ ?_ hh<;>kernel_rfl
def R_ (a:OA) (b c:Nat) (w:World) (R:RW):Prop:=
 CP 241 #[] w (fun d f=>
 Zj d fun g=>
 ∀h:KW,(∀(i j k:Int) (l:OA) (m:World),(ac (decide (i< (b:Int)))
 (Zm a i b (fun n=>
 Za m (n.add (i.toNat*2)) fun o p=>
 Zv m #[int .i64 0,int .i64 0] 85 fun q=>
 aI q (nb m) (fun r=>
 Za r (nb m) fun s t=>
 CP 240 #[pointer g,agg #[int .i64 s,int .i64 t]] r (fun u x=>
 Zz u fun y z=>
 ac (z != 0)
 (R (tuple #[pointer none,int .i64 i,int .i64 z]) x)
 (Ar .i64 (i+1) (fun a1=>
 h [int .i64 a1,int .i64 j,int .i64 k,pointer l] x)))) [int .i64 o,int .i64 p] 0))
 (R (tuple #[pointer g,int .i64 (b:Int),int .i64 0]) m))→h [int .i64 i,int .i64 j,int .i64 k,pointer l] m)→
 h [int .i64 0,int .i64 0,int .i64 0,pointer none] f)
theorem yb (a:OA) (b c:Nat) (w:World) (R:RW) (hh:R_ a b c w R):CR 189 #[slice a b c] w R:=by refine aH (fn:=Tryz.f189) ?_ ?_ ?_ ?_ ?_ hh<;>kernel_rfl
def Qh (a:OA) (b:Int) (c:ByteArray) (w:World) (R:RW):Prop:=
 Zv w #[int .i64 b,string c] 87 fun d=>
 ∀f,f=d.drew→
 ag a (fun g=>
 ∃h,f.cell? (g.add 1)=some (map h)∧
 Zs f ((nb w).add 0) fun i=>
 ∃j k l,(Instr.lookup 108 (map h) (int .i64 i) true).run Tryz.prog f= .ok (tuple #[int .i64 j,bool k]) l∧
 ∀m,m=l.drew→
 ag a (fun n=>
 ∃o,m.cell? (n.add 2)=some (map o)∧
 Z0 m ((nb w).add 1) fun p=>
 ∃q r s,(Instr.lookup 205 (map o) (string p) true).run Tryz.prog m= .ok (tuple #[int .i64 q,bool r]) s∧
 Zc s (nb w) fun t x=>
 CP 242 #[agg #[int .i64 t,string x]] s (fun y z=>
 Zp y fun a1=>
 ac (!a1)
 (R (int .i64 1) z)
 (ag a (fun b1=>
 Zl z (b1.add 0) fun c1 d1 e1=>
 ac (decide ((d1:Int)≥32))
 (R (int .i64 3) z)
 (ac k
 (R (int .i64 10) z)
 (ac r
 (R (int .i64 10) z)
 (∀f1,f1=z.drew→
 ag a (fun g1=>
 ∃h1,f1.cell? (g1.add 1)=some (map h1)∧
 Zs f1 ((nb w).add 0) fun i1=>
 ag a (fun j1=>
 ∃k1,f1.cell? (j1.add 2)=some (map k1)∧
 Z0 f1 ((nb w).add 1) fun l1=>
 ag a (fun m1=>
 Zl f1 (m1.add 0) fun n1 o1 p1=>
 ag a (fun q1=>
 Zl f1 (q1.add 0) fun r1 s1 t1=>
 ∃u1 v1 x1,(Instr.mapEntry 108 (map h1) (int .i64 i1)).run Tryz.prog f1= .ok (tuple #[int .i64 u1,int .i64 v1]) x1∧
 (x1.cell? (m1.add 0)=some (slice n1 o1 p1)∧True)∧
 (x1.cell? ((nb w).add 1)=some (string l1)∧True)∧
 ∃y1,(Instr.entryStore 108 (map h1) (int .i64 v1) (int .i64 (o1:Int))).run Tryz.prog x1= .ok () y1∧
 (y1.cell? ((nb w).add 1)=some (string l1)∧True)∧
 ∃z1 a2 b2,(Instr.mapEntry 205 (map k1) (string l1)).run Tryz.prog y1= .ok (tuple #[int .i64 z1,int .i64 a2]) b2∧
 ∃c2,(Instr.entryStore 205 (map k1) (int .i64 a2) (int .i64 (s1:Int))).run Tryz.prog b2= .ok () c2∧
 ∀d2,d2=c2.drew→
 Z0 d2 ((nb w).add 1) fun e2=>
 (0:Int)≤0∧0< (e2.size:Int)∧
 ag a (fun f2=>
 (0:Int)≤(dM e2 0)∧(dM e2 0) < (256:Int)∧
 Zu d2 ((f2.add 3).add ((dM e2 0:Int).toNat*1)) (bool true) fun g2=>
 ∀h2,h2=g2.drew→
 ag a (fun i2=>
 Zs h2 (i2.add 259) fun j2=>
 Z0 h2 ((nb w).add 1) fun k2=>
 ∃l2 m2,(Builtin.max_ #[3,3] 3 #[int .i64 j2,int .i64 (k2.size:Int)]).run Tryz.prog h2= .ok (int .i64 l2) m2∧
 ag a (fun n2=>
 Zu m2 (n2.add 259) (int .i64 l2) fun o2=>
 ∀p2,p2=o2.drew→
 ag a (fun q2=>
 Zl p2 (q2.add 0) fun r2 s2 t2=>
 Zc p2 (nb w) fun u2 v2=>
 Zv p2 #[int .i64 u2,string v2] 87 fun x2=>
 (x2.cell? (q2.add 0)=some (slice r2 s2 t2)∧True)∧
 Zh 25 #[slice r2 s2 t2,slice (some (nb p2)) 1 1] x2 fun y2 z2 a3 b3=>
 ag a (fun c3=>
 Zu b3 (c3.add 0) (slice y2 z2 a3) fun d3=>
 R (int .i64 0) d3)))))))))))))))))
theorem Dt (a:OA) (b:Int) (c:ByteArray) (w:World) (R:RW) (hh:Qh a b c w R):CR 190 #[pointer a,agg #[int .i64 b,string c]] w R:=by refine aH (fn:=Tryz.f190) ?_ ?_ ?_ ?_ ?_ hh<;>kernel_rfl
def QS (a b c:Int) (w:World) (R:RW):Prop:=
 Zv w #[int .i64 a,int .i64 b,int .i64 c] 89 fun d=>
 Zs d ((nb w).add 0) fun f=>
 ac (decide (f≥0))
 (Zs d ((nb w).add 0) fun g=>
 Zs d ((nb w).add 1) fun h=>
 ac (decide (g≤h))
 (Zs d ((nb w).add 1) fun i=>
 ac (decide (i<256))
 (Zs d ((nb w).add 2) fun j=>
 CP 192 #[int .i64 j] d (fun k l=>
 Zp k fun m=>
 R (bool m) l))
 (R (bool false) d))
 (R (bool false) d))
 (R (bool false) d)
theorem AJ (a b c:Int) (w:World) (R:RW) (hh:QS a b c w R):CR 191 #[agg #[int .i64 a,int .i64 b,int .i64 c]] w R:=by refine aH (fn:=Tryz.f191) ?_ ?_ ?_ ?_ ?_ hh<;>kernel_rfl
def Qn (a:Int) (w:World) (R:RW):Prop:=
 ac (decide (a≥0))
 (R (bool (decide (a<16))) w)
 (R (bool false) w)
theorem Dp (a:Int) (w:World) (R:RW) (hh:Qn a w R):CR 192 #[int .i64 a] w R:=by refine aH (fn:=Tryz.f192) ?_ ?_ ?_ ?_ ?_ hh<;>kernel_rfl
def RT (a:OA) (b c:Nat) (d:Value) (w:World) (R:RW):Prop:=
 CP 243 #[slice a b c,d] w (fun f g=>
 Zx f fun h=>
 R (bool (decide (h≥0))) g)
theorem BK (a:OA) (b c:Nat) (d:Value) (w:World) (R:RW) (hh:RT a b c d w R):CR 194 #[slice a b c,d] w R:=by refine aH (fn:=Tryz.f194) ?_ ?_ ?_ ?_ ?_ hh<;>kernel_rfl
def Q2 (a b:Int) (c:OA) (w:World) (R:RW):Prop:=
 Zv w #[int .i64 a,int .i64 b] 85 fun d=>
 ag c (fun f=>
 ∃g,d.cell? f=some (g)∧
 Za d (nb w) fun h i=>
 bM gq g [agg #[int .i64 h,int .i64 i]] d (fun j k=>
 Zp j fun l=>
 R (bool (!l)) k))
theorem zE (a b:Int) (c:OA) (w:World) (R:RW) (hh:Q2 a b c w R):CR 195 #[agg #[int .i64 a,int .i64 b],pointer c] w R:=by refine aH (fn:=Tryz.f195) ?_ ?_ ?_ ?_ ?_ hh<;>kernel_rfl
def QN (a b c:Int) (w:World) (R:RW):Prop:=
 ac (decide (a≥b))
 (R (bool (decide (a≤c))) w)
 (R (bool false) w)
theorem Cv (a b c:Int) (w:World) (R:RW) (hh:QN a b c w R):CR 196 #[int .i64 a,int .i64 b,int .i64 c] w R:=by refine aH (fn:=Tryz.f196) ?_ ?_ ?_ ?_ ?_ hh<;>kernel_rfl
def Sr (a:OA) (b c:Nat) (d:Value) (w:World) (R:RW):Prop:=
 CP 244 #[slice a b c,d] w (fun f g=>
 Zx f fun h=>
 R (bool (decide (h≥0))) g)
theorem Ce (a:OA) (b c:Nat) (d:Value) (w:World) (R:RW) (hh:Sr a b c d w R):CR 197 #[slice a b c,d] w R:=by refine aH (fn:=Tryz.f197) ?_ ?_ ?_ ?_ ?_ hh<;>kernel_rfl
def P2 (a:ByteArray) (b:OA) (w:World) (R:RW):Prop:=
 ag b (fun c=>
 ∃d,w.cell? c=some (d)∧
 bM gq d [string a] w (fun f g=>
 Zp f fun h=>
 R (bool (!h)) g))
theorem zA (a:ByteArray) (b:OA) (w:World) (R:RW) (hh:P2 a b w R):CR 198 #[string a,pointer b] w R:=by refine aH (fn:=Tryz.f198) ?_ ?_ ?_ ?_ ?_ hh<;>kernel_rfl
def Qf (a:OA) (b c:Nat) (d:Value) (w:World) (R:RW):Prop:=
 CP 132 #[slice a b c,d] w (fun f g=>
 Zx f fun h=>
 R (bool (decide (h≥0))) g)
theorem Cj (a:OA) (b c:Nat) (d:Value) (w:World) (R:RW) (hh:Qf a b c d w R):CR 199 #[slice a b c,d] w R:=by refine aH (fn:=Tryz.f199) ?_ ?_ ?_ ?_ ?_ hh<;>kernel_rfl
def PG (a:Int) (b:ByteArray) (c:OA) (w:World) (R:RW):Prop:=
 Zv w #[int .i64 a,string b] 87 fun d=>
 ag c (fun f=>
 ∃g,d.cell? f=some (g)∧
 Zc d (nb w) fun h i=>
 bM gq g [agg #[int .i64 h,string i]] d (fun j k=>
 Zp j fun l=>
 R (bool (!l)) k))
theorem Dg (a:Int) (b:ByteArray) (c:OA) (w:World) (R:RW) (hh:PG a b c w R):CR 200 #[agg #[int .i64 a,string b],pointer c] w R:=by refine aH (fn:=Tryz.f200) ?_ ?_ ?_ ?_ ?_ hh<;>kernel_rfl
def RN (a:OA) (b c:Nat) (d:Value) (w:World) (R:RW):Prop:=
 CP 245 #[slice a b c,d] w (fun f g=>
 Zx f fun h=>
 R (bool (decide (h≥0))) g)
theorem BX (a:OA) (b c:Nat) (d:Value) (w:World) (R:RW) (hh:RN a b c d w R):CR 201 #[slice a b c,d] w R:=by refine aH (fn:=Tryz.f201) ?_ ?_ ?_ ?_ ?_ hh<;>kernel_rfl
def Qd (a b c:Int) (d:OA) (w:World) (R:RW):Prop:=
 Zv w #[int .i64 a,int .i64 b,int .i64 c] 89 fun f=>
 ag d (fun g=>
 ∃h,f.cell? g=some (h)∧
 Zb f (nb w) fun i j k=>
 bM gq h [agg #[int .i64 i,int .i64 j,int .i64 k]] f (fun l m=>
 Zp l fun n=>
 R (bool (!n)) m))
theorem zl (a b c:Int) (d:OA) (w:World) (R:RW) (hh:Qd a b c d w R):CR 202 #[agg #[int .i64 a,int .i64 b,int .i64 c],pointer d] w R:=by refine aH (fn:=Tryz.f202) ?_ ?_ ?_ ?_ ?_ hh<;>kernel_rfl
def Pr (a:OA) (b c:Nat) (d:Value) (w:World) (R:RW):Prop:=
 CP 246 #[slice a b c,d] w (fun f g=>
 Zx f fun h=>
 R (bool (decide (h≥0))) g)
theorem Bb (a:OA) (b c:Nat) (d:Value) (w:World) (R:RW) (hh:Pr a b c d w R):CR 203 #[slice a b c,d] w R:=by refine aH (fn:=Tryz.f203) ?_ ?_ ?_ ?_ ?_ hh<;>kernel_rfl
def P9 (a b:Int) (c:OA) (w:World) (R:RW):Prop:=
 Zv w #[int .i64 a,int .i64 b] 170 fun d=>
 ag c (fun f=>
 ∃g,d.cell? f=some (g)∧
 Za d (nb w) fun h i=>
 bM gq g [agg #[int .i64 h,int .i64 i]] d (fun j k=>
 Zp j fun l=>
 R (bool (!l)) k))
theorem Bg (a b:Int) (c:OA) (w:World) (R:RW) (hh:P9 a b c w R):CR 204 #[agg #[int .i64 a,int .i64 b],pointer c] w R:=by refine aH (fn:=Tryz.f204) ?_ ?_ ?_ ?_ ?_ hh<;>kernel_rfl
def Ps (a:OA) (b:Int) (w:World) (R:RW):Prop:=
 ac (decide (b≥0))
 (CP 116 #[pointer a] w (fun c d=>
 Zx c fun f=>
 R (bool (decide (b<f))) d))
 (R (bool false) w)
theorem yI (a:OA) (b:Int) (w:World) (R:RW) (hh:Ps a b w R):CR 210 #[pointer a,int .i64 b] w R:=by refine aH (fn:=Tryz.f210) ?_ ?_ ?_ ?_ ?_ hh<;>kernel_rfl
def Qy (a:OA) (b:ByteArray) (c:Int) (w:World) (R:RW):Prop:=
 ac (Option.isNone a)
 (R (slice none 0 0) w)
 (CP 251 #[pointer a,string b,int .i64 c] w (fun d f=>
 Zj d fun g=>
 CP 252 #[pointer g] f (fun h i=>
 h= .returned (tuple #[])∧
 CP 253 #[pointer g] i (fun j k=>
 Zr j fun l m n=>
 R (slice l m n) k))))
theorem Ae (a:OA) (b:ByteArray) (c:Int) (w:World) (R:RW) (hh:Qy a b c w R):CR 211 #[pointer a,string b,int .i64 c] w R:=by refine aH (fn:=Tryz.f211) ?_ ?_ ?_ ?_ ?_ hh<;>kernel_rfl
def Pk (a:OA) (b:ByteArray) (w:World) (R:RW):Prop:=
 ∀c:KW,(∀(d f:Int) (g:OA) (h i:Nat) (j:World),(ac (decide (d≤(b.size:Int)))
 (∀k:KW,(∀(l:Int) (m:OA) (n o:Nat) (p:World),(Ar .i64 (d+1) (fun q=>
 c [int .i64 q,int .i64 l,slice m n o] p))→k [int .i64 l,slice m n o] p)→
 ∀r,r=j.drew→
 ac (d==(b.size:Int))
 ((0:Int)≤f∧f≤d∧d≤(b.size:Int)∧
 Zv r #[string (b.extract f.toNat d.toNat)] 9 fun s=>
 Zh 32 #[slice g h i,slice (some (nb r)) 1 1] s fun t u x y=>
 k [int .i64 d,slice t u x] y)
 (Ar .i64 (d-1) (fun z=>
 (0:Int)≤z∧z< (b.size:Int)∧
 (0:Int)≤d∧d< (b.size:Int)∧
 CP 227 #[pointer a,int .u8 (dM b z),int .u8 (dM b d)] r (fun a1 b1=>
 Zp a1 fun c1=>
 ac c1
 ((0:Int)≤f∧f≤d∧d≤(b.size:Int)∧
 Zv b1 #[string (b.extract f.toNat d.toNat)] 9 fun d1=>
 Zh 32 #[slice g h i,slice (some (nb b1)) 1 1] d1 fun e1 f1 g1 h1=>
 k [int .i64 d,slice e1 f1 g1] h1)
 (k [int .i64 f,slice g h i] b1)))))
 (R (slice g h i) j))→c [int .i64 d,int .i64 f,slice g h i] j)→
 c [int .i64 1,int .i64 0,slice none 0 0] w
theorem BV (a:OA) (b:ByteArray) (w:World) (R:RW) (hh:Pk a b w R):CR 212 #[pointer a,string b] w R:=by refine aH (fn:=Tryz.f212) ?_ ?_ ?_ ?_ ?_ hh<;>kernel_rfl
def Ss (a:OA) (w:World) (R:RW):Prop:=
 ac (Option.isNone a)
 (R (int .i64 0) w)
 (ag a (fun b=>
 Zl w (b.add 0) fun c d f=>
 R (int .i64 (d:Int)) w))
theorem CK (a:OA) (w:World) (R:RW) (hh:Ss a w R):CR 226 #[pointer a] w R:=by refine aH (fn:=Tryz.f226) ?_ ?_ ?_ ?_ ?_ hh<;>kernel_rfl
def OT (a:OA) (b c:Int) (w:World) (R:RW):Prop:=
 ac (Option.isNone a)
 (R (bool false) w)
 (∀d,d=w.drew→
 ag a (fun f=>
 (0:Int)≤b∧b< (256:Int)∧
 Zs d ((f.add 0).add (b.toNat*1)) fun g=>
 ag a (fun h=>
 (0:Int)≤c∧c< (256:Int)∧
 Zs d ((h.add 0).add (c.toNat*1)) fun i=>
 ac (g != i)
 (ag a (fun j=>
 (0:Int)≤g∧g< (16:Int)∧
 (0:Int)≤i∧i< (16:Int)∧
 Zk d (((j.add 256).add (g.toNat*16)).add (i.toNat*1)) fun k=>
 R (bool (!k)) d))
 (R (bool false) d))))
theorem Ak (a:OA) (b c:Int) (w:World) (R:RW) (hh:OT a b c w R):CR 227 #[pointer a,int .u8 b,int .u8 c] w R:=by refine aH (fn:=Tryz.f227) ?_ ?_ ?_ ?_ ?_ hh<;>kernel_rfl
def Sk (a:OA) (b c:Int) (w:World) (R:RW):Prop:=
 ac (decide (b≥0))
 (CP 116 #[pointer a] w (fun d f=>
 Zx d fun g=>
 ac (decide (b<g))
 (ac (decide (c≥0))
 (CP 116 #[pointer a] f (fun h i=>
 Zx h fun j=>
 R (bool (decide (c<j))) i))
 (R (bool false) f))
 (R (bool false) f)))
 (R (bool false) w)
theorem CQ (a:OA) (b c:Int) (w:World) (R:RW) (hh:Sk a b c w R):CR 228 #[pointer a,int .i64 b,int .i64 c] w R:=by refine aH (fn:=Tryz.f228) ?_ ?_ ?_ ?_ ?_ hh<;>kernel_rfl
def Rv (a:OA) (b c d:Int) (w:World) (R:RW):Prop:=
 Zv w #[int .i64 b,int .i64 c,pointer a,int .i64 d,int .i64 0] 343 fun f=>
 R (pointer (some (nb w))) f
theorem zx (a:OA) (b c d:Int) (w:World) (R:RW) (hh:Rv a b c d w R):CR 229 #[pointer a,int .i64 b,int .i64 c,int .i64 d] w R:=by refine aH (fn:=Tryz.f229) ?_ ?_ ?_ ?_ ?_ hh<;>kernel_rfl
def Se (a:OA) (w:World) (R:RW):Prop:=
 ∀b:KW,(∀(c:Bool) (d:World),(CP 264 #[pointer a] d (fun f g=>
 Zp f fun h=>
 ac (!h)
 (CP 265 #[pointer a] g (fun i j=>
 Zp i fun k=>
 ac (!k)
 (R (bool true) j)
 (b [bool c] j)))
 (R (bool false) g)))→b [bool c] d)→
 b [bool false] w
theorem CJ (a:OA) (w:World) (R:RW) (hh:Se a w R):CR 230 #[pointer a] w R:=by refine aH (fn:=Tryz.f230) ?_ ?_ ?_ ?_ ?_ hh<;>kernel_rfl
def PV (a:OA) (b:ByteArray) (w:World) (R:RW):Prop:=
 Zv w #[int .i64 0,int .i64 0] 85 fun c=>
 CP 164 #[pointer a,string b] c (fun d f=>
 Zr d fun g h i=>
 ac ((h:Int) != 2)
 (aI f (nb w) (fun j=>
 Za j (nb w) fun k l=>
 R (tuple #[agg #[int .i64 k,int .i64 l],bool false]) j) [int .i64 0,int .i64 0] 0)
 (∀m,m=f.drew→
 Zm g 0 h (fun n=>
 Zs m (n.add ((0:Int).toNat*1)) fun o=>
 Zm g 1 h (fun p=>
 Zs m (p.add ((1:Int).toNat*1)) fun q=>
 aI m (nb w) (fun r=>
 Za r (nb w) fun s t=>
 R (tuple #[agg #[int .i64 s,int .i64 t],bool true]) r) [int .i64 o,int .i64 q] 0))))
theorem Ci (a:OA) (b:ByteArray) (w:World) (R:RW) (hh:PV a b w R):CR 239 #[pointer a,string b] w R:=by refine aH (fn:=Tryz.f239) ?_ ?_ ?_ ?_ ?_ hh<;>kernel_rfl
def PD (a:OA) (b c:Int) (w:World) (R:RW):Prop:=
 Zv w #[int .i64 b,int .i64 c] 85 fun d=>
 ac (Option.isNone a)
 (R (tuple #[int .i64 0,int .i64 1]) d)
 (Zs d ((nb w).add 0) fun f=>
 CP 210 #[pointer a,int .i64 f] d (fun g h=>
 Zp g fun i=>
 ac (!i)
 (R (tuple #[int .i64 0,int .i64 4]) h)
 (Zs h ((nb w).add 1) fun j=>
 CP 210 #[pointer a,int .i64 j] h (fun k l=>
 Zp k fun m=>
 ac (!m)
 (R (tuple #[int .i64 0,int .i64 4]) l)
 (∀n,n=l.drew→
 ag a (fun o=>
 Zl n (o.add 0) fun p q r=>
 Zs n ((nb w).add 0) fun s=>
 Zm p s q (fun t=>
 Z0 n ((t.add (s.toNat*3)).add 0) fun x=>
 ag a (fun y=>
 Zl n (y.add 0) fun z a1 b1=>
 Zs n ((nb w).add 1) fun c1=>
 Zm z c1 a1 (fun d1=>
 Z0 n ((d1.add (c1.toNat*3)).add 0) fun e1=>
 ((x.size+e1.size:Nat):Int)≤IntKind.i64.max∧
 ac (decide ((((x++e1:ByteArray).size:Int):Int)>64))
 (R (tuple #[int .i64 0,int .i64 3]) n)
 (ag a (fun f1=>
 Zl n (f1.add 0) fun g1 h1 i1=>
 ac (decide ((h1:Int)≥1000))
 (R (tuple #[int .i64 0,int .i64 5]) n)
 (ag a (fun j1=>
 ∃k1,n.cell? (j1.add 1)=some (map k1)∧
 ∃l1 m1 n1,(Instr.lookup 205 (map k1) (string (x++e1)) true).run Tryz.prog n= .ok (tuple #[int .i64 l1,bool m1]) n1∧
 ac m1
 (R (tuple #[int .i64 0,int .i64 10]) n1)
 (ag a (fun o1=>
 Zl n1 (o1.add 0) fun p1 q1 r1=>
 ∀s1,s1=n1.drew→
 ag a (fun t1=>
 Zl s1 (t1.add 0) fun u1 v1 x1=>
 Za s1 (nb w) fun y1 z1=>
 Zv s1 #[string (x++e1),int .i64 y1,int .i64 z1] 300 fun a2=>
 (a2.cell? (t1.add 0)=some (slice u1 v1 x1)∧True)∧
 Zh 258 #[slice u1 v1 x1,slice (some (nb s1)) 1 1] a2 fun b2 c2 d2 e2=>
 ag a (fun f2=>
 Zu e2 (f2.add 0) (slice b2 c2 d2) fun g2=>
 ∀h2,h2=g2.drew→
 ag a (fun i2=>
 ∃j2,h2.cell? (i2.add 1)=some (map j2)∧
 ag a (fun k2=>
 ∃l2,h2.cell? (k2.add 2)=some (map l2)∧
 Za h2 (nb w) fun m2 n2=>
 ∃o2 p2 q2,(Instr.mapEntry 205 (map j2) (string (x++e1))).run Tryz.prog h2= .ok (tuple #[int .i64 o2,int .i64 p2]) q2∧
 (q2.cell? (nb w)=some (int .i64 m2)∧q2.cell? ((nb w).add 1)=some (int .i64 n2)∧True)∧
 ∃r2,(Instr.entryStore 205 (map j2) (int .i64 p2) (int .i64 (q1:Int))).run Tryz.prog q2= .ok () r2∧
 (r2.cell? (nb w)=some (int .i64 m2)∧r2.cell? ((nb w).add 1)=some (int .i64 n2)∧True)∧
 ∃s2 t2 u2,(Instr.mapEntry 259 (map l2) (agg #[int .i64 m2,int .i64 n2])).run Tryz.prog r2= .ok (tuple #[int .i64 s2,int .i64 t2]) u2∧
 ∃v2,(Instr.entryStore 259 (map l2) (int .i64 t2) (int .i64 (q1:Int))).run Tryz.prog u2= .ok () v2∧
 ag a (fun x2=>
 Zs v2 (x2.add 3) fun y2=>
 ∃z2 a3,(Builtin.max_ #[3,3] 3 #[int .i64 y2,int .i64 ((x++e1:ByteArray).size:Int)]).run Tryz.prog v2= .ok (int .i64 z2) a3∧
 ag a (fun b3=>
 Zu a3 (b3.add 3) (int .i64 z2) fun c3=>
 R (tuple #[int .i64 (q1:Int),int .i64 0]) c3)))))))))))))))))))))
theorem Cn (a:OA) (b c:Int) (w:World) (R:RW) (hh:PD a b c w R):CR 240 #[pointer a,agg #[int .i64 b,int .i64 c]] w R:=by refine aH (fn:=Tryz.f240) ?_ ?_ ?_ ?_ ?_ hh<;>kernel_rfl
def PO (w:World) (R:RW):Prop:=
 ∃a b,(Instr.makeMap 205 none).run Tryz.prog w= .ok (map a) b∧
 ∃c d,(Instr.makeMap 259 none).run Tryz.prog b= .ok (map c) d∧
 Zv d #[slice none 0 0,map a,map c,int .i64 1] 261 fun f=>
 ∀g:KW,(∀(h:Int) (i:World),(ac (decide (h<256))
 (Zv i #[int .u8 (IntKind.wrap .u8 h)] 5 fun j=>
 ∃k l,(convert 57 9 (slice (some (nb i)) 1 1)).run Tryz.prog j= .ok (string k) l∧
 Zl l ((nb d).add 0) fun m n o=>
 Zv l #[string k,int .i64 (-1),int .i64 (-1)] 300 fun p=>
 Zh 258 #[slice m n o,slice (some (nb l)) 1 1] p fun q r s t=>
 Zu t ((nb d).add 0) (slice q r s) fun x=>
 ∃y,x.cell? ((nb d).add 1)=some (map y)∧
 ∃z,(Instr.mapUpdate 205 (map y) (string k) (int .i64 h)).run Tryz.prog x= .ok () z∧
 Ar .i64 (h+1) (fun a1=>
 g [int .i64 a1] z))
 (R (pointer (some (nb d))) i))→g [int .i64 h] i)→
 g [int .i64 0] f
theorem CA (w:World) (R:RW) (hh:PO w R):CR 241 #[] w R:=by refine aH (fn:=Tryz.f241) ?_ ?_ ?_ ?_ ?_ hh<;>kernel_rfl
def RH (a:Int) (b:ByteArray) (w:World) (R:RW):Prop:=
 Zv w #[int .i64 a,string b] 87 fun c=>
 Zs c ((nb w).add 0) fun d=>
 ac (decide (d≥0))
 (Zs c ((nb w).add 0) fun f=>
 ac (decide (f≤1073741824))
 (Z0 c ((nb w).add 1) fun g=>
 ac (!(g.toList==(⟨#[]⟩:ByteArray).toList))
 (Z0 c ((nb w).add 1) fun h=>
 R (bool (decide (((h.size:Int):Int)≤64))) c)
 (R (bool false) c))
 (R (bool false) c))
 (R (bool false) c)
theorem yq (a:Int) (b:ByteArray) (w:World) (R:RW) (hh:RH a b w R):CR 242 #[agg #[int .i64 a,string b]] w R:=by refine aH (fn:=Tryz.f242) ?_ ?_ ?_ ?_ ?_ hh<;>kernel_rfl
def Rx (a:OA) (b c:Nat) (d:Value) (w:World) (R:RW):Prop:=
 ∀f:KW,(∀(g h:Int) (i:World),(ac (decide (g< (b:Int)))
 (Zm a g b (fun j=>
 Za i (j.add (g.toNat*2)) fun k l=>
 bM gq d [agg #[int .i64 k,int .i64 l]] i (fun m n=>
 Zp m fun o=>
 ac o
 (R (int .i64 g) n)
 (Ar .i64 (g+1) (fun p=>
 f [int .i64 p,int .i64 h] n)))))
 (R (int .i64 (-1)) i))→f [int .i64 g,int .i64 h] i)→
 f [int .i64 0,int .i64 0] w
theorem A5 (a:OA) (b c:Nat) (d:Value) (w:World) (R:RW) (hh:Rx a b c d w R):CR 243 #[slice a b c,d] w R:=by refine aH (fn:=Tryz.f243) ?_ ?_ ?_ ?_ ?_ hh<;>kernel_rfl
def Rf (a:OA) (b c:Nat) (d:Value) (w:World) (R:RW):Prop:=
 ∀f:KW,(∀(g h:Int) (i:World),(ac (decide (g< (b:Int)))
 (Zm a g b (fun j=>
 Z0 i (j.add (g.toNat*1)) fun k=>
 bM gq d [string k] i (fun l m=>
 Zp l fun n=>
 ac n
 (R (int .i64 g) m)
 (Ar .i64 (g+1) (fun o=>
 f [int .i64 o,int .i64 h] m)))))
 (R (int .i64 (-1)) i))→f [int .i64 g,int .i64 h] i)→
 f [int .i64 0,int .i64 0] w
theorem xY (a:OA) (b c:Nat) (d:Value) (w:World) (R:RW) (hh:Rf a b c d w R):CR 244 #[slice a b c,d] w R:=by refine aH (fn:=Tryz.f244) ?_ ?_ ?_ ?_ ?_ hh<;>kernel_rfl
def RD (a:OA) (b c:Nat) (d:Value) (w:World) (R:RW):Prop:=
 ∀f:KW,(∀(g h:Int) (i:World),(ac (decide (g< (b:Int)))
 (Zm a g b (fun j=>
 Zb i (j.add (g.toNat*3)) fun k l m=>
 bM gq d [agg #[int .i64 k,int .i64 l,int .i64 m]] i (fun n o=>
 Zp n fun p=>
 ac p
 (R (int .i64 g) o)
 (Ar .i64 (g+1) (fun q=>
 f [int .i64 q,int .i64 h] o)))))
 (R (int .i64 (-1)) i))→f [int .i64 g,int .i64 h] i)→
 f [int .i64 0,int .i64 0] w
theorem yJ (a:OA) (b c:Nat) (d:Value) (w:World) (R:RW) (hh:RD a b c d w R):CR 245 #[slice a b c,d] w R:=by refine aH (fn:=Tryz.f245) ?_ ?_ ?_ ?_ ?_ hh<;>kernel_rfl
def Rr (a:OA) (b c:Nat) (d:Value) (w:World) (R:RW):Prop:=
 ∀f:KW,(∀(g h:Int) (i:World),(ac (decide (g< (b:Int)))
 (Zm a g b (fun j=>
 Za i (j.add (g.toNat*2)) fun k l=>
 bM gq d [agg #[int .i64 k,int .i64 l]] i (fun m n=>
 Zp m fun o=>
 ac o
 (R (int .i64 g) n)
 (Ar .i64 (g+1) (fun p=>
 f [int .i64 p,int .i64 h] n)))))
 (R (int .i64 (-1)) i))→f [int .i64 g,int .i64 h] i)→
 f [int .i64 0,int .i64 0] w
theorem AE (a:OA) (b c:Nat) (d:Value) (w:World) (R:RW) (hh:Rr a b c d w R):CR 246 #[slice a b c,d] w R:=by refine aH (fn:=Tryz.f246) ?_ ?_ ?_ ?_ ?_ hh<;>kernel_rfl
def PN (a:OA) (b:ByteArray) (c:Int) (w:World) (R:RW):Prop:=
 CP 279 #[] w (fun d f=>
 Zj d fun g=>
 Zv f #[pointer a,slice none 0 0,pointer g,int .i64 c,int .i64 0] 360 fun h=>
 ∀i:KW,(∀(j:Int) (k:World),(ac (decide (j< (b.size:Int)))
 (∀l,l=k.drew→
 Zl l ((nb f).add 1) fun m n o=>
 (0:Int)≤j∧j< (b.size:Int)∧
 Ar .i64 (j-1) (fun p=>
 Ar .i64 (j+1) (fun q=>
 Zv l #[int .i64 (IntKind.wrap .i64 (dM b j)),int .i64 p,int .i64 q] 362 fun r=>
 (r.cell? ((nb f).add 1)=some (slice m n o)∧True)∧
 Zh 358 #[slice m n o,slice (some (nb l)) 1 1] r fun s t x y=>
 Zu y ((nb f).add 1) (slice s t x) fun z=>
 Ar .i64 (j+1) (fun a1=>
 i [int .i64 a1] z))))
 (∀b1:KW,(∀c1:World,(Zl c1 ((nb f).add 1) fun d1 e1 f1=>
 ∀g1:KW,(∀(h1:Int) (i1:World),(ac (decide (h1< (e1:Int)))
 (CP 280 #[pointer (some (nb f)),int .i64 h1] i1 (fun j1 k1=>
 j1= .returned (tuple #[])∧
 Ar .i64 (h1+1) (fun l1=>
 g1 [int .i64 l1] k1)))
 (R (pointer (some (nb f))) i1))→g1 [int .i64 h1] i1)→
 g1 [int .i64 0] c1)→b1 [] c1)→
 Zl k ((nb f).add 1) fun m1 n1 o1=>
 ac (decide ((n1:Int)>0))
 (Zl k ((nb f).add 1) fun p1 q1 r1=>
 Ar .i64 ((n1:Int)-1) (fun s1=>
 Zm p1 s1 q1 (fun t1=>
 (int .i64 (-1)).oneCell'=true∧(∃u,k.cell? ((t1.add (s1.toNat*3)).add 2)=some u)∧k.frozen? ((t1.add (s1.toNat*3)).add 2)=false∧
 ∀u1,u1=(k.setCell ((t1.add (s1.toNat*3)).add 2) (int .i64 (-1)))→
 b1 [] u1)))
 (b1 [] k)))→i [int .i64 j] k)→
 i [int .i64 0] h)
theorem yh (a:OA) (b:ByteArray) (c:Int) (w:World) (R:RW) (hh:PN a b c w R):CR 251 #[pointer a,string b,int .i64 c] w R:=by refine aH (fn:=Tryz.f251) ?_ ?_ ?_ ?_ ?_ hh<;>kernel_rfl
def P4 (a:OA) (w:World) (R:RW):Prop:=
 ∀b:KW,(∀c:World,(∀d:KW,(∀f:World,(b [] f)→d [] f)→
 ag a (fun g=>
 Zt c (g.add 2) fun h=>
 CP 281 #[pointer h] c (fun i j=>
 Z2 i fun k l m n o p=>
 Zv j #[int .i64 0,int .i64 0,int .i64 0] 357 fun q=>
 aI q (nb j) (fun r=>
 ac (!p)
 (R (tuple #[]) r)
 (Zb r (nb j) fun s t u=>
 CP 282 #[pointer a,agg #[int .i64 s,int .i64 t,int .i64 u]] r (fun x y=>
 Zp x fun z=>
 ac (!z)
 (Zs y ((nb j).add 0) fun a1=>
 CP 283 #[pointer a,int .i64 a1,int .i64 n] y (fun b1 c1=>
 b1= .returned (tuple #[])∧
 d [] c1))
 (d [] y)))) [int .i64 k,int .i64 l,int .i64 m] 0)))→b [] c)→
 b [] w
theorem zH (a:OA) (w:World) (R:RW) (hh:P4 a w R):CR 252 #[pointer a] w R:=by refine aH (fn:=Tryz.f252) ?_ ?_ ?_ ?_ ?_ hh<;>kernel_rfl
def St (a:OA) (w:World) (R:RW):Prop:=
 ∀b:KW,(∀(c:Int) (d:OA) (f g:Nat) (h:World),(ac (c != (-1))
 (ag a (fun i=>
 Zl h (i.add 1) fun j k l=>
 ac (decide (c< (k:Int)))
 (ag a (fun m=>
 Zl h (m.add 1) fun n o p=>
 Zm n c o (fun q=>
 Zs h ((q.add (c.toNat*3)).add 0) fun r=>
 Zv h #[int .i64 r] 3 fun s=>
 Zh 28 #[slice d f g,slice (some (nb h)) 1 1] s fun t u x y=>
 ag a (fun z=>
 Zl y (z.add 1) fun a1 b1 c1=>
 Zm a1 c b1 (fun d1=>
 Zs y ((d1.add (c.toNat*3)).add 2) fun e1=>
 b [int .i64 e1,slice t u x] y)))))
 (R (slice d f g) h)))
 (R (slice d f g) h))→b [int .i64 c,slice d f g] h)→
 b [int .i64 0,slice none 0 0] w
theorem AD (a:OA) (w:World) (R:RW) (hh:St a w R):CR 253 #[pointer a] w R:=by refine aH (fn:=Tryz.f253) ?_ ?_ ?_ ?_ ?_ hh<;>kernel_rfl
def Pf (a:OA) (b:Int) (w:World) (R:RW):Prop:=
 CP 174 #[pointer a,int .i64 b] w (fun c d=>
 Z3 c fun f g h=>
 Zv d #[int .i64 0,string ⟨#[]⟩] 87 fun i=>
 aI i (nb d) (fun j=>
 Zs j ((nb d).add 0) fun k=>
 R (tuple #[int .i64 k,bool h]) j) [int .i64 f,string g] 0)
theorem Al (a:OA) (b:Int) (w:World) (R:RW) (hh:Pf a b w R):CR 262 #[pointer a,int .i64 b] w R:=by refine aH (fn:=Tryz.f262) ?_ ?_ ?_ ?_ ?_ hh<;>kernel_rfl
def OO (a:OA) (w:World) (R:RW):Prop:=
 ∀b,b=w.drew→
 ag a (fun c=>
 Zt b (c.add 2) fun d=>
 ag a (fun f=>
 Zs b (((f.add 0).add 0).add 0) fun g=>
 ag a (fun h=>
 Zs b (((h.add 0).add 0).add 1) fun i=>
 CP 285 #[pointer d,int .i64 g,int .i64 i] b (fun j k=>
 Zy j fun l m=>
 ac m
 (ag a (fun n=>
 Zs k (n.add 3) fun o=>
 R (bool (decide (l<o))) k))
 (R (bool false) k)))))
theorem CN (a:OA) (w:World) (R:RW) (hh:OO a w R):CR 264 #[pointer a] w R:=by refine aH (fn:=Tryz.f264) ?_ ?_ ?_ ?_ ?_ hh<;>kernel_rfl
def QQ (a:OA) (w:World) (R:RW):Prop:=
 ∀b,b=w.drew→
 ag a (fun c=>
 Zs b (((c.add 0).add 0).add 0) fun d=>
 ag a (fun f=>
 Zs b (((f.add 0).add 0).add 1) fun g=>
 ac (decide (d>g))
 (CP 286 #[pointer a] b (fun h i=>
 Zp h fun j=>
 ac j
 (R (bool true) i)
 (CP 287 #[pointer a] i (fun k l=>
 Zp k fun m=>
 R (bool m) l))))
 (CP 287 #[pointer a] b (fun n o=>
 Zp n fun p=>
 ac p
 (R (bool true) o)
 (CP 286 #[pointer a] o (fun q r=>
 Zp q fun s=>
 R (bool s) r))))))
theorem zL (a:OA) (w:World) (R:RW) (hh:QQ a w R):CR 265 #[pointer a] w R:=by refine aH (fn:=Tryz.f265) ?_ ?_ ?_ ?_ ?_ hh<;>kernel_rfl
def PW (w:World) (R:RW):Prop:=
 Zv w #[slice none 0 0,int .i64 0] 379 fun a=>
 R (pointer (some (nb w))) a
theorem CB (w:World) (R:RW) (hh:PW w R):CR 279 #[] w R:=by refine aH (fn:=Tryz.f279) ?_ ?_ ?_ ?_ ?_ hh<;>kernel_rfl
def OJ (a:OA) (b:Int) (w:World) (R:RW):Prop:=
 ac (b==(-1))
 (R (tuple #[]) w)
 (ag a (fun c=>
 Zl w (c.add 1) fun d f g=>
 Zm d b f (fun h=>
 Zs w ((h.add (b.toNat*3)).add 2) fun i=>
 ac (i==(-1))
 (R (tuple #[]) w)
 (∀j,j=w.drew→
 ag a (fun k=>
 Zl j (k.add 1) fun l m n=>
 Zm l b m (fun o=>
 Zs j ((o.add (b.toNat*3)).add 0) fun p=>
 ag a (fun q=>
 Zl j (q.add 1) fun r s t=>
 ag a (fun u=>
 Zl j (u.add 1) fun x y z=>
 Zm x b y (fun a1=>
 Zs j ((a1.add (b.toNat*3)).add 2) fun b1=>
 Zm r b1 s (fun c1=>
 Zs j ((c1.add (b1.toNat*3)).add 0) fun d1=>
 Zv j #[int .i64 0,int .i64 0] 85 fun e1=>
 (e1.cell? ((c1.add (b1.toNat*3)).add 0)=some (int .i64 d1)∧True)∧
 (e1.cell? ((a1.add (b.toNat*3)).add 2)=some (int .i64 b1)∧True)∧
 (e1.cell? (u.add 1)=some (slice x y z)∧True)∧
 (e1.cell? (q.add 1)=some (slice r s t)∧True)∧
 (e1.cell? ((o.add (b.toNat*3)).add 0)=some (int .i64 p)∧True)∧
 (e1.cell? (k.add 1)=some (slice l m n)∧True)∧
 aI e1 (nb j) (fun f1=>
 ∀g1,g1=f1.drew→
 ag a (fun h1=>
 Zt g1 (h1.add 0) fun i1=>
 Zs g1 ((nb j).add 0) fun j1=>
 Zs g1 ((nb j).add 1) fun k1=>
 CP 285 #[pointer i1,int .i64 j1,int .i64 k1] g1 (fun l1 m1=>
 Zy l1 fun n1 o1=>
 ac o1
 (ag a (fun p1=>
 Zs m1 (p1.add 3) fun q1=>
 ac (decide (n1<q1))
 (∀r1,r1=m1.drew→
 ag a (fun s1=>
 Zt r1 (s1.add 2) fun t1=>
 Za r1 (nb j) fun u1 v1=>
 CP 305 #[pointer t1,int .i64 n1,int .i64 b,agg #[int .i64 b,int .i64 u1,int .i64 v1]] r1 (fun x1 y1=>
 x1= .returned (tuple #[])∧
 R (tuple #[]) y1)))
 (R (tuple #[]) m1)))
 (R (tuple #[]) m1)))) [int .i64 p,int .i64 d1] 0))))))))))
theorem CG (a:OA) (b:Int) (w:World) (R:RW) (hh:OJ a b w R):CR 280 #[pointer a,int .i64 b] w R:=by refine aH (fn:=Tryz.f280) ?_ ?_ ?_ ?_ ?_ hh<;>kernel_rfl
def RC (a:OA) (w:World) (R:RW):Prop:=
 Zv w #[int .i64 0,int .i64 0,int .i64 0] 357 fun b=>
 CP 306 #[pointer a] b (fun c d=>
 Z2 c fun f g h i j k=>
 Zv d #[int .i64 0,int .i64 0,int .i64 0] 357 fun l=>
 aI l (nb d) (fun m=>
 ∀n:KW,(∀o:World,(Zb o (nb d) fun p q r=>
 aI o (nb w) (fun s=>
 Zb s (nb w) fun t x y=>
 R (tuple #[agg #[int .i64 t,int .i64 x,int .i64 y],int .i64 i,int .i64 j,bool k]) s) [int .i64 p,int .i64 q,int .i64 r] 0)→n [] o)→
 ac k
 (ag a (fun z=>
 Zl m (z.add 0) fun a1 b1 c1=>
 Ar .i64 ((b1:Int)-1) (fun d1=>
 CP 307 #[pointer a,int .i64 0,int .i64 d1] m (fun e1 f1=>
 e1= .returned (tuple #[])∧
 ag a (fun g1=>
 Zl f1 (g1.add 0) fun h1 i1 j1=>
 (0:Int)≤(0:Int)∧(0:Int)≤d1∧d1≤(j1:Int)∧True∧True∧
 ag a (fun k1=>
 (slice (bB h1 (0:Int).toNat (j1:Int).toNat 6) (d1.toNat- (0:Int).toNat) ((j1:Int).toNat- (0:Int).toNat)).oneCell'=true∧(∃u,f1.cell? (k1.add 0)=some u)∧f1.frozen? (k1.add 0)=false∧
 ∀l1,l1=(f1.setCell (k1.add 0) (slice (bB h1 (0:Int).toNat (j1:Int).toNat 6) (d1.toNat- (0:Int).toNat) ((j1:Int).toNat- (0:Int).toNat)))→
 CP 308 #[pointer a,int .i64 0] l1 (fun m1 n1=>
 m1= .returned (tuple #[])∧
 n [] n1)))))))
 (n [] m)) [int .i64 f,int .i64 g,int .i64 h] 0)
theorem Ao (a:OA) (w:World) (R:RW) (hh:RC a w R):CR 281 #[pointer a] w R:=by refine aH (fn:=Tryz.f281) ?_ ?_ ?_ ?_ ?_ hh<;>kernel_rfl
def Qv (a:OA) (b c d:Int) (w:World) (R:RW):Prop:=
 Zv w #[int .i64 b,int .i64 c,int .i64 d] 357 fun f=>
 ∀g,g=f.drew→
 ag a (fun h=>
 Zl g (h.add 1) fun i j k=>
 Zs g ((nb w).add 0) fun l=>
 Zm i l j (fun m=>
 Zb g (m.add (l.toNat*3)) fun n o p=>
 Zv g #[int .i64 0,int .i64 0,int .i64 0] 362 fun q=>
 (q.cell? (m.add (l.toNat*3))=some (int .i64 n)∧q.cell? ((m.add (l.toNat*3)).add 1)=some (int .i64 o)∧q.cell? ((m.add (l.toNat*3)).add 2)=some (int .i64 p)∧True)∧
 (q.cell? ((nb w).add 0)=some (int .i64 l)∧True)∧
 (q.cell? (h.add 1)=some (slice i j k)∧True)∧
 aI q (nb g) (fun r=>
 ∀s,s=r.drew→
 Zs s ((nb g).add 0) fun t=>
 Zs s (((nb w).add 1).add 0) fun u=>
 ac (t != u)
 (R (bool true) s)
 (Zs s ((nb g).add 2) fun x=>
 ac (x==(-1))
 (R (bool true) s)
 (ag a (fun y=>
 Zl s (y.add 1) fun z a1 b1=>
 Zs s ((nb g).add 2) fun c1=>
 Zm z c1 a1 (fun d1=>
 Zs s ((d1.add (c1.toNat*3)).add 0) fun e1=>
 Zs s (((nb w).add 1).add 1) fun f1=>
 R (bool (e1 != f1)) s))))) [int .i64 n,int .i64 o,int .i64 p] 0))
theorem Cq (a:OA) (b c d:Int) (w:World) (R:RW) (hh:Qv a b c d w R):CR 282 #[pointer a,agg #[int .i64 b,int .i64 c,int .i64 d]] w R:=by refine aH (fn:=Tryz.f282) ?_ ?_ ?_ ?_ ?_ hh<;>kernel_rfl
def Rb (a:OA) (b c:Int) (w:World) (R:RW):Prop:=
 ag a (fun d=>
 Zl w (d.add 1) fun f g h=>
 Zm f b g (fun i=>
 Zs w ((i.add (b.toNat*3)).add 2) fun j=>
 ag a (fun k=>
 Zl w (k.add 1) fun l m n=>
 Zm l j m (fun o=>
 Zs w ((o.add (j.toNat*3)).add 2) fun p=>
 ag a (fun q=>
 Zl w (q.add 1) fun r s t=>
 Zm r j s (fun x=>
 (int .i64 (-2)).oneCell'=true∧(∃u,w.cell? ((x.add (j.toNat*3)).add 0)=some u)∧w.frozen? ((x.add (j.toNat*3)).add 0)=false∧
 ∀y,y=(w.setCell ((x.add (j.toNat*3)).add 0) (int .i64 (-2)))→
 ∀z,z=y.drew→
 ag a (fun a1=>
 Zl z (a1.add 1) fun b1 c1 d1=>
 ag a (fun e1=>
 Zl z (e1.add 1) fun f1 g1 h1=>
 Zm b1 b c1 (fun i1=>
 Zu z ((i1.add (b.toNat*3)).add 0) (int .i64 c) fun j1=>
 Zm f1 b g1 (fun k1=>
 Zu j1 ((k1.add (b.toNat*3)).add 2) (int .i64 p) fun l1=>
 ∀m1:KW,(∀n1:World,(ag a (fun o1=>
 Zs n1 (o1.add 4) fun p1=>
 Ar .i64 (p1+1) (fun q1=>
 ag a (fun r1=>
 Zu n1 (r1.add 4) (int .i64 q1) fun s1=>
 ag a (fun t1=>
 Zl s1 (t1.add 1) fun u1 v1 x1=>
 Zm u1 b v1 (fun y1=>
 Zs s1 ((y1.add (b.toNat*3)).add 1) fun z1=>
 CP 280 #[pointer a,int .i64 z1] s1 (fun a2 b2=>
 a2= .returned (tuple #[])∧
 CP 280 #[pointer a,int .i64 b] b2 (fun c2 d2=>
 c2= .returned (tuple #[])∧
 R (tuple #[]) d2))))))))→m1 [] n1)→
 ac (p != (-1))
 (ag a (fun e2=>
 Zl l1 (e2.add 1) fun f2 g2 h2=>
 Zm f2 p g2 (fun i2=>
 Zu l1 ((i2.add (p.toNat*3)).add 1) (int .i64 b) fun j2=>
 m1 [] j2)))
 (m1 [] l1)))))))))))
theorem CE (a:OA) (b c:Int) (w:World) (R:RW) (hh:Rb a b c w R):CR 283 #[pointer a,int .i64 b,int .i64 c] w R:=by refine aH (fn:=Tryz.f283) ?_ ?_ ?_ ?_ ?_ hh<;>kernel_rfl
def Po (a:OA) (b c:Int) (w:World) (R:RW):Prop:=
 ac (Option.isNone a)
 (R (tuple #[int .i64 0,bool false]) w)
 (ag a (fun d=>
 ∃f,w.cell? (d.add 2)=some (map f)∧
 ∃g h i,(Instr.lookup 259 (map f) (agg #[int .i64 b,int .i64 c]) true).run Tryz.prog w= .ok (tuple #[int .i64 g,bool h]) i∧
 R (tuple #[int .i64 g,bool h]) i))
theorem zc (a:OA) (b c:Int) (w:World) (R:RW) (hh:Po a b c w R):CR 285 #[pointer a,int .i64 b,int .i64 c] w R:=by refine aH (fn:=Tryz.f285) ?_ ?_ ?_ ?_ ?_ hh<;>kernel_rfl
def Qg (a:OA) (w:World) (R:RW):Prop:=
 ∀b,b=w.drew→
 ag a (fun c=>
 Zt b (c.add 2) fun d=>
 ag a (fun f=>
 Zs b (((f.add 0).add 0).add 0) fun g=>
 (CP 309 #[pointer d,int .i64 g] b (fun h i=>
 Z1 h fun j k l=>
 Zv i #[int .i64 0,int .i64 0] 85 fun m=>
 aI m (nb i) (fun n=>
 ∀o:KW,(∀p:World,(R (bool l) p)→o [] p)→
 ac l
 (∀q,q=n.drew→
 ag a (fun r=>
 Zs q (((r.add 0).add 0).add 0) fun s=>
 Zs q ((nb i).add 1) fun t=>
 ag a (fun x=>
 Zu q (x.add 3) (int .i64 s) fun y=>
 (y.cell? ((nb i).add 1)=some (int .i64 t)∧True)∧
 ag a (fun z=>
 Zu y (((z.add 0).add 0).add 0) (int .i64 t) fun a1=>
 ag a (fun b1=>
 Zs a1 (b1.add 4) fun c1=>
 Ar .i64 (c1+1) (fun d1=>
 ag a (fun e1=>
 Zu a1 (e1.add 4) (int .i64 d1) fun f1=>
 o [] f1)))))))
 (o [] n)) [int .i64 j,int .i64 k] 0))∧
 (Zv b #[int .i64 0,int .i64 0] 85 fun g1=>
 (g1.cell? (((f.add 0).add 0).add 0)=some (int .i64 g)∧True)∧
 (g1.cell? (c.add 2)=some (pointer d)∧True)∧
 CP 309 #[pointer d,int .i64 g] g1 (fun h1 i1=>
 Z1 h1 fun j1 k1 l1=>
 aI i1 (nb b) (fun m1=>
 ∀n1:KW,(∀o1:World,(R (bool l1) o1)→n1 [] o1)→
 ac l1
 (∀p1,p1=m1.drew→
 ag a (fun q1=>
 Zs p1 (((q1.add 0).add 0).add 0) fun r1=>
 Zs p1 ((nb b).add 1) fun s1=>
 ag a (fun t1=>
 Zu p1 (t1.add 3) (int .i64 r1) fun u1=>
 (u1.cell? ((nb b).add 1)=some (int .i64 s1)∧True)∧
 ag a (fun v1=>
 Zu u1 (((v1.add 0).add 0).add 0) (int .i64 s1) fun x1=>
 ag a (fun y1=>
 Zs x1 (y1.add 4) fun z1=>
 Ar .i64 (z1+1) (fun a2=>
 ag a (fun b2=>
 Zu x1 (b2.add 4) (int .i64 a2) fun c2=>
 n1 [] c2)))))))
 (n1 [] m1)) [int .i64 j1,int .i64 k1] 0))))
theorem Bf (a:OA) (w:World) (R:RW) (hh:Qg a w R):CR 286 #[pointer a] w R:=by refine aH (fn:=Tryz.f286) ?_ ?_ ?_ ?_ ?_ hh<;>kernel_rfl
def OF (a:OA) (w:World) (R:RW):Prop:=
 ∀b,b=w.drew→
 ag a (fun c=>
 Zt b (c.add 2) fun d=>
 ag a (fun f=>
 Zs b (((f.add 0).add 0).add 1) fun g=>
 (CP 309 #[pointer d,int .i64 g] b (fun h i=>
 Z1 h fun j k l=>
 Zv i #[int .i64 0,int .i64 0] 85 fun m=>
 aI m (nb i) (fun n=>
 ∀o:KW,(∀p:World,(R (bool l) p)→o [] p)→
 ac l
 (∀q,q=n.drew→
 ag a (fun r=>
 Zs q (((r.add 0).add 0).add 1) fun s=>
 Ar .i64 (s+1) (fun t=>
 Zs q ((nb i).add 0) fun x=>
 ag a (fun y=>
 Zu q (y.add 3) (int .i64 t) fun z=>
 (z.cell? ((nb i).add 0)=some (int .i64 x)∧True)∧
 ag a (fun a1=>
 Zu z (((a1.add 0).add 0).add 1) (int .i64 x) fun b1=>
 ag a (fun c1=>
 Zs b1 (c1.add 4) fun d1=>
 Ar .i64 (d1+1) (fun e1=>
 ag a (fun f1=>
 Zu b1 (f1.add 4) (int .i64 e1) fun g1=>
 o [] g1))))))))
 (o [] n)) [int .i64 j,int .i64 k] 0))∧
 (Zv b #[int .i64 0,int .i64 0] 85 fun h1=>
 (h1.cell? (((f.add 0).add 0).add 1)=some (int .i64 g)∧True)∧
 (h1.cell? (c.add 2)=some (pointer d)∧True)∧
 CP 309 #[pointer d,int .i64 g] h1 (fun i1 j1=>
 Z1 i1 fun k1 l1 m1=>
 aI j1 (nb b) (fun n1=>
 ∀o1:KW,(∀p1:World,(R (bool m1) p1)→o1 [] p1)→
 ac m1
 (∀q1,q1=n1.drew→
 ag a (fun r1=>
 Zs q1 (((r1.add 0).add 0).add 1) fun s1=>
 Ar .i64 (s1+1) (fun t1=>
 Zs q1 ((nb b).add 0) fun u1=>
 ag a (fun v1=>
 Zu q1 (v1.add 3) (int .i64 t1) fun x1=>
 (x1.cell? ((nb b).add 0)=some (int .i64 u1)∧True)∧
 ag a (fun y1=>
 Zu x1 (((y1.add 0).add 0).add 1) (int .i64 u1) fun z1=>
 ag a (fun a2=>
 Zs z1 (a2.add 4) fun b2=>
 Ar .i64 (b2+1) (fun c2=>
 ag a (fun d2=>
 Zu z1 (d2.add 4) (int .i64 c2) fun e2=>
 o1 [] e2))))))))
 (o1 [] n1)) [int .i64 k1,int .i64 l1] 0))))
theorem CF (a:OA) (w:World) (R:RW) (hh:OF a w R):CR 287 #[pointer a] w R:=by refine aH (fn:=Tryz.f287) ?_ ?_ ?_ ?_ ?_ hh<;>kernel_rfl
def Rg (a:OA) (b c d f g:Int) (w:World) (R:RW):Prop:=
 Zv w #[int .i64 d,int .i64 f,int .i64 g] 357 fun h=>
 ac (Option.isNone a)
 (R (tuple #[]) h)
 (∀i,i=h.drew→
 ag a (fun j=>
 Zl i (j.add 0) fun k l m=>
 ag a (fun n=>
 Zs i (n.add 1) fun o=>
 Zb i (nb w) fun p q r=>
 Zv i #[int .i64 b,int .i64 c,int .i64 o,int .i64 p,int .i64 q,int .i64 r] 389 fun s=>
 (s.cell? (j.add 0)=some (slice k l m)∧True)∧
 Zh 377 #[slice k l m,slice (some (nb i)) 1 1] s fun t x y z=>
 ag a (fun a1=>
 Zu z (a1.add 0) (slice t x y) fun b1=>
 ag a (fun c1=>
 Zs b1 (c1.add 1) fun d1=>
 Ar .i64 (d1+1) (fun e1=>
 ag a (fun f1=>
 Zu b1 (f1.add 1) (int .i64 e1) fun g1=>
 ag a (fun h1=>
 Zl g1 (h1.add 0) fun i1 j1 k1=>
 Ar .i64 ((j1:Int)-1) (fun l1=>
 CP 319 #[pointer a,int .i64 l1] g1 (fun m1 n1=>
 m1= .returned (tuple #[])∧
 R (tuple #[]) n1))))))))))
theorem CL (a:OA) (b c d f g:Int) (w:World) (R:RW) (hh:Rg a b c d f g w R):CR 305 #[pointer a,int .i64 b,int .i64 c,agg #[int .i64 d,int .i64 f,int .i64 g]] w R:=by refine aH (fn:=Tryz.f305) ?_ ?_ ?_ ?_ ?_ hh<;>kernel_rfl
def QG (a:OA) (w:World) (R:RW):Prop:=
 Zv w #[int .i64 0,int .i64 0,int .i64 0] 357 fun b=>
 CP 320 #[pointer a] b (fun c d=>
 Zx c fun f=>
 ac (f==0)
 (Zv d #[int .i64 0,int .i64 0,int .i64 0] 357 fun g=>
 Zb g (nb d) fun h i j=>
 aI g (nb w) (fun k=>
 Zb k (nb w) fun l m n=>
 R (tuple #[agg #[int .i64 l,int .i64 m,int .i64 n],int .i64 0,int .i64 0,bool false]) k) [int .i64 h,int .i64 i,int .i64 j] 0)
 (ag a (fun o=>
 Zl d (o.add 0) fun p q r=>
 Zm p 0 q (fun s=>
 Z4 d (s.add ((0:Int).toNat*6)) fun t u x y z a1=>
 Zv d #[int .i64 0,int .i64 0,int .i64 0,int .i64 0,int .i64 0,int .i64 0] 389 fun b1=>
 aI b1 (nb d) (fun c1=>
 ∀d1,d1=c1.drew→
 Zb d1 ((nb d).add 3) fun e1 f1 g1=>
 Zs d1 (((nb d).add 0).add 0) fun h1=>
 Zs d1 (((nb d).add 0).add 1) fun i1=>
 aI d1 (nb w) (fun j1=>
 (j1.cell? (((nb d).add 0).add 1)=some (int .i64 i1)∧True)∧
 (j1.cell? (((nb d).add 0).add 0)=some (int .i64 h1)∧True)∧
 Zb j1 (nb w) fun k1 l1 m1=>
 R (tuple #[agg #[int .i64 k1,int .i64 l1,int .i64 m1],int .i64 h1,int .i64 i1,bool true]) j1) [int .i64 e1,int .i64 f1,int .i64 g1] 0) [int .i64 t,int .i64 u,int .i64 x,int .i64 y,int .i64 z,int .i64 a1] 0))))
theorem Br (a:OA) (w:World) (R:RW) (hh:QG a w R):CR 306 #[pointer a] w R:=by refine aH (fn:=Tryz.f306) ?_ ?_ ?_ ?_ ?_ hh<;>kernel_rfl
def Rc (a:OA) (b c:Int) (w:World) (R:RW):Prop:=
 ∀d,d=w.drew→
 ag a (fun f=>
 Zl d (f.add 0) fun g h i=>
 ag a (fun j=>
 Zl d (j.add 0) fun k l m=>
 ag a (fun n=>
 Zl d (n.add 0) fun o p q=>
 Zm o c p (fun r=>
 Z4 d (r.add (c.toNat*6)) fun s t u x y z=>
 ag a (fun a1=>
 Zl d (a1.add 0) fun b1 c1 d1=>
 Zm b1 b c1 (fun e1=>
 Z4 d (e1.add (b.toNat*6)) fun f1 g1 h1 i1 j1 k1=>
 Zm g b h (fun l1=>
 aI d (l1.add (b.toNat*6)) (fun m1=>
 Zm k c l (fun n1=>
 aI m1 (n1.add (c.toNat*6)) (fun o1=>
 R (tuple #[]) o1) [int .i64 f1,int .i64 g1,int .i64 h1,int .i64 i1,int .i64 j1,int .i64 k1] 0)) [int .i64 s,int .i64 t,int .i64 u,int .i64 x,int .i64 y,int .i64 z] 0)))))))
theorem B7 (a:OA) (b c:Int) (w:World) (R:RW) (hh:Rc a b c w R):CR 307 #[pointer a,int .i64 b,int .i64 c] w R:=by refine aH (fn:=Tryz.f307) ?_ ?_ ?_ ?_ ?_ hh<;>kernel_rfl
def P_ (a:OA) (b:Int) (w:World) (R:RW):Prop:=
 ∀c:KW,(∀(d:Int) (f:World),(Ar .i64 ((2:Int)*d) (fun g=>
 Ar .i64 (g+1) (fun h=>
 Ar .i64 ((2:Int)*d) (fun i=>
 Ar .i64 (i+2) (fun j=>
 ∀k:KW,(∀(l m:Int) (n:World),(ac (decide (l<2))
 (∀o:KW,(∀(p:Int) (q:World),(Ar .i64 (l+1) (fun r=>
 k [int .i64 r,int .i64 p] q))→o [int .i64 p] q)→
 ∃s t,(Instr.index 390 (agg #[int .i64 h,int .i64 j]) (int .i64 l)).run Tryz.prog n= .ok (int .i64 s) t∧
 ∀u,u=t.drew→
 ag a (fun x=>
 Zl u (x.add 0) fun y z a1=>
 ac (decide (s< (z:Int)))
 (ag a (fun b1=>
 Zl u (b1.add 0) fun c1 d1 e1=>
 Zm c1 s d1 (fun f1=>
 Zb u ((f1.add (s.toNat*6)).add 0) fun g1 h1 i1=>
 ag a (fun j1=>
 Zl u (j1.add 0) fun k1 l1 m1=>
 Zm k1 m l1 (fun n1=>
 Zb u ((n1.add (m.toNat*6)).add 0) fun o1 p1 q1=>
 CP 321 #[agg #[int .i64 g1,int .i64 h1,int .i64 i1],agg #[int .i64 o1,int .i64 p1,int .i64 q1]] u (fun r1 s1=>
 Zp r1 fun t1=>
 ac t1
 (o [int .i64 s] s1)
 (o [int .i64 m] s1)))))))
 (o [int .i64 m] u)))
 (ac (m==d)
 (R (tuple #[]) n)
 (CP 307 #[pointer a,int .i64 d,int .i64 m] n (fun u1 v1=>
 u1= .returned (tuple #[])∧
 c [int .i64 m] v1))))→k [int .i64 l,int .i64 m] n)→
 k [int .i64 0,int .i64 d] f)))))→c [int .i64 d] f)→
 c [int .i64 b] w
theorem Bk (a:OA) (b:Int) (w:World) (R:RW) (hh:P_ a b w R):CR 308 #[pointer a,int .i64 b] w R:=by refine aH (fn:=Tryz.f308) ?_ ?_ ?_ ?_ ?_ hh<;>kernel_rfl
def Qw (a:OA) (b:Int) (w:World) (R:RW):Prop:=
 Zv w #[int .i64 0,int .i64 0] 85 fun c=>
 CP 210 #[pointer a,int .i64 b] c (fun d f=>
 Zp d fun g=>
 ac (!g)
 (aI f (nb w) (fun h=>
 Za h (nb w) fun i j=>
 R (tuple #[agg #[int .i64 i,int .i64 j],bool false]) h) [int .i64 0,int .i64 0] 0)
 (ag a (fun k=>
 Zl f (k.add 0) fun l m n=>
 Zm l b m (fun o=>
 Za f ((o.add (b.toNat*3)).add 1) fun p q=>
 ac ((p== -1)&&((q== -1)&&(true)))
 (aI f (nb w) (fun r=>
 Za r (nb w) fun s t=>
 R (tuple #[agg #[int .i64 s,int .i64 t],bool false]) r) [int .i64 0,int .i64 0] 0)
 (ag a (fun u=>
 Zl f (u.add 0) fun x y z=>
 Zm x b y (fun a1=>
 Za f ((a1.add (b.toNat*3)).add 1) fun b1 c1=>
 aI f (nb w) (fun d1=>
 Za d1 (nb w) fun e1 f1=>
 R (tuple #[agg #[int .i64 e1,int .i64 f1],bool true]) d1) [int .i64 b1,int .i64 c1] 0)))))))
theorem yX (a:OA) (b:Int) (w:World) (R:RW) (hh:Qw a b w R):CR 309 #[pointer a,int .i64 b] w R:=by refine aH (fn:=Tryz.f309) ?_ ?_ ?_ ?_ ?_ hh<;>kernel_rfl
def RL (a:OA) (b:Int) (w:World) (R:RW):Prop:=
 ∀c:KW,(∀(d:Int) (f:World),(ac (decide (d>0))
 (Ar .i64 (d-1) (fun g=>
 (2:Int)≠0∧
 ∀h,h=f.drew→
 ag a (fun i=>
 Zl h (i.add 0) fun j k l=>
 Zm j d k (fun m=>
 Zb h ((m.add (d.toNat*6)).add 0) fun n o p=>
 ag a (fun q=>
 Zl h (q.add 0) fun r s t=>
 ag r (fun u=>
 (0:Int)≤(IntKind.wrap .i64 (Int.tdiv g 2))∧(IntKind.wrap .i64 (Int.tdiv g 2)) < (s:Int)∧
 Zb h ((u.add ((IntKind.wrap .i64 (Int.tdiv g 2):Int).toNat*6)).add 0) fun x y z=>
 CP 321 #[agg #[int .i64 n,int .i64 o,int .i64 p],agg #[int .i64 x,int .i64 y,int .i64 z]] h (fun a1 b1=>
 Zp a1 fun c1=>
 ac (!c1)
 (R (tuple #[]) b1)
 (CP 307 #[pointer a,int .i64 d,int .i64 (IntKind.wrap .i64 (Int.tdiv g 2))] b1 (fun d1 e1=>
 d1= .returned (tuple #[])∧
 c [int .i64 (IntKind.wrap .i64 (Int.tdiv g 2))] e1)))))))))
 (R (tuple #[]) f))→c [int .i64 d] f)→
 c [int .i64 b] w
theorem Dj (a:OA) (b:Int) (w:World) (R:RW) (hh:RL a b w R):CR 319 #[pointer a,int .i64 b] w R:=by refine aH (fn:=Tryz.f319) ?_ ?_ ?_ ?_ ?_ hh<;>kernel_rfl
def OW (a:OA) (w:World) (R:RW):Prop:=
 ac (Option.isNone a)
 (R (int .i64 0) w)
 (ag a (fun b=>
 Zl w (b.add 0) fun c d f=>
 R (int .i64 (d:Int)) w))
theorem AC (a:OA) (w:World) (R:RW) (hh:OW a w R):CR 320 #[pointer a] w R:=by refine aH (fn:=Tryz.f320) ?_ ?_ ?_ ?_ ?_ hh<;>kernel_rfl
def O2 (a b c d f g:Int) (w:World) (R:RW):Prop:=
 Zv w #[int .i64 a,int .i64 b,int .i64 c] 387 fun h=>
 Zv h #[int .i64 d,int .i64 f,int .i64 g] 387 fun i=>
 Zs i ((nb w).add 0) fun j=>
 Zs i ((nb h).add 0) fun k=>
 ac (j != k)
 (Zs i ((nb w).add 0) fun l=>
 Zs i ((nb h).add 0) fun m=>
 R (bool (decide (l<m))) i)
 (Zs i ((nb w).add 1) fun n=>
 Zs i ((nb h).add 1) fun o=>
 ac (n != o)
 (Zs i ((nb w).add 1) fun p=>
 Zs i ((nb h).add 1) fun q=>
 R (bool (decide (p<q))) i)
 (Zs i ((nb w).add 2) fun r=>
 Zs i ((nb h).add 2) fun s=>
 R (bool (decide (r<s))) i))
theorem yx (a b c d f g:Int) (w:World) (R:RW) (hh:O2 a b c d f g w R):CR 321 #[agg #[int .i64 a,int .i64 b,int .i64 c],agg #[int .i64 d,int .i64 f,int .i64 g]] w R:=by refine aH (fn:=Tryz.f321) ?_ ?_ ?_ ?_ ?_ hh<;>kernel_rfl
def P6 (a b:OA) (c d:Nat) (w:World) (R:RW):Prop:=
 Zv w #[pointer a] 144 fun f=>
 Zt f ((nb w).add 0) fun g=>
 CP 127 #[pointer g,slice b c d] f (fun h i=>
 Zy h fun j k=>
 R (tuple #[int .i64 j,bool k]) i)
theorem AU (a b:OA) (c d:Nat) (w:World) (R:RW) (hh:P6 a b c d w R):CR 372 #[agg #[pointer a],slice b c d] w R:=by refine aH (fn:=Tryz.f372) ?_ ?_ ?_ ?_ ?_ hh<;>kernel_rfl
end Go.Proofs.YtijbcdiffjjefaaGreatDoor.Eng
