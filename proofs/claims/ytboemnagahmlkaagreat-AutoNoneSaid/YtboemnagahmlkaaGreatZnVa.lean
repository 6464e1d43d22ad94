/- What these functions owe, printed by a program of this repo out of the translation. -/
import Derived.Test.YtboemnagahmlkaaGreatZnTab
import Derived.Test.YtboemnagahmlkaaGreatZnGg
set_option linter.unusedVariables false
set_option maxRecDepth 100000
namespace Go.Proofs.YtboemnagahmlkaaGreat.Eng
open Go Go.Value
def vc13 (a b : Int) (w : World) (R : RW) : Prop :=
 Calls Tryz.prog 42 #[pointer none, int .i64 1048576] w (fun c d =>
 ∃ f g, c = .returned (tuple #[pointer f, int .i64 g]) ∧
 Calls Tryz.prog 45 #[pointer f, int .i64 a, int .i64 b] d (fun h i =>
 ∃ j k, h = .returned (tuple #[int .i64 j, bool k]) ∧
 ∀ l, l = i.alloc (.cells #[int .i64 b] 3) →
 Calls Tryz.prog 60 #[pointer f, slice (some (nb i)) 1 1] l (fun m n =>
 ∃ o p, m = .returned (tuple #[int .i64 o, bool p]) ∧
 ∀ q, q = n.alloc (.cells #[int .i64 b] 3) →
 Calls Tryz.prog 59 #[pointer f, slice (some (nb n)) 1 1] q (fun r s =>
 ∃ t u, r = .returned (tuple #[int .i64 t, bool u]) ∧
 Calls Tryz.prog 59 #[pointer f, slice none 0 0] s (fun x y =>
 ∃ z a1, x = .returned (tuple #[int .i64 z, bool a1]) ∧
 CondP (Option.isNone f)
 (CondP (g == 1)
 (Calls Tryz.prog 46 #[pointer f] y (fun b1 c1 =>
 ∃ d1, b1 = .returned (pointer d1) ∧
 CondP (Option.isNone d1)
 (Calls Tryz.prog 43 #[pointer f] c1 (fun e1 f1 =>
 ∃ g1, e1 = .returned (int .i64 g1) ∧
 CondP (g1 == 0)
 (Calls Tryz.prog 44 #[pointer f, int .i64 a] f1 (fun h1 i1 =>
 ∃ j1, h1 = .returned (bool j1) ∧
 CondP (!j1)
 (CondP (!k)
 (CondP (!p)
 (CondP u
 (CondP (t == 0)
 (CondP (!a1)
 (Calls Tryz.prog 40 #[pointer f, int .i64 a, int .i64 a] i1 (fun k1 l1 =>
 ∃ m1, k1 = .returned (bool m1) ∧
 CondP (!m1)
 (Calls Tryz.prog 47 #[pointer f] l1 (fun n1 o1 =>
 ∃ p1 q1 r1, n1 = .returned (slice p1 q1 r1) ∧
 CondP ((q1 : Int) == 0)
 (Calls Tryz.prog 38 #[] o1 (fun s1 t1 =>
 ∃ u1, s1 = .returned (bool u1) ∧
 R (bool u1) t1))
 (R (bool false) o1)))
 (R (bool false) l1)))
 (R (bool false) i1))
 (R (bool false) i1))
 (R (bool false) i1))
 (R (bool false) i1))
 (R (bool false) i1))
 (R (bool false) i1)))
 (R (bool false) f1)))
 (R (bool false) c1)))
 (R (bool false) y))
 (R (bool false) y))))))
theorem vc13_calls (a b : Int) (w : World) (R : RW) (hh : vc13 a b w R) : Calls Tryz.prog 13 #[int .i64 a, int .i64 b] w fun e w' => ∃ v, e = .returned v ∧ R v w' :=
 calls_of_den ctxOk (fn := Tryz.f13) (by kernel_rfl) (body := bodyOf Tryz.f13) (by kernel_rfl) (by kernel_rfl) (by kernel_rfl) (Eq.mp (by kernel_rfl) hh)
def vc38 (w : World) (R : RW) : Prop :=
 ∀ a, a = w.alloc (.cells #[int .i64 97, int .i64 98] 98) →
 Calls Tryz.prog 64 #[agg #[bool false, slice (some (nb w)) 1 1, slice none 0 0, slice none 0 0, slice none 0 0, slice none 0 0]] a (fun b c =>
 ∃ d f g, b = .returned (tuple #[pointer d, int .i64 f, int .i64 g]) ∧
 Calls Tryz.prog 61 #[pointer d, int .i64 1048576] c (fun h i =>
 ∃ j k, h = .returned (tuple #[pointer j, int .i64 k]) ∧
 Calls Tryz.prog 42 #[pointer j, int .i64 1048576] i (fun l m =>
 ∃ n o, l = .returned (tuple #[pointer n, int .i64 o]) ∧
 CondP (o == 0)
 (Calls Tryz.prog 43 #[pointer n] m (fun p q =>
 ∃ r, p = .returned (int .i64 r) ∧
 CondP (r == 259)
 (Calls Tryz.prog 46 #[pointer n] q (fun s t =>
 ∃ u, s = .returned (pointer u) ∧
 Calls Tryz.prog 43 #[pointer u] t (fun x y =>
 ∃ z, x = .returned (int .i64 z) ∧
 R (bool (z == 3)) y)))
 (R (bool false) q)))
 (R (bool false) m))))
theorem vc38_calls (w : World) (R : RW) (hh : vc38 w R) : Calls Tryz.prog 38 #[] w fun e w' => ∃ v, e = .returned v ∧ R v w' :=
 calls_of_den ctxOk (fn := Tryz.f38) (by kernel_rfl) (body := bodyOf Tryz.f38) (by kernel_rfl) (by kernel_rfl) (by kernel_rfl) (Eq.mp (by kernel_rfl) hh)
def vc40 (a : OA) (b c : Int) (w : World) (R : RW) : Prop :=
 ∀ d, d = w.drew →
 Calls Tryz.prog 75 #[pointer a, int .i64 b] d (fun f g =>
 ∃ h, f = .returned (bool h) ∧
 CondP h
 (Calls Tryz.prog 75 #[pointer a, int .i64 c] g (fun i j =>
 ∃ k, i = .returned (bool k) ∧
 CondP k
 (Calls Tryz.prog 76 #[pointer a] j (fun l m =>
 ∃ n o p, l = .returned (slice n o p) ∧
 NilC n (fun q =>
 (0 : Int) ≤ b ∧ b < (o : Int) ∧
 ∃ r, m.cell? (q.add (b.toNat * 1)) = some (int .i64 r) ∧
 Calls Tryz.prog 76 #[pointer a] m (fun s t =>
 ∃ u x y, s = .returned (slice u x y) ∧
 (t.cell? (q.add (b.toNat * 1)) = some (int .i64 r) ∧ True) ∧
 NilC u (fun z =>
 (0 : Int) ≤ c ∧ c < (x : Int) ∧
 ∃ a1, t.cell? (z.add (c.toNat * 1)) = some (int .i64 a1) ∧
 R (bool (r == a1)) t)))))
 (R (bool false) j)))
 (R (bool false) g))
theorem vc40_calls (a : OA) (b c : Int) (w : World) (R : RW) (hh : vc40 a b c w R) : Calls Tryz.prog 40 #[pointer a, int .i64 b, int .i64 c] w fun e w' => ∃ v, e = .returned v ∧ R v w' :=
 calls_of_den ctxOk (fn := Tryz.f40) (by kernel_rfl) (body := bodyOf Tryz.f40) (by kernel_rfl) (by kernel_rfl) (by kernel_rfl) (Eq.mp (by kernel_rfl) hh)
def vc42 (a : OA) (b : Int) (w : World) (R : RW) : Prop :=
 ∀ c, c = w.alloc (.cells #[pointer a] 48) →
 ∃ d, c.cell? (nb w) = some (pointer d) ∧
 Calls Tryz.prog 24 #[pointer d] c (fun f g =>
 ∃ h, f = .returned (int .i64 h) ∧
 ∃ i, g.cell? (nb w) = some (pointer i) ∧
 CondP (Option.isNone i)
 (R (tuple #[pointer none, int .i64 1]) g)
 (Ar .i64 (h + 2) (fun j =>
 Ar .i64 (j * h) (fun k =>
 CondP (decide (k > b))
 (R (tuple #[pointer none, int .i64 5]) g)
 (∃ l, g.cell? (nb w) = some (pointer l) ∧
 ∀ m, m = g.alloc (.cells #[pointer l, slice none 0 0, slice none 0 0, int .u32 0, int .i32 0, int .u32 0, slice none 0 0] 136) →
 Ar .i64 (h + 1) (fun n =>
 ∀ o, o = m.alloc (.cells #[Value.nilFunc] 137) →
 (func (.func 77) #[] #[pointer (some (nb w))]).oneCell' = true ∧ (∃ u, o.cell? (nb m) = some u) ∧ o.frozen? (nb m) = false ∧
 ∀ p, p = (o.setCell (nb m) (func (.func 77) #[] #[pointer (some (nb w))])) →
 ∀ q, q = p.drew →
 ∃ r s t, q.cell? ((nb g).add 1) = some (slice r s t) ∧
 Calls Tryz.prog 78 #[int .i64 h, int .i64 n, func (.func 79) #[] #[pointer (some (nb w)), pointer (some (nb m))]] q (fun x y =>
 ∃ z a1 b1, x = .returned (slice z a1 b1) ∧
 (y.cell? ((nb g).add 1) = some (slice r s t) ∧ True) ∧
 ∀ c1, c1 = y.alloc (.cells #[slice z a1 b1] 28) →
 (c1.cell? ((nb g).add 1) = some (slice r s t) ∧ True) ∧
 ∃ d1 e1 f1 g1, (Builtin.append_ #[120, 120] 120 #[slice r s t, slice (some (nb y)) 1 1]).run Tryz.prog c1 = .ok (slice d1 e1 f1) g1 ∧
 (slice d1 e1 f1).oneCell' = true ∧ (∃ u, g1.cell? ((nb g).add 1) = some u) ∧ g1.frozen? ((nb g).add 1) = false ∧
 ∀ h1, h1 = (g1.setCell ((nb g).add 1) (slice d1 e1 f1)) →
 ∀ i1 : KW, (∀ (j1 : Int) (k1 : World), (CondP (decide (j1 < h))
 (∀ l1, l1 = k1.drew →
 ∃ m1, l1.cell? (nb w) = some (pointer m1) ∧
 ∃ n1, l1.cell? (nb m) = some (n1) ∧
 (CallG ctx n1 [int .i64 j1] l1 (fun o1 p1 =>
 ∃ q1, o1 = .returned (int .i64 q1) ∧
 (p1.cell? (nb w) = some (pointer m1) ∧ True) ∧
 (Calls Tryz.prog 31 #[pointer m1, int .i64 q1] p1 (fun r1 s1 =>
 ∃ t1 u1 v1, r1 = .returned (slice t1 u1 v1) ∧
 ∀ x1, x1 = s1.alloc (.cells #[slice none 0 0] 55) →
 (slice t1 u1 v1).oneCell' = true ∧ (∃ u, x1.cell? (nb s1) = some u) ∧ x1.frozen? (nb s1) = false ∧
 ∀ y1, y1 = (x1.setCell (nb s1) (slice t1 u1 v1)) →
 ∀ z1, z1 = y1.drew →
 ∃ a2 b2 c2, z1.cell? ((nb g).add 1) = some (slice a2 b2 c2) ∧
 Calls Tryz.prog 78 #[int .i64 h, int .i64 n, func (.func 80) #[] #[pointer (some (nb s1))]] z1 (fun d2 e2 =>
 ∃ f2 g2 h2, d2 = .returned (slice f2 g2 h2) ∧
 (e2.cell? ((nb g).add 1) = some (slice a2 b2 c2) ∧ True) ∧
 ∀ i2, i2 = e2.alloc (.cells #[slice f2 g2 h2] 28) →
 (i2.cell? ((nb g).add 1) = some (slice a2 b2 c2) ∧ True) ∧
 ∃ j2 k2 l2 m2, (Builtin.append_ #[120, 120] 120 #[slice a2 b2 c2, slice (some (nb e2)) 1 1]).run Tryz.prog i2 = .ok (slice j2 k2 l2) m2 ∧
 (slice j2 k2 l2).oneCell' = true ∧ (∃ u, m2.cell? ((nb g).add 1) = some u) ∧ m2.frozen? ((nb g).add 1) = false ∧
 ∀ n2, n2 = (m2.setCell ((nb g).add 1) (slice j2 k2 l2)) →
 Ar .i64 (j1 + 1) (fun o2 =>
 i1 [int .i64 o2] n2)))) ∧
 (∀ p2, p2 = p1.alloc (.cells #[slice none 0 0] 55) →
 (p2.cell? (nb w) = some (pointer m1) ∧ True) ∧
 Calls Tryz.prog 31 #[pointer m1, int .i64 q1] p2 (fun q2 r2 =>
 ∃ s2 t2 u2, q2 = .returned (slice s2 t2 u2) ∧
 (slice s2 t2 u2).oneCell' = true ∧ (∃ u, r2.cell? (nb p1) = some u) ∧ r2.frozen? (nb p1) = false ∧
 ∀ v2, v2 = (r2.setCell (nb p1) (slice s2 t2 u2)) →
 ∀ x2, x2 = v2.drew →
 ∃ y2 z2 a3, x2.cell? ((nb g).add 1) = some (slice y2 z2 a3) ∧
 Calls Tryz.prog 78 #[int .i64 h, int .i64 n, func (.func 80) #[] #[pointer (some (nb p1))]] x2 (fun b3 c3 =>
 ∃ d3 e3 f3, b3 = .returned (slice d3 e3 f3) ∧
 (c3.cell? ((nb g).add 1) = some (slice y2 z2 a3) ∧ True) ∧
 ∀ g3, g3 = c3.alloc (.cells #[slice d3 e3 f3] 28) →
 (g3.cell? ((nb g).add 1) = some (slice y2 z2 a3) ∧ True) ∧
 ∃ h3 i3 j3 k3, (Builtin.append_ #[120, 120] 120 #[slice y2 z2 a3, slice (some (nb c3)) 1 1]).run Tryz.prog g3 = .ok (slice h3 i3 j3) k3 ∧
 (slice h3 i3 j3).oneCell' = true ∧ (∃ u, k3.cell? ((nb g).add 1) = some u) ∧ k3.frozen? ((nb g).add 1) = false ∧
 ∀ l3, l3 = (k3.setCell ((nb g).add 1) (slice h3 i3 j3)) →
 Ar .i64 (j1 + 1) (fun m3 =>
 i1 [int .i64 m3] l3)))))) ∧
 (∀ n3, n3 = l1.alloc (.cells #[slice none 0 0] 55) →
 (n3.cell? (nb m) = some (n1) ∧ True) ∧
 (n3.cell? (nb w) = some (pointer m1) ∧ True) ∧
 CallG ctx n1 [int .i64 j1] n3 (fun o3 p3 =>
 ∃ q3, o3 = .returned (int .i64 q3) ∧
 (p3.cell? (nb w) = some (pointer m1) ∧ True) ∧
 Calls Tryz.prog 31 #[pointer m1, int .i64 q3] p3 (fun r3 s3 =>
 ∃ t3 u3 v3, r3 = .returned (slice t3 u3 v3) ∧
 (slice t3 u3 v3).oneCell' = true ∧ (∃ u, s3.cell? (nb l1) = some u) ∧ s3.frozen? (nb l1) = false ∧
 ∀ x3, x3 = (s3.setCell (nb l1) (slice t3 u3 v3)) →
 ∀ y3, y3 = x3.drew →
 ∃ z3 a4 b4, y3.cell? ((nb g).add 1) = some (slice z3 a4 b4) ∧
 Calls Tryz.prog 78 #[int .i64 h, int .i64 n, func (.func 80) #[] #[pointer (some (nb l1))]] y3 (fun c4 d4 =>
 ∃ e4 f4 g4, c4 = .returned (slice e4 f4 g4) ∧
 (d4.cell? ((nb g).add 1) = some (slice z3 a4 b4) ∧ True) ∧
 ∀ h4, h4 = d4.alloc (.cells #[slice e4 f4 g4] 28) →
 (h4.cell? ((nb g).add 1) = some (slice z3 a4 b4) ∧ True) ∧
 ∃ i4 j4 k4 l4, (Builtin.append_ #[120, 120] 120 #[slice z3 a4 b4, slice (some (nb d4)) 1 1]).run Tryz.prog h4 = .ok (slice i4 j4 k4) l4 ∧
 (slice i4 j4 k4).oneCell' = true ∧ (∃ u, l4.cell? ((nb g).add 1) = some u) ∧ l4.frozen? ((nb g).add 1) = false ∧
 ∀ m4, m4 = (l4.setCell ((nb g).add 1) (slice i4 j4 k4)) →
 Ar .i64 (j1 + 1) (fun n4 =>
 i1 [int .i64 n4] m4))))))
 (∀ o4, o4 = k1.drew →
 ∃ p4 q4 r4, o4.cell? ((nb g).add 1) = some (slice p4 q4 r4) ∧
 Calls Tryz.prog 78 #[int .i64 h, int .i64 n, func (.func 81) #[] #[]] o4 (fun s4 t4 =>
 ∃ u4 v4 x4, s4 = .returned (slice u4 v4 x4) ∧
 (t4.cell? ((nb g).add 1) = some (slice p4 q4 r4) ∧ True) ∧
 ∀ y4, y4 = t4.alloc (.cells #[slice u4 v4 x4] 28) →
 (y4.cell? ((nb g).add 1) = some (slice p4 q4 r4) ∧ True) ∧
 ∃ z4 a5 b5 c5, (Builtin.append_ #[120, 120] 120 #[slice p4 q4 r4, slice (some (nb t4)) 1 1]).run Tryz.prog y4 = .ok (slice z4 a5 b5) c5 ∧
 (slice z4 a5 b5).oneCell' = true ∧ (∃ u, c5.cell? ((nb g).add 1) = some u) ∧ c5.frozen? ((nb g).add 1) = false ∧
 ∀ d5, d5 = (c5.setCell ((nb g).add 1) (slice z4 a5 b5)) →
 ∀ e5, e5 = d5.alloc (.cells #[bool true] 4) →
 Ar .i64 (h + 2) (fun f5 =>
 Calls Tryz.prog 82 #[slice (some (nb d5)) 1 1, int .i64 f5] e5 (fun g5 h5 =>
 ∃ i5 j5 k5, g5 = .returned (slice i5 j5 k5) ∧
 (slice i5 j5 k5).oneCell' = true ∧ (∃ u, h5.cell? ((nb g).add 2) = some u) ∧ h5.frozen? ((nb g).add 2) = false ∧
 ∀ l5, l5 = (h5.setCell ((nb g).add 2) (slice i5 j5 k5)) →
 ∃ m5 n5 o5, l5.cell? ((nb g).add 2) = some (slice m5 n5 o5) ∧
 NilC m5 (fun p5 =>
 (0 : Int) ≤ n ∧ n < (n5 : Int) ∧
 (bool false).oneCell' = true ∧ (∃ u, l5.cell? (p5.add (n.toNat * 1)) = some u) ∧ l5.frozen? (p5.add (n.toNat * 1)) = false ∧
 ∀ q5, q5 = (l5.setCell (p5.add (n.toNat * 1)) (bool false)) →
 R (tuple #[pointer (some (nb g)), int .i64 0]) q5)))))) → i1 [int .i64 j1] k1) →
 i1 [int .i64 0] h1)))))))
theorem vc42_calls (a : OA) (b : Int) (w : World) (R : RW) (hh : vc42 a b w R) : Calls Tryz.prog 42 #[pointer a, int .i64 b] w fun e w' => ∃ v, e = .returned v ∧ R v w' :=
 calls_of_den ctxOk (fn := Tryz.f42) (by kernel_rfl) (body := bodyOf Tryz.f42) (by kernel_rfl) (by kernel_rfl) (by kernel_rfl) (Eq.mp (by kernel_rfl) hh)
def vc43 (a : OA) (w : World) (R : RW) : Prop :=
 CondP (Option.isNone a)
 (R (int .i64 0) w)
 (NilC a (fun b =>
 ∃ c d f, w.cell? (b.add 1) = some (slice c d f) ∧
 R (int .i64 (d : Int)) w))
theorem vc43_calls (a : OA) (w : World) (R : RW) (hh : vc43 a w R) : Calls Tryz.prog 43 #[pointer a] w fun e w' => ∃ v, e = .returned v ∧ R v w' :=
 calls_of_den ctxOk (fn := Tryz.f43) (by kernel_rfl) (body := bodyOf Tryz.f43) (by kernel_rfl) (by kernel_rfl) (by kernel_rfl) (Eq.mp (by kernel_rfl) hh)
def vc44 (a : OA) (b : Int) (w : World) (R : RW) : Prop :=
 Calls Tryz.prog 75 #[pointer a, int .i64 b] w (fun c d =>
 ∃ f, c = .returned (bool f) ∧
 CondP f
 (NilC a (fun g =>
 ∃ h i j, d.cell? (g.add 2) = some (slice h i j) ∧
 NilC h (fun k =>
 (0 : Int) ≤ b ∧ b < (i : Int) ∧
 ∃ l, d.cell? (k.add (b.toNat * 1)) = some (bool l) ∧
 R (bool l) d)))
 (R (bool false) d))
theorem vc44_calls (a : OA) (b : Int) (w : World) (R : RW) (hh : vc44 a b w R) : Calls Tryz.prog 44 #[pointer a, int .i64 b] w fun e w' => ∃ v, e = .returned v ∧ R v w' :=
 calls_of_den ctxOk (fn := Tryz.f44) (by kernel_rfl) (body := bodyOf Tryz.f44) (by kernel_rfl) (by kernel_rfl) (by kernel_rfl) (Eq.mp (by kernel_rfl) hh)
def vc45 (a : OA) (b c : Int) (w : World) (R : RW) : Prop :=
 Calls Tryz.prog 75 #[pointer a, int .i64 b] w (fun d f =>
 ∃ g, d = .returned (bool g) ∧
 CondP (!g)
 (R (tuple #[int .i64 0, bool false]) f)
 (NilC a (fun h =>
 ∃ i, f.cell? (h.add 0) = some (pointer i) ∧
 Calls Tryz.prog 41 #[pointer i, int .i64 c] f (fun j k =>
 ∃ l m, j = .returned (tuple #[int .i64 l, bool m]) ∧
 CondP (!m)
 (R (tuple #[int .i64 0, bool false]) k)
 (NilC a (fun n =>
 ∃ o p q, k.cell? (n.add 1) = some (slice o p q) ∧
 NilC o (fun r =>
 (0 : Int) ≤ b ∧ b < (p : Int) ∧
 ∃ s t u, k.cell? (r.add (b.toNat * 1)) = some (slice s t u) ∧
 NilC s (fun x =>
 (0 : Int) ≤ l ∧ l < (t : Int) ∧
 ∃ y, k.cell? (x.add (l.toNat * 1)) = some (int .i64 y) ∧
 R (tuple #[int .i64 y, bool true]) k))))))))
theorem vc45_calls (a : OA) (b c : Int) (w : World) (R : RW) (hh : vc45 a b c w R) : Calls Tryz.prog 45 #[pointer a, int .i64 b, int .i64 c] w fun e w' => ∃ v, e = .returned v ∧ R v w' :=
 calls_of_den ctxOk (fn := Tryz.f45) (by kernel_rfl) (body := bodyOf Tryz.f45) (by kernel_rfl) (by kernel_rfl) (by kernel_rfl) (Eq.mp (by kernel_rfl) hh)
def vc46 (a : OA) (w : World) (R : RW) : Prop :=
 CondP (Option.isNone a)
 (R (pointer none) w)
 (Calls Tryz.prog 76 #[pointer a] w (fun b c =>
 ∃ d f g, b = .returned (slice d f g) ∧
 ∀ h, h = c.alloc (.cells #[slice none 0 0] 28) →
 (slice d f g).oneCell' = true ∧ (∃ u, h.cell? (nb c) = some u) ∧ h.frozen? (nb c) = false ∧
 ∀ i, i = (h.setCell (nb c) (slice d f g)) →
 Calls Tryz.prog 83 #[pointer a, func (.func 84) #[] #[pointer (some (nb c))]] i (fun j k =>
 ∃ l m n o, j = .returned (tuple #[slice l m n, map o]) ∧
 NilC a (fun p =>
 ∃ q, k.cell? (p.add 0) = some (pointer q) ∧
 ∀ r, r = k.alloc (.cells #[pointer q, slice none 0 0, slice none 0 0, int .u32 0, int .i32 0, int .u32 0, slice none 0 0] 136) →
 ∀ s : KW, (∀ (t : Int) (x : World), (CondP (decide (t < (m : Int)))
 (NilC l (fun y =>
 (0 : Int) ≤ t ∧ t < (m : Int) ∧
 ∃ z, x.cell? (y.add (t.toNat * 1)) = some (int .i64 z) ∧
 NilC a (fun a1 =>
 ∃ b1 c1 d1, x.cell? (a1.add 1) = some (slice b1 c1 d1) ∧
 NilC b1 (fun e1 =>
 (0 : Int) ≤ z ∧ z < (c1 : Int) ∧
 ∃ f1 g1 h1, x.cell? (e1.add (z.toNat * 1)) = some (slice f1 g1 h1) ∧
 ∀ i1 : KW, (∀ (j1 : Int) (k1 : OA) (l1 m1 : Nat) (n1 : World), (CondP (decide (j1 < (g1 : Int)))
 (NilC f1 (fun o1 =>
 (0 : Int) ≤ j1 ∧ j1 < (g1 : Int) ∧
 ∃ p1, n1.cell? (o1.add (j1.toNat * 1)) = some (int .i64 p1) ∧
 ∃ q1 r1 s1, n1.cell? (nb c) = some (slice q1 r1 s1) ∧
 NilC q1 (fun t1 =>
 (0 : Int) ≤ p1 ∧ p1 < (r1 : Int) ∧
 ∃ u1, n1.cell? (t1.add (p1.toNat * 1)) = some (int .i64 u1) ∧
 ∃ v1 x1, (Instr.lookup 107 (map o) (int .i64 u1) false).run Tryz.prog n1 = .ok (int .i64 v1) x1 ∧
 ∀ y1, y1 = x1.alloc (.cells #[int .i64 v1] 3) →
 ∃ z1 a2 b2 c2, (Builtin.append_ #[28, 28] 28 #[slice k1 l1 m1, slice (some (nb x1)) 1 1]).run Tryz.prog y1 = .ok (slice z1 a2 b2) c2 ∧
 Ar .i64 (j1 + 1) (fun d2 =>
 i1 [int .i64 d2, slice z1 a2 b2] c2))))
 (∃ e2 f2 g2, n1.cell? ((nb k).add 1) = some (slice e2 f2 g2) ∧
 ∀ h2, h2 = n1.alloc (.cells #[slice k1 l1 m1] 28) →
 ∃ i2 j2 k2 l2, (Builtin.append_ #[120, 120] 120 #[slice e2 f2 g2, slice (some (nb n1)) 1 1]).run Tryz.prog h2 = .ok (slice i2 j2 k2) l2 ∧
 (slice i2 j2 k2).oneCell' = true ∧ (∃ u, l2.cell? ((nb k).add 1) = some u) ∧ l2.frozen? ((nb k).add 1) = false ∧
 ∀ m2, m2 = (l2.setCell ((nb k).add 1) (slice i2 j2 k2)) →
 ∀ n2, n2 = m2.drew →
 ∃ o2 p2 q2, n2.cell? ((nb k).add 2) = some (slice o2 p2 q2) ∧
 NilC a (fun r2 =>
 ∃ s2 t2 u2, n2.cell? (r2.add 2) = some (slice s2 t2 u2) ∧
 NilC s2 (fun v2 =>
 (0 : Int) ≤ z ∧ z < (t2 : Int) ∧
 ∃ x2, n2.cell? (v2.add (z.toNat * 1)) = some (bool x2) ∧
 ∀ y2, y2 = n2.alloc (.cells #[bool x2] 4) →
 (y2.cell? ((nb k).add 2) = some (slice o2 p2 q2) ∧ True) ∧
 ∃ z2 a3 b3 c3, (Builtin.append_ #[72, 72] 72 #[slice o2 p2 q2, slice (some (nb n2)) 1 1]).run Tryz.prog y2 = .ok (slice z2 a3 b3) c3 ∧
 (slice z2 a3 b3).oneCell' = true ∧ (∃ u, c3.cell? ((nb k).add 2) = some u) ∧ c3.frozen? ((nb k).add 2) = false ∧
 ∀ d3, d3 = (c3.setCell ((nb k).add 2) (slice z2 a3 b3)) →
 Ar .i64 (t + 1) (fun e3 =>
 s [int .i64 e3] d3))))) → i1 [int .i64 j1, slice k1 l1 m1] n1) →
 i1 [int .i64 0, slice none 0 0] x))))
 (R (pointer (some (nb k))) x)) → s [int .i64 t] x) →
 s [int .i64 0] r))))
theorem vc46_calls (a : OA) (w : World) (R : RW) (hh : vc46 a w R) : Calls Tryz.prog 46 #[pointer a] w fun e w' => ∃ v, e = .returned v ∧ R v w' :=
 calls_of_den ctxOk (fn := Tryz.f46) (by kernel_rfl) (body := bodyOf Tryz.f46) (by kernel_rfl) (by kernel_rfl) (by kernel_rfl) (Eq.mp (by kernel_rfl) hh)
def vc47 (a : OA) (w : World) (R : RW) : Prop :=
 CondP (Option.isNone a)
 (R (slice none 0 0) w)
 (Calls Tryz.prog 83 #[pointer a, func (.func 85) #[] #[]] w (fun b c =>
 ∃ d f g h, b = .returned (tuple #[slice d f g, map h]) ∧
 Calls Tryz.prog 86 #[slice d f g] c (fun i j =>
 i = .returned (tuple #[]) ∧
 R (slice d f g) j)))
theorem vc47_calls (a : OA) (w : World) (R : RW) (hh : vc47 a w R) : Calls Tryz.prog 47 #[pointer a] w fun e w' => ∃ v, e = .returned v ∧ R v w' :=
 calls_of_den ctxOk (fn := Tryz.f47) (by kernel_rfl) (body := bodyOf Tryz.f47) (by kernel_rfl) (by kernel_rfl) (by kernel_rfl) (Eq.mp (by kernel_rfl) hh)
def vc59 (a b : OA) (c d : Nat) (w : World) (R : RW) : Prop :=
 ∀ f : KW, (∀ (g h : Int) (i : Bool) (j : Int) (k : World), (CondP (decide (g < (c : Int)))
 (NilC b (fun l =>
 (0 : Int) ≤ g ∧ g < (c : Int) ∧
 ∃ m, k.cell? (l.add (g.toNat * 1)) = some (int .i64 m) ∧
 Calls Tryz.prog 45 #[pointer a, int .i64 h, int .i64 m] k (fun n o =>
 ∃ p q, n = .returned (tuple #[int .i64 p, bool q]) ∧
 CondP (!q)
 (R (tuple #[int .i64 g, bool true]) o)
 (NilC a (fun r =>
 ∃ s t u, o.cell? (r.add 2) = some (slice s t u) ∧
 NilC s (fun x =>
 (0 : Int) ≤ p ∧ p < (t : Int) ∧
 ∃ y, o.cell? (x.add (p.toNat * 1)) = some (bool y) ∧
 CondP (!y)
 (R (tuple #[int .i64 g, bool true]) o)
 (Ar .i64 (g + 1) (fun z =>
 f [int .i64 z, int .i64 p, bool i, int .i64 j] o))))))))
 (R (tuple #[int .i64 0, bool false]) k)) → f [int .i64 g, int .i64 h, bool i, int .i64 j] k) →
 f [int .i64 0, int .i64 0, bool false, int .i64 0] w
theorem vc59_calls (a b : OA) (c d : Nat) (w : World) (R : RW) (hh : vc59 a b c d w R) : Calls Tryz.prog 59 #[pointer a, slice b c d] w fun e w' => ∃ v, e = .returned v ∧ R v w' :=
 calls_of_den ctxOk (fn := Tryz.f59) (by kernel_rfl) (body := bodyOf Tryz.f59) (by kernel_rfl) (by kernel_rfl) (by kernel_rfl) (Eq.mp (by kernel_rfl) hh)
def vc60 (a b : OA) (c d : Nat) (w : World) (R : RW) : Prop :=
 ∀ f : KW, (∀ (g h : Int) (i : Bool) (j : Int) (k : World), (CondP (decide (g < (c : Int)))
 (NilC b (fun l =>
 (0 : Int) ≤ g ∧ g < (c : Int) ∧
 ∃ m, k.cell? (l.add (g.toNat * 1)) = some (int .i64 m) ∧
 Calls Tryz.prog 45 #[pointer a, int .i64 h, int .i64 m] k (fun n o =>
 ∃ p q, n = .returned (tuple #[int .i64 p, bool q]) ∧
 CondP (!q)
 (R (tuple #[int .i64 0, bool false]) o)
 (Ar .i64 (g + 1) (fun r =>
 f [int .i64 r, int .i64 p, bool i, int .i64 j] o)))))
 (R (tuple #[int .i64 h, bool (!(Option.isNone a))]) k)) → f [int .i64 g, int .i64 h, bool i, int .i64 j] k) →
 f [int .i64 0, int .i64 0, bool false, int .i64 0] w
theorem vc60_calls (a b : OA) (c d : Nat) (w : World) (R : RW) (hh : vc60 a b c d w R) : Calls Tryz.prog 60 #[pointer a, slice b c d] w fun e w' => ∃ v, e = .returned v ∧ R v w' :=
 calls_of_den ctxOk (fn := Tryz.f60) (by kernel_rfl) (body := bodyOf Tryz.f60) (by kernel_rfl) (by kernel_rfl) (by kernel_rfl) (Eq.mp (by kernel_rfl) hh)
def vc75 (a : OA) (b : Int) (w : World) (R : RW) : Prop :=
 CondP (decide (b ≥ 0))
 (Calls Tryz.prog 43 #[pointer a] w (fun c d =>
 ∃ f, c = .returned (int .i64 f) ∧
 R (bool (decide (b < f))) d))
 (R (bool false) w)
theorem vc75_calls (a : OA) (b : Int) (w : World) (R : RW) (hh : vc75 a b w R) : Calls Tryz.prog 75 #[pointer a, int .i64 b] w fun e w' => ∃ v, e = .returned v ∧ R v w' :=
 calls_of_den ctxOk (fn := Tryz.f75) (by kernel_rfl) (body := bodyOf Tryz.f75) (by kernel_rfl) (by kernel_rfl) (by kernel_rfl) (Eq.mp (by kernel_rfl) hh)
def vc76 (a : OA) (w : World) (R : RW) : Prop :=
 NilC a (fun b =>
 Calls Tryz.prog 113 #[pointer (some ((b.add 3).add 0)), func (.func 114) #[pointer a] #[]] w (fun c d =>
 c = .returned (tuple #[]) ∧
 NilC a (fun f =>
 ∃ g h i, d.cell? ((f.add 3).add 3) = some (slice g h i) ∧
 R (slice g h i) d)))
theorem vc76_calls (a : OA) (w : World) (R : RW) (hh : vc76 a w R) : Calls Tryz.prog 76 #[pointer a] w fun e w' => ∃ v, e = .returned v ∧ R v w' :=
 calls_of_den ctxOk (fn := Tryz.f76) (by kernel_rfl) (body := bodyOf Tryz.f76) (by kernel_rfl) (by kernel_rfl) (by kernel_rfl) (Eq.mp (by kernel_rfl) hh)
def vc77 (a : Int) (b : OA) (w : World) (R : RW) : Prop :=
 NilC b (fun c =>
 ∃ d, w.cell? c = some (pointer d) ∧
 Calls Tryz.prog 25 #[pointer d, int .i64 a] w (fun f g =>
 ∃ h i, f = .returned (tuple #[int .i64 h, bool i]) ∧
 R (int .i64 h) g))
theorem vc77_calls (a : Int) (b : OA) (w : World) (R : RW) (hh : vc77 a b w R) : Calls Tryz.prog 77 #[int .i64 a, pointer b] w fun e w' => ∃ v, e = .returned v ∧ R v w' :=
 calls_of_den ctxOk (fn := Tryz.f77) (by kernel_rfl) (body := bodyOf Tryz.f77) (by kernel_rfl) (by kernel_rfl) (by kernel_rfl) (Eq.mp (by kernel_rfl) hh)
def vc78 (a b : Int) (c : Value) (w : World) (R : RW) : Prop :=
 ∃ d f g h, (Instr.makeSlice 28 (int .i64 a) (int .i64 a)).run Tryz.prog w = .ok (slice d f g) h ∧
 ∀ i : KW, (∀ (j : Int) (k : World), (CondP (decide (j < (f : Int)))
 (∀ l : KW, (∀ m : World, (Ar .i64 (j + 1) (fun n =>
 i [int .i64 n] m)) → l [] m) →
 NilC d (fun o =>
 (0 : Int) ≤ j ∧ j < (f : Int) ∧
 (int .i64 b).oneCell' = true ∧ (∃ u, k.cell? (o.add (j.toNat * 1)) = some u) ∧ k.frozen? (o.add (j.toNat * 1)) = false ∧
 ∀ p, p = (k.setCell (o.add (j.toNat * 1)) (int .i64 b)) →
 CallG ctx c [int .i64 j] p (fun q r =>
 ∃ s, q = .returned (bool s) ∧
 CondP s
 (Ar .i64 (j + 1) (fun t =>
 NilC d (fun x =>
 (0 : Int) ≤ j ∧ j < (f : Int) ∧
 (int .i64 t).oneCell' = true ∧ (∃ u, r.cell? (x.add (j.toNat * 1)) = some u) ∧ r.frozen? (x.add (j.toNat * 1)) = false ∧
 ∀ y, y = (r.setCell (x.add (j.toNat * 1)) (int .i64 t)) →
 l [] y)))
 (l [] r))))
 (R (slice d f g) k)) → i [int .i64 j] k) →
 i [int .i64 0] h
theorem vc78_calls (a b : Int) (c : Value) (w : World) (R : RW) (hh : vc78 a b c w R) : Calls Tryz.prog 78 #[int .i64 a, int .i64 b, c] w fun e w' => ∃ v, e = .returned v ∧ R v w' :=
 calls_of_den ctxOk (fn := Tryz.f78) (by kernel_rfl) (body := bodyOf Tryz.f78) (by kernel_rfl) (by kernel_rfl) (by kernel_rfl) (Eq.mp (by kernel_rfl) hh)
def vc79 (a : Int) (b c : OA) (w : World) (R : RW) : Prop :=
 ∀ d, d = w.drew →
 NilC b (fun f =>
 ∃ g, d.cell? f = some (pointer g) ∧
 NilC c (fun h =>
 ∃ i, d.cell? h = some (i) ∧
 CallG ctx i [int .i64 a] d (fun j k =>
 ∃ l, j = .returned (int .i64 l) ∧
 (k.cell? f = some (pointer g) ∧ True) ∧
 Calls Tryz.prog 32 #[pointer g, int .i64 l] k (fun m n =>
 ∃ o, m = .returned (bool o) ∧
 R (bool o) n))))
theorem vc79_calls (a : Int) (b c : OA) (w : World) (R : RW) (hh : vc79 a b c w R) : Calls Tryz.prog 79 #[int .i64 a, pointer b, pointer c] w fun e w' => ∃ v, e = .returned v ∧ R v w' :=
 calls_of_den ctxOk (fn := Tryz.f79) (by kernel_rfl) (body := bodyOf Tryz.f79) (by kernel_rfl) (by kernel_rfl) (by kernel_rfl) (Eq.mp (by kernel_rfl) hh)
def vc80 (a : Int) (b : OA) (w : World) (R : RW) : Prop :=
 NilC b (fun c =>
 ∃ d f g, w.cell? c = some (slice d f g) ∧
 (64 : Int) ≠ 0 ∧
 NilC d (fun h =>
 (0 : Int) ≤ (IntKind.wrap .i64 (Int.tdiv a 64)) ∧ (IntKind.wrap .i64 (Int.tdiv a 64)) < (f : Int) ∧
 ∃ i, w.cell? (h.add ((IntKind.wrap .i64 (Int.tdiv a 64) : Int).toNat * 1)) = some (int .u64 i) ∧
 (64 : Int) ≠ 0 ∧
 (0 : Int) ≤ (Int.tmod a 64) ∧
 R (bool ((IntKind.wrap .u64 ((BitVec.ofInt (IntKind.bits .u64) (Int.fdiv i (2 ^ (min (Int.tmod a 64 : Int).toNat (IntKind.bits .u64)))) &&& BitVec.ofInt (IntKind.bits .u64) 1).toNat : Int) : Int) == 1)) w))
theorem vc80_calls (a : Int) (b : OA) (w : World) (R : RW) (hh : vc80 a b w R) : Calls Tryz.prog 80 #[int .i64 a, pointer b] w fun e w' => ∃ v, e = .returned v ∧ R v w' :=
 calls_of_den ctxOk (fn := Tryz.f80) (by kernel_rfl) (body := bodyOf Tryz.f80) (by kernel_rfl) (by kernel_rfl) (by kernel_rfl) (Eq.mp (by kernel_rfl) hh)
def vc81 (a : Int) (w : World) (R : RW) : Prop :=
 R (bool false) w
theorem vc81_calls (a : Int) (w : World) (R : RW) (hh : vc81 a w R) : Calls Tryz.prog 81 #[int .i64 a] w fun e w' => ∃ v, e = .returned v ∧ R v w' :=
 calls_of_den ctxOk (fn := Tryz.f81) (by kernel_rfl) (body := bodyOf Tryz.f81) (by kernel_rfl) (by kernel_rfl) (by kernel_rfl) (Eq.mp (by kernel_rfl) hh)
def vc82 (a : OA) (b c : Nat) (d : Int) (w : World) (R : RW) : Prop :=
 ∀ f : KW, (∀ g : World, (Calls Tryz.prog 115 #[int .u64 (IntKind.wrap .u64 (b : Int)), int .u64 (IntKind.wrap .u64 d)] g (fun h i =>
 ∃ j k, h = .returned (tuple #[int .u64 j, int .u64 k]) ∧
 ∀ l : KW, (∀ m : World, (∃ n o p q, (Instr.makeSlice 72 (int .i64 (IntKind.wrap .i64 k)) (int .i64 (IntKind.wrap .i64 k))).run Tryz.prog m = .ok (slice n o p) q ∧
 ∃ r s, (Builtin.copy_ #[72, 72] 3 #[slice n o p, slice a b c]).run Tryz.prog q = .ok (int .i64 r) s ∧
 ∀ t : KW, (∀ (u : Int) (x : World), (CondP (decide (u < (o : Int)))
 (∀ y, y = x.drew →
 (0 : Int) ≤ u ∧ u ≤ (o : Int) ∧ True ∧ True ∧ True ∧
 (0 : Int) ≤ (0 : Int) ∧ (0 : Int) ≤ u ∧ u ≤ (p : Int) ∧ True ∧ True ∧
 ∃ z a1, (Builtin.copy_ #[72, 72] 3 #[slice (slBase n u.toNat (p : Int).toNat 1) ((o : Int).toNat - u.toNat) ((p : Int).toNat - u.toNat), slice (slBase n (0 : Int).toNat (p : Int).toNat 1) (u.toNat - (0 : Int).toNat) ((p : Int).toNat - (0 : Int).toNat)]).run Tryz.prog y = .ok (int .i64 z) a1 ∧
 Ar .i64 (u + z) (fun b1 =>
 t [int .i64 b1] a1))
 (R (slice n o p) x)) → t [int .i64 u] x) →
 t [int .i64 r] s) → l [] m) →
 CondP (decide (j > 0))
 (False)
 (CondP (decide (k > 9223372036854775807))
 (False)
 (l [] i)))) → f [] g) →
 CondP (decide (d < 0))
 (False)
 (f [] w)
theorem vc82_calls (a : OA) (b c : Nat) (d : Int) (w : World) (R : RW) (hh : vc82 a b c d w R) : Calls Tryz.prog 82 #[slice a b c, int .i64 d] w fun e w' => ∃ v, e = .returned v ∧ R v w' :=
 calls_of_den ctxOk (fn := Tryz.f82) (by kernel_rfl) (body := bodyOf Tryz.f82) (by kernel_rfl) (by kernel_rfl) (by kernel_rfl) (Eq.mp (by kernel_rfl) hh)
def vc83 (a : OA) (b : Value) (w : World) (R : RW) : Prop :=
 ∀ c, c = w.alloc (.cells #[int .i64 0] 3) →
 ∃ d f, (Instr.makeMap 107 none).run Tryz.prog c = .ok (map d) f ∧
 CallG ctx b [int .i64 0] f (fun g h =>
 ∃ i, g = .returned (int .i64 i) ∧
 ∃ j, (Instr.mapUpdate 107 (map d) (int .i64 i) (int .i64 0)).run Tryz.prog h = .ok () j ∧
 ∀ k : KW, (∀ (l : Int) (m : OA) (n o : Nat) (p : World), (CondP (decide (l < (n : Int)))
 (∀ q, q = p.drew →
 NilC a (fun r =>
 ∃ s t u, q.cell? (r.add 1) = some (slice s t u) ∧
 NilC m (fun x =>
 (0 : Int) ≤ l ∧ l < (n : Int) ∧
 ∃ y, q.cell? (x.add (l.toNat * 1)) = some (int .i64 y) ∧
 NilC s (fun z =>
 (0 : Int) ≤ y ∧ y < (t : Int) ∧
 ∃ a1 b1 c1, q.cell? (z.add (y.toNat * 1)) = some (slice a1 b1 c1) ∧
 ∀ d1 : KW, (∀ (e1 : Int) (f1 : OA) (g1 h1 : Nat) (i1 : World), (CondP (decide (e1 < (b1 : Int)))
 (∀ j1 : KW, (∀ (k1 : OA) (l1 m1 : Nat) (n1 : World), (Ar .i64 (e1 + 1) (fun o1 =>
 d1 [int .i64 o1, slice k1 l1 m1] n1)) → j1 [slice k1 l1 m1] n1) →
 NilC a1 (fun p1 =>
 (0 : Int) ≤ e1 ∧ e1 < (b1 : Int) ∧
 ∃ q1, i1.cell? (p1.add (e1.toNat * 1)) = some (int .i64 q1) ∧
 CallG ctx b [int .i64 q1] i1 (fun r1 s1 =>
 ∃ t1, r1 = .returned (int .i64 t1) ∧
 ∃ u1 v1 x1, (Instr.lookup 107 (map d) (int .i64 t1) true).run Tryz.prog s1 = .ok (tuple #[int .i64 u1, bool v1]) x1 ∧
 CondP (!v1)
 (CallG ctx b [int .i64 q1] x1 (fun y1 z1 =>
 ∃ a2, y1 = .returned (int .i64 a2) ∧
 ∃ b2, (Instr.mapUpdate 107 (map d) (int .i64 a2) (int .i64 (g1 : Int))).run Tryz.prog z1 = .ok () b2 ∧
 ∀ c2, c2 = b2.alloc (.cells #[int .i64 q1] 3) →
 ∃ d2 e2 f2 g2, (Builtin.append_ #[28, 28] 28 #[slice f1 g1 h1, slice (some (nb b2)) 1 1]).run Tryz.prog c2 = .ok (slice d2 e2 f2) g2 ∧
 j1 [slice d2 e2 f2] g2))
 (j1 [slice f1 g1 h1] x1))))
 (Ar .i64 (l + 1) (fun h2 =>
 k [int .i64 h2, slice f1 g1 h1] i1))) → d1 [int .i64 e1, slice f1 g1 h1] i1) →
 d1 [int .i64 0, slice m n o] q))))
 (R (tuple #[slice m n o, map d]) p)) → k [int .i64 l, slice m n o] p) →
 k [int .i64 0, slice (some (nb w)) 1 1] j)
theorem vc83_calls (a : OA) (b : Value) (w : World) (R : RW) (hh : vc83 a b w R) : Calls Tryz.prog 83 #[pointer a, b] w fun e w' => ∃ v, e = .returned v ∧ R v w' :=
 calls_of_den ctxOk (fn := Tryz.f83) (by kernel_rfl) (body := bodyOf Tryz.f83) (by kernel_rfl) (by kernel_rfl) (by kernel_rfl) (Eq.mp (by kernel_rfl) hh)
def vc84 (a : Int) (b : OA) (w : World) (R : RW) : Prop :=
 NilC b (fun c =>
 ∃ d f g, w.cell? c = some (slice d f g) ∧
 NilC d (fun h =>
 (0 : Int) ≤ a ∧ a < (f : Int) ∧
 ∃ i, w.cell? (h.add (a.toNat * 1)) = some (int .i64 i) ∧
 R (int .i64 i) w))
theorem vc84_calls (a : Int) (b : OA) (w : World) (R : RW) (hh : vc84 a b w R) : Calls Tryz.prog 84 #[int .i64 a, pointer b] w fun e w' => ∃ v, e = .returned v ∧ R v w' :=
 calls_of_den ctxOk (fn := Tryz.f84) (by kernel_rfl) (body := bodyOf Tryz.f84) (by kernel_rfl) (by kernel_rfl) (by kernel_rfl) (Eq.mp (by kernel_rfl) hh)
def vc114 (a : OA) (w : World) (R : RW) : Prop :=
 ∀ b, b = w.alloc (.cells #[pointer a] 62) →
 ∃ c, b.cell? (nb w) = some (pointer c) ∧
 Calls Tryz.prog 43 #[pointer c] b (fun d f =>
 ∃ g, d = .returned (int .i64 g) ∧
 Calls Tryz.prog 161 #[int .i64 g, func (.func 162) #[] #[pointer (some (nb w))]] f (fun h i =>
 ∃ j k l m, h = .returned (tuple #[slice j k l, int .i64 m]) ∧
 ∀ n, n = i.alloc (.cells #[slice none 0 0] 28) →
 (slice j k l).oneCell' = true ∧ (∃ u, n.cell? (nb i) = some u) ∧ n.frozen? (nb i) = false ∧
 ∀ o, o = (n.setCell (nb i) (slice j k l)) →
 ∀ p : KW, (∀ (q : Int) (r : World), (∃ s, r.cell? (nb w) = some (pointer s) ∧
 Calls Tryz.prog 43 #[pointer s] r (fun t x =>
 ∃ y, t = .returned (int .i64 y) ∧
 Calls Tryz.prog 163 #[int .i64 y, func (.func 164) #[] #[pointer (some (nb i)), pointer (some (nb w))]] x (fun z a1 =>
 ∃ b1 c1 d1 e1, z = .returned (tuple #[slice b1 c1 d1, int .i64 e1]) ∧
 (slice b1 c1 d1).oneCell' = true ∧ (∃ u, a1.cell? (nb i) = some u) ∧ a1.frozen? (nb i) = false ∧
 ∀ f1, f1 = (a1.setCell (nb i) (slice b1 c1 d1)) →
 CondP (e1 == q)
 (∃ g1, f1.cell? (nb w) = some (pointer g1) ∧
 ∃ h1 i1 j1, f1.cell? (nb i) = some (slice h1 i1 j1) ∧
 NilC g1 (fun k1 =>
 (slice h1 i1 j1).oneCell' = true ∧ (∃ u, f1.cell? ((k1.add 3).add 3) = some u) ∧ f1.frozen? ((k1.add 3).add 3) = false ∧
 ∀ l1, l1 = (f1.setCell ((k1.add 3).add 3) (slice h1 i1 j1)) →
 R (tuple #[]) l1))
 (p [int .i64 e1] f1)))) → p [int .i64 q] r) →
 p [int .i64 m] o))
theorem vc114_calls (a : OA) (w : World) (R : RW) (hh : vc114 a w R) : Calls Tryz.prog 114 #[pointer a] w fun e w' => ∃ v, e = .returned v ∧ R v w' :=
 calls_of_den ctxOk (fn := Tryz.f114) (by kernel_rfl) (body := bodyOf Tryz.f114) (by kernel_rfl) (by kernel_rfl) (by kernel_rfl) (Eq.mp (by kernel_rfl) hh)
def vc115 (a b : Int) (w : World) (R : RW) : Prop :=
 Calls Tryz.prog 167 #[int .u64 a, int .u64 b] w (fun c d =>
 ∃ f g, c = .returned (tuple #[int .u64 f, int .u64 g]) ∧
 R (tuple #[int .u64 f, int .u64 g]) d)
theorem vc115_calls (a b : Int) (w : World) (R : RW) (hh : vc115 a b w R) : Calls Tryz.prog 115 #[int .u64 a, int .u64 b] w fun e w' => ∃ v, e = .returned v ∧ R v w' :=
 calls_of_den ctxOk (fn := Tryz.f115) (by kernel_rfl) (body := bodyOf Tryz.f115) (by kernel_rfl) (by kernel_rfl) (by kernel_rfl) (Eq.mp (by kernel_rfl) hh)
def vc161 (a : Int) (b : Value) (w : World) (R : RW) : Prop :=
 ∃ c d, (Instr.makeMap 299 none).run Tryz.prog w = .ok (map c) d ∧
 ∃ f g h i, (Instr.makeSlice 28 (int .i64 a) (int .i64 a)).run Tryz.prog d = .ok (slice f g h) i ∧
 ∀ j : KW, (∀ (k : Int) (l : World), (CondP (decide (k < a))
 (CallG ctx b [int .i64 k] l (fun m n =>
 ∃ o, m = .returned (bool o) ∧
 ∃ p q r, (Instr.lookup 299 (map c) (bool o) true).run Tryz.prog n = .ok (tuple #[int .i64 p, bool q]) r ∧
 ∀ s : KW, (∀ (t : Int) (x : World), (NilC f (fun y =>
 (0 : Int) ≤ k ∧ k < (g : Int) ∧
 (int .i64 t).oneCell' = true ∧ (∃ u, x.cell? (y.add (k.toNat * 1)) = some u) ∧ x.frozen? (y.add (k.toNat * 1)) = false ∧
 ∀ z, z = (x.setCell (y.add (k.toNat * 1)) (int .i64 t)) →
 Ar .i64 (k + 1) (fun a1 =>
 j [int .i64 a1] z))) → s [int .i64 t] x) →
 CondP (!q)
 (∃ b1 c1, (Builtin.len_ #[299] 3 #[map c]).run Tryz.prog r = .ok (int .i64 b1) c1 ∧
 ∃ d1, (Instr.mapUpdate 299 (map c) (bool o) (int .i64 b1)).run Tryz.prog c1 = .ok () d1 ∧
 s [int .i64 b1] d1)
 (s [int .i64 p] r)))
 (∃ e1 f1, (Builtin.len_ #[299] 3 #[map c]).run Tryz.prog l = .ok (int .i64 e1) f1 ∧
 R (tuple #[slice f g h, int .i64 e1]) f1)) → j [int .i64 k] l) →
 j [int .i64 0] i
theorem vc161_calls (a : Int) (b : Value) (w : World) (R : RW) (hh : vc161 a b w R) : Calls Tryz.prog 161 #[int .i64 a, b] w fun e w' => ∃ v, e = .returned v ∧ R v w' :=
 calls_of_den ctxOk (fn := Tryz.f161) (by kernel_rfl) (body := bodyOf Tryz.f161) (by kernel_rfl) (by kernel_rfl) (by kernel_rfl) (Eq.mp (by kernel_rfl) hh)
def vc162 (a : Int) (b : OA) (w : World) (R : RW) : Prop :=
 NilC b (fun c =>
 ∃ d, w.cell? c = some (pointer d) ∧
 NilC d (fun f =>
 ∃ g h i, w.cell? (f.add 2) = some (slice g h i) ∧
 NilC g (fun j =>
 (0 : Int) ≤ a ∧ a < (h : Int) ∧
 ∃ k, w.cell? (j.add (a.toNat * 1)) = some (bool k) ∧
 R (bool k) w)))
theorem vc162_calls (a : Int) (b : OA) (w : World) (R : RW) (hh : vc162 a b w R) : Calls Tryz.prog 162 #[int .i64 a, pointer b] w fun e w' => ∃ v, e = .returned v ∧ R v w' :=
 calls_of_den ctxOk (fn := Tryz.f162) (by kernel_rfl) (body := bodyOf Tryz.f162) (by kernel_rfl) (by kernel_rfl) (by kernel_rfl) (Eq.mp (by kernel_rfl) hh)
def vc163 (a : Int) (b : Value) (w : World) (R : RW) : Prop :=
 ∃ c d, (Instr.makeMap 177 none).run Tryz.prog w = .ok (map c) d ∧
 ∃ f g h i, (Instr.makeSlice 28 (int .i64 a) (int .i64 a)).run Tryz.prog d = .ok (slice f g h) i ∧
 ∀ j : KW, (∀ (k : Int) (l : World), (CondP (decide (k < a))
 (CallG ctx b [int .i64 k] l (fun m n =>
 ∃ o, m = .returned (string o) ∧
 ∃ p q r, (Instr.lookup 177 (map c) (string o) true).run Tryz.prog n = .ok (tuple #[int .i64 p, bool q]) r ∧
 ∀ s : KW, (∀ (t : Int) (x : World), (NilC f (fun y =>
 (0 : Int) ≤ k ∧ k < (g : Int) ∧
 (int .i64 t).oneCell' = true ∧ (∃ u, x.cell? (y.add (k.toNat * 1)) = some u) ∧ x.frozen? (y.add (k.toNat * 1)) = false ∧
 ∀ z, z = (x.setCell (y.add (k.toNat * 1)) (int .i64 t)) →
 Ar .i64 (k + 1) (fun a1 =>
 j [int .i64 a1] z))) → s [int .i64 t] x) →
 CondP (!q)
 (∃ b1 c1, (Builtin.len_ #[177] 3 #[map c]).run Tryz.prog r = .ok (int .i64 b1) c1 ∧
 ∃ d1, (Instr.mapUpdate 177 (map c) (string o) (int .i64 b1)).run Tryz.prog c1 = .ok () d1 ∧
 s [int .i64 b1] d1)
 (s [int .i64 p] r)))
 (∃ e1 f1, (Builtin.len_ #[177] 3 #[map c]).run Tryz.prog l = .ok (int .i64 e1) f1 ∧
 R (tuple #[slice f g h, int .i64 e1]) f1)) → j [int .i64 k] l) →
 j [int .i64 0] i
theorem vc163_calls (a : Int) (b : Value) (w : World) (R : RW) (hh : vc163 a b w R) : Calls Tryz.prog 163 #[int .i64 a, b] w fun e w' => ∃ v, e = .returned v ∧ R v w' :=
 calls_of_den ctxOk (fn := Tryz.f163) (by kernel_rfl) (body := bodyOf Tryz.f163) (by kernel_rfl) (by kernel_rfl) (by kernel_rfl) (Eq.mp (by kernel_rfl) hh)
def vc164 (a : Int) (b c : OA) (w : World) (R : RW) : Prop :=
 ∀ d, d = w.drew →
 NilC b (fun f =>
 ∃ g h i, d.cell? f = some (slice g h i) ∧
 NilC g (fun j =>
 (0 : Int) ≤ a ∧ a < (h : Int) ∧
 ∃ k, d.cell? (j.add (a.toNat * 1)) = some (int .i64 k) ∧
 NilC c (fun l =>
 ∃ m, d.cell? l = some (pointer m) ∧
 NilC m (fun n =>
 ∃ o p q, d.cell? (n.add 1) = some (slice o p q) ∧
 NilC o (fun r =>
 (0 : Int) ≤ a ∧ a < (p : Int) ∧
 ∃ s t u, d.cell? (r.add (a.toNat * 1)) = some (slice s t u) ∧
 NilC b (fun x =>
 ∃ y z a1, d.cell? x = some (slice y z a1) ∧
 Calls Tryz.prog 165 #[int .i64 k, slice s t u, slice y z a1] d (fun b1 c1 =>
 ∃ d1, b1 = .returned (string d1) ∧
 R (string d1) c1)))))))
theorem vc164_calls (a : Int) (b c : OA) (w : World) (R : RW) (hh : vc164 a b c w R) : Calls Tryz.prog 164 #[int .i64 a, pointer b, pointer c] w fun e w' => ∃ v, e = .returned v ∧ R v w' :=
 calls_of_den ctxOk (fn := Tryz.f164) (by kernel_rfl) (body := bodyOf Tryz.f164) (by kernel_rfl) (by kernel_rfl) (by kernel_rfl) (Eq.mp (by kernel_rfl) hh)
def vc165 (a : Int) (b : OA) (c d : Nat) (f : OA) (g h : Nat) (w : World) (R : RW) : Prop :=
 Ar .i64 ((2 : Int) * (c : Int)) (fun i =>
 Ar .i64 (i + 2) (fun j =>
 ∃ k l m n, (Instr.makeSlice 178 (int .i64 0) (int .i64 j)).run Tryz.prog w = .ok (slice k l m) n ∧
 (0 : Int) ≤ 8 ∧
 ∀ o, o = n.alloc (.cells #[int .u8 (IntKind.wrap .u8 a), int .u8 (IntKind.wrap .u8 (Int.fdiv a (2 ^ (min (8 : Int).toNat (IntKind.bits .i64)))))] 5) →
 ∃ p q r s, (Builtin.append_ #[178, 178] 178 #[slice k l m, slice (some (nb n)) 2 2]).run Tryz.prog o = .ok (slice p q r) s ∧
 ∀ t : KW, (∀ (u : Int) (x : OA) (y z : Nat) (a1 : World), (CondP (decide (u < (c : Int)))
 (NilC b (fun b1 =>
 (0 : Int) ≤ u ∧ u < (c : Int) ∧
 ∃ c1, a1.cell? (b1.add (u.toNat * 1)) = some (int .i64 c1) ∧
 ∀ d1, d1 = a1.drew →
 NilC f (fun e1 =>
 (0 : Int) ≤ c1 ∧ c1 < (g : Int) ∧
 ∃ f1, d1.cell? (e1.add (c1.toNat * 1)) = some (int .i64 f1) ∧
 NilC f (fun g1 =>
 (0 : Int) ≤ c1 ∧ c1 < (g : Int) ∧
 ∃ h1, d1.cell? (g1.add (c1.toNat * 1)) = some (int .i64 h1) ∧
 (0 : Int) ≤ 8 ∧
 ∀ i1, i1 = d1.alloc (.cells #[int .u8 (IntKind.wrap .u8 f1), int .u8 (IntKind.wrap .u8 (Int.fdiv h1 (2 ^ (min (8 : Int).toNat (IntKind.bits .i64)))))] 5) →
 ∃ j1 k1 l1 m1, (Builtin.append_ #[178, 178] 178 #[slice x y z, slice (some (nb d1)) 2 2]).run Tryz.prog i1 = .ok (slice j1 k1 l1) m1 ∧
 Ar .i64 (u + 1) (fun n1 =>
 t [int .i64 n1, slice j1 k1 l1] m1)))))
 (∃ o1 p1, (convert 178 9 (slice x y z)).run Tryz.prog a1 = .ok (string o1) p1 ∧
 R (string o1) p1)) → t [int .i64 u, slice x y z] a1) →
 t [int .i64 0, slice p q r] s))
theorem vc165_calls (a : Int) (b : OA) (c d : Nat) (f : OA) (g h : Nat) (w : World) (R : RW) (hh : vc165 a b c d f g h w R) : Calls Tryz.prog 165 #[int .i64 a, slice b c d, slice f g h] w fun e w' => ∃ v, e = .returned v ∧ R v w' :=
 calls_of_den ctxOk (fn := Tryz.f165) (by kernel_rfl) (body := bodyOf Tryz.f165) (by kernel_rfl) (by kernel_rfl) (by kernel_rfl) (Eq.mp (by kernel_rfl) hh)
def vc167 (a b : Int) (w : World) (R : RW) : Prop :=
 (0 : Int) ≤ 32 ∧
 (0 : Int) ≤ 32 ∧
 Ar .u64 ((IntKind.wrap .u64 ((BitVec.ofInt (IntKind.bits .u64) a &&& BitVec.ofInt (IntKind.bits .u64) 4294967295).toNat : Int) : Int) * (IntKind.wrap .u64 ((BitVec.ofInt (IntKind.bits .u64) b &&& BitVec.ofInt (IntKind.bits .u64) 4294967295).toNat : Int))) (fun c =>
 Ar .u64 ((Int.fdiv a (2 ^ (min (32 : Int).toNat (IntKind.bits .u64))) : Int) * (IntKind.wrap .u64 ((BitVec.ofInt (IntKind.bits .u64) b &&& BitVec.ofInt (IntKind.bits .u64) 4294967295).toNat : Int))) (fun d =>
 (0 : Int) ≤ 32 ∧
 Ar .u64 (d + (Int.fdiv c (2 ^ (min (32 : Int).toNat (IntKind.bits .u64))))) (fun f =>
 (0 : Int) ≤ 32 ∧
 Ar .u64 ((IntKind.wrap .u64 ((BitVec.ofInt (IntKind.bits .u64) a &&& BitVec.ofInt (IntKind.bits .u64) 4294967295).toNat : Int) : Int) * (Int.fdiv b (2 ^ (min (32 : Int).toNat (IntKind.bits .u64))))) (fun g =>
 Ar .u64 ((IntKind.wrap .u64 ((BitVec.ofInt (IntKind.bits .u64) f &&& BitVec.ofInt (IntKind.bits .u64) 4294967295).toNat : Int) : Int) + g) (fun h =>
 Ar .u64 ((Int.fdiv a (2 ^ (min (32 : Int).toNat (IntKind.bits .u64))) : Int) * (Int.fdiv b (2 ^ (min (32 : Int).toNat (IntKind.bits .u64))))) (fun i =>
 Ar .u64 (i + (Int.fdiv f (2 ^ (min (32 : Int).toNat (IntKind.bits .u64))))) (fun j =>
 (0 : Int) ≤ 32 ∧
 Ar .u64 (j + (Int.fdiv h (2 ^ (min (32 : Int).toNat (IntKind.bits .u64))))) (fun k =>
 Ar .u64 (a * b) (fun l =>
 R (tuple #[int .u64 k, int .u64 l]) w)))))))))
theorem vc167_calls (a b : Int) (w : World) (R : RW) (hh : vc167 a b w R) : Calls Tryz.prog 167 #[int .u64 a, int .u64 b] w fun e w' => ∃ v, e = .returned v ∧ R v w' :=
 calls_of_den ctxOk (fn := Tryz.f167) (by kernel_rfl) (body := bodyOf Tryz.f167) (by kernel_rfl) (by kernel_rfl) (by kernel_rfl) (Eq.mp (by kernel_rfl) hh)
end Go.Proofs.YtboemnagahmlkaaGreat.Eng

/- Where letters lead, texts, and groups, walked by the engine. -/
set_option linter.unusedVariables false
set_option linter.unusedSimpArgs false
set_option maxRecDepth 100000
namespace Go.Proofs.YtboemnagahmlkaaGreat.Eng
open Go Go.RowKit
/-! ### Lists that are made, and filled -/
theorem infoInt3 : ∃ i, Tryz.prog.info? tInt = some i ∧ i.zero = some (.int .i64 0) ∧ i.size = 1 ∧ i.bytes = 8 := by
  have h : (Tryz.prog.info? tInt).map (fun i => (i.zero, i.size, i.bytes)) = some (some (.int .i64 0), 1, 8) := by kernel_rfl
  obtain ⟨i, hi, he⟩ := Option.map_eq_some_iff.1 h
  simp only [Prod.mk.injEq] at he
  exact ⟨i, hi, he.1, he.2.1, he.2.2⟩
theorem run_makeInts (w : World) (n : Nat) (hn : n ≤ 1000000) : (Instr.makeSlice tInts (.int .i64 n) (.int .i64 n)).run Tryz.prog w = .ok (.slice (some (nb w)) n n) (w.alloc (.cells (Array.replicate n (.int .i64 0)) tInt)) := by
  obtain ⟨i, hi, hz, hs, hb⟩ := infoInt3
  have := Go.run_make (P := Tryz.prog) w tInts tInt i (.int .i64 0) (by kernel_rfl) hi hz .i64 .i64 (n : Int) (n : Int) (by omega) (Int.le_refl _) (by rw [hb]; omega) (by omega)
  rw [this]
  congr 3
  rw [hs]
  apply Array.ext
  · rw [size_madeCells]
    simp
  · intro j h1 h2
    simp only [madeCells, Array.getElem_map, Array.getElem_range, Array.getElem_replicate]
    show (#[Value.int .i64 0] : Array Value)[j % 1]! = _
    rw [Nat.mod_one]
    rfl
/-- A list of n things, of which the first i are there. -/
def part {α : Type} (z : α) (f : Nat → α) (n i : Nat) : List α := (List.range n).map fun j => if j < i then f j else z
theorem part_length {α : Type} (z : α) (f : Nat → α) (n i : Nat) : (part z f n i).length = n := by simp [part]
theorem part_get {α : Type} (z : α) (f : Nat → α) {n i j : Nat} (hj : j < n) : (part z f n i)[j]? = some (if j < i then f j else z) := by simp [part, List.getElem?_range hj]
theorem part_set {α : Type} (z : α) (f : Nat → α) {n i : Nat} (hi : i < n) : (part z f n i).set i (f i) = part z f n (i + 1) := by
  apply List.ext_getElem?
  intro j
  by_cases hj : j < n
  · rw [List.getElem?_set, part_get z f hj, part_get z f hj]
    by_cases e : i = j
    · subst e; simp [part_length, hi]
    · rw [if_neg e]
      by_cases h : j < i
      · rw [if_pos h, if_pos (by omega)]
      · rw [if_neg h, if_neg (by omega)]
  · rw [List.getElem?_eq_none_iff.2 (by rw [List.length_set, part_length]; omega), List.getElem?_eq_none_iff.2 (by rw [part_length]; omega)]
theorem part_none {α : Type} (z : α) (f : Nat → α) (n : Nat) : part z f n 0 = List.replicate n z := by
  apply List.ext_getElem?
  intro j
  by_cases hj : j < n
  · rw [part_get z f hj, List.getElem?_replicate, if_pos hj, if_neg (by omega)]
  · rw [List.getElem?_eq_none_iff.2 (by rw [part_length]; omega), List.getElem?_eq_none_iff.2 (by simp; omega)]
theorem part_all {α : Type} (z : α) (f : Nat → α) (n : Nat) : part z f n n = (List.range n).map f := by
  apply List.map_congr_left
  intro j hj
  rw [if_pos (List.mem_range.1 hj)]
theorem own_part {α : Type} {enc : α → List Value} (z : α) (zv : Value) (henc : enc z = [zv]) (e : TypeId) (f : Nat → α) (w : World) {n : Nat} (hn : n ≤ 1000000) : (w.alloc (.cells (Array.replicate n zv) e)).ownsRow w.heap.size e 1 (.slice (some (nb w)) n n) n ((part z f n 0).flatMap enc) := by
  have hf : (part z f n 0).flatMap enc = List.replicate n zv := by
    rw [part_none, List.flatMap_replicate, henc]
    simp
  rw [hf, show Array.replicate n zv = (List.replicate n zv).toArray by simp]
  exact own_made _ (by simp) hn (Nat.le_refl _)
/-! ### Where letters lead -/
theorem leads_spec (w : World) (n bad : Nat) (may : Value) (m : Nat → Bool) (hn : n ≤ 10000) (hm : ∀ k, k < n → ∀ w1, Below w.heap.size w w1 → CallG ctx may [.int .i64 (k : Int)] w1 (fun e w2 => e = .returned (.bool (m k)) ∧ Below w1.heap.size w1 w2)) :
    Calls Tryz.prog 78 #[.int .i64 (n : Int), .int .i64 (bad : Int), may] w fun e w' => ∃ l : Sl, e = .returned l.v ∧ l.n = n ∧ w'.ownsRow w.heap.size tInt 1 l.v l.n (((List.range n).map fun k => ((if m k then k + 1 else bad : Nat) : Int)).flatMap encInt) ∧ Below w.heap.size w w' := by
  refine calls_ret (vc78_calls n bad may w (fun u w' => ∃ l : Sl, u = l.v ∧ l.n = n ∧ w'.ownsRow w.heap.size tInt 1 l.v l.n (((List.range n).map fun k => ((if m k then k + 1 else bad : Nat) : Int)).flatMap encInt) ∧ Below w.heap.size w w') ?_) (by rintro v w' ⟨l, rfl, h⟩; exact ⟨l, rfl, h⟩)
  obtain ⟨f, hf⟩ : ∃ f : Nat → Int, f = fun k => ((if m k then k + 1 else bad : Nat) : Int) := ⟨_, rfl⟩
  refine ⟨some (nb w), n, n, _, run_makeInts w n (by omega), ?_⟩
  intro I hI
  have b0 := below_alloc w (.cells (Array.replicate n (.int .i64 0)) tInt)
  have o0 := own_part (enc := encInt) (0 : Int) (.int .i64 0) rfl tInt f w (n := n) (by omega)
  obtain ⟨l, hl⟩ : ∃ l : Sl, l = ⟨some (nb w), n, n⟩ := ⟨_, rfl⟩
  have key := climb2 (α := World) n (fun i q => q.ownsRow w.heap.size tInt 1 l.v l.n ((part 0 f n i).flatMap encInt) ∧ Below w.heap.size w q) (fun i q => I [.int .i64 (i : Int)] q) _ ⟨by subst hl; exact o0, b0⟩ ?_ ?_
  · exact key
  · rintro i hi ih q ⟨ho, hB⟩
    refine hI _ _ (CondP.yes (decide_eq_true (by omega)) ?_)
    intro J hJ
    have hln : l.n = n := by subst hl; rfl
    have hla : l.a = some (nb w) := by subst hl; rfl
    obtain ⟨u, fz, k⟩ := own_write (l := l) (enc := encInt) (sz := 1) (fun _ => rfl) (by decide) ho (by rw [part_length]; exact hln) hla (part_get 0 f hi) (k := 0) (by decide) (bad : Int) (.int .i64 (bad : Int)) rfl
    rw [add_zero] at u fz k
    refine NilC.mk _ rfl ⟨by omega, by omega, rfl, u, fz, ?_⟩
    intro w4 hw4
    obtain ⟨o4, _, _, b4⟩ := k w4 hw4
    have hB4 := b4 _ _ (Nat.le_refl _) hB
    refine (hm i hi w4 hB4).mono ?_
    rintro e w5 ⟨rfl, b5⟩
    have o5 := own_on o4 b5
    have hB5 := below_then hB4 b5
    refine ⟨_, rfl, CondP.mk (fun h => ?_) fun h => ?_⟩
    · have hget : ((part 0 f n i).set i (bad : Int))[i]? = some (bad : Int) := by rw [List.getElem?_set_self (by rw [part_length]; exact hi)]
      obtain ⟨u2, fz2, k2⟩ := own_write (l := l) (enc := encInt) (sz := 1) (fun _ => rfl) (by decide) o5 (by rw [List.length_set, part_length]; exact hln) hla hget (k := 0) (by decide) ((i + 1 : Nat) : Int) (.int .i64 ((i + 1 : Nat) : Int)) rfl
      rw [add_zero] at u2 fz2 k2
      refine Ar.nat (i + 1) rfl (by omega) (NilC.mk _ rfl ⟨by omega, by omega, rfl, u2, fz2, ?_⟩)
      intro w6 hw6
      obtain ⟨o6, _, _, b6⟩ := k2 w6 hw6
      refine hJ _ (Ar.nat (i + 1) rfl (by omega) (ih w6 ⟨?_, b6 _ _ (Nat.le_refl _) hB5⟩))
      rw [List.set_set] at o6
      have := part_set (0 : Int) f hi
      rw [show f i = ((i + 1 : Nat) : Int) by rw [hf]; show ((if m i then i + 1 else bad : Nat) : Int) = _; rw [if_pos h]] at this
      rw [this] at o6
      exact o6
    · refine hJ _ (Ar.nat (i + 1) rfl (by omega) (ih w5 ⟨?_, hB5⟩))
      have := part_set (0 : Int) f hi
      rw [show f i = (bad : Int) by rw [hf]; show ((if m i then i + 1 else bad : Nat) : Int) = _; rw [if_neg (by rw [h]; decide)]] at this
      rw [this] at o5
      exact o5
  · rintro q ⟨ho, hB⟩
    refine hI _ _ (CondP.no (decide_eq_false (by omega)) ⟨l, by subst hl; rfl, by subst hl; rfl, ?_, hB⟩)
    rw [part_all, hf] at ho
    exact ho
/-! ### Numbers as texts -/
theorem sh8 (x : Nat) : Int.fdiv (x : Int) (2 ^ (min (8 : Int).toNat (IntKind.bits .i64))) = ((x / 256 : Nat) : Int) := by
  rw [show (2 : Int) ^ (min (8 : Int).toNat (IntKind.bits .i64)) = ((256 : Nat) : Int) by decide, Int.fdiv_eq_ediv_of_nonneg _ (by omega)]
  rfl
theorem two_u8 (x : Nat) : (#[Value.int .u8 (IntKind.wrap .u8 (x : Int)), Value.int .u8 (IntKind.wrap .u8 (Int.fdiv (x : Int) (2 ^ (min (8 : Int).toNat (IntKind.bits .i64)))))] : Array Value) = ((num2 x).flatMap encU8).toArray := by
  rw [sh8, wrap_u8, wrap_u8]
  rfl
theorem run_make0 (w : World) (c : Nat) (hc : c ≤ 1000000) : ∃ w1, (Instr.makeSlice tBytes (.int .i64 0) (.int .i64 (c : Int))).run Tryz.prog w = .ok (.slice (some (nb w)) 0 c) w1 ∧ w1.ownsRow w.heap.size tU8 1 (.slice (some (nb w)) 0 c) 0 (([] : List UInt8).flatMap encU8) ∧ Below w.heap.size w w1 := by
  have h : (Tryz.prog.info? tU8).map (fun i => (i.zero, i.size, i.bytes)) = some (some (.int .u8 0), 1, 1) := by kernel_rfl
  obtain ⟨i, hi, he⟩ := Option.map_eq_some_iff.1 h
  simp only [Prod.mk.injEq] at he
  obtain ⟨hz, hs, hb⟩ := he
  have := Go.run_make (P := Tryz.prog) w tBytes tU8 i (.int .u8 0) (by kernel_rfl) hi hz .i64 .i64 0 (c : Int) (by omega) (by omega) (by rw [hb]; omega) (by omega)
  refine ⟨_, this, ?_, below_alloc _ _⟩
  refine ⟨rfl, .inr ⟨w.heap.size, c, _, rfl, Nat.le_refl _, alloc_new _ _, Nat.zero_le _, by unfold maxLen; omega, ?_, by simp⟩⟩
  rw [size_madeCells, hs]
  simp
theorem text17_spec (w : World) (x : Nat) (A A2 : Option Addr) (C C2 : Nat) (l of : List Nat) (hl : Rw encInt 1 w A (l.map fun i : Nat => (i : Int))) (ho : Rw encInt 1 w A2 (of.map fun i : Nat => (i : Int))) (hin : ∀ y ∈ l, y < of.length) (hn : l.length ≤ 10000) :
    Calls Tryz.prog 165 #[.int .i64 (x : Int), .slice A l.length C, .slice A2 of.length C2] w fun e w' => e = .returned (.string (str (num2 x ++ (l.map fun y => of.getD y 0).flatMap num2))) ∧ Below w.heap.size w w' := by
  refine calls_ret (vc165_calls x A l.length C A2 of.length C2 w (fun u w' => u = .string (str (num2 x ++ (l.map fun y => of.getD y 0).flatMap num2)) ∧ Below w.heap.size w w') ?_) (by rintro v w' ⟨rfl, h⟩; exact ⟨rfl, h⟩)
  obtain ⟨w1, hr1, o1, b1⟩ := run_make0 w (2 * l.length + 2) (by omega)
  refine Ar.nat (2 * l.length) (by omega) (by omega) (Ar.nat (2 * l.length + 2) (by omega) (by omega) ⟨_, _, _, w1, hr1, by decide, ?_⟩)
  intro w2 hw2
  rw [two_u8] at hw2
  have b2 : Below w1.heap.size w1 w2 := by subst hw2; exact below_alloc _ _
  have h2 : LsAt encU8 1 w2 ⟨some (nb w1), 2, 2⟩ (num2 x) := LsAt.of_own elU8 (B := 0) (by subst hw2; exact own_made (n := 2) _ rfl (by decide) (Nat.zero_le _))
  obtain ⟨f0, w3, f1, f2, f3, f4, _, _⟩ := elU8.spread (s := ⟨some (nb w), 0, 2 * l.length + 2⟩) (xs := []) (own_on o1 b2) h2 (below_then b1 b2).size (by show 0 ≤ _; omega) (by show 2 ≤ _; omega) (by decide)
  refine ⟨f0.a, f0.n, f0.c, w3, f2, ?_⟩
  intro I hI
  let g (y : Nat) : Nat := of.getD y 0
  have key := climb2 (α := Sl × World) l.length (fun i y => y.2.ownsRow w.heap.size tU8 1 y.1.v y.1.n ((num2 x ++ ((l.take i).map g).flatMap num2).flatMap encU8) ∧ y.1.n = 2 + 2 * i ∧ Below w.heap.size w y.2) (fun i y => I [.int .i64 (i : Int), y.1.v] y.2) (f0, w3) ⟨by simpa using f3, f1, f4 _ (below_then b1 b2)⟩ ?_ ?_
  · exact key
  · rintro i hi ih ⟨f, q⟩ ⟨hown, hfn, hB⟩
    change q.ownsRow w.heap.size tU8 1 f.v f.n _ at hown
    change f.n = 2 + 2 * i at hfn
    change Below w.heap.size w q at hB
    obtain ⟨p, hp, c0⟩ := cell_rw (hl.on hB) (show i < (l.map fun i : Nat => (i : Int)).length by simpa using hi) (v := .int .i64 ((l[i] : Nat) : Int)) (by simp [encInt])
    have hlt := hin _ (List.getElem_mem hi)
    refine hI _ f.a f.n f.c q (CondP.yes (decide_eq_true (by omega)) (NilC.mk p hp ⟨by omega, by omega, _, c0, ?_⟩))
    intro q1 hq1
    have bq1 : Below q.heap.size q q1 := by subst hq1; exact drew_on q
    have hB1 := below_then hB bq1
    obtain ⟨p2, hp2, c2⟩ := cell_rw (ho.on hB1) (show l[i] < (of.map fun i : Nat => (i : Int)).length by simpa using hlt) (v := .int .i64 ((of[l[i]] : Nat) : Int)) (by simp [encInt])
    refine NilC.mk p2 hp2 ⟨by omega, by omega, _, c2, NilC.mk p2 hp2 ⟨by omega, by omega, _, c2, by decide, ?_⟩⟩
    intro q2 hq2
    rw [two_u8] at hq2
    have bq2 : Below q1.heap.size q1 q2 := by subst hq2; exact below_alloc _ _
    have h3 : LsAt encU8 1 q2 ⟨some (nb q1), 2, 2⟩ (num2 of[l[i]]) := LsAt.of_own elU8 (B := 0) (by subst hq2; exact own_made (n := 2) _ rfl (by decide) (Nat.zero_le _))
    obtain ⟨f', q3, e1, e2, e3, e4, _, _⟩ := elU8.spread (own_on (own_on hown bq1) bq2) h3 (below_then hB1 bq2).size (by omega) (by show 2 ≤ _; omega) (by decide)
    refine ⟨f'.a, f'.n, f'.c, q3, e2, Ar.nat (i + 1) rfl (by omega) (ih (f', q3) ⟨?_, ?_, e4 _ (below_then hB1 bq2)⟩)⟩
    · have e : num2 x ++ ((l.take (i + 1)).map g).flatMap num2 = (num2 x ++ ((l.take i).map g).flatMap num2) ++ num2 of[l[i]] := by
        have hg : g l[i] = of[l[i]] := getD_of hlt 0
        rw [List.take_add_one, List.getElem?_eq_getElem hi, List.map_append, List.flatMap_append, List.append_assoc]
        simp [hg]
      show q3.ownsRow w.heap.size tU8 1 f'.v f'.n ((num2 x ++ ((l.take (i + 1)).map g).flatMap num2).flatMap encU8)
      rw [e]
      exact e3
    · show f'.n = 2 + 2 * (i + 1)
      change f'.n = f.n + 2 at e1
      omega
  · rintro ⟨f, q⟩ ⟨hown, hfn, hB⟩
    change q.ownsRow w.heap.size tU8 1 f.v f.n _ at hown
    rw [List.take_length] at hown
    exact hI _ f.a f.n f.c q (CondP.no (decide_eq_false (by omega)) ⟨_, q, run_str_own (P := Tryz.prog) undBytes undU8 undStr (by rw [← u8_cells]; exact hown), rfl, hB⟩)
end Go.Proofs.YtboemnagahmlkaaGreat.Eng
/- vc161 vc163 vc162 vc164 vc114 vc76 vc40 vc83 vc84 vc85 vc46 vc47 vc43 vc75 vc44 vc45 vc59 vc60 vc77 vc79 vc80 vc81 vc42 vc82 vc115 vc167 vc39 vc38 vc7 vc8 vc9 vc12 vc13 -/

/- Groups, walked by the engine. -/
set_option linter.unusedVariables false
set_option linter.unusedSimpArgs false
set_option maxRecDepth 100000
namespace Go.Proofs.YtboemnagahmlkaaGreat.Eng
open Go Go.RowKit
section
variable {κ : Type} [DecidableEq κ] [BEq κ] [LawfulBEq κ] {kv : κ → Value}
def gkm7 (k : Nat → κ) (i : Nat) : List (κ × Value) := (firsts k i).zipIdx.map fun x => (k x.1, .int .i64 (x.2 : Int))
theorem look_gkm7 (k : Nat → κ) (i : Nat) : look (k i) (gkm7 k i) = ((firsts k i).findIdx? fun a => decide (k a = k i)).map fun c : Nat => Value.int .i64 (c : Int) := by
  have := look_zipf k (k i) (firsts k i) 0
  simp only [Nat.zero_add] at this
  rw [show look (k i) (gkm7 k i) = _ from this]
  congr 1
  rw [List.idxOf?, List.findIdx?_map]
  congr 1
  funext a
  show (k a == k i) = _
  by_cases h : k a = k i
  · simp [h]
  · simp [h]
end
section
variable {κ : Type} [DecidableEq κ]
theorem gkm7_new {k : Nat → κ} {i : Nat} (h : firsts k (i + 1) = firsts k i ++ [i]) : gkm7 k (i + 1) = gkm7 k i ++ [(k i, .int .i64 (((firsts k i).length : Nat) : Int))] := by
  unfold gkm7
  rw [h, List.zipIdx_append, List.map_append]
  simp
theorem gkm7_length (k : Nat → κ) (i : Nat) : (gkm7 k i).length = (firsts k i).length := by simp [gkm7]
end
section
variable {κ : Type} {kv : κ → Value}
theorem run_mlen {t kt et : TypeId} (ht : Tryz.prog.underlying t = some (.map kt et)) {w : World} {r : Nat} {m : List (κ × Value)} (h : MapIs kv w r m) (t2 : TypeId) : (Builtin.len_ #[t] t2 #[.map (some r)]).run Tryz.prog w = .ok (.int .i64 (m.length : Int)) w := by
  obtain ⟨es, clock, hb, hm, _⟩ := h
  have : es.size = m.length := by
    have := congrArg List.length hm
    simpa using this
  rw [← this]
  simp [Builtin.len_, Sem.run_bind, run_underlying ht, Result.andThen, getObj_is hb, goInt]
end
def boolKey (b : Bool) : Value := .bool b
theorem keysT : KeyTy Tryz.prog tBool Bool boolKey := by
  refine keys_now (d := .bool) (by kernel_rfl) (fun a b => by cases a <;> cases b <;> rfl) (fun e k w => ?_)
  unfold Instr.checkKey
  simp [run_underlying (show Tryz.prog.underlying tBool = some .bool by kernel_rfl), Result.andThen]
theorem undMapT : Tryz.prog.underlying 299 = some (.map tBool tInt) := by kernel_rfl
theorem groupT_spec (w : World) (n : Nat) (key : Value) (k : Nat → Bool) (hn : n ≤ 10000) (his : ∀ i, i < n → ∀ w1, Below w.heap.size w w1 → CallG ctx key [.int .i64 (i : Int)] w1 (fun e w2 => e = .returned (boolKey (k i)) ∧ Below w1.heap.size w1 w2)) :
    Calls Tryz.prog 161 #[.int .i64 (n : Int), key] w fun e w' => ∃ of : Sl, e = .returned (.tuple #[of.v, .int .i64 (((firsts k n).length : Nat) : Int)]) ∧ of.n = n ∧ w'.ownsRow w.heap.size tInt 1 of.v of.n (((List.range n).map fun i => ((clsOf k i : Nat) : Int)).flatMap encInt) ∧ Below w.heap.size w w' := by
  refine calls_ret (vc161_calls n key w (fun u w' => ∃ of : Sl, u = .tuple #[of.v, .int .i64 (((firsts k n).length : Nat) : Int)] ∧ of.n = n ∧ w'.ownsRow w.heap.size tInt 1 of.v of.n (((List.range n).map fun i => ((clsOf k i : Nat) : Int)).flatMap encInt) ∧ Below w.heap.size w w') ?_) (by rintro v w' ⟨of, rfl, h⟩; exact ⟨of, rfl, h⟩)
  refine ⟨_, _, run_make _, ?_⟩
  have b1 := below_alloc w (.map #[] 0)
  have m1 : MapIs boolKey (w.alloc (.map #[] 0)) w.heap.size (gkm7 k 0) := map_new w
  obtain ⟨w1, hw1⟩ : ∃ w1, w1 = w.alloc (.map #[] 0) := ⟨_, rfl⟩
  rw [← hw1] at b1 m1
  rw [← hw1]
  refine ⟨some (nb w1), n, n, _, run_makeInts w1 n (by omega), ?_⟩
  have b2 := below_alloc w1 (.cells (Array.replicate n (.int .i64 0)) tInt)
  obtain ⟨f, hf⟩ : ∃ f : Nat → Int, f = fun i => ((clsOf k i : Nat) : Int) := ⟨_, rfl⟩
  have o2 := own_part (enc := encInt) (0 : Int) (.int .i64 0) rfl tInt f w1 (n := n) (by omega)
  obtain ⟨l, hl⟩ : ∃ l : Sl, l = ⟨some (nb w1), n, n⟩ := ⟨_, rfl⟩
  have hln : l.n = n := by subst hl; rfl
  have hla : l.a = some (nb w1) := by subst hl; rfl
  obtain ⟨w2, hw2⟩ : ∃ w2, w2 = w1.alloc (.cells (Array.replicate n (.int .i64 0)) tInt) := ⟨_, rfl⟩
  rw [← hw2] at b2 o2
  rw [← hw2]
  have s1 : w.heap.size < w1.heap.size := m1.lt
  intro I hI
  have key := climb2 (α := World) n (fun i q => q.ownsRow w1.heap.size tInt 1 l.v l.n ((part 0 f n i).flatMap encInt) ∧ MapIs boolKey q w.heap.size (gkm7 k i) ∧ Below w.heap.size w q) (fun i q => I [.int .i64 (i : Int)] q) w2 ⟨by subst hl; exact o2, m1.on b2, below_then b1 b2⟩ ?_ ?_
  · exact key
  · rintro i hi ih q ⟨ho, hm, hB⟩
    refine hI _ _ (CondP.yes (decide_eq_true (by omega)) ((his i hi q hB).mono ?_))
    rintro e w5 ⟨rfl, b5⟩
    have hB5 := below_then hB b5
    have ho5 := own_on ho b5
    have hm5 := hm.on b5
    have hl5 := run_look keysT undMapT zeroInt hm5 (k i)
    rw [look_gkm7] at hl5
    refine ⟨_, rfl, ?_⟩
    have next : ∀ (z : World), z.ownsRow w1.heap.size tInt 1 l.v l.n ((part 0 f n i).flatMap encInt) → MapIs boolKey z w.heap.size (gkm7 k (i + 1)) → Below w.heap.size w z →
        NilC (some (nb w1)) (fun pa => (0 : Int) ≤ (i : Int) ∧ (i : Int) < ((n : Nat) : Int) ∧
         (Value.int .i64 ((clsOf k i : Nat) : Int)).oneCell' = true ∧ (∃ u, z.cell? (pa.add ((i : Int).toNat * 1)) = some u) ∧ z.frozen? (pa.add ((i : Int).toNat * 1)) = false ∧
         ∀ w7 : World, w7 = (z.setCell (pa.add ((i : Int).toNat * 1)) (Value.int .i64 ((clsOf k i : Nat) : Int))) →
         Ar .i64 ((i : Int) + 1) (fun n_3 => I [Value.int .i64 n_3] w7)) := by
      intro z zo zm zB
      obtain ⟨u, fz, kk⟩ := own_write (l := l) (enc := encInt) (sz := 1) (fun _ => rfl) (by decide) zo (by rw [part_length]; exact hln) hla (part_get 0 f hi) (k := 0) (by decide) (f i) (.int .i64 (f i)) rfl
      rw [add_zero] at u fz kk
      refine NilC.mk _ rfl ⟨by omega, by omega, rfl, u, fz, ?_⟩
      intro w7 hw7
      rw [show ((clsOf k i : Nat) : Int) = f i by rw [hf]] at hw7
      obtain ⟨o7, s7, z7, b7⟩ := kk w7 hw7
      refine Ar.nat (i + 1) rfl (by omega) (ih w7 ⟨?_, zm.same (s7 _ (own_ne_map zo zm)), b7 _ _ (by omega) zB⟩)
      rw [part_set (0 : Int) f hi] at o7
      exact o7
    rcases firsts_step (k := k) i with ⟨c, hc, h2, h3, _⟩ | ⟨hc, h2, h3, _⟩
    · rw [hc] at hl5
      refine ⟨_, _, w5, hl5, ?_⟩
      intro J hJ
      refine CondP.no rfl (hJ _ _ ?_)
      have := next w5 ho5 (by rw [show gkm7 k (i + 1) = gkm7 k i by unfold gkm7; rw [h2]]; exact hm5) hB5
      rw [h3] at this
      exact this
    · rw [hc] at hl5
      refine ⟨_, _, w5, hl5, ?_⟩
      intro J hJ
      obtain ⟨w11, hr, hm11, hs11, hz11, hB11⟩ := run_put_new keysT undMapT hm5 (k i) (.int .i64 (((gkm7 k i).length : Nat) : Int)) (by rw [look_gkm7, hc]; rfl)
      refine CondP.yes rfl ⟨_, _, run_mlen undMapT hm5 _, w11, hr, hJ _ _ ?_⟩
      rw [gkm7_length] at hm11 ⊢
      have := next w11 (own_same ho5 fun j hj => hs11 j fun e => own_ne_map ho5 hm5 (by rw [hj, e])) (by rw [gkm7_new h2]; exact hm11) (hB11 _ _ (Nat.le_refl _) hB5)
      rw [h3] at this
      exact this
  · rintro q ⟨ho, hm, hB⟩
    refine hI _ _ (CondP.no (decide_eq_false (by omega)) ⟨_, _, run_mlen undMapT hm _, l, ?_, hln, ?_, hB⟩)
    · rw [gkm7_length]; subst hl; rfl
    · rw [part_all, hf] at ho
      exact own_base ho (by omega)
theorem groupS_spec (w : World) (n : Nat) (key : Value) (k : Nat → Bs) (hn : n ≤ 10000) (his : ∀ i, i < n → ∀ w1, Below w.heap.size w w1 → CallG ctx key [.int .i64 (i : Int)] w1 (fun e w2 => e = .returned (strKey (k i)) ∧ Below w1.heap.size w1 w2)) :
    Calls Tryz.prog 163 #[.int .i64 (n : Int), key] w fun e w' => ∃ of : Sl, e = .returned (.tuple #[of.v, .int .i64 (((firsts k n).length : Nat) : Int)]) ∧ of.n = n ∧ w'.ownsRow w.heap.size tInt 1 of.v of.n (((List.range n).map fun i => ((clsOf k i : Nat) : Int)).flatMap encInt) ∧ Below w.heap.size w w' := by
  refine calls_ret (vc163_calls n key w (fun u w' => ∃ of : Sl, u = .tuple #[of.v, .int .i64 (((firsts k n).length : Nat) : Int)] ∧ of.n = n ∧ w'.ownsRow w.heap.size tInt 1 of.v of.n (((List.range n).map fun i => ((clsOf k i : Nat) : Int)).flatMap encInt) ∧ Below w.heap.size w w') ?_) (by rintro v w' ⟨of, rfl, h⟩; exact ⟨of, rfl, h⟩)
  refine ⟨_, _, run_make _, ?_⟩
  have b1 := below_alloc w (.map #[] 0)
  have m1 : MapIs strKey (w.alloc (.map #[] 0)) w.heap.size (gkm7 k 0) := map_new w
  obtain ⟨w1, hw1⟩ : ∃ w1, w1 = w.alloc (.map #[] 0) := ⟨_, rfl⟩
  rw [← hw1] at b1 m1
  rw [← hw1]
  refine ⟨some (nb w1), n, n, _, run_makeInts w1 n (by omega), ?_⟩
  have b2 := below_alloc w1 (.cells (Array.replicate n (.int .i64 0)) tInt)
  obtain ⟨f, hf⟩ : ∃ f : Nat → Int, f = fun i => ((clsOf k i : Nat) : Int) := ⟨_, rfl⟩
  have o2 := own_part (enc := encInt) (0 : Int) (.int .i64 0) rfl tInt f w1 (n := n) (by omega)
  obtain ⟨l, hl⟩ : ∃ l : Sl, l = ⟨some (nb w1), n, n⟩ := ⟨_, rfl⟩
  have hln : l.n = n := by subst hl; rfl
  have hla : l.a = some (nb w1) := by subst hl; rfl
  obtain ⟨w2, hw2⟩ : ∃ w2, w2 = w1.alloc (.cells (Array.replicate n (.int .i64 0)) tInt) := ⟨_, rfl⟩
  rw [← hw2] at b2 o2
  rw [← hw2]
  have s1 : w.heap.size < w1.heap.size := m1.lt
  intro I hI
  have key := climb2 (α := World) n (fun i q => q.ownsRow w1.heap.size tInt 1 l.v l.n ((part 0 f n i).flatMap encInt) ∧ MapIs strKey q w.heap.size (gkm7 k i) ∧ Below w.heap.size w q) (fun i q => I [.int .i64 (i : Int)] q) w2 ⟨by subst hl; exact o2, m1.on b2, below_then b1 b2⟩ ?_ ?_
  · exact key
  · rintro i hi ih q ⟨ho, hm, hB⟩
    refine hI _ _ (CondP.yes (decide_eq_true (by omega)) ((his i hi q hB).mono ?_))
    rintro e w5 ⟨rfl, b5⟩
    have hB5 := below_then hB b5
    have ho5 := own_on ho b5
    have hm5 := hm.on b5
    have hl5 := run_look keysB undMapB zeroInt hm5 (k i)
    rw [look_gkm7] at hl5
    refine ⟨_, rfl, ?_⟩
    have next : ∀ (z : World), z.ownsRow w1.heap.size tInt 1 l.v l.n ((part 0 f n i).flatMap encInt) → MapIs strKey z w.heap.size (gkm7 k (i + 1)) → Below w.heap.size w z →
        NilC (some (nb w1)) (fun pa => (0 : Int) ≤ (i : Int) ∧ (i : Int) < ((n : Nat) : Int) ∧
         (Value.int .i64 ((clsOf k i : Nat) : Int)).oneCell' = true ∧ (∃ u, z.cell? (pa.add ((i : Int).toNat * 1)) = some u) ∧ z.frozen? (pa.add ((i : Int).toNat * 1)) = false ∧
         ∀ w7 : World, w7 = (z.setCell (pa.add ((i : Int).toNat * 1)) (Value.int .i64 ((clsOf k i : Nat) : Int))) →
         Ar .i64 ((i : Int) + 1) (fun n_3 => I [Value.int .i64 n_3] w7)) := by
      intro z zo zm zB
      obtain ⟨u, fz, kk⟩ := own_write (l := l) (enc := encInt) (sz := 1) (fun _ => rfl) (by decide) zo (by rw [part_length]; exact hln) hla (part_get 0 f hi) (k := 0) (by decide) (f i) (.int .i64 (f i)) rfl
      rw [add_zero] at u fz kk
      refine NilC.mk _ rfl ⟨by omega, by omega, rfl, u, fz, ?_⟩
      intro w7 hw7
      rw [show ((clsOf k i : Nat) : Int) = f i by rw [hf]] at hw7
      obtain ⟨o7, s7, z7, b7⟩ := kk w7 hw7
      refine Ar.nat (i + 1) rfl (by omega) (ih w7 ⟨?_, zm.same (s7 _ (own_ne_map zo zm)), b7 _ _ (by omega) zB⟩)
      rw [part_set (0 : Int) f hi] at o7
      exact o7
    rcases firsts_step (k := k) i with ⟨c, hc, h2, h3, _⟩ | ⟨hc, h2, h3, _⟩
    · rw [hc] at hl5
      refine ⟨_, _, w5, hl5, ?_⟩
      intro J hJ
      refine CondP.no rfl (hJ _ _ ?_)
      have := next w5 ho5 (by rw [show gkm7 k (i + 1) = gkm7 k i by unfold gkm7; rw [h2]]; exact hm5) hB5
      rw [h3] at this
      exact this
    · rw [hc] at hl5
      refine ⟨_, _, w5, hl5, ?_⟩
      intro J hJ
      obtain ⟨w11, hr, hm11, hs11, hz11, hB11⟩ := run_put_new keysB undMapB hm5 (k i) (.int .i64 (((gkm7 k i).length : Nat) : Int)) (by rw [look_gkm7, hc]; rfl)
      refine CondP.yes rfl ⟨_, _, run_mlen undMapB hm5 _, w11, hr, hJ _ _ ?_⟩
      rw [gkm7_length] at hm11 ⊢
      have := next w11 (own_same ho5 fun j hj => hs11 j fun e => own_ne_map ho5 hm5 (by rw [hj, e])) (by rw [gkm7_new h2]; exact hm11) (hB11 _ _ (Nat.le_refl _) hB5)
      rw [h3] at this
      exact this
  · rintro q ⟨ho, hm, hB⟩
    refine hI _ _ (CondP.no (decide_eq_false (by omega)) ⟨_, _, run_mlen undMapB hm _, l, ?_, hln, ?_, hB⟩)
    · rw [gkm7_length]; subst hl; rfl
    · rw [part_all, hf] at ho
      exact own_base ho (by omega)
end Go.Proofs.YtboemnagahmlkaaGreat.Eng

/- An automaton in memory; its states put together by what is alike, walked by the engine. -/
set_option linter.unusedVariables false
set_option linter.unusedSimpArgs false
set_option maxRecDepth 100000
namespace Go.Proofs.YtboemnagahmlkaaGreat.Eng
open Go Go.RowKit
abbrev tAuto : TypeId := 136
abbrev tIntss : TypeId := 120
theorem undIntss : Tryz.prog.underlying tIntss = some (.slice tInts) := by kernel_rfl
theorem infoIntss : (Tryz.prog.info? tInts).map (fun i => (i.zero, i.size, i.bytes)) = some (some (.slice none 0 0), 1, 24) := by kernel_rfl
theorem elIntss : ElT encS 1 tIntss tInts 24 := ⟨fun _ => rfl, by decide, fun x u hu => by rw [List.mem_singleton.1 hu]; rfl, undIntss, _, infoIntss, rfl⟩
abbrev nat1 (l : List Nat) : List Value := (l.map fun i : Nat => (i : Int)).flatMap encInt
/-- Its rows, and which states are good. -/
structure AutR (w : World) (M : Aut) (next good : Sl) (rs : List Sl) : Prop where
  onx : w.ownsRow 0 tInts 1 next.v next.n (rs.flatMap encS)
  rl : rs.length = M.N
  each : ∀ (i : Nat) (r : Sl), rs[i]? = some r → w.ownsRow 0 tInt 1 r.v r.n (nat1 ((List.range M.n).map (M.nxt i)))
  ogd : w.ownsRow 0 tBool 1 good.v good.n (((List.range M.N).map M.good).flatMap encB1)
  ok : M.Ok
theorem AutR.on {w w' : World} {M : Aut} {next good : Sl} {rs : List Sl} (h : AutR w M next good rs) (hb : Below w.heap.size w w') : AutR w' M next good rs :=
  ⟨own_on h.onx hb, h.rl, fun i r hr => own_on (h.each i r hr) hb, own_on h.ogd hb, h.ok⟩
theorem AutR.touch {w w' : World} {M : Aut} {next good : Sl} {rs : List Sl} (h : AutR w M next good rs) {a : Nat} {c : Array Value} (hb : w.heap[a]? = some (.cells c tAuto (0, 0))) (t : Touch a w w') : AutR w' M next good rs :=
  ⟨t.own h.onx (row_ne_blk h.onx hb (by decide)), h.rl, fun i r hr => t.own (h.each i r hr) (row_ne_blk (h.each i r hr) hb (by decide)), t.own h.ogd (row_ne_blk h.ogd hb (by decide)), h.ok⟩
theorem AutR.len {w : World} {M : Aut} {next good : Sl} {rs : List Sl} (h : AutR w M next good rs) : next.n = M.N ∧ good.n = M.N := by
  have h1 := (LsAt.of_own elIntss h.onx).n
  have h2 := (LsAt.of_own elBl h.ogd).n
  exact ⟨by rw [h1, h.rl], by simpa using h2⟩
theorem AutR.row {w : World} {M : Aut} {next good : Sl} {rs : List Sl} (h : AutR w M next good rs) {i : Nat} (hi : i < M.N) : ∃ (p : Addr) (r : Sl), next.a = some p ∧ w.cell? (p.add (i * 1)) = some (.slice r.a r.n r.c) ∧ r.n = M.n ∧ Rw encInt 1 w r.a (((List.range M.n).map (M.nxt i)).map fun i : Nat => (i : Int)) := by
  have hls := LsAt.of_own elIntss h.onx
  have hl : i < rs.length := by rw [h.rl]; exact hi
  obtain ⟨p, hp, c⟩ := cell_rw hls.r hl (v := rs[i].v) rfl
  have hr := LsAt.of_own elInt (h.each i _ (List.getElem?_eq_getElem hl))
  exact ⟨p, rs[i], hp, c, by simpa using hr.n, hr.r⟩
theorem AutR.rowAt {w : World} {M : Aut} {next good : Sl} {rs : List Sl} (h : AutR w M next good rs) {i : Nat} (hi : i < M.N) (hl : i < rs.length) : ∃ p : Addr, next.a = some p ∧ w.cell? (p.add (i * 1)) = some (.slice rs[i].a rs[i].n rs[i].c) ∧ rs[i].n = M.n ∧ Rw encInt 1 w rs[i].a (((List.range M.n).map (M.nxt i)).map fun i : Nat => (i : Int)) := by
  have hls := LsAt.of_own elIntss h.onx
  obtain ⟨p, hp, c⟩ := cell_rw hls.r hl (v := rs[i].v) rfl
  have hr := LsAt.of_own elInt (h.each i _ (List.getElem?_eq_getElem hl))
  exact ⟨p, hp, c, by simpa using hr.n, hr.r⟩
theorem AutR.good {w : World} {M : Aut} {next good : Sl} {rs : List Sl} (h : AutR w M next good rs) {i : Nat} (hi : i < M.N) : ∃ p : Addr, good.a = some p ∧ w.cell? (p.add (i * 1)) = some (.bool (M.good i)) := by
  have hls := LsAt.of_own elBl h.ogd
  obtain ⟨p, hp, c⟩ := cell_rw hls.r (show i < ((List.range M.N).map M.good).length by simpa using hi) (v := .bool (M.good i)) (by simp [encB1])
  exact ⟨p, hp, c⟩
theorem nums_cell {w : World} {A : Option Addr} {n : Nat} {f : Nat → Nat} (h : Rw encInt 1 w A (((List.range n).map f).map fun i : Nat => (i : Int))) {i : Nat} (hi : i < n) : ∃ p : Addr, A = some p ∧ w.cell? (p.add (i * 1)) = some (.int .i64 ((f i : Nat) : Int)) :=
  cell_rw h (show i < (((List.range n).map f).map fun i : Nat => (i : Int)).length by simpa using hi) (v := .int .i64 ((f i : Nat) : Int)) (by simp [encInt])
/-! ### What is read of its block -/
theorem acell {w : World} {a : Nat} {c : Array Value} {fz : Nat × Nat} (h : w.heap[a]? = some (.cells c tAuto fz)) (j : Nat) : w.cell? ((⟨a, 0, none⟩ : Addr).add j) = c[j]? := ptr_add0 _ _ h j
theorem states_spec (w : World) (a : Nat) {c : Array Value} {fz : Nat × Nat} (h : w.heap[a]? = some (.cells c tAuto fz)) (next : Sl) (h1 : c[1]? = some next.v) :
    Calls Tryz.prog 43 #[.pointer (some ⟨a, 0, none⟩)] w fun e w' => e = .returned (.int .i64 (next.n : Int)) ∧ w' = w := by
  refine calls_ret (vc43_calls (some ⟨a, 0, none⟩) w (fun u w' => u = .int .i64 (next.n : Int) ∧ w' = w) ?_) (by rintro v w' ⟨rfl, h⟩; exact ⟨rfl, h⟩)
  exact CondP.no rfl (NilC.mk _ rfl ⟨_, _, _, by rw [acell h]; exact h1, rfl, rfl⟩)
theorem keyA1_spec (w : World) (cb a : Nat) {ec : TypeId} (hc : w.heap[cb]? = some (.cells #[.pointer (some ⟨a, 0, none⟩)] ec (0, 0))) {c : Array Value} {fz : Nat × Nat} (h : w.heap[a]? = some (.cells c tAuto fz)) (M : Aut) (next good : Sl) (rs : List Sl) (hM : AutR w M next good rs) (h2 : c[2]? = some good.v) (i : Nat) (hi : i < M.N) :
    Calls Tryz.prog 162 #[.int .i64 (i : Int), .pointer (some ⟨cb, 0, none⟩)] w fun e w' => e = .returned (boolKey (M.good i)) ∧ Below w.heap.size w w' := by
  refine calls_ret (vc162_calls i (some ⟨cb, 0, none⟩) w (fun u w' => u = boolKey (M.good i) ∧ Below w.heap.size w w') ?_) (by rintro v w' ⟨rfl, h⟩; exact ⟨rfl, h⟩)
  obtain ⟨p, hp, hg⟩ := hM.good hi
  have hl := hM.len.2
  exact NilC.mk _ rfl ⟨_, cell1 hc, NilC.mk _ rfl ⟨_, _, _, by rw [acell h]; exact h2, NilC.mk p hp ⟨by omega, by omega, _, hg, rfl, Below.refl _ _⟩⟩⟩
theorem keyA2_spec (w : World) (ob cb a : Nat) {eo ec : TypeId} (of : Sl) (f : Nat → Nat) (ho : w.heap[ob]? = some (.cells #[of.v] eo (0, 0))) (hc : w.heap[cb]? = some (.cells #[.pointer (some ⟨a, 0, none⟩)] ec (0, 0))) {c : Array Value} {fz : Nat × Nat} (h : w.heap[a]? = some (.cells c tAuto fz)) (M : Aut) (next good : Sl) (rs : List Sl) (hM : AutR w M next good rs) (h1 : c[1]? = some next.v) (hof : w.ownsRow 0 tInt 1 of.v of.n (nat1 ((List.range M.N).map f))) (hn : M.n ≤ 10000) (i : Nat) (hi : i < M.N) :
    Calls Tryz.prog 164 #[.int .i64 (i : Int), .pointer (some ⟨ob, 0, none⟩), .pointer (some ⟨cb, 0, none⟩)] w fun e w' => e = .returned (strKey (M.keyT f i)) ∧ Below w.heap.size w w' := by
  refine calls_ret (vc164_calls i (some ⟨ob, 0, none⟩) (some ⟨cb, 0, none⟩) w (fun u w' => u = strKey (M.keyT f i) ∧ Below w.heap.size w w') ?_) (by rintro v w' ⟨rfl, h⟩; exact ⟨rfl, h⟩)
  intro w1 hw1
  have b1 : Below w.heap.size w w1 := by subst hw1; exact drew_on w
  have hof1 := LsAt.of_own elInt (own_on hof b1)
  have hofn : of.n = ((List.range M.N).map f).length := by simpa using hof1.n
  have hM1 := hM.on b1
  obtain ⟨p, hp, c0⟩ := nums_cell hof1.r hi
  obtain ⟨p2, r, hp2, c2, hrn, hr⟩ := hM1.row hi
  have hln := hM1.len.1
  have hlen : ((List.range M.N).map f).length = M.N := by simp
  have hfa : (M.n = ((List.range M.n).map (M.nxt i)).length) := by simp
  refine NilC.mk _ rfl ⟨_, _, _, cell1 (held_on b1 ho), NilC.mk p hp ⟨by omega, by omega, _, c0, NilC.mk _ rfl ⟨_, cell1 (held_on b1 hc), NilC.mk _ rfl ⟨_, _, _, by rw [acell (held_on b1 h)]; exact h1, NilC.mk p2 hp2 ⟨by omega, by omega, _, _, _, c2, NilC.mk _ rfl ⟨_, _, _, cell1 (held_on b1 ho), ?_⟩⟩⟩⟩⟩⟩
  have ht := text17_spec w1 (f i) r.a of.a r.c of.c ((List.range M.n).map (M.nxt i)) ((List.range M.N).map f) hr hof1.r (by
    intro y hy
    obtain ⟨k, hk, rfl⟩ := List.mem_map.1 hy
    rw [hlen]
    exact hM.ok.lt _ _ hi (List.mem_range.1 hk)) (by simp; exact hn)
  rw [← hfa, ← hofn, ← hrn] at ht
  refine ht.mono ?_
  rintro e w2 ⟨rfl, b2⟩
  refine ⟨_, rfl, ?_, below_then b1 b2⟩
  show Value.string (str _) = Value.string (str _)
  congr 2
  unfold Aut.keyT
  congr 2
  rw [hrn, List.map_map]
  apply List.map_congr_left
  intro k hk
  show ((List.range M.N).map f).getD (M.nxt i k) 0 = f (M.nxt i k)
  have := hM.ok.lt _ _ hi (List.mem_range.1 hk)
  simp [List.getD, this]
set_option maxHeartbeats 1000000 in
theorem refine_spec (w : World) (a : Nat) (c : Array Value) (h : w.heap[a]? = some (.cells c tAuto (0, 0))) (hs : c.size = 7) (M : Aut) (next good : Sl) (rs : List Sl) (hM : AutR w M next good rs) (h1 : c[1]? = some next.v) (h2 : c[2]? = some good.v) (hN : M.N ≤ 10000) (hn : M.n ≤ 10000) :
    Calls Tryz.prog 114 #[.pointer (some ⟨a, 0, none⟩)] w fun e w' => e = .returned (.tuple #[]) ∧ ∃ (of : Sl) (f : Nat → Nat), w'.heap[a]? = some (.cells (c.setIfInBounds 6 of.v) tAuto (0, 0)) ∧ Aut.Cls M f ∧ of.n = M.N ∧ w'.ownsRow w.heap.size tInt 1 of.v of.n (nat1 ((List.range M.N).map f)) ∧ Touch a w w' := by
  refine calls_ret (vc114_calls (some ⟨a, 0, none⟩) w (fun u w' => u = .tuple #[] ∧ ∃ (of : Sl) (f : Nat → Nat), w'.heap[a]? = some (.cells (c.setIfInBounds 6 of.v) tAuto (0, 0)) ∧ Aut.Cls M f ∧ of.n = M.N ∧ w'.ownsRow w.heap.size tInt 1 of.v of.n (nat1 ((List.range M.N).map f)) ∧ Touch a w w') ?_) (by rintro v w' ⟨rfl, h⟩; exact ⟨rfl, h⟩)
  intro w1 hw1
  have b1 : Below w.heap.size w w1 := by subst hw1; exact below_alloc _ _
  have c1 : w1.heap[w.heap.size]? = some (.cells #[.pointer (some ⟨a, 0, none⟩)] 62 (0, 0)) := by subst hw1; exact alloc_new _ _
  have lt1 := (Array.getElem?_eq_some_iff.1 c1).1
  have hal : a < w.heap.size := (Array.getElem?_eq_some_iff.1 h).1
  have hok := hM.ok
  obtain ⟨hnl, hgl⟩ := hM.len
  refine ⟨_, cell1 c1, (states_spec w1 a (held_on b1 h) next h1).mono ?_⟩
  rintro e w2 ⟨rfl, rfl⟩
  rw [hnl]
  refine ⟨_, rfl, (groupT_spec w2 M.N _ M.good hN fun i hi q hq => callG_of (by kernel_rfl) (keyA1_spec q w.heap.size a (held_on hq c1) (held_on hq (held_on b1 h)) M next good rs ((hM.on b1).on hq) h2 i hi)).mono ?_⟩
  rintro e w3 ⟨of, rfl, hofn, hof, b3⟩
  have hb3 := below_then b1 b3
  have c3 := held_on b3 c1
  refine ⟨_, _, _, _, rfl, ?_⟩
  intro w4 hw4
  refine box_store hw4 rfl ?_
  intro w5 o5 b5
  have hb5 := below_then hb3 b5
  have c5 := held_on b5 c3
  have lt3 : w.heap.size < w3.heap.size := (Array.getElem?_eq_some_iff.1 c3).1
  intro I hI
  have bar : ∀ (q : World) (of : Sl) (f : Nat → Nat), q.ownsRow w.heap.size tInt 1 of.v of.n (((List.range M.N).map fun i => ((f i : Nat) : Int)).flatMap encInt) → q.ownsRow w.heap.size tInt 1 of.v of.n (nat1 ((List.range M.N).map f)) := by
    intro q of f h
    unfold nat1
    rw [List.map_map]
    exact h
  -- one round
  have round : ∀ (r : Nat) (q : World) (of : Sl), q.heap[w3.heap.size]? = some (.cells #[of.v] tInts (0, 0)) → q.ownsRow w.heap.size tInt 1 of.v of.n (nat1 ((List.range M.N).map (M.ofR r))) → Below w.heap.size w q → q.heap[w.heap.size]? = some (.cells #[.pointer (some ⟨a, 0, none⟩)] 62 (0, 0)) →
      (M.cntR (r + 1) ≠ M.cntR r → ∀ (q' : World) (of' : Sl), q'.heap[w3.heap.size]? = some (.cells #[of'.v] tInts (0, 0)) → q'.ownsRow w.heap.size tInt 1 of'.v of'.n (nat1 ((List.range M.N).map (M.ofR (r + 1)))) → Below w.heap.size w q' → q'.heap[w.heap.size]? = some (.cells #[.pointer (some ⟨a, 0, none⟩)] 62 (0, 0)) → I [.int .i64 ((M.cntR (r + 1) : Nat) : Int)] q') → I [.int .i64 ((M.cntR r : Nat) : Int)] q := by
    intro r q of ho hof hB hcq again
    have hq := held_on hB h
    have hMq := hM.on hB
    refine hI _ _ ⟨_, cell1 hcq, (states_spec q a hq next h1).mono ?_⟩
    rintro e q1 ⟨rfl, rfl⟩
    rw [hnl]
    refine ⟨_, rfl, (groupS_spec q1 M.N _ (M.keyT (M.ofR r)) hN fun i hi z hz => callG_of (by kernel_rfl) (keyA2_spec z w3.heap.size w.heap.size a of (M.ofR r) (held_on hz ho) (held_on hz hcq) (held_on hz hq) M next good rs (hMq.on hz) h1 (own_base (own_on hof hz) (Nat.zero_le _)) hn i hi)).mono ?_⟩
    rintro e q2 ⟨of', rfl, hofn, hof', b2⟩
    have hB2 := below_then hB b2
    have ho2 := held_on b2 ho
    have hof2 := bar _ _ _ (own_base hof' (show w.heap.size ≤ _ from hB.size))
    refine ⟨_, _, _, _, rfl, rfl, ⟨_, cell1 ho2⟩, frozen_heap ho2, ?_⟩
    intro q3 hq3
    have ho3 : q3.heap[w3.heap.size]? = some (.cells #[of'.v] tInts (0, 0)) := by subst hq3; exact setCell_heap ho2 of'.v
    have hB3 : Below w.heap.size w q3 := by subst hq3; exact hB2.setCell (p := ⟨w3.heap.size, 0, none⟩) (by show w.heap.size ≤ w3.heap.size; omega) _
    have hof3 : q3.ownsRow w.heap.size tInt 1 of'.v of'.n (nat1 ((List.range M.N).map (M.ofR (r + 1)))) := by subst hq3; exact own_setCell hof2 _ (row_ne_blk hof2 ho2 (by decide))
    have hc3 : q3.heap[w.heap.size]? = some (.cells #[.pointer (some ⟨a, 0, none⟩)] 62 (0, 0)) := by
      subst hq3
      rw [heap_setCell_ne (show w.heap.size ≠ w3.heap.size by omega)]
      exact held_on b2 hcq
    have hcnt : (firsts (M.keyT (M.ofR r)) M.N).length = M.cntR (r + 1) := rfl
    rw [hcnt]
    by_cases he : M.cntR (r + 1) = M.cntR r
    · have ha3 := held_on hB3 h
      have e6 : ((⟨a, 0, none⟩ : Addr).add 3).add 3 = (⟨a, 0, none⟩ : Addr).add 6 := by rw [Addr.add_add]
      refine CondP.yes (by rw [he]; simp) ⟨_, cell1 hc3, _, _, _, cell1 ho3, NilC.mk _ rfl ⟨rfl, ⟨c[6]'(by omega), by rw [e6, cell_put ha3, Array.getElem?_eq_getElem (by omega)]⟩, by rw [e6]; exact frozen_put ha3, ?_⟩⟩
      intro q4 hq4
      rw [e6] at hq4
      refine ⟨rfl, of', M.ofR (r + 1), by subst hq4; exact heap_put ha3 _, Aut.cls_done hok he, hofn, ?_, ?_⟩
      · subst hq4
        exact own_setCell hof3 _ (by rw [add_block]; exact row_ne_blk hof3 ha3 (by decide))
      · refine (Touch.of_below hB3).trans ?_
        subst hq4
        exact ⟨rfl, rfl, rfl, by rw [size_setCell]; exact Nat.le_refl _, fun k _ hk => heap_setCell_ne (by rw [add_block]; exact hk)⟩
    · refine CondP.no (by simp; omega) (again he q3 of' ho3 hof3 hB3 hc3)
  have loop : ∀ (d r : Nat) (q : World) (of : Sl), M.N - M.cntR r ≤ d → q.heap[w3.heap.size]? = some (.cells #[of.v] tInts (0, 0)) → q.ownsRow w.heap.size tInt 1 of.v of.n (nat1 ((List.range M.N).map (M.ofR r))) → Below w.heap.size w q → q.heap[w.heap.size]? = some (.cells #[.pointer (some ⟨a, 0, none⟩)] 62 (0, 0)) → I [.int .i64 ((M.cntR r : Nat) : Int)] q := by
    intro d
    induction d with
    | zero =>
      intro r q of hd ho hof hB hcq
      refine round r q of ho hof hB hcq fun hne => ?_
      have := Aut.cntR_mono hok r
      have := Aut.cntR_le (M := M) (r + 1)
      omega
    | succ d ihd =>
      intro r q of hd ho hof hB hcq
      refine round r q of ho hof hB hcq fun hne q' of' h1 h2 h3 h4 => ihd (r + 1) q' of' ?_ h1 h2 h3 h4
      have := Aut.cntR_mono hok r
      have := Aut.cntR_le (M := M) (r + 1)
      omega
  exact loop M.N 0 w5 of (by omega) o5 (bar _ _ _ (own_base (own_on hof b5) (by omega))) hb5 c5
end Go.Proofs.YtboemnagahmlkaaGreat.Eng

/- Which states are alike, walked by the engine; the once by the kit's tactics. -/
set_option linter.unusedVariables false
set_option linter.unusedSimpArgs false
set_option maxRecDepth 100000
namespace Go.Proofs.YtboemnagahmlkaaGreat.Eng
open Go Go.RowKit
set_option maxHeartbeats 1600000 in
theorem once_slow17 (v : Nat) (w : World) (K : World → Prop)
    (hfind : Calls Tryz.prog 114 #[.pointer (some ⟨v, 0, none⟩)] (w.setCell ⟨v, 4, none⟩ (.int .i32 1)) fun e w' => e = .returned (.tuple #[]) ∧ K w')
    (hK : ∀ w', K w' → w'.cell? ⟨v, 3, none⟩ = some (.int .u32 0) ∧ w'.frozen? ⟨v, 3, none⟩ = false ∧ w'.cell? ⟨v, 4, none⟩ = some (.int .i32 1) ∧ w'.frozen? ⟨v, 4, none⟩ = false)
    (h0 : w.cell? ⟨v, 3, none⟩ = some (.int .u32 0)) (h1 : w.cell? ⟨v, 4, none⟩ = some (.int .i32 0)) (f0 : w.frozen? ⟨v, 3, none⟩ = false) (f1 : w.frozen? ⟨v, 4, none⟩ = false) :
    Calls Tryz.prog 160 #[.pointer (some ⟨v, 3, none⟩), .func (.func 114) #[.pointer (some ⟨v, 0, none⟩)] #[]] w fun e w' => e = .returned (.tuple #[]) ∧ ∃ w2, K w2 ∧ w' = (w2.drew.setCell ⟨v, 3, none⟩ (.int .u32 1)).setCell ⟨v, 4, none⟩ (.int .i32 0) := by
  have hl := run_call_load (P := Tryz.prog) Tryz.func217 (by kernel_rfl) (by kernel_rfl) (by kernel_rfl) .u32 (by kernel_rfl) (w := w.setCell ⟨v, 4, none⟩ (.int .i32 1)) (a := ⟨v, 3, none⟩) (x := 0) ((World.cell?_setCell_other _ ⟨v, 4, none⟩ ⟨v, 3, none⟩ _ (by simp)).trans h0)
  have hnot : ∀ (x : Bool) (w : World), (Op.unary .not (.bool x)).run Tryz.prog w = .ok (.bool (!x)) w := fun _ _ => rfl
  go_enter_defers Tryz.func160, Tryz.ntmps160
  go_wp2_with (go_at_call 218; refine (once_lock ⟨v, 4, none⟩ _ (by go_simp) (by go_simp)).mono ?_; rintro e w' ⟨rfl, rfl⟩)
  go_wp2_with (first | (go_at_call 114; refine hfind.mono ?_; rintro e w' ⟨rfl, hk⟩) | go_in)
  obtain ⟨k0, k1, k2, k3⟩ := hK _ hk
  refine leaves_cons (f := 220) (args := #[.pointer (some ⟨v, 3, none⟩), .bool true]) (by simp) (by simp [go_sem]) ?_
  refine (once_store ⟨v, 3, none⟩ (.int .u32 0) .returning _ k0 k1).mono ?_
  rintro e u' w'' ⟨rfl, rfl, rfl⟩
  refine leaves_cons (f := 219) (args := #[.pointer (some ⟨v, 4, none⟩)]) (by simp [settle]) (by simp [go_sem]) ?_
  refine (once_unlock ⟨v, 4, none⟩ _ _ ?_ ?_).mono ?_
  · refine (World.cell?_setCell_other _ ⟨v, 3, none⟩ ⟨v, 4, none⟩ _ (by simp)).trans ?_
    rw [World.cell?_drew]
    exact k2
  · simp [k3]
  rintro e u' w'' ⟨rfl, rfl, rfl⟩
  simp [Leaves, settle, results, Tryz.results160]
  exact ⟨_, hk, rfl⟩
set_option maxHeartbeats 1600000 in
theorem once_do17 (v : Nat) (w : World) (K : World → Prop)
    (hfind : Calls Tryz.prog 114 #[.pointer (some ⟨v, 0, none⟩)] (w.setCell ⟨v, 4, none⟩ (.int .i32 1)) fun e w' => e = .returned (.tuple #[]) ∧ K w')
    (hK : ∀ w', K w' → w'.cell? ⟨v, 3, none⟩ = some (.int .u32 0) ∧ w'.frozen? ⟨v, 3, none⟩ = false ∧ w'.cell? ⟨v, 4, none⟩ = some (.int .i32 1) ∧ w'.frozen? ⟨v, 4, none⟩ = false)
    (h0 : w.cell? ⟨v, 3, none⟩ = some (.int .u32 0)) (h1 : w.cell? ⟨v, 4, none⟩ = some (.int .i32 0)) (f0 : w.frozen? ⟨v, 3, none⟩ = false) (f1 : w.frozen? ⟨v, 4, none⟩ = false) :
    Calls Tryz.prog 113 #[.pointer (some ⟨v, 3, none⟩), .func (.func 114) #[.pointer (some ⟨v, 0, none⟩)] #[]] w fun e w' => e = .returned (.tuple #[]) ∧ ∃ w2, K w2 ∧ w' = (w2.drew.setCell ⟨v, 3, none⟩ (.int .u32 1)).setCell ⟨v, 4, none⟩ (.int .i32 0) := by
  have hl := run_call_load (P := Tryz.prog) Tryz.func217 (by kernel_rfl) (by kernel_rfl) (by kernel_rfl) .u32 (by kernel_rfl) h0
  have hnot : ∀ (x : Bool) (w : World), (Op.unary .not (.bool x)).run Tryz.prog w = .ok (.bool (!x)) w := fun _ _ => rfl
  go_enter Tryz.func113, Tryz.ntmps113
  go_wp2_with (first | (go_at_call 160; refine (once_slow17 v w K hfind hK h0 h1 f0 f1).mono ?_; rintro e w' ⟨rfl, hk⟩) | (go_at_call 159; go_in))
  go_end0
  exact ⟨rfl, hk⟩

/-- The cells of an automaton. -/
abbrev autC (g : Nat) (next good : Sl) (d l : Int) (of : Sl) : Array Value := #[.pointer (some ⟨g, 0, none⟩), next.v, good.v, .int .u32 d, .int .i32 l, .int .u32 0, of.v]
/-- An automaton; its classes, once they are asked for. -/
def AutW (w : World) (a g : Nat) (M : Aut) (o : Option (Nat → Nat)) : Prop := ∃ (next good of : Sl) (rs : List Sl) (d : Int), w.heap[a]? = some (.cells (autC g next good d 0 of) tAuto (0, 0)) ∧ AutR w M next good rs ∧ (match o with
  | none => d = 0 ∧ of = sl0
  | some f => d = 1 ∧ Aut.Cls M f ∧ of.n = M.N ∧ w.ownsRow 0 tInt 1 of.v of.n (nat1 ((List.range M.N).map f)))
def AutIs (w : World) (a g : Nat) (M : Aut) : Prop := ∃ o, AutW w a g M o
theorem AutW.on {w w' : World} {a g : Nat} {M : Aut} {o : Option (Nat → Nat)} (h : AutW w a g M o) (hb : Below w.heap.size w w') : AutW w' a g M o := by
  obtain ⟨next, good, of, rs, d, h1, h2, h3⟩ := h
  refine ⟨next, good, of, rs, d, held_on hb h1, h2.on hb, ?_⟩
  cases o with
  | none => exact h3
  | some f => exact ⟨h3.1, h3.2.1, h3.2.2.1, own_on h3.2.2.2 hb⟩
theorem AutW.lt {w : World} {a g : Nat} {M : Aut} {o : Option (Nat → Nat)} (h : AutW w a g M o) : a < w.heap.size := by
  obtain ⟨next, good, of, rs, d, h1, _⟩ := h
  exact (Array.getElem?_eq_some_iff.1 h1).1
theorem aput {w : World} {a : Nat} {c : Array Value} (h : w.heap[a]? = some (.cells c tAuto (0, 0))) (j : Nat) (u : Value) :
    (w.setCell ⟨a, j, none⟩ u).heap[a]? = some (.cells (c.setIfInBounds j u) tAuto (0, 0)) ∧ Touch a w (w.setCell ⟨a, j, none⟩ u) :=
  ⟨setCell_heap h u, ⟨rfl, rfl, rfl, by rw [size_setCell]; exact Nat.le_refl _, fun k _ hk => heap_setCell_ne hk⟩⟩
theorem alike_spec (w : World) (a g : Nat) (M : Aut) (o : Option (Nat → Nat)) (h : AutW w a g M o) (hN : M.N ≤ 10000) (hn : M.n ≤ 10000) :
    Calls Tryz.prog 76 #[.pointer (some ⟨a, 0, none⟩)] w fun e w' => ∃ (of : Sl) (f : Nat → Nat), e = .returned of.v ∧ (∀ f0, o = some f0 → f = f0 ∧ w' = w) ∧ of.n = M.N ∧ Rw encInt 1 w' of.a (((List.range M.N).map f).map fun i : Nat => (i : Int)) ∧ AutW w' a g M (some f) ∧ Touch a w w' := by
  obtain ⟨next, good, of, rs, d, hblk, hM, ho⟩ := h
  refine calls_ret (vc76_calls (some ⟨a, 0, none⟩) w (fun u w' => ∃ (of : Sl) (f : Nat → Nat), u = of.v ∧ (∀ f0, o = some f0 → f = f0 ∧ w' = w) ∧ of.n = M.N ∧ Rw encInt 1 w' of.a (((List.range M.N).map f).map fun i : Nat => (i : Int)) ∧ AutW w' a g M (some f) ∧ Touch a w w') ?_) (by rintro v w' ⟨of, f, rfl, h⟩; exact ⟨of, f, rfl, h⟩)
  have e3 : ((⟨a, 0, none⟩ : Addr).add 3).add 0 = ⟨a, 3, none⟩ := by rw [add_lit, add_lit]
  have e6 : ((⟨a, 0, none⟩ : Addr).add 3).add 3 = (⟨a, 0, none⟩ : Addr).add 6 := by rw [Addr.add_add]
  have at_ : ∀ {w' : World} {c : Array Value}, w'.heap[a]? = some (.cells c tAuto (0, 0)) → ∀ j, w'.cell? ⟨a, j, none⟩ = c[j]? := fun h j => cell_heap h
  have fz : ∀ {w' : World} {c : Array Value}, w'.heap[a]? = some (.cells c tAuto (0, 0)) → ∀ j, w'.frozen? ⟨a, j, none⟩ = false := fun h j => frozen_heap h
  refine NilC.mk _ rfl ?_
  rw [e3]
  -- behind the once
  have rest : ∀ (w3 : World) (of3 : Sl) (f : Nat → Nat), (∀ f0, o = some f0 → f = f0 ∧ w3 = w) → w3.heap[a]? = some (.cells (autC g next good 1 0 of3) tAuto (0, 0)) → Aut.Cls M f → of3.n = M.N → w3.ownsRow 0 tInt 1 of3.v of3.n (nat1 ((List.range M.N).map f)) → Touch a w w3 →
      NilC (some ⟨a, 0, none⟩) (fun pa_1 => ∃ lA : Option Addr, ∃ lN : Nat, ∃ lC : Nat, w3.cell? ((pa_1.add 3).add 3) = some (Value.slice lA lN lC) ∧
        (∃ (of : Sl) (f : Nat → Nat), Value.slice lA lN lC = of.v ∧ (∀ f0, o = some f0 → f = f0 ∧ w3 = w) ∧ of.n = M.N ∧ Rw encInt 1 w3 of.a (((List.range M.N).map f).map fun i : Nat => (i : Int)) ∧ AutW w3 a g M (some f) ∧ Touch a w w3)) := by
    intro w3 of3 f hf hb hc hl hown t
    exact NilC.mk _ rfl ⟨_, _, _, by rw [e6, acell hb]; rfl, of3, f, rfl, hf, hl, (LsAt.of_own elInt hown).r, ⟨next, good, of3, rs, 1, hb, hM.touch hblk t, rfl, hc, hl, hown⟩, t⟩
  cases o with
  | none =>
    obtain ⟨rfl, rfl⟩ := ho
    obtain ⟨b2, t2⟩ := aput hblk 4 (.int .i32 1)
    have hM2 := hM.touch hblk t2
    refine (once_do17 a w (fun w' => ∃ (of : Sl) (f : Nat → Nat), w'.heap[a]? = some (.cells (((autC g next good 0 0 sl0).setIfInBounds 4 (.int .i32 1)).setIfInBounds 6 of.v) tAuto (0, 0)) ∧ Aut.Cls M f ∧ of.n = M.N ∧ w'.ownsRow (w.setCell ⟨a, 4, none⟩ (.int .i32 1)).heap.size tInt 1 of.v of.n (nat1 ((List.range M.N).map f)) ∧ Touch a (w.setCell ⟨a, 4, none⟩ (.int .i32 1)) w') (refine_spec _ a _ b2 rfl M next good rs hM2 rfl rfl hN hn) ?_ (at_ hblk 3) (at_ hblk 4) (fz hblk 3) (fz hblk 4)).mono ?_
    · rintro w' ⟨of', f, hb', _⟩
      exact ⟨at_ hb' 3, fz hb' 3, at_ hb' 4, fz hb' 4⟩
    · rintro e w3 ⟨rfl, wf, ⟨of', f, hbf, hc, hl, hof, tf⟩, hw3⟩
      refine ⟨rfl, ?_⟩
      have hbd : wf.drew.heap[a]? = some (.cells (((autC g next good 0 0 sl0).setIfInBounds 4 (.int .i32 1)).setIfInBounds 6 of'.v) tAuto (0, 0)) := hbf
      obtain ⟨b4, t4⟩ := aput hbd 3 (.int .u32 1)
      obtain ⟨b5, t5⟩ := aput b4 4 (.int .i32 0)
      rw [← hw3] at b5 t5
      have tt : Touch a wf w3 := ((Touch.of_below (drew_on wf)).trans t4).trans t5
      exact rest w3 of' f (fun f0 h => by cases h) b5 hc hl (tt.own (own_base hof (Nat.zero_le _)) (row_ne_blk hof hbf (by decide))) ((t2.trans tf).trans tt)
  | some f =>
    obtain ⟨rfl, hc, hl, hown⟩ := ho
    refine (once_done ⟨a, 3, none⟩ 1 (by decide) _ w (at_ hblk 3)).mono ?_
    rintro e w3 ⟨rfl, hw⟩
    subst hw
    exact ⟨rfl, rest w3 of f (fun f0 h => by cases h; exact ⟨rfl, rfl⟩) hblk hc hl hown (Touch.of_below (Below.refl _ _))⟩
theorem AutW.blk {w : World} {a g : Nat} {M : Aut} {o : Option (Nat → Nat)} (h : AutW w a g M o) : ∃ (next good of : Sl) (rs : List Sl) (d : Int), w.heap[a]? = some (.cells (autC g next good d 0 of) tAuto (0, 0)) ∧ AutR w M next good rs := by
  obtain ⟨next, good, of, rs, d, h1, h2, _⟩ := h
  exact ⟨next, good, of, rs, d, h1, h2⟩
theorem aStates_spec (w : World) (a g : Nat) (M : Aut) (h : AutIs w a g M) :
    Calls Tryz.prog 43 #[.pointer (some ⟨a, 0, none⟩)] w fun e w' => e = .returned (.int .i64 (M.N : Int)) ∧ w' = w := by
  obtain ⟨o, h⟩ := h
  obtain ⟨next, good, of, rs, d, h1, h2⟩ := h.blk
  have := states_spec w a h1 next rfl
  rw [h2.len.1] at this
  exact this
end Go.Proofs.YtboemnagahmlkaaGreat.Eng
