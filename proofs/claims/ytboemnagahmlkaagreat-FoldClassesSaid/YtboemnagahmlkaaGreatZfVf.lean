/- What these functions owe, printed by a program of this repo out of the translation. -/
import Derived.Test.YtboemnagahmlkaaGreatZfTab
import Derived.Test.YtboemnagahmlkaaGreatZfSo
set_option linter.unusedVariables false
set_option maxRecDepth 100000
namespace Go.Proofs.YtboemnagahmlkaaGreat.Eng
open Go Go.Value
def vc4 (a : OA) (b c : Nat) (d : OA) (f g : Nat) (h : OA) (i j : Nat) (k : OA) (l m : Nat) (n : OA) (o p : Nat) (w : World) (R : RW) : Prop :=
 ∀ q, q = w.alloc (.cells #[slice a b c, slice d f g, slice h i j, slice k l m] 27) →
 ∃ r s t u x y z a1 b1 c1 d1 e1, (q.cell? (nb w) = some (slice r s t) ∧ q.cell? ((nb w).add 1) = some (slice u x y) ∧ q.cell? ((nb w).add 2) = some (slice z a1 b1) ∧ q.cell? ((nb w).add 3) = some (slice c1 d1 e1) ∧ True) ∧
 Calls Tryz.prog 15 #[agg #[slice r s t, slice u x y, slice z a1 b1, slice c1 d1 e1]] q (fun f1 g1 =>
 ∃ h1, f1 = .returned (int .i64 h1) ∧
 CondP (decide (h1 > 0))
 (Calls Tryz.prog 22 #[] g1 (fun i1 j1 =>
 ∃ k1, i1 = .returned (bool k1) ∧
 R (bool k1) j1))
 (CondP (decide ((o : Int) > 8))
 (Calls Tryz.prog 22 #[] g1 (fun l1 m1 =>
 ∃ n1, l1 = .returned (bool n1) ∧
 R (bool n1) m1))
 (Calls Tryz.prog 22 #[] g1 (fun o1 p1 =>
 ∃ q1, o1 = .returned (bool q1) ∧
 CondP (!q1)
 (Calls Tryz.prog 22 #[] p1 (fun r1 s1 =>
 ∃ t1, r1 = .returned (bool t1) ∧
 R (bool t1) s1))
 (∃ u1 v1 x1 y1 z1 a2 b2 c2 d2 e2 f2 g2, (p1.cell? (nb w) = some (slice u1 v1 x1) ∧ p1.cell? ((nb w).add 1) = some (slice y1 z1 a2) ∧ p1.cell? ((nb w).add 2) = some (slice b2 c2 d2) ∧ p1.cell? ((nb w).add 3) = some (slice e2 f2 g2) ∧ True) ∧
 Calls Tryz.prog 23 #[agg #[slice u1 v1 x1, slice y1 z1 a2, slice b2 c2 d2, slice e2 f2 g2]] p1 (fun h2 i2 =>
 ∃ j2 k2, h2 = .returned (tuple #[pointer j2, pointer k2]) ∧
 CondP (Option.isNone j2)
 (R (bool false) i2)
 (CondP (Option.isNone k2)
 (R (bool false) i2)
 (∀ l2 : KW, (∀ (m2 n2 o2 : Int) (p2 : Bool) (q2 : World), (Calls Tryz.prog 24 #[pointer j2] q2 (fun r2 s2 =>
 ∃ t2, r2 = .returned (int .i64 t2) ∧
 CondP (decide (m2 < t2))
 (Calls Tryz.prog 25 #[pointer j2, int .i64 m2] s2 (fun u2 v2 =>
 ∃ x2 y2, u2 = .returned (tuple #[int .i64 x2, bool y2]) ∧
 Calls Tryz.prog 26 #[pointer k2, int .i64 x2] v2 (fun z2 a3 =>
 ∃ b3 c3, z2 = .returned (tuple #[int .i64 b3, bool c3]) ∧
 Calls Tryz.prog 27 #[pointer k2, int .i64 x2] a3 (fun d3 e3 =>
 ∃ f3 g3, d3 = .returned (tuple #[int .i64 f3, bool g3]) ∧
 CondP (!c3)
 (R (bool false) e3)
 (CondP (!g3)
 (R (bool false) e3)
 (CondP (decide (b3 > o2))
 (R (bool false) e3)
 (CondP (decide (f3 > n2))
 (R (bool false) e3)
 (Ar .i64 (b3 + 1) (fun h3 =>
 ∃ i3 j3, (Builtin.max_ #[3, 3] 3 #[int .i64 o2, int .i64 h3]).run Tryz.prog e3 = .ok (int .i64 i3) j3 ∧
 Ar .i64 (f3 + 1) (fun k3 =>
 ∃ l3 m3, (Builtin.max_ #[3, 3] 3 #[int .i64 n2, int .i64 k3]).run Tryz.prog j3 = .ok (int .i64 l3) m3 ∧
 Ar .i64 (m2 + 1) (fun n3 =>
 l2 [int .i64 n3, int .i64 l3, int .i64 i3, bool p2] m3)))))))))))
 (Calls Tryz.prog 28 #[pointer k2] s2 (fun o3 p3 =>
 ∃ q3, o3 = .returned (int .i64 q3) ∧
 CondP (o2 != q3)
 (R (bool false) p3)
 (Calls Tryz.prog 29 #[pointer k2] p3 (fun r3 s3 =>
 ∃ t3, r3 = .returned (int .i64 t3) ∧
 CondP (n2 != t3)
 (R (bool false) s3)
 (Calls Tryz.prog 30 #[pointer k2] s3 (fun u3 v3 =>
 ∃ x3, u3 = .returned (int .i64 x3) ∧
 Ar .i64 (o2 * n2) (fun y3 =>
 CondP (x3 != y3)
 (R (bool false) v3)
 (∀ z3 : KW, (∀ (a4 : Int) (b4 : Bool) (c4 : World), (CondP (decide (a4 < (o : Int)))
 (∀ d4 : KW, (∀ (e4 : Int) (f4 : Bool) (g4 : World), (CondP (decide (e4 < a4))
 (∀ h4 : KW, (∀ (i4 : Bool) (j4 : World), (Ar .i64 (e4 + 1) (fun k4 =>
 d4 [int .i64 k4, bool i4] j4)) → h4 [bool i4] j4) →
 ∀ l4, l4 = g4.drew →
 NilC n (fun m4 =>
 (0 : Int) ≤ a4 ∧ a4 < (o : Int) ∧
 ∃ n4, l4.cell? (m4.add (a4.toNat * 1)) = some (int .i64 n4) ∧
 NilC n (fun o4 =>
 (0 : Int) ≤ e4 ∧ e4 < (o : Int) ∧
 ∃ p4, l4.cell? (o4.add (e4.toNat * 1)) = some (int .i64 p4) ∧
 Calls Tryz.prog 26 #[pointer k2, int .i64 n4] l4 (fun q4 r4 =>
 ∃ s4 t4, q4 = .returned (tuple #[int .i64 s4, bool t4]) ∧
 Calls Tryz.prog 26 #[pointer k2, int .i64 p4] r4 (fun u4 v4 =>
 ∃ x4 y4, u4 = .returned (tuple #[int .i64 x4, bool y4]) ∧
 Calls Tryz.prog 27 #[pointer k2, int .i64 n4] v4 (fun z4 a5 =>
 ∃ b5 c5, z4 = .returned (tuple #[int .i64 b5, bool c5]) ∧
 Calls Tryz.prog 27 #[pointer k2, int .i64 p4] a5 (fun d5 e5 =>
 ∃ f5 g5, d5 = .returned (tuple #[int .i64 f5, bool g5]) ∧
 CondP (!t4)
 (h4 [bool f4] e5)
 (CondP (!y4)
 (h4 [bool f4] e5)
 (Calls Tryz.prog 31 #[pointer j2, int .i64 n4] e5 (fun h5 i5 =>
 ∃ j5 k5 l5, h5 = .returned (slice j5 k5 l5) ∧
 Calls Tryz.prog 31 #[pointer j2, int .i64 p4] i5 (fun m5 n5 =>
 ∃ o5 p5 q5, m5 = .returned (slice o5 p5 q5) ∧
 ∀ r5 : KW, (∀ (s5 : Int) (t5 : Bool) (u5 : World), (CondP (decide (s5 < (k5 : Int)))
 (∀ v5, v5 = u5.drew →
 CondP t5
 (NilC j5 (fun x5 =>
 (0 : Int) ≤ s5 ∧ s5 < (k5 : Int) ∧
 ∃ y5, v5.cell? (x5.add (s5.toNat * 1)) = some (int .u64 y5) ∧
 NilC o5 (fun z5 =>
 (0 : Int) ≤ s5 ∧ s5 < (p5 : Int) ∧
 ∃ a6, v5.cell? (z5.add (s5.toNat * 1)) = some (int .u64 a6) ∧
 Ar .i64 (s5 + 1) (fun b6 =>
 r5 [int .i64 b6, bool (y5 == a6)] v5))))
 (Ar .i64 (s5 + 1) (fun c6 =>
 r5 [int .i64 c6, bool false] v5)))
 (Calls Tryz.prog 32 #[pointer j2, int .i64 n4] u5 (fun d6 e6 =>
 ∃ f6, d6 = .returned (bool f6) ∧
 Calls Tryz.prog 32 #[pointer j2, int .i64 p4] e6 (fun g6 h6 =>
 ∃ i6, g6 = .returned (bool i6) ∧
 ∀ j6 : KW, (∀ (k6 : Int) (l6 : Bool) (m6 : World), (Calls Tryz.prog 24 #[pointer j2] m6 (fun n6 o6 =>
 ∃ p6, n6 = .returned (int .i64 p6) ∧
 CondP (decide (k6 < p6))
 (Calls Tryz.prog 25 #[pointer j2, int .i64 k6] o6 (fun q6 r6 =>
 ∃ s6 t6, q6 = .returned (tuple #[int .i64 s6, bool t6]) ∧
 CondP l6
 (Calls Tryz.prog 33 #[pointer j2, int .i64 s6, int .i64 n4] r6 (fun u6 v6 =>
 ∃ x6, u6 = .returned (bool x6) ∧
 Calls Tryz.prog 33 #[pointer j2, int .i64 s6, int .i64 p4] v6 (fun y6 z6 =>
 ∃ a7, y6 = .returned (bool a7) ∧
 Ar .i64 (k6 + 1) (fun b7 =>
 j6 [int .i64 b7, bool (x6 == a7)] z6))))
 (Ar .i64 (k6 + 1) (fun c7 =>
 j6 [int .i64 c7, bool false] r6))))
 (CondP (!(t5 == (s4 == x4)))
 (R (bool false) o6)
 (CondP (!(l6 == (b5 == f5)))
 (R (bool false) o6)
 (h4 [bool f4] o6))))) → j6 [int .i64 k6, bool l6] m6) →
 j6 [int .i64 0, bool (f6 == i6)] h6)))) → r5 [int .i64 s5, bool t5] u5) →
 r5 [int .i64 0, bool true] n5)))))))))))
 (Ar .i64 (a4 + 1) (fun d7 =>
 z3 [int .i64 d7, bool f4] g4))) → d4 [int .i64 e4, bool f4] g4) →
 d4 [int .i64 0, bool b4] c4)
 (R (bool true) c4)) → z3 [int .i64 a4, bool b4] c4) →
 z3 [int .i64 0, bool p2] v3)))))))))) → l2 [int .i64 m2, int .i64 n2, int .i64 o2, bool p2] q2) →
 l2 [int .i64 0, int .i64 0, int .i64 0, bool false] i2))))))))
theorem vc4_calls (a : OA) (b c : Nat) (d : OA) (f g : Nat) (h : OA) (i j : Nat) (k : OA) (l m : Nat) (n : OA) (o p : Nat) (w : World) (R : RW) (hh : vc4 a b c d f g h i j k l m n o p w R) : Calls Tryz.prog 4 #[agg #[slice a b c, slice d f g, slice h i j, slice k l m], slice n o p] w fun e w' => ∃ v, e = .returned v ∧ R v w' :=
 calls_of_den ctxOk (fn := Tryz.f4) (by kernel_rfl) (body := bodyOf Tryz.f4) (by kernel_rfl) (by kernel_rfl) (by kernel_rfl) (Eq.mp (by kernel_rfl) hh)
def vc6 (a b : Int) (w : World) (R : RW) : Prop :=
 Calls Tryz.prog 37 #[pointer none] w (fun c d =>
 ∃ f, c = .returned (pointer f) ∧
 Calls Tryz.prog 26 #[pointer f, int .i64 a] d (fun g h =>
 ∃ i j, g = .returned (tuple #[int .i64 i, bool j]) ∧
 Calls Tryz.prog 27 #[pointer f, int .i64 b] h (fun k l =>
 ∃ m n, k = .returned (tuple #[int .i64 m, bool n]) ∧
 ∀ o, o = l.alloc (.cells #[int .i64 a] 3) →
 Calls Tryz.prog 36 #[pointer f, slice (some (nb l)) 1 1] o (fun p q =>
 ∃ r s, p = .returned (tuple #[int .i64 r, bool s]) ∧
 CondP (Option.isNone f)
 (CondP (!j)
 (CondP (!n)
 (Calls Tryz.prog 28 #[pointer f] q (fun t u =>
 ∃ x, t = .returned (int .i64 x) ∧
 CondP (x == 0)
 (Calls Tryz.prog 29 #[pointer f] u (fun y z =>
 ∃ a1, y = .returned (int .i64 a1) ∧
 CondP (a1 == 0)
 (Calls Tryz.prog 30 #[pointer f] z (fun b1 c1 =>
 ∃ d1, b1 = .returned (int .i64 d1) ∧
 CondP (d1 == 0)
 (Calls Tryz.prog 35 #[pointer f, int .i64 a, int .i64 b] c1 (fun e1 f1 =>
 ∃ g1, e1 = .returned (bool g1) ∧
 CondP (!g1)
 (Calls Tryz.prog 34 #[pointer f, int .i64 a] f1 (fun h1 i1 =>
 ∃ j1, h1 = .returned (bool j1) ∧
 CondP (!j1)
 (CondP s
 (Calls Tryz.prog 22 #[] i1 (fun k1 l1 =>
 ∃ m1, k1 = .returned (bool m1) ∧
 R (bool m1) l1))
 (R (bool false) i1))
 (R (bool false) i1)))
 (R (bool false) f1)))
 (R (bool false) c1)))
 (R (bool false) z)))
 (R (bool false) u)))
 (R (bool false) q))
 (R (bool false) q))
 (R (bool false) q)))))
theorem vc6_calls (a b : Int) (w : World) (R : RW) (hh : vc6 a b w R) : Calls Tryz.prog 6 #[int .i64 a, int .i64 b] w fun e w' => ∃ v, e = .returned v ∧ R v w' :=
 calls_of_den ctxOk (fn := Tryz.f6) (by kernel_rfl) (body := bodyOf Tryz.f6) (by kernel_rfl) (by kernel_rfl) (by kernel_rfl) (Eq.mp (by kernel_rfl) hh)
def vc22 (w : World) (R : RW) : Prop :=
 ∀ a, a = w.alloc (.cells #[int .i64 97, int .i64 98] 98) →
 Calls Tryz.prog 64 #[agg #[bool false, slice (some (nb w)) 1 1, slice none 0 0, slice none 0 0, slice none 0 0, slice none 0 0]] a (fun b c =>
 ∃ d f g, b = .returned (tuple #[pointer d, int .i64 f, int .i64 g]) ∧
 Calls Tryz.prog 61 #[pointer d, int .i64 1048576] c (fun h i =>
 ∃ j k, h = .returned (tuple #[pointer j, int .i64 k]) ∧
 Calls Tryz.prog 37 #[pointer j] i (fun l m =>
 ∃ n, l = .returned (pointer n) ∧
 CondP (k == 0)
 (Calls Tryz.prog 28 #[pointer n] m (fun o p =>
 ∃ q, o = .returned (int .i64 q) ∧
 CondP (q == 2)
 (Calls Tryz.prog 29 #[pointer n] p (fun r s =>
 ∃ t, r = .returned (int .i64 t) ∧
 CondP (t == 2)
 (Calls Tryz.prog 30 #[pointer n] s (fun u x =>
 ∃ y, u = .returned (int .i64 y) ∧
 CondP (y == 4)
 (Calls Tryz.prog 35 #[pointer n, int .i64 97, int .i64 98] x (fun z a1 =>
 ∃ b1, z = .returned (bool b1) ∧
 CondP (!b1)
 (Calls Tryz.prog 35 #[pointer n, int .i64 256, int .i64 98] a1 (fun c1 d1 =>
 ∃ e1, c1 = .returned (bool e1) ∧
 R (bool e1) d1))
 (R (bool false) a1)))
 (R (bool false) x)))
 (R (bool false) s)))
 (R (bool false) p)))
 (R (bool false) m))))
theorem vc22_calls (w : World) (R : RW) (hh : vc22 w R) : Calls Tryz.prog 22 #[] w fun e w' => ∃ v, e = .returned v ∧ R v w' :=
 calls_of_den ctxOk (fn := Tryz.f22) (by kernel_rfl) (body := bodyOf Tryz.f22) (by kernel_rfl) (by kernel_rfl) (by kernel_rfl) (Eq.mp (by kernel_rfl) hh)
def vc23 (a : OA) (b c : Nat) (d : OA) (f g : Nat) (h : OA) (i j : Nat) (k : OA) (l m : Nat) (w : World) (R : RW) : Prop :=
 ∀ n, n = w.alloc (.cells #[slice a b c, slice d f g, slice h i j, slice k l m] 27) →
 ∃ o p q r s t u x y z a1 b1, (n.cell? (nb w) = some (slice o p q) ∧ n.cell? ((nb w).add 1) = some (slice r s t) ∧ n.cell? ((nb w).add 2) = some (slice u x y) ∧ n.cell? ((nb w).add 3) = some (slice z a1 b1) ∧ True) ∧
 Calls Tryz.prog 17 #[agg #[slice o p q, slice r s t, slice u x y, slice z a1 b1]] n (fun c1 d1 =>
 ∃ e1 f1 g1 h1 i1 j1 k1 l1 m1 n1 o1 p1 q1 r1 s1 t1, c1 = .returned (tuple #[pointer e1, agg #[slice f1 g1 h1, slice i1 j1 k1, slice l1 m1 n1, slice o1 p1 q1, slice r1 s1 t1]]) ∧
 ∀ u1, u1 = d1.alloc (.cells #[slice none 0 0, slice none 0 0, slice none 0 0, slice none 0 0, slice none 0 0] 39) →
 StoreP u1 (nb d1) (fun v1 =>
 Calls Tryz.prog 61 #[pointer e1, int .i64 1048576] v1 (fun x1 y1 =>
 ∃ z1 a2, x1 = .returned (tuple #[pointer z1, int .i64 a2]) ∧
 CondP (a2 != 0)
 (R (tuple #[pointer none, pointer none]) y1)
 (Calls Tryz.prog 37 #[pointer z1] y1 (fun b2 c2 =>
 ∃ d2, b2 = .returned (pointer d2) ∧
 R (tuple #[pointer z1, pointer d2]) c2)))) [slice f1 g1 h1, slice i1 j1 k1, slice l1 m1 n1, slice o1 p1 q1, slice r1 s1 t1] 0)
theorem vc23_calls (a : OA) (b c : Nat) (d : OA) (f g : Nat) (h : OA) (i j : Nat) (k : OA) (l m : Nat) (w : World) (R : RW) (hh : vc23 a b c d f g h i j k l m w R) : Calls Tryz.prog 23 #[agg #[slice a b c, slice d f g, slice h i j, slice k l m]] w fun e w' => ∃ v, e = .returned v ∧ R v w' :=
 calls_of_den ctxOk (fn := Tryz.f23) (by kernel_rfl) (body := bodyOf Tryz.f23) (by kernel_rfl) (by kernel_rfl) (by kernel_rfl) (Eq.mp (by kernel_rfl) hh)
def vc26 (a : OA) (b : Int) (w : World) (R : RW) : Prop :=
 Calls Tryz.prog 68 #[pointer a, int .i64 b] w (fun c d =>
 ∃ f g, c = .returned (tuple #[int .i64 f, bool g]) ∧
 CondP (!g)
 (R (tuple #[int .i64 0, bool false]) d)
 (NilC a (fun h =>
 ∃ i j k, d.cell? ((h.add 1).add 0) = some (slice i j k) ∧
 NilC i (fun l =>
 (0 : Int) ≤ f ∧ f < (j : Int) ∧
 ∃ m, d.cell? (l.add (f.toNat * 1)) = some (int .i64 m) ∧
 R (tuple #[int .i64 m, bool true]) d))))
theorem vc26_calls (a : OA) (b : Int) (w : World) (R : RW) (hh : vc26 a b w R) : Calls Tryz.prog 26 #[pointer a, int .i64 b] w fun e w' => ∃ v, e = .returned v ∧ R v w' :=
 calls_of_den ctxOk (fn := Tryz.f26) (by kernel_rfl) (body := bodyOf Tryz.f26) (by kernel_rfl) (by kernel_rfl) (by kernel_rfl) (Eq.mp (by kernel_rfl) hh)
def vc27 (a : OA) (b : Int) (w : World) (R : RW) : Prop :=
 Calls Tryz.prog 68 #[pointer a, int .i64 b] w (fun c d =>
 ∃ f g, c = .returned (tuple #[int .i64 f, bool g]) ∧
 CondP (!g)
 (R (tuple #[int .i64 0, bool false]) d)
 (NilC a (fun h =>
 ∃ i j k, d.cell? ((h.add 3).add 0) = some (slice i j k) ∧
 NilC i (fun l =>
 (0 : Int) ≤ f ∧ f < (j : Int) ∧
 ∃ m, d.cell? (l.add (f.toNat * 1)) = some (int .i64 m) ∧
 R (tuple #[int .i64 m, bool true]) d))))
theorem vc27_calls (a : OA) (b : Int) (w : World) (R : RW) (hh : vc27 a b w R) : Calls Tryz.prog 27 #[pointer a, int .i64 b] w fun e w' => ∃ v, e = .returned v ∧ R v w' :=
 calls_of_den ctxOk (fn := Tryz.f27) (by kernel_rfl) (body := bodyOf Tryz.f27) (by kernel_rfl) (by kernel_rfl) (by kernel_rfl) (Eq.mp (by kernel_rfl) hh)
def vc28 (a : OA) (w : World) (R : RW) : Prop :=
 CondP (Option.isNone a)
 (R (int .i64 0) w)
 (NilC a (fun b =>
 ∃ c d f, w.cell? ((b.add 1).add 1) = some (slice c d f) ∧
 R (int .i64 (d : Int)) w))
theorem vc28_calls (a : OA) (w : World) (R : RW) (hh : vc28 a w R) : Calls Tryz.prog 28 #[pointer a] w fun e w' => ∃ v, e = .returned v ∧ R v w' :=
 calls_of_den ctxOk (fn := Tryz.f28) (by kernel_rfl) (body := bodyOf Tryz.f28) (by kernel_rfl) (by kernel_rfl) (by kernel_rfl) (Eq.mp (by kernel_rfl) hh)
def vc29 (a : OA) (w : World) (R : RW) : Prop :=
 CondP (Option.isNone a)
 (R (int .i64 0) w)
 (NilC a (fun b =>
 ∃ c d f, w.cell? ((b.add 3).add 1) = some (slice c d f) ∧
 R (int .i64 (d : Int)) w))
theorem vc29_calls (a : OA) (w : World) (R : RW) (hh : vc29 a w R) : Calls Tryz.prog 29 #[pointer a] w fun e w' => ∃ v, e = .returned v ∧ R v w' :=
 calls_of_den ctxOk (fn := Tryz.f29) (by kernel_rfl) (body := bodyOf Tryz.f29) (by kernel_rfl) (by kernel_rfl) (by kernel_rfl) (Eq.mp (by kernel_rfl) hh)
def vc30 (a : OA) (w : World) (R : RW) : Prop :=
 Calls Tryz.prog 28 #[pointer a] w (fun b c =>
 ∃ d, b = .returned (int .i64 d) ∧
 Calls Tryz.prog 29 #[pointer a] c (fun f g =>
 ∃ h, f = .returned (int .i64 h) ∧
 Ar .i64 (d * h) (fun i =>
 R (int .i64 i) g)))
theorem vc30_calls (a : OA) (w : World) (R : RW) (hh : vc30 a w R) : Calls Tryz.prog 30 #[pointer a] w fun e w' => ∃ v, e = .returned v ∧ R v w' :=
 calls_of_den ctxOk (fn := Tryz.f30) (by kernel_rfl) (body := bodyOf Tryz.f30) (by kernel_rfl) (by kernel_rfl) (by kernel_rfl) (Eq.mp (by kernel_rfl) hh)
def vc34 (a : OA) (b : Int) (w : World) (R : RW) : Prop :=
 Calls Tryz.prog 27 #[pointer a, int .i64 b] w (fun c d =>
 ∃ f g, c = .returned (tuple #[int .i64 f, bool g]) ∧
 CondP g
 (NilC a (fun h =>
 ∃ i j k, d.cell? (h.add 6) = some (slice i j k) ∧
 NilC i (fun l =>
 (0 : Int) ≤ f ∧ f < (j : Int) ∧
 ∃ m, d.cell? (l.add (f.toNat * 1)) = some (bool m) ∧
 R (bool m) d)))
 (R (bool false) d))
theorem vc34_calls (a : OA) (b : Int) (w : World) (R : RW) (hh : vc34 a b w R) : Calls Tryz.prog 34 #[pointer a, int .i64 b] w fun e w' => ∃ v, e = .returned v ∧ R v w' :=
 calls_of_den ctxOk (fn := Tryz.f34) (by kernel_rfl) (body := bodyOf Tryz.f34) (by kernel_rfl) (by kernel_rfl) (by kernel_rfl) (Eq.mp (by kernel_rfl) hh)
def vc35 (a : OA) (b c : Int) (w : World) (R : RW) : Prop :=
 Calls Tryz.prog 26 #[pointer a, int .i64 b] w (fun d f =>
 ∃ g h, d = .returned (tuple #[int .i64 g, bool h]) ∧
 Calls Tryz.prog 27 #[pointer a, int .i64 c] f (fun i j =>
 ∃ k l, i = .returned (tuple #[int .i64 k, bool l]) ∧
 CondP h
 (CondP l
 (NilC a (fun m =>
 ∃ n o p, j.cell? (m.add 5) = some (slice n o p) ∧
 NilC n (fun q =>
 (0 : Int) ≤ g ∧ g < (o : Int) ∧
 ∃ r s t, j.cell? (q.add (g.toNat * 1)) = some (slice r s t) ∧
 NilC r (fun u =>
 (0 : Int) ≤ k ∧ k < (s : Int) ∧
 ∃ x, j.cell? (u.add (k.toNat * 1)) = some (bool x) ∧
 R (bool x) j))))
 (R (bool false) j))
 (R (bool false) j)))
theorem vc35_calls (a : OA) (b c : Int) (w : World) (R : RW) (hh : vc35 a b c w R) : Calls Tryz.prog 35 #[pointer a, int .i64 b, int .i64 c] w fun e w' => ∃ v, e = .returned v ∧ R v w' :=
 calls_of_den ctxOk (fn := Tryz.f35) (by kernel_rfl) (body := bodyOf Tryz.f35) (by kernel_rfl) (by kernel_rfl) (by kernel_rfl) (Eq.mp (by kernel_rfl) hh)
def vc36 (a b : OA) (c d : Nat) (w : World) (R : RW) : Prop :=
 ∀ f : KW, (∀ (g : Int) (h : Bool) (i : Int) (j : World), (CondP (decide (g < (c : Int)))
 (NilC b (fun k =>
 (0 : Int) ≤ g ∧ g < (c : Int) ∧
 ∃ l, j.cell? (k.add (g.toNat * 1)) = some (int .i64 l) ∧
 Calls Tryz.prog 34 #[pointer a, int .i64 l] j (fun m n =>
 ∃ o, m = .returned (bool o) ∧
 CondP (!o)
 (R (tuple #[int .i64 g, bool true]) n)
 (CondP (decide (g > 0))
 (Ar .i64 (g - 1) (fun p =>
 NilC b (fun q =>
 (0 : Int) ≤ p ∧ p < (c : Int) ∧
 ∃ r, n.cell? (q.add (p.toNat * 1)) = some (int .i64 r) ∧
 Calls Tryz.prog 35 #[pointer a, int .i64 r, int .i64 l] n (fun s t =>
 ∃ u, s = .returned (bool u) ∧
 CondP (!u)
 (R (tuple #[int .i64 g, bool true]) t)
 (Ar .i64 (g + 1) (fun x =>
 f [int .i64 x, bool h, int .i64 i] t))))))
 (Ar .i64 (g + 1) (fun y =>
 f [int .i64 y, bool h, int .i64 i] n))))))
 (R (tuple #[int .i64 0, bool false]) j)) → f [int .i64 g, bool h, int .i64 i] j) →
 f [int .i64 0, bool false, int .i64 0] w
theorem vc36_calls (a b : OA) (c d : Nat) (w : World) (R : RW) (hh : vc36 a b c d w R) : Calls Tryz.prog 36 #[pointer a, slice b c d] w fun e w' => ∃ v, e = .returned v ∧ R v w' :=
 calls_of_den ctxOk (fn := Tryz.f36) (by kernel_rfl) (body := bodyOf Tryz.f36) (by kernel_rfl) (by kernel_rfl) (by kernel_rfl) (Eq.mp (by kernel_rfl) hh)
def vc37 (a : OA) (w : World) (R : RW) : Prop :=
 ∀ b, b = w.alloc (.cells #[pointer a] 48) →
 ∃ c, b.cell? (nb w) = some (pointer c) ∧
 CondP (Option.isNone c)
 (R (pointer none) b)
 (∃ d, b.cell? (nb w) = some (pointer d) ∧
 ∀ f, f = b.alloc (.cells #[pointer d, slice none 0 0, slice none 0 0, slice none 0 0, slice none 0 0, slice none 0 0, slice none 0 0] 115) →
 ∃ g, f.cell? (nb w) = some (pointer g) ∧
 Calls Tryz.prog 24 #[pointer g] f (fun h i =>
 ∃ j, h = .returned (int .i64 j) ∧
 Calls Tryz.prog 71 #[int .i64 j, func (.func 72) #[] #[pointer (some (nb w))]] i (fun k l =>
 ∃ m n o p q r, k = .returned (agg #[slice m n o, slice p q r]) ∧
 StoreP l ((nb b).add 1) (fun s =>
 ∃ t, s.cell? (nb w) = some (pointer t) ∧
 Calls Tryz.prog 24 #[pointer t] s (fun x y =>
 ∃ z, x = .returned (int .i64 z) ∧
 Calls Tryz.prog 71 #[int .i64 z, func (.func 74) #[pointer (some (nb b))] #[]] y (fun a1 b1 =>
 ∃ c1 d1 e1 f1 g1 h1, a1 = .returned (agg #[slice c1 d1 e1, slice f1 g1 h1]) ∧
 StoreP b1 ((nb b).add 3) (fun i1 =>
 ∃ j1 k1 l1, i1.cell? (((nb b).add 1).add 1) = some (slice j1 k1 l1) ∧
 ∀ m1 : KW, (∀ (n1 : Int) (o1 : World), (CondP (decide (n1 < (k1 : Int)))
 (NilC j1 (fun p1 =>
 (0 : Int) ≤ n1 ∧ n1 < (k1 : Int) ∧
 ∃ q1, o1.cell? (p1.add (n1.toNat * 1)) = some (int .i64 q1) ∧
 ∃ r1, o1.cell? (nb w) = some (pointer r1) ∧
 Calls Tryz.prog 25 #[pointer r1, int .i64 q1] o1 (fun s1 t1 =>
 ∃ u1 v1, s1 = .returned (tuple #[int .i64 u1, bool v1]) ∧
 ∃ x1 y1 z1, t1.cell? (((nb b).add 3).add 1) = some (slice x1 y1 z1) ∧
 ∀ a2 : KW, (∀ (b2 : Int) (c2 : OA) (d2 e2 : Nat) (f2 : World), (CondP (decide (b2 < (y1 : Int)))
 (NilC x1 (fun g2 =>
 (0 : Int) ≤ b2 ∧ b2 < (y1 : Int) ∧
 ∃ h2, f2.cell? (g2.add (b2.toNat * 1)) = some (int .i64 h2) ∧
 ∃ i2, f2.cell? (nb w) = some (pointer i2) ∧
 Calls Tryz.prog 25 #[pointer i2, int .i64 h2] f2 (fun j2 k2 =>
 ∃ l2 m2, j2 = .returned (tuple #[int .i64 l2, bool m2]) ∧
 ∃ n2, k2.cell? (nb w) = some (pointer n2) ∧
 Calls Tryz.prog 33 #[pointer n2, int .i64 u1, int .i64 l2] k2 (fun o2 p2 =>
 ∃ q2, o2 = .returned (bool q2) ∧
 ∀ r2, r2 = p2.alloc (.cells #[bool q2] 4) →
 ∃ s2 t2 u2 v2, (Builtin.append_ #[72, 72] 72 #[slice c2 d2 e2, slice (some (nb p2)) 1 1]).run Tryz.prog r2 = .ok (slice s2 t2 u2) v2 ∧
 Ar .i64 (b2 + 1) (fun x2 =>
 a2 [int .i64 x2, slice s2 t2 u2] v2)))))
 (∃ y2 z2 a3, f2.cell? ((nb b).add 5) = some (slice y2 z2 a3) ∧
 ∀ b3, b3 = f2.alloc (.cells #[slice c2 d2 e2] 72) →
 ∃ c3 d3 e3 f3, (Builtin.append_ #[71, 71] 71 #[slice y2 z2 a3, slice (some (nb f2)) 1 1]).run Tryz.prog b3 = .ok (slice c3 d3 e3) f3 ∧
 (slice c3 d3 e3).oneCell' = true ∧ (∃ u, f3.cell? ((nb b).add 5) = some u) ∧ f3.frozen? ((nb b).add 5) = false ∧
 ∀ g3, g3 = (f3.setCell ((nb b).add 5) (slice c3 d3 e3)) →
 Ar .i64 (n1 + 1) (fun h3 =>
 m1 [int .i64 h3] g3))) → a2 [int .i64 b2, slice c2 d2 e2] f2) →
 a2 [int .i64 0, slice none 0 0] t1)))
 (∃ i3 j3 k3, o1.cell? (((nb b).add 3).add 1) = some (slice i3 j3 k3) ∧
 ∀ l3 : KW, (∀ (m3 : Int) (n3 : World), (CondP (decide (m3 < (j3 : Int)))
 (NilC i3 (fun o3 =>
 (0 : Int) ≤ m3 ∧ m3 < (j3 : Int) ∧
 ∃ p3, n3.cell? (o3.add (m3.toNat * 1)) = some (int .i64 p3) ∧
 ∃ q3, n3.cell? (nb w) = some (pointer q3) ∧
 Calls Tryz.prog 25 #[pointer q3, int .i64 p3] n3 (fun r3 s3 =>
 ∃ t3 u3, r3 = .returned (tuple #[int .i64 t3, bool u3]) ∧
 ∀ v3, v3 = s3.drew →
 ∃ x3 y3 z3, v3.cell? ((nb b).add 6) = some (slice x3 y3 z3) ∧
 ∃ a4, v3.cell? (nb w) = some (pointer a4) ∧
 Calls Tryz.prog 32 #[pointer a4, int .i64 t3] v3 (fun b4 c4 =>
 ∃ d4, b4 = .returned (bool d4) ∧
 (c4.cell? ((nb b).add 6) = some (slice x3 y3 z3) ∧ True) ∧
 ∀ e4, e4 = c4.alloc (.cells #[bool d4] 4) →
 (e4.cell? ((nb b).add 6) = some (slice x3 y3 z3) ∧ True) ∧
 ∃ f4 g4 h4 i4, (Builtin.append_ #[72, 72] 72 #[slice x3 y3 z3, slice (some (nb c4)) 1 1]).run Tryz.prog e4 = .ok (slice f4 g4 h4) i4 ∧
 (slice f4 g4 h4).oneCell' = true ∧ (∃ u, i4.cell? ((nb b).add 6) = some u) ∧ i4.frozen? ((nb b).add 6) = false ∧
 ∀ j4, j4 = (i4.setCell ((nb b).add 6) (slice f4 g4 h4)) →
 Ar .i64 (m3 + 1) (fun k4 =>
 l3 [int .i64 k4] j4)))))
 (R (pointer (some (nb b))) n3)) → l3 [int .i64 m3] n3) →
 l3 [int .i64 0] o1)) → m1 [int .i64 n1] o1) →
 m1 [int .i64 0] i1) [slice c1 d1 e1, slice f1 g1 h1] 0))) [slice m n o, slice p q r] 0)))
theorem vc37_calls (a : OA) (w : World) (R : RW) (hh : vc37 a w R) : Calls Tryz.prog 37 #[pointer a] w fun e w' => ∃ v, e = .returned v ∧ R v w' :=
 calls_of_den ctxOk (fn := Tryz.f37) (by kernel_rfl) (body := bodyOf Tryz.f37) (by kernel_rfl) (by kernel_rfl) (by kernel_rfl) (Eq.mp (by kernel_rfl) hh)
def vc68 (a : OA) (b : Int) (w : World) (R : RW) : Prop :=
 CondP (Option.isNone a)
 (R (tuple #[int .i64 0, bool false]) w)
 (NilC a (fun c =>
 ∃ d, w.cell? (c.add 0) = some (pointer d) ∧
 Calls Tryz.prog 41 #[pointer d, int .i64 b] w (fun f g =>
 ∃ h i, f = .returned (tuple #[int .i64 h, bool i]) ∧
 R (tuple #[int .i64 h, bool i]) g)))
theorem vc68_calls (a : OA) (b : Int) (w : World) (R : RW) (hh : vc68 a b w R) : Calls Tryz.prog 68 #[pointer a, int .i64 b] w fun e w' => ∃ v, e = .returned v ∧ R v w' :=
 calls_of_den ctxOk (fn := Tryz.f68) (by kernel_rfl) (body := bodyOf Tryz.f68) (by kernel_rfl) (by kernel_rfl) (by kernel_rfl) (Eq.mp (by kernel_rfl) hh)
def vc71 (a : Int) (b : Value) (w : World) (R : RW) : Prop :=
 ∀ c, c = w.alloc (.cells #[slice none 0 0, slice none 0 0] 113) →
 ∀ d, d = c.alloc (.cells #[slice none 0 0, slice none 0 0] 113) →
 ∃ f g, (Instr.makeMap 177 none).run Tryz.prog d = .ok (map f) g ∧
 ∀ h : KW, (∀ (i : Int) (j : World), (CondP (decide (i < a))
 (CallG ctx b [int .i64 i] j (fun k l =>
 ∃ m, k = .returned (string m) ∧
 ∃ n o p, (Instr.lookup 177 (map f) (string m) true).run Tryz.prog l = .ok (tuple #[int .i64 n, bool o]) p ∧
 ∀ q : KW, (∀ (r : Int) (s : World), (∃ t x y, s.cell? ((nb c).add 0) = some (slice t x y) ∧
 ∀ z, z = s.alloc (.cells #[int .i64 r] 3) →
 ∃ a1 b1 c1 d1, (Builtin.append_ #[28, 28] 28 #[slice t x y, slice (some (nb s)) 1 1]).run Tryz.prog z = .ok (slice a1 b1 c1) d1 ∧
 (slice a1 b1 c1).oneCell' = true ∧ (∃ u, d1.cell? ((nb c).add 0) = some u) ∧ d1.frozen? ((nb c).add 0) = false ∧
 ∀ e1, e1 = (d1.setCell ((nb c).add 0) (slice a1 b1 c1)) →
 Ar .i64 (i + 1) (fun f1 =>
 h [int .i64 f1] e1)) → q [int .i64 r] s) →
 CondP (!o)
 (∃ g1 h1 i1, p.cell? ((nb c).add 1) = some (slice g1 h1 i1) ∧
 ∃ j1, (Instr.mapUpdate 177 (map f) (string m) (int .i64 (h1 : Int))).run Tryz.prog p = .ok () j1 ∧
 ∃ k1 l1 m1, j1.cell? ((nb c).add 1) = some (slice k1 l1 m1) ∧
 ∀ n1, n1 = j1.alloc (.cells #[int .i64 i] 3) →
 ∃ o1 p1 q1 r1, (Builtin.append_ #[28, 28] 28 #[slice k1 l1 m1, slice (some (nb j1)) 1 1]).run Tryz.prog n1 = .ok (slice o1 p1 q1) r1 ∧
 (slice o1 p1 q1).oneCell' = true ∧ (∃ u, r1.cell? ((nb c).add 1) = some u) ∧ r1.frozen? ((nb c).add 1) = false ∧
 ∀ s1, s1 = (r1.setCell ((nb c).add 1) (slice o1 p1 q1)) →
 q [int .i64 (h1 : Int)] s1)
 (q [int .i64 n] p)))
 (∃ t1 u1 v1 x1 y1 z1, (j.cell? (nb c) = some (slice t1 u1 v1) ∧ j.cell? ((nb c).add 1) = some (slice x1 y1 z1) ∧ True) ∧
 StoreP j (nb w) (fun a2 =>
 ∃ b2 c2 d2 e2 f2 g2, (a2.cell? (nb w) = some (slice b2 c2 d2) ∧ a2.cell? ((nb w).add 1) = some (slice e2 f2 g2) ∧ True) ∧
 R (agg #[slice b2 c2 d2, slice e2 f2 g2]) a2) [slice t1 u1 v1, slice x1 y1 z1] 0)) → h [int .i64 i] j) →
 h [int .i64 0] g
theorem vc71_calls (a : Int) (b : Value) (w : World) (R : RW) (hh : vc71 a b w R) : Calls Tryz.prog 71 #[int .i64 a, b] w fun e w' => ∃ v, e = .returned v ∧ R v w' :=
 calls_of_den ctxOk (fn := Tryz.f71) (by kernel_rfl) (body := bodyOf Tryz.f71) (by kernel_rfl) (by kernel_rfl) (by kernel_rfl) (Eq.mp (by kernel_rfl) hh)
def vc72 (a : Int) (b : OA) (w : World) (R : RW) : Prop :=
 NilC b (fun c =>
 ∃ d, w.cell? c = some (pointer d) ∧
 Calls Tryz.prog 25 #[pointer d, int .i64 a] w (fun f g =>
 ∃ h i, f = .returned (tuple #[int .i64 h, bool i]) ∧
 NilC b (fun j =>
 ∃ k, g.cell? j = some (pointer k) ∧
 Calls Tryz.prog 31 #[pointer k, int .i64 h] g (fun l m =>
 ∃ n o p, l = .returned (slice n o p) ∧
 Calls Tryz.prog 73 #[slice n o p] m (fun q r =>
 ∃ s, q = .returned (string s) ∧
 R (string s) r)))))
theorem vc72_calls (a : Int) (b : OA) (w : World) (R : RW) (hh : vc72 a b w R) : Calls Tryz.prog 72 #[int .i64 a, pointer b] w fun e w' => ∃ v, e = .returned v ∧ R v w' :=
 calls_of_den ctxOk (fn := Tryz.f72) (by kernel_rfl) (body := bodyOf Tryz.f72) (by kernel_rfl) (by kernel_rfl) (by kernel_rfl) (Eq.mp (by kernel_rfl) hh)
def vc73 (a : OA) (b c : Nat) (w : World) (R : RW) : Prop :=
 ∀ d : KW, (∀ (f : Int) (g : OA) (h i : Nat) (j : World), (CondP (decide (f < (b : Int)))
 (NilC a (fun k =>
 (0 : Int) ≤ f ∧ f < (b : Int) ∧
 ∃ l, j.cell? (k.add (f.toNat * 1)) = some (int .u64 l) ∧
 ∀ m : KW, (∀ (n : Int) (o : OA) (p q : Nat) (r : World), (CondP (decide (n < 64))
 ((0 : Int) ≤ n ∧
 ∀ s, s = r.alloc (.cells #[int .u8 (IntKind.wrap .u8 (Int.fdiv l (2 ^ (min n.toNat (IntKind.bits .u64)))))] 5) →
 ∃ t u x y, (Builtin.append_ #[178, 178] 178 #[slice o p q, slice (some (nb r)) 1 1]).run Tryz.prog s = .ok (slice t u x) y ∧
 Ar .i64 (n + 8) (fun z =>
 m [int .i64 z, slice t u x] y))
 (Ar .i64 (f + 1) (fun a1 =>
 d [int .i64 a1, slice o p q] r))) → m [int .i64 n, slice o p q] r) →
 m [int .i64 0, slice g h i] j))
 (∃ b1 c1, (convert 178 9 (slice g h i)).run Tryz.prog j = .ok (string b1) c1 ∧
 R (string b1) c1)) → d [int .i64 f, slice g h i] j) →
 d [int .i64 0, slice none 0 0] w
theorem vc73_calls (a : OA) (b c : Nat) (w : World) (R : RW) (hh : vc73 a b c w R) : Calls Tryz.prog 73 #[slice a b c] w fun e w' => ∃ v, e = .returned v ∧ R v w' :=
 calls_of_den ctxOk (fn := Tryz.f73) (by kernel_rfl) (body := bodyOf Tryz.f73) (by kernel_rfl) (by kernel_rfl) (by kernel_rfl) (Eq.mp (by kernel_rfl) hh)
def vc74 (a : OA) (b : Int) (w : World) (R : RW) : Prop :=
 NilC a (fun c =>
 ∃ d, w.cell? (c.add 0) = some (pointer d) ∧
 Calls Tryz.prog 25 #[pointer d, int .i64 b] w (fun f g =>
 ∃ h i, f = .returned (tuple #[int .i64 h, bool i]) ∧
 ∀ j, j = g.alloc (.cells #[int .u8 0] 5) →
 ∀ k : KW, (∀ l : World, (NilC a (fun m =>
 ∃ n o p, l.cell? ((m.add 1).add 1) = some (slice n o p) ∧
 ∀ q : KW, (∀ (r : Int) (s : OA) (t x : Nat) (y : World), (CondP (decide (r < (o : Int)))
 (∀ z : KW, (∀ (a1 : OA) (b1 c1 : Nat) (d1 : World), (Ar .i64 (r + 1) (fun e1 =>
 q [int .i64 e1, slice a1 b1 c1] d1)) → z [slice a1 b1 c1] d1) →
 NilC n (fun f1 =>
 (0 : Int) ≤ r ∧ r < (o : Int) ∧
 ∃ g1, y.cell? (f1.add (r.toNat * 1)) = some (int .i64 g1) ∧
 NilC a (fun h1 =>
 ∃ i1, y.cell? (h1.add 0) = some (pointer i1) ∧
 Calls Tryz.prog 25 #[pointer i1, int .i64 g1] y (fun j1 k1 =>
 ∃ l1 m1, j1 = .returned (tuple #[int .i64 l1, bool m1]) ∧
 NilC a (fun n1 =>
 ∃ o1, k1.cell? (n1.add 0) = some (pointer o1) ∧
 Calls Tryz.prog 33 #[pointer o1, int .i64 l1, int .i64 h] k1 (fun p1 q1 =>
 ∃ r1, p1 = .returned (bool r1) ∧
 CondP r1
 (∀ s1, s1 = q1.alloc (.cells #[int .u8 1] 5) →
 ∃ t1 u1 v1 x1, (Builtin.append_ #[178, 178] 178 #[slice s t x, slice (some (nb q1)) 1 1]).run Tryz.prog s1 = .ok (slice t1 u1 v1) x1 ∧
 z [slice t1 u1 v1] x1)
 (∀ y1, y1 = q1.alloc (.cells #[int .u8 0] 5) →
 ∃ z1 a2 b2 c2, (Builtin.append_ #[178, 178] 178 #[slice s t x, slice (some (nb q1)) 1 1]).run Tryz.prog y1 = .ok (slice z1 a2 b2) c2 ∧
 z [slice z1 a2 b2] c2)))))))
 (∃ d2 e2, (convert 178 9 (slice s t x)).run Tryz.prog y = .ok (string d2) e2 ∧
 R (string d2) e2)) → q [int .i64 r, slice s t x] y) →
 q [int .i64 0, slice (some (nb g)) 1 1] l)) → k [] l) →
 NilC a (fun f2 =>
 ∃ g2, j.cell? (f2.add 0) = some (pointer g2) ∧
 Calls Tryz.prog 32 #[pointer g2, int .i64 h] j (fun h2 i2 =>
 ∃ j2, h2 = .returned (bool j2) ∧
 CondP j2
 ((0 : Int) ≤ 0 ∧ 0 < (1 : Int) ∧
 (int .u8 1).oneCell' = true ∧ (∃ u, i2.cell? ((nb g).add ((0 : Int).toNat * 1)) = some u) ∧ i2.frozen? ((nb g).add ((0 : Int).toNat * 1)) = false ∧
 ∀ k2, k2 = (i2.setCell ((nb g).add ((0 : Int).toNat * 1)) (int .u8 1)) →
 k [] k2)
 (k [] i2)))))
theorem vc74_calls (a : OA) (b : Int) (w : World) (R : RW) (hh : vc74 a b w R) : Calls Tryz.prog 74 #[pointer a, int .i64 b] w fun e w' => ∃ v, e = .returned v ∧ R v w' :=
 calls_of_den ctxOk (fn := Tryz.f74) (by kernel_rfl) (body := bodyOf Tryz.f74) (by kernel_rfl) (by kernel_rfl) (by kernel_rfl) (Eq.mp (by kernel_rfl) hh)
end Go.Proofs.YtboemnagahmlkaaGreat.Eng

/- Words as texts, and things put together, walked by the engine. -/
set_option linter.unusedVariables false
set_option linter.unusedSimpArgs false
set_option maxRecDepth 100000
namespace Go.Proofs.YtboemnagahmlkaaGreat.Eng
open Go Go.RowKit
theorem wrap_u8 (z : Nat) : IntKind.wrap .u8 (z : Int) = (((UInt8.ofNat z).toNat : Nat) : Int) := by
  rw [UInt8.toNat_ofNat']
  unfold IntKind.wrap
  rw [if_neg (by rw [show IntKind.u8.signed = false from rfl, Bool.false_and]; exact Bool.false_ne_true)]
  rfl
theorem text_spec (w : World) (A : Option Addr) (C : Nat) (l : List Nat) (hr : Rw encU64 1 w A (l.map fun x : Nat => (x : Int))) (hl : l.length ≤ 1000) :
    Calls Tryz.prog 73 #[.slice A l.length C] w fun e w' => e = .returned (.string (str (wTextOf l))) ∧ Below w.heap.size w w' := by
  refine calls_ret (vc73_calls A l.length C w (fun u w' => u = .string (str (wTextOf l)) ∧ Below w.heap.size w w') ?_) (by rintro v w' ⟨rfl, h⟩; exact ⟨rfl, h⟩)
  intro I hI
  have key := climb2 (α := Sl × World) l.length (fun i y => y.2.ownsRow w.heap.size tU8 1 y.1.v y.1.n ((wTextOf (l.take i)).flatMap encU8) ∧ y.1.n = 8 * i ∧ Below w.heap.size w y.2) (fun i y => I [.int .i64 (i : Int), y.1.v] y.2) (sl0, w) ⟨own_none _ _ _ _ encU8, rfl, Below.refl _ _⟩ ?_ ?_
  · exact key
  · rintro i hi ih ⟨f, q⟩ ⟨hown, hn, hB⟩
    change q.ownsRow w.heap.size tU8 1 f.v f.n _ at hown
    change f.n = 8 * i at hn
    change Below w.heap.size w q at hB
    obtain ⟨p, hp, c0⟩ := cell_rw (hr.on hB) (show i < (l.map fun x : Nat => (x : Int)).length by simpa using hi) (v := .int .u64 ((l[i] : Nat) : Int)) (by simp [encU64])
    refine hI _ f.a f.n f.c q (CondP.yes (decide_eq_true (by omega)) (NilC.mk p hp ⟨by omega, by omega, _, c0, ?_⟩))
    intro I2 hI2
    have key2 := climb2 (α := Sl × World) 8 (fun j y => y.2.ownsRow w.heap.size tU8 1 y.1.v y.1.n ((wTextOf (l.take i) ++ (List.range j).map (byteOf l[i])).flatMap encU8) ∧ y.1.n = 8 * i + j ∧ Below w.heap.size w y.2) (fun j y => I2 [.int .i64 ((8 * j : Nat) : Int), y.1.v] y.2) (f, q) ⟨by simpa using hown, hn, hB⟩ ?_ ?_
    · exact key2
    · rintro j hj ih2 ⟨g, z⟩ ⟨hg, hgn, hBz⟩
      change z.ownsRow w.heap.size tU8 1 g.v g.n _ at hg
      change g.n = 8 * i + j at hgn
      change Below w.heap.size w z at hBz
      refine hI2 _ g.a g.n g.c z (CondP.yes (decide_eq_true (by omega)) ⟨by omega, ?_⟩)
      intro w3 hw3
      rw [sh_k _ _ (by omega), wrap_u8] at hw3
      obtain ⟨g', w4, e1, e2, e3, e4, _⟩ := elU8.push hg (byteOf l[i] j) hw3 rfl hBz.size (by omega) (by decide)
      refine ⟨g'.a, g'.n, g'.c, w4, e2, Ar.nat (8 * (j + 1)) (by omega) (by omega) (ih2 (g', w4) ⟨?_, by show g'.n = 8 * i + (j + 1); omega, e4 _ hBz⟩)⟩
      rw [List.range_succ, List.map_append, ← List.append_assoc]
      exact e3
    · rintro ⟨g, z⟩ ⟨hg, hgn, hBz⟩
      change z.ownsRow w.heap.size tU8 1 g.v g.n _ at hg
      change g.n = 8 * i + 8 at hgn
      refine hI2 _ g.a g.n g.c z (CondP.no rfl (Ar.nat (i + 1) rfl (by omega) (ih (g, z) ⟨?_, by show g.n = 8 * (i + 1); omega, hBz⟩)))
      have e : wTextOf (l.take (i + 1)) = wTextOf (l.take i) ++ (List.range 8).map (byteOf l[i]) := by
        rw [List.take_add_one, List.getElem?_eq_getElem hi]
        simp only [wTextOf, List.flatMap_append, Option.toList, List.flatMap_cons, List.flatMap_nil, List.append_nil]
        rfl
      rw [e]
      exact hg
  · rintro ⟨f, q⟩ ⟨hown, hn, hB⟩
    change q.ownsRow w.heap.size tU8 1 f.v f.n _ at hown
    rw [List.take_length] at hown
    exact hI _ f.a f.n f.c q (CondP.no (decide_eq_false (by omega)) ⟨_, q, run_str_own (P := Tryz.prog) undBytes undU8 undStr (by rw [← u8_cells]; exact hown), rfl, hB⟩)

/-! ### Groups -/
abbrev tGr : TypeId := 113
theorem pushI {B : Nat} {w2 w3 : World} {s : Sl} {xs : List Int} (hown : w2.ownsRow B tInt 1 s.v s.n (xs.flatMap encInt)) (x : Int) (hw : w3 = w2.alloc (.cells #[.int .i64 x] tInt)) (hB : B ≤ w2.heap.size) (hn : s.n ≤ 1000000) :
    ∃ (l : Sl) (w4 : World), l.n = s.n + 1 ∧ (Builtin.append_ #[tInts, tInts] tInts #[.slice s.a s.n s.c, .slice (some (nb w2)) 1 1]).run Tryz.prog w3 = .ok (.slice l.a l.n l.c) w4 ∧ w4.ownsRow B tInt 1 l.v l.n ((xs ++ [x]).flatMap encInt) ∧ (∀ w0, Below B w0 w2 → Below B w0 w4) ∧ (∀ k, k < w2.heap.size → s.v.ownBlock ≠ some k → w4.heap[k]? = w2.heap[k]?) ∧ ∀ k, l.v.ownBlock = some k → s.v.ownBlock = some k ∨ w2.heap.size ≤ k := by
  have hba := below_alloc w2 (.cells #[.int .i64 x] tInt)
  have hb3 : Below w2.heap.size w2 w3 := by subst hw; exact hba
  have hl : LsAt encInt 1 w3 ⟨some (nb w2), 1, 1⟩ [x] := ⟨rfl, intsAt w2 w3 [x] _ rfl hw, .inr ⟨_, rfl⟩⟩
  obtain ⟨l, w4, h1, h2, h3, h4, h5, h6⟩ := elInt.spread (own_on hown hb3) hl (Nat.le_trans hB hb3.size) (by omega) (show 1 ≤ 1000000000 by decide) (by decide)
  refine ⟨l, w4, h1, h2, h3, fun w0 h => h4 w0 (h.trans (hb3.mono hB)), fun k hk hne => (h5 k (Nat.lt_of_lt_of_le hk hb3.size) hne).trans (hb3.block k hk), fun k hk => ?_⟩
  rcases h6 k hk with h | h
  · exact .inl h
  · exact .inr (Nat.le_trans hb3.size h)
def gkm (k : Nat → Bs) (i : Nat) : List (Bs × Value) := (firsts k i).zipIdx.map fun x => (k x.1, .int .i64 (x.2 : Int))
theorem look_gkm (k : Nat → Bs) (i : Nat) : look (k i) (gkm k i) = ((firsts k i).findIdx? fun a => decide (k a = k i)).map fun c : Nat => Value.int .i64 (c : Int) := by
  have := look_zipf k (k i) (firsts k i) 0
  simp only [Nat.zero_add] at this
  rw [show look (k i) (gkm k i) = _ from this]
  congr 1
  rw [List.idxOf?, List.findIdx?_map]
  congr 1
  funext a
  show (k a == k i) = _
  by_cases h : k a = k i
  · simp [h]
  · simp [h]
theorem ints_snoc (l : List Nat) (x : Nat) : ((l ++ [x]).map fun i : Nat => (i : Int)) = (l.map fun i : Nat => (i : Int)) ++ [(x : Int)] := by simp
theorem gkm_new {k : Nat → Bs} {i : Nat} (h : firsts k (i + 1) = firsts k i ++ [i]) : gkm k (i + 1) = gkm k i ++ [(k i, .int .i64 (((firsts k i).length : Nat) : Int))] := by
  unfold gkm
  rw [h, List.zipIdx_append, List.map_append]
  simp
def GroupR (w : World) (k : Nat → Bs) (n : Nat) (of fi : Sl) (w' : World) : Prop := w'.ownsRow w.heap.size tInt 1 of.v of.n (((List.range n).map fun i => ((clsOf k i : Nat) : Int)).flatMap encInt) ∧ w'.ownsRow w.heap.size tInt 1 fi.v fi.n (((firsts k n).map fun i : Nat => (i : Int)).flatMap encInt) ∧ Below w.heap.size w w'
set_option maxHeartbeats 1000000 in
theorem group_spec (w : World) (n : Nat) (key : Value) (k : Nat → Bs) (hn : n ≤ 10000) (his : ∀ i, i < n → ∀ w1, Below w.heap.size w w1 → CallG ctx key [.int .i64 (i : Int)] w1 (fun e w2 => e = .returned (.string (str (k i))) ∧ Below w1.heap.size w1 w2)) :
    Calls Tryz.prog 71 #[.int .i64 (n : Int), key] w fun e w' => ∃ of fi : Sl, e = .returned (.agg #[of.v, fi.v]) ∧ GroupR w k n of fi w' := by
  refine calls_ret (vc71_calls n key w (fun u w' => ∃ of fi : Sl, u = .agg #[of.v, fi.v] ∧ GroupR w k n of fi w') ?_) (by rintro v w' ⟨of, fi, rfl, h⟩; exact ⟨of, fi, rfl, h⟩)
  intro w1 hw1 w2 hw2
  have b1 : Below w.heap.size w w1 := by subst hw1; exact below_alloc _ _
  have b2 : Below w1.heap.size w1 w2 := by subst hw2; exact below_alloc _ _
  have l0 : w2.heap[w.heap.size]? = some (.cells #[sl0.v, sl0.v] tGr (0, 0)) := held_on b2 (by subst hw1; exact alloc_new _ _)
  have l1 : w2.heap[w1.heap.size]? = some (.cells #[sl0.v, sl0.v] tGr (0, 0)) := by subst hw2; exact alloc_new _ _
  have lt0 : w.heap.size < w1.heap.size := by subst hw1; rw [alloc_size]; omega
  have lt1 : w1.heap.size < w2.heap.size := (Array.getElem?_eq_some_iff.1 l1).1
  have hb2 := below_then b1 b2
  refine ⟨_, _, run_make _, ?_⟩
  have b3 := below_alloc w2 (.map #[] 0)
  have m3 : MapIs strKey (w2.alloc (.map #[] 0)) w2.heap.size (gkm k 0) := map_new w2
  obtain ⟨w3, hw3⟩ : ∃ w3, w3 = w2.alloc (.map #[] 0) := ⟨_, rfl⟩
  rw [← hw3] at b3 m3
  rw [← hw3]
  intro I hI
  let Inv (i : Nat) (q : World) : Prop := ∃ of fi : Sl, q.heap[w1.heap.size]? = some (.cells #[of.v, fi.v] tGr (0, 0)) ∧ q.heap[w.heap.size]? = some (.cells #[sl0.v, sl0.v] tGr (0, 0)) ∧ q.ownsRow w.heap.size tInt 1 of.v of.n (((List.range i).map fun i => ((clsOf k i : Nat) : Int)).flatMap encInt) ∧ q.ownsRow w.heap.size tInt 1 fi.v fi.n (((firsts k i).map fun i : Nat => (i : Int)).flatMap encInt) ∧ (∀ j, of.v.ownBlock = some j → fi.v.ownBlock ≠ some j) ∧ MapIs strKey q w2.heap.size (gkm k i) ∧ Below w.heap.size w q
  have key := climb2 (α := World) n Inv (fun i q => I [.int .i64 (i : Int)] q) w3 ⟨sl0, sl0, held_on b3 l1, held_on b3 l0, own_none _ _ _ _ encInt, own_none _ _ _ _ encInt, fun j hj => (by cases hj), m3, below_then hb2 b3⟩ ?_ ?_
  · exact key
  · rintro i hi ih q ⟨of, fi, g1, g0, oof, ofi, hd, hm, hB⟩
    refine hI _ _ (CondP.yes (decide_eq_true (by omega)) ((his i hi q hB).mono ?_))
    rintro e w5 ⟨rfl, b5⟩
    have hB5 := below_then hB b5
    have g1' := held_on b5 g1
    have g0' := held_on b5 g0
    have oof' := own_on oof b5
    have ofi' := own_on ofi b5
    have hm5 := hm.on b5
    have hof := (LsAt.of_own elInt oof').n
    have hfi := (LsAt.of_own elInt ofi').n
    rw [List.length_map, List.length_range] at hof
    rw [List.length_map] at hfi
    have hfl : (firsts k i).length ≤ i := by
      have : ∀ i, (firsts k i).length ≤ i := by
        intro i
        induction i with
        | zero => exact Nat.le_refl _
        | succ i ih =>
          have h1 := cls_next (k := k) i
          omega
      exact this i
    have hl := run_look keysB undMapB zeroInt hm5 (k i)
    rw [look_gkm] at hl
    refine ⟨_, rfl, ?_⟩
    have next : ∀ (z : World) (fi' : Sl) (J : List Value → World → Prop), (∀ (c : Int) (w7 : World), (∃ lA : Option Addr, ∃ lN : Nat, ∃ lC : Nat, w7.cell? ((nb w1).add 0) = some (Value.slice lA lN lC) ∧
         ∀ w8 : World, w8 = w7.alloc (.cells #[Value.int .i64 c] tInt) →
         ∃ lA_3 : Option Addr, ∃ lN_4 : Nat, ∃ lC_5 : Nat, ∃ w9 : World, (Builtin.append_ #[tInts, tInts] tInts #[Value.slice lA lN lC, Value.slice (some (nb w7)) 1 1]).run Tryz.prog w8 = .ok (Value.slice lA_3 lN_4 lC_5) w9 ∧
         (Value.slice lA_3 lN_4 lC_5).oneCell' = true ∧ (∃ u, w9.cell? ((nb w1).add 0) = some u) ∧ w9.frozen? ((nb w1).add 0) = false ∧
         ∀ w10 : World, w10 = (w9.setCell ((nb w1).add 0) (Value.slice lA_3 lN_4 lC_5)) →
         Ar .i64 ((i : Int) + 1) (fun n_6 =>
         I [Value.int .i64 n_6] w10)) → J [Value.int .i64 c] w7) →
        z.heap[w1.heap.size]? = some (.cells #[of.v, fi'.v] tGr (0, 0)) → z.heap[w.heap.size]? = some (.cells #[sl0.v, sl0.v] tGr (0, 0)) → z.ownsRow w.heap.size tInt 1 of.v of.n (((List.range i).map fun i => ((clsOf k i : Nat) : Int)).flatMap encInt) → z.ownsRow w.heap.size tInt 1 fi'.v fi'.n (((firsts k (i + 1)).map fun i : Nat => (i : Int)).flatMap encInt) → (∀ j, of.v.ownBlock = some j → fi'.v.ownBlock ≠ some j) → MapIs strKey z w2.heap.size (gkm k (i + 1)) → Below w.heap.size w z → J [.int .i64 ((clsOf k i : Nat) : Int)] z := by
      intro z fi' J hJ z1 z0 zo zf zd zm zB
      refine hJ _ _ ⟨of.a, of.n, of.c, by rw [cell_put z1]; rfl, ?_⟩
      intro w8 hw8
      obtain ⟨of', w9, e1, e2, e3, e4, e5, e6⟩ := pushI zo ((clsOf k i : Nat) : Int) hw8 zB.size (by omega)
      have kp : ∀ {j : Nat} {o : Obj}, z.heap[j]? = some o → of.v.ownBlock ≠ some j → w9.heap[j]? = some o := fun {j o} h hne => (e5 j (Array.getElem?_eq_some_iff.1 h).1 hne).trans h
      have y1 := kp z1 (row_ne_blk zo z1 (by decide))
      have y0 := kp z0 (row_ne_blk zo z0 (by decide))
      have yf : w9.ownsRow w.heap.size tInt 1 fi'.v fi'.n _ := own_same zf fun j hj => e5 j (own_lt zf j hj).2 fun h => zd j h hj
      have ym := zm.same (e5 _ zm.lt (own_ne_map zo zm))
      refine ⟨of'.a, of'.n, of'.c, w9, e2, rfl, ⟨_, by rw [cell_put y1]; rfl⟩, frozen_put y1, ?_⟩
      intro w10 hw10
      have hs : ∀ j, j ≠ w1.heap.size → w10.heap[j]? = w9.heap[j]? := by
        intro j hj
        subst hw10
        exact heap_setCell_ne (by rw [add_block]; exact hj)
      refine Ar.nat (i + 1) rfl (by omega) (ih w10 ⟨of', fi', by subst hw10; exact heap_put y1 _, (hs _ (by omega)).trans y0, ?_, own_same yf fun j hj => hs j fun e => row_ne_blk yf y1 (by decide) (by rw [hj, e]), ?_, ym.same (hs _ (by omega)), ?_⟩)
      · rw [List.range_succ, List.map_append]
        exact own_same e3 fun j hj => hs j fun e => row_ne_blk e3 y1 (by decide) (by rw [hj, e])
      · intro j hj hf
        rcases e6 j hj with h | h
        · exact zd j h hf
        · have := (own_lt zf j hf).2
          omega
      · subst hw10
        exact below_put (e4 _ zB) (by omega) _
    rcases firsts_step (k := k) i with ⟨c, hc, h2, h3, _⟩ | ⟨hc, h2, h3, _⟩
    · rw [hc] at hl
      refine ⟨_, _, w5, hl, ?_⟩
      intro J hJ
      refine CondP.no rfl ?_
      have := next w5 fi J hJ g1' g0' oof' (by rw [h2]; exact ofi') hd (by rw [show gkm k (i + 1) = gkm k i by unfold gkm; rw [h2]]; exact hm5) hB5
      rw [h3] at this
      exact this
    · rw [hc] at hl
      refine ⟨_, _, w5, hl, ?_⟩
      intro J hJ
      refine CondP.yes rfl ⟨fi.a, fi.n, fi.c, by rw [cell_put g1']; rfl, ?_⟩
      obtain ⟨w11, hr, hm11, hs11, hz11, hB11⟩ := run_put_new keysB undMapB hm5 (k i) (.int .i64 ((fi.n : Nat) : Int)) (by rw [look_gkm, hc]; rfl)
      have a1 := (hs11 w1.heap.size (by omega)).trans g1'
      have a0 := (hs11 w.heap.size (by omega)).trans g0'
      have ao := own_same oof' fun j hj => hs11 j fun e => own_ne_map oof' hm5 (by rw [hj, e])
      have af := own_same ofi' fun j hj => hs11 j fun e => own_ne_map ofi' hm5 (by rw [hj, e])
      have aB : Below w.heap.size w w11 := hB11 _ _ (by omega) hB5
      refine ⟨w11, hr, fi.a, fi.n, fi.c, by rw [cell_put a1]; rfl, ?_⟩
      intro w12 hw12
      obtain ⟨fi', w13, e1, e2, e3, e4, e5, e6⟩ := pushI af (i : Int) hw12 aB.size (by omega)
      have kp : ∀ {j : Nat} {o : Obj}, w11.heap[j]? = some o → fi.v.ownBlock ≠ some j → w13.heap[j]? = some o := fun {j o} h hne => (e5 j (Array.getElem?_eq_some_iff.1 h).1 hne).trans h
      have y1 := kp a1 (row_ne_blk af a1 (by decide))
      have y0 := kp a0 (row_ne_blk af a0 (by decide))
      have yo : w13.ownsRow w.heap.size tInt 1 of.v of.n _ := own_same ao fun j hj => e5 j (own_lt ao j hj).2 (hd j hj)
      have ym := hm11.same (e5 _ hm11.lt (own_ne_map af hm11))
      refine ⟨fi'.a, fi'.n, fi'.c, w13, e2, rfl, ⟨_, by rw [cell_put y1]; rfl⟩, frozen_put y1, ?_⟩
      intro w14 hw14
      have hs : ∀ j, j ≠ w1.heap.size → w14.heap[j]? = w13.heap[j]? := by
        intro j hj
        subst hw14
        exact heap_setCell_ne (by rw [add_block]; exact hj)
      have := next w14 fi' J hJ (by subst hw14; exact heap_put y1 _) ((hs _ (by omega)).trans y0) (own_same yo fun j hj => hs j fun e => row_ne_blk yo y1 (by decide) (by rw [hj, e])) (by rw [h2, ints_snoc]; exact own_same e3 fun j hj => hs j fun e => row_ne_blk e3 y1 (by decide) (by rw [hj, e])) (fun j hj hf => by
        rcases e6 j hf with h | h
        · exact hd j hj h
        · have := (own_lt ao j hj).2
          omega) (by rw [gkm_new h2, ← hfi]; exact ym.same (hs _ (by omega))) (by subst hw14; exact below_put (e4 _ aB) (by omega) _)
      rw [h3, ← hfi] at this
      exact this
  · rintro q ⟨of, fi, g1, g0, oof, ofi, hd, hm, hB⟩
    refine hI _ _ (CondP.no (decide_eq_false (by omega)) ⟨of.a, of.n, of.c, fi.a, fi.n, fi.c, ⟨cell_heap g1, by rw [cell_put g1]; rfl, trivial⟩, ?_⟩)
    refine storeP_cells g0 [of.v, fi.v] rfl (by intro v hv; simp only [List.mem_cons, List.not_mem_nil, or_false] at hv; rcases hv with rfl | rfl <;> rfl) ?_
    intro w15 h15 hs hz hB'
    refine ⟨of.a, of.n, of.c, fi.a, fi.n, fi.c, ⟨cell_heap h15, by rw [cell_put h15]; rfl, trivial⟩, of, fi, rfl, ?_, ?_, hB' _ _ (Nat.le_refl _) hB⟩
    · exact own_same oof fun j hj => hs j fun e => row_ne_blk oof g0 (by decide) (by rw [hj, e])
    · exact own_same ofi fun j hj => hs j fun e => row_ne_blk ofi g0 (by decide) (by rw [hj, e])
end Go.Proofs.YtboemnagahmlkaaGreat.Eng

/- The fold's keys, walked by the engine. -/
set_option linter.unusedVariables false
set_option linter.unusedSimpArgs false
set_option maxRecDepth 100000
namespace Go.Proofs.YtboemnagahmlkaaGreat.Eng
open Go Go.RowKit
def gN (s : SpecV) (T : List Ent) : Nat := (gids s T).length
def rowK (s : SpecV) (T : List Ent) (i : Nat) : Bs := rowText (gN s T) (relB s T i)
def colK (s : SpecV) (T : List Ent) (i : Nat) : Bs := (if alB s T i then 1 else 0) :: (firsts (rowK s T) (gN s T)).map fun a => if relB s T a i then 1 else 0
/-- Numbers rise. -/
abbrev RiseG (s : SpecV) (T : List Ent) : Prop := (gids s T).Pairwise (· < ·)
theorem plc_at {s : SpecV} {T : List Ent} (hr : RiseG s T) {i : Nat} (hi : i < gN s T) : plc s T ((gids s T).getD i 0) = some i := by
  unfold plc
  rw [getD_of hi]
  refine List.findIdx?_eq_some_iff_getElem.2 ⟨hi, by simp, fun j hj => ?_⟩
  have := List.pairwise_iff_getElem.1 hr j i (by unfold gN at hi; omega) hi hj
  simp
  omega
theorem has_at {s : SpecV} {T : List Ent} {i : Nat} (hi : i < gN s T) : hasV2 s T ((gids s T).getD i 0) = true := (gids_has s T _).1 (by rw [getD_of hi]; exact List.getElem_mem hi)
theorem gHas_at {s : SpecV} {T : List Ent} {a i : Nat} (ha : a < gN s T) (hi : i < gN s T) : gHas s T ((gids s T).getD a 0) ((gids s T).getD i 0) = relB s T a i := by
  unfold gHas relB
  rw [has_at ha, has_at hi, Bool.true_and, Bool.true_and]
theorem gAl_at {s : SpecV} {T : List Ent} {i : Nat} (hi : i < gN s T) : gAl s T ((gids s T).getD i 0) = alB s T i := by
  unfold gAl alB
  rw [has_at hi, Bool.true_and]
theorem gId_at (w : World) (g : Nat) (s : SpecV) (T : List Ent) (h : GrIs w g s T) (i : Nat) (hi : i < gN s T) :
    Calls Tryz.prog 25 #[.pointer (some ⟨g, 0, none⟩), .int .i64 (i : Int)] w fun e w' => e = .returned (.tuple #[.int .i64 ((gids s T).getD i 0), .bool true]) ∧ w' = w := by
  refine (gId_spec w g s T h i).mono ?_
  rintro e w1 ⟨rfl, hw⟩
  refine ⟨?_, hw⟩
  rw [if_pos ⟨by omega, by unfold gN at hi; omega⟩]
  rfl
theorem key1_spec (w : World) (cb g : Nat) {ec : TypeId} (s : SpecV) (T : List Ent) (h : GrIs w g s T) (hn : gN s T ≤ 1032) (hr : RiseG s T) (hc : w.heap[cb]? = some (.cells #[.pointer (some ⟨g, 0, none⟩)] ec (0, 0))) (i : Nat) (hi : i < gN s T) :
    Calls Tryz.prog 72 #[.int .i64 (i : Int), .pointer (some ⟨cb, 0, none⟩)] w fun e w' => e = .returned (.string (str (rowK s T i))) ∧ Below w.heap.size w w' := by
  refine calls_ret (vc72_calls i (some ⟨cb, 0, none⟩) w (fun u w' => u = .string (str (rowK s T i)) ∧ Below w.heap.size w w') ?_) (by rintro v w' ⟨rfl, h⟩; exact ⟨rfl, h⟩)
  refine NilC.mk _ rfl ⟨_, cell1 hc, (gId_at w g s T h i hi).mono ?_⟩
  rintro e w1 ⟨rfl, rfl⟩
  refine ⟨_, _, rfl, NilC.mk _ rfl ⟨_, cell1 hc, (gRow_spec w1 g s T h hn _).mono ?_⟩⟩
  rintro e w2 ⟨b2, hrow⟩
  rcases hrow with ⟨hno, _⟩ | ⟨k, l, hk, rfl, ho⟩
  · rw [plc_at hr hi] at hno; cases hno
  rw [plc_at hr hi] at hk
  cases hk
  have hls := LsAt.of_own elU64 ho
  have hln := hls.n
  obtain ⟨L, hL⟩ : ∃ L : List Nat, L = (List.range ((gN s T + 63) / 64)).map (wordAt (gN s T) (relB s T i)) := ⟨_, rfl⟩
  have hw : wordsOf (gids s T).length (relB s T i) = L.map fun x : Nat => (x : Int) := by rw [hL, List.map_map]; rfl
  rw [hw, List.length_map] at hln
  have ht := text_spec w2 l.a l.c L (by rw [← hw]; exact hls.r) (by rw [hL]; simp; omega)
  rw [← hln] at ht
  refine ⟨l.a, l.n, l.c, rfl, ht.mono ?_⟩
  rintro e w3 ⟨rfl, b3⟩
  refine ⟨_, rfl, ?_, below_then b2 b3⟩
  rw [hL]
  rfl
abbrev tFold : TypeId := 115
theorem column_spec (w : World) (f g : Nat) (s : SpecV) (T : List Ent) (h : GrIs w g s T) (hn : gN s T ≤ 1032) (c : Array Value) (hb : w.heap[f]? = some (.cells c tFold (0, 0))) (rfi : Sl) (c0 : c[0]? = some (.pointer (some ⟨g, 0, none⟩))) (c2 : c[2]? = some rfi.v) (hf : w.ownsRow 0 tInt 1 rfi.v rfi.n (((firsts (rowK s T) (gN s T)).map fun i : Nat => (i : Int)).flatMap encInt)) (i : Nat) (hi : i < gN s T) :
    Calls Tryz.prog 74 #[.pointer (some ⟨f, 0, none⟩), .int .i64 (i : Int)] w fun e w' => e = .returned (.string (str (colK s T i))) ∧ Below w.heap.size w w' := by
  refine calls_ret (vc74_calls (some ⟨f, 0, none⟩) i w (fun u w' => u = .string (str (colK s T i)) ∧ Below w.heap.size w w') ?_) (by rintro v w' ⟨rfl, h⟩; exact ⟨rfl, h⟩)
  refine NilC.mk _ rfl ⟨_, by rw [cell_put hb]; exact c0, (gId_at w g s T h i hi).mono ?_⟩
  rintro e w1 ⟨rfl, rfl⟩
  refine ⟨_, _, rfl, ?_⟩
  intro w2 hw2
  have b2 : Below w1.heap.size w1 w2 := by subst hw2; exact below_alloc _ _
  have o2 : w2.ownsRow w1.heap.size tU8 1 (.slice (some (nb w1)) 1 1) 1 (([0] : List UInt8).flatMap encU8) := by subst hw2; exact own_made [.int .u8 0] rfl (by decide) (Nat.le_refl _)
  have hfl : (firsts (rowK s T) (gN s T)).length ≤ 1032 := by
    have : ∀ i, (firsts (rowK s T) i).length ≤ i := by
      intro i
      induction i with
      | zero => exact Nat.le_refl _
      | succ i ih =>
        have h1 := cls_next (k := rowK s T) i
        omega
    have := this (gN s T)
    omega
  intro J hJ
  have rest : ∀ z : World, Below w1.heap.size w1 z → z.ownsRow w1.heap.size tU8 1 (.slice (some (nb w1)) 1 1) 1 (([if alB s T i then 1 else 0] : List UInt8).flatMap encU8) → J [] z := by
    intro z hz oz
    have hbz := held_on hz hb
    refine hJ _ (NilC.mk _ rfl ⟨rfi.a, rfi.n, rfi.c, by rw [add_lit, add_lit, cell_heap hbz]; exact c2, ?_⟩)
    intro I hI
    have hfz := own_on hf hz
    have hfn := (LsAt.of_own elInt hfz).n
    rw [List.length_map] at hfn
    have key := climb2 (α := Sl × World) (firsts (rowK s T) (gN s T)).length (fun j y => y.2.ownsRow w1.heap.size tU8 1 y.1.v y.1.n ((((if alB s T i then 1 else 0) :: ((firsts (rowK s T) (gN s T)).take j).map fun a => if relB s T a i then 1 else 0 : List UInt8)).flatMap encU8) ∧ y.1.n = j + 1 ∧ Below w1.heap.size w1 y.2) (fun j y => I [.int .i64 (j : Int), y.1.v] y.2) (⟨some (nb w1), 1, 1⟩, z) ⟨oz, rfl, hz⟩ ?_ ?_
    · exact key
    · rintro j hj ih ⟨b, q⟩ ⟨hown, hbn, hB⟩
      change q.ownsRow w1.heap.size tU8 1 b.v b.n _ at hown
      change b.n = j + 1 at hbn
      change Below w1.heap.size w1 q at hB
      refine hI _ b.a b.n b.c q (CondP.yes (decide_eq_true (by omega)) ?_)
      intro J4 hJ4
      have hfq := LsAt.of_own elInt (own_on hf hB)
      have hbq := held_on hB hb
      have hGq := h.on hB
      obtain ⟨p, hp, cc⟩ := cell_rw hfq.r (show j < ((firsts (rowK s T) (gN s T)).map fun i : Nat => (i : Int)).length by simpa using hj) (v := .int .i64 (((firsts (rowK s T) (gN s T))[j] : Nat) : Int)) (by simp [encInt])
      have ha := firsts_lt (List.getElem_mem hj)
      refine NilC.mk p hp ⟨by omega, by omega, _, cc, NilC.mk _ rfl ⟨_, by rw [cell_put hbq]; exact c0, (gId_at q g s T hGq _ ha).mono ?_⟩⟩
      rintro e q1 ⟨rfl, rfl⟩
      refine ⟨_, _, rfl, NilC.mk _ rfl ⟨_, by rw [cell_put hbq]; exact c0, (gHas_spec q1 g s T hGq hn _ _).mono ?_⟩⟩
      rintro e q2 ⟨rfl, rfl⟩
      rw [gHas_at ha hi]
      have fin : ∀ (x : UInt8) (q3 : World), x = (if relB s T (firsts (rowK s T) (gN s T))[j] i then 1 else 0) → q3 = q2.alloc (.cells #[.int .u8 ((x.toNat : Nat) : Int)] tU8) → ∃ lA : Option Addr, ∃ lN : Nat, ∃ lC : Nat, ∃ w9 : World, (Builtin.append_ #[tBytes, tBytes] tBytes #[Value.slice b.a b.n b.c, Value.slice (some (nb q2)) 1 1]).run Tryz.prog q3 = .ok (Value.slice lA lN lC) w9 ∧ J4 [Value.slice lA lN lC] w9 := by
        intro x q3 hx hq3
        obtain ⟨b', w9, e1, e2, e3, e4, _⟩ := elU8.push hown x hq3 rfl hB.size (by omega) (by decide)
        refine ⟨b'.a, b'.n, b'.c, w9, e2, hJ4 _ _ _ _ (Ar.nat (j + 1) rfl (by omega) (ih (b', w9) ⟨?_, by show b'.n = j + 1 + 1; omega, e4 _ hB⟩))⟩
        rw [List.take_add_one, List.getElem?_eq_getElem hj, List.map_append]
        show w9.ownsRow w1.heap.size tU8 1 b'.v b'.n ((((if alB s T i then 1 else 0) :: ((firsts (rowK s T) (gN s T)).take j).map fun a => if relB s T a i then 1 else 0 : List UInt8) ++ [if relB s T (firsts (rowK s T) (gN s T))[j] i then 1 else 0]).flatMap encU8)
        rw [← hx]
        exact e3
      refine ⟨_, rfl, CondP.mk (fun ht => ?_) fun ht => ?_⟩
      · intro w8 hw8
        exact fin 1 w8 (by rw [ht]; rfl) hw8
      · intro w8 hw8
        exact fin 0 w8 (by rw [ht]; rfl) hw8
    · rintro ⟨b, q⟩ ⟨hown, hbn, hB⟩
      change q.ownsRow w1.heap.size tU8 1 b.v b.n _ at hown
      change Below w1.heap.size w1 q at hB
      rw [List.take_length] at hown
      exact hI _ b.a b.n b.c q (CondP.no (decide_eq_false (by omega)) ⟨_, q, run_str_own (P := Tryz.prog) undBytes undU8 undStr (by rw [← u8_cells]; exact hown), rfl, hB⟩)
  have hb2 := held_on b2 hb
  refine NilC.mk _ rfl ⟨_, by rw [cell_put hb2]; exact c0, (gAlone_spec w2 g s T (h.on b2) hn _).mono ?_⟩
  rintro e w13 ⟨rfl, rfl⟩
  rw [gAl_at hi]
  refine ⟨_, rfl, CondP.mk (fun ha => ⟨by decide, by decide, ?_⟩) fun ha => rest _ b2 (by rw [ha]; exact o2)⟩
  refine store_one (own_set (enc := encU8) (l := ⟨some (nb w1), 1, 1⟩) (fun _ => rfl) (by decide) (fun y u hu => by rw [List.mem_singleton.1 hu]; rfl) o2 rfl rfl 0 (by decide) (1 : UInt8) ?_)
  intro z oz _ _ hB
  exact rest z (hB _ _ (Nat.le_refl _) b2) (by rw [ha]; exact oz)
end Go.Proofs.YtboemnagahmlkaaGreat.Eng

/- The fold of a grid, walked by the engine. -/
set_option linter.unusedVariables false
set_option linter.unusedSimpArgs false
set_option maxRecDepth 100000
namespace Go.Proofs.YtboemnagahmlkaaGreat.Eng
open Go Go.RowKit
abbrev tBools : TypeId := 72
abbrev tBoolss : TypeId := 71
theorem undBls : Tryz.prog.underlying tBools = some (.slice tBool) := by kernel_rfl
theorem undBlss : Tryz.prog.underlying tBoolss = some (.slice tBools) := by kernel_rfl
theorem infoBl : (Tryz.prog.info? tBool).map (fun i => (i.zero, i.size, i.bytes)) = some (some (.bool false), 1, 1) := by kernel_rfl
theorem infoBls : (Tryz.prog.info? tBools).map (fun i => (i.zero, i.size, i.bytes)) = some (some (.slice none 0 0), 1, 24) := by kernel_rfl
theorem elBl : ElT encB1 1 tBools tBool 1 := ⟨fun _ => rfl, by decide, fun x u hu => by rw [List.mem_singleton.1 hu]; rfl, undBls, _, infoBl, rfl⟩
theorem elBls : ElT encS 1 tBoolss tBools 24 := ⟨fun _ => rfl, by decide, fun x u hu => by rw [List.mem_singleton.1 hu]; rfl, undBlss, _, infoBls, rfl⟩
def rowF (s : SpecV) (T : List Ent) : List Nat := firsts (rowK s T) (gN s T)
def colF (s : SpecV) (T : List Ent) : List Nat := firsts (colK s T) (gN s T)
def cints (l : List Nat) : List Value := (l.map fun i : Nat => (i : Int)).flatMap encInt
def clss (k : Nat → Bs) (n : Nat) : List Value := ((List.range n).map fun i => ((clsOf k i : Nat) : Int)).flatMap encInt
/-- The bits of one class of rows. -/
def bitsRow (s : SpecV) (T : List Ent) (a : Nat) : List Bool := (colF s T).map fun i => relB s T a i
structure FoldR (w : World) (B f g : Nat) (s : SpecV) (T : List Ent) (rof rfi cof cfi bits alone : Sl) (bl : List Sl) (m j : Nat) : Prop where
  blk : w.heap[f]? = some (.cells #[.pointer (some ⟨g, 0, none⟩), rof.v, rfi.v, cof.v, cfi.v, bits.v, alone.v] tFold (0, 0))
  grid : GrIs w g s T
  orof : w.ownsRow B tInt 1 rof.v rof.n (clss (rowK s T) (gN s T))
  orfi : w.ownsRow B tInt 1 rfi.v rfi.n (cints (rowF s T))
  ocof : w.ownsRow B tInt 1 cof.v cof.n (clss (colK s T) (gN s T))
  ocfi : w.ownsRow B tInt 1 cfi.v cfi.n (cints (colF s T))
  obits : w.ownsRow B tBools 1 bits.v bits.n (bl.flatMap encS)
  blen : bl.length = m
  each : ∀ (c : Nat) (r : Sl) (h : c < (rowF s T).length), bl[c]? = some r → w.ownsRow B tBool 1 r.v r.n ((bitsRow s T (rowF s T)[c]).flatMap encB1)
  oal : w.ownsRow B tBool 1 alone.v alone.n ((((colF s T).take j).map fun i => alB s T i).flatMap encB1)
def FoldIs (w : World) (f g : Nat) (s : SpecV) (T : List Ent) : Prop := ∃ rof rfi cof cfi bits alone bl, FoldR w 0 f g s T rof rfi cof cfi bits alone bl (rowF s T).length (colF s T).length
theorem FoldR.on {w w' : World} {B f g : Nat} {s : SpecV} {T : List Ent} {rof rfi cof cfi bits alone : Sl} {bl : List Sl} {m j : Nat} (h : FoldR w B f g s T rof rfi cof cfi bits alone bl m j) (hb : Below w.heap.size w w') : FoldR w' B f g s T rof rfi cof cfi bits alone bl m j :=
  ⟨held_on hb h.blk, h.grid.on hb, own_on h.orof hb, own_on h.orfi hb, own_on h.ocof hb, own_on h.ocfi hb, own_on h.obits hb, h.blen, fun c r hc hr => own_on (h.each c r hc hr) hb, own_on h.oal hb⟩
theorem FoldIs.on {w w' : World} {f g : Nat} {s : SpecV} {T : List Ent} (h : FoldIs w f g s T) (hb : Below w.heap.size w w') : FoldIs w' f g s T := by
  obtain ⟨rof, rfi, cof, cfi, bits, alone, bl, h⟩ := h
  exact ⟨rof, rfi, cof, cfi, bits, alone, bl, h.on hb⟩
theorem firsts_few (k : Nat → Bs) : ∀ i, (firsts k i).length ≤ i
  | 0 => Nat.le_refl _
  | i + 1 => by
    have h1 := cls_next (k := k) i
    have h2 := firsts_few k i
    omega
theorem cints_cell {w : World} {B : Nat} {l : Sl} {xs : List Nat} (h : w.ownsRow B tInt 1 l.v l.n (cints xs)) {i : Nat} (hi : i < xs.length) : l.n = xs.length ∧ ∃ p, l.a = some p ∧ w.cell? (p.add (i * 1)) = some (.int .i64 ((xs[i] : Nat) : Int)) := by
  have hls := LsAt.of_own elInt (B := B) (xs := xs.map fun i : Nat => (i : Int)) h
  obtain ⟨p, hp, c⟩ := cell_rw hls.r (show i < (xs.map fun i : Nat => (i : Int)).length by simpa using hi) (v := .int .i64 ((xs[i] : Nat) : Int)) (by simp [encInt])
  exact ⟨by simpa using hls.n, p, hp, c⟩
theorem cints_n {w : World} {B : Nat} {l : Sl} {xs : List Nat} (h : w.ownsRow B tInt 1 l.v l.n (cints xs)) : l.n = xs.length := by
  have hls := LsAt.of_own elInt (B := B) (xs := xs.map fun i : Nat => (i : Int)) h
  simpa using hls.n
set_option maxHeartbeats 4000000 in
theorem foldNew_spec (w : World) (g : Nat) (s : SpecV) (T : List Ent) (h : GrIs w g s T) (hn : gN s T ≤ 1032) (hr : RiseG s T) (hg : g < w.heap.size) :
    Calls Tryz.prog 37 #[.pointer (some ⟨g, 0, none⟩)] w fun e w' => ∃ f, e = .returned (.pointer (some ⟨f, 0, none⟩)) ∧ FoldIs w' f g s T ∧ Below w.heap.size w w' := by
  refine calls_ret (vc37_calls (some ⟨g, 0, none⟩) w (fun u w' => ∃ f, u = .pointer (some ⟨f, 0, none⟩) ∧ FoldIs w' f g s T ∧ Below w.heap.size w w') ?_) (by rintro v w' ⟨f, rfl, h⟩; exact ⟨f, rfl, h⟩)
  intro w1 hw1
  have b1 : Below w.heap.size w w1 := by subst hw1; exact below_alloc _ _
  have l1 : w1.heap[w.heap.size]? = some (.cells #[.pointer (some ⟨g, 0, none⟩)] 48 (0, 0)) := by subst hw1; exact alloc_new _ _
  have s1 : w.heap.size < w1.heap.size := (Array.getElem?_eq_some_iff.1 l1).1
  refine ⟨_, cell1 l1, CondP.no rfl ⟨_, cell1 l1, ?_⟩⟩
  intro w2 hw2
  have b2 : Below w1.heap.size w1 w2 := by subst hw2; exact below_alloc _ _
  have f2 : w2.heap[w1.heap.size]? = some (.cells #[.pointer (some ⟨g, 0, none⟩), sl0.v, sl0.v, sl0.v, sl0.v, sl0.v, sl0.v] tFold (0, 0)) := by subst hw2; exact alloc_new _ _
  have l2 := held_on b2 l1
  have s2 : w1.heap.size < w2.heap.size := (Array.getElem?_eq_some_iff.1 f2).1
  have hb2 := below_then b1 b2
  have h2 := h.on hb2
  refine ⟨_, cell1 l2, (gSize_spec w2 g s T h2).mono ?_⟩
  rintro e w3 ⟨rfl, rfl⟩
  refine ⟨_, rfl, (group_spec w3 (gN s T) _ (rowK s T) (by omega) fun i hi q hq => callG_of (by kernel_rfl) (key1_spec q w.heap.size g s T (h2.on hq) hn hr (held_on hq l2) i hi)).mono ?_⟩
  rintro e w4 ⟨rof, rfi, rfl, orof, orfi, b4⟩
  have f4 := held_on b4 f2
  have l4 := held_on b4 l2
  have hb4 := below_then hb2 b4
  refine ⟨_, _, _, _, _, _, rfl, ?_⟩
  rw [add_lit]
  refine storeP_block [rof.v, rfi.v] 0 w4 _ (0 + 1) f4 (by simp) (by intro v hv; simp only [List.mem_cons, List.not_mem_nil, or_false] at hv; rcases hv with rfl | rfl <;> rfl) ?_
  intro w5 f5 hs5 hz5 hB5
  have f5 : w5.heap[w1.heap.size]? = some (.cells #[.pointer (some ⟨g, 0, none⟩), rof.v, rfi.v, sl0.v, sl0.v, sl0.v, sl0.v] tFold (0, 0)) := f5
  have l5 := (hs5 _ (by omega)).trans l4
  have hb5 : Below w.heap.size w w5 := hB5 _ _ (by omega) hb4
  have h5 := h.on hb5
  have orof5 := own_same orof fun k hk => hs5 k (by have := (own_lt orof k hk).1; omega)
  have orfi5 := own_same orfi fun k hk => hs5 k (by have := (own_lt orfi k hk).1; omega)
  refine ⟨_, cell1 l5, (gSize_spec w5 g s T h5).mono ?_⟩
  rintro e w6 ⟨rfl, rfl⟩
  have key2 : ∀ i, i < gN s T → ∀ q, Below w6.heap.size w6 q → CallG ctx (.func (.func 74) #[.pointer (some (nb w1))] #[]) [.int .i64 (i : Int)] q (fun e q2 => e = .returned (.string (str (colK s T i))) ∧ Below q.heap.size q q2) := by
    intro i hi q hq
    have := column_spec q w1.heap.size g s T (h5.on hq) hn _ (held_on hq f5) rfi rfl rfl (own_base (own_on orfi5 hq) (Nat.zero_le _)) i hi
    unfold CallG
    have hc : ctx.fns 74 = true := by kernel_rfl
    simp only [hc]
    exact this
  refine ⟨_, rfl, (group_spec w6 (gN s T) _ (colK s T) (by omega) key2).mono ?_⟩
  rintro e w7 ⟨cof, cfi, rfl, ocof, ocfi, b7⟩
  have f7 := held_on b7 f5
  have l7 := held_on b7 l5
  have hb7 := below_then hb5 b7
  refine ⟨_, _, _, _, _, _, rfl, ?_⟩
  rw [add_lit]
  refine storeP_block [cof.v, cfi.v] 0 w7 _ (0 + 3) f7 (by simp) (by intro v hv; simp only [List.mem_cons, List.not_mem_nil, or_false] at hv; rcases hv with rfl | rfl <;> rfl) ?_
  intro w8 f8 hs8 hz8 hB8
  have f8 : w8.heap[w1.heap.size]? = some (.cells #[.pointer (some ⟨g, 0, none⟩), rof.v, rfi.v, cof.v, cfi.v, sl0.v, sl0.v] tFold (0, 0)) := f8
  have l8 := (hs8 _ (by omega)).trans l7
  have hb8 : Below w.heap.size w w8 := hB8 _ _ (by omega) hb7
  have z6 : w1.heap.size < w6.heap.size := by rw [hz5]; exact Nat.lt_of_lt_of_le s2 b4.size
  have orof8 := own_same (own_on orof5 b7) fun k hk => hs8 k (by have := (own_lt orof k hk).1; omega)
  have orfi8 := own_same (own_on orfi5 b7) fun k hk => hs8 k (by have := (own_lt orfi k hk).1; omega)
  have ocof8 := own_same ocof fun k hk => hs8 k (by have := (own_lt ocof k hk).1; omega)
  have ocfi8 := own_same ocfi fun k hk => hs8 k (by have := (own_lt ocfi k hk).1; omega)
  have s3 : w.heap.size ≤ w3.heap.size := hb2.size
  have s6 : w.heap.size ≤ w6.heap.size := hb5.size
  have R8 : FoldR w8 w.heap.size w1.heap.size g s T rof rfi cof cfi sl0 sl0 [] 0 0 :=
    ⟨f8, h.on hb8, own_base orof8 s3, own_base orfi8 s3, own_base ocof8 s6, own_base ocfi8 s6, own_none _ _ _ _ encS, rfl, (by intro c r _ h; cases h), own_none _ _ _ _ encB1⟩
  have hrf : (rowF s T).length ≤ 1032 := Nat.le_trans (firsts_few _ _) hn
  have hcf : (colF s T).length ≤ 1032 := Nat.le_trans (firsts_few _ _) hn
  refine ⟨rfi.a, rfi.n, rfi.c, (by first | (rw [cell_heap f8]; rfl) | (rw [add_lit, cell_heap f8]; rfl) | (rw [add_lit, add_lit, cell_heap f8]; rfl)), ?_⟩
  have hrn := cints_n R8.orfi
  have hcn := cints_n R8.ocfi
  intro I hI
  let Inv (i : Nat) (q : World) : Prop := ∃ bits bl, FoldR q w.heap.size w1.heap.size g s T rof rfi cof cfi bits sl0 bl i 0 ∧ q.heap[w.heap.size]? = some (.cells #[.pointer (some ⟨g, 0, none⟩)] 48 (0, 0)) ∧ Below w.heap.size w q
  have key := climb2 (α := World) (rowF s T).length Inv (fun i q => I [.int .i64 (i : Int)] q) w8 ⟨sl0, [], R8, l8, hb8⟩ ?_ ?_
  · exact key
  · rintro i hi ih q ⟨bits, bl, R, lq, hB⟩
    obtain ⟨_, p, hp, cc⟩ := cints_cell R.orfi hi
    have hai := firsts_lt (List.getElem_mem hi)
    refine hI _ _ (CondP.yes (decide_eq_true (by omega)) (NilC.mk p hp ⟨by omega, by omega, _, cc, _, cell1 lq, (gId_at q g s T R.grid _ hai).mono ?_⟩))
    rintro e q1 ⟨rfl, rfl⟩
    refine ⟨_, _, rfl, cfi.a, cfi.n, cfi.c, (by first | (rw [cell_heap R.blk]; rfl) | (rw [add_lit, cell_heap R.blk]; rfl) | (rw [add_lit, add_lit, cell_heap R.blk]; rfl)), ?_⟩
    intro I2 hI2
    have key2 := climb2 (α := Sl × World) (colF s T).length (fun j y => y.2.ownsRow q1.heap.size tBool 1 y.1.v y.1.n ((((colF s T).take j).map fun c => relB s T (rowF s T)[i] c).flatMap encB1) ∧ y.1.n = j ∧ Below q1.heap.size q1 y.2) (fun j y => I2 [.int .i64 (j : Int), y.1.v] y.2) (sl0, q1) ⟨own_none _ _ _ _ encB1, rfl, Below.refl _ _⟩ ?_ ?_
    · exact key2
    · rintro j hj ih2 ⟨b, z⟩ ⟨hown, hbn, hBz⟩
      change z.ownsRow q1.heap.size tBool 1 b.v b.n _ at hown
      change b.n = j at hbn
      change Below q1.heap.size q1 z at hBz
      have Rz := R.on hBz
      have lz := held_on hBz lq
      obtain ⟨_, p2, hp2, cc2⟩ := cints_cell Rz.ocfi hj
      have haj := firsts_lt (List.getElem_mem hj)
      refine hI2 _ b.a b.n b.c z (CondP.yes (decide_eq_true (by omega)) (NilC.mk p2 hp2 ⟨by omega, by omega, _, cc2, _, cell1 lz, (gId_at z g s T Rz.grid _ haj).mono ?_⟩))
      rintro e z1 ⟨rfl, rfl⟩
      refine ⟨_, _, rfl, _, cell1 lz, (gHas_spec z1 g s T Rz.grid hn _ _).mono ?_⟩
      rintro e z2 ⟨rfl, rfl⟩
      rw [gHas_at hai haj]
      refine ⟨_, rfl, ?_⟩
      intro z3 hz3
      obtain ⟨b', z4, e1, e2, e3, e4, _⟩ := elBl.push hown (relB s T (rowF s T)[i] (colF s T)[j]) hz3 rfl hBz.size (by omega) (by decide)
      refine ⟨b'.a, b'.n, b'.c, z4, e2, Ar.nat (j + 1) rfl (by omega) (ih2 (b', z4) ⟨?_, by show b'.n = j + 1; omega, e4 _ hBz⟩)⟩
      rw [List.take_add_one, List.getElem?_eq_getElem hj, List.map_append]
      exact e3
    · rintro ⟨b, z⟩ ⟨hown, hbn, hBz⟩
      change z.ownsRow q1.heap.size tBool 1 b.v b.n _ at hown
      change Below q1.heap.size q1 z at hBz
      rw [List.take_length] at hown
      have Rz := R.on hBz
      have lz := held_on hBz lq
      have hBw : Below w.heap.size w z := hB.trans (hBz.mono hB.size)
      refine hI2 _ b.a b.n b.c z (CondP.no (decide_eq_false (by omega)) ⟨bits.a, bits.n, bits.c, by rw [cell_put Rz.blk]; rfl, ?_⟩)
      intro z1 hz1
      have hbn2 := (LsAt.of_own elBls Rz.obits).n
      have hbl := Rz.blen
      obtain ⟨bits', z2, e1, e2, e3, e4, e5⟩ := elBls.push Rz.obits b hz1 rfl hBw.size (by omega) (by decide)
      have kp : ∀ {k : Nat} {o : Obj}, z.heap[k]? = some o → bits.v.ownBlock ≠ some k → z2.heap[k]? = some o := fun {k o} h hne => (e5 k (Array.getElem?_eq_some_iff.1 h).1 hne).trans h
      have y1 := kp Rz.blk (row_ne_blk Rz.obits Rz.blk (by decide))
      have yl := kp lz (row_ne_blk Rz.obits lz (by decide))
      refine ⟨bits'.a, bits'.n, bits'.c, z2, e2, rfl, ⟨_, by rw [cell_put y1]; rfl⟩, frozen_put y1, ?_⟩
      intro z3 hz3
      have hs : ∀ j, j ≠ w1.heap.size → z3.heap[j]? = z2.heap[j]? := by
        intro j hj
        subst hz3
        exact heap_setCell_ne (by rw [add_block]; exact hj)
      have hBw3 : Below w.heap.size w z3 := by subst hz3; exact below_put (e4 _ hBw) (by omega) _
      have same : ∀ {B sz n : Nat} {e : TypeId} {u : Value} {xs : List Value}, z.ownsRow B e sz u n xs → e ≠ tBools → e ≠ tFold → z3.ownsRow B e sz u n xs := by
        intro B sz n e u xs h h1 h2
        refine own_same h fun k hk => ?_
        rw [hs k fun e => row_ne_blk h Rz.blk h2 (by rw [hk, e])]
        exact e5 k (own_lt h k hk).2 (row_ne_row h Rz.obits h1 k hk)
      refine Ar.nat (i + 1) rfl (by omega) (ih z3 ⟨bits', bl ++ [b], ⟨by subst hz3; exact heap_put y1 _, h.on hBw3, same Rz.orof (by decide) (by decide), same Rz.orfi (by decide) (by decide), same Rz.ocof (by decide) (by decide), same Rz.ocfi (by decide) (by decide), own_same e3 fun k hk => hs k fun e => row_ne_blk e3 y1 (by decide) (by rw [hk, e]), by simp; omega, ?_, own_none _ _ _ _ encB1⟩, (hs _ (by omega)).trans yl, hBw3⟩)
      intro c r hc hj
      by_cases hcl : c < bl.length
      · rw [List.getElem?_append_left hcl] at hj
        exact same (Rz.each c r hc hj) (by decide) (by decide)
      · have hci : c = i := by
          have := (List.getElem?_eq_some_iff.1 hj).1
          simp at this
          omega
        subst hci
        rw [List.getElem?_append_right (by omega), hbl, Nat.sub_self] at hj
        cases hj
        exact same (own_base hown hB.size) (by decide) (by decide)
  · rintro q ⟨bits, bl, R, lq, hB⟩
    refine hI _ _ (CondP.no (decide_eq_false (by omega)) ⟨cfi.a, cfi.n, cfi.c, (by first | (rw [cell_heap R.blk]; rfl) | (rw [add_lit, cell_heap R.blk]; rfl) | (rw [add_lit, add_lit, cell_heap R.blk]; rfl)), ?_⟩)
    intro I2 hI2
    let blkA (al : Sl) : Obj := .cells #[.pointer (some ⟨g, 0, none⟩), rof.v, rfi.v, cof.v, cfi.v, bits.v, al.v] tFold (0, 0)
    let Inv2 (j : Nat) (z : World) : Prop := ∃ al : Sl, z.heap[w1.heap.size]? = some (blkA al) ∧ (∀ k, k < q.heap.size → k ≠ w1.heap.size → z.heap[k]? = q.heap[k]?) ∧ q.heap.size ≤ z.heap.size ∧ z.ownsRow q.heap.size tBool 1 al.v al.n ((((colF s T).take j).map fun i => alB s T i).flatMap encB1) ∧ Below w.heap.size w z
    have lts : w1.heap.size < q.heap.size := (Array.getElem?_eq_some_iff.1 R.blk).1
    have ltw : w.heap.size < q.heap.size := (Array.getElem?_eq_some_iff.1 lq).1
    have mk : ∀ {j : Nat} {z : World} {al : Sl}, z.heap[w1.heap.size]? = some (blkA al) → (∀ k, k < q.heap.size → k ≠ w1.heap.size → z.heap[k]? = q.heap[k]?) → z.ownsRow q.heap.size tBool 1 al.v al.n ((((colF s T).take j).map fun i => alB s T i).flatMap encB1) → Below w.heap.size w z → FoldR z w.heap.size w1.heap.size g s T rof rfi cof cfi bits al bl (rowF s T).length j := by
      intro j z al hblk hk hal hBz
      have same : ∀ {B sz n : Nat} {e : TypeId} {u : Value} {xs : List Value}, q.ownsRow B e sz u n xs → e ≠ tFold → z.ownsRow B e sz u n xs := fun h h2 => own_same h fun k hkk => hk k (own_lt h k hkk).2 fun e => row_ne_blk h R.blk h2 (by rw [hkk, e])
      exact ⟨hblk, h.on hBz, same R.orof (by decide), same R.orfi (by decide), same R.ocof (by decide), same R.ocfi (by decide), same R.obits (by decide), R.blen, fun c r hc hr => same (R.each c r hc hr) (by decide), own_base hal (Nat.le_of_lt ltw)⟩
    have key2 := climb2 (α := World) (colF s T).length Inv2 (fun j q => I2 [.int .i64 (j : Int)] q) q ⟨sl0, R.blk, fun _ _ _ => rfl, Nat.le_refl _, own_none _ _ _ _ encB1, hB⟩ ?_ ?_
    · exact key2
    · rintro j hj ih z ⟨al, hblk, hkeep, hzz, hal, hBz⟩
      have Rz := mk hblk hkeep hal hBz
      have lz := (hkeep _ ltw (by omega)).trans lq
      obtain ⟨_, p2, hp2, cc2⟩ := cints_cell Rz.ocfi hj
      have haj := firsts_lt (List.getElem_mem hj)
      refine hI2 _ _ (CondP.yes (decide_eq_true (by omega)) (NilC.mk p2 hp2 ⟨by omega, by omega, _, cc2, _, cell1 lz, (gId_at z g s T Rz.grid _ haj).mono ?_⟩))
      rintro e z1 ⟨rfl, rfl⟩
      refine ⟨_, _, rfl, ?_⟩
      intro z2 hz2
      have bd : Below z1.heap.size z1 z2 := by subst hz2; exact drew_on z1
      have R2 := Rz.on bd
      have l2' := held_on bd lz
      have hB2 := below_then hBz bd
      have hal2 := own_on hal bd
      refine ⟨al.a, al.n, al.c, by rw [cell_put R2.blk]; rfl, _, cell1 l2', (gAlone_spec z2 g s T R2.grid hn _).mono ?_⟩
      rintro e z3 ⟨rfl, rfl⟩
      rw [gAl_at haj]
      refine ⟨_, rfl, ⟨by rw [cell_put R2.blk]; rfl, trivial⟩, ?_⟩
      intro z4 hz4
      have b4' : Below z3.heap.size z3 z4 := by subst hz4; exact below_alloc _ _
      have haln := (LsAt.of_own elBl hal2).n
      rw [List.length_map, List.length_take] at haln
      have hzz2 : q.heap.size ≤ z3.heap.size := Nat.le_trans hzz bd.size
      obtain ⟨al', z5, e1, e2, e3, e4, e5⟩ := elBl.push hal2 (alB s T (colF s T)[j]) hz4 rfl hzz2 (by omega) (by decide)
      have y1 : z5.heap[w1.heap.size]? = some (blkA al) := (e5 _ (by omega) (row_ne_blk hal2 R2.blk (by decide))).trans R2.blk
      have b5 : Below q.heap.size z3 z5 := e4 _ (Below.refl _ _)
      refine ⟨⟨by rw [cell_put (held_on b4' R2.blk)]; rfl, trivial⟩, al'.a, al'.n, al'.c, z5, e2, rfl, ⟨_, by rw [cell_put y1]; rfl⟩, frozen_put y1, ?_⟩
      intro z6 hz6
      have hs : ∀ j, j ≠ w1.heap.size → z6.heap[j]? = z5.heap[j]? := by
        intro j hj
        subst hz6
        exact heap_setCell_ne (by rw [add_block]; exact hj)
      have hB6 : Below w.heap.size w z6 := by subst hz6; exact below_put (hB2.trans (b5.mono (Nat.le_of_lt ltw))) (by omega) _
      refine Ar.nat (j + 1) rfl (by omega) (ih z6 ⟨al', by subst hz6; exact heap_put y1 _, fun k hk hne => ?_, ?_, ?_, hB6⟩)
      · rw [hs k hne, b5.block k hk, bd.block k (by omega)]
        exact hkeep k hk hne
      · subst hz6
        rw [size_setCell]
        exact Nat.le_trans hzz2 b5.size
      · rw [List.take_add_one, List.getElem?_eq_getElem hj, List.map_append]
        exact own_same e3 fun k hk => hs k fun e => row_ne_blk e3 y1 (by decide) (by rw [hk, e])
    · rintro z ⟨al, hblk, hkeep, hzz, hal, hBz⟩
      have Rz := mk hblk hkeep hal hBz
      refine hI2 _ _ (CondP.no (decide_eq_false (by omega)) ⟨w1.heap.size, rfl, ⟨rof, rfi, cof, cfi, bits, al, bl, ?_⟩, hBz⟩)
      exact ⟨Rz.blk, Rz.grid, own_base Rz.orof (Nat.zero_le _), own_base Rz.orfi (Nat.zero_le _), own_base Rz.ocof (Nat.zero_le _), own_base Rz.ocfi (Nat.zero_le _), own_base Rz.obits (Nat.zero_le _), Rz.blen, fun c r hc hr => own_base (Rz.each c r hc hr) (Nat.zero_le _), own_base Rz.oal (Nat.zero_le _)⟩
end Go.Proofs.YtboemnagahmlkaaGreat.Eng

/- The fold's answers, walked by the engine. -/
set_option linter.unusedVariables false
set_option linter.unusedSimpArgs false
set_option maxRecDepth 100000
namespace Go.Proofs.YtboemnagahmlkaaGreat.Eng
open Go Go.RowKit
theorem col_eq {s : SpecV} {T : List Ent} {i j : Nat} : colK s T i = colK s T j ↔ alB s T i = alB s T j ∧ ∀ a ∈ firsts (rowK s T) (gN s T), relB s T a i = relB s T a j := by
  have bit : ∀ b c : Bool, ((if b then 1 else 0 : UInt8) = (if c then 1 else 0)) ↔ b = c := by decide
  unfold colK
  rw [List.cons.injEq, bit]
  refine and_congr Iff.rfl ⟨fun h a ha => ?_, fun h => List.map_congr_left fun a ha => by rw [h a ha]⟩
  have := List.map_inj_left.1 h a ha
  exact (bit _ _).1 this
theorem row_eq {s : SpecV} {T : List Ent} {i j : Nat} : rowK s T i = rowK s T j ↔ ∀ m, m < gN s T → relB s T i m = relB s T j m := rowText_iff
theorem rel_cls {s : SpecV} {T : List Ent} {i j : Nat} (hi : i < gN s T) (hj : j < gN s T) : ∃ (h : clsOf (rowK s T) i < (rowF s T).length) (h' : clsOf (colK s T) j < (colF s T).length), relB s T (rowF s T)[clsOf (rowK s T) i] (colF s T)[clsOf (colK s T) j] = relB s T i j := by
  obtain ⟨h1, h2⟩ := cls_in (k := rowK s T) hi
  obtain ⟨h3, h4⟩ := cls_in (k := colK s T) hj
  refine ⟨h1, h3, ?_⟩
  have e1 := (col_eq.1 h4).2 _ (List.getElem_mem h1)
  have e2 := row_eq.1 h2 j hj
  exact e1.trans e2
/-- Columns are alike just where all rows have the same bit of both. -/
theorem col_all {s : SpecV} {T : List Ent} {i j : Nat} (hi : i < gN s T) (hj : j < gN s T) : colK s T i = colK s T j ↔ alB s T i = alB s T j ∧ ∀ a, a < gN s T → relB s T a i = relB s T a j := by
  rw [col_eq]
  refine and_congr Iff.rfl ⟨fun h a ha => ?_, fun h a ha => h a (firsts_lt ha)⟩
  obtain ⟨h1, h2⟩ := cls_in (k := rowK s T) ha
  have e := h _ (List.getElem_mem h1)
  rw [row_eq.1 h2 i hi, row_eq.1 h2 j hj] at e
  exact e
theorem clss_cell {w : World} {B n : Nat} {l : Sl} {k : Nat → Bs} (h : w.ownsRow B tInt 1 l.v l.n (clss k n)) {i : Nat} (hi : i < n) : l.n = n ∧ ∃ p, l.a = some p ∧ w.cell? (p.add (i * 1)) = some (.int .i64 ((clsOf k i : Nat) : Int)) := by
  have hls := LsAt.of_own elInt (B := B) (xs := (List.range n).map fun i => ((clsOf k i : Nat) : Int)) h
  obtain ⟨p, hp, c⟩ := cell_rw hls.r (show i < ((List.range n).map fun i => ((clsOf k i : Nat) : Int)).length by simpa using hi) (v := .int .i64 ((clsOf k i : Nat) : Int)) (by simp [encInt])
  exact ⟨by simpa using hls.n, p, hp, c⟩
def clV (k : Nat → Bs) (o : Option Nat) : Value := match o with
  | some i => .tuple #[.int .i64 ((clsOf k i : Nat) : Int), .bool true]
  | none => .tuple #[.int .i64 0, .bool false]
theorem fPlace_spec (w : World) (f g : Nat) (s : SpecV) (T : List Ent) (h : FoldIs w f g s T) (id : Int) :
    Calls Tryz.prog 68 #[.pointer (some ⟨f, 0, none⟩), .int .i64 id] w fun e w' => e = .returned (.tuple #[.int .i64 (((plc s T id).getD 0 : Nat) : Int), .bool (plc s T id).isSome]) ∧ w' = w := by
  refine calls_ret (vc68_calls (some ⟨f, 0, none⟩) id w (fun u w' => u = .tuple #[.int .i64 (((plc s T id).getD 0 : Nat) : Int), .bool (plc s T id).isSome] ∧ w' = w) ?_) (by rintro v w' ⟨rfl, h⟩; exact ⟨rfl, h⟩)
  obtain ⟨rof, rfi, cof, cfi, bits, alone, bl, R⟩ := h
  refine CondP.no rfl (NilC.mk _ rfl ⟨_, by rw [cell_put R.blk]; rfl, (gPlace_spec w g s T R.grid id).mono ?_⟩)
  rintro e w1 ⟨rfl, rfl⟩
  exact ⟨_, _, rfl, rfl, rfl⟩
theorem fRow_spec (w : World) (f g : Nat) (s : SpecV) (T : List Ent) (h : FoldIs w f g s T) (id : Int) :
    Calls Tryz.prog 26 #[.pointer (some ⟨f, 0, none⟩), .int .i64 id] w fun e w' => e = .returned (clV (rowK s T) (plc s T id)) ∧ w' = w := by
  refine calls_ret (vc26_calls (some ⟨f, 0, none⟩) id w (fun u w' => u = clV (rowK s T) (plc s T id) ∧ w' = w) ?_) (by rintro v w' ⟨rfl, h⟩; exact ⟨rfl, h⟩)
  refine (fPlace_spec w f g s T h id).mono ?_
  rintro e w1 ⟨rfl, rfl⟩
  obtain ⟨rof, rfi, cof, cfi, bits, alone, bl, R⟩ := h
  refine ⟨_, _, rfl, CondP.mk (fun h1 => ⟨?_, rfl⟩) fun h1 => ?_⟩
  · cases hp : plc s T id with
    | none => rfl
    | some i => rw [hp] at h1; cases h1
  · obtain ⟨i, hi⟩ := Option.isSome_iff_exists.1 (by simpa using h1)
    obtain ⟨hi1, _, _⟩ := plc_some hi
    obtain ⟨hn, p, hp, hc⟩ := clss_cell R.orof (i := i) hi1
    rw [hi]
    refine NilC.mk _ rfl ⟨rof.a, rof.n, rof.c, (by rw [add_lit, add_lit, cell_heap R.blk]; rfl), NilC.mk p hp ⟨by omega, by show ((i : Nat) : Int) < _; unfold gN at hn; omega, _, hc, rfl, rfl⟩⟩
theorem fCol_spec (w : World) (f g : Nat) (s : SpecV) (T : List Ent) (h : FoldIs w f g s T) (id : Int) :
    Calls Tryz.prog 27 #[.pointer (some ⟨f, 0, none⟩), .int .i64 id] w fun e w' => e = .returned (clV (colK s T) (plc s T id)) ∧ w' = w := by
  refine calls_ret (vc27_calls (some ⟨f, 0, none⟩) id w (fun u w' => u = clV (colK s T) (plc s T id) ∧ w' = w) ?_) (by rintro v w' ⟨rfl, h⟩; exact ⟨rfl, h⟩)
  refine (fPlace_spec w f g s T h id).mono ?_
  rintro e w1 ⟨rfl, rfl⟩
  obtain ⟨rof, rfi, cof, cfi, bits, alone, bl, R⟩ := h
  refine ⟨_, _, rfl, CondP.mk (fun h1 => ⟨?_, rfl⟩) fun h1 => ?_⟩
  · cases hp : plc s T id with
    | none => rfl
    | some i => rw [hp] at h1; cases h1
  · obtain ⟨i, hi⟩ := Option.isSome_iff_exists.1 (by simpa using h1)
    obtain ⟨hi1, _, _⟩ := plc_some hi
    obtain ⟨hn, p, hp, hc⟩ := clss_cell R.ocof (i := i) hi1
    rw [hi]
    refine NilC.mk _ rfl ⟨cof.a, cof.n, cof.c, (by rw [add_lit, add_lit, cell_heap R.blk]; rfl), NilC.mk p hp ⟨by omega, by show ((i : Nat) : Int) < _; unfold gN at hn; omega, _, hc, rfl, rfl⟩⟩
theorem fRows_spec (w : World) (f g : Nat) (s : SpecV) (T : List Ent) (h : FoldIs w f g s T) :
    Calls Tryz.prog 28 #[.pointer (some ⟨f, 0, none⟩)] w fun e w' => e = .returned (.int .i64 (((rowF s T).length : Nat) : Int)) ∧ w' = w := by
  refine calls_ret (vc28_calls (some ⟨f, 0, none⟩) w (fun u w' => u = .int .i64 (((rowF s T).length : Nat) : Int) ∧ w' = w) ?_) (by rintro v w' ⟨rfl, h⟩; exact ⟨rfl, h⟩)
  obtain ⟨rof, rfi, cof, cfi, bits, alone, bl, R⟩ := h
  refine CondP.no rfl (NilC.mk _ rfl ⟨rfi.a, rfi.n, rfi.c, (by rw [add_lit, add_lit, cell_heap R.blk]; rfl), ?_, rfl⟩)
  rw [cints_n R.orfi]
theorem fCols_spec (w : World) (f g : Nat) (s : SpecV) (T : List Ent) (h : FoldIs w f g s T) :
    Calls Tryz.prog 29 #[.pointer (some ⟨f, 0, none⟩)] w fun e w' => e = .returned (.int .i64 (((colF s T).length : Nat) : Int)) ∧ w' = w := by
  refine calls_ret (vc29_calls (some ⟨f, 0, none⟩) w (fun u w' => u = .int .i64 (((colF s T).length : Nat) : Int) ∧ w' = w) ?_) (by rintro v w' ⟨rfl, h⟩; exact ⟨rfl, h⟩)
  obtain ⟨rof, rfi, cof, cfi, bits, alone, bl, R⟩ := h
  refine CondP.no rfl (NilC.mk _ rfl ⟨cfi.a, cfi.n, cfi.c, (by rw [add_lit, add_lit, cell_heap R.blk]; rfl), ?_, rfl⟩)
  rw [cints_n R.ocfi]
theorem fBits_spec (w : World) (f g : Nat) (s : SpecV) (T : List Ent) (h : FoldIs w f g s T) (hn : gN s T ≤ 1032) :
    Calls Tryz.prog 30 #[.pointer (some ⟨f, 0, none⟩)] w fun e w' => e = .returned (.int .i64 (((rowF s T).length * (colF s T).length : Nat) : Int)) ∧ w' = w := by
  refine calls_ret (vc30_calls (some ⟨f, 0, none⟩) w (fun u w' => u = .int .i64 (((rowF s T).length * (colF s T).length : Nat) : Int) ∧ w' = w) ?_) (by rintro v w' ⟨rfl, h⟩; exact ⟨rfl, h⟩)
  refine (fRows_spec w f g s T h).mono ?_
  rintro e w1 ⟨rfl, rfl⟩
  refine ⟨_, rfl, (fCols_spec w1 f g s T h).mono ?_⟩
  rintro e w2 ⟨rfl, rfl⟩
  have h1 : (rowF s T).length ≤ 1032 := Nat.le_trans (firsts_few _ _) hn
  have h2 : (colF s T).length ≤ 1032 := Nat.le_trans (firsts_few _ _) hn
  have h3 : (rowF s T).length * (colF s T).length ≤ 1032 * 1032 := Nat.mul_le_mul h1 h2
  exact ⟨_, rfl, Ar.nat ((rowF s T).length * (colF s T).length) (by simp) (by omega) ⟨rfl, rfl⟩⟩
theorem fHas_spec (w : World) (f g : Nat) (s : SpecV) (T : List Ent) (h : FoldIs w f g s T) (a b : Int) :
    Calls Tryz.prog 35 #[.pointer (some ⟨f, 0, none⟩), .int .i64 a, .int .i64 b] w fun e w' => e = .returned (.bool (gHas s T a b)) ∧ w' = w := by
  refine calls_ret (vc35_calls (some ⟨f, 0, none⟩) a b w (fun u w' => u = .bool (gHas s T a b) ∧ w' = w) ?_) (by rintro v w' ⟨rfl, h⟩; exact ⟨rfl, h⟩)
  refine (fRow_spec w f g s T h a).mono ?_
  rintro e w1 ⟨rfl, rfl⟩
  cases hp : plc s T a with
  | none =>
    refine ⟨_, _, rfl, (fCol_spec w1 f g s T h b).mono ?_⟩
    rintro e w2 ⟨rfl, rfl⟩
    have e0 : gHas s T a b = false := by unfold gHas; rw [plc_none hp, Bool.false_and, Bool.false_and]
    rw [e0]
    cases plc s T b with
    | none => exact ⟨_, _, rfl, CondP.no rfl ⟨rfl, rfl⟩⟩
    | some j => exact ⟨_, _, rfl, CondP.no rfl ⟨rfl, rfl⟩⟩
  | some i =>
    obtain ⟨hi1, hi2, hi3⟩ := plc_some hp
    refine ⟨_, _, rfl, (fCol_spec w1 f g s T h b).mono ?_⟩
    rintro e w2 ⟨rfl, rfl⟩
    obtain ⟨rof, rfi, cof, cfi, bits, alone, bl, R⟩ := h
    cases hq : plc s T b with
    | none =>
      refine ⟨_, _, rfl, CondP.yes rfl (CondP.no rfl ⟨?_, rfl⟩)⟩
      unfold gHas
      rw [plc_none hq, Bool.and_false, Bool.false_and]
    | some j =>
      obtain ⟨hj1, hj2, hj3⟩ := plc_some hq
      obtain ⟨h1, h2, hrel⟩ := rel_cls (s := s) (T := T) (i := i) (j := j) hi1 hj1
      have hls := LsAt.of_own elBls R.obits
      have hbl := R.blen
      have hbn := hls.n
      have hcl : clsOf (rowK s T) i < bl.length := by omega
      obtain ⟨p, hp2, cc⟩ := cell_rw hls.r hcl (v := bl[clsOf (rowK s T) i].v) rfl
      have hrow := R.each _ _ h1 (List.getElem?_eq_getElem hcl)
      have hls2 := LsAt.of_own elBl hrow
      have hn2 := hls2.n
      unfold bitsRow at hls2 hn2
      rw [List.length_map] at hn2
      obtain ⟨p2, hp3, cc2⟩ := cell_rw hls2.r (show clsOf (colK s T) j < ((colF s T).map fun c => relB s T (rowF s T)[clsOf (rowK s T) i] c).length by simpa using h2) (v := .bool (relB s T i j)) (by simp [encB1, hrel])
      refine ⟨_, _, rfl, CondP.yes rfl (CondP.yes rfl (NilC.mk _ rfl ⟨bits.a, bits.n, bits.c, by rw [cell_put R.blk]; rfl, NilC.mk p hp2 ⟨by omega, by omega, _, _, _, cc, NilC.mk p2 hp3 ⟨by omega, by omega, _, cc2, ?_, rfl⟩⟩⟩))⟩
      rw [← gHas_at hi1 hj1, hi2, hj2]
end Go.Proofs.YtboemnagahmlkaaGreat.Eng
