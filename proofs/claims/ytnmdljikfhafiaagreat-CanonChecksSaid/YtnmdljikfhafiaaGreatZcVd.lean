/- What these functions owe, printed by a program of this repo out of the translation. -/
import Derived.Test.YtnmdljikfhafiaaGreatZcTab
import Derived.Test.YtnmdljikfhafiaaGreatZcSp
set_option linter.unusedVariables false
set_option maxRecDepth 100000
namespace Go.Proofs.YtnmdljikfhafiaaGreat.Eng
open Go Go.Value
def vc13 (a : OA) (b c : Nat) (d : OA) (f g : Nat) (h : OA) (i j : Nat) (k : OA) (l m : Nat) (w : World) (R : RW) : Prop :=
 ∀ n, n = w.alloc (.cells #[slice a b c, slice d f g, slice h i j, slice k l m] 27) →
 ∃ o p q, n.cell? ((nb w).add 0) = some (slice o p q) ∧
 ∃ r s t, n.cell? ((nb w).add 1) = some (slice r s t) ∧
 ∃ u x y, n.cell? ((nb w).add 2) = some (slice u x y) ∧
 ∃ z a1 b1, n.cell? ((nb w).add 3) = some (slice z a1 b1) ∧
 CP 53 #[slice o p q, slice r s t, slice u x y, slice z a1 b1] n (fun c1 d1 =>
 ∃ e1, c1 = .returned (bool e1) ∧
 CondP e1
 (R (int .i64 1) d1)
 (R (int .i64 0) d1))
theorem vc13_calls (a : OA) (b c : Nat) (d : OA) (f g : Nat) (h : OA) (i j : Nat) (k : OA) (l m : Nat) (w : World) (R : RW) (hh : vc13 a b c d f g h i j k l m w R) : CR 13 #[agg #[slice a b c, slice d f g, slice h i j, slice k l m]] w R :=
 cden (fn := Tryz.f13) (by kernel_rfl) (by kernel_rfl) (by kernel_rfl) (by kernel_rfl) (by kernel_rfl) hh
def vc15 (a : OA) (b c : Nat) (d : OA) (f g : Nat) (h : OA) (i j : Nat) (k : OA) (l m : Nat) (w : World) (R : RW) : Prop :=
 ∀ n, n = w.alloc (.cells #[slice a b c, slice d f g, slice h i j, slice k l m] 27) →
 ∀ o, o = n.alloc (.cells #[slice none 0 0, slice none 0 0, slice none 0 0, slice none 0 0, slice none 0 0] 39) →
 ∃ p q r, o.cell? ((nb w).add 0) = some (slice p q r) ∧
 ∃ s t u, o.cell? ((nb w).add 1) = some (slice s t u) ∧
 ∃ x y z, o.cell? ((nb w).add 2) = some (slice x y z) ∧
 ∃ a1 b1 c1, o.cell? ((nb w).add 3) = some (slice a1 b1 c1) ∧
 CP 54 #[slice p q r, slice s t u, slice x y z, slice a1 b1 c1] o (fun d1 e1 =>
 ∃ f1 g1 h1 i1 j1 k1 l1 m1 n1 o1 p1 q1 r1 s1 t1 u1, d1 = .returned (agg #[bool f1, slice g1 h1 i1, slice j1 k1 l1, slice m1 n1 o1, slice p1 q1 r1, slice s1 t1 u1]) ∧
 ∀ v1, v1 = e1.alloc (.cells #[bool false, slice none 0 0, slice none 0 0, slice none 0 0, slice none 0 0, slice none 0 0] 87) →
 StoreP v1 (nb e1) (fun x1 =>
 ∃ y1 z1 a2 b2 c2 d2 e2 f2 g2 h2 i2 j2 k2 l2 m2 n2, (x1.cell? (nb e1) = some (bool y1) ∧ x1.cell? ((nb e1).add 1) = some (slice z1 a2 b2) ∧ x1.cell? ((nb e1).add 2) = some (slice c2 d2 e2) ∧ x1.cell? ((nb e1).add 3) = some (slice f2 g2 h2) ∧ x1.cell? ((nb e1).add 4) = some (slice i2 j2 k2) ∧ x1.cell? ((nb e1).add 5) = some (slice l2 m2 n2) ∧ True) ∧
 CP 43 #[agg #[bool y1, slice z1 a2 b2, slice c2 d2 e2, slice f2 g2 h2, slice i2 j2 k2, slice l2 m2 n2]] x1 (fun o2 p2 =>
 ∃ q2 r2 s2, o2 = .returned (tuple #[pointer q2, int .i64 r2, int .i64 s2]) ∧
 CondP (s2 != 0)
 (StoreP p2 (nb n) (fun t2 =>
 ∃ u2 v2 x2 y2 z2 a3 b3 c3 d3 e3 f3 g3 h3 i3 j3, (t2.cell? (nb n) = some (slice u2 v2 x2) ∧ t2.cell? ((nb n).add 1) = some (slice y2 z2 a3) ∧ t2.cell? ((nb n).add 2) = some (slice b3 c3 d3) ∧ t2.cell? ((nb n).add 3) = some (slice e3 f3 g3) ∧ t2.cell? ((nb n).add 4) = some (slice h3 i3 j3) ∧ True) ∧
 R (tuple #[pointer none, agg #[slice u2 v2 x2, slice y2 z2 a3, slice b3 c3 d3, slice e3 f3 g3, slice h3 i3 j3]]) t2) [slice none 0 0, slice none 0 0, slice none 0 0, slice none 0 0, slice none 0 0] 0)
 (∃ k3 l3 m3 n3 o3 p3 q3 r3 s3 t3 u3 v3 x3 y3 z3 a4, (p2.cell? (nb e1) = some (bool k3) ∧ p2.cell? ((nb e1).add 1) = some (slice l3 m3 n3) ∧ p2.cell? ((nb e1).add 2) = some (slice o3 p3 q3) ∧ p2.cell? ((nb e1).add 3) = some (slice r3 s3 t3) ∧ p2.cell? ((nb e1).add 4) = some (slice u3 v3 x3) ∧ p2.cell? ((nb e1).add 5) = some (slice y3 z3 a4) ∧ True) ∧
 CP 55 #[agg #[bool k3, slice l3 m3 n3, slice o3 p3 q3, slice r3 s3 t3, slice u3 v3 x3, slice y3 z3 a4]] p2 (fun b4 c4 =>
 ∃ d4 e4 f4 g4 h4 i4 j4 k4 l4 m4 n4 o4 p4 q4 r4, b4 = .returned (agg #[slice d4 e4 f4, slice g4 h4 i4, slice j4 k4 l4, slice m4 n4 o4, slice p4 q4 r4]) ∧
 StoreP c4 (nb n) (fun s4 =>
 ∃ t4 u4 v4 x4 y4 z4 a5 b5 c5 d5 e5 f5 g5 h5 i5, (s4.cell? (nb n) = some (slice t4 u4 v4) ∧ s4.cell? ((nb n).add 1) = some (slice x4 y4 z4) ∧ s4.cell? ((nb n).add 2) = some (slice a5 b5 c5) ∧ s4.cell? ((nb n).add 3) = some (slice d5 e5 f5) ∧ s4.cell? ((nb n).add 4) = some (slice g5 h5 i5) ∧ True) ∧
 R (tuple #[pointer q2, agg #[slice t4 u4 v4, slice x4 y4 z4, slice a5 b5 c5, slice d5 e5 f5, slice g5 h5 i5]]) s4) [slice d4 e4 f4, slice g4 h4 i4, slice j4 k4 l4, slice m4 n4 o4, slice p4 q4 r4] 0)))) [bool f1, slice g1 h1 i1, slice j1 k1 l1, slice m1 n1 o1, slice p1 q1 r1, slice s1 t1 u1] 0)
theorem vc15_calls (a : OA) (b c : Nat) (d : OA) (f g : Nat) (h : OA) (i j : Nat) (k : OA) (l m : Nat) (w : World) (R : RW) (hh : vc15 a b c d f g h i j k l m w R) : CR 15 #[agg #[slice a b c, slice d f g, slice h i j, slice k l m]] w R :=
 cden (fn := Tryz.f15) (by kernel_rfl) (by kernel_rfl) (by kernel_rfl) (by kernel_rfl) (by kernel_rfl) hh
def vc18 (a : OA) (b c : Nat) (d : OA) (f g : Nat) (h : OA) (i j : Nat) (k : OA) (l m : Nat) (n : OA) (o p : Nat) (q : OA) (r s : Nat) (w : World) (R : RW) : Prop :=
 ∀ t, t = w.alloc (.cells #[slice a b c, slice d f g, slice h i j, slice k l m, slice n o p] 39) →
 ∀ u : KW, (∀ (x y : Int) (z : World), (CondP (decide (x < (r : Int)))
 (∀ a1, a1 = z.drew →
 ∃ b1 c1 d1 e1 f1 g1 h1 i1 j1 k1 l1 m1 n1 o1 p1, (a1.cell? (nb w) = some (slice b1 c1 d1) ∧ a1.cell? ((nb w).add 1) = some (slice e1 f1 g1) ∧ a1.cell? ((nb w).add 2) = some (slice h1 i1 j1) ∧ a1.cell? ((nb w).add 3) = some (slice k1 l1 m1) ∧ a1.cell? ((nb w).add 4) = some (slice n1 o1 p1) ∧ True) ∧
 NilC q (fun q1 =>
 (0 : Int) ≤ x ∧ x < (r : Int) ∧
 ∃ r1, a1.cell? (q1.add (x.toNat * 1)) = some (int .i64 r1) ∧
 CP 27 #[agg #[slice b1 c1 d1, slice e1 f1 g1, slice h1 i1 j1, slice k1 l1 m1, slice n1 o1 p1], int .i64 r1] a1 (fun s1 t1 =>
 ∃ u1, s1 = .returned (bool u1) ∧
 CondP (!u1)
 (R (int .i64 x) t1)
 (Ar .i64 (x + 1) (fun v1 =>
 u [int .i64 v1, int .i64 y] t1)))))
 (R (int .i64 (-1)) z)) → u [int .i64 x, int .i64 y] z) →
 u [int .i64 0, int .i64 0] t
theorem vc18_calls (a : OA) (b c : Nat) (d : OA) (f g : Nat) (h : OA) (i j : Nat) (k : OA) (l m : Nat) (n : OA) (o p : Nat) (q : OA) (r s : Nat) (w : World) (R : RW) (hh : vc18 a b c d f g h i j k l m n o p q r s w R) : CR 18 #[agg #[slice a b c, slice d f g, slice h i j, slice k l m, slice n o p], slice q r s] w R :=
 cden (fn := Tryz.f18) (by kernel_rfl) (by kernel_rfl) (by kernel_rfl) (by kernel_rfl) (by kernel_rfl) hh
def vc19 (a : OA) (b c : Nat) (d : OA) (f g : Nat) (h : OA) (i j : Nat) (k : OA) (l m : Nat) (n : OA) (o p : Nat) (q : OA) (r s : Nat) (w : World) (R : RW) : Prop :=
 ∀ t, t = w.alloc (.cells #[slice a b c, slice d f g, slice h i j, slice k l m, slice n o p] 39) →
 ∀ u : KW, (∀ (x y : Int) (z : World), (CondP (decide (x < (r : Int)))
 (∀ a1, a1 = z.drew →
 ∃ b1 c1 d1 e1 f1 g1 h1 i1 j1 k1 l1 m1 n1 o1 p1, (a1.cell? (nb w) = some (slice b1 c1 d1) ∧ a1.cell? ((nb w).add 1) = some (slice e1 f1 g1) ∧ a1.cell? ((nb w).add 2) = some (slice h1 i1 j1) ∧ a1.cell? ((nb w).add 3) = some (slice k1 l1 m1) ∧ a1.cell? ((nb w).add 4) = some (slice n1 o1 p1) ∧ True) ∧
 NilC q (fun q1 =>
 (0 : Int) ≤ x ∧ x < (r : Int) ∧
 ∃ r1, a1.cell? (q1.add (x.toNat * 1)) = some (int .i64 r1) ∧
 CP 27 #[agg #[slice b1 c1 d1, slice e1 f1 g1, slice h1 i1 j1, slice k1 l1 m1, slice n1 o1 p1], int .i64 r1] a1 (fun s1 t1 =>
 ∃ u1, s1 = .returned (bool u1) ∧
 CondP (!u1)
 (R (int .i64 x) t1)
 (∃ v1 x1 y1 z1 a2 b2 c2 d2 e2 f2 g2 h2 i2 j2 k2, (t1.cell? (nb w) = some (slice v1 x1 y1) ∧ t1.cell? ((nb w).add 1) = some (slice z1 a2 b2) ∧ t1.cell? ((nb w).add 2) = some (slice c2 d2 e2) ∧ t1.cell? ((nb w).add 3) = some (slice f2 g2 h2) ∧ t1.cell? ((nb w).add 4) = some (slice i2 j2 k2) ∧ True) ∧
 Ar .i64 (x + 1) (fun l2 =>
 (0 : Int) ≤ (0 : Int) ∧ (0 : Int) ≤ l2 ∧ l2 ≤ (s : Int) ∧ True ∧ True ∧
 CP 50 #[agg #[slice v1 x1 y1, slice z1 a2 b2, slice c2 d2 e2, slice f2 g2 h2, slice i2 j2 k2], slice (slBase q (0 : Int).toNat (s : Int).toNat 1) (l2.toNat - (0 : Int).toNat) ((s : Int).toNat - (0 : Int).toNat)] t1 (fun m2 n2 =>
 ∃ o2, m2 = .returned (bool o2) ∧
 CondP (!o2)
 (R (int .i64 x) n2)
 (Ar .i64 (x + 1) (fun p2 =>
 u [int .i64 p2, int .i64 y] n2))))))))
 (R (int .i64 (-1)) z)) → u [int .i64 x, int .i64 y] z) →
 u [int .i64 0, int .i64 0] t
theorem vc19_calls (a : OA) (b c : Nat) (d : OA) (f g : Nat) (h : OA) (i j : Nat) (k : OA) (l m : Nat) (n : OA) (o p : Nat) (q : OA) (r s : Nat) (w : World) (R : RW) (hh : vc19 a b c d f g h i j k l m n o p q r s w R) : CR 19 #[agg #[slice a b c, slice d f g, slice h i j, slice k l m, slice n o p], slice q r s] w R :=
 cden (fn := Tryz.f19) (by kernel_rfl) (by kernel_rfl) (by kernel_rfl) (by kernel_rfl) (by kernel_rfl) hh
def vc27 (a : OA) (b c : Nat) (d : OA) (f g : Nat) (h : OA) (i j : Nat) (k : OA) (l m : Nat) (n : OA) (o p : Nat) (q : Int) (w : World) (R : RW) : Prop :=
 ∀ r, r = w.alloc (.cells #[slice a b c, slice d f g, slice h i j, slice k l m, slice n o p] 39) →
 ∃ s t u x y z, (r.cell? ((nb w).add 0) = some (slice s t u) ∧ r.cell? (((nb w).add 0).add 1) = some (slice x y z) ∧ True) ∧
 CP 61 #[agg #[slice s t u, slice x y z], int .i64 q] r (fun a1 b1 =>
 ∃ c1, a1 = .returned (bool c1) ∧
 CondP c1
 (R (bool true) b1)
 (∃ d1 e1 f1 g1 h1 i1 j1 k1 l1 m1 n1 o1 p1 q1 r1, (b1.cell? (nb w) = some (slice d1 e1 f1) ∧ b1.cell? ((nb w).add 1) = some (slice g1 h1 i1) ∧ b1.cell? ((nb w).add 2) = some (slice j1 k1 l1) ∧ b1.cell? ((nb w).add 3) = some (slice m1 n1 o1) ∧ b1.cell? ((nb w).add 4) = some (slice p1 q1 r1) ∧ True) ∧
 CP 62 #[agg #[slice d1 e1 f1, slice g1 h1 i1, slice j1 k1 l1, slice m1 n1 o1, slice p1 q1 r1], int .i64 q] b1 (fun s1 t1 =>
 ∃ u1, s1 = .returned (int .i64 u1) ∧
 R (bool (decide (u1 < 0))) t1)))
theorem vc27_calls (a : OA) (b c : Nat) (d : OA) (f g : Nat) (h : OA) (i j : Nat) (k : OA) (l m : Nat) (n : OA) (o p : Nat) (q : Int) (w : World) (R : RW) (hh : vc27 a b c d f g h i j k l m n o p q w R) : CR 27 #[agg #[slice a b c, slice d f g, slice h i j, slice k l m, slice n o p], int .i64 q] w R :=
 cden (fn := Tryz.f27) (by kernel_rfl) (by kernel_rfl) (by kernel_rfl) (by kernel_rfl) (by kernel_rfl) hh
def vc34 (a : OA) (b c : Nat) (d : OA) (f g : Nat) (h : OA) (i j : Nat) (k : OA) (l m : Nat) (n : OA) (o p : Nat) (q : OA) (r s : Nat) (w : World) (R : RW) : Prop :=
 ∀ t, t = w.alloc (.cells #[slice a b c, slice d f g, slice h i j, slice k l m, slice n o p] 39) →
 ∀ u, u = t.alloc (.cells #[] 5) →
 ∀ x : KW, (∀ (y : Int) (z : OA) (a1 b1 : Nat) (c1 : OA) (d1 e1 : Nat) (f1 : World), (CondP (decide (y ≤ (r : Int)))
 (∀ g1 : KW, (∀ (h1 : OA) (i1 j1 : Nat) (k1 : OA) (l1 m1 : Nat) (n1 : World), (Ar .i64 (y + 1) (fun o1 =>
 x [int .i64 o1, slice h1 i1 j1, slice k1 l1 m1] n1)) → g1 [slice h1 i1 j1, slice k1 l1 m1] n1) →
 CondP (decide (y < (r : Int)))
 (NilC q (fun p1 =>
 (0 : Int) ≤ y ∧ y < (r : Int) ∧
 ∃ q1, f1.cell? (p1.add (y.toNat * 1)) = some (int .i64 q1) ∧
 CondP (decide (q1 ≥ 0))
 (NilC q (fun r1 =>
 (0 : Int) ≤ y ∧ y < (r : Int) ∧
 ∃ s1, f1.cell? (r1.add (y.toNat * 1)) = some (int .i64 s1) ∧
 ∀ t1, t1 = f1.alloc (.cells #[int .u8 (IntKind.wrap .u8 s1)] 5) →
 ∃ u1 v1 x1 y1, (Builtin.append_ #[134, 134] 134 #[slice z a1 b1, slice (some (nb f1)) 1 1]).run Tryz.prog t1 = .ok (slice u1 v1 x1) y1 ∧
 g1 [slice u1 v1 x1, slice c1 d1 e1] y1))
 (∃ z1 a2 b2 c2 d2 e2, (f1.cell? ((nb w).add 2) = some (slice z1 a2 b2) ∧ f1.cell? (((nb w).add 2).add 1) = some (slice c2 d2 e2) ∧ True) ∧
 ∃ f2 g2, (convert 134 9 (slice z a1 b1)).run Tryz.prog f1 = .ok (string f2) g2 ∧
 CP 65 #[agg #[slice z1 a2 b2, slice c2 d2 e2], string f2] g2 (fun h2 i2 =>
 ∃ j2 k2 l2, h2 = .returned (slice j2 k2 l2) ∧
 ∀ m2 : KW, (∀ (n2 : Int) (o2 : OA) (p2 q2 : Nat) (r2 : World), (CondP (decide (n2 < (k2 : Int)))
 (∀ s2, s2 = r2.drew →
 ∃ t2 u2 v2 x2 y2 z2, (s2.cell? ((nb w).add 0) = some (slice t2 u2 v2) ∧ s2.cell? (((nb w).add 0).add 1) = some (slice x2 y2 z2) ∧ True) ∧
 NilC j2 (fun a3 =>
 (0 : Int) ≤ n2 ∧ n2 < (k2 : Int) ∧
 ∃ b3, s2.cell? (a3.add (n2.toNat * 1)) = some (string b3) ∧
 CP 66 #[agg #[slice t2 u2 v2, slice x2 y2 z2], string b3] s2 (fun c3 d3 =>
 ∃ e3 f3 g3, c3 = .returned (slice e3 f3 g3) ∧
 ∃ h3 i3 j3 k3, (Builtin.append_ #[28, 28] 28 #[slice o2 p2 q2, slice e3 f3 g3]).run Tryz.prog d3 = .ok (slice h3 i3 j3) k3 ∧
 Ar .i64 (n2 + 1) (fun l3 =>
 m2 [int .i64 l3, slice h3 i3 j3] k3))))
 (∀ m3, m3 = r2.alloc (.cells #[] 5) →
 CondP (decide (y < (r : Int)))
 (∀ n3, n3 = m3.drew →
 ∃ o3 p3 q3, n3.cell? ((nb w).add 4) = some (slice o3 p3 q3) ∧
 NilC q (fun r3 =>
 (0 : Int) ≤ y ∧ y < (r : Int) ∧
 ∃ s3, n3.cell? (r3.add (y.toNat * 1)) = some (int .i64 s3) ∧
 Ar .i64 ((-1 : Int) - s3) (fun t3 =>
 NilC o3 (fun u3 =>
 (0 : Int) ≤ t3 ∧ t3 < (p3 : Int) ∧
 ∃ v3, n3.cell? ((u3.add (t3.toNat * 2)).add 0) = some (int .i64 v3) ∧
 ∀ x3, x3 = n3.alloc (.cells #[int .i64 v3] 3) →
 ∃ y3 z3 a4 b4, (Builtin.append_ #[28, 28] 28 #[slice o2 p2 q2, slice (some (nb n3)) 1 1]).run Tryz.prog x3 = .ok (slice y3 z3 a4) b4 ∧
 g1 [slice (some (nb r2)) 0 0, slice y3 z3 a4] b4))))
 (g1 [slice (some (nb r2)) 0 0, slice o2 p2 q2] m3))) → m2 [int .i64 n2, slice o2 p2 q2] r2) →
 m2 [int .i64 0, slice c1 d1 e1] i2))))
 (∃ c4 d4 e4 f4 g4 h4, (f1.cell? ((nb w).add 2) = some (slice c4 d4 e4) ∧ f1.cell? (((nb w).add 2).add 1) = some (slice f4 g4 h4) ∧ True) ∧
 ∃ i4 j4, (convert 134 9 (slice z a1 b1)).run Tryz.prog f1 = .ok (string i4) j4 ∧
 CP 65 #[agg #[slice c4 d4 e4, slice f4 g4 h4], string i4] j4 (fun k4 l4 =>
 ∃ m4 n4 o4, k4 = .returned (slice m4 n4 o4) ∧
 ∀ p4 : KW, (∀ (q4 : Int) (r4 : OA) (s4 t4 : Nat) (u4 : World), (CondP (decide (q4 < (n4 : Int)))
 (∀ v4, v4 = u4.drew →
 ∃ x4 y4 z4 a5 b5 c5, (v4.cell? ((nb w).add 0) = some (slice x4 y4 z4) ∧ v4.cell? (((nb w).add 0).add 1) = some (slice a5 b5 c5) ∧ True) ∧
 NilC m4 (fun d5 =>
 (0 : Int) ≤ q4 ∧ q4 < (n4 : Int) ∧
 ∃ e5, v4.cell? (d5.add (q4.toNat * 1)) = some (string e5) ∧
 CP 66 #[agg #[slice x4 y4 z4, slice a5 b5 c5], string e5] v4 (fun f5 g5 =>
 ∃ h5 i5 j5, f5 = .returned (slice h5 i5 j5) ∧
 ∃ k5 l5 m5 n5, (Builtin.append_ #[28, 28] 28 #[slice r4 s4 t4, slice h5 i5 j5]).run Tryz.prog g5 = .ok (slice k5 l5 m5) n5 ∧
 Ar .i64 (q4 + 1) (fun o5 =>
 p4 [int .i64 o5, slice k5 l5 m5] n5))))
 (∀ p5, p5 = u4.alloc (.cells #[] 5) →
 CondP (decide (y < (r : Int)))
 (∀ q5, q5 = p5.drew →
 ∃ r5 s5 t5, q5.cell? ((nb w).add 4) = some (slice r5 s5 t5) ∧
 NilC q (fun u5 =>
 (0 : Int) ≤ y ∧ y < (r : Int) ∧
 ∃ v5, q5.cell? (u5.add (y.toNat * 1)) = some (int .i64 v5) ∧
 Ar .i64 ((-1 : Int) - v5) (fun x5 =>
 NilC r5 (fun y5 =>
 (0 : Int) ≤ x5 ∧ x5 < (s5 : Int) ∧
 ∃ z5, q5.cell? ((y5.add (x5.toNat * 2)).add 0) = some (int .i64 z5) ∧
 ∀ a6, a6 = q5.alloc (.cells #[int .i64 z5] 3) →
 ∃ b6 c6 d6 e6, (Builtin.append_ #[28, 28] 28 #[slice r4 s4 t4, slice (some (nb q5)) 1 1]).run Tryz.prog a6 = .ok (slice b6 c6 d6) e6 ∧
 g1 [slice (some (nb u4)) 0 0, slice b6 c6 d6] e6))))
 (g1 [slice (some (nb u4)) 0 0, slice r4 s4 t4] p5))) → p4 [int .i64 q4, slice r4 s4 t4] u4) →
 p4 [int .i64 0, slice c1 d1 e1] l4)))
 (R (slice c1 d1 e1) f1)) → x [int .i64 y, slice z a1 b1, slice c1 d1 e1] f1) →
 x [int .i64 0, slice (some (nb t)) 0 0, slice none 0 0] u
theorem vc34_calls (a : OA) (b c : Nat) (d : OA) (f g : Nat) (h : OA) (i j : Nat) (k : OA) (l m : Nat) (n : OA) (o p : Nat) (q : OA) (r s : Nat) (w : World) (R : RW) (hh : vc34 a b c d f g h i j k l m n o p q r s w R) : CR 34 #[agg #[slice a b c, slice d f g, slice h i j, slice k l m, slice n o p], slice q r s] w R :=
 cden (fn := Tryz.f34) (by kernel_rfl) (by kernel_rfl) (by kernel_rfl) (by kernel_rfl) (by kernel_rfl) hh
def vc35 (a : OA) (b c : Nat) (d : OA) (f g : Nat) (h : OA) (i j : Nat) (k : OA) (l m : Nat) (n : OA) (o p : Nat) (q : OA) (r s : Nat) (w : World) (R : RW) : Prop :=
 ∀ t, t = w.alloc (.cells #[slice a b c, slice d f g, slice h i j, slice k l m, slice n o p] 39) →
 ∀ u : KW, (∀ (x : Int) (y : OA) (z a1 : Nat) (b1 : World), (CondP (decide (x < (r : Int)))
 (∀ c1 : KW, (∀ (d1 : OA) (e1 f1 : Nat) (g1 : World), (Ar .i64 (x + 1) (fun h1 =>
 u [int .i64 h1, slice d1 e1 f1] g1)) → c1 [slice d1 e1 f1] g1) →
 ∀ i1, i1 = b1.drew →
 ∃ j1 k1 l1 m1 n1 o1 p1 q1 r1 s1 t1 u1 v1 x1 y1, (i1.cell? (nb w) = some (slice j1 k1 l1) ∧ i1.cell? ((nb w).add 1) = some (slice m1 n1 o1) ∧ i1.cell? ((nb w).add 2) = some (slice p1 q1 r1) ∧ i1.cell? ((nb w).add 3) = some (slice s1 t1 u1) ∧ i1.cell? ((nb w).add 4) = some (slice v1 x1 y1) ∧ True) ∧
 NilC q (fun z1 =>
 (0 : Int) ≤ x ∧ x < (r : Int) ∧
 ∃ a2, i1.cell? (z1.add (x.toNat * 1)) = some (int .i64 a2) ∧
 CP 62 #[agg #[slice j1 k1 l1, slice m1 n1 o1, slice p1 q1 r1, slice s1 t1 u1, slice v1 x1 y1], int .i64 a2] i1 (fun b2 c2 =>
 ∃ d2, b2 = .returned (int .i64 d2) ∧
 CondP (decide (d2 < 0))
 (∀ e2, e2 = c2.alloc (.cells #[int .i64 d2] 3) →
 ∃ f2 g2 h2 i2, (Builtin.append_ #[28, 28] 28 #[slice y z a1, slice (some (nb c2)) 1 1]).run Tryz.prog e2 = .ok (slice f2 g2 h2) i2 ∧
 c1 [slice f2 g2 h2] i2)
 (∀ j2, j2 = c2.drew →
 ∃ k2 l2 m2, j2.cell? (((nb w).add 0).add 0) = some (slice k2 l2 m2) ∧
 NilC q (fun n2 =>
 (0 : Int) ≤ x ∧ x < (r : Int) ∧
 ∃ o2, j2.cell? (n2.add (x.toNat * 1)) = some (int .i64 o2) ∧
 NilC k2 (fun p2 =>
 (0 : Int) ≤ o2 ∧ o2 < (l2 : Int) ∧
 ∃ q2, j2.cell? (p2.add (o2.toNat * 1)) = some (string q2) ∧
 ∀ r2 : KW, (∀ (s2 : Int) (t2 : OA) (u2 v2 : Nat) (x2 : World), (CondP (decide (s2 < (q2.size : Int)))
 ((0 : Int) ≤ s2 ∧ s2 < (q2.size : Int) ∧
 ∀ y2, y2 = x2.alloc (.cells #[int .i64 (IntKind.wrap .i64 (btAt q2 s2))] 3) →
 ∃ z2 a3 b3 c3, (Builtin.append_ #[28, 28] 28 #[slice t2 u2 v2, slice (some (nb x2)) 1 1]).run Tryz.prog y2 = .ok (slice z2 a3 b3) c3 ∧
 Ar .i64 (s2 + 1) (fun d3 =>
 r2 [int .i64 d3, slice z2 a3 b3] c3))
 (c1 [slice t2 u2 v2] x2)) → r2 [int .i64 s2, slice t2 u2 v2] x2) →
 r2 [int .i64 0, slice y z a1] j2))))))
 (R (slice y z a1) b1)) → u [int .i64 x, slice y z a1] b1) →
 u [int .i64 0, slice none 0 0] t
theorem vc35_calls (a : OA) (b c : Nat) (d : OA) (f g : Nat) (h : OA) (i j : Nat) (k : OA) (l m : Nat) (n : OA) (o p : Nat) (q : OA) (r s : Nat) (w : World) (R : RW) (hh : vc35 a b c d f g h i j k l m n o p q r s w R) : CR 35 #[agg #[slice a b c, slice d f g, slice h i j, slice k l m, slice n o p], slice q r s] w R :=
 cden (fn := Tryz.f35) (by kernel_rfl) (by kernel_rfl) (by kernel_rfl) (by kernel_rfl) (by kernel_rfl) hh
def vc36 (a : OA) (b c : Nat) (d : OA) (f g : Nat) (h : ByteArray) (w : World) (R : RW) : Prop :=
 ∀ i, i = w.alloc (.cells #[slice a b c, slice d f g] 35) →
 ∀ j : KW, (∀ (k l : Int) (m : World), (∃ n o p, m.cell? ((nb w).add 0) = some (slice n o p) ∧
 CondP (decide (k < (o : Int)))
 (∃ q r s, m.cell? ((nb w).add 0) = some (slice q r s) ∧
 NilC q (fun t =>
 (0 : Int) ≤ k ∧ k < (r : Int) ∧
 ∃ u, m.cell? (t.add (k.toNat * 1)) = some (string u) ∧
 CondP (u.toList == h.toList)
 (R (int .i64 k) m)
 (Ar .i64 (k + 1) (fun x =>
 j [int .i64 x, int .i64 l] m))))
 (R (int .i64 (-1)) m)) → j [int .i64 k, int .i64 l] m) →
 j [int .i64 0, int .i64 0] i
theorem vc36_calls (a : OA) (b c : Nat) (d : OA) (f g : Nat) (h : ByteArray) (w : World) (R : RW) (hh : vc36 a b c d f g h w R) : CR 36 #[agg #[slice a b c, slice d f g], string h] w R :=
 cden (fn := Tryz.f36) (by kernel_rfl) (by kernel_rfl) (by kernel_rfl) (by kernel_rfl) (by kernel_rfl) hh
def vc50 (a : OA) (b c : Nat) (d : OA) (f g : Nat) (h : OA) (i j : Nat) (k : OA) (l m : Nat) (n : OA) (o p : Nat) (q : OA) (r s : Nat) (w : World) (R : RW) : Prop :=
 ∀ t, t = w.alloc (.cells #[slice a b c, slice d f g, slice h i j, slice k l m, slice n o p] 39) →
 ∀ u, u = t.drew →
 ∃ x y z a1 b1 c1 d1 e1 f1 g1 h1 i1 j1 k1 l1, (u.cell? (nb w) = some (slice x y z) ∧ u.cell? ((nb w).add 1) = some (slice a1 b1 c1) ∧ u.cell? ((nb w).add 2) = some (slice d1 e1 f1) ∧ u.cell? ((nb w).add 3) = some (slice g1 h1 i1) ∧ u.cell? ((nb w).add 4) = some (slice j1 k1 l1) ∧ True) ∧
 ∃ m1 n1 o1 p1 q1 r1 s1 t1 u1 v1 x1 y1 z1 a2 b2, (u.cell? (nb w) = some (slice m1 n1 o1) ∧ u.cell? ((nb w).add 1) = some (slice p1 q1 r1) ∧ u.cell? ((nb w).add 2) = some (slice s1 t1 u1) ∧ u.cell? ((nb w).add 3) = some (slice v1 x1 y1) ∧ u.cell? ((nb w).add 4) = some (slice z1 a2 b2) ∧ True) ∧
 CP 35 #[agg #[slice m1 n1 o1, slice p1 q1 r1, slice s1 t1 u1, slice v1 x1 y1, slice z1 a2 b2], slice q r s] u (fun c2 d2 =>
 ∃ e2 f2 g2, c2 = .returned (slice e2 f2 g2) ∧
 (d2.cell? (nb w) = some (slice x y z) ∧ d2.cell? ((nb w).add 1) = some (slice a1 b1 c1) ∧ d2.cell? ((nb w).add 2) = some (slice d1 e1 f1) ∧ d2.cell? ((nb w).add 3) = some (slice g1 h1 i1) ∧ d2.cell? ((nb w).add 4) = some (slice j1 k1 l1) ∧ True) ∧
 CP 34 #[agg #[slice x y z, slice a1 b1 c1, slice d1 e1 f1, slice g1 h1 i1, slice j1 k1 l1], slice e2 f2 g2] d2 (fun h2 i2 =>
 ∃ j2 k2 l2, h2 = .returned (slice j2 k2 l2) ∧
 CondP ((k2 : Int) != (r : Int))
 (R (bool false) i2)
 (∀ m2 : KW, (∀ (n2 : Int) (o2 : Bool) (p2 : World), (CondP (decide (n2 < (k2 : Int)))
 (∀ q2, q2 = p2.drew →
 NilC j2 (fun r2 =>
 (0 : Int) ≤ n2 ∧ n2 < (k2 : Int) ∧
 ∃ s2, q2.cell? (r2.add (n2.toNat * 1)) = some (int .i64 s2) ∧
 NilC q (fun t2 =>
 (0 : Int) ≤ n2 ∧ n2 < (r : Int) ∧
 ∃ u2, q2.cell? (t2.add (n2.toNat * 1)) = some (int .i64 u2) ∧
 CondP (s2 != u2)
 (R (bool false) q2)
 (Ar .i64 (n2 + 1) (fun v2 =>
 m2 [int .i64 v2, bool o2] q2)))))
 (R (bool true) p2)) → m2 [int .i64 n2, bool o2] p2) →
 m2 [int .i64 0, bool false] i2)))
theorem vc50_calls (a : OA) (b c : Nat) (d : OA) (f g : Nat) (h : OA) (i j : Nat) (k : OA) (l m : Nat) (n : OA) (o p : Nat) (q : OA) (r s : Nat) (w : World) (R : RW) (hh : vc50 a b c d f g h i j k l m n o p q r s w R) : CR 50 #[agg #[slice a b c, slice d f g, slice h i j, slice k l m, slice n o p], slice q r s] w R :=
 cden (fn := Tryz.f50) (by kernel_rfl) (by kernel_rfl) (by kernel_rfl) (by kernel_rfl) (by kernel_rfl) hh
def vc53 (a : OA) (b c : Nat) (d : OA) (f g : Nat) (h : OA) (i j : Nat) (k : OA) (l m : Nat) (w : World) (R : RW) : Prop :=
 CondP (decide ((b : Int) > 60))
 (R (bool true) w)
 (CondP (decide ((f : Int) > 20))
 (R (bool true) w)
 (CondP (decide ((i : Int) > 20))
 (R (bool true) w)
 (CP 87 #[slice k l m] w (fun n o =>
 ∃ p, n = .returned (bool p) ∧
 R (bool p) o))))
theorem vc53_calls (a : OA) (b c : Nat) (d : OA) (f g : Nat) (h : OA) (i j : Nat) (k : OA) (l m : Nat) (w : World) (R : RW) (hh : vc53 a b c d f g h i j k l m w R) : CR 53 #[slice a b c, slice d f g, slice h i j, slice k l m] w R :=
 cden (fn := Tryz.f53) (by kernel_rfl) (by kernel_rfl) (by kernel_rfl) (by kernel_rfl) (by kernel_rfl) hh
def vc54 (a : OA) (b c : Nat) (d : OA) (f g : Nat) (h : OA) (i j : Nat) (k : OA) (l m : Nat) (w : World) (R : RW) : Prop :=
 ∀ n, n = w.alloc (.cells #[bool false, slice none 0 0, slice none 0 0, slice none 0 0, slice none 0 0, slice none 0 0] 87) →
 CP 88 #[slice a b c] n (fun o p =>
 ∃ q r s t x y, o = .returned (agg #[slice q r s, slice t x y]) ∧
 ∀ z, z = p.alloc (.cells #[slice none 0 0, slice none 0 0] 35) →
 StoreP z (nb p) (fun a1 =>
 ∃ b1 c1 d1, a1.cell? ((nb p).add 1) = some (slice b1 c1 d1) ∧
 ∀ e1, e1 = a1.alloc (.cells #[bool false, slice none 0 0, slice none 0 0, slice none 0 0, slice none 0 0, slice none 0 0] 87) →
 StoreP e1 (nb a1) (fun f1 =>
 ∀ g1 : KW, (∀ (h1 : Int) (i1 : World), (CondP (decide (h1 < (f : Int)))
 (CondP (decide (h1 < 8))
 (∀ j1 : KW, (∀ k1 : World, (Ar .i64 (h1 + 1) (fun l1 =>
 g1 [int .i64 l1] k1)) → j1 [] k1) →
 Ar .i64 (h1 + 1) (fun m1 =>
 (0 : Int) ≤ h1 ∧ h1 ≤ m1 ∧ m1 ≤ (g : Int) ∧ True ∧ True ∧
 CP 89 #[agg #[slice (slBase d h1.toNat (g : Int).toNat 3) (m1.toNat - h1.toNat) ((g : Int).toNat - h1.toNat), slice none 0 0]] i1 (fun n1 o1 =>
 ∃ p1, n1 = .returned (bool p1) ∧
 CondP p1
 (∀ q1, q1 = o1.drew →
 ∃ r1 s1 t1, q1.cell? ((nb a1).add 4) = some (slice r1 s1 t1) ∧
 NilC d (fun u1 =>
 (0 : Int) ≤ h1 ∧ h1 < (f : Int) ∧
 ∃ v1 x1 y1, (q1.cell? (u1.add (h1.toNat * 3)) = some (int .i64 v1) ∧ q1.cell? ((u1.add (h1.toNat * 3)).add 1) = some (int .i64 x1) ∧ q1.cell? ((u1.add (h1.toNat * 3)).add 2) = some (int .i64 y1) ∧ True) ∧
 ∀ z1, z1 = q1.alloc (.cells #[int .i64 v1, int .i64 x1, int .i64 y1] 158) →
 (z1.cell? ((nb a1).add 4) = some (slice r1 s1 t1) ∧ True) ∧
 ∃ a2 b2 c2 d2, (Builtin.append_ #[23, 23] 23 #[slice r1 s1 t1, slice (some (nb q1)) 1 1]).run Tryz.prog z1 = .ok (slice a2 b2 c2) d2 ∧
 (slice a2 b2 c2).oneCell' = true ∧ (∃ u, d2.cell? ((nb a1).add 4) = some u) ∧ d2.frozen? ((nb a1).add 4) = false ∧
 ∀ e2, e2 = (d2.setCell ((nb a1).add 4) (slice a2 b2 c2)) →
 j1 [] e2))
 (j1 [] o1))))
 (∀ f2 : KW, (∀ (g2 : Int) (h2 : World), (CondP (decide (g2 < (i : Int)))
 (CondP (decide (g2 < 8))
 (∀ i2 : KW, (∀ j2 : World, (Ar .i64 (g2 + 1) (fun k2 =>
 f2 [int .i64 k2] j2)) → i2 [] j2) →
 Ar .i64 (g2 + 1) (fun l2 =>
 (0 : Int) ≤ g2 ∧ g2 ≤ l2 ∧ l2 ≤ (j : Int) ∧ True ∧ True ∧
 CP 89 #[agg #[slice none 0 0, slice (slBase h g2.toNat (j : Int).toNat 2) (l2.toNat - g2.toNat) ((j : Int).toNat - g2.toNat)]] h2 (fun m2 n2 =>
 ∃ o2, m2 = .returned (bool o2) ∧
 CondP o2
 (∀ p2, p2 = n2.drew →
 ∃ q2 r2 s2, p2.cell? ((nb a1).add 5) = some (slice q2 r2 s2) ∧
 NilC h (fun t2 =>
 (0 : Int) ≤ g2 ∧ g2 < (i : Int) ∧
 ∃ u2 v2, (p2.cell? (t2.add (g2.toNat * 2)) = some (int .i64 u2) ∧ p2.cell? ((t2.add (g2.toNat * 2)).add 1) = some (int .i64 v2) ∧ True) ∧
 ∀ x2, x2 = p2.alloc (.cells #[int .i64 u2, int .i64 v2] 159) →
 (x2.cell? ((nb a1).add 5) = some (slice q2 r2 s2) ∧ True) ∧
 ∃ y2 z2 a3 b3, (Builtin.append_ #[24, 24] 24 #[slice q2 r2 s2, slice (some (nb p2)) 1 1]).run Tryz.prog x2 = .ok (slice y2 z2 a3) b3 ∧
 (slice y2 z2 a3).oneCell' = true ∧ (∃ u, b3.cell? ((nb a1).add 5) = some u) ∧ b3.frozen? ((nb a1).add 5) = false ∧
 ∀ c3, c3 = (b3.setCell ((nb a1).add 5) (slice y2 z2 a3)) →
 i2 [] c3))
 (i2 [] n2))))
 (∀ d3 : KW, (∀ (e3 : Int) (f3 : World), (CondP (decide (e3 < (l : Int)))
 (CondP (decide (e3 < 6))
 (∀ g3 : KW, (∀ h3 : World, (Ar .i64 (e3 + 1) (fun i3 =>
 d3 [int .i64 i3] h3)) → g3 [] h3) →
 ∀ j3, j3 = f3.drew →
 ∃ k3 l3 m3, j3.cell? ((nb a1).add 3) = some (slice k3 l3 m3) ∧
 Ar .i64 ((1000 : Int) + e3) (fun n3 =>
 NilC k (fun o3 =>
 (0 : Int) ≤ e3 ∧ e3 < (l : Int) ∧
 ∃ p3, j3.cell? ((o3.add (e3.toNat * 2)).add 1) = some (string p3) ∧
 (∀ q3, q3 = j3.alloc (.cells #[] 105) →
 (q3.cell? ((o3.add (e3.toNat * 2)).add 1) = some (string p3) ∧ True) ∧
 (q3.cell? ((nb a1).add 3) = some (slice k3 l3 m3) ∧ True) ∧
 (∃ r3 s3 t3 u3, (Builtin.append_ #[25, 25] 25 #[slice (some (nb j3)) 0 0, slice k3 l3 m3]).run Tryz.prog q3 = .ok (slice r3 s3 t3) u3 ∧
 (u3.cell? ((o3.add (e3.toNat * 2)).add 1) = some (string p3) ∧ True) ∧
 ∀ v3, v3 = u3.alloc (.cells #[int .i64 n3, string p3] 105) →
 ∃ x3 y3 z3 a4, (Builtin.append_ #[25, 25] 25 #[slice r3 s3 t3, slice (some (nb u3)) 1 1]).run Tryz.prog v3 = .ok (slice x3 y3 z3) a4 ∧
 CP 90 #[slice x3 y3 z3] a4 (fun b4 c4 =>
 ∃ d4 e4, b4 = .returned (tuple #[int .i64 d4, int .i64 e4]) ∧
 CondP (e4 == 0)
 ((slice x3 y3 z3).oneCell' = true ∧ (∃ u, c4.cell? ((nb a1).add 3) = some u) ∧ c4.frozen? ((nb a1).add 3) = false ∧
 ∀ f4, f4 = (c4.setCell ((nb a1).add 3) (slice x3 y3 z3)) →
 g3 [] f4)
 (g3 [] c4))) ∧
 (∀ g4, g4 = q3.alloc (.cells #[int .i64 n3, string p3] 105) →
 (g4.cell? ((nb a1).add 3) = some (slice k3 l3 m3) ∧ True) ∧
 ∃ h4 i4 j4 k4, (Builtin.append_ #[25, 25] 25 #[slice (some (nb j3)) 0 0, slice k3 l3 m3]).run Tryz.prog g4 = .ok (slice h4 i4 j4) k4 ∧
 ∃ l4 m4 n4 o4, (Builtin.append_ #[25, 25] 25 #[slice h4 i4 j4, slice (some (nb q3)) 1 1]).run Tryz.prog k4 = .ok (slice l4 m4 n4) o4 ∧
 CP 90 #[slice l4 m4 n4] o4 (fun p4 q4 =>
 ∃ r4 s4, p4 = .returned (tuple #[int .i64 r4, int .i64 s4]) ∧
 CondP (s4 == 0)
 ((slice l4 m4 n4).oneCell' = true ∧ (∃ u, q4.cell? ((nb a1).add 3) = some u) ∧ q4.frozen? ((nb a1).add 3) = false ∧
 ∀ t4, t4 = (q4.setCell ((nb a1).add 3) (slice l4 m4 n4)) →
 g3 [] t4)
 (g3 [] q4)))) ∧
 (∀ u4, u4 = j3.alloc (.cells #[int .i64 n3, string p3] 105) →
 (u4.cell? ((nb a1).add 3) = some (slice k3 l3 m3) ∧ True) ∧
 ∀ v4, v4 = u4.alloc (.cells #[] 105) →
 (v4.cell? ((nb a1).add 3) = some (slice k3 l3 m3) ∧ True) ∧
 ∃ x4 y4 z4 a5, (Builtin.append_ #[25, 25] 25 #[slice (some (nb u4)) 0 0, slice k3 l3 m3]).run Tryz.prog v4 = .ok (slice x4 y4 z4) a5 ∧
 ∃ b5 c5 d5 e5, (Builtin.append_ #[25, 25] 25 #[slice x4 y4 z4, slice (some (nb j3)) 1 1]).run Tryz.prog a5 = .ok (slice b5 c5 d5) e5 ∧
 CP 90 #[slice b5 c5 d5] e5 (fun f5 g5 =>
 ∃ h5 i5, f5 = .returned (tuple #[int .i64 h5, int .i64 i5]) ∧
 CondP (i5 == 0)
 ((slice b5 c5 d5).oneCell' = true ∧ (∃ u, g5.cell? ((nb a1).add 3) = some u) ∧ g5.frozen? ((nb a1).add 3) = false ∧
 ∀ j5, j5 = (g5.setCell ((nb a1).add 3) (slice b5 c5 d5)) →
 g3 [] j5)
 (g3 [] g5))))))
 (∃ k5 l5 m5 n5 o5 p5 q5 r5 s5 t5 u5 v5 x5 y5 z5 a6, (f3.cell? (nb a1) = some (bool k5) ∧ f3.cell? ((nb a1).add 1) = some (slice l5 m5 n5) ∧ f3.cell? ((nb a1).add 2) = some (slice o5 p5 q5) ∧ f3.cell? ((nb a1).add 3) = some (slice r5 s5 t5) ∧ f3.cell? ((nb a1).add 4) = some (slice u5 v5 x5) ∧ f3.cell? ((nb a1).add 5) = some (slice y5 z5 a6) ∧ True) ∧
 StoreP f3 (nb w) (fun b6 =>
 ∃ c6 d6 e6 f6 g6 h6 i6 j6 k6 l6 m6 n6 o6 p6 q6 r6, (b6.cell? (nb w) = some (bool c6) ∧ b6.cell? ((nb w).add 1) = some (slice d6 e6 f6) ∧ b6.cell? ((nb w).add 2) = some (slice g6 h6 i6) ∧ b6.cell? ((nb w).add 3) = some (slice j6 k6 l6) ∧ b6.cell? ((nb w).add 4) = some (slice m6 n6 o6) ∧ b6.cell? ((nb w).add 5) = some (slice p6 q6 r6) ∧ True) ∧
 R (agg #[bool c6, slice d6 e6 f6, slice g6 h6 i6, slice j6 k6 l6, slice m6 n6 o6, slice p6 q6 r6]) b6) [bool k5, slice l5 m5 n5, slice o5 p5 q5, slice r5 s5 t5, slice u5 v5 x5, slice y5 z5 a6] 0))
 (∃ s6 t6 u6 v6 x6 y6 z6 a7 b7 c7 d7 e7 f7 g7 h7 i7, (f3.cell? (nb a1) = some (bool s6) ∧ f3.cell? ((nb a1).add 1) = some (slice t6 u6 v6) ∧ f3.cell? ((nb a1).add 2) = some (slice x6 y6 z6) ∧ f3.cell? ((nb a1).add 3) = some (slice a7 b7 c7) ∧ f3.cell? ((nb a1).add 4) = some (slice d7 e7 f7) ∧ f3.cell? ((nb a1).add 5) = some (slice g7 h7 i7) ∧ True) ∧
 StoreP f3 (nb w) (fun j7 =>
 ∃ k7 l7 m7 n7 o7 p7 q7 r7 s7 t7 u7 v7 x7 y7 z7 a8, (j7.cell? (nb w) = some (bool k7) ∧ j7.cell? ((nb w).add 1) = some (slice l7 m7 n7) ∧ j7.cell? ((nb w).add 2) = some (slice o7 p7 q7) ∧ j7.cell? ((nb w).add 3) = some (slice r7 s7 t7) ∧ j7.cell? ((nb w).add 4) = some (slice u7 v7 x7) ∧ j7.cell? ((nb w).add 5) = some (slice y7 z7 a8) ∧ True) ∧
 R (agg #[bool k7, slice l7 m7 n7, slice o7 p7 q7, slice r7 s7 t7, slice u7 v7 x7, slice y7 z7 a8]) j7) [bool s6, slice t6 u6 v6, slice x6 y6 z6, slice a7 b7 c7, slice d7 e7 f7, slice g7 h7 i7] 0)) → d3 [int .i64 e3] f3) →
 d3 [int .i64 0] h2))
 (∀ b8 : KW, (∀ (c8 : Int) (d8 : World), (CondP (decide (c8 < (l : Int)))
 (CondP (decide (c8 < 6))
 (∀ e8 : KW, (∀ f8 : World, (Ar .i64 (c8 + 1) (fun g8 =>
 b8 [int .i64 g8] f8)) → e8 [] f8) →
 ∀ h8, h8 = d8.drew →
 ∃ i8 j8 k8, h8.cell? ((nb a1).add 3) = some (slice i8 j8 k8) ∧
 Ar .i64 ((1000 : Int) + c8) (fun l8 =>
 NilC k (fun m8 =>
 (0 : Int) ≤ c8 ∧ c8 < (l : Int) ∧
 ∃ n8, h8.cell? ((m8.add (c8.toNat * 2)).add 1) = some (string n8) ∧
 (∀ o8, o8 = h8.alloc (.cells #[] 105) →
 (o8.cell? ((m8.add (c8.toNat * 2)).add 1) = some (string n8) ∧ True) ∧
 (o8.cell? ((nb a1).add 3) = some (slice i8 j8 k8) ∧ True) ∧
 (∃ p8 q8 r8 s8, (Builtin.append_ #[25, 25] 25 #[slice (some (nb h8)) 0 0, slice i8 j8 k8]).run Tryz.prog o8 = .ok (slice p8 q8 r8) s8 ∧
 (s8.cell? ((m8.add (c8.toNat * 2)).add 1) = some (string n8) ∧ True) ∧
 ∀ t8, t8 = s8.alloc (.cells #[int .i64 l8, string n8] 105) →
 ∃ u8 v8 x8 y8, (Builtin.append_ #[25, 25] 25 #[slice p8 q8 r8, slice (some (nb s8)) 1 1]).run Tryz.prog t8 = .ok (slice u8 v8 x8) y8 ∧
 CP 90 #[slice u8 v8 x8] y8 (fun z8 a9 =>
 ∃ b9 c9, z8 = .returned (tuple #[int .i64 b9, int .i64 c9]) ∧
 CondP (c9 == 0)
 ((slice u8 v8 x8).oneCell' = true ∧ (∃ u, a9.cell? ((nb a1).add 3) = some u) ∧ a9.frozen? ((nb a1).add 3) = false ∧
 ∀ d9, d9 = (a9.setCell ((nb a1).add 3) (slice u8 v8 x8)) →
 e8 [] d9)
 (e8 [] a9))) ∧
 (∀ e9, e9 = o8.alloc (.cells #[int .i64 l8, string n8] 105) →
 (e9.cell? ((nb a1).add 3) = some (slice i8 j8 k8) ∧ True) ∧
 ∃ f9 g9 h9 i9, (Builtin.append_ #[25, 25] 25 #[slice (some (nb h8)) 0 0, slice i8 j8 k8]).run Tryz.prog e9 = .ok (slice f9 g9 h9) i9 ∧
 ∃ j9 k9 l9 m9, (Builtin.append_ #[25, 25] 25 #[slice f9 g9 h9, slice (some (nb o8)) 1 1]).run Tryz.prog i9 = .ok (slice j9 k9 l9) m9 ∧
 CP 90 #[slice j9 k9 l9] m9 (fun n9 o9 =>
 ∃ p9 q9, n9 = .returned (tuple #[int .i64 p9, int .i64 q9]) ∧
 CondP (q9 == 0)
 ((slice j9 k9 l9).oneCell' = true ∧ (∃ u, o9.cell? ((nb a1).add 3) = some u) ∧ o9.frozen? ((nb a1).add 3) = false ∧
 ∀ r9, r9 = (o9.setCell ((nb a1).add 3) (slice j9 k9 l9)) →
 e8 [] r9)
 (e8 [] o9)))) ∧
 (∀ s9, s9 = h8.alloc (.cells #[int .i64 l8, string n8] 105) →
 (s9.cell? ((nb a1).add 3) = some (slice i8 j8 k8) ∧ True) ∧
 ∀ t9, t9 = s9.alloc (.cells #[] 105) →
 (t9.cell? ((nb a1).add 3) = some (slice i8 j8 k8) ∧ True) ∧
 ∃ u9 v9 x9 y9, (Builtin.append_ #[25, 25] 25 #[slice (some (nb s9)) 0 0, slice i8 j8 k8]).run Tryz.prog t9 = .ok (slice u9 v9 x9) y9 ∧
 ∃ z9 a10 b10 c10, (Builtin.append_ #[25, 25] 25 #[slice u9 v9 x9, slice (some (nb h8)) 1 1]).run Tryz.prog y9 = .ok (slice z9 a10 b10) c10 ∧
 CP 90 #[slice z9 a10 b10] c10 (fun d10 e10 =>
 ∃ f10 g10, d10 = .returned (tuple #[int .i64 f10, int .i64 g10]) ∧
 CondP (g10 == 0)
 ((slice z9 a10 b10).oneCell' = true ∧ (∃ u, e10.cell? ((nb a1).add 3) = some u) ∧ e10.frozen? ((nb a1).add 3) = false ∧
 ∀ h10, h10 = (e10.setCell ((nb a1).add 3) (slice z9 a10 b10)) →
 e8 [] h10)
 (e8 [] e10))))))
 (∃ i10 j10 k10 l10 m10 n10 o10 p10 q10 r10 s10 t10 u10 v10 x10 y10, (d8.cell? (nb a1) = some (bool i10) ∧ d8.cell? ((nb a1).add 1) = some (slice j10 k10 l10) ∧ d8.cell? ((nb a1).add 2) = some (slice m10 n10 o10) ∧ d8.cell? ((nb a1).add 3) = some (slice p10 q10 r10) ∧ d8.cell? ((nb a1).add 4) = some (slice s10 t10 u10) ∧ d8.cell? ((nb a1).add 5) = some (slice v10 x10 y10) ∧ True) ∧
 StoreP d8 (nb w) (fun z10 =>
 ∃ a11 b11 c11 d11 e11 f11 g11 h11 i11 j11 k11 l11 m11 n11 o11 p11, (z10.cell? (nb w) = some (bool a11) ∧ z10.cell? ((nb w).add 1) = some (slice b11 c11 d11) ∧ z10.cell? ((nb w).add 2) = some (slice e11 f11 g11) ∧ z10.cell? ((nb w).add 3) = some (slice h11 i11 j11) ∧ z10.cell? ((nb w).add 4) = some (slice k11 l11 m11) ∧ z10.cell? ((nb w).add 5) = some (slice n11 o11 p11) ∧ True) ∧
 R (agg #[bool a11, slice b11 c11 d11, slice e11 f11 g11, slice h11 i11 j11, slice k11 l11 m11, slice n11 o11 p11]) z10) [bool i10, slice j10 k10 l10, slice m10 n10 o10, slice p10 q10 r10, slice s10 t10 u10, slice v10 x10 y10] 0))
 (∃ q11 r11 s11 t11 u11 v11 x11 y11 z11 a12 b12 c12 d12 e12 f12 g12, (d8.cell? (nb a1) = some (bool q11) ∧ d8.cell? ((nb a1).add 1) = some (slice r11 s11 t11) ∧ d8.cell? ((nb a1).add 2) = some (slice u11 v11 x11) ∧ d8.cell? ((nb a1).add 3) = some (slice y11 z11 a12) ∧ d8.cell? ((nb a1).add 4) = some (slice b12 c12 d12) ∧ d8.cell? ((nb a1).add 5) = some (slice e12 f12 g12) ∧ True) ∧
 StoreP d8 (nb w) (fun h12 =>
 ∃ i12 j12 k12 l12 m12 n12 o12 p12 q12 r12 s12 t12 u12 v12 x12 y12, (h12.cell? (nb w) = some (bool i12) ∧ h12.cell? ((nb w).add 1) = some (slice j12 k12 l12) ∧ h12.cell? ((nb w).add 2) = some (slice m12 n12 o12) ∧ h12.cell? ((nb w).add 3) = some (slice p12 q12 r12) ∧ h12.cell? ((nb w).add 4) = some (slice s12 t12 u12) ∧ h12.cell? ((nb w).add 5) = some (slice v12 x12 y12) ∧ True) ∧
 R (agg #[bool i12, slice j12 k12 l12, slice m12 n12 o12, slice p12 q12 r12, slice s12 t12 u12, slice v12 x12 y12]) h12) [bool q11, slice r11 s11 t11, slice u11 v11 x11, slice y11 z11 a12, slice b12 c12 d12, slice e12 f12 g12] 0)) → b8 [int .i64 c8] d8) →
 b8 [int .i64 0] h2)) → f2 [int .i64 g2] h2) →
 f2 [int .i64 0] i1))
 (∀ z12 : KW, (∀ (a13 : Int) (b13 : World), (CondP (decide (a13 < (i : Int)))
 (CondP (decide (a13 < 8))
 (∀ c13 : KW, (∀ d13 : World, (Ar .i64 (a13 + 1) (fun e13 =>
 z12 [int .i64 e13] d13)) → c13 [] d13) →
 Ar .i64 (a13 + 1) (fun f13 =>
 (0 : Int) ≤ a13 ∧ a13 ≤ f13 ∧ f13 ≤ (j : Int) ∧ True ∧ True ∧
 CP 89 #[agg #[slice none 0 0, slice (slBase h a13.toNat (j : Int).toNat 2) (f13.toNat - a13.toNat) ((j : Int).toNat - a13.toNat)]] b13 (fun g13 h13 =>
 ∃ i13, g13 = .returned (bool i13) ∧
 CondP i13
 (∀ j13, j13 = h13.drew →
 ∃ k13 l13 m13, j13.cell? ((nb a1).add 5) = some (slice k13 l13 m13) ∧
 NilC h (fun n13 =>
 (0 : Int) ≤ a13 ∧ a13 < (i : Int) ∧
 ∃ o13 p13, (j13.cell? (n13.add (a13.toNat * 2)) = some (int .i64 o13) ∧ j13.cell? ((n13.add (a13.toNat * 2)).add 1) = some (int .i64 p13) ∧ True) ∧
 ∀ q13, q13 = j13.alloc (.cells #[int .i64 o13, int .i64 p13] 159) →
 (q13.cell? ((nb a1).add 5) = some (slice k13 l13 m13) ∧ True) ∧
 ∃ r13 s13 t13 u13, (Builtin.append_ #[24, 24] 24 #[slice k13 l13 m13, slice (some (nb j13)) 1 1]).run Tryz.prog q13 = .ok (slice r13 s13 t13) u13 ∧
 (slice r13 s13 t13).oneCell' = true ∧ (∃ u, u13.cell? ((nb a1).add 5) = some u) ∧ u13.frozen? ((nb a1).add 5) = false ∧
 ∀ v13, v13 = (u13.setCell ((nb a1).add 5) (slice r13 s13 t13)) →
 c13 [] v13))
 (c13 [] h13))))
 (∀ x13 : KW, (∀ (y13 : Int) (z13 : World), (CondP (decide (y13 < (l : Int)))
 (CondP (decide (y13 < 6))
 (∀ a14 : KW, (∀ b14 : World, (Ar .i64 (y13 + 1) (fun c14 =>
 x13 [int .i64 c14] b14)) → a14 [] b14) →
 ∀ d14, d14 = z13.drew →
 ∃ e14 f14 g14, d14.cell? ((nb a1).add 3) = some (slice e14 f14 g14) ∧
 Ar .i64 ((1000 : Int) + y13) (fun h14 =>
 NilC k (fun i14 =>
 (0 : Int) ≤ y13 ∧ y13 < (l : Int) ∧
 ∃ j14, d14.cell? ((i14.add (y13.toNat * 2)).add 1) = some (string j14) ∧
 (∀ k14, k14 = d14.alloc (.cells #[] 105) →
 (k14.cell? ((i14.add (y13.toNat * 2)).add 1) = some (string j14) ∧ True) ∧
 (k14.cell? ((nb a1).add 3) = some (slice e14 f14 g14) ∧ True) ∧
 (∃ l14 m14 n14 o14, (Builtin.append_ #[25, 25] 25 #[slice (some (nb d14)) 0 0, slice e14 f14 g14]).run Tryz.prog k14 = .ok (slice l14 m14 n14) o14 ∧
 (o14.cell? ((i14.add (y13.toNat * 2)).add 1) = some (string j14) ∧ True) ∧
 ∀ p14, p14 = o14.alloc (.cells #[int .i64 h14, string j14] 105) →
 ∃ q14 r14 s14 t14, (Builtin.append_ #[25, 25] 25 #[slice l14 m14 n14, slice (some (nb o14)) 1 1]).run Tryz.prog p14 = .ok (slice q14 r14 s14) t14 ∧
 CP 90 #[slice q14 r14 s14] t14 (fun u14 v14 =>
 ∃ x14 y14, u14 = .returned (tuple #[int .i64 x14, int .i64 y14]) ∧
 CondP (y14 == 0)
 ((slice q14 r14 s14).oneCell' = true ∧ (∃ u, v14.cell? ((nb a1).add 3) = some u) ∧ v14.frozen? ((nb a1).add 3) = false ∧
 ∀ z14, z14 = (v14.setCell ((nb a1).add 3) (slice q14 r14 s14)) →
 a14 [] z14)
 (a14 [] v14))) ∧
 (∀ a15, a15 = k14.alloc (.cells #[int .i64 h14, string j14] 105) →
 (a15.cell? ((nb a1).add 3) = some (slice e14 f14 g14) ∧ True) ∧
 ∃ b15 c15 d15 e15, (Builtin.append_ #[25, 25] 25 #[slice (some (nb d14)) 0 0, slice e14 f14 g14]).run Tryz.prog a15 = .ok (slice b15 c15 d15) e15 ∧
 ∃ f15 g15 h15 i15, (Builtin.append_ #[25, 25] 25 #[slice b15 c15 d15, slice (some (nb k14)) 1 1]).run Tryz.prog e15 = .ok (slice f15 g15 h15) i15 ∧
 CP 90 #[slice f15 g15 h15] i15 (fun j15 k15 =>
 ∃ l15 m15, j15 = .returned (tuple #[int .i64 l15, int .i64 m15]) ∧
 CondP (m15 == 0)
 ((slice f15 g15 h15).oneCell' = true ∧ (∃ u, k15.cell? ((nb a1).add 3) = some u) ∧ k15.frozen? ((nb a1).add 3) = false ∧
 ∀ n15, n15 = (k15.setCell ((nb a1).add 3) (slice f15 g15 h15)) →
 a14 [] n15)
 (a14 [] k15)))) ∧
 (∀ o15, o15 = d14.alloc (.cells #[int .i64 h14, string j14] 105) →
 (o15.cell? ((nb a1).add 3) = some (slice e14 f14 g14) ∧ True) ∧
 ∀ p15, p15 = o15.alloc (.cells #[] 105) →
 (p15.cell? ((nb a1).add 3) = some (slice e14 f14 g14) ∧ True) ∧
 ∃ q15 r15 s15 t15, (Builtin.append_ #[25, 25] 25 #[slice (some (nb o15)) 0 0, slice e14 f14 g14]).run Tryz.prog p15 = .ok (slice q15 r15 s15) t15 ∧
 ∃ u15 v15 x15 y15, (Builtin.append_ #[25, 25] 25 #[slice q15 r15 s15, slice (some (nb d14)) 1 1]).run Tryz.prog t15 = .ok (slice u15 v15 x15) y15 ∧
 CP 90 #[slice u15 v15 x15] y15 (fun z15 a16 =>
 ∃ b16 c16, z15 = .returned (tuple #[int .i64 b16, int .i64 c16]) ∧
 CondP (c16 == 0)
 ((slice u15 v15 x15).oneCell' = true ∧ (∃ u, a16.cell? ((nb a1).add 3) = some u) ∧ a16.frozen? ((nb a1).add 3) = false ∧
 ∀ d16, d16 = (a16.setCell ((nb a1).add 3) (slice u15 v15 x15)) →
 a14 [] d16)
 (a14 [] a16))))))
 (∃ e16 f16 g16 h16 i16 j16 k16 l16 m16 n16 o16 p16 q16 r16 s16 t16, (z13.cell? (nb a1) = some (bool e16) ∧ z13.cell? ((nb a1).add 1) = some (slice f16 g16 h16) ∧ z13.cell? ((nb a1).add 2) = some (slice i16 j16 k16) ∧ z13.cell? ((nb a1).add 3) = some (slice l16 m16 n16) ∧ z13.cell? ((nb a1).add 4) = some (slice o16 p16 q16) ∧ z13.cell? ((nb a1).add 5) = some (slice r16 s16 t16) ∧ True) ∧
 StoreP z13 (nb w) (fun u16 =>
 ∃ v16 x16 y16 z16 a17 b17 c17 d17 e17 f17 g17 h17 i17 j17 k17 l17, (u16.cell? (nb w) = some (bool v16) ∧ u16.cell? ((nb w).add 1) = some (slice x16 y16 z16) ∧ u16.cell? ((nb w).add 2) = some (slice a17 b17 c17) ∧ u16.cell? ((nb w).add 3) = some (slice d17 e17 f17) ∧ u16.cell? ((nb w).add 4) = some (slice g17 h17 i17) ∧ u16.cell? ((nb w).add 5) = some (slice j17 k17 l17) ∧ True) ∧
 R (agg #[bool v16, slice x16 y16 z16, slice a17 b17 c17, slice d17 e17 f17, slice g17 h17 i17, slice j17 k17 l17]) u16) [bool e16, slice f16 g16 h16, slice i16 j16 k16, slice l16 m16 n16, slice o16 p16 q16, slice r16 s16 t16] 0))
 (∃ m17 n17 o17 p17 q17 r17 s17 t17 u17 v17 x17 y17 z17 a18 b18 c18, (z13.cell? (nb a1) = some (bool m17) ∧ z13.cell? ((nb a1).add 1) = some (slice n17 o17 p17) ∧ z13.cell? ((nb a1).add 2) = some (slice q17 r17 s17) ∧ z13.cell? ((nb a1).add 3) = some (slice t17 u17 v17) ∧ z13.cell? ((nb a1).add 4) = some (slice x17 y17 z17) ∧ z13.cell? ((nb a1).add 5) = some (slice a18 b18 c18) ∧ True) ∧
 StoreP z13 (nb w) (fun d18 =>
 ∃ e18 f18 g18 h18 i18 j18 k18 l18 m18 n18 o18 p18 q18 r18 s18 t18, (d18.cell? (nb w) = some (bool e18) ∧ d18.cell? ((nb w).add 1) = some (slice f18 g18 h18) ∧ d18.cell? ((nb w).add 2) = some (slice i18 j18 k18) ∧ d18.cell? ((nb w).add 3) = some (slice l18 m18 n18) ∧ d18.cell? ((nb w).add 4) = some (slice o18 p18 q18) ∧ d18.cell? ((nb w).add 5) = some (slice r18 s18 t18) ∧ True) ∧
 R (agg #[bool e18, slice f18 g18 h18, slice i18 j18 k18, slice l18 m18 n18, slice o18 p18 q18, slice r18 s18 t18]) d18) [bool m17, slice n17 o17 p17, slice q17 r17 s17, slice t17 u17 v17, slice x17 y17 z17, slice a18 b18 c18] 0)) → x13 [int .i64 y13] z13) →
 x13 [int .i64 0] b13))
 (∀ u18 : KW, (∀ (v18 : Int) (x18 : World), (CondP (decide (v18 < (l : Int)))
 (CondP (decide (v18 < 6))
 (∀ y18 : KW, (∀ z18 : World, (Ar .i64 (v18 + 1) (fun a19 =>
 u18 [int .i64 a19] z18)) → y18 [] z18) →
 ∀ b19, b19 = x18.drew →
 ∃ c19 d19 e19, b19.cell? ((nb a1).add 3) = some (slice c19 d19 e19) ∧
 Ar .i64 ((1000 : Int) + v18) (fun f19 =>
 NilC k (fun g19 =>
 (0 : Int) ≤ v18 ∧ v18 < (l : Int) ∧
 ∃ h19, b19.cell? ((g19.add (v18.toNat * 2)).add 1) = some (string h19) ∧
 (∀ i19, i19 = b19.alloc (.cells #[] 105) →
 (i19.cell? ((g19.add (v18.toNat * 2)).add 1) = some (string h19) ∧ True) ∧
 (i19.cell? ((nb a1).add 3) = some (slice c19 d19 e19) ∧ True) ∧
 (∃ j19 k19 l19 m19, (Builtin.append_ #[25, 25] 25 #[slice (some (nb b19)) 0 0, slice c19 d19 e19]).run Tryz.prog i19 = .ok (slice j19 k19 l19) m19 ∧
 (m19.cell? ((g19.add (v18.toNat * 2)).add 1) = some (string h19) ∧ True) ∧
 ∀ n19, n19 = m19.alloc (.cells #[int .i64 f19, string h19] 105) →
 ∃ o19 p19 q19 r19, (Builtin.append_ #[25, 25] 25 #[slice j19 k19 l19, slice (some (nb m19)) 1 1]).run Tryz.prog n19 = .ok (slice o19 p19 q19) r19 ∧
 CP 90 #[slice o19 p19 q19] r19 (fun s19 t19 =>
 ∃ u19 v19, s19 = .returned (tuple #[int .i64 u19, int .i64 v19]) ∧
 CondP (v19 == 0)
 ((slice o19 p19 q19).oneCell' = true ∧ (∃ u, t19.cell? ((nb a1).add 3) = some u) ∧ t19.frozen? ((nb a1).add 3) = false ∧
 ∀ x19, x19 = (t19.setCell ((nb a1).add 3) (slice o19 p19 q19)) →
 y18 [] x19)
 (y18 [] t19))) ∧
 (∀ y19, y19 = i19.alloc (.cells #[int .i64 f19, string h19] 105) →
 (y19.cell? ((nb a1).add 3) = some (slice c19 d19 e19) ∧ True) ∧
 ∃ z19 a20 b20 c20, (Builtin.append_ #[25, 25] 25 #[slice (some (nb b19)) 0 0, slice c19 d19 e19]).run Tryz.prog y19 = .ok (slice z19 a20 b20) c20 ∧
 ∃ d20 e20 f20 g20, (Builtin.append_ #[25, 25] 25 #[slice z19 a20 b20, slice (some (nb i19)) 1 1]).run Tryz.prog c20 = .ok (slice d20 e20 f20) g20 ∧
 CP 90 #[slice d20 e20 f20] g20 (fun h20 i20 =>
 ∃ j20 k20, h20 = .returned (tuple #[int .i64 j20, int .i64 k20]) ∧
 CondP (k20 == 0)
 ((slice d20 e20 f20).oneCell' = true ∧ (∃ u, i20.cell? ((nb a1).add 3) = some u) ∧ i20.frozen? ((nb a1).add 3) = false ∧
 ∀ l20, l20 = (i20.setCell ((nb a1).add 3) (slice d20 e20 f20)) →
 y18 [] l20)
 (y18 [] i20)))) ∧
 (∀ m20, m20 = b19.alloc (.cells #[int .i64 f19, string h19] 105) →
 (m20.cell? ((nb a1).add 3) = some (slice c19 d19 e19) ∧ True) ∧
 ∀ n20, n20 = m20.alloc (.cells #[] 105) →
 (n20.cell? ((nb a1).add 3) = some (slice c19 d19 e19) ∧ True) ∧
 ∃ o20 p20 q20 r20, (Builtin.append_ #[25, 25] 25 #[slice (some (nb m20)) 0 0, slice c19 d19 e19]).run Tryz.prog n20 = .ok (slice o20 p20 q20) r20 ∧
 ∃ s20 t20 u20 v20, (Builtin.append_ #[25, 25] 25 #[slice o20 p20 q20, slice (some (nb b19)) 1 1]).run Tryz.prog r20 = .ok (slice s20 t20 u20) v20 ∧
 CP 90 #[slice s20 t20 u20] v20 (fun x20 y20 =>
 ∃ z20 a21, x20 = .returned (tuple #[int .i64 z20, int .i64 a21]) ∧
 CondP (a21 == 0)
 ((slice s20 t20 u20).oneCell' = true ∧ (∃ u, y20.cell? ((nb a1).add 3) = some u) ∧ y20.frozen? ((nb a1).add 3) = false ∧
 ∀ b21, b21 = (y20.setCell ((nb a1).add 3) (slice s20 t20 u20)) →
 y18 [] b21)
 (y18 [] y20))))))
 (∃ c21 d21 e21 f21 g21 h21 i21 j21 k21 l21 m21 n21 o21 p21 q21 r21, (x18.cell? (nb a1) = some (bool c21) ∧ x18.cell? ((nb a1).add 1) = some (slice d21 e21 f21) ∧ x18.cell? ((nb a1).add 2) = some (slice g21 h21 i21) ∧ x18.cell? ((nb a1).add 3) = some (slice j21 k21 l21) ∧ x18.cell? ((nb a1).add 4) = some (slice m21 n21 o21) ∧ x18.cell? ((nb a1).add 5) = some (slice p21 q21 r21) ∧ True) ∧
 StoreP x18 (nb w) (fun s21 =>
 ∃ t21 u21 v21 x21 y21 z21 a22 b22 c22 d22 e22 f22 g22 h22 i22 j22, (s21.cell? (nb w) = some (bool t21) ∧ s21.cell? ((nb w).add 1) = some (slice u21 v21 x21) ∧ s21.cell? ((nb w).add 2) = some (slice y21 z21 a22) ∧ s21.cell? ((nb w).add 3) = some (slice b22 c22 d22) ∧ s21.cell? ((nb w).add 4) = some (slice e22 f22 g22) ∧ s21.cell? ((nb w).add 5) = some (slice h22 i22 j22) ∧ True) ∧
 R (agg #[bool t21, slice u21 v21 x21, slice y21 z21 a22, slice b22 c22 d22, slice e22 f22 g22, slice h22 i22 j22]) s21) [bool c21, slice d21 e21 f21, slice g21 h21 i21, slice j21 k21 l21, slice m21 n21 o21, slice p21 q21 r21] 0))
 (∃ k22 l22 m22 n22 o22 p22 q22 r22 s22 t22 u22 v22 x22 y22 z22 a23, (x18.cell? (nb a1) = some (bool k22) ∧ x18.cell? ((nb a1).add 1) = some (slice l22 m22 n22) ∧ x18.cell? ((nb a1).add 2) = some (slice o22 p22 q22) ∧ x18.cell? ((nb a1).add 3) = some (slice r22 s22 t22) ∧ x18.cell? ((nb a1).add 4) = some (slice u22 v22 x22) ∧ x18.cell? ((nb a1).add 5) = some (slice y22 z22 a23) ∧ True) ∧
 StoreP x18 (nb w) (fun b23 =>
 ∃ c23 d23 e23 f23 g23 h23 i23 j23 k23 l23 m23 n23 o23 p23 q23 r23, (b23.cell? (nb w) = some (bool c23) ∧ b23.cell? ((nb w).add 1) = some (slice d23 e23 f23) ∧ b23.cell? ((nb w).add 2) = some (slice g23 h23 i23) ∧ b23.cell? ((nb w).add 3) = some (slice j23 k23 l23) ∧ b23.cell? ((nb w).add 4) = some (slice m23 n23 o23) ∧ b23.cell? ((nb w).add 5) = some (slice p23 q23 r23) ∧ True) ∧
 R (agg #[bool c23, slice d23 e23 f23, slice g23 h23 i23, slice j23 k23 l23, slice m23 n23 o23, slice p23 q23 r23]) b23) [bool k22, slice l22 m22 n22, slice o22 p22 q22, slice r22 s22 t22, slice u22 v22 x22, slice y22 z22 a23] 0)) → u18 [int .i64 v18] x18) →
 u18 [int .i64 0] b13)) → z12 [int .i64 a13] b13) →
 z12 [int .i64 0] i1)) → g1 [int .i64 h1] i1) →
 g1 [int .i64 0] f1) [bool false, slice b1 c1 d1, slice none 0 0, slice none 0 0, slice none 0 0, slice none 0 0] 0) [slice q r s, slice t x y] 0)
theorem vc54_calls (a : OA) (b c : Nat) (d : OA) (f g : Nat) (h : OA) (i j : Nat) (k : OA) (l m : Nat) (w : World) (R : RW) (hh : vc54 a b c d f g h i j k l m w R) : CR 54 #[slice a b c, slice d f g, slice h i j, slice k l m] w R :=
 cden (fn := Tryz.f54) (by kernel_rfl) (by kernel_rfl) (by kernel_rfl) (by kernel_rfl) (by kernel_rfl) hh
def vc55 (a : Bool) (b : OA) (c d : Nat) (f : OA) (g h : Nat) (i : OA) (j k : Nat) (l : OA) (m n : Nat) (o : OA) (p q : Nat) (w : World) (R : RW) : Prop :=
 ∀ r, r = w.alloc (.cells #[bool a, slice b c d, slice f g h, slice i j k, slice l m n, slice o p q] 87) →
 ∀ s, s = r.alloc (.cells #[slice none 0 0, slice none 0 0, slice none 0 0, slice none 0 0, slice none 0 0] 39) →
 ∃ t u x y z a1 b1 c1 d1 e1 f1 g1 h1 i1 j1 k1, (s.cell? (nb w) = some (bool t) ∧ s.cell? ((nb w).add 1) = some (slice u x y) ∧ s.cell? ((nb w).add 2) = some (slice z a1 b1) ∧ s.cell? ((nb w).add 3) = some (slice c1 d1 e1) ∧ s.cell? ((nb w).add 4) = some (slice f1 g1 h1) ∧ s.cell? ((nb w).add 5) = some (slice i1 j1 k1) ∧ True) ∧
 CP 91 #[agg #[bool t, slice u x y, slice z a1 b1, slice c1 d1 e1, slice f1 g1 h1, slice i1 j1 k1]] s (fun l1 m1 =>
 ∃ n1 o1 p1 q1 r1 s1 t1 u1 v1 x1 y1 z1 a2 b2 c2 d2 e2 f2, l1 = .returned (tuple #[agg #[slice n1 o1 p1, slice q1 r1 s1, slice t1 u1 v1, slice x1 y1 z1, slice a2 b2 c2], int .i64 d2, int .i64 e2, int .i64 f2]) ∧
 ∀ g2, g2 = m1.alloc (.cells #[slice none 0 0, slice none 0 0, slice none 0 0, slice none 0 0, slice none 0 0] 39) →
 StoreP g2 (nb m1) (fun h2 =>
 ∃ i2 j2 k2 l2 m2 n2 o2 p2 q2 r2 s2 t2 u2 v2 x2, (h2.cell? (nb m1) = some (slice i2 j2 k2) ∧ h2.cell? ((nb m1).add 1) = some (slice l2 m2 n2) ∧ h2.cell? ((nb m1).add 2) = some (slice o2 p2 q2) ∧ h2.cell? ((nb m1).add 3) = some (slice r2 s2 t2) ∧ h2.cell? ((nb m1).add 4) = some (slice u2 v2 x2) ∧ True) ∧
 StoreP h2 (nb r) (fun y2 =>
 ∃ z2 a3 b3 c3 d3 e3 f3 g3 h3 i3 j3 k3 l3 m3 n3, (y2.cell? (nb r) = some (slice z2 a3 b3) ∧ y2.cell? ((nb r).add 1) = some (slice c3 d3 e3) ∧ y2.cell? ((nb r).add 2) = some (slice f3 g3 h3) ∧ y2.cell? ((nb r).add 3) = some (slice i3 j3 k3) ∧ y2.cell? ((nb r).add 4) = some (slice l3 m3 n3) ∧ True) ∧
 R (agg #[slice z2 a3 b3, slice c3 d3 e3, slice f3 g3 h3, slice i3 j3 k3, slice l3 m3 n3]) y2) [slice i2 j2 k2, slice l2 m2 n2, slice o2 p2 q2, slice r2 s2 t2, slice u2 v2 x2] 0) [slice n1 o1 p1, slice q1 r1 s1, slice t1 u1 v1, slice x1 y1 z1, slice a2 b2 c2] 0)
theorem vc55_calls (a : Bool) (b : OA) (c d : Nat) (f : OA) (g h : Nat) (i : OA) (j k : Nat) (l : OA) (m n : Nat) (o : OA) (p q : Nat) (w : World) (R : RW) (hh : vc55 a b c d f g h i j k l m n o p q w R) : CR 55 #[agg #[bool a, slice b c d, slice f g h, slice i j k, slice l m n, slice o p q]] w R :=
 cden (fn := Tryz.f55) (by kernel_rfl) (by kernel_rfl) (by kernel_rfl) (by kernel_rfl) (by kernel_rfl) hh
def vc61 (a : OA) (b c : Nat) (d : OA) (f g : Nat) (h : Int) (w : World) (R : RW) : Prop :=
 ∀ i, i = w.alloc (.cells #[slice a b c, slice d f g] 35) →
 CondP (decide (h ≥ 0))
 (∃ j k l, i.cell? ((nb w).add 0) = some (slice j k l) ∧
 R (bool (decide (h < (k : Int)))) i)
 (R (bool false) i)
theorem vc61_calls (a : OA) (b c : Nat) (d : OA) (f g : Nat) (h : Int) (w : World) (R : RW) (hh : vc61 a b c d f g h w R) : CR 61 #[agg #[slice a b c, slice d f g], int .i64 h] w R :=
 cden (fn := Tryz.f61) (by kernel_rfl) (by kernel_rfl) (by kernel_rfl) (by kernel_rfl) (by kernel_rfl) hh
def vc62 (a : OA) (b c : Nat) (d : OA) (f g : Nat) (h : OA) (i j : Nat) (k : OA) (l m : Nat) (n : OA) (o p : Nat) (q : Int) (w : World) (R : RW) : Prop :=
 ∀ r, r = w.alloc (.cells #[slice a b c, slice d f g, slice h i j, slice k l m, slice n o p] 39) →
 ∀ s : KW, (∀ (t u : Int) (x : World), (∃ y z a1, x.cell? ((nb w).add 4) = some (slice y z a1) ∧
 CondP (decide (t < (z : Int)))
 (∃ b1 c1 d1, x.cell? ((nb w).add 4) = some (slice b1 c1 d1) ∧
 NilC b1 (fun e1 =>
 (0 : Int) ≤ t ∧ t < (c1 : Int) ∧
 ∃ f1, x.cell? ((e1.add (t.toNat * 2)).add 0) = some (int .i64 f1) ∧
 CondP (f1 == q)
 (Ar .i64 ((-1 : Int) - t) (fun g1 =>
 R (int .i64 g1) x))
 (Ar .i64 (t + 1) (fun h1 =>
 s [int .i64 h1, int .i64 u] x))))
 (R (int .i64 0) x)) → s [int .i64 t, int .i64 u] x) →
 s [int .i64 0, int .i64 0] r
theorem vc62_calls (a : OA) (b c : Nat) (d : OA) (f g : Nat) (h : OA) (i j : Nat) (k : OA) (l m : Nat) (n : OA) (o p : Nat) (q : Int) (w : World) (R : RW) (hh : vc62 a b c d f g h i j k l m n o p q w R) : CR 62 #[agg #[slice a b c, slice d f g, slice h i j, slice k l m, slice n o p], int .i64 q] w R :=
 cden (fn := Tryz.f62) (by kernel_rfl) (by kernel_rfl) (by kernel_rfl) (by kernel_rfl) (by kernel_rfl) hh
def vc65 (a : OA) (b c : Nat) (d : OA) (f g : Nat) (h : ByteArray) (w : World) (R : RW) : Prop :=
 ∀ i, i = w.alloc (.cells #[slice a b c, slice d f g] 37) →
 ∀ j : KW, (∀ (k : Int) (l : OA) (m n : Nat) (o : World), (CondP (decide (k < (h.size : Int)))
 (∀ p : KW, (∀ (q : OA) (r s : Nat) (t : World), (∀ x, x = t.drew →
 Ar .i64 ((r : Int) - 1) (fun y =>
 Ar .i64 ((r : Int) - 1) (fun z =>
 NilC q (fun a1 =>
 (0 : Int) ≤ z ∧ z < (r : Int) ∧
 ∃ b1, x.cell? (a1.add (z.toNat * 1)) = some (string b1) ∧
 Ar .i64 (k + 1) (fun c1 =>
 (0 : Int) ≤ k ∧ k ≤ c1 ∧ c1 ≤ (h.size : Int) ∧
 ((b1.size + (h.extract k.toNat c1.toNat : ByteArray).size : Nat) : Int) ≤ IntKind.i64.max ∧
 NilC q (fun d1 =>
 (0 : Int) ≤ y ∧ y < (r : Int) ∧
 (string (b1 ++ (h.extract k.toNat c1.toNat : ByteArray))).oneCell' = true ∧ (∃ u, x.cell? (d1.add (y.toNat * 1)) = some u) ∧ x.frozen? (d1.add (y.toNat * 1)) = false ∧
 ∀ e1, e1 = (x.setCell (d1.add (y.toNat * 1)) (string (b1 ++ (h.extract k.toNat c1.toNat : ByteArray)))) →
 Ar .i64 (k + 1) (fun f1 =>
 j [int .i64 f1, slice q r s] e1))))))) → p [slice q r s] t) →
 ∀ g1, g1 = o.drew →
 CondP (k == 0)
 (∀ h1, h1 = g1.alloc (.cells #[string ⟨#[]⟩] 9) →
 ∃ i1 j1 k1 l1, (Builtin.append_ #[32, 32] 32 #[slice l m n, slice (some (nb g1)) 1 1]).run Tryz.prog h1 = .ok (slice i1 j1 k1) l1 ∧
 p [slice i1 j1 k1] l1)
 (∃ m1 n1 o1 p1 q1 r1, (g1.cell? (nb w) = some (slice m1 n1 o1) ∧ g1.cell? ((nb w).add 1) = some (slice p1 q1 r1) ∧ True) ∧
 Ar .i64 (k - 1) (fun s1 =>
 (0 : Int) ≤ s1 ∧ s1 < (h.size : Int) ∧
 (0 : Int) ≤ k ∧ k < (h.size : Int) ∧
 CP 108 #[agg #[slice m1 n1 o1, slice p1 q1 r1], int .u8 (btAt h s1), int .u8 (btAt h k)] g1 (fun t1 u1 =>
 ∃ v1, t1 = .returned (bool v1) ∧
 CondP v1
 (∀ x1, x1 = u1.alloc (.cells #[string ⟨#[]⟩] 9) →
 ∃ y1 z1 a2 b2, (Builtin.append_ #[32, 32] 32 #[slice l m n, slice (some (nb u1)) 1 1]).run Tryz.prog x1 = .ok (slice y1 z1 a2) b2 ∧
 p [slice y1 z1 a2] b2)
 (p [slice l m n] u1)))))
 (R (slice l m n) o)) → j [int .i64 k, slice l m n] o) →
 j [int .i64 0, slice none 0 0] i
theorem vc65_calls (a : OA) (b c : Nat) (d : OA) (f g : Nat) (h : ByteArray) (w : World) (R : RW) (hh : vc65 a b c d f g h w R) : CR 65 #[agg #[slice a b c, slice d f g], string h] w R :=
 cden (fn := Tryz.f65) (by kernel_rfl) (by kernel_rfl) (by kernel_rfl) (by kernel_rfl) (by kernel_rfl) hh
def vc66 (a : OA) (b c : Nat) (d : OA) (f g : Nat) (h : ByteArray) (w : World) (R : RW) : Prop :=
 ∀ i, i = w.alloc (.cells #[slice a b c, slice d f g] 35) →
 ∃ j k l m n o, (i.cell? (nb w) = some (slice j k l) ∧ i.cell? ((nb w).add 1) = some (slice m n o) ∧ True) ∧
 ∃ p q r, i.cell? ((nb w).add 0) = some (slice p q r) ∧
 CP 109 #[agg #[slice j k l, slice m n o], string h, int .i64 (q : Int)] i (fun s t =>
 ∃ u x y, s = .returned (slice u x y) ∧
 R (slice u x y) t)
theorem vc66_calls (a : OA) (b c : Nat) (d : OA) (f g : Nat) (h : ByteArray) (w : World) (R : RW) (hh : vc66 a b c d f g h w R) : CR 66 #[agg #[slice a b c, slice d f g], string h] w R :=
 cden (fn := Tryz.f66) (by kernel_rfl) (by kernel_rfl) (by kernel_rfl) (by kernel_rfl) (by kernel_rfl) hh
def vc87 (a : OA) (b c : Nat) (w : World) (R : RW) : Prop :=
 ∀ d : KW, (∀ (f : Int) (g : Bool) (h : World), (CondP (decide (f < (b : Int)))
 (NilC a (fun i =>
 (0 : Int) ≤ f ∧ f < (b : Int) ∧
 ∃ j, h.cell? ((i.add (f.toNat * 2)).add 1) = some (string j) ∧
 CondP (decide (((j.size : Int) : Int) > 100))
 (R (bool true) h)
 (Ar .i64 (f + 1) (fun k =>
 d [int .i64 k, bool g] h))))
 (R (bool (decide ((b : Int) > 40))) h)) → d [int .i64 f, bool g] h) →
 d [int .i64 0, bool false] w
theorem vc87_calls (a : OA) (b c : Nat) (w : World) (R : RW) (hh : vc87 a b c w R) : CR 87 #[slice a b c] w R :=
 cden (fn := Tryz.f87) (by kernel_rfl) (by kernel_rfl) (by kernel_rfl) (by kernel_rfl) (by kernel_rfl) hh
def vc88 (a : OA) (b c : Nat) (w : World) (R : RW) : Prop :=
 ∀ d, d = w.alloc (.cells #[slice none 0 0, slice none 0 0] 35) →
 CP 150 #[] d (fun f g =>
 ∃ h i j k l m, f = .returned (agg #[slice h i j, slice k l m]) ∧
 ∀ n, n = g.alloc (.cells #[slice none 0 0, slice none 0 0] 35) →
 StoreP n (nb g) (fun o =>
 ∀ p : KW, (∀ (q : Int) (r : World), (Ar .i64 (q + 1) (fun s =>
 CondP (decide (s < (b : Int)))
 (CondP (decide (q < 60))
 (∀ t : KW, (∀ u : World, (Ar .i64 (q + 2) (fun x =>
 p [int .i64 x] u)) → t [] u) →
 ∀ y, y = r.drew →
 NilC a (fun z =>
 (0 : Int) ≤ q ∧ q < (b : Int) ∧
 ∃ a1, y.cell? (z.add (q.toNat * 1)) = some (int .u16 a1) ∧
 ∃ b1 c1 d1, y.cell? ((nb g).add 0) = some (slice b1 c1 d1) ∧
 ∃ e1 f1 g1, y.cell? ((nb g).add 1) = some (slice e1 f1 g1) ∧
 Ar .i64 ((c1 : Int) + (f1 : Int)) (fun h1 =>
 h1 ≠ 0 ∧
 Ar .i64 (q + 1) (fun i1 =>
 NilC a (fun j1 =>
 (0 : Int) ≤ i1 ∧ i1 < (b : Int) ∧
 ∃ k1, y.cell? (j1.add (i1.toNat * 1)) = some (int .u16 k1) ∧
 ∃ l1 m1 n1, y.cell? ((nb g).add 0) = some (slice l1 m1 n1) ∧
 ∃ o1 p1 q1, y.cell? ((nb g).add 1) = some (slice o1 p1 q1) ∧
 Ar .i64 ((m1 : Int) + (p1 : Int)) (fun r1 =>
 r1 ≠ 0 ∧
 ∀ s1 : KW, (∀ (t1 : Int) (u1 : World), (∀ v1 : KW, (∀ (x1 : Int) (y1 : World), (∃ z1 a2 b2 c2 d2 e2, (y1.cell? (nb g) = some (slice z1 a2 b2) ∧ y1.cell? ((nb g).add 1) = some (slice c2 d2 e2) ∧ True) ∧
 CP 151 #[agg #[slice z1 a2 b2, slice c2 d2 e2], agg #[int .i64 t1, int .i64 x1]] y1 (fun f2 g2 =>
 ∃ h2 i2 j2 k2 l2 m2 n2, f2 = .returned (tuple #[agg #[slice h2 i2 j2, slice k2 l2 m2], int .i64 n2]) ∧
 ∀ o2, o2 = g2.alloc (.cells #[slice none 0 0, slice none 0 0] 35) →
 StoreP o2 (nb g2) (fun p2 =>
 CondP (n2 == 0)
 (∃ q2 r2 s2 t2 u2 v2, (p2.cell? (nb g2) = some (slice q2 r2 s2) ∧ p2.cell? ((nb g2).add 1) = some (slice t2 u2 v2) ∧ True) ∧
 StoreP p2 (nb g) (fun x2 =>
 t [] x2) [slice q2 r2 s2, slice t2 u2 v2] 0)
 (t [] p2)) [slice h2 i2 j2, slice k2 l2 m2] 0)) → v1 [int .i64 x1] y1) →
 ∃ y2 z2 a3, u1.cell? ((nb g).add 0) = some (slice y2 z2 a3) ∧
 CondP (decide ((Int.tmod (IntKind.wrap .i64 k1) r1 : Int) ≥ (z2 : Int)))
 (Ar .i64 ((256 : Int) + (Int.tmod (IntKind.wrap .i64 k1) r1)) (fun b3 =>
 ∃ c3 d3 e3, u1.cell? ((nb g).add 0) = some (slice c3 d3 e3) ∧
 Ar .i64 (b3 - (d3 : Int)) (fun f3 =>
 v1 [int .i64 f3] u1)))
 (v1 [int .i64 (Int.tmod (IntKind.wrap .i64 k1) r1)] u1)) → s1 [int .i64 t1] u1) →
 ∃ g3 h3 i3, y.cell? ((nb g).add 0) = some (slice g3 h3 i3) ∧
 CondP (decide ((Int.tmod (IntKind.wrap .i64 a1) h1 : Int) ≥ (h3 : Int)))
 (Ar .i64 ((256 : Int) + (Int.tmod (IntKind.wrap .i64 a1) h1)) (fun j3 =>
 ∃ k3 l3 m3, y.cell? ((nb g).add 0) = some (slice k3 l3 m3) ∧
 Ar .i64 (j3 - (l3 : Int)) (fun n3 =>
 s1 [int .i64 n3] y)))
 (s1 [int .i64 (Int.tmod (IntKind.wrap .i64 a1) h1)] y)))))))
 (∃ o3 p3 q3 r3 s3 t3, (r.cell? (nb g) = some (slice o3 p3 q3) ∧ r.cell? ((nb g).add 1) = some (slice r3 s3 t3) ∧ True) ∧
 StoreP r (nb w) (fun u3 =>
 ∃ v3 x3 y3 z3 a4 b4, (u3.cell? (nb w) = some (slice v3 x3 y3) ∧ u3.cell? ((nb w).add 1) = some (slice z3 a4 b4) ∧ True) ∧
 R (agg #[slice v3 x3 y3, slice z3 a4 b4]) u3) [slice o3 p3 q3, slice r3 s3 t3] 0))
 (∃ c4 d4 e4 f4 g4 h4, (r.cell? (nb g) = some (slice c4 d4 e4) ∧ r.cell? ((nb g).add 1) = some (slice f4 g4 h4) ∧ True) ∧
 StoreP r (nb w) (fun i4 =>
 ∃ j4 k4 l4 m4 n4 o4, (i4.cell? (nb w) = some (slice j4 k4 l4) ∧ i4.cell? ((nb w).add 1) = some (slice m4 n4 o4) ∧ True) ∧
 R (agg #[slice j4 k4 l4, slice m4 n4 o4]) i4) [slice c4 d4 e4, slice f4 g4 h4] 0))) → p [int .i64 q] r) →
 p [int .i64 0] o) [slice h i j, slice k l m] 0)
theorem vc88_calls (a : OA) (b c : Nat) (w : World) (R : RW) (hh : vc88 a b c w R) : CR 88 #[slice a b c] w R :=
 cden (fn := Tryz.f88) (by kernel_rfl) (by kernel_rfl) (by kernel_rfl) (by kernel_rfl) (by kernel_rfl) hh
def vc89 (a : OA) (b c : Nat) (d : OA) (f g : Nat) (w : World) (R : RW) : Prop :=
 ∀ h, h = w.alloc (.cells #[slice a b c, slice d f g] 37) →
 ∀ i : KW, (∀ (j : Int) (k : Bool) (l : World), (∃ m n o, l.cell? ((nb w).add 0) = some (slice m n o) ∧
 CondP (decide (j < (n : Int)))
 (∃ p q r, l.cell? ((nb w).add 0) = some (slice p q r) ∧
 NilC p (fun s =>
 (0 : Int) ≤ j ∧ j < (q : Int) ∧
 ∃ t u x, (l.cell? (s.add (j.toNat * 3)) = some (int .i64 t) ∧ l.cell? ((s.add (j.toNat * 3)).add 1) = some (int .i64 u) ∧ l.cell? ((s.add (j.toNat * 3)).add 2) = some (int .i64 x) ∧ True) ∧
 ∀ y, y = l.alloc (.cells #[int .i64 0, int .i64 0, int .i64 0] 158) →
 StoreP y (nb l) (fun z =>
 ∃ a1, z.cell? ((nb l).add 0) = some (int .i64 a1) ∧
 CondP (decide (a1 < 0))
 (R (bool false) z)
 (∃ b1, z.cell? ((nb l).add 1) = some (int .i64 b1) ∧
 ∃ c1, z.cell? ((nb l).add 0) = some (int .i64 c1) ∧
 CondP (decide (b1 < c1))
 (R (bool false) z)
 (∃ d1, z.cell? ((nb l).add 1) = some (int .i64 d1) ∧
 CondP (decide (d1 > 255))
 (R (bool false) z)
 (∃ e1, z.cell? ((nb l).add 2) = some (int .i64 e1) ∧
 CondP (decide (e1 < 0))
 (R (bool false) z)
 (∃ f1, z.cell? ((nb l).add 2) = some (int .i64 f1) ∧
 CondP (decide (f1 > 15))
 (R (bool false) z)
 (Ar .i64 (j + 1) (fun g1 =>
 i [int .i64 g1, bool k] z))))))) [int .i64 t, int .i64 u, int .i64 x] 0))
 (∀ h1 : KW, (∀ (i1 : Int) (j1 : Bool) (k1 : World), (∃ l1 m1 n1, k1.cell? ((nb w).add 1) = some (slice l1 m1 n1) ∧
 CondP (decide (i1 < (m1 : Int)))
 (∃ o1 p1 q1, k1.cell? ((nb w).add 1) = some (slice o1 p1 q1) ∧
 NilC o1 (fun r1 =>
 (0 : Int) ≤ i1 ∧ i1 < (p1 : Int) ∧
 ∃ s1 t1, (k1.cell? (r1.add (i1.toNat * 2)) = some (int .i64 s1) ∧ k1.cell? ((r1.add (i1.toNat * 2)).add 1) = some (int .i64 t1) ∧ True) ∧
 ∀ u1, u1 = k1.alloc (.cells #[int .i64 0, int .i64 0] 159) →
 StoreP u1 (nb k1) (fun v1 =>
 ∃ x1, v1.cell? ((nb k1).add 0) = some (int .i64 x1) ∧
 CondP (decide (x1 < 0))
 (R (bool false) v1)
 (∃ y1, v1.cell? ((nb k1).add 0) = some (int .i64 y1) ∧
 CondP (decide (y1 > 15))
 (R (bool false) v1)
 (∃ z1, v1.cell? ((nb k1).add 1) = some (int .i64 z1) ∧
 CondP (decide (z1 < 0))
 (R (bool false) v1)
 (∃ a2, v1.cell? ((nb k1).add 1) = some (int .i64 a2) ∧
 CondP (decide (a2 > 15))
 (R (bool false) v1)
 (Ar .i64 (i1 + 1) (fun b2 =>
 h1 [int .i64 b2, bool j1] v1)))))) [int .i64 s1, int .i64 t1] 0))
 (R (bool true) k1)) → h1 [int .i64 i1, bool j1] k1) →
 h1 [int .i64 0, bool k] l)) → i [int .i64 j, bool k] l) →
 i [int .i64 0, bool false] h
theorem vc89_calls (a : OA) (b c : Nat) (d : OA) (f g : Nat) (w : World) (R : RW) (hh : vc89 a b c d f g w R) : CR 89 #[agg #[slice a b c, slice d f g]] w R :=
 cden (fn := Tryz.f89) (by kernel_rfl) (by kernel_rfl) (by kernel_rfl) (by kernel_rfl) (by kernel_rfl) hh
def vc90 (a : OA) (b c : Nat) (w : World) (R : RW) : Prop :=
 ∀ d : KW, (∀ (f g h : Int) (i : World), (CondP (decide (f < (b : Int)))
 (NilC a (fun j =>
 (0 : Int) ≤ f ∧ f < (b : Int) ∧
 ∃ k, i.cell? ((j.add (f.toNat * 2)).add 0) = some (int .i64 k) ∧
 CondP (decide (k < 0))
 (R (tuple #[int .i64 f, int .i64 1]) i)
 (NilC a (fun l =>
 (0 : Int) ≤ f ∧ f < (b : Int) ∧
 ∃ m, i.cell? ((l.add (f.toNat * 2)).add 0) = some (int .i64 m) ∧
 CondP (decide (m > 1073741824))
 (R (tuple #[int .i64 f, int .i64 1]) i)
 (NilC a (fun n =>
 (0 : Int) ≤ f ∧ f < (b : Int) ∧
 ∃ o, i.cell? ((n.add (f.toNat * 2)).add 1) = some (string o) ∧
 CondP (decide (((o.size : Int) : Int) < 1))
 (R (tuple #[int .i64 f, int .i64 1]) i)
 (NilC a (fun p =>
 (0 : Int) ≤ f ∧ f < (b : Int) ∧
 ∃ q, i.cell? ((p.add (f.toNat * 2)).add 1) = some (string q) ∧
 CondP (decide (((q.size : Int) : Int) > 64))
 (R (tuple #[int .i64 f, int .i64 1]) i)
 (CondP (decide (f ≥ 32))
 (R (tuple #[int .i64 f, int .i64 3]) i)
 (∀ r : KW, (∀ (s t u : Int) (x : World), (CondP (decide (s < f))
 (∀ y, y = x.drew →
 NilC a (fun z =>
 (0 : Int) ≤ s ∧ s < (b : Int) ∧
 ∃ a1, y.cell? ((z.add (s.toNat * 2)).add 0) = some (int .i64 a1) ∧
 NilC a (fun b1 =>
 (0 : Int) ≤ f ∧ f < (b : Int) ∧
 ∃ c1, y.cell? ((b1.add (f.toNat * 2)).add 0) = some (int .i64 c1) ∧
 CondP (a1 == c1)
 (R (tuple #[int .i64 f, int .i64 10]) y)
 (NilC a (fun d1 =>
 (0 : Int) ≤ s ∧ s < (b : Int) ∧
 ∃ e1, y.cell? ((d1.add (s.toNat * 2)).add 1) = some (string e1) ∧
 NilC a (fun f1 =>
 (0 : Int) ≤ f ∧ f < (b : Int) ∧
 ∃ g1, y.cell? ((f1.add (f.toNat * 2)).add 1) = some (string g1) ∧
 CondP (e1.toList == g1.toList)
 (R (tuple #[int .i64 f, int .i64 10]) y)
 (Ar .i64 (s + 1) (fun h1 =>
 r [int .i64 h1, int .i64 t, int .i64 u] y))))))))
 (Ar .i64 (f + 1) (fun i1 =>
 d [int .i64 i1, int .i64 t, int .i64 u] x))) → r [int .i64 s, int .i64 t, int .i64 u] x) →
 r [int .i64 0, int .i64 g, int .i64 h] i))))))))))
 (R (tuple #[int .i64 (b : Int), int .i64 0]) i)) → d [int .i64 f, int .i64 g, int .i64 h] i) →
 d [int .i64 0, int .i64 0, int .i64 0] w
theorem vc90_calls (a : OA) (b c : Nat) (w : World) (R : RW) (hh : vc90 a b c w R) : CR 90 #[slice a b c] w R :=
 cden (fn := Tryz.f90) (by kernel_rfl) (by kernel_rfl) (by kernel_rfl) (by kernel_rfl) (by kernel_rfl) hh
def vc91 (a : Bool) (b : OA) (c d : Nat) (f : OA) (g h : Nat) (i : OA) (j k : Nat) (l : OA) (m n : Nat) (o : OA) (p q : Nat) (w : World) (R : RW) : Prop :=
 ∀ r, r = w.alloc (.cells #[bool a, slice b c d, slice f g h, slice i j k, slice l m n, slice o p q] 87) →
 ∀ s, s = r.alloc (.cells #[slice none 0 0, slice none 0 0, slice none 0 0, slice none 0 0, slice none 0 0] 39) →
 ∃ t u x y z a1 b1 c1 d1 e1 f1 g1 h1 i1 j1 k1, (s.cell? (nb w) = some (bool t) ∧ s.cell? ((nb w).add 1) = some (slice u x y) ∧ s.cell? ((nb w).add 2) = some (slice z a1 b1) ∧ s.cell? ((nb w).add 3) = some (slice c1 d1 e1) ∧ s.cell? ((nb w).add 4) = some (slice f1 g1 h1) ∧ s.cell? ((nb w).add 5) = some (slice i1 j1 k1) ∧ True) ∧
 CP 152 #[agg #[bool t, slice u x y, slice z a1 b1, slice c1 d1 e1, slice f1 g1 h1, slice i1 j1 k1]] s (fun l1 m1 =>
 ∃ n1 o1 p1 q1 r1 s1 t1 u1, l1 = .returned (tuple #[agg #[slice n1 o1 p1, slice q1 r1 s1], int .i64 t1, int .i64 u1]) ∧
 ∀ v1, v1 = m1.alloc (.cells #[slice none 0 0, slice none 0 0] 35) →
 StoreP v1 (nb m1) (fun x1 =>
 CondP (u1 != 0)
 (StoreP x1 (nb r) (fun y1 =>
 ∃ z1 a2 b2 c2 d2 e2 f2 g2 h2 i2 j2 k2 l2 m2 n2, (y1.cell? (nb r) = some (slice z1 a2 b2) ∧ y1.cell? ((nb r).add 1) = some (slice c2 d2 e2) ∧ y1.cell? ((nb r).add 2) = some (slice f2 g2 h2) ∧ y1.cell? ((nb r).add 3) = some (slice i2 j2 k2) ∧ y1.cell? ((nb r).add 4) = some (slice l2 m2 n2) ∧ True) ∧
 R (tuple #[agg #[slice z1 a2 b2, slice c2 d2 e2, slice f2 g2 h2, slice i2 j2 k2, slice l2 m2 n2], int .i64 1, int .i64 t1, int .i64 u1]) y1) [slice none 0 0, slice none 0 0, slice none 0 0, slice none 0 0, slice none 0 0] 0)
 (∃ o2 p2 q2, x1.cell? ((nb w).add 3) = some (slice o2 p2 q2) ∧
 CP 90 #[slice o2 p2 q2] x1 (fun r2 s2 =>
 ∃ t2 u2, r2 = .returned (tuple #[int .i64 t2, int .i64 u2]) ∧
 CondP (u2 != 0)
 (StoreP s2 (nb r) (fun v2 =>
 ∃ x2 y2 z2 a3 b3 c3 d3 e3 f3 g3 h3 i3 j3 k3 l3, (v2.cell? (nb r) = some (slice x2 y2 z2) ∧ v2.cell? ((nb r).add 1) = some (slice a3 b3 c3) ∧ v2.cell? ((nb r).add 2) = some (slice d3 e3 f3) ∧ v2.cell? ((nb r).add 3) = some (slice g3 h3 i3) ∧ v2.cell? ((nb r).add 4) = some (slice j3 k3 l3) ∧ True) ∧
 R (tuple #[agg #[slice x2 y2 z2, slice a3 b3 c3, slice d3 e3 f3, slice g3 h3 i3, slice j3 k3 l3], int .i64 2, int .i64 t2, int .i64 u2]) v2) [slice none 0 0, slice none 0 0, slice none 0 0, slice none 0 0, slice none 0 0] 0)
 (∀ m3 : KW, (∀ (n3 o3 p3 q3 : Int) (r3 : World), (∃ s3 t3 u3, r3.cell? ((nb w).add 3) = some (slice s3 t3 u3) ∧
 CondP (decide (n3 < (t3 : Int)))
 (∀ v3, v3 = r3.drew →
 ∃ x3 y3 z3, v3.cell? ((nb w).add 3) = some (slice x3 y3 z3) ∧
 NilC x3 (fun a4 =>
 (0 : Int) ≤ n3 ∧ n3 < (y3 : Int) ∧
 ∃ b4, v3.cell? ((a4.add (n3.toNat * 2)).add 0) = some (int .i64 b4) ∧
 ∃ c4 d4 e4, v3.cell? ((nb m1).add 0) = some (slice c4 d4 e4) ∧
 CondP (decide (b4 < (d4 : Int)))
 (StoreP v3 (nb r) (fun f4 =>
 ∃ g4 h4 i4 j4 k4 l4 m4 n4 o4 p4 q4 r4 s4 t4 u4, (f4.cell? (nb r) = some (slice g4 h4 i4) ∧ f4.cell? ((nb r).add 1) = some (slice j4 k4 l4) ∧ f4.cell? ((nb r).add 2) = some (slice m4 n4 o4) ∧ f4.cell? ((nb r).add 3) = some (slice p4 q4 r4) ∧ f4.cell? ((nb r).add 4) = some (slice s4 t4 u4) ∧ True) ∧
 R (tuple #[agg #[slice g4 h4 i4, slice j4 k4 l4, slice m4 n4 o4, slice p4 q4 r4, slice s4 t4 u4], int .i64 2, int .i64 n3, int .i64 4]) f4) [slice none 0 0, slice none 0 0, slice none 0 0, slice none 0 0, slice none 0 0] 0)
 (Ar .i64 (n3 + 1) (fun v4 =>
 m3 [int .i64 v4, int .i64 o3, int .i64 p3, int .i64 q3] v3))))
 (∃ x4 y4 z4 a5 b5 c5, (r3.cell? (nb m1) = some (slice x4 y4 z4) ∧ r3.cell? ((nb m1).add 1) = some (slice a5 b5 c5) ∧ True) ∧
 ∃ d5 e5 f5, r3.cell? ((nb w).add 4) = some (slice d5 e5 f5) ∧
 ∃ g5 h5 i5, r3.cell? ((nb w).add 5) = some (slice g5 h5 i5) ∧
 ∃ j5 k5 l5, r3.cell? ((nb w).add 3) = some (slice j5 k5 l5) ∧
 StoreP r3 (nb r) (fun m5 =>
 ∃ n5 o5 p5 q5 r5 s5 t5 u5 v5 x5 y5 z5 a6 b6 c6, (m5.cell? (nb r) = some (slice n5 o5 p5) ∧ m5.cell? ((nb r).add 1) = some (slice q5 r5 s5) ∧ m5.cell? ((nb r).add 2) = some (slice t5 u5 v5) ∧ m5.cell? ((nb r).add 3) = some (slice x5 y5 z5) ∧ m5.cell? ((nb r).add 4) = some (slice a6 b6 c6) ∧ True) ∧
 R (tuple #[agg #[slice n5 o5 p5, slice q5 r5 s5, slice t5 u5 v5, slice x5 y5 z5, slice a6 b6 c6], int .i64 0, int .i64 0, int .i64 0]) m5) [slice x4 y4 z4, slice a5 b5 c5, slice d5 e5 f5, slice g5 h5 i5, slice j5 k5 l5] 0)) → m3 [int .i64 n3, int .i64 o3, int .i64 p3, int .i64 q3] r3) →
 m3 [int .i64 0, int .i64 0, int .i64 0, int .i64 0] s2)))) [slice n1 o1 p1, slice q1 r1 s1] 0)
theorem vc91_calls (a : Bool) (b : OA) (c d : Nat) (f : OA) (g h : Nat) (i : OA) (j k : Nat) (l : OA) (m n : Nat) (o : OA) (p q : Nat) (w : World) (R : RW) (hh : vc91 a b c d f g h i j k l m n o p q w R) : CR 91 #[agg #[bool a, slice b c d, slice f g h, slice i j k, slice l m n, slice o p q]] w R :=
 cden (fn := Tryz.f91) (by kernel_rfl) (by kernel_rfl) (by kernel_rfl) (by kernel_rfl) (by kernel_rfl) hh
def vc108 (a : OA) (b c : Nat) (d : OA) (f g : Nat) (h i : Int) (w : World) (R : RW) : Prop :=
 ∀ j, j = w.alloc (.cells #[slice a b c, slice d f g] 37) →
 ∀ k, k = j.drew →
 ∃ l m n o p q, (k.cell? (nb w) = some (slice l m n) ∧ k.cell? ((nb w).add 1) = some (slice o p q) ∧ True) ∧
 ∃ r s t u x y, (k.cell? (nb w) = some (slice r s t) ∧ k.cell? ((nb w).add 1) = some (slice u x y) ∧ True) ∧
 CP 160 #[agg #[slice l m n, slice o p q], int .u8 h] k (fun z a1 =>
 ∃ b1, z = .returned (int .i64 b1) ∧
 (a1.cell? (nb w) = some (slice r s t) ∧ a1.cell? ((nb w).add 1) = some (slice u x y) ∧ True) ∧
 CP 160 #[agg #[slice r s t, slice u x y], int .u8 i] a1 (fun c1 d1 =>
 ∃ e1, c1 = .returned (int .i64 e1) ∧
 ∀ f1 : KW, (∀ (g1 : Int) (h1 : Bool) (i1 : World), (∃ j1 k1 l1, i1.cell? ((nb w).add 1) = some (slice j1 k1 l1) ∧
 CondP (decide (g1 < (k1 : Int)))
 (∃ m1 n1 o1, i1.cell? ((nb w).add 1) = some (slice m1 n1 o1) ∧
 NilC m1 (fun p1 =>
 (0 : Int) ≤ g1 ∧ g1 < (n1 : Int) ∧
 ∃ q1, i1.cell? ((p1.add (g1.toNat * 2)).add 0) = some (int .i64 q1) ∧
 CondP (q1 == b1)
 (∃ r1 s1 t1, i1.cell? ((nb w).add 1) = some (slice r1 s1 t1) ∧
 NilC r1 (fun u1 =>
 (0 : Int) ≤ g1 ∧ g1 < (s1 : Int) ∧
 ∃ v1, i1.cell? ((u1.add (g1.toNat * 2)).add 1) = some (int .i64 v1) ∧
 CondP (v1 == e1)
 (R (bool false) i1)
 (Ar .i64 (g1 + 1) (fun x1 =>
 f1 [int .i64 x1, bool h1] i1))))
 (Ar .i64 (g1 + 1) (fun y1 =>
 f1 [int .i64 y1, bool h1] i1))))
 (R (bool (b1 != e1)) i1)) → f1 [int .i64 g1, bool h1] i1) →
 f1 [int .i64 0, bool false] d1))
theorem vc108_calls (a : OA) (b c : Nat) (d : OA) (f g : Nat) (h i : Int) (w : World) (R : RW) (hh : vc108 a b c d f g h i w R) : CR 108 #[agg #[slice a b c, slice d f g], int .u8 h, int .u8 i] w R :=
 cden (fn := Tryz.f108) (by kernel_rfl) (by kernel_rfl) (by kernel_rfl) (by kernel_rfl) (by kernel_rfl) hh
def vc109 (a : OA) (b c : Nat) (d : OA) (f g : Nat) (h : ByteArray) (i : Int) (w : World) (R : RW) : Prop :=
 ∀ j, j = w.alloc (.cells #[slice a b c, slice d f g] 35) →
 ∀ k : KW, (∀ (l : Int) (m : OA) (n o : Nat) (p : World), (CondP (decide (l < (h.size : Int)))
 ((0 : Int) ≤ l ∧ l < (h.size : Int) ∧
 ∀ q, q = p.alloc (.cells #[int .i64 (IntKind.wrap .i64 (btAt h l))] 3) →
 ∃ r s t u, (Builtin.append_ #[28, 28] 28 #[slice m n o, slice (some (nb p)) 1 1]).run Tryz.prog q = .ok (slice r s t) u ∧
 Ar .i64 (l + 1) (fun x =>
 k [int .i64 x, slice r s t] u))
 (∀ y : KW, (∀ (z : Int) (a1 : OA) (b1 c1 : Nat) (d1 : World), (∃ e1 f1 g1, d1.cell? ((nb w).add 1) = some (slice e1 f1 g1) ∧
 CondP (decide (z < (f1 : Int)))
 (Ar .i64 ((256 : Int) + z) (fun h1 =>
 CondP (decide (h1 < i))
 (∀ i1 : KW, (∀ (j1 : Int) (k1 : OA) (l1 m1 : Nat) (n1 : World), (CondP (decide (j1 < (b1 : Int)))
 (∀ o1 : KW, (∀ (p1 : Int) (q1 : OA) (r1 s1 : Nat) (t1 : World), (Ar .i64 (p1 + 1) (fun u1 =>
 i1 [int .i64 u1, slice q1 r1 s1] t1)) → o1 [int .i64 p1, slice q1 r1 s1] t1) →
 ∀ v1, v1 = n1.drew →
 Ar .i64 (j1 + 1) (fun x1 =>
 CondP (decide (x1 < (b1 : Int)))
 (NilC a1 (fun y1 =>
 (0 : Int) ≤ j1 ∧ j1 < (b1 : Int) ∧
 ∃ z1, v1.cell? (y1.add (j1.toNat * 1)) = some (int .i64 z1) ∧
 ∃ a2 b2 c2, v1.cell? ((nb w).add 1) = some (slice a2 b2 c2) ∧
 NilC a2 (fun d2 =>
 (0 : Int) ≤ z ∧ z < (b2 : Int) ∧
 ∃ e2, v1.cell? ((d2.add (z.toNat * 2)).add 0) = some (int .i64 e2) ∧
 CondP (z1 == e2)
 (Ar .i64 (j1 + 1) (fun f2 =>
 NilC a1 (fun g2 =>
 (0 : Int) ≤ f2 ∧ f2 < (b1 : Int) ∧
 ∃ h2, v1.cell? (g2.add (f2.toNat * 1)) = some (int .i64 h2) ∧
 ∃ i2 j2 k2, v1.cell? ((nb w).add 1) = some (slice i2 j2 k2) ∧
 NilC i2 (fun l2 =>
 (0 : Int) ≤ z ∧ z < (j2 : Int) ∧
 ∃ m2, v1.cell? ((l2.add (z.toNat * 2)).add 1) = some (int .i64 m2) ∧
 CondP (h2 == m2)
 (Ar .i64 ((256 : Int) + z) (fun n2 =>
 ∀ o2, o2 = v1.alloc (.cells #[int .i64 n2] 3) →
 ∃ p2 q2 r2 s2, (Builtin.append_ #[28, 28] 28 #[slice k1 l1 m1, slice (some (nb v1)) 1 1]).run Tryz.prog o2 = .ok (slice p2 q2 r2) s2 ∧
 Ar .i64 (j1 + 1) (fun t2 =>
 o1 [int .i64 t2, slice p2 q2 r2] s2)))
 (NilC a1 (fun u2 =>
 (0 : Int) ≤ j1 ∧ j1 < (b1 : Int) ∧
 ∃ v2, v1.cell? (u2.add (j1.toNat * 1)) = some (int .i64 v2) ∧
 ∀ x2, x2 = v1.alloc (.cells #[int .i64 v2] 3) →
 ∃ y2 z2 a3 b3, (Builtin.append_ #[28, 28] 28 #[slice k1 l1 m1, slice (some (nb v1)) 1 1]).run Tryz.prog x2 = .ok (slice y2 z2 a3) b3 ∧
 o1 [int .i64 j1, slice y2 z2 a3] b3))))))
 (NilC a1 (fun c3 =>
 (0 : Int) ≤ j1 ∧ j1 < (b1 : Int) ∧
 ∃ d3, v1.cell? (c3.add (j1.toNat * 1)) = some (int .i64 d3) ∧
 ∀ e3, e3 = v1.alloc (.cells #[int .i64 d3] 3) →
 ∃ f3 g3 h3 i3, (Builtin.append_ #[28, 28] 28 #[slice k1 l1 m1, slice (some (nb v1)) 1 1]).run Tryz.prog e3 = .ok (slice f3 g3 h3) i3 ∧
 o1 [int .i64 j1, slice f3 g3 h3] i3)))))
 (NilC a1 (fun j3 =>
 (0 : Int) ≤ j1 ∧ j1 < (b1 : Int) ∧
 ∃ k3, v1.cell? (j3.add (j1.toNat * 1)) = some (int .i64 k3) ∧
 ∀ l3, l3 = v1.alloc (.cells #[int .i64 k3] 3) →
 ∃ m3 n3 o3 p3, (Builtin.append_ #[28, 28] 28 #[slice k1 l1 m1, slice (some (nb v1)) 1 1]).run Tryz.prog l3 = .ok (slice m3 n3 o3) p3 ∧
 o1 [int .i64 j1, slice m3 n3 o3] p3))))
 (Ar .i64 (z + 1) (fun q3 =>
 y [int .i64 q3, slice k1 l1 m1] n1))) → i1 [int .i64 j1, slice k1 l1 m1] n1) →
 i1 [int .i64 0, slice none 0 0] d1)
 (R (slice a1 b1 c1) d1)))
 (R (slice a1 b1 c1) d1)) → y [int .i64 z, slice a1 b1 c1] d1) →
 y [int .i64 0, slice m n o] p)) → k [int .i64 l, slice m n o] p) →
 k [int .i64 0, slice none 0 0] j
theorem vc109_calls (a : OA) (b c : Nat) (d : OA) (f g : Nat) (h : ByteArray) (i : Int) (w : World) (R : RW) (hh : vc109 a b c d f g h i w R) : CR 109 #[agg #[slice a b c, slice d f g], string h, int .i64 i] w R :=
 cden (fn := Tryz.f109) (by kernel_rfl) (by kernel_rfl) (by kernel_rfl) (by kernel_rfl) (by kernel_rfl) hh
def vc150 (w : World) (R : RW) : Prop :=
 ∀ a, a = w.alloc (.cells #[slice none 0 0, slice none 0 0] 35) →
 ∀ b, b = a.alloc (.cells #[slice none 0 0, slice none 0 0] 35) →
 StoreP b (nb a) (fun c =>
 ∀ d : KW, (∀ (f : Int) (g : World), (CondP (decide (f < 256))
 (∃ h i j, g.cell? ((nb a).add 0) = some (slice h i j) ∧
 ∀ k, k = g.alloc (.cells #[int .u8 (IntKind.wrap .u8 f)] 5) →
 ∃ l m, (convert 134 9 (slice (some (nb g)) 1 1)).run Tryz.prog k = .ok (string l) m ∧
 ∀ n, n = m.alloc (.cells #[string l] 9) →
 ∃ o p q r, (Builtin.append_ #[32, 32] 32 #[slice h i j, slice (some (nb m)) 1 1]).run Tryz.prog n = .ok (slice o p q) r ∧
 (slice o p q).oneCell' = true ∧ (∃ u, r.cell? ((nb a).add 0) = some u) ∧ r.frozen? ((nb a).add 0) = false ∧
 ∀ s, s = (r.setCell ((nb a).add 0) (slice o p q)) →
 Ar .i64 (f + 1) (fun t =>
 d [int .i64 t] s))
 (∃ x y z a1 b1 c1, (g.cell? (nb a) = some (slice x y z) ∧ g.cell? ((nb a).add 1) = some (slice a1 b1 c1) ∧ True) ∧
 StoreP g (nb w) (fun d1 =>
 ∃ e1 f1 g1 h1 i1 j1, (d1.cell? (nb w) = some (slice e1 f1 g1) ∧ d1.cell? ((nb w).add 1) = some (slice h1 i1 j1) ∧ True) ∧
 R (agg #[slice e1 f1 g1, slice h1 i1 j1]) d1) [slice x y z, slice a1 b1 c1] 0)) → d [int .i64 f] g) →
 d [int .i64 0] c) [slice none 0 0, slice none 0 0] 0
theorem vc150_calls (w : World) (R : RW) (hh : vc150 w R) : CR 150 #[] w R :=
 cden (fn := Tryz.f150) (by kernel_rfl) (by kernel_rfl) (by kernel_rfl) (by kernel_rfl) (by kernel_rfl) hh
def vc151 (a : OA) (b c : Nat) (d : OA) (f g : Nat) (h i : Int) (w : World) (R : RW) : Prop :=
 ∀ j, j = w.alloc (.cells #[slice a b c, slice d f g] 35) →
 ∀ k, k = j.alloc (.cells #[int .i64 h, int .i64 i] 89) →
 ∀ l, l = k.alloc (.cells #[slice none 0 0, slice none 0 0] 35) →
 ∃ m n o p q r, (l.cell? (nb w) = some (slice m n o) ∧ l.cell? ((nb w).add 1) = some (slice p q r) ∧ True) ∧
 ∃ s, l.cell? ((nb j).add 0) = some (int .i64 s) ∧
 CP 61 #[agg #[slice m n o, slice p q r], int .i64 s] l (fun t u =>
 ∃ x, t = .returned (bool x) ∧
 CondP (!x)
 (∃ y z a1 b1 c1 d1, (u.cell? (nb w) = some (slice y z a1) ∧ u.cell? ((nb w).add 1) = some (slice b1 c1 d1) ∧ True) ∧
 StoreP u (nb k) (fun e1 =>
 ∃ f1 g1 h1 i1 j1 k1, (e1.cell? (nb k) = some (slice f1 g1 h1) ∧ e1.cell? ((nb k).add 1) = some (slice i1 j1 k1) ∧ True) ∧
 R (tuple #[agg #[slice f1 g1 h1, slice i1 j1 k1], int .i64 4]) e1) [slice y z a1, slice b1 c1 d1] 0)
 (∃ l1 m1 n1 o1 p1 q1, (u.cell? (nb w) = some (slice l1 m1 n1) ∧ u.cell? ((nb w).add 1) = some (slice o1 p1 q1) ∧ True) ∧
 ∃ r1, u.cell? ((nb j).add 1) = some (int .i64 r1) ∧
 CP 61 #[agg #[slice l1 m1 n1, slice o1 p1 q1], int .i64 r1] u (fun s1 t1 =>
 ∃ u1, s1 = .returned (bool u1) ∧
 CondP (!u1)
 (∃ v1 x1 y1 z1 a2 b2, (t1.cell? (nb w) = some (slice v1 x1 y1) ∧ t1.cell? ((nb w).add 1) = some (slice z1 a2 b2) ∧ True) ∧
 StoreP t1 (nb k) (fun c2 =>
 ∃ d2 e2 f2 g2 h2 i2, (c2.cell? (nb k) = some (slice d2 e2 f2) ∧ c2.cell? ((nb k).add 1) = some (slice g2 h2 i2) ∧ True) ∧
 R (tuple #[agg #[slice d2 e2 f2, slice g2 h2 i2], int .i64 4]) c2) [slice v1 x1 y1, slice z1 a2 b2] 0)
 (∀ j2, j2 = t1.drew →
 ∃ k2 l2 m2, j2.cell? ((nb w).add 0) = some (slice k2 l2 m2) ∧
 ∃ n2, j2.cell? ((nb j).add 0) = some (int .i64 n2) ∧
 NilC k2 (fun o2 =>
 (0 : Int) ≤ n2 ∧ n2 < (l2 : Int) ∧
 ∃ p2, j2.cell? (o2.add (n2.toNat * 1)) = some (string p2) ∧
 ∃ q2 r2 s2, j2.cell? ((nb w).add 0) = some (slice q2 r2 s2) ∧
 ∃ t2, j2.cell? ((nb j).add 1) = some (int .i64 t2) ∧
 NilC q2 (fun u2 =>
 (0 : Int) ≤ t2 ∧ t2 < (r2 : Int) ∧
 ∃ v2, j2.cell? (u2.add (t2.toNat * 1)) = some (string v2) ∧
 ((p2.size + v2.size : Nat) : Int) ≤ IntKind.i64.max ∧
 CondP (decide ((((p2 ++ v2 : ByteArray).size : Int) : Int) > 64))
 (∃ x2 y2 z2 a3 b3 c3, (j2.cell? (nb w) = some (slice x2 y2 z2) ∧ j2.cell? ((nb w).add 1) = some (slice a3 b3 c3) ∧ True) ∧
 StoreP j2 (nb k) (fun d3 =>
 ∃ e3 f3 g3 h3 i3 j3, (d3.cell? (nb k) = some (slice e3 f3 g3) ∧ d3.cell? ((nb k).add 1) = some (slice h3 i3 j3) ∧ True) ∧
 R (tuple #[agg #[slice e3 f3 g3, slice h3 i3 j3], int .i64 3]) d3) [slice x2 y2 z2, slice a3 b3 c3] 0)
 (∃ k3 l3 m3, j2.cell? ((nb w).add 0) = some (slice k3 l3 m3) ∧
 CondP (decide ((l3 : Int) ≥ 1000))
 (∃ n3 o3 p3 q3 r3 s3, (j2.cell? (nb w) = some (slice n3 o3 p3) ∧ j2.cell? ((nb w).add 1) = some (slice q3 r3 s3) ∧ True) ∧
 StoreP j2 (nb k) (fun t3 =>
 ∃ u3 v3 x3 y3 z3 a4, (t3.cell? (nb k) = some (slice u3 v3 x3) ∧ t3.cell? ((nb k).add 1) = some (slice y3 z3 a4) ∧ True) ∧
 R (tuple #[agg #[slice u3 v3 x3, slice y3 z3 a4], int .i64 5]) t3) [slice n3 o3 p3, slice q3 r3 s3] 0)
 (∃ b4 c4 d4 e4 f4 g4, (j2.cell? (nb w) = some (slice b4 c4 d4) ∧ j2.cell? ((nb w).add 1) = some (slice e4 f4 g4) ∧ True) ∧
 CP 36 #[agg #[slice b4 c4 d4, slice e4 f4 g4], string (p2 ++ v2)] j2 (fun h4 i4 =>
 ∃ j4, h4 = .returned (int .i64 j4) ∧
 CondP (decide (j4 ≥ 0))
 (∃ k4 l4 m4 n4 o4 p4, (i4.cell? (nb w) = some (slice k4 l4 m4) ∧ i4.cell? ((nb w).add 1) = some (slice n4 o4 p4) ∧ True) ∧
 StoreP i4 (nb k) (fun q4 =>
 ∃ r4 s4 t4 u4 v4 x4, (q4.cell? (nb k) = some (slice r4 s4 t4) ∧ q4.cell? ((nb k).add 1) = some (slice u4 v4 x4) ∧ True) ∧
 R (tuple #[agg #[slice r4 s4 t4, slice u4 v4 x4], int .i64 10]) q4) [slice k4 l4 m4, slice n4 o4 p4] 0)
 (∃ y4 z4 a5, i4.cell? ((nb w).add 0) = some (slice y4 z4 a5) ∧
 ∃ b5 c5 d5 e5, (Builtin.append_ #[32, 32] 32 #[slice none 0 0, slice y4 z4 a5]).run Tryz.prog i4 = .ok (slice b5 c5 d5) e5 ∧
 ∃ f5 g5 h5, e5.cell? ((nb w).add 1) = some (slice f5 g5 h5) ∧
 ∃ i5 j5 k5 l5, (Builtin.append_ #[33, 33] 33 #[slice none 0 0, slice f5 g5 h5]).run Tryz.prog e5 = .ok (slice i5 j5 k5) l5 ∧
 ∀ m5, m5 = l5.drew →
 ∃ n5 o5, (m5.cell? (nb j) = some (int .i64 n5) ∧ m5.cell? ((nb j).add 1) = some (int .i64 o5) ∧ True) ∧
 (∀ p5, p5 = m5.alloc (.cells #[string (p2 ++ v2)] 9) →
 (p5.cell? (nb j) = some (int .i64 n5) ∧ p5.cell? ((nb j).add 1) = some (int .i64 o5) ∧ True) ∧
 (∃ q5 r5 s5 t5, (Builtin.append_ #[32, 32] 32 #[slice b5 c5 d5, slice (some (nb m5)) 1 1]).run Tryz.prog p5 = .ok (slice q5 r5 s5) t5 ∧
 (t5.cell? (nb j) = some (int .i64 n5) ∧ t5.cell? ((nb j).add 1) = some (int .i64 o5) ∧ True) ∧
 ∀ u5, u5 = t5.alloc (.cells #[int .i64 n5, int .i64 o5] 89) →
 ∃ v5 x5 y5 z5, (Builtin.append_ #[33, 33] 33 #[slice i5 j5 k5, slice (some (nb t5)) 1 1]).run Tryz.prog u5 = .ok (slice v5 x5 y5) z5 ∧
 StoreP z5 (nb k) (fun a6 =>
 ∃ b6 c6 d6 e6 f6 g6, (a6.cell? (nb k) = some (slice b6 c6 d6) ∧ a6.cell? ((nb k).add 1) = some (slice e6 f6 g6) ∧ True) ∧
 R (tuple #[agg #[slice b6 c6 d6, slice e6 f6 g6], int .i64 0]) a6) [slice q5 r5 s5, slice v5 x5 y5] 0) ∧
 (∀ h6, h6 = p5.alloc (.cells #[int .i64 n5, int .i64 o5] 89) →
 ∃ i6 j6 k6 l6, (Builtin.append_ #[32, 32] 32 #[slice b5 c5 d5, slice (some (nb m5)) 1 1]).run Tryz.prog h6 = .ok (slice i6 j6 k6) l6 ∧
 ∃ m6 n6 o6 p6, (Builtin.append_ #[33, 33] 33 #[slice i5 j5 k5, slice (some (nb p5)) 1 1]).run Tryz.prog l6 = .ok (slice m6 n6 o6) p6 ∧
 StoreP p6 (nb k) (fun q6 =>
 ∃ r6 s6 t6 u6 v6 x6, (q6.cell? (nb k) = some (slice r6 s6 t6) ∧ q6.cell? ((nb k).add 1) = some (slice u6 v6 x6) ∧ True) ∧
 R (tuple #[agg #[slice r6 s6 t6, slice u6 v6 x6], int .i64 0]) q6) [slice i6 j6 k6, slice m6 n6 o6] 0)) ∧
 (∀ y6, y6 = m5.alloc (.cells #[int .i64 n5, int .i64 o5] 89) →
 ∀ z6, z6 = y6.alloc (.cells #[string (p2 ++ v2)] 9) →
 ∃ a7 b7 c7 d7, (Builtin.append_ #[32, 32] 32 #[slice b5 c5 d5, slice (some (nb y6)) 1 1]).run Tryz.prog z6 = .ok (slice a7 b7 c7) d7 ∧
 ∃ e7 f7 g7 h7, (Builtin.append_ #[33, 33] 33 #[slice i5 j5 k5, slice (some (nb m5)) 1 1]).run Tryz.prog d7 = .ok (slice e7 f7 g7) h7 ∧
 StoreP h7 (nb k) (fun i7 =>
 ∃ j7 k7 l7 m7 n7 o7, (i7.cell? (nb k) = some (slice j7 k7 l7) ∧ i7.cell? ((nb k).add 1) = some (slice m7 n7 o7) ∧ True) ∧
 R (tuple #[agg #[slice j7 k7 l7, slice m7 n7 o7], int .i64 0]) i7) [slice a7 b7 c7, slice e7 f7 g7] 0)))))))))))
theorem vc151_calls (a : OA) (b c : Nat) (d : OA) (f g : Nat) (h i : Int) (w : World) (R : RW) (hh : vc151 a b c d f g h i w R) : CR 151 #[agg #[slice a b c, slice d f g], agg #[int .i64 h, int .i64 i]] w R :=
 cden (fn := Tryz.f151) (by kernel_rfl) (by kernel_rfl) (by kernel_rfl) (by kernel_rfl) (by kernel_rfl) hh
def vc152 (a : Bool) (b : OA) (c d : Nat) (f : OA) (g h : Nat) (i : OA) (j k : Nat) (l : OA) (m n : Nat) (o : OA) (p q : Nat) (w : World) (R : RW) : Prop :=
 ∀ r, r = w.alloc (.cells #[bool a, slice b c d, slice f g h, slice i j k, slice l m n, slice o p q] 87) →
 ∀ s, s = r.alloc (.cells #[slice none 0 0, slice none 0 0] 35) →
 ∃ t, s.cell? ((nb w).add 0) = some (bool t) ∧
 CondP t
 (∃ u x y, s.cell? ((nb w).add 2) = some (slice u x y) ∧
 CP 197 #[slice u x y] s (fun z a1 =>
 ∃ b1 c1 d1 e1 f1 g1 h1 i1, z = .returned (tuple #[agg #[slice b1 c1 d1, slice e1 f1 g1], int .i64 h1, int .i64 i1]) ∧
 StoreP a1 (nb r) (fun j1 =>
 ∃ k1 l1 m1 n1 o1 p1, (j1.cell? (nb r) = some (slice k1 l1 m1) ∧ j1.cell? ((nb r).add 1) = some (slice n1 o1 p1) ∧ True) ∧
 R (tuple #[agg #[slice k1 l1 m1, slice n1 o1 p1], int .i64 h1, int .i64 i1]) j1) [slice b1 c1 d1, slice e1 f1 g1] 0))
 (∃ q1 r1 s1, s.cell? ((nb w).add 1) = some (slice q1 r1 s1) ∧
 CP 198 #[slice q1 r1 s1] s (fun t1 u1 =>
 ∃ v1 x1 y1 z1 a2 b2 c2 d2, t1 = .returned (tuple #[agg #[slice v1 x1 y1, slice z1 a2 b2], int .i64 c2, int .i64 d2]) ∧
 StoreP u1 (nb r) (fun e2 =>
 ∃ f2 g2 h2 i2 j2 k2, (e2.cell? (nb r) = some (slice f2 g2 h2) ∧ e2.cell? ((nb r).add 1) = some (slice i2 j2 k2) ∧ True) ∧
 R (tuple #[agg #[slice f2 g2 h2, slice i2 j2 k2], int .i64 c2, int .i64 d2]) e2) [slice v1 x1 y1, slice z1 a2 b2] 0))
theorem vc152_calls (a : Bool) (b : OA) (c d : Nat) (f : OA) (g h : Nat) (i : OA) (j k : Nat) (l : OA) (m n : Nat) (o : OA) (p q : Nat) (w : World) (R : RW) (hh : vc152 a b c d f g h i j k l m n o p q w R) : CR 152 #[agg #[bool a, slice b c d, slice f g h, slice i j k, slice l m n, slice o p q]] w R :=
 cden (fn := Tryz.f152) (by kernel_rfl) (by kernel_rfl) (by kernel_rfl) (by kernel_rfl) (by kernel_rfl) hh
def vc160 (a : OA) (b c : Nat) (d : OA) (f g : Nat) (h : Int) (w : World) (R : RW) : Prop :=
 ∀ i, i = w.alloc (.cells #[slice a b c, slice d f g] 37) →
 ∃ j k l, i.cell? ((nb w).add 0) = some (slice j k l) ∧
 Ar .i64 ((k : Int) - 1) (fun m =>
 ∀ n : KW, (∀ (o p : Int) (q : World), (CondP (decide (o ≥ 0))
 (∃ r s t, q.cell? ((nb w).add 0) = some (slice r s t) ∧
 NilC r (fun u =>
 (0 : Int) ≤ o ∧ o < (s : Int) ∧
 ∃ x, q.cell? ((u.add (o.toNat * 3)).add 0) = some (int .i64 x) ∧
 CondP (decide ((IntKind.wrap .i64 h : Int) ≥ x))
 (∃ y z a1, q.cell? ((nb w).add 0) = some (slice y z a1) ∧
 NilC y (fun b1 =>
 (0 : Int) ≤ o ∧ o < (z : Int) ∧
 ∃ c1, q.cell? ((b1.add (o.toNat * 3)).add 1) = some (int .i64 c1) ∧
 CondP (decide ((IntKind.wrap .i64 h : Int) ≤ c1))
 (∃ d1 e1 f1, q.cell? ((nb w).add 0) = some (slice d1 e1 f1) ∧
 NilC d1 (fun g1 =>
 (0 : Int) ≤ o ∧ o < (e1 : Int) ∧
 ∃ h1, q.cell? ((g1.add (o.toNat * 3)).add 2) = some (int .i64 h1) ∧
 R (int .i64 h1) q))
 (Ar .i64 (o - 1) (fun i1 =>
 n [int .i64 i1, int .i64 p] q))))
 (Ar .i64 (o - 1) (fun j1 =>
 n [int .i64 j1, int .i64 p] q))))
 (R (int .i64 0) q)) → n [int .i64 o, int .i64 p] q) →
 n [int .i64 m, int .i64 0] i)
theorem vc160_calls (a : OA) (b c : Nat) (d : OA) (f g : Nat) (h : Int) (w : World) (R : RW) (hh : vc160 a b c d f g h w R) : CR 160 #[agg #[slice a b c, slice d f g], int .u8 h] w R :=
 cden (fn := Tryz.f160) (by kernel_rfl) (by kernel_rfl) (by kernel_rfl) (by kernel_rfl) (by kernel_rfl) hh
def vc198 (a : OA) (b c : Nat) (w : World) (R : RW) : Prop :=
 ∀ d, d = w.alloc (.cells #[slice none 0 0, slice none 0 0] 35) →
 CP 150 #[] d (fun f g =>
 ∃ h i j k l m, f = .returned (agg #[slice h i j, slice k l m]) ∧
 ∀ n, n = g.alloc (.cells #[slice none 0 0, slice none 0 0] 35) →
 StoreP n (nb g) (fun o =>
 ∀ p : KW, (∀ (q r s : Int) (t : World), (CondP (decide (q < (b : Int)))
 (∀ u, u = t.drew →
 ∃ x y z a1 b1 c1, (u.cell? (nb g) = some (slice x y z) ∧ u.cell? ((nb g).add 1) = some (slice a1 b1 c1) ∧ True) ∧
 NilC a (fun d1 =>
 (0 : Int) ≤ q ∧ q < (b : Int) ∧
 ∃ e1 f1, (u.cell? (d1.add (q.toNat * 2)) = some (int .i64 e1) ∧ u.cell? ((d1.add (q.toNat * 2)).add 1) = some (int .i64 f1) ∧ True) ∧
 (CP 151 #[agg #[slice x y z, slice a1 b1 c1], agg #[int .i64 e1, int .i64 f1]] u (fun g1 h1 =>
 ∃ i1 j1 k1 l1 m1 n1 o1, g1 = .returned (tuple #[agg #[slice i1 j1 k1, slice l1 m1 n1], int .i64 o1]) ∧
 ∀ p1, p1 = h1.alloc (.cells #[slice none 0 0, slice none 0 0] 35) →
 StoreP p1 (nb h1) (fun q1 =>
 CondP (o1 != 0)
 (∃ r1 s1 t1 u1 v1 x1, (q1.cell? (nb g) = some (slice r1 s1 t1) ∧ q1.cell? ((nb g).add 1) = some (slice u1 v1 x1) ∧ True) ∧
 StoreP q1 (nb w) (fun y1 =>
 ∃ z1 a2 b2 c2 d2 e2, (y1.cell? (nb w) = some (slice z1 a2 b2) ∧ y1.cell? ((nb w).add 1) = some (slice c2 d2 e2) ∧ True) ∧
 R (tuple #[agg #[slice z1 a2 b2, slice c2 d2 e2], int .i64 q, int .i64 o1]) y1) [slice r1 s1 t1, slice u1 v1 x1] 0)
 (∃ f2 g2 h2 i2 j2 k2, (q1.cell? (nb h1) = some (slice f2 g2 h2) ∧ q1.cell? ((nb h1).add 1) = some (slice i2 j2 k2) ∧ True) ∧
 StoreP q1 (nb g) (fun l2 =>
 Ar .i64 (q + 1) (fun m2 =>
 p [int .i64 m2, int .i64 r, int .i64 s] l2)) [slice f2 g2 h2, slice i2 j2 k2] 0)) [slice i1 j1 k1, slice l1 m1 n1] 0)) ∧
 (∀ n2, n2 = u.alloc (.cells #[slice none 0 0, slice none 0 0] 35) →
 (n2.cell? (d1.add (q.toNat * 2)) = some (int .i64 e1) ∧ n2.cell? ((d1.add (q.toNat * 2)).add 1) = some (int .i64 f1) ∧ True) ∧
 (n2.cell? (nb g) = some (slice x y z) ∧ n2.cell? ((nb g).add 1) = some (slice a1 b1 c1) ∧ True) ∧
 CP 151 #[agg #[slice x y z, slice a1 b1 c1], agg #[int .i64 e1, int .i64 f1]] n2 (fun o2 p2 =>
 ∃ q2 r2 s2 t2 u2 v2 x2, o2 = .returned (tuple #[agg #[slice q2 r2 s2, slice t2 u2 v2], int .i64 x2]) ∧
 StoreP p2 (nb u) (fun y2 =>
 CondP (x2 != 0)
 (∃ z2 a3 b3 c3 d3 e3, (y2.cell? (nb g) = some (slice z2 a3 b3) ∧ y2.cell? ((nb g).add 1) = some (slice c3 d3 e3) ∧ True) ∧
 StoreP y2 (nb w) (fun f3 =>
 ∃ g3 h3 i3 j3 k3 l3, (f3.cell? (nb w) = some (slice g3 h3 i3) ∧ f3.cell? ((nb w).add 1) = some (slice j3 k3 l3) ∧ True) ∧
 R (tuple #[agg #[slice g3 h3 i3, slice j3 k3 l3], int .i64 q, int .i64 x2]) f3) [slice z2 a3 b3, slice c3 d3 e3] 0)
 (∃ m3 n3 o3 p3 q3 r3, (y2.cell? (nb u) = some (slice m3 n3 o3) ∧ y2.cell? ((nb u).add 1) = some (slice p3 q3 r3) ∧ True) ∧
 StoreP y2 (nb g) (fun s3 =>
 Ar .i64 (q + 1) (fun t3 =>
 p [int .i64 t3, int .i64 r, int .i64 s] s3)) [slice m3 n3 o3, slice p3 q3 r3] 0)) [slice q2 r2 s2, slice t2 u2 v2] 0))))
 (∃ u3 v3 x3 y3 z3 a4, (t.cell? (nb g) = some (slice u3 v3 x3) ∧ t.cell? ((nb g).add 1) = some (slice y3 z3 a4) ∧ True) ∧
 StoreP t (nb w) (fun b4 =>
 ∃ c4 d4 e4 f4 g4 h4, (b4.cell? (nb w) = some (slice c4 d4 e4) ∧ b4.cell? ((nb w).add 1) = some (slice f4 g4 h4) ∧ True) ∧
 R (tuple #[agg #[slice c4 d4 e4, slice f4 g4 h4], int .i64 (b : Int), int .i64 0]) b4) [slice u3 v3 x3, slice y3 z3 a4] 0)) → p [int .i64 q, int .i64 r, int .i64 s] t) →
 p [int .i64 0, int .i64 0, int .i64 0] o) [slice h i j, slice k l m] 0)
theorem vc198_calls (a : OA) (b c : Nat) (w : World) (R : RW) (hh : vc198 a b c w R) : CR 198 #[slice a b c] w R :=
 cden (fn := Tryz.f198) (by kernel_rfl) (by kernel_rfl) (by kernel_rfl) (by kernel_rfl) (by kernel_rfl) hh
set_option linter.unusedSimpArgs false
open Go Go.RowKit
structure RtW where
 b : Sl
 m : Sl
abbrev RtW.v (x : RtW) : Value := .agg #[x.b.v, x.m.v]
structure RtAt (w : World) (x : RtW) (es : List Ent) : Prop where
 n1 : x.b.n = es.length
 r1 : Rw encStr 1 w x.b.a (es.map (·.1))
 k1 : SlOk x.b
 n2 : x.m.n = (mergesOf es).length
 r2 : Rw encPair 2 w x.m.a (mergesOf es)
 k2 : SlOk x.m
theorem RtAt.on {w w' : World} {x : RtW} {es : List Ent} (h : RtAt w x es) (hb : Below w.heap.size w w') : RtAt w' x es := ⟨h.n1, h.r1.on hb, h.k1, h.n2, h.r2.on hb, h.k2⟩
def Fresh (B : Nat) (x : RtW) : Prop := (∀ p, x.b.a = some p → B ≤ p.block) ∧ ∀ p, x.m.a = some p → B ≤ p.block
theorem Fresh.mono {B B' : Nat} {x : RtW} (h : Fresh B x) (hB : B' ≤ B) : Fresh B' x := ⟨fun p hp => Nat.le_trans hB (h.1 p hp), fun p hp => Nat.le_trans hB (h.2 p hp)⟩
theorem own_fresh {w : World} {B : Nat} {e : TypeId} {sz : Nat} {l : Sl} {xs : List Value} (h : w.ownsRow B e sz l.v l.n xs) : ∀ p, l.a = some p → B ≤ p.block := by
 intro p hp
 obtain ⟨la, ln, lc⟩ := l
 rcases h.2 with ⟨hv, _⟩ | ⟨g, cap, cur, hv, hB, _⟩
 ·cases hv
  cases hp
 ·cases hv
  cases hp
  exact hB
theorem refHas_spec (w : World) (x : RtW) (es : List Ent) (h : RtAt w x es) (id : Int) : CP 61 #[x.v, .int .i64 id] w fun e w' => e = .returned (.bool (decide (inTab es id))) ∧ Below w.heap.size w w' := by
 refine calls_ret (vc61_calls x.b.a x.b.n x.b.c x.m.a x.m.n x.m.c id w (fun u w' => u = .bool (decide (inTab es id)) ∧ Below w.heap.size w w') ?_) (by rintro v w' ⟨rfl, h⟩; exact ⟨rfl, h⟩)
 intro w1 hw1
 have hb1 : Below w.heap.size w w1 := by subst hw1; exact below_alloc _ _
 refine CondP.mk (fun h0 => ?_) fun h0 => ?_
 ·have h0 := of_decide_eq_true h0
  refine ⟨_, _, _, by subst hw1; rw [add_lit, cell_new]; rfl, ?_, hb1⟩
  congr 1
  rw [h.n1]
  exact decide_eq_decide.2 ⟨fun h => ⟨h0, h⟩, fun h => h.2⟩
 ·have h0 := of_decide_eq_false h0
  refine ⟨?_, hb1⟩
  rw [decide_eq_false (fun h => h0 h.1)]
def findI (es : List Ent) (s : Bs) : Int := idx (fun b => decide (b = s)) (es.map (·.1))
theorem refFind_spec (w : World) (x : RtW) (es : List Ent) (h : RtAt w x es) (hl : es.length ≤ 1000000) (s : Bs) : CP 36 #[x.v, .string (str s)] w fun e w' => e = .returned (.int .i64 (findI es s)) ∧ Below w.heap.size w w' := by
 refine calls_ret (vc36_calls x.b.a x.b.n x.b.c x.m.a x.m.n x.m.c (str s) w (fun u w' => u = .int .i64 (findI es s) ∧ Below w.heap.size w w') ?_) (by rintro v w' ⟨rfl, h⟩; exact ⟨rfl, h⟩)
 intro w1 hw1
 have hb1 : Below w.heap.size w w1 := by subst hw1; exact below_alloc _ _
 have c0 : w1.cell? ((nb w).add 0) = some (.slice x.b.a x.b.n x.b.c) := by subst hw1; rw [add_lit, cell_new]; rfl
 have hlen : (es.map (·.1)).length = es.length := by simp
 have hn := h.n1
 intro I hI
 have key := climb2 (α := Int) es.length (fun i _ => ∀ j (hj : j < (es.map (·.1)).length), j < i → decide ((es.map (·.1))[j] = s) = false) (fun i y => I [.int .i64 (i : Int), .int .i64 y] w1) 0 (fun j _ hj => absurd hj (Nat.not_lt_zero j)) ?_ ?_
 ·exact key
 ·rintro i hi ih y hb
  obtain ⟨q, hq, _, hcx⟩ := (h.r1.on hb1) i _ (List.getElem?_eq_getElem (show i < (es.map (·.1)).length by omega))
  have h0 := hcx 0 _ rfl
  rw [add_zero] at h0
  refine hI _ _ _ ⟨_, _, _, c0, CondP.yes (by simp; omega) ⟨_, _, _, c0, NilC.mk q hq ⟨by omega, by omega, _, h0, CondP.mk (fun h1 => ?_) fun h1 => ?_⟩⟩⟩
  ·rw [str_toList, str_toList] at h1
   have h1 : (es.map (·.1))[i]'(by omega) = s := by simpa using h1
   refine ⟨?_, hb1⟩
   unfold findI
   rw [idx_some (p := fun b => decide (b = s)) (xs := es.map (·.1)) (i := i) (by omega) (decide_eq_true h1) fun j hj => hb j (by omega) hj]
  ·rw [str_toList, str_toList] at h1
   have h1 : ¬ (es.map (·.1))[i]'(by omega) = s := by simpa using h1
   refine Ar.ok64 (by omega) (by omega) (ih y fun j hj hji => ?_)
   by_cases he : j = i
   ·subst he
    exact decide_eq_false h1
   ·exact hb j hj (by omega)
 ·rintro y hb
  refine hI _ _ _ ⟨_, _, _, c0, CondP.no (by simp; omega) ⟨?_, hb1⟩⟩
  unfold findI
  rw [idx_none (p := fun b => decide (b = s)) (xs := es.map (·.1)) fun j hj => hb j hj (by omega)]
theorem findI_iff (es : List Ent) (s : Bs) : findI es s ≥ 0 ↔ s ∈ es.map (·.1) := by
 have := idx_any (fun b => decide (b = s)) (es.map (·.1))
 unfold findI
 rw [← decide_eq_true_iff (p := idx _ _ ≥ 0), this, List.any_eq_true]
 constructor
 ·rintro ⟨b, hb, e⟩
  rw [← of_decide_eq_true e]
  exact hb
 ·intro h
  exact ⟨s, h, decide_eq_true rfl⟩
abbrev tRt : TypeId := 35
theorem ones_slices (a b : Sl) : ∀ v ∈ [a.v, b.v], v.oneCell' = true := by
 intro v hv
 simp only [List.mem_cons, List.not_mem_nil, or_false] at hv
 rcases hv with rfl | rfl <;> rfl
theorem agg2 {w : World} {b : Nat} {x y : Value} {e : TypeId} {fz : Nat × Nat} (h : w.heap[b]? = some (.cells #[x, y] e fz)) : w.cell? ⟨b, 0, none⟩ = some x ∧ w.cell? ((⟨b, 0, none⟩ : Addr).add 1) = some y ∧ True :=
 ⟨by have := ptr_add0 _ _ h 0; rw [add_zero] at this; exact this, ptr_add0 _ _ h 1, trivial⟩
theorem own_slOk {w : World} {B : Nat} {e : TypeId} {sz : Nat} {l : Sl} {xs : List Value} (h : w.ownsRow B e sz l.v l.n xs) : SlOk l := by
 obtain ⟨la, ln, lc⟩ := l
 rcases h.2 with ⟨hv, _⟩ | ⟨g, cap, cur, hv, _⟩
 ·cases hv
  exact .inl rfl
 ·cases hv
  exact .inr ⟨_, rfl⟩
theorem refBegin_spec (w : World) : CP 150 #[] w fun e w' => ∃ x : RtW, e = .returned x.v ∧ RtAt w' x begins ∧ Below w.heap.size w w' ∧ Fresh w.heap.size x := by
 refine calls_ret (vc150_calls w (fun u w' => ∃ x : RtW, u = x.v ∧ RtAt w' x begins ∧ Below w.heap.size w w' ∧ Fresh w.heap.size x) ?_) (by rintro v w' ⟨x, rfl, h⟩; exact ⟨x, rfl, h⟩)
 intro w1 hw1 w2 hw2
 have hz1 : w1.heap.size = w.heap.size + 1 := by subst hw1; exact alloc_size _ _
 have hb1 : Below w.heap.size w w1 := by subst hw1; exact below_alloc _ _
 have l1 : w1.heap[w.heap.size]? = some (.cells #[Value.slice none 0 0, Value.slice none 0 0] tRt (0, 0)) := by subst hw1; exact alloc_new _ _
 refine storeP_new [.slice none 0 0, .slice none 0 0] [.slice none 0 0, .slice none 0 0] rfl (ones_slices ⟨none, 0, 0⟩ ⟨none, 0, 0⟩) w2 hw2 ?_
 intro w3 h3 hz3 hB3
 have l3 := held_on hB3 l1
 intro I hI
 have key := climb2 (α := World) 256 (fun i x => ∃ l : Sl, x.heap[w1.heap.size]? = some (.cells #[l.v, Value.slice none 0 0] tRt (0, 0)) ∧ x.ownsRow w1.heap.size tStr 1 l.v l.n ((((List.range i).map byteEnt).map (·.1)).flatMap encStr) ∧ l.n = i ∧ l.v.ownBlock ≠ some w1.heap.size ∧ x.heap[w.heap.size]? = some (.cells #[Value.slice none 0 0, Value.slice none 0 0] tRt (0, 0)) ∧ Below w.heap.size w x ∧ w1.heap.size < x.heap.size) (fun i x => I [.int .i64 (i : Int)] x) w3 ⟨⟨none, 0, 0⟩, h3, own_nil _ _ _ _, rfl, (by intro h; cases h), l3, hb1.trans (hB3.mono hb1.size), by omega⟩ ?_ ?_
 ·exact key
 ·rintro i hi ih w4 ⟨l, h4, hown, hln, hoff, hl4, hB, hlt4⟩
  have hwr : IntKind.wrap .u8 (i : Int) = (i : Int) := wrap_in (by show (0 : Int) ≤ _; omega) (by show _ ≤ (255 : Int); omega)
  refine hI _ _ (CondP.yes (by simp; omega) ⟨_, _, _, ptr_add0 _ _ h4 0, ?_⟩)
  rw [hwr]
  rintro w5 rfl
  have hb5 := below_alloc w4 (.cells #[Value.int .u8 (i : Int)] 5)
  refine ⟨_, _, run_byte_str (P := Tryz.prog) (by kernel_rfl) (by kernel_rfl) (by kernel_rfl) w4 i hi, ?_⟩
  rintro w7 rfl
  have hrow5 := own_on hown hb5
  have h5 := held_on hb5 h4
  have hl5 := held_on hb5 hl4
  obtain ⟨a', c', w8, hr8, hu8, hf8, h9⟩ := obj_push1 (P := Tryz.prog) (s := l) 0 h5 (show 0 < 2 by decide) hrow5 hoff (Nat.le_refl _) tStrs undStrs infoStr rfl (by decide) (encStr [UInt8.ofNat i]) rfl (by intro u hu; rw [List.mem_singleton.1 hu]; rfl) (by omega) (by omega)
  refine ⟨a', l.n + 1, c', w8, hr8, rfl, hu8, hf8, ?_⟩
  intro w9 hw9
  obtain ⟨hblk9, hrow9, hoff9, hB9, hkeep9, hsz9, hnew9⟩ := h9 w9 hw9
  have hrange : ((List.range (i + 1)).map byteEnt).map (·.1) = ((List.range i).map byteEnt).map (·.1) ++ [[UInt8.ofNat i]] := by rw [List.range_succ]; simp [byteEnt]
  have hzz : (w4.alloc (.cells #[Value.int .u8 (i : Int)] 5)).heap.size = w4.heap.size + 1 := alloc_size _ _
  have hne : l.v.ownBlock ≠ some w.heap.size := fun e => by have := (own_lt hrow5 _ e).1; omega
  have hl9 : w9.heap[w.heap.size]? = some (.cells #[Value.slice none 0 0, Value.slice none 0 0] tRt (0, 0)) := by
   rw [hkeep9 w.heap.size (by omega) (by omega) hne]
   exact hl5
  refine Ar.ok64 (by omega) (by omega) (ih w9 ⟨⟨a', l.n + 1, c'⟩, hblk9, ?_, by show l.n + 1 = i + 1; omega, hoff9, hl9, ?_, by omega⟩)
  ·rw [hrange, List.flatMap_append]
   simpa using hrow9
  ·have hb45 : Below w1.heap.size w4 (w4.alloc (.cells #[Value.int .u8 (i : Int)] 5)) := hb5.mono (by omega)
   exact hB.trans ((hB9 w4 hb45).mono (by omega))
 ·rintro w4 ⟨l, h4, hown, hln, hoff, hl4, hB, hlt4⟩
  refine hI _ _ (CondP.no (by simp) ⟨_, _, _, _, _, _, agg2 h4, ?_⟩)
  refine storeP_cells hl4 [l.v, .slice none 0 0] rfl (ones_slices l ⟨none, 0, 0⟩) ?_
  intro w10 h10 hs10 hz10 hB10
  refine ⟨_, _, _, _, _, _, agg2 h10, ⟨l, ⟨none, 0, 0⟩⟩, rfl, ⟨?_, ?_, own_slOk hown, ?_, ?_, .inl rfl⟩, hB10 _ _ (Nat.le_refl _) hB, fun p hp => Nat.le_trans hb1.size (own_fresh hown p hp), fun p hp => (by cases hp)⟩
  ·rw [hln]
   simp [begins]
  ·have := own_same hown fun k hk => hs10 k fun e => by have := (own_lt hown k hk).1; omega
   exact (Rw.of_own this (fun _ => rfl) (by decide)).1
  ·simp [mergesOf, begins]
  ·intro j y hj
   simp [mergesOf, begins] at hj
theorem push_any {α : Type} {enc : α → List Value} {sz : Nat} (hsz : ∀ x, (enc x).length = sz) (h0 : 0 < sz) (h1 : ∀ x, ∀ u ∈ enc x, u.oneCell' = true) (t e : TypeId) {z : Value} {bytes : Nat} (ht : Tryz.prog.underlying t = some (.slice e)) (hi : (Tryz.prog.info? e).map (fun i => (i.zero, i.size, i.bytes)) = some (some z, sz, bytes)) (hzs : z.cells.size = sz)
  {B : Nat} {w : World} {s : Sl} {xs : List α} (hown : w.ownsRow B e sz s.v s.n (xs.flatMap enc)) (x : α) {b : Nat} {T : TypeId} {fz : Nat × Nat} (hb : w.heap[b]? = some (.cells (enc x).toArray T fz)) (hB : B ≤ w.heap.size) (hbytes : (s.n + 1) * bytes ≤ 140737488355328) (h63 : s.n + 1 ≤ 140737488355328) :
  ∃ A C w', (Builtin.append_ #[t, t] t #[.slice s.a s.n s.c, .slice (some ⟨b, 0, none⟩) 1 1]).run Tryz.prog w = .ok (.slice A (s.n + 1) C) w' ∧ w'.ownsRow B e sz (.slice A (s.n + 1) C) (s.n + 1) ((xs ++ [x]).flatMap enc) ∧ (∀ w0, Below B w0 w → Below B w0 w') ∧ (∀ k, k < w.heap.size → s.v.ownBlock ≠ some k → w'.heap[k]? = w.heap[k]?) := by
 obtain ⟨A, C, w', h2, h3, h4, h5⟩ := run_spread (P := Tryz.prog) t e ht hi hzs h0 hown ⟨some ⟨b, 0, none⟩, 1, 1⟩ (.inr ⟨_, rfl⟩) (enc x) (by rw [hsz, Nat.one_mul]) (by
  intro a ha j u hj
  cases ha
  rw [ptr_add0 _ _ hb]
  simpa using hj) (h1 x) hbytes h63 hB
 exact ⟨A, C, w', h2, by simpa using h3, h4, h5⟩
theorem copy_nil {α : Type} {enc : α → List Value} {sz : Nat} (hsz : ∀ x, (enc x).length = sz) (h0 : 0 < sz) (h1 : ∀ x, ∀ u ∈ enc x, u.oneCell' = true) (t e : TypeId) {z : Value} {bytes : Nat} (ht : Tryz.prog.underlying t = some (.slice e)) (hi : (Tryz.prog.info? e).map (fun i => (i.zero, i.size, i.bytes)) = some (some z, sz, bytes)) (hzs : z.cells.size = sz)
  (w : World) (s : Sl) (xs : List α) (hs : SlOk s) (hr : Rw enc sz w s.a xs) (hn : s.n = xs.length) (hbytes : s.n * bytes ≤ 140737488355328) (h63 : s.n ≤ 140737488355328) :
  ∃ A C w', (Builtin.append_ #[t, t] t #[.slice none 0 0, .slice s.a s.n s.c]).run Tryz.prog w = .ok (.slice A s.n C) w' ∧ w'.ownsRow w.heap.size e sz (.slice A s.n C) s.n (xs.flatMap enc) ∧ Below w.heap.size w w' := by
 obtain ⟨A, C, w', h2, h3, h4, _⟩ := run_spread (P := Tryz.prog) t e ht hi hzs h0 (own_nil w w.heap.size e sz) s hs (xs.flatMap enc) (by rw [flatMap_length hsz, hn]) (by
  intro a ha j u hj
  rw [ha] at hr
  exact hr.flat hsz h0 j u hj) (by
  intro u hu
  obtain ⟨x, _, hx⟩ := List.mem_flatMap.1 hu
  exact h1 x u hx) (by rw [Nat.zero_add]; exact hbytes) (by rw [Nat.zero_add]; exact h63) (Nat.le_refl _)
 rw [Nat.zero_add] at h2 h3
 exact ⟨A, C, w', h2, by simpa using h3, h4 w (Below.refl _ _)⟩
def RefAddR (w : World) (x : RtW) (es : List Ent) (m : Int × Int) (u : Value) (w' : World) : Prop := ∃ (x' : RtW) (n : Int), u = .tuple #[x'.v, .int .i64 n] ∧ Below w.heap.size w w' ∧ (match tokAdd es m with
 | .error n0 => n = n0 ∧ x' = x
 | .ok y => n = 0 ∧ RtAt w' x' (es ++ [y]) ∧ Fresh w.heap.size x')
theorem refAdd_spec (w : World) (x : RtW) (es : List Ent) (h : RtAt w x es) (hok : TOk es) (m : Int × Int) : CP 151 #[x.v, .agg #[.int .i64 m.1, .int .i64 m.2]] w fun e w' => ∃ u, e = .returned u ∧ RefAddR w x es m u w' := by
 refine vc151_calls x.b.a x.b.n x.b.c x.m.a x.m.n x.m.c m.1 m.2 w (RefAddR w x es m) ?_
 intro w1 hw1 w2 hw2 w3 hw3
 have hz1 : w1.heap.size = w.heap.size + 1 := by subst hw1; exact alloc_size _ _
 have hz2 : w2.heap.size = w.heap.size + 2 := by subst hw2; rw [alloc_size, hz1]
 have hz3 : w3.heap.size = w.heap.size + 3 := by subst hw3; rw [alloc_size, hz2]
 have hb1 : Below w.heap.size w w1 := by subst hw1; exact below_alloc _ _
 have hb2 : Below w1.heap.size w1 w2 := by subst hw2; exact below_alloc _ _
 have hb3 : Below w2.heap.size w2 w3 := by subst hw3; exact below_alloc _ _
 have l0 : w3.heap[w.heap.size]? = some (.cells #[x.b.v, x.m.v] tRt (0, 0)) := held_on hb3 (held_on hb2 (by subst hw1; exact alloc_new _ _))
 have l1 : w3.heap[w1.heap.size]? = some (.cells #[.int .i64 m.1, .int .i64 m.2] tMg (0, 0)) := held_on hb3 (by subst hw2; exact alloc_new _ _)
 have l2 : w3.heap[w2.heap.size]? = some (.cells #[Value.slice none 0 0, Value.slice none 0 0] tRt (0, 0)) := by subst hw3; exact alloc_new _ _
 have hb03 : Below w.heap.size w w3 := below_then hb1 (below_then hb2 hb3)
 have h3 := h.on hb03
 have hmost := hok.most
 have hlen := h.n1
 have fail : ∀ (n : Int) (wq : World), tokAdd es m = .error n → Below w3.heap.size w3 wq →
   ∃ g0A : Option Addr, ∃ g0N : Nat, ∃ g0C : Nat, ∃ g1A : Option Addr, ∃ g1N : Nat, ∃ g1C : Nat, (wq.cell? (nb w) = some (Value.slice g0A g0N g0C) ∧ wq.cell? ((nb w).add 1) = some (Value.slice g1A g1N g1C) ∧ True) ∧
   StoreP wq (nb w2) (fun w5 =>
   ∃ res0A : Option Addr, ∃ res0N : Nat, ∃ res0C : Nat, ∃ res1A : Option Addr, ∃ res1N : Nat, ∃ res1C : Nat, (w5.cell? (nb w2) = some (Value.slice res0A res0N res0C) ∧ w5.cell? ((nb w2).add 1) = some (Value.slice res1A res1N res1C) ∧ True) ∧
   RefAddR w x es m (Value.tuple #[Value.agg #[Value.slice res0A res0N res0C, Value.slice res1A res1N res1C], Value.int .i64 n]) w5) [Value.slice g0A g0N g0C, Value.slice g1A g1N g1C] 0 := by
  intro n wq hn hbq
  refine ⟨_, _, _, _, _, _, agg2 (held_on hbq l0), ?_⟩
  refine storeP_cells (held_on hbq l2) [x.b.v, x.m.v] rfl (ones_slices _ _) ?_
  intro w5 h5 hs5 hz5 hB5
  refine ⟨_, _, _, _, _, _, agg2 h5, x, n, rfl, (hB5 _ _ (by omega) (below_then hb03 hbq)), ?_⟩
  rw [hn]
  exact ⟨rfl, rfl⟩
 refine ⟨_, _, _, _, _, _, agg2 l0, m.1, ptr_add0 _ _ l1 0, ?_⟩
 refine (refHas_spec w3 x es h3 m.1).mono ?_
 rintro e w4 ⟨rfl, b4⟩
 refine ⟨_, rfl, CondP.mk (fun h0 => ?_) fun h0 => ⟨_, _, _, _, _, _, agg2 (held_on b4 l0), m.2, ptr_add0 _ _ (held_on b4 l1) 1, ?_⟩⟩
 ·have h0 : ¬ inTab es m.1 := by simpa using h0
  exact fail 4 w4 (by rw [tokAdd, if_pos fun h => h0 h.1]) b4
 have i1 : inTab es m.1 := by simpa using h0
 refine (refHas_spec w4 x es (h3.on b4) m.2).mono ?_
 rintro e w6 ⟨rfl, b6⟩
 have b36 := below_then b4 b6
 refine ⟨_, rfl, CondP.mk (fun h0 => ?_) fun h0 => ?_⟩
 ·have h0 : ¬ inTab es m.2 := by simpa using h0
  exact fail 4 w6 (by rw [tokAdd, if_pos fun h => h0 h.2]) b36
 have i2 : inTab es m.2 := by simpa using h0
 intro w8 hw8
 have b38 : Below w3.heap.size w3 w8 := by subst hw8; exact b36.drew
 have h8 := h3.on b38
 have l08 := held_on b38 l0
 have l18 := held_on b38 l1
 obtain ⟨x1, hx1, e1⟩ := bytesOf_at i1
 obtain ⟨x2, hx2, e2⟩ := bytesOf_at i2
 have hmap : ∀ (i : Nat) (y : Ent), es[i]? = some y → (es.map (·.1))[i]? = some y.1 := fun i y hy => by rw [List.getElem?_map, hy]; rfl
 obtain ⟨a1, ha1, _, hc1⟩ := h8.r1 _ _ (hmap _ _ hx1)
 obtain ⟨a2, ha2, _, hc2⟩ := h8.r1 _ _ (hmap _ _ hx2)
 have c1 := hc1 0 _ rfl
 have c2 := hc2 0 _ rfl
 rw [add_zero] at c1 c2
 have := i1.1
 have := i1.2
 have := i2.1
 have := i2.2
 have s1 := hok.short x1 (List.mem_of_getElem? hx1)
 have s2 := hok.short x2 (List.mem_of_getElem? hx2)
 refine ⟨_, _, _, ptr_add0 _ _ l08 0, m.1, ptr_add0 _ _ l18 0, NilC.mk a1 ha1 ⟨by omega, by omega, str x1.1, c1, _, _, _, ptr_add0 _ _ l08 0, m.2, ptr_add0 _ _ l18 1, NilC.mk a2 ha2 ⟨by omega, by omega, str x2.1, c2, ?_⟩⟩⟩
 have hj : str x1.1 ++ str x2.1 = str (joined es m) := by rw [str_append, joined, e1, e2]
 have hjl : (joined es m).length = x1.1.length + x2.1.length := by rw [joined, e1, e2, List.length_append]
 rw [hj]
 refine ⟨by rw [str_size, str_size]; show _ ≤ (9223372036854775807 : Int); omega, CondP.mk (fun h0 => ?_) fun h0 => ?_⟩
 ·have h0 := of_decide_eq_true h0
  rw [str_size] at h0
  exact fail 3 w8 (by rw [tokAdd, if_neg (Classical.not_not.2 ⟨i1, i2⟩), if_pos (by omega)]) b38
 have hs := of_decide_eq_false h0
 rw [str_size] at hs
 have hs : ¬ 64 < (joined es m).length := by omega
 refine ⟨_, _, _, ptr_add0 _ _ l08 0, CondP.mk (fun h0 => ?_) fun h0 => ⟨_, _, _, _, _, _, agg2 l08, ?_⟩⟩
 ·have h0 := of_decide_eq_true h0
  exact fail 5 w8 (by rw [tokAdd, if_neg (Classical.not_not.2 ⟨i1, i2⟩), if_neg hs, if_pos (by omega)]) b38
 have h0 := of_decide_eq_false h0
 have hk : ¬ 1000 ≤ es.length := by omega
 refine (refFind_spec w8 x es h8 (by omega) (joined es m)).mono ?_
 rintro e w11 ⟨rfl, b11⟩
 have b311 := below_then b38 b11
 refine ⟨_, rfl, CondP.mk (fun h1 => ?_) fun h1 => ?_⟩
 ·have h1 := (findI_iff es _).1 (of_decide_eq_true h1)
  exact fail 10 w11 (by rw [tokAdd, if_neg (Classical.not_not.2 ⟨i1, i2⟩), if_neg hs, if_neg hk, if_pos h1]) b311
 have hnew : joined es m ∉ es.map (·.1) := fun hm => of_decide_eq_false h1 ((findI_iff es _).2 hm)
 have hadd : tokAdd es m = .ok (joined es m, m) := by rw [tokAdd, if_neg (Classical.not_not.2 ⟨i1, i2⟩), if_neg hs, if_neg hk, if_neg hnew]
 have h11 := h8.on b11
 have l011 := held_on b11 l08
 have l111 := held_on b11 l18
 have l211 := held_on b311 l2
 have hz11 := b311.size
 obtain ⟨A1, C1, w13, hr13, o13, b13⟩ := copy_nil (enc := encStr) (sz := 1) (fun _ => rfl) (by decide) (fun y u hu => by rw [List.mem_singleton.1 hu]; rfl) tStrs tStr undStrs infoStr rfl w11 x.b (es.map (·.1)) h11.k1 h11.r1 (by rw [h11.n1]; simp) (by omega) (by omega)
 have h13 := h11.on b13
 have hmlen : (mergesOf es).length ≤ 1000 := by have := merges_length hok; omega
 have hn2 := h.n2
 obtain ⟨A2, C2, w14, hr14, o14, b14⟩ := copy_nil (enc := encPair) (sz := 2) (fun _ => rfl) (by decide) (fun y => ones_pair _ _) 33 tMg undMgs infoMg rfl w13 x.m (mergesOf es) h13.k2 h13.r2 h13.n2 (by omega) (by omega)
 refine ⟨_, _, _, ptr_add0 _ _ l011 0, A1, x.b.n, C1, w13, hr13, _, _, _, ptr_add0 _ _ (held_on b13 l011) 1, A2, x.m.n, C2, w14, hr14, ?_⟩
 intro w15 hw15
 have b15 : Below w11.heap.size w11 w15 := by subst hw15; exact (below_then b13 b14).drew
 have S15 : w15.ownsRow w11.heap.size tStr 1 (.slice A1 x.b.n C1) x.b.n ((es.map (·.1)).flatMap encStr) := by subst hw15; exact own_drew (own_on o13 b14)
 have P15 : w15.ownsRow w11.heap.size tMg 2 (.slice A2 x.m.n C2) x.m.n ((mergesOf es).flatMap encPair) := by subst hw15; exact own_base (own_drew o14) b13.size
 have pair_at : ∀ {wq : World}, Below w11.heap.size w11 wq → wq.heap[w1.heap.size]? = some (.cells #[.int .i64 m.1, .int .i64 m.2] tMg (0, 0)) := fun hb => Below.keeps hb (by omega) l111
 have fin : ∀ (wq : World) (S P : Sl), wq.ownsRow w11.heap.size tStr 1 S.v S.n (((es.map (·.1)) ++ [joined es m]).flatMap encStr) → wq.ownsRow w11.heap.size tMg 2 P.v P.n ((mergesOf es ++ [m]).flatMap encPair) → Below w11.heap.size w11 wq →
   StoreP wq (nb w2) (fun w5 =>
   ∃ res0A : Option Addr, ∃ res0N : Nat, ∃ res0C : Nat, ∃ res1A : Option Addr, ∃ res1N : Nat, ∃ res1C : Nat, (w5.cell? (nb w2) = some (Value.slice res0A res0N res0C) ∧ w5.cell? ((nb w2).add 1) = some (Value.slice res1A res1N res1C) ∧ True) ∧
   RefAddR w x es m (Value.tuple #[Value.agg #[Value.slice res0A res0N res0C, Value.slice res1A res1N res1C], Value.int .i64 0]) w5) [Value.slice S.a S.n S.c, Value.slice P.a P.n P.c] 0 := by
  intro wq S P hS hP hbq
  refine storeP_cells (Below.keeps hbq (by omega) l211) [S.v, P.v] rfl (ones_slices _ _) ?_
  intro w5 h5 hs5 hz5 hB5
  have S5 := own_same hS fun k hk => hs5 k fun e => by have := (own_lt hS k hk).1; omega
  have P5 := own_same hP fun k hk => hs5 k fun e => by have := (own_lt hP k hk).1; omega
  obtain ⟨rS, nS⟩ := Rw.of_own S5 (fun _ => rfl) (by decide)
  obtain ⟨rP, nP⟩ := Rw.of_own P5 (fun _ => rfl) (by decide)
  have hmap : (es ++ [(joined es m, m)]).map (·.1) = es.map (·.1) ++ [joined es m] := by simp
  have hmer : mergesOf (es ++ [(joined es m, m)]) = mergesOf es ++ [m] := by
   simp [mergesOf, List.drop_append_of_le_length hok.len]
  refine ⟨_, _, _, _, _, _, agg2 h5, ⟨S, P⟩, 0, rfl, hB5 _ _ (by omega) ((hb03.trans (b311.mono hb03.size)).trans (hbq.mono (by omega))), ?_⟩
  rw [hadd]
  refine ⟨rfl, ⟨by rw [nS]; simp, by rw [hmap]; exact rS, own_slOk S5, by rw [nP, hmer], by rw [hmer]; exact rP, own_slOk P5⟩, fun p hp => Nat.le_trans (hb03.trans (b311.mono hb03.size)).size (own_fresh S5 p hp), fun p hp => Nat.le_trans (hb03.trans (b311.mono hb03.size)).size (own_fresh P5 p hp)⟩
 have pushS : ∀ {wq : World} {b : Nat}, wq.ownsRow w11.heap.size tStr 1 (.slice A1 x.b.n C1) x.b.n ((es.map (·.1)).flatMap encStr) → wq.heap[b]? = some (.cells #[Value.string (str (joined es m))] tStr (0, 0)) → Below w11.heap.size w11 wq → _ := fun {wq} {b} h1 h2 h3 =>
  push_any (enc := encStr) (sz := 1) (fun _ => rfl) (by decide) (fun y u hu => by rw [List.mem_singleton.1 hu]; rfl) tStrs tStr undStrs infoStr rfl (s := ⟨A1, x.b.n, C1⟩) h1 (joined es m) h2 h3.size (by show (x.b.n + 1) * 16 ≤ _; omega) (by show x.b.n + 1 ≤ _; omega)
 have pushP : ∀ {wq : World} {b : Nat}, wq.ownsRow w11.heap.size tMg 2 (.slice A2 x.m.n C2) x.m.n ((mergesOf es).flatMap encPair) → wq.heap[b]? = some (.cells #[Value.int .i64 m.1, Value.int .i64 m.2] tMg (0, 0)) → Below w11.heap.size w11 wq → _ := fun {wq} {b} h1 h2 h3 =>
  push_any (enc := encPair) (sz := 2) (fun _ => rfl) (by decide) (fun y => ones_pair _ _) 33 tMg undMgs infoMg rfl (s := ⟨A2, x.m.n, C2⟩) h1 m h2 h3.size (by show (x.m.n + 1) * 16 ≤ _; omega) (by show x.m.n + 1 ≤ _; omega)
 refine ⟨m.1, m.2, agg2 (pair_at b15), ?_, ?_⟩
 ·intro w16 hw16
  have b16 : Below w11.heap.size w11 w16 := by subst hw16; exact b15.alloc b15.size _
  have c16 : Below w15.heap.size w15 w16 := by subst hw16; exact below_alloc _ _
  have s16 : w16.heap[w15.heap.size]? = some (.cells #[Value.string (str (joined es m))] tStr (0, 0)) := by subst hw16; exact alloc_new _ _
  refine ⟨agg2 (pair_at b16), ?_, ?_⟩
  ·obtain ⟨A3, C3, w17, hr17, o17, b17, k17⟩ := pushS (own_on S15 c16) s16 b16
   have bb17 := b17 _ b16
   refine ⟨A3, _, C3, w17, hr17, agg2 (pair_at bb17), ?_⟩
   intro w18 hw18
   have c18 : Below w17.heap.size w17 w18 := by subst hw18; exact below_alloc _ _
   have b18 : Below w11.heap.size w11 w18 := by subst hw18; exact bb17.alloc bb17.size _
   have m18 : w18.heap[w17.heap.size]? = some (.cells #[Value.int .i64 m.1, Value.int .i64 m.2] tMg (0, 0)) := by subst hw18; exact alloc_new _ _
   have P17 := own_same (own_on P15 c16) fun k hk => k17 k (own_lt (own_on P15 c16) k hk).2 (row_ne_row (own_on P15 c16) (own_on S15 c16) (by decide) k hk)
   obtain ⟨A4, C4, w19, hr19, o19, b19, k19⟩ := pushP (own_on P17 c18) m18 b18
   refine ⟨A4, _, C4, w19, hr19, ?_⟩
   have S18 := own_on o17 c18
   exact fin w19 ⟨A3, x.b.n + 1, C3⟩ ⟨A4, x.m.n + 1, C4⟩ (own_same S18 fun k hk => k19 k (own_lt S18 k hk).2 (row_ne_row S18 (own_on P17 c18) (by decide) k hk)) o19 (b19 _ b18)
  ·intro w21 hw21
   have c21 : Below w16.heap.size w16 w21 := by subst hw21; exact below_alloc _ _
   have b21 : Below w11.heap.size w11 w21 := by subst hw21; exact b16.alloc b16.size _
   have m21 : w21.heap[w16.heap.size]? = some (.cells #[Value.int .i64 m.1, Value.int .i64 m.2] tMg (0, 0)) := by subst hw21; exact alloc_new _ _
   have S21 := own_on (own_on S15 c16) c21
   have P21 := own_on (own_on P15 c16) c21
   obtain ⟨A3, C3, w22, hr22, o22, b22, k22⟩ := pushS S21 (held_on c21 s16) b21
   have P22 := own_same P21 fun k hk => k22 k (own_lt P21 k hk).2 (row_ne_row P21 S21 (by decide) k hk)
   have m22 : w22.heap[w16.heap.size]? = some (.cells #[Value.int .i64 m.1, Value.int .i64 m.2] tMg (0, 0)) := by
    rw [k22 _ (Array.getElem?_eq_some_iff.1 m21).1 (row_ne_blk S21 m21 (by decide))]
    exact m21
   obtain ⟨A4, C4, w23, hr23, o23, b23, k23⟩ := pushP P22 m22 (b22 _ b21)
   exact ⟨A3, _, C3, w22, hr22, A4, _, C4, w23, hr23, fin w23 ⟨A3, x.b.n + 1, C3⟩ ⟨A4, x.m.n + 1, C4⟩ (own_same o22 fun k hk => k23 k (own_lt o22 k hk).2 (row_ne_row o22 P22 (by decide) k hk)) o23 (b23 _ (b22 _ b21))⟩
 ·intro w25 hw25 w26 hw26
  have c25 : Below w15.heap.size w15 w25 := by subst hw25; exact below_alloc _ _
  have b25 : Below w11.heap.size w11 w25 := by subst hw25; exact b15.alloc b15.size _
  have m25 : w25.heap[w15.heap.size]? = some (.cells #[Value.int .i64 m.1, Value.int .i64 m.2] tMg (0, 0)) := by subst hw25; exact alloc_new _ _
  have c26 : Below w25.heap.size w25 w26 := by subst hw26; exact below_alloc _ _
  have b26 : Below w11.heap.size w11 w26 := by subst hw26; exact b25.alloc b25.size _
  have s26 : w26.heap[w25.heap.size]? = some (.cells #[Value.string (str (joined es m))] tStr (0, 0)) := by subst hw26; exact alloc_new _ _
  have S26 := own_on (own_on S15 c25) c26
  have P26 := own_on (own_on P15 c25) c26
  have m26 := held_on c26 m25
  obtain ⟨A3, C3, w27, hr27, o27, b27, k27⟩ := pushS S26 s26 b26
  have P27 := own_same P26 fun k hk => k27 k (own_lt P26 k hk).2 (row_ne_row P26 S26 (by decide) k hk)
  have m27 : w27.heap[w15.heap.size]? = some (.cells #[Value.int .i64 m.1, Value.int .i64 m.2] tMg (0, 0)) := by
   rw [k27 _ (Array.getElem?_eq_some_iff.1 m26).1 (row_ne_blk S26 m26 (by decide))]
   exact m26
  obtain ⟨A4, C4, w28, hr28, o28, b28, k28⟩ := pushP P27 m27 (b27 _ b26)
  exact ⟨A3, _, C3, w27, hr27, A4, _, C4, w28, hr28, fin w28 ⟨A3, x.b.n + 1, C3⟩ ⟨A4, x.m.n + 1, C4⟩ (own_same o27 fun k hk => k28 k (own_lt o27 k hk).2 (row_ne_row o27 P27 (by decide) k hk)) o28 (b28 _ (b27 _ b26))⟩
theorem slices_soft (a b : Sl) : ∀ v ∈ (#[a.v, b.v] : Array Value), ¬ Solid v := by
 intro v hv
 have hv : v = a.v ∨ v = b.v := by simpa using hv
 rcases hv with rfl | rfl <;> (rintro (⟨k, n, h⟩ | ⟨s, h⟩) <;> cases h)
theorem RtAt.past {w w' : World} {x : RtW} {es : List Ent} {b : Nat} {p q : Sl} {T : TypeId} {fz : Nat × Nat} (h : RtAt w x es) (hb : w.heap[b]? = some (.cells #[p.v, q.v] T fz)) (hne : ∀ j, j < w.heap.size → j ≠ b → w'.heap[j]? = w.heap[j]?) (hs : w.heap.size ≤ w'.heap.size) : RtAt w' x es :=
 ⟨h.n1, h.r1.past (fun y => ⟨_, rfl, .inr ⟨_, rfl⟩⟩) hb (slices_soft p q) hne hs, h.k1, h.n2, h.r2.past (fun y => ⟨_, rfl, .inl ⟨_, _, rfl⟩⟩) hb (slices_soft p q) hne hs, h.k2⟩
def RNewR (w : World) (ms : List (Int × Int)) (u : Value) (w' : World) : Prop := ∃ (x : RtW) (n e : Int), u = .tuple #[x.v, .int .i64 n, .int .i64 e] ∧ Below w.heap.size w w' ∧ (match tokNew begins 0 ms with
 | .error q => n = q.1 ∧ e = q.2
 | .ok es => n = ms.length ∧ e = 0 ∧ RtAt w' x es ∧ TOk es ∧ Fresh w.heap.size x)
theorem refNew_spec (w : World) (A : Option Addr) (C : Nat) (ms : List (Int × Int)) (hr : Rw encPair 2 w A ms) (hl : ms.length ≤ 1000000) : CP 198 #[.slice A ms.length C] w fun e w' => ∃ u, e = .returned u ∧ RNewR w ms u w' := by
 refine vc198_calls A ms.length C w (RNewR w ms) ?_
 intro w1 hw1
 have hb1 : Below w.heap.size w w1 := by subst hw1; exact below_alloc _ _
 have z1 : w1.heap[w.heap.size]? = some (.cells #[(⟨none, 0, 0⟩ : Sl).v, (⟨none, 0, 0⟩ : Sl).v] tRt (0, 0)) := by subst hw1; exact alloc_new _ _
 refine (refBegin_spec w1).mono ?_
 rintro e w2 ⟨x0, rfl, h2, b2, f2⟩
 have z2 := held_on b2 z1
 have hlt2 : w.heap.size < w2.heap.size := (Array.getElem?_eq_some_iff.1 z2).1
 refine ⟨_, _, _, _, _, _, rfl, ?_⟩
 intro w3 hw3
 refine storeP_new [.slice none 0 0, .slice none 0 0] [x0.b.v, x0.m.v] rfl (ones_slices _ _) w3 hw3 ?_
 intro w4 h4 hz4 b4
 have hb14 : Below w.heap.size w w4 := below_then hb1 (below_then b2 b4)
 intro I hI
 have key := climb2 (α := Int × Int × World) ms.length (fun i y => ∃ (x : RtW) (es : List Ent), y.2.2.heap[w2.heap.size]? = some (.cells #[x.b.v, x.m.v] tRt (0, 0)) ∧ y.2.2.heap[w.heap.size]? = some (.cells #[(⟨none, 0, 0⟩ : Sl).v, (⟨none, 0, 0⟩ : Sl).v] tRt (0, 0)) ∧ RtAt y.2.2 x es ∧ TOk es ∧ tokNew begins 0 ms = tokNew es i (ms.drop i) ∧ Below w.heap.size w y.2.2 ∧ Fresh w.heap.size x) (fun i y => I [.int .i64 (i : Int), .int .i64 y.1, .int .i64 y.2.1] y.2.2) (0, 0, w4) ⟨x0, begins, h4, held_on b4 z2, h2.on b4, begins_ok, by rw [List.drop_zero], hb14, f2.mono hb1.size⟩ ?_ ?_
 ·exact key
 ·rintro i hi ih ⟨y4, y3, w5⟩ ⟨x, es, h5, z5, hx5, hok, heq, hB5, f5⟩
  change w5.heap[w2.heap.size]? = _ at h5
  change w5.heap[w.heap.size]? = _ at z5
  change RtAt w5 x es at hx5
  change Below w.heap.size w w5 at hB5
  have hdrop : ms.drop i = ms[i] :: ms.drop (i + 1) := List.drop_eq_getElem_cons hi
  refine hI _ _ _ _ (CondP.yes (by simp; omega) ?_)
  intro w6 hw6
  have b6 : Below w5.heap.size w5 w6 := by subst hw6; exact drew_on w5
  have h6 := held_on b6 h5
  have z6 := held_on b6 z5
  have hx6 := hx5.on b6
  have hB6 : Below w.heap.size w w6 := hB5.trans (b6.mono hB5.size)
  obtain ⟨q, hq, _, hc⟩ := (hr.on hB6) i _ (List.getElem?_eq_getElem hi)
  have c0 := hc 0 _ rfl
  rw [add_zero] at c0
  have hlt6 : w2.heap.size < w6.heap.size := (Array.getElem?_eq_some_iff.1 h6).1
  have rest : ∀ (loc : Nat) (wq : World) (x' : RtW) (n : Int), loc ≠ w2.heap.size → wq.heap[loc]? = some (.cells #[x'.b.v, x'.m.v] tRt (0, 0)) → wq.heap[w2.heap.size]? = some (.cells #[x.b.v, x.m.v] tRt (0, 0)) → wq.heap[w.heap.size]? = some (.cells #[(⟨none, 0, 0⟩ : Sl).v, (⟨none, 0, 0⟩ : Sl).v] tRt (0, 0)) → Below w.heap.size w wq → (match tokAdd es ms[i] with
    | .error n0 => n = n0 ∧ x' = x
    | .ok y => n = 0 ∧ RtAt wq x' (es ++ [y]) ∧ Fresh w.heap.size x') →
    CondP ((n : Int) != 0)
     (∃ g0A : Option Addr, ∃ g0N : Nat, ∃ g0C : Nat, ∃ g1A : Option Addr, ∃ g1N : Nat, ∃ g1C : Nat, (wq.cell? (nb w2) = some (Value.slice g0A g0N g0C) ∧ wq.cell? ((nb w2).add 1) = some (Value.slice g1A g1N g1C) ∧ True) ∧
      StoreP wq (nb w) (fun w10 =>
      ∃ res0A : Option Addr, ∃ res0N : Nat, ∃ res0C : Nat, ∃ res1A : Option Addr, ∃ res1N : Nat, ∃ res1C : Nat, (w10.cell? (nb w) = some (Value.slice res0A res0N res0C) ∧ w10.cell? ((nb w).add 1) = some (Value.slice res1A res1N res1C) ∧ True) ∧
      RNewR w ms (Value.tuple #[Value.agg #[Value.slice res0A res0N res0C, Value.slice res1A res1N res1C], Value.int .i64 (i : Int), Value.int .i64 n]) w10) [Value.slice g0A g0N g0C, Value.slice g1A g1N g1C] 0)
     (∃ g0A : Option Addr, ∃ g0N : Nat, ∃ g0C : Nat, ∃ g1A : Option Addr, ∃ g1N : Nat, ∃ g1C : Nat, (wq.cell? ⟨loc, 0, none⟩ = some (Value.slice g0A g0N g0C) ∧ wq.cell? ((⟨loc, 0, none⟩ : Addr).add 1) = some (Value.slice g1A g1N g1C) ∧ True) ∧
      StoreP wq (nb w2) (fun w11 =>
      Ar .i64 ((i : Int) + 1) (fun n =>
      I [Value.int .i64 n, Value.int .i64 y4, Value.int .i64 y3] w11)) [Value.slice g0A g0N g0C, Value.slice g1A g1N g1C] 0) := by
   intro loc wq x' n hloc hl hb2 hb0 hBq hm
   cases hx : tokAdd es ms[i] with
   | error n0 =>
    rw [hx] at hm
    obtain ⟨rfl, rfl⟩ := hm
    refine CondP.yes (by simpa using tokAdd_err hx) ⟨_, _, _, _, _, _, agg2 hb2, ?_⟩
    refine storeP_cells hb0 [x'.b.v, x'.m.v] rfl (ones_slices _ _) ?_
    intro w10 h10 hs10 hz10 hB10
    refine ⟨_, _, _, _, _, _, agg2 h10, x', _, _, rfl, hB10 _ _ (Nat.le_refl _) hBq, ?_⟩
    rw [heq, hdrop, tokNew, hx]
    exact ⟨rfl, rfl⟩
   | ok y =>
    rw [hx] at hm
    obtain ⟨rfl, hx', fx⟩ := hm
    refine CondP.no rfl ⟨_, _, _, _, _, _, agg2 hl, ?_⟩
    refine storeP_cells hb2 [x'.b.v, x'.m.v] rfl (ones_slices _ _) ?_
    intro w11 h11 hs11 hz11 hB11
    refine Ar.ok64 (by omega) (by omega) (ih (y4, y3, w11) ⟨x', es ++ [y], h11, ?_, hx'.past hb2 (fun j _ hj => hs11 j hj) (Nat.le_of_eq hz11.symm), (tokAdd_ok hok hx).1, ?_, hB11 _ _ (by omega) hBq, fx⟩)
    ·show w11.heap[w.heap.size]? = _
     rw [hs11 _ (by omega)]
     exact hb0
    ·rw [heq, hdrop, tokNew, hx]
  refine ⟨_, _, _, _, _, _, agg2 h6, NilC.mk q hq ⟨by omega, by omega, _, _, ⟨c0, hc 1 _ rfl, trivial⟩, ?_, ?_⟩⟩
  ·refine (refAdd_spec w6 x es hx6 hok ms[i]).mono ?_
   rintro e w7 ⟨u, rfl, x', n, rfl, b7, hp⟩
   refine ⟨_, _, _, _, _, _, n, rfl, ?_⟩
   intro w8 hw8
   refine storeP_new [.slice none 0 0, .slice none 0 0] [x'.b.v, x'.m.v] rfl (ones_slices _ _) w8 hw8 ?_
   intro w9 h9 hz9 b9
   have hz7 := b7.size
   refine rest w7.heap.size w9 x' n (by omega) h9 (held_on b9 (held_on b7 h6)) (held_on b9 (held_on b7 z6)) ((hB6.trans (b7.mono hB6.size)).trans (b9.mono (Nat.le_trans hB6.size hz7))) ?_
   cases hx : tokAdd es ms[i] with
   | error n0 => rw [hx] at hp; exact hp
   | ok y => rw [hx] at hp; exact ⟨hp.1, hp.2.1.on b9, hp.2.2.mono hB6.size⟩
  ·intro w12 hw12
   have b12 : Below w6.heap.size w6 w12 := by subst hw12; exact below_alloc _ _
   have l12 : w12.heap[w6.heap.size]? = some (.cells #[Value.slice none 0 0, Value.slice none 0 0] tRt (0, 0)) := by subst hw12; exact alloc_new _ _
   have hB12 : Below w.heap.size w w12 := hB6.trans (b12.mono hB6.size)
   obtain ⟨q', hq', _, hc'⟩ := (hr.on hB12) i _ (List.getElem?_eq_getElem hi)
   have hqq : q' = q := by rw [hq] at hq'; exact (Option.some.inj hq').symm
   subst hqq
   have c0' := hc' 0 _ rfl
   rw [add_zero] at c0'
   refine ⟨⟨c0', hc' 1 _ rfl, trivial⟩, agg2 (held_on b12 h6), ?_⟩
   refine (refAdd_spec w12 x es (hx6.on b12) hok ms[i]).mono ?_
   rintro e w13 ⟨u, rfl, x', n, rfl, b13, hp⟩
   refine ⟨_, _, _, _, _, _, n, rfl, ?_⟩
   refine storeP_cells (held_on b13 l12) [x'.b.v, x'.m.v] rfl (ones_slices _ _) ?_
   intro w14 h14 hs14 hz14 hB14
   refine rest w6.heap.size w14 x' n (by omega) h14 (by rw [hs14 _ (by omega)]; exact held_on b13 (held_on b12 h6)) (by rw [hs14 _ (by omega)]; exact held_on b13 (held_on b12 z6)) (hB14 _ _ (by omega) (hB12.trans (b13.mono hB12.size))) ?_
   cases hx : tokAdd es ms[i] with
   | error n0 => rw [hx] at hp; exact hp
   | ok y => rw [hx] at hp; exact ⟨hp.1, hp.2.1.past (p := ⟨none, 0, 0⟩) (q := ⟨none, 0, 0⟩) (held_on b13 l12) (fun j _ hj => hs14 j hj) (Nat.le_of_eq hz14.symm), hp.2.2.mono hB12.size⟩
 ·rintro ⟨y4, y3, w5⟩ ⟨x, es, h5, z5, hx5, hok, heq, hB5, f5⟩
  change w5.heap[w2.heap.size]? = _ at h5
  change w5.heap[w.heap.size]? = _ at z5
  refine hI _ _ _ _ (CondP.no (by simp) ⟨_, _, _, _, _, _, agg2 h5, ?_⟩)
  refine storeP_cells z5 [x.b.v, x.m.v] rfl (ones_slices _ _) ?_
  intro w17 h17 hs17 hz17 hB17
  refine ⟨_, _, _, _, _, _, agg2 h17, x, _, _, rfl, hB17 _ _ (Nat.le_refl _) hB5, ?_⟩
  rw [heq, List.drop_length, tokNew]
  exact ⟨rfl, rfl, hx5.past z5 (fun j _ hj => hs17 j hj) (Nat.le_of_eq hz17.symm), hok, f5⟩
end Go.Proofs.YtnmdljikfhafiaaGreat.Eng
